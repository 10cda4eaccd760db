/-
  The journal's bytes, in plain words: pieces, their sums, what is read of them. No program in sight. No condition is put on any statement here.
-/
import Derived.Test.YtjnifnlkicajhaaDoorPm
namespace Go.Proofs.YtjnifnlkicajhaaDoor.Jn
open Go Vc Hp Da Pm

def le32 (n : Nat) : List UInt8 := [UInt8.ofNat n, UInt8.ofNat (n / 256), UInt8.ofNat (n / 65536), UInt8.ofNat (n / 16777216)]
def un32 : List UInt8 → Nat
  | a :: b :: c :: d :: _ => a.toNat + 256 * b.toNat + 65536 * c.toNat + 16777216 * d.toNat
  | _ => 0
theorem un32_le32 {n : Nat} (h : n < 4294967296) (r : List UInt8) : un32 (le32 n ++ r) = n := by
  simp only [le32, un32, List.cons_append, UInt8.toNat_ofNat']
  omega
theorem un32_lt (b : List UInt8) : un32 b < 4294967296 := by
  unfold un32
  split
  · rename_i a b c d r
    have := a.toNat_lt
    have := b.toNat_lt
    have := c.toNat_lt
    have := d.toNat_lt
    omega
  · omega
def mixB (acc : Nat) (c : UInt8) : Nat := (acc ^^^ c.toNat) * 16777619 % 4294967296
def sumOf (b : List UInt8) : Nat := b.foldl mixB 2166136261
theorem foldl_lt : ∀ (b : List UInt8) (a : Nat), a < 4294967296 → b.foldl mixB a < 4294967296
  | [], _, h => h
  | c :: r, a, _ => foldl_lt r _ (Nat.mod_lt _ (by omega))
theorem sumOf_lt (b : List UInt8) : sumOf b < 4294967296 := foldl_lt b _ (by omega)

def headOf (number sum : Nat) (kind : UInt8) (body : List UInt8) : List UInt8 := 82 :: (le32 number ++ (le32 sum ++ (le32 body.length ++ (kind :: body))))
def piece (number sum : Nat) (kind : UInt8) (body : List UInt8) : List UInt8 := headOf number sum kind body ++ le32 (sumOf (headOf number sum kind body))
theorem headOf_len (n s : Nat) (k : UInt8) (b : List UInt8) : (headOf n s k b).length = b.length + 14 := by simp [headOf, le32]
theorem piece_len (n s : Nat) (k : UInt8) (b : List UInt8) : (piece n s k b).length = b.length + 18 := by simp [piece, headOf_len, le32]

/-- does a piece of that number stand at the beginning: its sum, kind, body; it is 18 bytes longer than its body -/
def whole (b : List UInt8) (number : Nat) : Option (Nat × UInt8 × List UInt8) :=
  if b.length < 18 ∨ b.getD 0 0 ≠ 82 ∨ un32 (b.drop 1) ≠ number then none else
  if 1048576 < un32 (b.drop 9) ∨ b.length < un32 (b.drop 9) + 18 ∨ (number = 0 ∧ b.getD 13 0 ≠ 0) then none else
  if un32 (b.drop (un32 (b.drop 9) + 14)) ≠ sumOf (b.take (un32 (b.drop 9) + 14)) then none else
  some (un32 (b.drop 5), b.getD 13 0, (b.drop 14).take (un32 (b.drop 9)))

theorem piece_cons (n s : Nat) (k : UInt8) (b r : List UInt8) : piece n s k b ++ r =
    82 :: UInt8.ofNat n :: UInt8.ofNat (n / 256) :: UInt8.ofNat (n / 65536) :: UInt8.ofNat (n / 16777216) ::
    UInt8.ofNat s :: UInt8.ofNat (s / 256) :: UInt8.ofNat (s / 65536) :: UInt8.ofNat (s / 16777216) ::
    UInt8.ofNat b.length :: UInt8.ofNat (b.length / 256) :: UInt8.ofNat (b.length / 65536) :: UInt8.ofNat (b.length / 16777216) ::
    k :: (b ++ (le32 (sumOf (headOf n s k b)) ++ r)) := by
  simp [piece, headOf, le32]
theorem un32_four {n : Nat} (h : n < 4294967296) (r : List UInt8) : un32 (UInt8.ofNat n :: UInt8.ofNat (n / 256) :: UInt8.ofNat (n / 65536) :: UInt8.ofNat (n / 16777216) :: r) = n := un32_le32 h r

theorem whole_piece {n s : Nat} {k : UInt8} {b : List UInt8} (hn : n < 4294967296) (hs : s < 4294967296) (hb : b.length ≤ 1048576) (h0 : n = 0 → k = 0) (r : List UInt8) :
    whole (piece n s k b ++ r) n = some (s, k, b) := by
  have hlen : (piece n s k b ++ r).length = b.length + 18 + r.length := by rw [List.length_append, piece_len]
  have e1 : un32 ((piece n s k b ++ r).drop 1) = n := by rw [piece_cons]; exact un32_four hn _
  have e5 : un32 ((piece n s k b ++ r).drop 5) = s := by rw [piece_cons]; exact un32_four hs _
  have e9 : un32 ((piece n s k b ++ r).drop 9) = b.length := by rw [piece_cons]; exact un32_four (by omega) _
  have e0 : (piece n s k b ++ r).getD 0 0 = 82 := by rw [piece_cons]; rfl
  have e13 : (piece n s k b ++ r).getD 13 0 = k := by rw [piece_cons]; rfl
  have e14 : (piece n s k b ++ r).drop 14 = b ++ (le32 (sumOf (headOf n s k b)) ++ r) := by rw [piece_cons]; rfl
  have et : (piece n s k b ++ r).take (b.length + 14) = headOf n s k b := by
    unfold piece
    rw [List.append_assoc]
    exact List.take_left' (headOf_len n s k b)
  have ed : (piece n s k b ++ r).drop (b.length + 14) = le32 (sumOf (headOf n s k b)) ++ r := by
    unfold piece
    rw [List.append_assoc]
    exact List.drop_left' (headOf_len n s k b)
  unfold whole
  rw [e1, e9, e0, e13, e5, e14, et, ed, un32_le32 (sumOf_lt _), hlen]
  rw [if_neg (by simp; omega), if_neg (by rintro (h | h | ⟨h, h'⟩); omega; omega; exact h' (h0 h)), if_neg (by simp)]
  simp
theorem whole_short {b : List UInt8} {m : Nat} (h : b.length < 18) : whole b m = none := by
  unfold whole
  rw [if_pos (.inl h)]
theorem take_take_drop (l : List UInt8) (i j : Nat) (h : j + 4 ≤ i) : un32 ((l.take i).drop j) = un32 (l.drop j) := by
  rw [List.drop_take]
  have h4 : 4 ≤ i - j := by omega
  generalize l.drop j = q
  obtain ⟨m, hm⟩ : ∃ m, i - j = m + 4 := ⟨i - j - 4, by omega⟩
  rw [hm]
  match q with
  | [] => rfl
  | [a] => simp [un32]
  | [a, b] => simp [un32]
  | [a, b, c] => simp [un32]
  | a :: b :: c :: d :: r => simp [un32]
theorem whole_cut {n s : Nat} {k : UInt8} {b : List UInt8} (hb : b.length ≤ 1048576) {i m : Nat} (hi : i < b.length + 18) : whole ((piece n s k b).take i) m = none := by
  by_cases h18 : i < 18
  · exact whole_short (by rw [List.length_take]; omega)
  have e9 : un32 (((piece n s k b).take i).drop 9) = b.length := by
    rw [take_take_drop _ _ _ (by omega)]
    have := piece_cons n s k b []
    rw [List.append_nil] at this
    rw [this]
    exact un32_four (by omega) _
  have hl : ((piece n s k b).take i).length = i := by rw [List.length_take, piece_len]; omega
  unfold whole
  split
  · rfl
  rw [e9, hl, if_pos (.inr (.inl hi))]
theorem whole_some {b : List UInt8} {m s : Nat} {k : UInt8} {bd : List UInt8} (h : whole b m = some (s, k, bd)) : bd.length + 18 ≤ b.length ∧ bd.length ≤ 1048576 ∧ s < 4294967296 := by
  unfold whole at h
  split at h
  · cases h
  split at h
  · cases h
  split at h
  · cases h
  rename_i h1 h2 h3
  simp only [Option.some.injEq, Prod.mk.injEq] at h
  obtain ⟨rfl, _, rfl⟩ := h
  rw [List.length_take, List.length_drop]
  exact ⟨by omega, by omega, un32_lt _⟩

/-! ### a journal's file -/
structure Rec where
  kind : UInt8
  body : List UInt8
def sizeR (l : List Rec) : Nat := (l.map fun r => r.body.length + 18).sum
def pieces (sum : Nat) : Nat → List Rec → List UInt8
  | _, [] => []
  | n, r :: l => piece n sum r.kind r.body ++ pieces sum (n + 1) l
def enc (sum : Nat) (S : List UInt8) (R : List Rec) : List UInt8 := piece 0 sum 0 S ++ pieces sum 1 R
theorem sizeR_cons (r : Rec) (l : List Rec) : sizeR (r :: l) = r.body.length + 18 + sizeR l := by simp [sizeR]
theorem sizeR_append (l l' : List Rec) : sizeR (l ++ l') = sizeR l + sizeR l' := by simp [sizeR]
theorem pieces_len (sum : Nat) : ∀ (n : Nat) (l : List Rec), (pieces sum n l).length = sizeR l
  | _, [] => rfl
  | n, r :: l => by rw [pieces, List.length_append, piece_len, pieces_len sum (n + 1) l, sizeR_cons]
theorem pieces_append (sum : Nat) : ∀ (n : Nat) (l l' : List Rec), pieces sum n (l ++ l') = pieces sum n l ++ pieces sum (n + l.length) l'
  | n, [], l' => rfl
  | n, r :: l, l' => by
    rw [List.cons_append, pieces, pieces, pieces_append sum (n + 1) l l', List.append_assoc, List.length_cons, show n + 1 + l.length = n + (l.length + 1) by omega]
theorem enc_len (sum : Nat) (S : List UInt8) (R : List Rec) : (enc sum S R).length = S.length + 18 + sizeR R := by rw [enc, List.length_append, piece_len, pieces_len]
theorem enc_snoc (sum : Nat) (S : List UInt8) (R : List Rec) (r : Rec) : enc sum S (R ++ [r]) = enc sum S R ++ piece (R.length + 1) sum r.kind r.body := by
  unfold enc
  rw [pieces_append, List.append_assoc, Nat.add_comm 1]
  simp [pieces]
theorem sizeR_ge (l : List Rec) : l.length * 18 ≤ sizeR l := by
  induction l with
  | nil => simp [sizeR]
  | cons r l ih => rw [sizeR_cons, List.length_cons]; omega

/-- the records that are read, piece by piece -/
def reads (sum : Nat) : Nat → List UInt8 → Nat → List Rec
  | 0, _, _ => []
  | f + 1, b, n => match whole b n with
    | some (s, k, bd) => if s = sum then ⟨k, bd⟩ :: reads sum f (b.drop (bd.length + 18)) (n + 1) else []
    | none => []
def fits (l : List Rec) : Prop := ∀ r ∈ l, r.body.length ≤ 1048576
theorem reads_pieces {sum : Nat} (hs : sum < 4294967296) (t : List UInt8) : ∀ (R : List Rec) (f n : Nat), fits R → 1 ≤ n → n + R.length < 4294967296 →
    reads sum (f + R.length) (pieces sum n R ++ t) n = R ++ reads sum f t (n + R.length)
  | [], f, n, _, _, _ => rfl
  | r :: R, f, n, hR, h1, hn => by
    rw [List.length_cons] at hn ⊢
    rw [show f + (R.length + 1) = (f + R.length) + 1 by omega, reads, pieces, List.append_assoc, whole_piece (by omega) hs (hR r (by simp)) (by omega)]
    simp only [if_true, List.cons_append]
    rw [List.drop_left' (piece_len _ _ _ _), reads_pieces hs t R f (n + 1) (fun r hr => hR r (by simp [hr])) (by omega) (by omega), show n + 1 + R.length = n + (R.length + 1) by omega]
theorem reads_none {sum f n : Nat} {b : List UInt8} (h : whole b n = none) : reads sum f b n = [] := by
  cases f with
  | zero => rfl
  | succ f => rw [reads, h]
/-- a torn end: it is there whole, or not at all -/
theorem reads_torn {sum : Nat} (hs : sum < 4294967296) {r : Rec} (hr : r.body.length ≤ 1048576) {n f i : Nat} (hn : n < 4294967296) (h1 : 1 ≤ n) (hf : 2 ≤ f) :
    reads sum f ((piece n sum r.kind r.body).take i) n = if r.body.length + 18 ≤ i then [r] else [] := by
  split
  · rename_i h
    rw [List.take_of_length_le (by rw [piece_len]; exact h)]
    obtain ⟨g, rfl⟩ : ∃ g, f = g + 1 := ⟨f - 1, by omega⟩
    have h2 := whole_piece (r := []) hn hs hr (fun e => absurd e (by omega)) (k := r.kind)
    rw [List.append_nil] at h2
    rw [reads, h2]
    simp only [if_true]
    rw [List.drop_of_length_le (by rw [piece_len]; exact Nat.le_refl _), reads_none (whole_short (by simp))]
  · rename_i h
    exact reads_none (whole_cut hr (by omega))
end Go.Proofs.YtjnifnlkicajhaaDoor.Jn
