/-
  The law DrawerCut in plain words: a piece with one byte changed is none; a file cut or changed is read up to there. No program in sight. No condition is put on any statement here.
-/
import Derived.Test.YtjnifnlkicajhaaDoorKo
import Derived.Test.YtjnifnlkicajhaaDoorKk
namespace Go.Proofs.YtjnifnlkicajhaaDoor.Jn
open Go Vc Hp Da Pm Dd

theorem xor_inj {a b x : Nat} (h : a ^^^ x = b ^^^ x) : a = b := by
  have h' := congrArg (· ^^^ x) h
  simpa [Nat.xor_assoc] using h'
theorem mul_back {x : Nat} (hx : x < 4294967296) : x * 16777619 % 4294967296 * 899433627 % 4294967296 = x := by
  have e : 16777619 * 899433627 = 1 + 4294967296 * 3513497 := by decide
  rw [Nat.mod_mul_mod, Nat.mul_assoc, e, Nat.mul_add, Nat.mul_one, Nat.mul_left_comm, Nat.add_mul_mod_self_left, Nat.mod_eq_of_lt hx]
theorem mul_inj {x y : Nat} (hx : x < 4294967296) (hy : y < 4294967296) (h : x * 16777619 % 4294967296 = y * 16777619 % 4294967296) : x = y := by
  rw [← mul_back hx, ← mul_back hy, h]
theorem xor_lt {a : Nat} {c : UInt8} (ha : a < 4294967296) : a ^^^ c.toNat < 4294967296 := by
  have hc := c.toNat_lt
  exact Nat.xor_lt_two_pow (n := 32) ha (by omega)
theorem mixB_inj {a b : Nat} {c : UInt8} (ha : a < 4294967296) (hb : b < 4294967296) (h : mixB a c = mixB b c) : a = b := by
  unfold mixB at h
  exact xor_inj (mul_inj (xor_lt ha) (xor_lt hb) h)
theorem mixB_inj' {a : Nat} {c d : UInt8} (ha : a < 4294967296) (h : mixB a c = mixB a d) : c = d := by
  unfold mixB at h
  have h1 := mul_inj (xor_lt ha) (xor_lt ha) h
  rw [Nat.xor_comm a, Nat.xor_comm a] at h1
  exact UInt8.toNat_inj.1 (xor_inj h1)
theorem mixB_lt (a : Nat) (c : UInt8) : mixB a c < 4294967296 := Nat.mod_lt _ (by omega)
theorem foldl_inj : ∀ (l : List UInt8) {a b : Nat}, a < 4294967296 → b < 4294967296 → l.foldl mixB a = l.foldl mixB b → a = b
  | [], _, _, _, _, h => h
  | c :: r, a, b, ha, hb, h => by
    rw [List.foldl_cons, List.foldl_cons] at h
    exact mixB_inj ha hb (foldl_inj r (mixB_lt _ _) (mixB_lt _ _) h)
theorem sum_set : ∀ (l : List UInt8) {i : Nat} {c : UInt8} {a : Nat}, i < l.length → a < 4294967296 → l[i]? ≠ some c → (l.set i c).foldl mixB a ≠ l.foldl mixB a
  | [], _, _, _, hi, _, _ => by cases hi
  | x :: r, 0, c, a, _, ha, hc => by
    rw [List.set_cons_zero, List.foldl_cons, List.foldl_cons]
    intro h
    have h1 := mixB_inj' ha (foldl_inj r (mixB_lt _ _) (mixB_lt _ _) h)
    exact hc (by rw [h1]; rfl)
  | x :: r, i + 1, c, a, hi, _, hc => by
    rw [List.set_cons_succ, List.foldl_cons, List.foldl_cons]
    exact sum_set r (by simpa using hi) (mixB_lt _ _) (by simpa using hc)

theorem four {l : List UInt8} (h : 4 ≤ l.length) : ∃ a b c d t, l = a :: b :: c :: d :: t := by
  match l, h with
  | a :: b :: c :: d :: t, _ => exact ⟨a, b, c, d, t, rfl⟩
theorem un32_same {l l' : List UInt8} (h : 4 ≤ l.length) (h' : 4 ≤ l'.length) (he : ∀ j, j < 4 → l[j]? = l'[j]?) : un32 l = un32 l' := by
  obtain ⟨a, b, c, d, t, rfl⟩ := four h
  obtain ⟨a', b', c', d', t', rfl⟩ := four h'
  have h0 := he 0 (by omega)
  have h1 := he 1 (by omega)
  have h2 := he 2 (by omega)
  have h3 := he 3 (by omega)
  simp only [List.getElem?_cons_zero, List.getElem?_cons_succ, Option.some.injEq] at h0 h1 h2 h3
  rw [h0, h1, h2, h3]
  rfl
theorem un32_ne {n j : Nat} {c : UInt8} {r : List UInt8} (hj : j < 4) (hc : (le32 n)[j]? ≠ some c) : un32 ((le32 n).set j c ++ r) ≠ n := by
  have h0 : (UInt8.ofNat n).toNat = n % 256 := UInt8.toNat_ofNat'
  have h1 : (UInt8.ofNat (n / 256)).toNat = n / 256 % 256 := UInt8.toNat_ofNat'
  have h2 : (UInt8.ofNat (n / 65536)).toNat = n / 65536 % 256 := UInt8.toNat_ofNat'
  have h3 : (UInt8.ofNat (n / 16777216)).toNat = n / 16777216 % 256 := UInt8.toNat_ofNat'
  have hcl := c.toNat_lt
  have key : ∀ x : UInt8, (∃ y, some x = some y ∧ some y ≠ some c) → x.toNat ≠ c.toNat := fun x ⟨y, e, h⟩ e' => h (by rw [← e, UInt8.toNat_inj.1 e'])
  unfold le32 at *
  rcases (by omega : j = 0 ∨ j = 1 ∨ j = 2 ∨ j = 3) with rfl | rfl | rfl | rfl
  · have hk := key (UInt8.ofNat n) ⟨_, rfl, hc⟩
    simp only [List.set_cons_zero, List.cons_append, un32]
    omega
  · have hk := key (UInt8.ofNat (n / 256)) ⟨_, rfl, hc⟩
    simp only [List.set_cons_succ, List.set_cons_zero, List.cons_append, un32]
    omega
  · have hk := key (UInt8.ofNat (n / 65536)) ⟨_, rfl, hc⟩
    simp only [List.set_cons_succ, List.set_cons_zero, List.cons_append, un32]
    omega
  · have hk := key (UInt8.ofNat (n / 16777216)) ⟨_, rfl, hc⟩
    simp only [List.set_cons_succ, List.set_cons_zero, List.cons_append, un32]
    omega

theorem whole_turned {n s m i : Nat} {k c : UInt8} {b r : List UInt8} (hb : b.length ≤ 1048576) (hi : i < b.length + 18) (h9 : i < 9 ∨ 13 ≤ i) (hc : (piece n s k b)[i]? ≠ some c) : whole ((piece n s k b).set i c ++ r) m = none := by
  have hP := piece_len n s k b
  have hH := headOf_len n s k b
  have e9 : un32 (((piece n s k b).set i c ++ r).drop 9) = b.length := by
    have h1 : un32 ((piece n s k b).drop 9) = b.length := by
      have := piece_cons n s k b []
      rw [List.append_nil] at this
      rw [this]
      exact un32_four (by omega) _
    rw [← h1]
    refine un32_same (by simp; omega) (by simp; omega) fun j hj => ?_
    rw [List.getElem?_drop, List.getElem?_drop, List.getElem?_append_left (by simp; omega), List.getElem?_set_ne (by omega)]
  have et : ((piece n s k b).set i c ++ r).take (b.length + 14) = (headOf n s k b).set i c := by
    rw [List.take_append_of_le_length (by simp; omega), List.take_set]
    congr 1
    unfold piece
    exact List.take_left' hH
  have hd : (piece n s k b).drop (b.length + 14) = le32 (sumOf (headOf n s k b)) := by
    unfold piece
    exact List.drop_left' hH
  have ed : ((piece n s k b).set i c ++ r).drop (b.length + 14) = (if i < b.length + 14 then le32 (sumOf (headOf n s k b)) else (le32 (sumOf (headOf n s k b))).set (i - (b.length + 14)) c) ++ r := by
    rw [List.drop_append_of_le_length (by simp; omega), List.drop_set, hd]
  unfold whole
  split
  · rfl
  split
  · rfl
  rw [e9, et, ed]
  rw [if_pos]
  by_cases hlt : i < b.length + 14
  · rw [if_pos hlt, un32_le32 (sumOf_lt _)]
    intro h
    refine sum_set (headOf n s k b) (i := i) (c := c) (by omega) (by omega) (fun e => hc ?_) h.symm
    unfold piece
    rw [List.getElem?_append_left (by omega)]
    exact e
  · rw [if_neg hlt, List.set_eq_of_length_le (l := headOf n s k b) (i := i) (a := c) (by omega)]
    refine un32_ne (by omega) fun e => hc ?_
    unfold piece
    rw [List.getElem?_append_right (by omega), hH]
    exact e
end Go.Proofs.YtjnifnlkicajhaaDoor.Jn
namespace Go.Proofs.YtjnifnlkicajhaaDoor.Kp
open Go Vc Hp Da Pm Dd Jn Kw

theorem change_well {A : PD} {x : ByteArray} {g : List PF → List PF} (h : Well A) (hn : namedB x = true) (hg : (Pm.get A.files x).isNone = false) : (A.change x g).1 = 0 ∧ (A.change x g).2.files = g A.files ∧ Well (A.change x g).2 := by
  have hw := h.change x g
  rcases change_cases (A := A) (x := x) (g := g) hn hg with ⟨h1, h2⟩ | ⟨h1, _⟩
  · exact ⟨h1, h2, hw.2⟩
  · have := hw.1
    omega
/-- the file that stands: pieces, and behind them what is no piece -/
theorem stand_some {sum : Nat} {R : List Rec} {t : List UInt8} {j : JF} (hs : sum < 4294967296) (hR : fits R) (hc : R.length ≤ 16777216) (ht : whole t (1 + R.length) = none)
    (hB : Best (· ∈ (one1 1 (enc sum [] R ++ t) (enc sum [] R ++ t).length (-1) 0 0).files) j) :
    (openP (one1 1 (enc sum [] R ++ t) (enc sum [] R ++ t).length (-1) 0 0) sum j).1 = 0 ∧ j.summary = [] ∧ recsOf (one1 1 (enc sum [] R ++ t) (enc sum [] R ++ t).length (-1) 0 0).files j = R := by
  have hw := whole_enc (S := []) (R := R) hs (Nat.zero_le _) t
  have hj := best_eq (g := 1) hB (f := ⟨nameP 1, enc sum [] R ++ t, (enc sum [] R ++ t).length⟩) (by simp) rfl (Nat.le_refl _) hw (by
    intro f' hf'
    exact .inl (List.mem_singleton.1 hf'))
  have hlen := enc_len sum [] R
  have hge := sizeR_ge R
  have hrec : recsOf (one1 1 (enc sum [] R ++ t) (enc sum [] R ++ t).length (-1) 0 0).files j = R := by
    rw [hj]
    unfold recsOf
    rw [if_neg (by dsimp only; omega), get1]
    dsimp only
    rw [reads_enc hs hR hc t (by rw [List.length_append]; omega), reads_none ht, List.append_nil]
  refine ⟨?_, by rw [hj], hrec⟩
  have hW : Well (one1 1 (enc sum [] R ++ t) (enc sum [] R ++ t).length (-1) 0 0) := ⟨rfl, by show (-1 : Int) < 0; decide, by show (0 : Int) ≤ 0; decide⟩
  have hm : (mendP (one1 1 (enc sum [] R ++ t) (enc sum [] R ++ t).length (-1) 0 0) j (enc sum [] R).length).1 = 0 := by
    have hjg : j.gen = 1 := by rw [hj]
    have hjs : j.sure = (enc sum [] R ++ t).length := by rw [hj]
    have hsure : ∀ B : PD, sureP B j (enc sum [] R).length = (0, B) := fun B => by
      unfold sureP
      rw [if_neg]
      rintro ⟨_, h⟩
      rw [hjs, List.length_append] at h
      omega
    unfold mendP
    rw [hsure]
    unfold cutP
    split
    · have hch := change_well (g := fun l => setf l (nameP j.gen) fun f => { f with data := f.data.take (((enc sum [] R).length : Nat) : Int).toNat, sure := min f.sure (cutTo (((enc sum [] R).length : Nat) : Int) f.data.length) }) hW (nameP_named (g := j.gen) (by rw [hjg]; decide)) (by rw [hjg, get1]; rfl)
      have h1 : ((one1 1 (enc sum [] R ++ t) (enc sum [] R ++ t).length (-1) 0 0).trim (nameP j.gen) (enc sum [] R).length).1 = 0 := hch.1
      have h2 := trim_names (one1 1 (enc sum [] R ++ t) (enc sum [] R ++ t).length (-1) 0 0) (nameP j.gen) (enc sum [] R).length
      rw [if_neg (by rw [h1]; decide)]
      dsimp only
      rw [if_neg (by decide), h2, hjg]
      show (rmP 1 [nameP 1] _).1 = 0
      rw [rm1]
    · dsimp only
      rw [if_neg (by decide), if_neg (by decide), hjg]
      show (rmP 1 [nameP 1] _).1 = 0
      rw [rm1]
  rw [openP_eq (size := (enc sum [] R).length) rfl (by rw [hj]) (by rw [hj]; exact Nat.le_refl _) hrec (by rw [hj, hlen]), if_neg (by rw [hm]; decide)]
theorem lay0 {A : PD} {b : List UInt8} (h : Well A) (hf : A.files = []) (hb : b.length ≤ 2097152) : (layP A (nameP 1) b).1 = 0 := by
  have hn : namedB (nameP 1) = true := nameP_named (by decide)
  have hfi := A.first_files (nameP 1)
  have hw := h.append (nameP 1) b
  have hfc := first_cases (A := A) hn
  have ha : (A.append (nameP 1) b).1 ≠ 194 := by
    unfold PD.append
    split
    · omega
    dsimp only
    rw [hfi, hf, show Pm.get ([] : List PF) (nameP 1) = none from rfl]
    dsimp only
    rw [if_neg (by simp; omega)]
    dsimp only
    split <;> decide
  have hcase := append_cases (A := A) (b := b) hn
  have h0 : (A.append (nameP 1) b).1 = 0 := by
    rcases hcase with ⟨h1, _⟩ | ⟨h1, _⟩
    · have := hw.1; omega
    · have := hw.1; omega
  have hg : (Pm.get (A.append (nameP 1) b).2.files (nameP 1)).isNone = false := by
    rcases hcase with ⟨h1, _⟩ | ⟨_, i, _, h2⟩
    · omega
    · rw [h2, hf]
      simp [Pm.get, ins]
  unfold layP
  rw [if_neg (by rw [h0]; decide)]
  exact (change_well (g := fun l => setf l (nameP 1) fun f => { f with sure := f.data.length }) hw.2 hn hg).1
/-- no piece stands at the file's beginning -/
theorem stand_none {sum : Nat} {X : List UInt8} {j : JF} (hX : whole X 0 = none) (hB : Best (· ∈ (one1 1 X X.length (-1) 0 0).files) j) :
    (openP (one1 1 X X.length (-1) 0 0) sum j).1 = 0 ∧ j.summary = [] ∧ recsOf (one1 1 X X.length (-1) 0 0).files j = [] := by
  have hj : j = JF.none := by
    rcases hB with ⟨h, _⟩ | ⟨_, f, hf, _, ⟨k, hk⟩, _⟩
    · exact h
    · rw [List.mem_singleton.1 hf] at hk
      dsimp only at hk
      rw [hX] at hk
      cases hk
  subst hj
  have hW : Well (one1 1 X X.length (-1) 0 0) := ⟨rfl, by show (-1 : Int) < 0; decide, by show (0 : Int) ≤ 0; decide⟩
  refine ⟨?_, rfl, rfl⟩
  have hch := change_well (g := fun l => rem l (nameP 1)) hW (nameP_named (g := 1) (by decide)) (by rw [get1]; rfl)
  have h1 : ((one1 1 X X.length (-1) 0 0).remove (nameP 1)).1 = 0 := hch.1
  have h2 : ((one1 1 X X.length (-1) 0 0).remove (nameP 1)).2.files = [] := by
    have : ((one1 1 X X.length (-1) 0 0).remove (nameP 1)).2.files = rem [(⟨nameP 1, X, X.length⟩ : PF)] (nameP 1) := hch.2.1
    rw [this]
    simp [rem]
  have hm : mendP (one1 1 X X.length (-1) 0 0) JF.none (JF.none.size + sizeR (recsOf (one1 1 X X.length (-1) 0 0).files JF.none)) = (0, ((one1 1 X X.length (-1) 0 0).remove (nameP 1)).2) := by
    unfold mendP cutP sureP
    rw [if_neg (show ¬ (1 ≤ JF.none.gen ∧ _) from fun h => absurd h.1 (by decide))]
    dsimp only
    rw [if_neg (by decide), if_neg (show ¬ (1 ≤ JF.none.gen ∧ _) from fun h => absurd h.1 (by decide))]
    dsimp only
    rw [if_neg (by decide)]
    show rmP 0 [nameP 1] _ = _
    unfold rmP
    rw [if_neg (fun h => nne (g := 0) h.symm), if_neg (by rw [h1]; decide)]
    rfl
  have hl := lay0 (b := piece 0 sum 0 []) hch.2.2 h2 (by rw [piece_len]; decide)
  unfold openP
  rw [if_neg (by exact Bool.false_ne_true), if_neg (by rintro ⟨h, _⟩; exact absurd h (by decide)), hm]
  dsimp only
  rw [if_neg (by decide), if_pos (by rfl)]
  exact hl
end Go.Proofs.YtjnifnlkicajhaaDoor.Kp
