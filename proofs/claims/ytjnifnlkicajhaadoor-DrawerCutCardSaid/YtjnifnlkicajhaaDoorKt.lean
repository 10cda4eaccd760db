/-
  The law DrawerCut in plain words: where the cut falls. No program in sight. No condition is put on any statement here.
-/
import Derived.Test.YtjnifnlkicajhaaDoorKs
namespace Go.Proofs.YtjnifnlkicajhaaDoor.Kp
open Go Vc Hp Da Pm Dd Jn Kw

/-- where the records end -/
def endsOf (R : List Rec) : List Int := (List.range R.length).map fun j => ((18 + sizeR (R.take (j + 1)) : Nat) : Int)
theorem endsOf_len (R : List Rec) : (endsOf R).length = R.length := by simp [endsOf]
theorem endsOf_at {R : List Rec} {j : Nat} (h : j < R.length) : (endsOf R)[j]? = some ((18 + sizeR (R.take (j + 1)) : Nat) : Int) := by
  unfold endsOf
  rw [List.getElem?_map, List.getElem?_range h]
  rfl
theorem endsOf_snoc (R : List Rec) (r : Rec) : endsOf (R ++ [r]) = endsOf R ++ [((18 + sizeR R + (18 + r.body.length) : Nat) : Int)] := by
  unfold endsOf
  rw [List.length_append, List.length_singleton, List.range_succ, List.map_append]
  congr 1
  · refine List.map_congr_left fun j hj => ?_
    rw [List.take_append_of_le_length (by have := List.mem_range.1 hj; omega)]
  · simp only [List.map_cons, List.map_nil]
    rw [show (R ++ [r]).take (R.length + 1) = R ++ [r] from List.take_of_length_le (by simp), sizeR_append, sizeR_cons]
    simp [sizeR]
    omega

/-- what the search for the cut finds -/
structure CutAt (R : List Rec) (k n : Nat) : Prop where
  lt : k < 18 + sizeR R
  le : n ≤ R.length
  lo : ∀ j, j < n → 18 + sizeR (R.take (j + 1)) ≤ k
  hi : n < R.length → k < 18 + sizeR (R.take (n + 1))
def startOf (R : List Rec) (k n : Nat) : Nat := if k < 18 then 0 else 18 + sizeR (R.take n)

theorem take_size_le (R : List Rec) (n : Nat) : sizeR (R.take n) ≤ sizeR R := by
  have := congrArg sizeR (List.take_append_drop n R)
  rw [sizeR_append] at this
  omega
theorem CutAt.few {R k n} (h : CutAt R k n) (hk : k < 18) : n = 0 := by
  rcases Nat.eq_zero_or_pos n with h0 | h0
  · exact h0
  · have := h.lo 0 h0
    omega
theorem CutAt.mid {R k n} (h : CutAt R k n) (hk : 18 ≤ k) : ∃ r rest, R = R.take n ++ r :: rest ∧ n < R.length ∧ 18 + sizeR (R.take n) ≤ k ∧ k < 18 + sizeR (R.take n) + (r.body.length + 18) := by
  have hlo : 18 + sizeR (R.take n) ≤ k := by
    cases n with
    | zero => simpa [sizeR] using hk
    | succ m => exact h.lo m (Nat.lt_succ_self m)
  have hn : n < R.length := by
    rcases Nat.lt_or_ge n R.length with h1 | h1
    · exact h1
    · rw [List.take_of_length_le h1] at hlo
      have := h.lt
      omega
  refine ⟨R[n], R.drop (n + 1), ?_, hn, hlo, ?_⟩
  · rw [← List.drop_eq_getElem_cons hn, List.take_append_drop]
  · have h1 := h.hi hn
    rw [List.take_add_one, List.getElem?_eq_getElem hn, sizeR_append] at h1
    simp [sizeR] at h1 ⊢
    omega
theorem enc_mid {sum : Nat} {R Rn rest : List Rec} {r : Rec} (h : R = Rn ++ r :: rest) : enc sum [] R = enc sum [] Rn ++ (piece (1 + Rn.length) sum r.kind r.body ++ pieces sum (1 + Rn.length + 1) rest) := by
  rw [h]
  unfold enc
  rw [pieces_append, pieces, List.append_assoc]
/-- the answer of Open over the file X -/
def Stands (sum : Nat) (X : List UInt8) (R' : List Rec) : Prop := ∀ j, Best (· ∈ (one1 1 X X.length (-1) 0 0).files) j → (openP (one1 1 X X.length (-1) 0 0) sum j).1 = 0 ∧ j.summary = [] ∧ recsOf (one1 1 X X.length (-1) 0 0).files j = R'

theorem stands_cut {sum : Nat} {R : List Rec} {k n : Nat} (hs : sum < 4294967296) (hR : fits R) (hc : R.length ≤ 16777216) (h : CutAt R k n) : Stands sum ((enc sum [] R).take k) (if k < 18 then [] else R.take n) := by
  by_cases hk : k < 18
  · rw [if_pos hk]
    intro j hj
    refine stand_none ?_ hj
    have : (enc sum [] R).take k = (piece 0 sum 0 []).take k := by
      unfold enc
      rw [List.take_append_of_le_length (by rw [piece_len]; simp; omega)]
    rw [this]
    exact whole_cut (by simp) (by simpa using hk)
  · rw [if_neg hk]
    obtain ⟨r, rest, he, hn, hlo, hhi⟩ := h.mid (by omega)
    have hL := enc_len sum [] (R.take n)
    simp only [List.length_nil, Nat.zero_add] at hL
    have hX : (enc sum [] R).take k = enc sum [] (R.take n) ++ (piece (1 + (R.take n).length) sum r.kind r.body).take (k - (enc sum [] (R.take n)).length) := by
      rw [enc_mid he, List.take_append, List.take_of_length_le (by omega), List.take_append_of_le_length (by rw [piece_len]; omega)]
    have hr : r.body.length ≤ 1048576 := hR r (by rw [he]; simp)
    rw [hX]
    intro j hj
    exact stand_some hs (fun r hr => hR r (List.mem_of_mem_take hr)) (by rw [List.length_take]; omega) (whole_cut hr (by omega)) hj

theorem stands_turned {sum : Nat} {R : List Rec} {k n : Nat} {c : UInt8} (hs : sum < 4294967296) (hR : fits R) (hc : R.length ≤ 16777216) (h : CutAt R k n) (h9 : ¬ (startOf R k n + 9 ≤ k ∧ k < startOf R k n + 13)) (hne : (enc sum [] R)[k]? ≠ some c) :
    Stands sum ((enc sum [] R).set k c) (if k < 18 then [] else R.take n) := by
  unfold startOf at h9
  by_cases hk : k < 18
  · rw [if_pos hk] at h9 ⊢
    intro j hj
    refine stand_none ?_ hj
    have hp := piece_len 0 sum 0 []
    simp only [List.length_nil] at hp
    have : (enc sum [] R).set k c = (piece 0 sum 0 []).set k c ++ pieces sum 1 R := by
      unfold enc
      rw [List.set_append, if_pos (by omega)]
    rw [this]
    refine whole_turned (by simp) (by simpa using hk) (by omega) fun e => hne ?_
    unfold enc
    rw [List.getElem?_append_left (by omega)]
    exact e
  · rw [if_neg hk] at h9 ⊢
    obtain ⟨r, rest, he, hn, hlo, hhi⟩ := h.mid (by omega)
    have hL := enc_len sum [] (R.take n)
    simp only [List.length_nil, Nat.zero_add] at hL
    have hp := piece_len (1 + (R.take n).length) sum r.kind r.body
    have hX : (enc sum [] R).set k c = enc sum [] (R.take n) ++ ((piece (1 + (R.take n).length) sum r.kind r.body).set (k - (enc sum [] (R.take n)).length) c ++ pieces sum (1 + (R.take n).length + 1) rest) := by
      rw [enc_mid he, List.set_append, if_neg (by omega), List.set_append, if_pos (by omega)]
    have hr : r.body.length ≤ 1048576 := hR r (by rw [he]; simp)
    rw [hX]
    intro j hj
    refine stand_some hs (fun r hr => hR r (List.mem_of_mem_take hr)) (by rw [List.length_take]; omega) (whole_turned hr (by omega) (by omega) fun e => hne ?_) hj
    rw [enc_mid he, List.getElem?_append_right (by omega), List.getElem?_append_left (by omega)]
    exact e
end Go.Proofs.YtjnifnlkicajhaaDoor.Kp
