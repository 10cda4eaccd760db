/-
  The program's disk in memory, and what its small functions do to it. No condition is put on any statement here.
-/
import Derived.Test.YtjnifnlkicajhaaDoorHm
import Derived.Test.YtjnifnlkicajhaaDoorG4
namespace Go.Proofs.YtjnifnlkicajhaaDoor.Da
open Go Vc Hp Fs

abbrev u8 (b : UInt8) : Value := .int .u8 (b.toNat : Int)
def okc (b : UInt8) : Bool := decide ((97 ≤ b.toNat ∧ b.toNat ≤ 122) ∨ (48 ≤ b.toNat ∧ b.toNat ≤ 57) ∨ b.toNat = 45)
def namedB (x : ByteArray) : Bool := decide (1 ≤ x.size ∧ x.size ≤ 12) && x.data.toList.all okc

theorem byteAt_nat (x : ByteArray) (i : Nat) (h : i < x.size) : byteAt x (i : Int) = ((x.data.toList[i]'(by simpa using h)).toNat : Int) := by
  have h' : i < x.data.size := h
  have e : x.data.getD i 0 = x.data[i] := by rw [Array.getD_eq_getD_getElem?, Array.getElem?_eq_getElem h']; rfl
  simp only [byteAt, Int.toNat_natCast, e]
  rfl

theorem take_all (l : List UInt8) (i : Nat) (h : i < l.length) : (l.take (i + 1)).all okc = ((l.take i).all okc && okc l[i]) := by
  rw [List.take_succ_eq_append_getElem h, List.all_append]; simp

theorem wrap_small {i : Int} (h0 : -9223372036854775808 ≤ i) (h1 : i ≤ 9223372036854775807) : IntKind.i64.wrap i = i := by
  rw [IntKind.wrap_i64]; omega

theorem named_spec {x : ByteArray} {Q : Bool → World → Prop} {w : World} (h : Q (namedB x) w) : drawer_named x Q w := by
  have key : ∀ b, b = decide (x.size < 1 ∨ 12 < x.size) → drawer_named.k1 x b Q w := by
    intro b hb
    unfold drawer_named.k1
    cases b with
    | true =>
      have hb' : x.size < 1 ∨ 12 < x.size := by simpa using hb.symm
      have : namedB x = false := by
        unfold namedB
        rw [Bool.and_eq_false_iff]
        left
        rw [decide_eq_false_iff_not]; omega
      rw [this] at h
      simpa using h
    | false =>
      have hb' : ¬ (x.size < 1 ∨ 12 < x.size) := by simpa using hb.symm
      simp only [Bool.false_eq_true, if_false]
      refine Fix.intro (fun (z : Int) v => v = w ∧ ∃ i : Nat, z = i ∧ i ≤ x.size ∧ (x.data.toList.take i).all okc = true) (fun z _ => (x.size - z.toNat)) ?_ ⟨rfl, 0, rfl, Nat.zero_le _, by simp⟩
      rintro z v K ⟨rfl, i, rfl, hi, hall⟩ hK
      unfold drawer_named.l5
      by_cases hlt : i < x.size
      · have hd : decide ((i : Int) < ((ByteArray.size x : Nat) : Int)) = true := by simpa using hlt
        rw [if_pos hd]
        refine ⟨by omega, by omega, ?_⟩
        rw [byteAt_nat x i hlt]
        have hl : i < x.data.toList.length := by simpa using hlt
        have hta := take_all x.data.toList i hl
        have k9 : ∀ y, y = !(okc x.data.toList[i]) → drawer_named.k9 x i K y Q v := by
          intro y hy
          unfold drawer_named.k9
          cases hk : okc x.data.toList[i] with
          | true =>
            rw [hk] at hy
            simp only [hy, Bool.not_true, Bool.false_eq_true, if_false]
            rw [wrap_small (by omega) (by omega)]
            refine hK _ _ ⟨rfl, i + 1, by simp, by omega, by rw [hta, hall, hk]; rfl⟩ (by omega)
          | false =>
            rw [hk] at hy
            simp only [hy, Bool.not_false, if_true]
            have : namedB x = false := by
              unfold namedB
              rw [Bool.and_eq_false_iff]
              right
              rw [List.all_eq_false]
              exact ⟨_, List.getElem_mem hl, by rw [hk]; exact Bool.false_ne_true⟩
            rw [this] at h
            exact h
        generalize hb : x.data.toList[i] = b at *
        have hz : b.toNat < 256 := b.toNat_lt
        have kT : (97 ≤ b.toNat ∧ b.toNat ≤ 122) ∨ (48 ≤ b.toNat ∧ b.toNat ≤ 57) → drawer_named.k9 x i K (!true) Q v := fun hp => k9 _ (by
          congr 1; symm; unfold okc; rw [decide_eq_true_eq]; omega)
        have kF : ¬ ((97 ≤ b.toNat ∧ b.toNat ≤ 122) ∨ (48 ≤ b.toNat ∧ b.toNat ≤ 57)) → drawer_named.k9 x i K (!((b.toNat : Int) == 45)) Q v := fun hp => k9 _ (by
          congr 1; unfold okc; rw [Bool.eq_iff_iff, beq_iff_eq, decide_eq_true_eq]; omega)
        simp only [decide_eq_true_eq, ge_iff_le]
        repeat' split
        all_goals first
          | exact kT (by omega)
          | exact kF (by omega)
      · have hd : ¬ (decide ((i : Int) < ((ByteArray.size x : Nat) : Int)) = true) := by simpa using hlt
        rw [if_neg hd]
        have hi' : i = x.size := by omega
        have : namedB x = true := by
          unfold namedB
          rw [Bool.and_eq_true]
          refine ⟨by rw [decide_eq_true_eq]; omega, ?_⟩
          rw [hi', List.take_of_length_le (by simp)] at hall
          exact hall
        rw [this] at h
        exact h
  unfold drawer_named
  split
  · rename_i h1
    rw [decide_eq_true_eq] at h1
    exact key true (by symm; rw [decide_eq_true_eq]; omega)
  · rename_i h1
    rw [decide_eq_true_eq] at h1
    refine key _ ?_
    rw [Bool.eq_iff_iff, decide_eq_true_eq, decide_eq_true_eq]
    omega
end Go.Proofs.YtjnifnlkicajhaaDoor.Da
