/-
  The law's one call of both disks, whole. No condition is put on any statement here.
-/
import Derived.Test.YtjnifnlkicajhaaLm
namespace Go.Proofs.Ytjnifnlkicajhaa.La
open Go Vc Hp Fs Da Pm Dd Rd
set_option maxRecDepth 4000
theorem pair_disk_spec {w : World} {c : Col} {pb d m b : Nat} {L : List FE} {z : Sl} {gl : List (AF × Sl)} {A : PD} {x0 x1 x2 : Int} {x3 : Bool} {x4 : ByteArray} {x5 x6 : Sl} {x7 : Int} {Q : Bool → World → Prop} {data : List UInt8} {keep : List Int}
    (S : St w c pb d m L b z gl A) (hn : x4.size < 9223372036854775807) (hx : Src w c 0 1 x5 (data.map u8)) (hxc : x5.len ≤ x5.cap) (hxl : data.length ≤ 1073741824) (hk : Src w c 0 1 x6 (keep.map (Value.int .i64))) (hkl : keep.length ≤ 1073741824)
    (h1 : -maxI - 1 ≤ x1) (h1' : x1 ≤ maxI) (h2 : -maxI - 1 ≤ x2) (h2' : x2 ≤ maxI)
    (H : ∀ w' c' L' z' gl' A', St w' c' pb d m L' b z' gl' A' → Eff own w c w' c' → Q true w') : levylaw19_pair_disk (some ⟨pb, 0, none⟩) x0 x1 x2 x3 x4 x5 x6 x7 Q w := by
  unfold levylaw19_pair_disk
  refine al_own (c := c) 6 fun b3 w1 c1 o1 ch1 ex1 hb1 => ?_
  have S1 := S.new ch1 ex1
  have k5 := hx.chg ch1 ex1 (fun _ _ => id)
  have k6 := hk.chg ch1 ex1 (fun _ _ => id)
  have E1 : Eff own w c w1 c1 := (Eff.refl _ _ _).new ch1 ex1
  have H1 : ∀ w' c' L' z' gl' A', St w' c' pb d m L' b z' gl' A' → Eff own w1 c1 w' c' → Q true w' := fun w' c' L' z' gl' A' hS hE => H w' c' L' z' gl' A' hS (E1.trans hE)
  refine ld_own (x := x0) o1 rfl ?_
  by_cases q1 : (x0 == 1) = true
  · rw [if_pos q1]; exact pd_append S1 o1 hn k5 hxc hxl H1
  rw [if_neg q1]
  by_cases q2 : (x0 == 2) = true
  · rw [if_pos q2]; exact pd_sync S1 o1 hn H1
  rw [if_neg q2]
  by_cases q3 : (x0 == 3) = true
  · rw [if_pos q3]; exact pd_trim S1 o1 hn H1
  rw [if_neg q3]
  by_cases q4 : (x0 == 4) = true
  · rw [if_pos q4]; exact pd_remove S1 o1 hn H1
  rw [if_neg q4]
  by_cases q5 : (x0 == 5) = true
  · rw [if_pos q5]; exact pd_read S1 o1 hn H1
  rw [if_neg q5]
  by_cases q6 : (x0 == 6) = true
  · rw [if_pos q6]; exact pd_arm S1 o1 h1 h1' H1
  rw [if_neg q6]
  by_cases q7 : (x0 == 7) = true
  · rw [if_pos q7]; exact pd_fail S1 o1 h1 h1' h2 h2' H1
  rw [if_neg q7]
  by_cases q8 : (x0 == 8) = true
  · rw [if_pos q8]; exact pd_crash S1 o1 H1
  rw [if_neg q8]
  by_cases q9 : (x0 == 9) = true
  · rw [if_pos q9]; exact pd_restart S1 o1 k6 hkl H1
  rw [if_neg q9]
  by_cases q10 : (x0 == 10) = true
  · rw [if_pos q10]; exact pd_files S1 o1 H1
  rw [if_neg q10]
  unfold levylaw19_pair_disk.k3
  exact H1 w1 c1 _ _ _ _ S1 (Eff.refl _ _ _)
end Go.Proofs.Ytjnifnlkicajhaa.La
