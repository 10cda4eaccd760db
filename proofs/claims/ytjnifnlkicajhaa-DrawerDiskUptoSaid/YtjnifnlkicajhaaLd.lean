/-
  The room of the law's lists: the marks hold. No condition is put on any statement here.
-/
import Derived.Test.YtjnifnlkicajhaaLc
namespace Go.Proofs.Ytjnifnlkicajhaa.La
open Go Vc Hp Fs Da Pm Dd Rd
set_option maxRecDepth 4000

theorem marks_at {α : Type} (a b : α) : ∀ (n k : Nat), k < 2 * n → (List.replicate n [a, b]).flatten[k]? = some (if k % 2 = 0 then a else b)
  | 0, k, h => by omega
  | n + 1, k, h => by
    rw [List.replicate_succ, List.flatten_cons]
    rcases k with _ | _ | k
    · rfl
    · rfl
    · have := marks_at a b n k (by omega)
      rw [List.getElem?_append_right (by simp)]
      simp only [List.length_cons, List.length_nil]
      rw [show k + 1 + 1 - (0 + 1 + 1) = k by omega, this, show (k + 1 + 1) % 2 = k % 2 by omega]

theorem holdcells_spec {w c k r b i f bs is fs} {Q : Bool → World → Prop} (h : Room w c k r b i f bs is fs) (H : ∀ w' c', Chg (fun _ => False) w w' → Ext w c c' → Q true w') : levyroom_Room_holdCells (some ⟨r, 0, none⟩) Q w := by
  unfold levyroom_Room_holdCells
  refine al_own (c := c) k fun b9 w1 c1 o1 ch1 ex1 hb1 => ?_
  refine Fix.intro (fun (z : Int) v => z = 0 ∧ v = w1) (fun _ _ => 0) ?_ ⟨rfl, rfl⟩
  rintro z v K ⟨rfl, rfl⟩ hK
  unfold levyroom_Room_holdCells.l4 levyroom_Room_holdCells.k3
  have R := h.new ch1 ex1
  refine nn_some (ld_own (x := ⟨none, 0, 0⟩) R.own rfl ?_)
  rw [if_neg (by simp)]
  exact H v c1 ch1 ex1

theorem holdbools_spec {w c k r b i f bs is fs} {Q : Bool → World → Prop} (h : Room w c k r b i f bs is fs) (H : ∀ w' c', Chg (fun _ => False) w w' → Ext w c c' → Q true w') : levyroom_Room_holdBools (some ⟨r, 0, none⟩) Q w := by
  unfold levyroom_Room_holdBools
  refine al_own (c := c) k fun b9 w1 c1 o1 ch1 ex1 hb1 => ?_
  refine Fix.intro (fun (z : Int) v => z = 0 ∧ v = w1) (fun _ _ => 0) ?_ ⟨rfl, rfl⟩
  rintro z v K ⟨rfl, rfl⟩ hK
  unfold levyroom_Room_holdBools.l4 levyroom_Room_holdBools.k3
  have R := h.new ch1 ex1
  refine nn_some (ld_own (x := ⟨none, 0, 0⟩) R.own rfl ?_)
  rw [if_neg (by simp)]
  exact H v c1 ch1 ex1

theorem holdtexts_spec {w c k r b i f bs is fs} {Q : Bool → World → Prop} (h : Room w c k r b i f bs is fs) (H : ∀ w' c', Chg (fun _ => False) w w' → Ext w c c' → Q true w') : levyroom_Room_holdTexts (some ⟨r, 0, none⟩) Q w := by
  unfold levyroom_Room_holdTexts
  refine al_own (c := c) k fun b9 w1 c1 o1 ch1 ex1 hb1 => ?_
  refine Fix.intro (fun (z : Int) v => z = 0 ∧ v = w1) (fun _ _ => 0) ?_ ⟨rfl, rfl⟩
  rintro z v K ⟨rfl, rfl⟩ hK
  unfold levyroom_Room_holdTexts.l4 levyroom_Room_holdTexts.k3
  have R := h.new ch1 ex1
  refine nn_some (ld_own (x := ⟨none, 0, 0⟩) R.own rfl ?_)
  rw [if_neg (by simp)]
  exact H v c1 ch1 ex1

theorem holdvalues_spec {w c k r b i f bs is fs} {Q : Bool → World → Prop} (h : Room w c k r b i f bs is fs) (H : ∀ w' c', Chg (fun _ => False) w w' → Ext w c c' → Q true w') : levyroom_Room_holdValues (some ⟨r, 0, none⟩) Q w := by
  unfold levyroom_Room_holdValues
  refine al_own (c := c) k fun b9 w1 c1 o1 ch1 ex1 hb1 => ?_
  refine Fix.intro (fun (z : Int) v => z = 0 ∧ v = w1) (fun _ _ => 0) ?_ ⟨rfl, rfl⟩
  rintro z v K ⟨rfl, rfl⟩ hK
  unfold levyroom_Room_holdValues.l4 levyroom_Room_holdValues.k3
  have R := h.new ch1 ex1
  refine nn_some (ld_own (x := ⟨none, 0, 0⟩) R.own rfl ?_)
  rw [if_neg (by simp)]
  exact H v c1 ch1 ex1

theorem holdbands_spec {w c k r b i f bs is fs} {Q : Bool → World → Prop} (h : Room w c k r b i f bs is fs) (H : ∀ w' c', Chg (fun _ => False) w w' → Ext w c c' → Q true w') : levyroom_Room_holdBands (some ⟨r, 0, none⟩) Q w := by
  unfold levyroom_Room_holdBands
  refine al_own (c := c) k fun b9 w1 c1 o1 ch1 ex1 hb1 => ?_
  refine Fix.intro (fun (z : Int) v => z = 0 ∧ v = w1) (fun _ _ => 0) ?_ ⟨rfl, rfl⟩
  rintro z v K ⟨rfl, rfl⟩ hK
  unfold levyroom_Room_holdBands.l4 levyroom_Room_holdBands.k3
  have R := h.new ch1 ex1
  refine nn_some (ld_own (x := ⟨none, 0, 0⟩) R.own rfl ?_)
  rw [if_neg (by simp)]
  exact H v c1 ch1 ex1

theorem holdtokens_spec {w c k r b i f bs is fs} {Q : Bool → World → Prop} (h : Room w c k r b i f bs is fs) (H : ∀ w' c', Chg (fun _ => False) w w' → Ext w c c' → Q true w') : levyroom_Room_holdTokens (some ⟨r, 0, none⟩) Q w := by
  unfold levyroom_Room_holdTokens
  refine al_own (c := c) k fun b9 w1 c1 o1 ch1 ex1 hb1 => ?_
  refine Fix.intro (fun (z : Int) v => z = 0 ∧ v = w1) (fun _ _ => 0) ?_ ⟨rfl, rfl⟩
  rintro z v K ⟨rfl, rfl⟩ hK
  unfold levyroom_Room_holdTokens.l4 levyroom_Room_holdTokens.k3
  have R := h.new ch1 ex1
  refine nn_some (ld_own (x := ⟨none, 0, 0⟩) R.own rfl ?_)
  rw [if_neg (by simp)]
  exact H v c1 ch1 ex1

theorem holdreads_spec {w c k r b i f bs is fs} {Q : Bool → World → Prop} (h : Room w c k r b i f bs is fs) (H : ∀ w' c', Chg (fun _ => False) w w' → Ext w c c' → Q true w') : levyroom_Room_holdReads (some ⟨r, 0, none⟩) Q w := by
  unfold levyroom_Room_holdReads
  refine al_own (c := c) k fun b9 w1 c1 o1 ch1 ex1 hb1 => ?_
  refine Fix.intro (fun (z : Int) v => z = 0 ∧ v = w1) (fun _ _ => 0) ?_ ⟨rfl, rfl⟩
  rintro z v K ⟨rfl, rfl⟩ hK
  unfold levyroom_Room_holdReads.l4 levyroom_Room_holdReads.k3
  have R := h.new ch1 ex1
  refine nn_some (ld_own (x := ⟨none, 0, 0⟩) R.own rfl ?_)
  rw [if_neg (by simp)]
  exact H v c1 ch1 ex1

theorem holdconflicts_spec {w c k r b i f bs is fs} {Q : Bool → World → Prop} (h : Room w c k r b i f bs is fs) (H : ∀ w' c', Chg (fun _ => False) w w' → Ext w c c' → Q true w') : levyroom_Room_holdConflicts (some ⟨r, 0, none⟩) Q w := by
  unfold levyroom_Room_holdConflicts
  refine al_own (c := c) k fun b9 w1 c1 o1 ch1 ex1 hb1 => ?_
  refine Fix.intro (fun (z : Int) v => z = 0 ∧ v = w1) (fun _ _ => 0) ?_ ⟨rfl, rfl⟩
  rintro z v K ⟨rfl, rfl⟩ hK
  unfold levyroom_Room_holdConflicts.l4 levyroom_Room_holdConflicts.k3
  have R := h.new ch1 ex1
  refine nn_some (ld_own (x := ⟨none, 0, 0⟩) R.own rfl ?_)
  rw [if_neg (by simp)]
  exact H v c1 ch1 ex1

theorem holdpoints_spec {w c k r b i f bs is fs} {Q : Bool → World → Prop} (h : Room w c k r b i f bs is fs) (H : ∀ w' c', Chg (fun _ => False) w w' → Ext w c c' → Q true w') : levyroom_Room_holdPoints (some ⟨r, 0, none⟩) Q w := by
  unfold levyroom_Room_holdPoints
  refine al_own (c := c) k fun b9 w1 c1 o1 ch1 ex1 hb1 => ?_
  refine Fix.intro (fun (z : Int) v => z = 0 ∧ v = w1) (fun _ _ => 0) ?_ ⟨rfl, rfl⟩
  rintro z v K ⟨rfl, rfl⟩ hK
  unfold levyroom_Room_holdPoints.l4 levyroom_Room_holdPoints.k3
  have R := h.new ch1 ex1
  refine nn_some (ld_own (x := ⟨none, 0, 0⟩) R.own rfl ?_)
  rw [if_neg (by simp)]
  exact H v c1 ch1 ex1

theorem holdnodes_spec {w c k r b i f bs is fs} {Q : Bool → World → Prop} (h : Room w c k r b i f bs is fs) (H : ∀ w' c', Chg (fun _ => False) w w' → Ext w c c' → Q true w') : levyroom_Room_holdNodes (some ⟨r, 0, none⟩) Q w := by
  unfold levyroom_Room_holdNodes
  refine al_own (c := c) k fun b9 w1 c1 o1 ch1 ex1 hb1 => ?_
  refine Fix.intro (fun (z : Int) v => z = 0 ∧ v = w1) (fun _ _ => 0) ?_ ⟨rfl, rfl⟩
  rintro z v K ⟨rfl, rfl⟩ hK
  unfold levyroom_Room_holdNodes.l4 levyroom_Room_holdNodes.k3
  have R := h.new ch1 ex1
  refine nn_some (ld_own (x := ⟨none, 0, 0⟩) R.own rfl ?_)
  rw [if_neg (by simp)]
  exact H v c1 ch1 ex1

theorem holdrecords_spec {w c k r b i f bs is fs} {Q : Bool → World → Prop} (h : Room w c k r b i f bs is fs) (H : ∀ w' c', Chg (fun _ => False) w w' → Ext w c c' → Q true w') : levyroom_Room_holdRecords (some ⟨r, 0, none⟩) Q w := by
  unfold levyroom_Room_holdRecords
  refine al_own (c := c) k fun b9 w1 c1 o1 ch1 ex1 hb1 => ?_
  refine Fix.intro (fun (z : Int) v => z = 0 ∧ v = w1) (fun _ _ => 0) ?_ ⟨rfl, rfl⟩
  rintro z v K ⟨rfl, rfl⟩ hK
  unfold levyroom_Room_holdRecords.l4 levyroom_Room_holdRecords.k3
  have R := h.new ch1 ex1
  refine nn_some (ld_own (x := ⟨none, 0, 0⟩) R.own rfl ?_)
  rw [if_neg (by simp)]
  exact H v c1 ch1 ex1

theorem holdexprs_spec {w c k r b i f bs is fs} {Q : Bool → World → Prop} (h : Room w c k r b i f bs is fs) (H : ∀ w' c', Chg (fun _ => False) w w' → Ext w c c' → Q true w') : levyroom_Room_holdExprs (some ⟨r, 0, none⟩) Q w := by
  unfold levyroom_Room_holdExprs
  refine al_own (c := c) k fun b9 w1 c1 o1 ch1 ex1 hb1 => ?_
  refine Fix.intro (fun (z : Int) v => z = 0 ∧ v = w1) (fun _ _ => 0) ?_ ⟨rfl, rfl⟩
  rintro z v K ⟨rfl, rfl⟩ hK
  unfold levyroom_Room_holdExprs.l4 levyroom_Room_holdExprs.k3
  have R := h.new ch1 ex1
  refine nn_some (ld_own (x := ⟨none, 0, 0⟩) R.own rfl ?_)
  rw [if_neg (by simp)]
  exact H v c1 ch1 ex1

theorem holdclauses_spec {w c k r b i f bs is fs} {Q : Bool → World → Prop} (h : Room w c k r b i f bs is fs) (H : ∀ w' c', Chg (fun _ => False) w w' → Ext w c c' → Q true w') : levyroom_Room_holdClauses (some ⟨r, 0, none⟩) Q w := by
  unfold levyroom_Room_holdClauses
  refine al_own (c := c) k fun b9 w1 c1 o1 ch1 ex1 hb1 => ?_
  refine Fix.intro (fun (z : Int) v => z = 0 ∧ v = w1) (fun _ _ => 0) ?_ ⟨rfl, rfl⟩
  rintro z v K ⟨rfl, rfl⟩ hK
  unfold levyroom_Room_holdClauses.l4 levyroom_Room_holdClauses.k3
  have R := h.new ch1 ex1
  refine nn_some (ld_own (x := ⟨none, 0, 0⟩) R.own rfl ?_)
  rw [if_neg (by simp)]
  exact H v c1 ch1 ex1

theorem holdlines_spec {w c k r b i f bs is fs} {Q : Bool → World → Prop} (h : Room w c k r b i f bs is fs) (H : ∀ w' c', Chg (fun _ => False) w w' → Ext w c c' → Q true w') : levyroom_Room_holdLines (some ⟨r, 0, none⟩) Q w := by
  unfold levyroom_Room_holdLines
  refine al_own (c := c) k fun b9 w1 c1 o1 ch1 ex1 hb1 => ?_
  refine Fix.intro (fun (z : Int) v => z = 0 ∧ v = w1) (fun _ _ => 0) ?_ ⟨rfl, rfl⟩
  rintro z v K ⟨rfl, rfl⟩ hK
  unfold levyroom_Room_holdLines.l4 levyroom_Room_holdLines.k3
  have R := h.new ch1 ex1
  refine nn_some (ld_own (x := ⟨none, 0, 0⟩) R.own rfl ?_)
  rw [if_neg (by simp)]
  exact H v c1 ch1 ex1

theorem holdchecks_spec {w c k r b i f bs is fs} {Q : Bool → World → Prop} (h : Room w c k r b i f bs is fs) (H : ∀ w' c', Chg (fun _ => False) w w' → Ext w c c' → Q true w') : levyroom_Room_holdChecks (some ⟨r, 0, none⟩) Q w := by
  unfold levyroom_Room_holdChecks
  refine al_own (c := c) k fun b9 w1 c1 o1 ch1 ex1 hb1 => ?_
  refine Fix.intro (fun (z : Int) v => z = 0 ∧ v = w1) (fun _ _ => 0) ?_ ⟨rfl, rfl⟩
  rintro z v K ⟨rfl, rfl⟩ hK
  unfold levyroom_Room_holdChecks.l4 levyroom_Room_holdChecks.k3
  have R := h.new ch1 ex1
  refine nn_some (ld_own (x := ⟨none, 0, 0⟩) R.own rfl ?_)
  rw [if_neg (by simp)]
  exact H v c1 ch1 ex1

theorem holdoptions_spec {w c k r b i f bs is fs} {Q : Bool → World → Prop} (h : Room w c k r b i f bs is fs) (H : ∀ w' c', Chg (fun _ => False) w w' → Ext w c c' → Q true w') : levyroom_Room_holdOptions (some ⟨r, 0, none⟩) Q w := by
  unfold levyroom_Room_holdOptions
  refine al_own (c := c) k fun b9 w1 c1 o1 ch1 ex1 hb1 => ?_
  refine Fix.intro (fun (z : Int) v => z = 0 ∧ v = w1) (fun _ _ => 0) ?_ ⟨rfl, rfl⟩
  rintro z v K ⟨rfl, rfl⟩ hK
  unfold levyroom_Room_holdOptions.l4 levyroom_Room_holdOptions.k3
  have R := h.new ch1 ex1
  refine nn_some (ld_own (x := ⟨none, 0, 0⟩) R.own rfl ?_)
  rw [if_neg (by simp)]
  exact H v c1 ch1 ex1

theorem holdtables_spec {w c k r b i f bs is fs} {Q : Bool → World → Prop} (h : Room w c k r b i f bs is fs) (H : ∀ w' c', Chg (fun _ => False) w w' → Ext w c c' → Q true w') : levyroom_Room_holdTables (some ⟨r, 0, none⟩) Q w := by
  unfold levyroom_Room_holdTables
  refine al_own (c := c) k fun b9 w1 c1 o1 ch1 ex1 hb1 => ?_
  refine Fix.intro (fun (z : Int) v => z = 0 ∧ v = w1) (fun _ _ => 0) ?_ ⟨rfl, rfl⟩
  rintro z v K ⟨rfl, rfl⟩ hK
  unfold levyroom_Room_holdTables.l4 levyroom_Room_holdTables.k3
  have R := h.new ch1 ex1
  refine nn_some (ld_own (x := ⟨none, 0, 0⟩) R.own rfl ?_)
  rw [if_neg (by simp)]
  exact H v c1 ch1 ex1

theorem holdgroups_spec {w c k r b i f bs is fs} {Q : Bool → World → Prop} (h : Room w c k r b i f bs is fs) (H : ∀ w' c', Chg (fun _ => False) w w' → Ext w c c' → Q true w') : levyroom_Room_holdGroups (some ⟨r, 0, none⟩) Q w := by
  unfold levyroom_Room_holdGroups
  refine al_own (c := c) k fun b9 w1 c1 o1 ch1 ex1 hb1 => ?_
  refine Fix.intro (fun (z : Int) v => z = 0 ∧ v = w1) (fun _ _ => 0) ?_ ⟨rfl, rfl⟩
  rintro z v K ⟨rfl, rfl⟩ hK
  unfold levyroom_Room_holdGroups.l4 levyroom_Room_holdGroups.k3
  have R := h.new ch1 ex1
  refine nn_some (ld_own (x := ⟨none, 0, 0⟩) R.own rfl ?_)
  rw [if_neg (by simp)]
  exact H v c1 ch1 ex1

theorem holdbytes_spec {w c k r b i f bs is fs} {Q : Bool → World → Prop} (h : Room w c k r b i f bs is fs) (hl : bs.length ≤ 1099511627776) (H : ∀ w' c', Chg (fun _ => False) w w' → Ext w c c' → Q true w') : levyroom_Room_holdBytes (some ⟨r, 0, none⟩) Q w := by
  unfold levyroom_Room_holdBytes
  refine al_own (c := c) k fun b9 w1 c1 o1 ch1 ex1 hb1 => ?_
  have R := h.new ch1 ex1
  have hlen : b.len = bs.length := by have := R.bytes.1; simp at this; omega
  refine Fix.intro (fun (z : Int) v => v = w1 ∧ ∃ q : Nat, z = q ∧ q ≤ bs.length) (fun z _ => bs.length - z.toNat) ?_ ⟨rfl, 0, rfl, Nat.zero_le _⟩
  rintro z v K ⟨rfl, q, rfl, hq⟩ hK
  unfold levyroom_Room_holdBytes.l4 levyroom_Room_holdBytes.k3
  refine nn_some (ld_own (x := b) R.own rfl ?_)
  by_cases hlt : q < bs.length
  · rw [if_pos (by rw [decide_eq_true_eq]; omega)]
    have hget : (bs.map Sl.val)[q]? = some (Sl.val bs[q]) := by simp [hlt]
    refine nn_some (ld_own (x := b) R.own rfl (ix_ld (x := bs[q]) R.bytes.reads hget ?_))
    obtain ⟨d, hr⟩ := R.bAt _ (List.getElem_mem hlt)
    have hsl : (bs[q]).len = d.length + 600 := by
      have := hr.1
      rw [List.length_map, List.length_append, bmarks, marks_len] at this
      simp at this; omega
    have hcm : d.length + 600 ≤ 9223372036854775807 := by
      have h1 := hr.2.1
      have h2 := hr.2.2.1
      simp only [maxLen] at h2
      omega
    refine Fix.intro (fun (z : Int) v' => v' = v ∧ ∃ p : Nat, z = p ∧ p ≤ 600) (fun z _ => 600 - z.toNat) ?_ ⟨rfl, 0, rfl, Nat.zero_le _⟩
    rintro z v' K' ⟨rfl, p, rfl, hp⟩ hK'
    unfold levyroom_Room_holdBytes.l18
    by_cases hlt2 : p < 600
    · rw [if_pos (by rw [decide_eq_true_eq]; omega)]
      refine nn_some (ld_own (x := b) R.own rfl (ix_ld (x := bs[q]) R.bytes.reads hget ?_))
      rw [hsl, Da.wrap_small (i := ((d.length + 600 : Nat) : Int) - 600) (by omega) (by omega), Da.wrap_small (i := ((d.length + 600 : Nat) : Int) - 600 + (p : Int)) (by omega) (by omega), show ((d.length + 600 : Nat) : Int) - 600 + (p : Int) = ((d.length + p : Nat) : Int) by omega, ← hsl]
      have hcell : ((d ++ bmarks 300).map u8)[d.length + p]? = some (u8 (if p % 2 = 0 then 0xA5 else 0x5A : UInt8)) := by
        rw [List.getElem?_map, List.getElem?_append_right (by omega), show d.length + p - d.length = p by omega, bmarks, marks_at _ _ 300 p (by omega)]
        rfl
      refine ix_ld (x := if p % 2 = 0 then (165 : Int) else 90) hr.reads (by first | exact hcell | (rw [hcell]; split <;> rfl)) ?_
      have htm : Int.tmod (p : Int) 2 = ((p % 2 : Nat) : Int) := (Int.ofNat_tmod p 2).symm
      rw [htm]
      have hmc : v'.cell? (Addr.add ⟨b9, 0, none⟩ (p % 2 * 1)) = some (.int .u8 (if p % 2 = 0 then (165 : Int) else 90)) := by
        rw [add_mk, o1.cell]
        rcases Nat.mod_two_eq_zero_or_one p with e | e <;> simp [e]
      refine ⟨_, rfl, by omega, by omega, _, by rw [Int.toNat_natCast]; exact hmc, ?_⟩
      have hx : ∀ y : Int, ¬ (y != y) = true := fun y => by simp
      dsimp only
      rw [if_neg (hx _), Da.wrap_small (i := (p : Int) + 1) (by omega) (by omega)]
      exact hK' _ _ ⟨rfl, p + 1, by omega, hlt2⟩ (by omega)
    · rw [if_neg (by rw [decide_eq_true_eq]; omega)]
      unfold levyroom_Room_holdBytes.k10
      rw [Da.wrap_small (i := (q : Int) + 1) (by omega) (by omega)]
      exact hK _ _ ⟨rfl, q + 1, by omega, hlt⟩ (by omega)
  · rw [if_neg (by rw [decide_eq_true_eq]; omega)]
    exact H v c1 ch1 ex1

theorem holdints_spec {w c k r b i f bs is fs} {Q : Bool → World → Prop} (h : Room w c k r b i f bs is fs) (hl : is.length ≤ 1099511627776) (H : ∀ w' c', Chg (fun _ => False) w w' → Ext w c c' → Q true w') : levyroom_Room_holdInts (some ⟨r, 0, none⟩) Q w := by
  unfold levyroom_Room_holdInts
  refine al_own (c := c) k fun b9 w1 c1 o1 ch1 ex1 hb1 => ?_
  have R := h.new ch1 ex1
  have hlen : i.len = is.length := by have := R.ints.1; simp at this; omega
  refine Fix.intro (fun (z : Int) v => v = w1 ∧ ∃ q : Nat, z = q ∧ q ≤ is.length) (fun z _ => is.length - z.toNat) ?_ ⟨rfl, 0, rfl, Nat.zero_le _⟩
  rintro z v K ⟨rfl, q, rfl, hq⟩ hK
  unfold levyroom_Room_holdInts.l4 levyroom_Room_holdInts.k3
  refine nn_some (ld_own (x := i) R.own rfl ?_)
  by_cases hlt : q < is.length
  · rw [if_pos (by rw [decide_eq_true_eq]; omega)]
    have hget : (is.map Sl.val)[q]? = some (Sl.val is[q]) := by simp [hlt]
    refine nn_some (ld_own (x := i) R.own rfl (ix_ld (x := is[q]) R.ints.reads hget ?_))
    obtain ⟨d, hr⟩ := R.iAt _ (List.getElem_mem hlt)
    have hsl : (is[q]).len = d.length + 40 := by
      have := hr.1
      rw [List.length_map, List.length_append, imarks, marks_len] at this
      simp at this; omega
    have hcm : d.length + 40 ≤ 9223372036854775807 := by
      have h1 := hr.2.1
      have h2 := hr.2.2.1
      simp only [maxLen] at h2
      omega
    refine Fix.intro (fun (z : Int) v' => v' = v ∧ ∃ p : Nat, z = p ∧ p ≤ 40) (fun z _ => 40 - z.toNat) ?_ ⟨rfl, 0, rfl, Nat.zero_le _⟩
    rintro z v' K' ⟨rfl, p, rfl, hp⟩ hK'
    unfold levyroom_Room_holdInts.l18
    by_cases hlt2 : p < 40
    · rw [if_pos (by rw [decide_eq_true_eq]; omega)]
      refine nn_some (ld_own (x := i) R.own rfl (ix_ld (x := is[q]) R.ints.reads hget ?_))
      rw [hsl, Da.wrap_small (i := ((d.length + 40 : Nat) : Int) - 40) (by omega) (by omega), Da.wrap_small (i := ((d.length + 40 : Nat) : Int) - 40 + (p : Int)) (by omega) (by omega), show ((d.length + 40 : Nat) : Int) - 40 + (p : Int) = ((d.length + p : Nat) : Int) by omega, ← hsl]
      have hcell : ((d ++ imarks 20).map i64)[d.length + p]? = some (i64 (if p % 2 = 0 then -7701 else -7702 : Int)) := by
        rw [List.getElem?_map, List.getElem?_append_right (by omega), show d.length + p - d.length = p by omega, imarks, marks_at _ _ 20 p (by omega)]
        rfl
      refine ix_ld (x := if p % 2 = 0 then (-7701 : Int) else -7702) hr.reads (by first | exact hcell | (rw [hcell]; split <;> rfl)) ?_
      have htm : Int.tmod (p : Int) 2 = ((p % 2 : Nat) : Int) := (Int.ofNat_tmod p 2).symm
      rw [htm]
      have hmc : v'.cell? (Addr.add ⟨b9, 0, none⟩ (p % 2 * 1)) = some (.int .i64 (if p % 2 = 0 then (-7701 : Int) else -7702)) := by
        rw [add_mk, o1.cell]
        rcases Nat.mod_two_eq_zero_or_one p with e | e <;> simp [e]
      refine ⟨_, rfl, by omega, by omega, _, by rw [Int.toNat_natCast]; exact hmc, ?_⟩
      have hx : ∀ y : Int, ¬ (y != y) = true := fun y => by simp
      dsimp only
      rw [if_neg (hx _), Da.wrap_small (i := (p : Int) + 1) (by omega) (by omega)]
      exact hK' _ _ ⟨rfl, p + 1, by omega, hlt2⟩ (by omega)
    · rw [if_neg (by rw [decide_eq_true_eq]; omega)]
      unfold levyroom_Room_holdInts.k10
      rw [Da.wrap_small (i := (q : Int) + 1) (by omega) (by omega)]
      exact hK _ _ ⟨rfl, q + 1, by omega, hlt⟩ (by omega)
  · rw [if_neg (by rw [decide_eq_true_eq]; omega)]
    exact H v c1 ch1 ex1

theorem holdfiles_spec {w c k r b i f bs is fs} {Q : Bool → World → Prop} (h : Room w c k r b i f bs is fs) (hl : fs.length ≤ 1099511627776) (H : ∀ w' c', Chg (fun _ => False) w w' → Ext w c c' → Q true w') : levyroom_Room_holdFiles (some ⟨r, 0, none⟩) Q w := by
  unfold levyroom_Room_holdFiles
  refine al_own (c := c) k fun b9 w1 c1 o1 ch1 ex1 hb1 => ?_
  refine Fix.intro (fun (z : Int) v => ∃ (c' : Col), Chg (fun _ => False) w1 v ∧ Ext w1 c1 c' ∧ ∃ q : Nat, z = q ∧ q ≤ fs.length) (fun z _ => fs.length - z.toNat) ?_ ⟨c1, Chg.refl _ _, Ext.refl _ _, 0, rfl, Nat.zero_le _⟩
  rintro z v K ⟨c', ch, ex, q, rfl, hq⟩ hK
  have R := (h.new ch1 ex1).new ch ex
  have hlen : f.len = fs.length := by have := R.files.1; simp at this; omega
  unfold levyroom_Room_holdFiles.l4 levyroom_Room_holdFiles.k3
  refine nn_some (ld_own (x := f) R.own rfl ?_)
  by_cases hlt : q < fs.length
  · rw [if_pos (by rw [decide_eq_true_eq]; omega)]
    have hget : (fs.map Sl.val)[q]? = some (Sl.val fs[q]) := by simp [hlt]
    refine nn_some (ld_own (x := f) R.own rfl (ix_ld (x := fs[q]) R.files.reads hget ?_))
    obtain ⟨gl, hr0⟩ := h.fAt _ (List.getElem_mem hlt)
    have hsl : (fs[q]).len = gl.length + 40 := by
      have := hr0.1
      rw [fcells_len, List.length_append, fmarks, marks_len] at this
      simp at this; omega
    have hcm : gl.length + 40 ≤ 9223372036854775807 := by
      have h1 := hr0.2.1
      have h2 := hr0.2.2.1
      simp only [maxLen] at h2
      omega
    refine Fix.intro (fun (z : Int) v' => ∃ (c2 : Col), Chg (fun _ => False) w1 v' ∧ Ext w1 c1 c2 ∧ ∃ p : Nat, z = p ∧ p ≤ 40) (fun z _ => 40 - z.toNat) ?_ ⟨c', ch, ex, 0, rfl, Nat.zero_le _⟩
    rintro z v' K' ⟨c2, ch2, ex2, p, rfl, hp⟩ hK'
    have R2 := (h.new ch1 ex1).new ch2 ex2
    have hr := (hr0.chg ch1 ex1 (fun _ _ => id)).chg ch2 ex2 (fun _ _ => id)
    have o2 := o1.chg ch2 ex2 id
    unfold levyroom_Room_holdFiles.l18
    by_cases hlt2 : p < 40
    · rw [if_pos (by rw [decide_eq_true_eq]; omega)]
      refine nn_some (ld_own (x := f) R2.own rfl (ix_ld (x := fs[q]) R2.files.reads hget ?_))
      rw [hsl, Da.wrap_small (i := ((gl.length + 40 : Nat) : Int) - 40) (by omega) (by omega), Da.wrap_small (i := ((gl.length + 40 : Nat) : Int) - 40 + (p : Int)) (by omega) (by omega), show ((gl.length + 40 : Nat) : Int) - 40 + (p : Int) = ((gl.length + p : Nat) : Int) by omega, ← hsl]
      have hat : (gl ++ fmarks 20)[gl.length + p]? = some (if p % 2 = 0 then (⟨⟨#[]⟩, [], -7701⟩, noSl) else (⟨⟨#[]⟩, [], -7702⟩, noSl)) := by
        rw [List.getElem?_append_right (by omega), show gl.length + p - gl.length = p by omega, fmarks, marks_at _ _ 20 p (by omega)]
      obtain ⟨hlt3, hat⟩ := List.getElem?_eq_some_iff.1 hat
      refine ix3 hr.reads hlt3 ?_
      rw [hat]
      have e1 : ((if p % 2 = 0 then (⟨⟨#[]⟩, [], -7701⟩, noSl) else (⟨⟨#[]⟩, [], -7702⟩, noSl)) : AF × Sl).1.sure = if p % 2 = 0 then -7701 else -7702 := by split <;> rfl
      have e2 : ((if p % 2 = 0 then (⟨⟨#[]⟩, [], -7701⟩, noSl) else (⟨⟨#[]⟩, [], -7702⟩, noSl)) : AF × Sl).1.name = ⟨#[]⟩ := by split <;> rfl
      have e3 : ((if p % 2 = 0 then (⟨⟨#[]⟩, [], -7701⟩, noSl) else (⟨⟨#[]⟩, [], -7702⟩, noSl)) : AF × Sl).2 = noSl := by split <;> rfl
      rw [e1, e2, e3]
      refine al_own (c := c2) k fun b3 w3 c3 o3 ch3 ex3 hb3 => ?_
      refine stN_own o3 rfl fun w4 o4 ch4 hs4 => ?_
      have ch34 := fresh ch3 ch4 (fun bb hb => by rw [hb]; exact hb3)
      have om4 := o2.chg ch34 ex3 id
      have htm : Int.tmod (p : Int) 2 = ((p % 2 : Nat) : Int) := (Int.ofNat_tmod p 2).symm
      rw [htm]
      have hm : Reads w4 3 ⟨some ⟨b9, 0, none⟩, 2, 2⟩ (fcells [(⟨⟨#[]⟩, [], -7701⟩, noSl), (⟨⟨#[]⟩, [], -7702⟩, noSl)]) := ⟨rfl, .inr ⟨_, rfl, fun j u hu => by
        rw [add_mk, Nat.zero_add, om4.cell, ← hu]
        show (#[_, _, _, _, _, _] : Array Value)[j]? = ([_, _, _, _, _, _] : List Value)[j]?
        simp [noSl]⟩⟩
      have hm2 : p % 2 < [((⟨⟨#[]⟩, [], -7701⟩ : AF), noSl), (⟨⟨#[]⟩, [], -7702⟩, noSl)].length := by simp; omega
      refine ix3 (s := ⟨some ⟨b9, 0, none⟩, 2, 2⟩) hm hm2 ?_
      have e4 : ([((⟨⟨#[]⟩, [], -7701⟩ : AF), noSl), (⟨⟨#[]⟩, [], -7702⟩, noSl)][p % 2]'hm2) = if p % 2 = 0 then (⟨⟨#[]⟩, [], -7701⟩, noSl) else (⟨⟨#[]⟩, [], -7702⟩, noSl) := by
        rcases Nat.mod_two_eq_zero_or_one p with e | e <;> simp [e]
      rw [e4, e1, e2, e3]
      refine al_own (c := c3) k fun b5 w5 c5 o5 ch5 ex5 hb5 => ?_
      refine stN_own o5 rfl fun w6 o6 ch6 hs6 => ?_
      have ch56 := fresh ch5 ch6 (fun bb hb => by rw [hb]; exact hb5)
      have o46 := o4.chg ch56 ex5 id
      refine ld_own (x := if p % 2 = 0 then (-7701 : Int) else -7702) o46 rfl (ld_own (x := if p % 2 = 0 then (-7701 : Int) else -7702) o6 rfl ?_)
      have hx : ∀ y : Int, ¬ (y != y) = true := fun y => by simp
      rw [if_neg (hx _)]
      refine ld_own (x := noSl) o46 rfl ?_
      unfold levyroom_Room_holdFiles.k41
      rw [if_neg (by simp [noSl]), Da.wrap_small (i := (p : Int) + 1) (by omega) (by omega)]
      have chT := fresh (fresh ch2 ch34 (fun _ => False.elim)) ch56 (fun _ => False.elim)
      have exT := freshX (fresh ch2 ch34 (fun _ => False.elim)) (freshX ch2 ex2 ex3 ch34) ex5 ch56
      exact hK' _ _ ⟨c5, chT, exT, p + 1, by omega, hlt2⟩ (by omega)
    · rw [if_neg (by rw [decide_eq_true_eq]; omega)]
      unfold levyroom_Room_holdFiles.k10
      rw [Da.wrap_small (i := (q : Int) + 1) (by omega) (by omega)]
      exact hK _ _ ⟨c2, ch2, ex2, q + 1, by omega, hlt⟩ (by omega)
  · rw [if_neg (by rw [decide_eq_true_eq]; omega)]
    exact H v c' (fresh ch1 ch (fun _ => False.elim)) (freshX ch1 ex1 ex ch)

end Go.Proofs.Ytjnifnlkicajhaa.La
