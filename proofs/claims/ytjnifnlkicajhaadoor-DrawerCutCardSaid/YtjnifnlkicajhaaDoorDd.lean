/-
  The program's disk in memory: what holds of it, and what its calls that touch no file do to it. No condition is put on any statement here.
-/
import Derived.Test.YtjnifnlkicajhaaDoorPm
namespace Go.Proofs.YtjnifnlkicajhaaDoor.Dd
open Go Vc Hp Fs Da Pm

/-- A file as it lies in memory: its block, its bytes' slice. -/
structure FE where
  name : ByteArray
  fb : Nat
  s : Sl
  data : List UInt8
  sure : Nat
def FE.pf (e : FE) : PF := ⟨e.name, e.data, e.sure⟩
def FE.ent (e : FE) : ByteArray × Value := (e.name, .pointer (some ⟨e.fb, 0, none⟩))

structure FileAt (w : World) (c : Col) (k : Nat) (e : FE) : Prop where
  own : Own w c e.fb k (.cells #[e.s.val, .int .i64 (e.sure : Int)] 78 (0, 0))
  row : Row w c k 5 1 e.s (e.data.map u8)
def Apart (a b : FE) : Prop := a.fb ≠ b.fb ∧ ∀ g, Sl.blk a.s = some g → Sl.blk b.s ≠ some g
structure Files (w : World) (c : Col) (k m : Nat) (L : List FE) : Prop where
  map : ∃ es cl, MapS w c m k es cl (L.map FE.ent)
  files : ∀ e ∈ L, FileAt w c k e
  apart : L.Pairwise Apart

theorem MapS.chg {w c m k es cl l M w' c'} (h : MapS w c m k es cl l) (hc : Chg M w w') (he : Ext w c c') (hm : ¬ M m) : MapS w' c' m k es cl l := ⟨h.own.chg hc he hm, h.ents, h.keys, h.born, h.old⟩
theorem FileAt.chg {w c k e M w' c'} (h : FileAt w c k e) (hc : Chg M w w') (he : Ext w c c') (h1 : ¬ M e.fb) (h2 : ∀ g, Sl.blk e.s = some g → ¬ M g) : FileAt w' c' k e := ⟨h.own.chg hc he h1, h.row.chg hc he h2⟩
theorem Files.chg {w c k m L M w' c'} (h : Files w c k m L) (hc : Chg M w w') (he : Ext w c c') (hm : ¬ M m) (hf : ∀ e ∈ L, ¬ M e.fb ∧ ∀ g, Sl.blk e.s = some g → ¬ M g) : Files w' c' k m L := by
  obtain ⟨es, cl, hM⟩ := h.map
  exact ⟨⟨es, cl, MapS.chg hM hc he hm⟩, fun e hm => (h.files e hm).chg hc he (hf e hm).1 (hf e hm).2, h.apart⟩
theorem Files.new {w c k m L w' c'} (h : Files w c k m L) (hc : Chg (fun _ => False) w w') (he : Ext w c c') : Files w' c' k m L := h.chg hc he id (fun _ _ => ⟨id, fun _ _ => id⟩)
theorem Files.off {w c k m L w' b k' cs t} (h : Files w c k m L) (hc : Chg (· = b) w w') (ho : Own w c b k' (.cells cs t (0, 0))) (h1 : t ≠ 78) (h2 : t ≠ 5) : Files w' c k m L := by
  obtain ⟨es, cl, hM⟩ := h.map
  refine h.chg hc (Ext.refl _ _) (fun e => ho.neM hM.own e.symm) (fun e he => ⟨fun x => ho.neT (h.files e he).own h1 x.symm, fun g hg x => ?_⟩)
  obtain ⟨cs', ho'⟩ := (h.files e he).row.blk hg
  exact ho.neT ho' h2 x.symm
theorem Files.eff {w c k m L j w' c'} (h : Files w c k m L) (hc : Eff j w c w' c') (hj : ¬ j k) : Files w' c' k m L := by
  obtain ⟨es, cl, hM⟩ := h.map
  refine h.chg hc.chg hc.ext (by rw [hM.own.col]; exact hj) (fun e he => ⟨by rw [(h.files e he).own.col]; exact hj, fun g hg => ?_⟩)
  obtain ⟨cs', ho'⟩ := (h.files e he).row.blk hg
  rw [ho'.col]; exact hj
theorem Files.drew {w c k m L} (h : Files w c k m L) : Files w.drew c k m L := by
  obtain ⟨es, cl, hM⟩ := h.map
  exact ⟨⟨es, cl, ⟨hM.own.drew, hM.ents, hM.keys, hM.born, hM.old⟩⟩, fun e he => ⟨(h.files e he).own.drew, (h.files e he).row.drew⟩, h.apart⟩
theorem Files.nodup {w c k m L} (h : Files w c k m L) : (L.map FE.name).Nodup := by
  obtain ⟨es, cl, hM⟩ := h.map
  have := hM.keys
  rw [List.map_map] at this
  exact this
theorem FE.names (L : List FE) : names (L.map FE.pf) = L.map FE.name := by
  unfold Pm.names
  rw [List.map_map]
  rfl

/-- the file of this name -/
def fget (L : List FE) (x : ByteArray) : Option FE := L.find? fun e => decide (e.name = x)
theorem fget_pf (L : List FE) (x : ByteArray) : Pm.get (L.map FE.pf) x = (fget L x).map FE.pf := by
  unfold Pm.get fget
  induction L with
  | nil => rfl
  | cons e L ih =>
    by_cases h : e.name = x
    · have h1 : e.pf.name = x := h
      simp [h, h1]
    · have h1 : ¬ e.pf.name = x := h
      simp only [List.map_cons]
      rw [List.find?_cons_of_neg (by simpa using h1), List.find?_cons_of_neg (by simpa using h), ih]
theorem kget_ent (L : List FE) (x : ByteArray) : kget (L.map FE.ent) x = (fget L x).map fun e => .pointer (some ⟨e.fb, 0, none⟩) := by
  unfold kget fget
  induction L with
  | nil => rfl
  | cons e L ih =>
    by_cases h : e.name = x
    · have h1 : e.ent.1 = x := h
      simp only [List.map_cons]
      rw [List.find?_cons_of_pos (by simpa using h1), List.find?_cons_of_pos (by simpa using h)]
      rfl
    · have h1 : ¬ e.ent.1 = x := h
      simp only [List.map_cons]
      rw [List.find?_cons_of_neg (by simpa using h1), List.find?_cons_of_neg (by simpa using h), ih]
theorem fget_some {L : List FE} {x : ByteArray} {e : FE} (h : fget L x = some e) : e ∈ L ∧ e.name = x := by
  unfold fget at h
  exact ⟨List.mem_of_find?_eq_some h, by simpa using List.find?_some h⟩

structure DDisk (w : World) (c : Col) (k d m : Nat) (L : List FE) (A : PD) : Prop where
  own : ∃ (armed : Bool) (units : Int), Own w c d k (.cells #[.map (some m), .bool A.down, .bool armed, .int .i64 units, .int .i64 A.after, .int .i64 A.calls] 75 (0, 0)) ∧ A.units = (if armed = true then units else -1) ∧ (armed = true → 0 ≤ units)
  files : Files w c k m L
  perm : (L.map FE.pf).Perm A.files

theorem DDisk.get {w c k d m L A} (h : DDisk w c k d m L A) (hA : A.Ok) (x : ByteArray) : Pm.get A.files x = (fget L x).map FE.pf := by
  rw [← fget_pf, get_perm h.perm hA.srt.nodup]
theorem DDisk.eff {w c k d m L A j w' c'} (h : DDisk w c k d m L A) (hc : Eff j w c w' c') (hj : ¬ j k) : DDisk w' c' k d m L A := by
  obtain ⟨a, u, ho, h1, h2⟩ := h.own
  exact ⟨⟨a, u, ho.eff hc hj, h1, h2⟩, h.files.eff hc hj, h.perm⟩
theorem DDisk.new {w c k d m L A w' c'} (h : DDisk w c k d m L A) (hc : Chg (fun _ => False) w w') (he : Ext w c c') : DDisk w' c' k d m L A := by
  obtain ⟨a, u, ho, h1, h2⟩ := h.own
  exact ⟨⟨a, u, ho.chg hc he id, h1, h2⟩, h.files.new hc he, h.perm⟩
theorem DDisk.drew {w c k d m L A} (h : DDisk w c k d m L A) : DDisk w.drew c k d m L A := by
  obtain ⟨a, u, ho, h1, h2⟩ := h.own
  exact ⟨⟨a, u, ho.drew, h1, h2⟩, h.files.drew, h.perm⟩

/-- a field of the disk is written -/
theorem d_st {w c d k m L cs i v} {K : World → Prop} (ho : Own w c d k (.cells cs 75 (0, 0))) (hf : Files w c k m L) (hi : i < cs.size)
    (hk : ∀ w', Own w' c d k (.cells (cs.setIfInBounds i v) 75 (0, 0)) → Files w' c k m L → Chg (· = d) w w' → w'.heap.size = w.heap.size → K w') : st w (Addr.add ⟨d, 0, none⟩ i) v K :=
  st_own ho hi fun w' h1 h2 h3 => hk w' h1 (hf.off h2 ho (by decide) (by decide)) h2 h3

theorem crash_spec {w c k d m L A} {Q : World → Prop} (h : DDisk w c k d m L A) (H : ∀ w', DDisk w' c k d m L A.fall → Chg (· = d) w w' → w'.heap.size = w.heap.size → Q w') : drawer_Disk_Crash (some ⟨d, 0, none⟩) Q w := by
  obtain ⟨a, u, ho, h1, h2⟩ := h.own
  unfold drawer_Disk_Crash
  refine nn_some (d_st ho h.files (by simp) fun w1 o1 f1 c1 s1 => nn_some (d_st o1 f1 (by simp) fun w2 o2 f2 c2 s2 => nn_some (d_st o2 f2 (by simp) fun w3 o3 f3 c3 s3 => nn_some (d_st o3 f3 (by simp) fun w4 o4 f4 c4 s4 => nn_some (d_st o4 f4 (by simp) fun w5 o5 f5 c5 s5 => ?_)))))
  exact H w5 ⟨⟨false, 0, o5, rfl, fun h => by cases h⟩, f5, h.perm⟩ ((((c1.trans c2).trans c3).trans c4).trans c5) (by rw [s5, s4, s3, s2, s1])

theorem ahead_spec {w c k d m L A x} {Q : Int → World → Prop} (h : DDisk w c k d m L A) (hA : A.Ok) (H : ∀ w', DDisk w' c k d m L (A.first x).2 → Chg (· = d) w w' → w'.heap.size = w.heap.size → Q (A.first x).1 w') :
    drawer_Disk_ahead (some ⟨d, 0, none⟩) x Q w := by
  obtain ⟨a, u, ho, h1, h2⟩ := h.own
  have hc := hA.calls
  have ha := hA.after
  unfold maxI at hc ha
  unfold drawer_Disk_ahead
  refine named_spec ?_
  unfold PD.first at H
  cases hn : namedB x with
  | false =>
    rw [hn] at H
    exact H w h (Chg.refl _ _) rfl
  | true =>
    rw [hn] at H
    simp only [Bool.true_eq_false, if_false] at H
    simp only [if_true]
    refine nn_some (ld_own ho rfl ?_)
    cases hd : A.down with
    | true =>
      rw [hd] at H
      simp only [if_true] at H ⊢
      exact H w h (Chg.refl _ _) rfl
    | false =>
      rw [hd] at H ho
      simp only [Bool.false_eq_true, if_false] at H ⊢
      unfold drawer_Disk_failed
      refine nn_some (ld_own ho rfl ?_)
      by_cases h3 : A.calls ≤ 0
      · rw [if_pos h3] at H
        rw [if_pos (by simpa using h3)]
        exact H w h (Chg.refl _ _) rfl
      · rw [if_neg h3] at H
        rw [if_neg (by simpa using h3)]
        refine nn_some (ld_own ho rfl ?_)
        by_cases h4 : 0 < A.after
        · rw [if_pos h4] at H
          rw [if_pos (by simpa using h4)]
          refine nn_some (ld_own ho rfl (nn_some (d_st ho h.files (by simp) fun w1 o1 f1 c1 s1 => ?_)))
          rw [Da.wrap_small (i := A.after - 1) (by omega) (by omega)] at o1
          exact H w1 ⟨⟨a, u, o1, h1, h2⟩, f1, h.perm⟩ c1 s1
        · rw [if_neg h4] at H
          rw [if_neg (by simpa using h4)]
          refine nn_some (ld_own ho rfl (nn_some (d_st ho h.files (by simp) fun w1 o1 f1 c1 s1 => ?_)))
          rw [Da.wrap_small (i := A.calls - 1) (by omega) (by omega)] at o1
          exact H w1 ⟨⟨a, u, o1, h1, h2⟩, f1, h.perm⟩ c1 s1

theorem paid_spec {w c k d m L A cost} {Q : Int → Bool → World → Prop} (h : DDisk w c k d m L A) (hA : A.Ok) (hc : 0 ≤ cost) (H : ∀ w', DDisk w' c k d m L (A.pay cost).2.2 → Chg (· = d) w w' → w'.heap.size = w.heap.size → Q (A.pay cost).2.1 (!(A.pay cost).1) w') :
    drawer_Disk_paid (some ⟨d, 0, none⟩) cost Q w := by
  obtain ⟨a, u, ho, h1, h2⟩ := h.own
  have hu := hA.units
  unfold maxI at hu
  unfold drawer_Disk_paid
  unfold PD.pay at H
  refine nn_some (ld_own ho rfl ?_)
  cases a with
  | false =>
    simp only [Bool.false_eq_true, if_false] at h1 ⊢
    rw [if_pos (by omega)] at H
    exact H w h (Chg.refl _ _) rfl
  | true =>
    simp only [if_true] at h1 ⊢
    have h0 := h2 rfl
    rw [if_neg (by omega), h1] at H
    refine nn_some (ld_own ho rfl ?_)
    by_cases h3 : cost ≤ u
    · rw [if_pos h3] at H
      rw [if_pos (by simpa using h3)]
      refine nn_some (ld_own ho rfl (nn_some (d_st ho h.files (by simp) fun w1 o1 f1 c1 s1 => ?_)))
      rw [Da.wrap_small (i := u - cost) (by omega) (by omega)] at o1
      exact H w1 ⟨⟨true, u - cost, o1, by simp, fun _ => by omega⟩, f1, h.perm⟩ c1 s1
    · rw [if_neg h3] at H
      rw [if_neg (by simpa using h3)]
      refine nn_some (ld_own ho rfl ?_)
      exact crash_spec h H

theorem arm_spec {w c k d m L A u} {Q : World → Prop} (h : DDisk w c k d m L A) (H : ∀ w', DDisk w' c k d m L (A.arm u) → Chg (· = d) w w' → w'.heap.size = w.heap.size → Q w') : drawer_Disk_Arm (some ⟨d, 0, none⟩) u Q w := by
  obtain ⟨a, u0, ho, h1, h2⟩ := h.own
  unfold drawer_Disk_Arm
  unfold PD.arm at H
  refine nn_some (ld_own ho rfl ?_)
  cases hd : A.down with
  | true =>
    rw [hd] at H
    exact H w h (Chg.refl _ _) rfl
  | false =>
    rw [hd] at H
    simp only [Bool.false_eq_true, if_false] at H ⊢
    refine nn_some (d_st ho h.files (by simp) fun w1 o1 f1 c1 s1 => nn_some (d_st o1 f1 (by simp) fun w2 o2 f2 c2 s2 => ?_))
    refine H w2 ⟨⟨decide (u ≥ 0), u, ?_, by simp, fun h => by simpa using h⟩, f2, h.perm⟩ (c1.trans c2) (by rw [s2, s1])
    rw [hd] at o2
    simpa [hd] using o2

theorem rig_spec {w c k d m L A x y} {Q : World → Prop} (h : DDisk w c k d m L A) (H : ∀ w', DDisk w' c k d m L (A.rig x y) → Chg (· = d) w w' → w'.heap.size = w.heap.size → Q w') : drawer_Disk_Fail (some ⟨d, 0, none⟩) x y Q w := by
  obtain ⟨a, u0, ho, h1, h2⟩ := h.own
  unfold drawer_Disk_Fail
  unfold PD.rig at H
  refine nn_some (ld_own ho rfl ?_)
  cases hd : A.down with
  | true =>
    rw [hd] at H
    exact H w h (Chg.refl _ _) rfl
  | false =>
    rw [hd] at H ho
    simp only [Bool.false_eq_true, if_false] at H ⊢
    refine nn_some (d_st ho h.files (by simp) fun w1 o1 f1 c1 s1 => nn_some (d_st o1 f1 (by simp) fun w2 o2 f2 c2 s2 => ?_))
    have key : ∀ b, b = decide (x < 0 ∨ y ≤ 0) → drawer_Disk_Fail.k8 (some ⟨d, 0, none⟩) b Q w2 := by
      intro b hb
      unfold drawer_Disk_Fail.k8
      by_cases hp : x < 0 ∨ y ≤ 0
      · rw [if_pos hp] at H
        rw [if_pos (by simpa [hb] using hp)]
        refine nn_some (d_st o2 f2 (by simp) fun w3 o3 f3 c3 s3 => nn_some (d_st o3 f3 (by simp) fun w4 o4 f4 c4 s4 => ?_))
        exact H w4 ⟨⟨a, u0, by simpa [hd] using o4, h1, h2⟩, f4, h.perm⟩ (((c1.trans c2).trans c3).trans c4) (by rw [s4, s3, s2, s1])
      · rw [if_neg hp] at H
        rw [if_neg (by simpa [hb] using hp)]
        exact H w2 ⟨⟨a, u0, by simpa [hd] using o2, h1, h2⟩, f2, h.perm⟩ (c1.trans c2) (by rw [s2, s1])
    split
    · rename_i h3
      exact key true (by symm; simp only [decide_eq_true_eq] at h3 ⊢; omega)
    · rename_i h3
      refine key _ ?_
      simp only [decide_eq_true_eq] at h3
      rw [Bool.eq_iff_iff, decide_eq_true_eq, decide_eq_true_eq]
      omega
end Go.Proofs.YtjnifnlkicajhaaDoor.Dd
