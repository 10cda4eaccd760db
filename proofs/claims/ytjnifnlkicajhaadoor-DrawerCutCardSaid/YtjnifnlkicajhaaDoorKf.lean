/-
  The law's world: one step, whole. No condition is put on any statement here.
-/
import Derived.Test.YtjnifnlkicajhaaDoorKe
namespace Go.Proofs.YtjnifnlkicajhaaDoor.Kw
open Go Vc Hp Fs Da Pm Dd Jn
set_option maxRecDepth 4000

section
variable {w : World} {c : Col} {wb d m : Nat} {L : List FE} {st : LS} {p : Option Addr} {ss rs ls fs : Sl} {rl ll : List (Rec × Sl)} {fl : List (List UInt8 × Sl)}
theorem step_fold {ob : Nat} {kind n mm : Int} {sec : Bool} {nm : ByteArray} {ds ks : Sl} {su : Int} {data : List UInt8} {jd : Nat} {Q : Bool → World → Prop} (h : Rp w c wb d m L st p ss rs ls fs rl ll fl)
    (oo : Own w c ob 8 (.cells (opCells kind n mm sec nm ds ks su) 52 (0, 0))) (hds : Src w c jd 1 ds (data.map u8)) (hj : jd = 0 ∨ jd = 8) (hdb : data.length ≤ 1073741824)
    (hgen : ∀ D, st.dr = some D → D.gen < 100000000 ∧ D.len < 4294967295) (hC : ∀ D, st.dr = some D → FoldC st data (foldP st.A D data))
    (H : ∀ st', (match st.dr with | none => st' = st | some D => st' = foldL st data (foldP st.A D data)) → ∀ w' c', Rep w' c' wb d st' → Eff (fun q => q ≠ 0) w c w' c' → Q true w') :
    nn (some ⟨wb, 0, none⟩) fun x174_133 => ld Value.pointer w (x174_133.add 1) fun x176_134 => (if (Option.isNone x176_134) = true then Q true w else nn (some ⟨wb, 0, none⟩) fun x179_136 => ld Value.pointer (World.drew w) (x179_136.add 1) fun x181_137 => ld Sl.val (World.drew w) (Addr.add ⟨ob, 0, none⟩ 5) fun x183_138 => drawer_Drawer_Fold x181_137 x183_138 (fun x184_139_0 w => (if (x184_139_0 == 0) = true then ld Sl.val w (Addr.add ⟨ob, 0, none⟩ 5) fun x190_142 => rn Tryd.prog Sl.val (Builtin.append_ #[29, 29] 29 [.slice none 0 0, Sl.val x190_142].toArray) w fun x191_144 w => nn (some ⟨wb, 0, none⟩) fun x192_145 => Vc.st w (x192_145.add 3) (Sl.val x191_144) fun w => nn (some ⟨wb, 0, none⟩) fun x195_147 => Vc.st w (x195_147.add 4) (.slice none 0 0) fun w => nn (some ⟨wb, 0, none⟩) fun x198_150 => ld Sl.val w (x198_150.add 5) fun x200_151 => (if (((x200_151.len : Nat) : Int) == 0) = true then nn (some ⟨wb, 0, none⟩) fun x205_155 => ld Sl.val w (x205_155.add 6) fun x207_156 => (if (((x207_156.len : Nat) : Int) == 0) = true then nn (some ⟨wb, 0, none⟩) fun x213_160 => ld Value.pointer w (x213_160.add 1) fun x215_161 => drawer_Drawer_Len x215_161 (fun x216_162_0 w => levylaw19_world_step.k149 (x216_162_0 == 0) Q w) w else levylaw19_world_step.k149 false Q w) else levylaw19_world_step.k149 false Q w) else (if (x184_139_0 == 196) = true then nn (some ⟨wb, 0, none⟩) fun x223_168 => ld Sl.val w (x223_168.add 5) fun x225_169 => (if (((x225_169.len : Nat) : Int) == 1) = true then levylaw19_world_step.k167 true Q w else nn (some ⟨wb, 0, none⟩) fun x230_173 => ld Sl.val w (x230_173.add 6) fun x232_174 => levylaw19_world_step.k167 (((x232_174.len : Nat) : Int) == 1) Q w) else (if (x184_139_0 == 197) = true then ld Sl.val w (Addr.add ⟨ob, 0, none⟩ 5) fun x240_179 => Q (decide (((x240_179.len : Nat) : Int) > 1048576)) w else ld Sl.val w (Addr.add ⟨ob, 0, none⟩ 5) fun x245_182 => rn Tryd.prog Sl.val (Builtin.append_ #[29, 29] 29 [.slice none 0 0, Sl.val x245_182].toArray) w fun x246_184 w => al w (.cells #[Sl.val x246_184] 29) fun x247_185 w => nn (some ⟨wb, 0, none⟩) fun x248_187 => Vc.st w (x248_187.add 6) (.slice (some x247_185) 1 1) fun w => nn (some ⟨wb, 0, none⟩) fun x253_190 => Vc.st w (x253_190.add 7) (.bool (x184_139_0 == 194)) fun w => (if (x184_139_0 == 190) = true then levylaw19_world_step.k192 true Q w else (if (x184_139_0 == 191) = true then levylaw19_world_step.k192 true Q w else levylaw19_world_step.k192 (x184_139_0 == 194) Q w)))))) (World.drew w)) := by
  have hdl : ds.len = data.length := by have := hds.1.1; simp at this; omega
  refine nn_some (ld_own h.own (x := p) rfl ?_)
  cases hdr : st.dr with
  | none =>
    have hp := h.drw
    unfold DrP at hp
    rw [hdr] at hp
    simp only at hp
    subst hp
    rw [if_pos (by rfl)]
    rw [hdr] at H
    exact H st rfl w c h.rep (Eff.refl _ _ _)
  | some D =>
    have hp := h.drw
    unfold DrP at hp
    rw [hdr] at hp
    obtain ⟨o, hpo, W⟩ := hp
    subst hpo
    rw [if_neg (by exact Bool.false_ne_true)]
    rw [hdr] at H
    have H : ∀ w' c', Rep w' c' wb d (foldL st data (foldP st.A D data)) → Eff (fun q => q ≠ 0) w c w' c' → Q true w' := H _ rfl
    have hPC := hC D hdr
    obtain ⟨hg1, hg2⟩ := hgen D hdr
    have h3 := h.drew
    have oo3 := oo.drew
    have hds3 := hds.drew
    have W3 : Drw w.drew c 2 o d D := Own.drew W
    refine nn_some (ld_own h3.own (x := some ⟨o, 0, none⟩) rfl (ld_own oo3 (x := ds) rfl ?_))
    have E3 : Eff (fun q => q ≠ 0) w c w.drew c := (Eff.refl _ _ _).drew
    refine fold_spec 8 h3.disk h3.ok h3.tab (by decide) (by decide) (by decide) (by decide) W3 hds3.1 hdb hg1 fun w4 c4 L4 D4 W4 E34 => ?_
    have E4 : Eff (fun q => q ≠ 0) w c w4 c4 := E3.trans (E34.mono fun q hq => by omega)
    have h4 := h3.drawer D4 W4 E34 (foldP_ok h3.ok D data) rfl
    have oo4 := oo3.eff E34 (by decide)
    have hds4 := hds3.eff E34 (by omega)
    have hll : ls.len = st.late.length := by rw [h4.late.len, ← h.hlate, List.length_map]
    have hfl : fs.len = st.folded.length := by
      have h1 := h4.fold.1
      simp only [List.length_map, Nat.mul_one] at h1
      rw [← h1, ← h.hfold, List.length_map]
    unfold FoldC at hPC
    unfold foldL at H
    generalize foldP st.A D data = r at *
    by_cases h0 : r.1 = 0
    · rw [if_pos h0] at H hPC
      rw [if_pos (by rw [h0]; decide)]
      refine ld_own oo4 (x := ds) rfl ?_
      refine copy_new (c := c4) 4 hds4.1 (by omega) fun w5 c5 s5 hr5 S5 => ?_
      have h5 := h4.far S5
      refine nn_some (st_own h5.own (by simp) fun w6 o6 ch6 _ => nn_some (st_own o6 (by simp) fun w7 o7 ch7 _ => ?_))
      have E7 : Eff (· = 3) w5 c5 w7 c5 := ((Eff.refl _ _ _).one ch6 (fun _ => h5.own.col)).one ch7 (fun _ => h5.own.col)
      have R7 := h5.upd (st' := { st with A := r.2.1, dr := some r.2.2, S := data, R := [] }) (rl' := []) (rs' := ⟨none, 0, 0⟩) E7 o7 rfl (h5.drw.eff E7 (by decide)) (hr5.eff E7 (by decide)) (RRow.nil _ _ _) rfl (h5.late.eff E7 (by decide)) h5.hlate (h5.fold.eff E7 (by decide)) (fun x hx => (h5.foldd x hx).eff E7 (by decide)) h5.hfold
      have fin : Q true w7 := H w7 c5 R7.rep ((E4.new S5.ch S5.ex).trans (E7.mono fun q hq => by rw [hq]; decide))
      refine nn_some (ld_own R7.own (x := ls) rfl ?_)
      rw [hll, hPC.1, if_pos (by decide)]
      refine nn_some (ld_own R7.own (x := fs) rfl ?_)
      rw [hfl, hPC.2.1, if_pos (by decide)]
      refine nn_some (ld_own R7.own (x := some ⟨o, 0, none⟩) rfl ?_)
      obtain ⟨o', ho', W7⟩ := R7.drw
      obtain rfl : o = o' := by injection ho' with h1; injection h1
      refine len_spec W7 ?_
      unfold levylaw19_world_step.k149
      rw [hPC.2.2]
      exact fin
    rw [if_neg h0] at H hPC
    rw [if_neg (by simpa using h0)]
    by_cases h196 : r.1 = 196
    · rw [if_pos (.inl h196)] at H
      rw [if_pos h196] at hPC
      rw [if_pos (by rw [h196]; decide)]
      have fin : Q true w4 := H w4 c4 h4.rep E4
      refine nn_some (ld_own h4.own (x := ls) rfl ?_)
      unfold levylaw19_world_step.k167
      by_cases hlate : st.late.length = 1
      · rw [hll, hlate, if_pos (by decide)]
        exact fin
      · rw [if_neg (by rw [beq_iff_eq, hll]; omega)]
        refine nn_some (ld_own h4.own (x := fs) rfl ?_)
        rw [hfl, (hPC.resolve_left hlate)]
        exact fin
    rw [if_neg h196] at hPC
    rw [if_neg (by simpa using h196)]
    by_cases h197 : r.1 = 197
    · rw [if_pos (.inr h197)] at H
      rw [if_pos h197] at hPC
      rw [if_pos (by rw [h197]; decide)]
      have fin : Q true w4 := H w4 c4 h4.rep E4
      refine ld_own oo4 (x := ds) rfl ?_
      rw [hdl, show decide (((data.length : Nat) : Int) > 1048576) = true by rw [decide_eq_true_eq]; omega]
      exact fin
    rw [if_neg h197] at hPC
    rw [if_neg (by simpa using h197)]
    rw [if_neg (by rintro (h | h); exact h196 h; exact h197 h)] at H
    refine ld_own oo4 (x := ds) rfl ?_
    refine copy_new (c := c4) 7 hds4.1 (by omega) fun w5 c5 q5 hq5 S5 => ?_
    refine al_own (c := c5) 7 fun b6 w6 c6 o6 ch6 ex6 hb6 => ?_
    have S6 := S5.new ch6 ex6
    have h6 := h4.far S6
    refine nn_some (st_own h6.own (by simp) fun w7 o7 ch7 _ => nn_some (st_own o7 (by simp) fun w8 o8 ch8 _ => ?_))
    have E8 : Eff (· = 3) w6 c6 w8 c6 := ((Eff.refl _ _ _).one ch7 (fun _ => h6.own.col)).one ch8 (fun _ => h6.own.col)
    have o68 := o6.eff E8 (by decide)
    have hq58 := (hq5.chg ch6 ex6 (fun _ _ => id)).eff E8 (by decide)
    have R8 := h6.upd (st' := { st with A := r.2.1, dr := some r.2.2, folded := [data], soft := r.1 == 194 }) (fs' := ⟨some ⟨b6, 0, none⟩, 1, 1⟩) (fl' := [(data, q5)]) E8 o8 rfl (h6.drw.eff E8 (by decide)) (h6.sm.eff E8 (by decide)) (h6.recs.eff E8 (by decide)) h6.hrecs
      (h6.late.eff E8 (by decide)) h6.hlate ⟨rfl, Nat.le_refl _, by show 1 ≤ maxLen; decide, .inr ⟨b6, _, rfl, o68, rfl, rfl⟩⟩ (fun x hx => by rw [List.mem_singleton.1 hx]; exact hq58) rfl
    have fin : Q true w8 := H w8 c6 R8.rep ((E4.new S6.ch S6.ex).trans (E8.mono fun q hq => by rw [hq]; decide))
    unfold levylaw19_world_step.k192
    rcases hPC with he | he | he
    · rw [he, if_pos (by decide)]; exact fin
    · rw [he, if_neg (by decide), if_pos (by decide)]; exact fin
    · rw [he, if_neg (by decide), if_neg (by decide)]; exact fin

theorem step_spec {kind n mm : Int} {sec : Bool} {nm : ByteArray} {ds ks : Sl} {su : Int} {data : List UInt8} {keep : List Int} {jd jk : Nat} {Q : Bool → World → Prop} (h : Rp w c wb d m L st p ss rs ls fs rl ll fl) (hG : Gens st.A.files) (hs : st.sum < 4294967296) (hrl : rl.length ≤ 4294967296)
    (hds : Src w c jd 1 ds (data.map u8)) (hj : jd = 0 ∨ jd = 8) (hdb : data.length ≤ 1073741824) (hks : Src w c jk 1 ks (keep.map (Value.int .i64))) (hjk : jk = 0 ∨ jk = 8) (hn : -maxI - 1 ≤ n ∧ n ≤ maxI) (hm : -maxI - 1 ≤ mm ∧ mm ≤ maxI) (hsoft : st.soft = false)
    (hgen : ∀ D, st.dr = some D → D.gen < 100000000 ∧ D.len < 4294967295) (C : StepC st kind n data keep)
    (H : ∀ st', StepR st kind n mm data keep st' → ∀ w' c', Rep w' c' wb d st' → Eff (fun q => q ≠ 0) w c w' c' → Q true w') :
    levylaw19_world_step (some ⟨wb, 0, none⟩) kind n mm sec nm ds ks su Q w := by
  unfold levylaw19_world_step
  refine al_own (c := c) 8 fun ob w1 c1 oo ch1 ex1 _ => ?_
  have S1 : Sofar w c w1 c1 := ⟨ch1, ex1⟩
  have h1 := h.far S1
  have hds1 := hds.chg ch1 ex1 (fun _ _ => id)
  have hks1 := hks.chg ch1 ex1 (fun _ _ => id)
  have E1 : Eff (fun q => q ≠ 0) w c w1 c1 := S1.eff
  refine ld_own oo (x := kind) rfl ?_
  unfold StepR at H
  have h1d := h1.drew
  have ood := oo.drew
  have E1d : Eff (fun q => q ≠ 0) w c w1.drew c1 := E1.drew
  by_cases k6 : kind = 6
  · subst k6
    rw [if_pos (by decide)]
    refine nn_some (ld_own h1d.own (x := some ⟨d, 0, none⟩) rfl (ld_own ood (x := n) rfl ?_))
    refine arm_spec h1d.disk fun w2 D2 ch2 _ => ?_
    have E2 : Eff (· = 1) w1.drew c1 w2 c1 := (Eff.refl _ _ _).one ch2 (fun _ => h1d.disk.dcol)
    unfold levylaw19_world_step.k3
    exact H { st with A := st.A.arm n } (by rw [if_pos rfl]) w2 c1 (h1d.disk' D2 E2 (h1d.ok.arm hn.1 hn.2)).rep (E1d.trans (E2.mono fun q hq => by rw [hq]; decide))
  rw [if_neg (by simpa using k6)]
  by_cases k7 : kind = 7
  · subst k7
    rw [if_pos (by decide)]
    refine nn_some (ld_own h1d.own (x := some ⟨d, 0, none⟩) rfl (ld_own ood (x := n) rfl (ld_own ood (x := mm) rfl ?_)))
    refine rig_spec h1d.disk fun w2 D2 ch2 _ => ?_
    have E2 : Eff (· = 1) w1.drew c1 w2 c1 := (Eff.refl _ _ _).one ch2 (fun _ => h1d.disk.dcol)
    unfold levylaw19_world_step.k3
    exact H { st with A := st.A.rig n mm } (by rw [if_neg (by decide), if_pos rfl]) w2 c1 (h1d.disk' D2 E2 (h1d.ok.rig hn hm)).rep (E1d.trans (E2.mono fun q hq => by rw [hq]; decide))
  rw [if_neg (by simpa using k7)]
  by_cases k8 : kind = 8
  · subst k8
    rw [if_pos (by decide)]
    refine nn_some (ld_own h1.own (x := some ⟨d, 0, none⟩) rfl ?_)
    refine crash_spec h1.disk fun w2 D2 ch2 _ => ?_
    have E2 : Eff (· = 1) w1 c1 w2 c1 := (Eff.refl _ _ _).one ch2 (fun _ => h1.disk.dcol)
    unfold levylaw19_world_step.k3
    exact H { st with A := st.A.fall } (by rw [if_neg (by decide), if_neg (by decide), if_pos rfl]) w2 c1 (h1.disk' D2 E2 h1.ok.fall).rep (E1.trans (E2.mono fun q hq => by rw [hq]; decide))
  rw [if_neg (by simpa using k8)]
  by_cases k9 : kind = 9
  · subst k9
    rw [if_pos (by decide)]
    refine nn_some (ld_own h1d.own (x := some ⟨d, 0, none⟩) rfl (ld_own ood (x := ks) rfl ?_))
    refine restart_spec h1d.disk h1d.ok hks1.drew (by omega) fun w2 c2 L2 D2 E2 => ?_
    unfold levylaw19_world_step.k3
    exact H { st with A := st.A.restart keep } (by rw [if_neg (by decide), if_neg (by decide), if_neg (by decide), if_pos rfl]) w2 c2 (h1d.disk' D2 E2 (h1d.ok.restart keep)).rep (E1d.trans (E2.mono fun q hq => by rw [hq]; decide))
  rw [if_neg (by simpa using k9)]
  simp only [if_neg k6, if_neg k7, if_neg k8, if_neg k9] at H
  by_cases k11 : kind = 11
  · rw [if_pos (by rw [k11]; decide)]
    simp only [if_pos k11] at H
    exact Kw.open_spec h1 hG hs (by omega) (C.open' k11) fun st' hst w2 c2 R2 E2 => H st' hst w2 c2 R2 (E1.trans E2)
  rw [if_neg (by simpa using k11)]
  simp only [if_neg k11] at H
  by_cases k10 : kind = 10
  · rw [if_pos (by rw [k10]; decide)]
    simp only [if_pos k10] at H
    refine ld_own oo (x := ks) rfl ?_
    exact other_spec h1 hG hs (by omega) hks1 (by omega) (C.other k10) fun w2 c2 R2 E2 => H st rfl w2 c2 R2.rep (E1.trans (E2.mono fun q hq => by rw [hq]; decide))
  rw [if_neg (by simpa using k10)]
  simp only [if_neg k10] at H
  by_cases k12 : kind = 12
  · rw [if_pos (by rw [k12]; decide)]
    simp only [if_pos k12] at H
    exact step_put h1 hrl oo hds1 hj hdb hsoft hgen (C.put k12) fun st' hst w2 c2 R2 E2 => H st' hst w2 c2 R2 (E1.trans E2)
  rw [if_neg (by simpa using k12)]
  simp only [if_neg k12] at H
  by_cases k13 : kind = 13
  · rw [if_pos (by rw [k13]; decide)]
    simp only [if_pos k13] at H
    exact step_fold h1 oo hds1 hj hdb hgen (C.fold k13) fun st' hst w2 c2 R2 E2 => H st' hst w2 c2 R2 (E1.trans E2)
  rw [if_neg (by simpa using k13)]
  simp only [if_neg k13] at H
  unfold levylaw19_world_step.k3
  exact H st rfl w1 c1 h1.rep E1
end
end Go.Proofs.YtjnifnlkicajhaaDoor.Kw
