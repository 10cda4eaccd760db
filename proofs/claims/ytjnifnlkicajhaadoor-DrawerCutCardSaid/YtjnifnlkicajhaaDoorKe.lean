/-
  The law's world: one step. No condition is put on any statement here.
-/
import Derived.Test.YtjnifnlkicajhaaDoorKd
namespace Go.Proofs.YtjnifnlkicajhaaDoor.Kw
open Go Vc Hp Fs Da Pm Dd Jn
set_option maxRecDepth 4000

def StepR (st : LS) (kind n m : Int) (data : List UInt8) (keep : List Int) (st' : LS) : Prop :=
  if kind = 6 then st' = { st with A := st.A.arm n } else
  if kind = 7 then st' = { st with A := st.A.rig n m } else
  if kind = 8 then st' = { st with A := st.A.fall } else
  if kind = 9 then st' = { st with A := st.A.restart keep } else
  if kind = 11 then OpenR st st' else
  if kind = 10 then st' = st else
  if kind = 12 then (match st.dr with
    | none => st' = st
    | some D => st' = putL st ⟨kindOf n, data⟩ (putP st.A D (kindOf n) data)) else
  if kind = 13 then (match st.dr with
    | none => st' = st
    | some D => st' = foldL st data (foldP st.A D data)) else st' = st
structure StepC (st : LS) (kind n : Int) (data : List UInt8) (keep : List Int) : Prop where
  open' : kind = 11 → OpenC st
  other : kind = 10 → OtherC st keep
  put : kind = 12 → ∀ D, st.dr = some D → PutC st ⟨kindOf n, data⟩ (putP st.A D (kindOf n) data)
  fold : kind = 13 → ∀ D, st.dr = some D → FoldC st data (foldP st.A D data)

section
variable {w : World} {c : Col} {wb d m : Nat} {L : List FE} {st : LS} {p : Option Addr} {ss rs ls fs : Sl} {rl ll : List (Rec × Sl)} {fl : List (List UInt8 × Sl)}
abbrev opCells (kind n mm : Int) (sec : Bool) (nm : ByteArray) (ds ks : Sl) (su : Int) : Array Value := #[.int .i64 kind, .int .i64 n, .int .i64 mm, .bool sec, .string nm, ds.val, ks.val, .int .u32 su]

/-- a record that was put with OK is written down -/
theorem step_k59 {ob : Nat} {kind n mm : Int} {sec : Bool} {nm : ByteArray} {ds ks : Sl} {su : Int} {data : List UInt8} {jd : Nat} {D : DW} {o : Nat} {Q : Bool → World → Prop} (h : Rp w c wb d m L st (some ⟨o, 0, none⟩) ss rs ls fs rl ll fl) (hD : st.dr = some D) (hrl : rl.length ≤ 4294967296)
    (oo : Own w c ob 8 (.cells (opCells kind n mm sec nm ds ks su) 52 (0, 0))) (hds : Src w c jd 1 ds (data.map u8)) (hdb : data.length ≤ 1073741824)
    (hl : st.late = []) (hf : st.folded = []) (hlen : D.len = rl.length + 1)
    (H : ∀ w' c', Rep w' c' wb d { st with R := st.R ++ [⟨kindOf n, data⟩] } → Eff (fun q => q = 5 ∨ q = 3) w c w' c' → Q true w') :
    levylaw19_world_step.k59 (some ⟨wb, 0, none⟩) ⟨ob, 0, none⟩ Q w := by
  unfold levylaw19_world_step.k59
  have hd := h.drew
  have od := oo.drew
  refine nn_some (ld_own hd.own (x := rs) rfl (ld_own od (x := n) rfl (ld_own od (x := ds) rfl ?_)))
  refine record_spec (c := c) 5 (hds.drew).1 (by omega) fun w1 c1 q hq S1 => ?_
  have S01 : Sofar w c w1 c1 := (Sofar.refl _ _).drew.new S1.ch S1.ex
  have facts : ∀ {v' c''}, Own v' c'' wb 3 (.cells #[.pointer (some ⟨d, 0, none⟩), .pointer (some ⟨o, 0, none⟩), .int .u32 (st.sum : Int), ss.val, rs.val, ls.val, fs.val, .bool st.soft] 32 (0, 0)) → Own v' c'' ob 8 (.cells (opCells kind n mm sec nm ds ks su) 52 (0, 0)) →
      (World.cell? v' (Addr.add ⟨wb, 0, none⟩ 4) = some (Sl.val rs) ∧ World.cell? v' (Addr.add ⟨ob, 0, none⟩ 1) = some (.int .i64 n) ∧ World.cell? v' (Addr.add ⟨ob, 0, none⟩ 5) = some (Sl.val ds) ∧ True) := fun o o' =>
    ⟨by rw [add_mk, o.cell]; rfl, by rw [add_mk, o'.cell]; rfl, by rw [add_mk, o'.cell]; rfl, trivial⟩
  have h1 := h.far S01
  have o1 := oo.chg S01.ch S01.ex id
  refine ⟨facts h1.own o1, ?_⟩
  refine al_own (c := c1) 5 fun b w2 c2 o2 ch2 ex2 hb2 => ?_
  have S02 := S01.new ch2 ex2
  have h2 := h.far S02
  have oo2 := oo.chg S02.ch S02.ex id
  refine ⟨facts h2.own oo2, ?_⟩
  refine h2.recs.snoc (r := ⟨kindOf n, data⟩) o2 (hq.chg ch2 ex2 (fun _ _ => id)) (by omega) fun s3 w3 c3 R3 ch3 ex3 hbl3 => ?_
  have E3 : Eff (· = 5) w2 c2 w3 c3 := Eff.of ch3 ex3 fun g0 _ hg0 => by
    obtain ⟨cs', ho'⟩ := h2.recs.row.blk hg0
    exact ho'.col
  have hown3 := h2.own.eff E3 (by decide)
  refine ⟨facts hown3 (oo2.eff E3 (by decide)), ?_⟩
  refine nn_some (st_own hown3 (by simp) fun w4 o4 ch4 _ => ?_)
  have E4 : Eff (· = 3) w3 c3 w4 c3 := (Eff.refl _ _ _).one ch4 (fun _ => hown3.col)
  have E24 : Eff (fun q => q = 5 ∨ q = 3) w2 c2 w4 c3 := (E3.mono fun q hq => .inl hq).trans (E4.mono fun q hq => .inr hq)
  have R4 : Rp w4 c3 wb d m L { st with R := st.R ++ [⟨kindOf n, data⟩] } (some ⟨o, 0, none⟩) ss s3 ls fs (rl ++ [(⟨kindOf n, data⟩, q)]) ll fl :=
    ⟨o4, h2.drw.eff E24 (by decide), h2.sm.eff E24 (by decide), R3.eff E4 (by decide), by rw [List.map_append, h.hrecs]; rfl, h2.late.eff E24 (by decide), h2.hlate, h2.fold.eff E24 (by decide), fun x hx => (h2.foldd x hx).eff E24 (by decide), h2.hfold, h2.disk.eff E24 (by decide), h2.ok, h2.tab.eff E24 (by decide)⟩
  have hll : ls.len = 0 := by
    have h1 := R4.late.len
    have h2 := congrArg List.length R4.hlate
    rw [List.length_map] at h2
    rw [h1, h2]
    show st.late.length = 0
    rw [hl]; rfl
  have hfl : fs.len = 0 := by
    have h1 := R4.fold.1
    have h2 := congrArg List.length R4.hfold
    simp only [List.length_map, Nat.mul_one] at h1 h2
    rw [← h1, h2]
    show st.folded.length = 0
    rw [hf]; rfl
  have R4d := R4.drew
  refine nn_some (ld_own R4d.own (x := ls) rfl ?_)
  rw [hll, if_pos (by decide)]
  refine nn_some (ld_own R4d.own (x := fs) rfl ?_)
  rw [hfl, if_pos (by decide)]
  refine nn_some (ld_own R4d.own (x := some ⟨o, 0, none⟩) rfl (nn_some (ld_own R4d.own (x := s3) rfl ?_)))
  have hdr := R4d.drw
  unfold DrP at hdr
  rw [show ({ st with R := st.R ++ [⟨kindOf n, data⟩] } : LS).dr = some D from hD] at hdr
  obtain ⟨o', ho', W⟩ := hdr
  obtain rfl : o = o' := by injection ho' with h1; injection h1
  refine len_spec W ?_
  refine ⟨⟨by rw [add_mk, R4d.own.cell]; rfl, by rw [add_mk, R4d.own.cell]; rfl, trivial⟩, ?_⟩
  unfold levylaw19_world_step.k71
  rw [R4d.recs.len, List.length_append, hlen, show ((((rl.length + 1 : Nat)) : Int) == ((rl.length + [((⟨kindOf n, data⟩ : Rec), q)].length : Nat) : Int)) = true from beq_self_eq_true _]
  exact H _ c3 R4d.rep ((S02.eff.trans E24).drew)

theorem ne_of {q : Nat} (h : q = 5 ∨ q = 3) : q ≠ 0 := by omega
theorem step_put {ob : Nat} {kind n mm : Int} {sec : Bool} {nm : ByteArray} {ds ks : Sl} {su : Int} {data : List UInt8} {jd : Nat} {Q : Bool → World → Prop} (h : Rp w c wb d m L st p ss rs ls fs rl ll fl) (hrl : rl.length ≤ 4294967296)
    (oo : Own w c ob 8 (.cells (opCells kind n mm sec nm ds ks su) 52 (0, 0))) (hds : Src w c jd 1 ds (data.map u8)) (hj : jd = 0 ∨ jd = 8) (hdb : data.length ≤ 1073741824) (hsoft : st.soft = false)
    (hgen : ∀ D, st.dr = some D → D.gen < 100000000 ∧ D.len < 4294967295) (hC : ∀ D, st.dr = some D → PutC st ⟨kindOf n, data⟩ (putP st.A D (kindOf n) data))
    (H : ∀ st', (match st.dr with | none => st' = st | some D => st' = putL st ⟨kindOf n, data⟩ (putP st.A D (kindOf n) data)) → ∀ w' c', Rep w' c' wb d st' → Eff (fun q => q ≠ 0) w c w' c' → Q true w') :
    nn (some ⟨wb, 0, none⟩) fun x59_44 => ld Value.pointer w (x59_44.add 1) fun x61_45 => (if (Option.isNone x61_45) = true then Q true w else ld (Value.int .i64) w (Addr.add ⟨ob, 0, none⟩ 1) fun x64_47 => ld Sl.val w (Addr.add ⟨ob, 0, none⟩ 5) fun x66_48 => levylaw19_record x64_47 x66_48 (fun x67_49_0_0 x67_49_0_1 w => al w (.cells #[.int .u8 0, .slice none 0 0] 37) fun x5_50 w => stN w x5_50 [.int .u8 x67_49_0_0, Sl.val x67_49_0_1] fun w => nn (some ⟨wb, 0, none⟩) fun x69_53 => ld Value.pointer (World.drew w) (x69_53.add 1) fun x71_54 => ld (Value.int .u8) (World.drew w) (x5_50.add 0) fun x72_55_0 => ld Sl.val (World.drew w) (x5_50.add 1) fun x72_55_1 => drawer_Drawer_Put x71_54 x72_55_0 x72_55_1 (fun x73_56_0 w => (if (x73_56_0 == 0) = true then nn (some ⟨wb, 0, none⟩) fun x78_91 => ld Value.bool w (x78_91.add 7) fun x80_92 => (if x80_92 = true then nn (some ⟨wb, 0, none⟩) fun x83_94 => Vc.st w (x83_94.add 6) (.slice none 0 0) fun w => nn (some ⟨wb, 0, none⟩) fun x85_96 => Vc.st w (x85_96.add 7) (.bool false) fun w => levylaw19_world_step.k59 (some ⟨wb, 0, none⟩) ⟨ob, 0, none⟩ Q w else levylaw19_world_step.k59 (some ⟨wb, 0, none⟩) ⟨ob, 0, none⟩ Q w) else (if (x73_56_0 == 196) = true then nn (some ⟨wb, 0, none⟩) fun x132_101 => ld Sl.val w (x132_101.add 5) fun x134_102 => (if (((x134_102.len : Nat) : Int) == 1) = true then levylaw19_world_step.k100 true Q w else nn (some ⟨wb, 0, none⟩) fun x139_106 => ld Sl.val w (x139_106.add 6) fun x141_107 => levylaw19_world_step.k100 (((x141_107.len : Nat) : Int) == 1) Q w) else (if (x73_56_0 == 197) = true then ld Sl.val w (Addr.add ⟨ob, 0, none⟩ 5) fun x149_112 => Q (decide (((x149_112.len : Nat) : Int) > 1048576)) w else ld (Value.int .i64) w (Addr.add ⟨ob, 0, none⟩ 1) fun x154_115 => ld Sl.val w (Addr.add ⟨ob, 0, none⟩ 5) fun x156_116 => levylaw19_record x154_115 x156_116 (fun x157_117_0_0 x157_117_0_1 w => al w (.cells #[.int .u8 x157_117_0_0, Sl.val x157_117_0_1] 37) fun x158_118 w => nn (some ⟨wb, 0, none⟩) fun x159_120 => Vc.st w (x159_120.add 5) (.slice (some x158_118) 1 1) fun w => (if (x73_56_0 == 190) = true then levylaw19_world_step.k122 true Q w else (if (x73_56_0 == 191) = true then levylaw19_world_step.k122 true Q w else levylaw19_world_step.k122 (x73_56_0 == 194) Q w))) w)))) (World.drew w)) w) := by
  have hdl : ds.len = data.length := by have := hds.1.1; simp at this; omega
  refine nn_some (ld_own h.own (x := p) rfl ?_)
  cases hdr : st.dr with
  | none =>
    have hp := h.drw
    unfold DrP at hp
    rw [hdr] at hp
    simp only at hp
    subst hp
    rw [if_pos (by rfl)]
    rw [hdr] at H
    exact H st rfl w c h.rep (Eff.refl _ _ _)
  | some D =>
    have hp := h.drw
    unfold DrP at hp
    rw [hdr] at hp
    obtain ⟨o, hpo, W⟩ := hp
    subst hpo
    rw [if_neg (by exact Bool.false_ne_true)]
    rw [hdr] at H
    have H : ∀ w' c', Rep w' c' wb d (putL st ⟨kindOf n, data⟩ (putP st.A D (kindOf n) data)) → Eff (fun q => q ≠ 0) w c w' c' → Q true w' := H _ rfl
    have hPC := hC D hdr
    obtain ⟨hg1, hg2⟩ := hgen D hdr
    refine ld_own oo (x := n) rfl (ld_own oo (x := ds) rfl ?_)
    refine record_spec (c := c) 8 hds.1 (by omega) fun w1 c1 q hq S1 => ?_
    refine al_own (c := c1) 8 fun b w2 c2 o2 ch2 ex2 hb2 => ?_
    refine stN_own o2 rfl fun w3 o3 ch3 _ => ?_
    have S2 := S1.new ch2 ex2
    have S3 := S2.own ch3 (Nat.le_trans S1.ch.size hb2)
    have hq3 := Row.off (hq.chg ch2 ex2 (fun _ _ => id)) ch3 o2 (.inl (by decide))
    have h3 := (h.far S3).drew
    have oo3 := (oo.chg S3.ch S3.ex id).drew
    have hds3 := (hds.chg S3.ch S3.ex (fun _ _ => id)).drew
    refine nn_some (ld_own h3.own (x := some ⟨o, 0, none⟩) rfl (ld_own o3.drew rfl (ld_own o3.drew rfl ?_)))
    have W3 := (W.far S3)
    have W3 : Drw w3.drew c2 2 o d D := Own.drew W3
    have E3 : Eff (fun q => q ≠ 0) w c w3.drew c2 := S3.drew.eff
    refine put_spec 8 h3.disk h3.ok h3.tab (by decide) (by decide) (by decide) (by decide) W3 hq3.drew.reads hdb hg1 hg2 fun w4 c4 L4 D4 W4 E34 => ?_
    have E4 : Eff (fun q => q ≠ 0) w c w4 c4 := E3.trans (E34.mono fun q hq => by omega)
    have h4 := h3.drawer D4 W4 E34 (putP_ok h3.ok D (kindOf n) data) rfl
    have oo4 := oo3.eff E34 (by decide)
    have hds4 := hds3.eff E34 (by omega)
    unfold PutC at hPC
    unfold putL at H
    generalize putP st.A D (kindOf n) data = r at *
    by_cases h0 : r.1 = 0
    · rw [if_pos h0] at H hPC
      rw [if_pos (by rw [h0]; decide)]
      refine nn_some (ld_own h4.own (x := st.soft) rfl ?_)
      rw [hsoft, if_neg (by exact Bool.false_ne_true)]
      have hrll : st.R.length = rl.length := by rw [← h.hrecs, List.length_map]
      refine step_k59 h4 rfl hrl oo4 hds4 hdb hPC.1 hPC.2.1 (by rw [hPC.2.2]; omega) fun w5 c5 R5 E5 => ?_
      exact H w5 c5 R5 (E4.trans (E5.mono fun q hq => ne_of hq))
    rw [if_neg h0] at H hPC
    rw [if_neg (by simpa using h0)]
    by_cases h196 : r.1 = 196
    · rw [if_pos (.inl h196)] at H
      rw [if_pos h196] at hPC
      rw [if_pos (by rw [h196]; decide)]
      have fin : Q true w4 := H w4 c4 h4.rep E4
      have hll : ls.len = st.late.length := by rw [h4.late.len, ← h.hlate, List.length_map]
      have hfl : fs.len = st.folded.length := by
        have h1 := h4.fold.1
        simp only [List.length_map, Nat.mul_one] at h1
        rw [← h1, ← h.hfold, List.length_map]
      refine nn_some (ld_own h4.own (x := ls) rfl ?_)
      unfold levylaw19_world_step.k100
      by_cases hlate : st.late.length = 1
      · rw [hll, hlate, if_pos (by decide)]
        exact fin
      · rw [if_neg (by rw [beq_iff_eq, hll]; omega)]
        refine nn_some (ld_own h4.own (x := fs) rfl ?_)
        rw [hfl, (hPC.resolve_left hlate)]
        exact fin
    rw [if_neg h196] at hPC
    rw [if_neg (by simpa using h196)]
    by_cases h197 : r.1 = 197
    · rw [if_pos (.inr h197)] at H
      rw [if_pos h197] at hPC
      rw [if_pos (by rw [h197]; decide)]
      have fin : Q true w4 := H w4 c4 h4.rep E4
      refine ld_own oo4 (x := ds) rfl ?_
      rw [hdl, show decide (((data.length : Nat) : Int) > 1048576) = true by rw [decide_eq_true_eq]; have : 1048576 < data.length := hPC; omega]
      exact fin
    rw [if_neg h197] at hPC
    rw [if_neg (by simpa using h197)]
    rw [if_neg (by rintro (h | h); exact h196 h; exact h197 h)] at H
    refine ld_own oo4 (x := n) rfl (ld_own oo4 (x := ds) rfl ?_)
    refine record_spec (c := c4) 6 hds4.1 (by omega) fun w5 c5 q5 hq5 S5 => ?_
    refine al_own (c := c5) 6 fun b6 w6 c6 o6 ch6 ex6 hb6 => ?_
    have S6 := S5.new ch6 ex6
    have h6 := h4.far S6
    refine nn_some (st_own h6.own (by simp) fun w7 o7 ch7 _ => ?_)
    have E7 : Eff (· = 3) w6 c6 w7 c6 := (Eff.refl _ _ _).one ch7 (fun _ => h6.own.col)
    have o67 := o6.eff E7 (by decide)
    have hq57 := (hq5.chg ch6 ex6 (fun _ _ => id)).eff E7 (by decide)
    have R7 := h6.upd (st' := { st with A := r.2.1, dr := some r.2.2, late := [⟨kindOf n, data⟩] }) (ls' := ⟨some ⟨b6, 0, none⟩, 1, 1⟩) (ll' := [(⟨kindOf n, data⟩, q5)]) E7 o7 rfl (h6.drw.eff E7 (by decide)) (h6.sm.eff E7 (by decide)) (h6.recs.eff E7 (by decide)) h6.hrecs
      ⟨⟨rfl, Nat.le_refl _, by show 1 ≤ maxLen; decide, .inr ⟨b6, _, rfl, o67, rfl, rfl⟩⟩, fun x hx => by rw [List.mem_singleton.1 hx]; exact hq57⟩ rfl (h6.fold.eff E7 (by decide)) (fun x hx => (h6.foldd x hx).eff E7 (by decide)) h6.hfold
    have fin : Q true w7 := H w7 c6 R7.rep ((E4.new S6.ch S6.ex).trans (E7.mono fun q hq => by rw [hq]; decide))
    unfold levylaw19_world_step.k122
    rcases hPC with he | he | he
    · rw [he, if_pos (by decide)]; exact fin
    · rw [he, if_neg (by decide), if_pos (by decide)]; exact fin
    · rw [he, if_neg (by decide), if_neg (by decide)]; exact fin
end
end Go.Proofs.YtjnifnlkicajhaaDoor.Kw
