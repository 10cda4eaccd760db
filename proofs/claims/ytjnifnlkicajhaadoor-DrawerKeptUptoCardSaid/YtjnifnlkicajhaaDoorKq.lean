/-
  The law DrawerKept: its walk. No condition is put on any statement here.
-/
import Derived.Test.YtjnifnlkicajhaaDoorKo
import Derived.Test.YtjnifnlkicajhaaDoorKf
import Derived.Test.YtjnifnlkicajhaaDoorKk
import Derived.Test.YtjnifnlkicajhaaDoorKp
namespace Go.Proofs.YtjnifnlkicajhaaDoor.Kw
open Go Vc Hp Fs Da Pm Dd Jn Kp Opn
set_option maxRecDepth 4000
section
variable {w : World} {c : Col} {wb d m : Nat} {L : List FE} {st : LS} {p : Option Addr} {ss rs ls fs : Sl} {rl ll : List (Rec × Sl)} {fl : List (List UInt8 × Sl)}
theorem Rp.rlFew (h : Rp w c wb d m L st p ss rs ls fs rl ll fl) {n : Nat} (I : Inv n st) (hn : n ≤ 8388608) : rl.length ≤ 4294967296 := by
  have h1 := I.len
  rw [← h.hrecs, List.length_map] at h1
  omega
theorem src0 {w : World} {c : Col} {j sz : Nat} : Src w c j sz ⟨none, 0, 0⟩ [] := ⟨⟨by simp, .inl ⟨rfl, rfl⟩⟩, fun a ha _ => by cases ha⟩
theorem srcLit {w : World} {c : Col} {k b n t : Nat} {cs : Array Value} (o : Own w c b k (.cells cs t (0, 0))) (hn : cs.size = n) : Src w c k 1 ⟨some ⟨b, 0, none⟩, n, n⟩ cs.toList :=
  ⟨⟨by simp [hn], .inr ⟨_, rfl, fun j u hj => by
    rw [add_mk, Nat.zero_add, o.cell]
    simpa using hj⟩⟩, fun a ha _ => by
    obtain rfl : (⟨b, 0, none⟩ : Addr) = a := Option.some.inj ha
    exact o.col⟩

/-- the end of the law: what holds behind the script -/
theorem kept_end {n : Nat} {x2 : Sl} {keep : List Int} {Q : Bool → World → Prop} (h : Rp w c wb d m L st p ss rs ls fs rl ll fl) (I : Inv n st) (hn : n ≤ 1048576) (ks : Src w c 0 1 x2 (keep.map (Value.int .i64)))
    (H : ∀ w' c', Eff (fun q => q ≠ 0) w c w' c' → Q true w') : levylaw19_DrawerKept.k9 x2 (some ⟨wb, 0, none⟩) Q w := by
  unfold levylaw19_DrawerKept.k9
  refine other_spec (keep := []) (jd := 0) h (I.gens (by omega)) I.fit.sum (by have := h.rlFew I (by omega); omega) src0 (by decide) (I.otherC (by omega) []) fun w1 c1 h1 E1 => ?_
  have E01 : Eff (fun q => q ≠ 0) w c w1 c1 := E1.mono fun q hq => by omega
  rw [if_pos rfl]
  have ks1 := ks.eff E01 (by decide)
  refine other_spec (keep := keep) (jd := 0) h1 (I.gens (by omega)) I.fit.sum (by have := h1.rlFew I (by omega); omega) ks1 (by decide) (I.otherC (by omega) keep) fun w2 c2 h2 E2 => ?_
  have E02 : Eff (fun q => q ≠ 0) w c w2 c2 := E01.trans (E2.mono fun q hq => by omega)
  unfold levylaw19_DrawerKept.k10
  rw [if_neg (by decide)]
  have ks2 := ks.eff E02 (by decide)
  refine nn_some (ld_own h2.own (x := some ⟨d, 0, none⟩) rfl ?_)
  refine restart_spec h2.disk h2.ok ks2 (by decide) fun w3 c3 L3 D3 E3 => ?_
  have h3 := h2.disk' D3 E3 (h2.ok.restart keep)
  have E03 : Eff (fun q => q ≠ 0) w c w3 c3 := E02.trans (E3.mono fun q hq => by omega)
  have I3 := I.restart keep
  refine Kw.open_spec h3 (I3.gens (by omega)) I3.fit.sum (by have := h3.rlFew I3 (by omega); omega) (I3.openC (by omega)) fun st4 hst4 w4 c4 R4 E4 => ?_
  have E04 := E03.trans E4
  have I4 := I3.openR (by omega) hst4
  obtain ⟨wl4, ⟨DD4, hD4, hk4⟩, _, hla4, hfo4, _⟩ := open_well I3 (by omega) (well_restart st.A keep) hst4
  clear hst4
  rw [if_pos rfl]
  obtain ⟨m4, L4, p4, ss4, rs4, ls4, fs4, rl4, ll4, fl4, h4⟩ := R4
  have hdr4 := h4.drw
  rw [hD4] at hdr4
  obtain ⟨o, rfl, _⟩ := hdr4
  refine nn_some (ld_own h4.own (x := some ⟨o, 0, none⟩) rfl ?_)
  rw [show Option.isNone (some (⟨o, 0, none⟩ : Addr)) = false from rfl, if_neg (by exact Bool.false_ne_true)]
  refine al_own (c := c4) 8 fun b5 w5 c5 o5 ch5 ex5 _ => ?_
  have S5 : Sofar w4 c4 w5 c5 := ⟨ch5, ex5⟩
  have h5 := h4.far S5
  have E05 := E04.new ch5 ex5
  have C5 := I4.step (by omega) 13 0 0 [1, 2] [] (by decide) (by decide)
  refine step_spec (data := [1, 2]) (keep := []) (jd := 8) (jk := 0) h5 (I4.gens (by omega)) I4.fit.sum (h5.rlFew I4 (by omega)) (srcLit o5 rfl) (.inr rfl) (by decide) src0 (.inl rfl) (by decide) (by decide) I4.fit.soft (I4.drs (by omega)) C5.1 fun st6 hst6 w6 c6 R6 E6 => ?_
  have I6 := C5.2 st6 hst6
  have E06 := E05.trans E6
  obtain ⟨f0, fw, fst⟩ := fold_well (b := [1, 2]) I4 (by omega) wl4 hD4 hk4 (by decide)
  have e6 : st6 = { st4 with A := (foldP st4.A DD4 [1, 2]).2.1, dr := some (foldP st4.A DD4 [1, 2]).2.2, S := [1, 2], R := [] } := by
    unfold StepR at hst6
    rw [if_neg (by decide), if_neg (by decide), if_neg (by decide), if_neg (by decide), if_neg (by decide), if_neg (by decide), if_neg (by decide), if_pos rfl, hD4] at hst6
    dsimp only at hst6
    rw [hst6]
    unfold foldL
    rw [if_pos f0]
  have wl6 : Well st6.A := by rw [e6]; exact fw
  have hD6 : st6.dr = some (foldP st4.A DD4 [1, 2]).2.2 := by rw [e6]
  have hS6 : st6.S = [1, 2] := by rw [e6]
  have hR6 : st6.R = [] := by rw [e6]
  have hla6 : st6.late = [] := by rw [e6]; exact hla4
  have hfo6 : st6.folded = [] := by rw [e6]; exact hfo4
  clear hst6 e6 C5
  rw [if_pos rfl]
  obtain ⟨m6, L6, p6, ss6, rs6, ls6, fs6, rl6, ll6, fl6, h6⟩ := R6
  refine al_own (c := c6) 8 fun b7 w7 c7 o7 ch7 ex7 _ => ?_
  have S7 : Sofar w6 c6 w7 c7 := ⟨ch7, ex7⟩
  have h7 := h6.far S7
  have E07 := E06.new ch7 ex7
  have C7 := I6.step (by omega) 12 9 0 [3] [] (by decide) (by decide)
  refine step_spec (data := [3]) (keep := []) (jd := 8) (jk := 0) h7 (I6.gens (by omega)) I6.fit.sum (h7.rlFew I6 (by omega)) (srcLit o7 rfl) (.inr rfl) (by decide) src0 (.inl rfl) (by decide) (by decide) I6.fit.soft (I6.drs (by omega)) C7.1 fun st8 hst8 w8 c8 R8 E8 => ?_
  have I8 := C7.2 st8 hst8
  have E08 := E07.trans E8
  have hz : (enc st6.sum st6.S st6.R).length + ([3] : List UInt8).length + 18 ≤ 2097152 := by rw [enc_len, hS6, hR6]; decide
  obtain ⟨g0, _, _⟩ := put_well (k := kindOf 9) (b := [3]) I6 (by omega) wl6 hD6 fst (by decide) hz
  have e8 : st8 = { st6 with A := (putP st6.A (foldP st4.A DD4 [1, 2]).2.2 (kindOf 9) [3]).2.1, dr := some (putP st6.A (foldP st4.A DD4 [1, 2]).2.2 (kindOf 9) [3]).2.2, R := st6.R ++ [⟨kindOf 9, [3]⟩] } := by
    unfold StepR at hst8
    rw [if_neg (by decide), if_neg (by decide), if_neg (by decide), if_neg (by decide), if_neg (by decide), if_neg (by decide), if_pos rfl, hD6] at hst8
    dsimp only at hst8
    rw [hst8]
    unfold putL
    rw [if_pos g0]
  have hS8 : st8.S = [1, 2] := by rw [e8]; exact hS6
  have hR8 : st8.R = [⟨kindOf 9, [3]⟩] := by rw [e8]; show st6.R ++ _ = _; rw [hR6]; rfl
  have hla8 : st8.late = [] := by rw [e8]; exact hla6
  have hfo8 : st8.folded = [] := by rw [e8]; exact hfo6
  clear hst8 e8 C7
  obtain ⟨m8, L8, p8, ss8, rs8, ls8, fs8, rl8, ll8, fl8, h8⟩ := R8
  have hrs8 : rs8.len = 1 := by
    have h1 := congrArg List.length h8.hrecs
    rw [List.length_map, hR8] at h1
    rw [h8.recs.len, h1]
    rfl
  have hss8 : ss8.len = 2 := by
    have h1 := h8.sm.1
    rw [hS8] at h1
    simp at h1
    omega
  unfold levylaw19_DrawerKept.k15
  rw [if_neg (by decide)]
  refine nn_some (ld_own h8.own (x := rs8) rfl ?_)
  rw [hrs8, if_neg (by decide)]
  refine nn_some (ld_own h8.own (x := ss8) rfl ?_)
  rw [hss8]
  unfold levylaw19_DrawerKept.k17
  rw [if_neg (by decide)]
  refine nn_some (ld_own h8.own (x := some ⟨d, 0, none⟩) rfl ?_)
  refine restart_spec (keep := []) (j := 0) h8.disk h8.ok src0 (by decide) fun w9 c9 L9 D9 E9 => ?_
  have h9 := h8.disk' D9 E9 (h8.ok.restart [])
  have E09 : Eff (fun q => q ≠ 0) w c w9 c9 := E08.trans (E9.mono fun q hq => by omega)
  have I9 := I8.restart []
  refine Kw.open_spec h9 (I9.gens (by omega)) I9.fit.sum (by have := h9.rlFew I9 (by omega); omega) (I9.openC (by omega)) fun st10 hst10 w10 c10 R10 E10 => ?_
  have E010 := E09.trans E10
  obtain ⟨_, _, hm10, _⟩ := open_well I9 (by omega) (well_restart st8.A []) hst10
  have hR10 := (may_same hm10 hla8 hfo8).2
  have hR10 : st10.R = [⟨kindOf 9, [3]⟩] := hR10.trans hR8
  rw [if_pos rfl]
  obtain ⟨m10, L10, p10, ss10, rs10, ls10, fs10, rl10, ll10, fl10, h10⟩ := R10
  have hrl10 : rl10.map (·.1) = [⟨kindOf 9, [3]⟩] := h10.hrecs.trans hR10
  have hl10 : rl10.length = 1 := by have := congrArg List.length hrl10; simpa using this
  have hrs10 : rs10.len = 1 := by rw [h10.recs.len, hl10]
  refine nn_some (ld_own h10.own (x := rs10) rfl ?_)
  rw [hrs10, if_pos (by decide)]
  refine nn_some (ld_own h10.own (x := rs10) rfl ?_)
  obtain ⟨⟨r, q⟩, rfl⟩ : ∃ x, rl10 = [x] := List.length_eq_one_iff.1 hl10
  have hre : r = ⟨kindOf 9, [3]⟩ := by simpa using hrl10
  subst hre
  refine rix (i := 0) (RSrc.of h10.recs) (by simp) fun a a0 a1 => ⟨_, a0, ?_⟩
  unfold levylaw19_DrawerKept.k22
  exact H w10 c10 E010

theorem kept_spec {sum : Nat} {x1 x2 : Sl} {ol : List OpV} {keep : List Int} {Q : Bool → World → Prop} (T : Tab w c) (hs : sum < 4294967296) (os : OSrc w c x1 ol) (hol : ol.length ≤ 1048576) (hok : ∀ o ∈ ol, OOk o)
    (ks : Src w c 0 1 x2 (keep.map (Value.int .i64))) (H : ∀ w' c', Eff (fun q => q ≠ 0) w c w' c' → Q true w') : levylaw19_DrawerKept (sum : Int) x1 x2 Q w := by
  have hxl : x1.len = ol.length := by have := os.row.1.1; rw [ocells_len] at this; omega
  unfold levylaw19_DrawerKept
  refine known_spec T fun w1 c1 E1 => ?_
  rw [if_pos rfl, if_neg (by rw [decide_eq_true_eq]; omega)]
  refine begin_spec (c := c1) (sum := sum) (T.eff E1 (by decide)) fun w2 c2 wb d R2 S2 => ?_
  rw [if_neg (by exact Bool.false_ne_true)]
  obtain ⟨m, L, p, ss, rs, ls, fs, rl, ll, fl, h2⟩ := R2
  have hrl : rl.length = 0 := by have := congrArg List.length h2.hrecs; rw [List.length_map] at this; exact this
  refine Kw.open_spec h2 (fun f hf => by cases hf) hs (by omega) (zero_openC sum) fun st' hst w3 c3 R3 E3 => ?_
  rw [zero_openR hst] at R3
  clear h2 hrl hst
  have E03 := (E1.trans S2.eff).trans E3
  unfold levylaw19_DrawerKept.k7
  rw [if_neg (by decide)]
  refine Fix.intro (fun (z : Int) v => ∃ (i : Nat) (c' : Col) (st : LS), z = i ∧ i ≤ ol.length ∧ Rep v c' wb d st ∧ Inv i st ∧ Eff (fun q => q ≠ 0) w c v c') (fun z _ => ol.length - z.toNat) ?_ ⟨0, c3, LS.first sum, rfl, Nat.zero_le _, R3, first_inv hs, E03⟩
  rintro z v K ⟨i, c', st, rfl, hi, ⟨m, L, p, ss, rs, ls, fs, rl, ll, fl, hv⟩, I, E⟩ hK
  unfold levylaw19_DrawerKept.l68
  by_cases hlt : i < ol.length
  · rw [if_pos (by rw [decide_eq_true_eq]; omega)]
    have os' := os.eff E (by decide)
    have hmem := List.getElem_mem hlt
    have hcells := fun j hj => ocells_at hlt j hj
    have ok := hok _ hmem
    have dsrc := os'.data _ hmem
    have ksrc := os'.keep _ hmem
    generalize hoo : ol[i] = oo at *
    obtain ⟨a0, ha0, hh⟩ : ∃ a0, x1.p = some a0 ∧ ∀ j u, (ocells ol)[j]? = some u → v.cell? (a0.add j) = some u := by
      rcases os'.row.1.2 with ⟨_, h0⟩ | h
      · omega
      · exact h
    have cell : ∀ j (hj : j < 8) {u}, [Value.int .i64 oo.kind, .int .i64 oo.n, .int .i64 oo.m, .bool oo.second, .string oo.name, oo.ds.val, oo.ks.val, .int .u32 oo.sum][j]? = some u → v.cell? ((a0.add (i * 8)).add j) = some u := fun j hj {u} e => by
      rw [Addr.add_add]
      exact hh _ _ (by rw [hcells j hj]; exact e)
    refine ⟨a0, ha0, by omega, by omega, ?_⟩
    rw [Int.toNat_natCast]
    refine ⟨oo.kind, cell 0 (by omega) rfl, oo.n, cell 1 (by omega) rfl, oo.m, cell 2 (by omega) rfl, oo.second, cell 3 (by omega) rfl, oo.name, cell 4 (by omega) rfl, oo.ds, cell 5 (by omega) rfl, oo.ks, cell 6 (by omega) rfl, oo.sum, cell 7 (by omega) rfl, ?_⟩
    have C := I.step (by omega) oo.kind oo.n oo.m oo.data oo.keep ok.n ok.m
    refine step_spec hv (I.gens (by omega)) I.fit.sum (hv.rlFew I (by omega)) dsrc (.inl rfl) ok.data ksrc (.inl rfl) ok.n ok.m I.fit.soft (I.drs (by omega)) C.1 fun st' hst w2 c2 R2 E2 => ?_
    rw [if_pos rfl, Da.wrap_small (i := (i : Int) + 1) (by omega) (by omega)]
    exact hK _ _ ⟨i + 1, c2, st', by omega, hlt, R2, C.2 st' hst, E.trans E2⟩ (by omega)
  · rw [if_neg (by rw [decide_eq_true_eq]; omega)]
    exact kept_end hv I (by omega) (ks.eff E (by decide)) fun w' c'' E' => H w' c'' (E.trans E')
end
end Go.Proofs.YtjnifnlkicajhaaDoor.Kw
