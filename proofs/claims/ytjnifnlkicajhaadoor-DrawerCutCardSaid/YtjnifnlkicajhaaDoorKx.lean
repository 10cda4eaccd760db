/-
  DrawerCut: for every number, every list of bodies and every two places, the law returns true and leaves its arguments as they were. There is no condition beyond the laid tables that the given statement itself lists.
-/
import Derived.Test.YtjnifnlkicajhaaDoorKv
import Derived.Test.YtjnifnlkicajhaaDoorKm
namespace Go.Proofs.YtjnifnlkicajhaaDoor.Kx
open Go Go.ChangeShapes Go.WideShapes Go.ChangeAt Go.RowKit Go.Deep Vc Hp Fs Da Dd Jn Opn Km
set_option maxRecDepth 4000

instance : Inhabited (List UInt8 × Sl) := ⟨([], ⟨none, 0, 0⟩)⟩
theorem open_byteses {H : Type} {enc : TypeId × Value → H} {w : World} {base : Nat} {spare : Nat → Bool} {held : Bool} {fuel : Nat} {cs : List Value} {x : DataW H × List MemPlace} (h : DataW.trod enc Tryd.prog w base spare held fuel 23 cs = some x) :
    ∃ (s : Sl) (bl : List (List UInt8 × Sl)), cs = [s.val] ∧ (∀ y ∈ bl, Src w (fun _ => 0) 0 1 y.2 (y.1.map u8) ∧ y.2.len ≤ y.2.cap) ∧ Src w (fun _ => 0) 0 1 s (bl.map fun y => y.2.val) := by
  rcases open_slice1 Tryd.underlying23 (by kernel_rfl) h with ⟨rfl, rfl⟩ | ⟨a, len, cap, m, n, V, D, Pl, rfl, hb, hl, hm, hmm, rfl, hV⟩
  · exact ⟨⟨none, 0, 0⟩, [], rfl, by simp, src_nil⟩
  · have hlm : len ≤ m := by rw [hmm]; split <;> omega
    have key : ∀ i, i < len → ∃ y : List UInt8 × Sl, w.cell? (a.add i) = some y.2.val ∧ Src w (fun _ => 0) 0 1 y.2 (y.1.map u8) ∧ y.2.len ≤ y.2.cap := fun i hi => by
      obtain ⟨hc, ht⟩ := hV i (by omega)
      obtain ⟨s, b, e, hcap, _, src⟩ := open_bytes ht
      have e : V i = s.val := by simpa using e
      exact ⟨(b, s), by rw [hc, e], src, hcap⟩
    obtain ⟨F, hF⟩ := choose_lt key
    refine ⟨⟨some a, len, cap⟩, (List.range len).map F, rfl, fun y hy => ?_, src_range (by simp) fun j u hj => ?_⟩
    · obtain ⟨i, hi, rfl⟩ := List.mem_map.1 hy
      exact (hF i (List.mem_range.1 hi)).2
    · rw [List.map_map, List.getElem?_map] at hj
      obtain ⟨i, hi, rfl⟩ := Option.map_eq_some_iff.1 hj
      obtain ⟨hi1, hi2⟩ := List.getElem?_eq_some_iff.1 hi
      rw [List.length_range] at hi1
      rw [List.getElem_range] at hi2
      subst hi2
      exact (hF _ hi1).1

theorem contract (H : Type) (enc : TypeId × Value → H) (W : World) (base : Nat) (args : Array Value) (ds gs : List (DataW H)) (before : List MemPlace)
    (hval : ∀ (j : Nat) t v, Tryd.f3.params[j]? = some t → args[j]? = some v → Value.okWide Tryd.prog W .any base t v)
    (hW : DataW.Whole enc Tryd.prog Tryd.f3.params.toList Rows.drawerCutSpec.vars false W args.toList ds gs before) (hL : laidMetH Tryd.prog Rows.drawerCutRow.laid W) :
    Calls Tryd.prog 3 args W fun e W' => ∃ v, e = .returned v ∧ Rows.drawerCutSpec.post enc Tryd.prog Tryd.f3 false true false false W args v W' := by
  have hW' := hW
  obtain ⟨p, q, hA0, hV, rfl, hfz, hnd⟩ := hW
  have hA : DataW.TrodAll enc Tryd.prog W 0 (fun _ => true) true Tryd.f3.params.toList args.toList ds p := hA0
  rw [Tryd.params3] at hA hval
  obtain ⟨v0, vs0, d0, ds0, p0, q0, hargs, rfl, rfl, h0, r0⟩ := trodAll_cons hA
  obtain ⟨v1, vs1, d1, ds1, p1, q1, hvs, rfl, rfl, h1, r1⟩ := trodAll_cons r0
  obtain ⟨v2, vs2, d2, ds2, p2, q2, hvs2, rfl, rfl, h2, r2⟩ := trodAll_cons r1
  obtain ⟨v3, vs3, d3, ds3, p3, q3, hvs3, rfl, rfl, h3, r3⟩ := trodAll_cons r2
  obtain ⟨rfl, rfl, rfl⟩ := trodAll_nil r3
  subst hvs3
  subst hvs2
  subst hvs
  obtain rfl : args = #[v0, v1, v2, v3] := by cases args; simp_all
  obtain ⟨rfl, rfl⟩ := trodVars_none hV
  clear hA0
  simp only [List.append_nil] at hW'
  obtain ⟨z0, rfl, rfl, rfl, b0⟩ := open_int Tryd.underlying22 (hval 0 _ v0 rfl rfl) h0
  obtain ⟨z2, rfl, rfl, rfl, b2⟩ := open_int Tryd.underlying3 (hval 2 _ v2 rfl rfl) h2
  obtain ⟨z3, rfl, rfl, rfl, b3⟩ := open_int Tryd.underlying3 (hval 3 _ v3 rfl rfl) h3
  obtain ⟨n1, t1⟩ := h1
  obtain ⟨q1', z1, y1, rfl⟩ := okWide_slice Tryd.underlying23 (hval 1 _ v1 rfl rfl)
  obtain ⟨s1, bl, e1, hbl, src⟩ := open_byteses t1
  have e1 : Value.slice q1' z1 y1 = s1.val := by simpa [Value.cells] using e1
  rw [e1] at t1 hW' ⊢
  have hb0 : 0 ≤ z0 ∧ z0 ≤ 4294967295 := by simpa [Lit.wf, IntKind.min, IntKind.max, IntKind.signed, IntKind.bits] using b0
  have hb2 : -Pm.maxI - 1 ≤ z2 ∧ z2 ≤ Pm.maxI := by simpa [Lit.wf, IntKind.min, IntKind.max, IntKind.signed, IntKind.bits, Pm.maxI] using b2
  have hb3 : -Pm.maxI - 1 ≤ z3 ∧ z3 ≤ Pm.maxI := by simpa [Lit.wf, IntKind.min, IntKind.max, IntKind.signed, IntKind.bits, Pm.maxI] using b3
  obtain ⟨sum, rfl⟩ : ∃ n : Nat, z0 = (n : Int) := ⟨z0.toNat, by omega⟩
  refine (s_levylaw19_DrawerCut sum s1 z2 z3 (fun b w' => b = true ∧ Below W.heap.size W w') W (Kw.cut_spec (tab_of hL) (by omega) src hbl hb2 hb3
    fun w' c' E => ⟨rfl, below_of E (fun _ h => h rfl)⟩)).mono fun e W' he => ?_
  obtain ⟨v, rfl, b, rfl, rfl, hbel⟩ : ∃ v, e = .returned v ∧ ∃ b : Bool, v = .bool b ∧ b = true ∧ Below W.heap.size W W' := by
    cases e with
    | returned v => exact ⟨v, rfl, he⟩
    | _ => exact he.elim
  have hlt1 : ∀ x ∈ p1, x.block < W.heap.size := fun x hx => hW'.lt x (by simp [hx])
  refine ⟨_, rfl, post_of_below (pv := []) hW' (fun _ _ _ => trodAll_cons_mk (shut_bool Tryd.underlying4 _) trodAll_mk0)
    (fun sp hsp => trodAll_cons_mk (shut_int Tryd.underlying22 b0)
      (trodAll_cons_mk (WideElems.Trod_stays laidOut (by kernel_rfl) (of_decide_eq_true (by kernel_rfl)) ⟨n1, t1⟩ (fun x hx => hbel.same (hlt1 x hx)) (fun x hx => hsp x (by simp [hx])))
      (trodAll_cons_mk (shut_int Tryd.underlying3 b2) (trodAll_cons_mk (shut_int Tryd.underlying3 b3) trodAll_mk0))))
    (fun _ _ => rfl) (by simp) hbel (ok_one (by kernel_rfl) rfl (okWide_bool_mk Tryd.underlying4 _))⟩

theorem reads (os : Os) {H : Type} (enc : TypeId × Value → H) : ∃ places, DataW.whole enc Tryd.prog ((laidWorld os).forCall (fun _ _ => 0) ⟨#[], #[.int .u32 0, .slice none 0 0, .int .i64 0, .int .i64 0], []⟩).memory Tryd.f3.params.toList Rows.drawerCutSpec.vars false #[Value.int .u32 0, .slice none 0 0, .int .i64 0, .int .i64 0].toList 8 = some ([.lit (.int .u32 0), .nil, .lit (.int .i64 0), .lit (.int .i64 0)], [], places) :=
  ⟨[], by kernel_rfl⟩

set_option maxRecDepth 100000 in
theorem lifted (os : Os) (started : os.Started) (H : Type) (enc : TypeId × Value → H) (F : Stop.Interp) :
    ReturnsInHanded {} Tryd.checked os 3 .any ((OpenSpec.ofChange Rows.drawerCutSpec).preRow enc Tryd.prog Tryd.f3 Rows.drawerCutRow.domain false Rows.drawerCutRow.laid) (((OpenSpec.ofChange Rows.drawerCutSpec).at F).post enc Tryd.prog Tryd.f3 false true false false) := by
  obtain ⟨places, hx⟩ := reads os enc
  refine returnsInHanded_of_row (C := Tryd.checked) (s := OpenSpec.ofChange Rows.drawerCutSpec) ownK started (by kernel_rfl) Tryd.func3
    (witness_row_atRef (enc := enc) (C := Tryd.checked) false (laidWorld os) #[.int .u32 0, .slice none 0 0, .int .i64 0, .int .i64 0] rfl (by kernel_rfl) (by kernel_rfl) (by kernel_rfl)
      (OpenSpec.preRow_of_cond 8 hx (by kernel_rfl) (fun k hk => by cases hk) (by kernel_rfl) (laid_met os _))) ?_
  intro W base args ds gs before hval hW _ _ _ hL _ _
  exact contract H enc W base args ds gs before hval hW hL

theorem said : Rows.DrawerCutSaid :=
  OpenClaim.holds_of_cond 3 Tryd.f3 rfl rfl rfl rfl rfl rfl rfl ⟨rfl, rfl, rfl, rfl, rfl⟩ rfl rfl rfl rfl rfl (by kernel_rfl) Tryd.func3 (by kernel_rfl)
    (of_decide_eq_true (by kernel_rfl)) (by unfold Func.isWrapper; first | (rw [if_pos (by decide +kernel)]; kernel_rfl) | (rw [if_neg (by decide +kernel)]; exact ⟨rfl, rfl⟩))
    (fun os started H enc _ F => by rw [OpenClaim.pre_eq_preRow]; exact lifted os started H enc F)

theorem plain (f : FuncId) (fn : Func) (hf : Tryd.pinned.checked.prog.funcNamed "levy/levylaw19.DrawerCut" = some f) (hfn : Tryd.pinned.checked.prog.funcs[f]? = some fn) :
    true = Tryd.pinned.checked.prog.looks [] ∧ ∀ (j : Nat) t, fn.params[j]? = some t → Tryd.pinned.checked.prog.wantsStandIn t = false := by
  obtain rfl : f = 3 := Option.some.inj ((show Tryd.prog.funcNamed "levy/levylaw19.DrawerCut" = some 3 by kernel_rfl).symm.trans hf) |>.symm
  obtain rfl : fn = Tryd.f3 := (Option.some.inj (Tryd.func3.symm.trans hfn)).symm
  refine ⟨by kernel_rfl, fun j t ht => ?_⟩
  rw [Tryd.params3] at ht
  have ht' : t = 22 ∨ t = 23 ∨ t = 3 := by simpa using Array.mem_of_getElem? ht
  rcases ht' with rfl | rfl | rfl
  · exact (show Tryd.prog.wantsStandIn 22 = false by kernel_rfl)
  · exact (show Tryd.prog.wantsStandIn 23 = false by kernel_rfl)
  · exact (show Tryd.prog.wantsStandIn 3 = false by kernel_rfl)

theorem drawerCut_card : Rows.DrawerCutCardSaid :=
  Claim7.holds_tied_plain_at .later [] _ _ _ _ said (fun _ h => by cases h) (by kernel_rfl) (fun _ h => by cases h) drawerCut_row_tie rfl ⟨rfl, rfl⟩ (by kernel_rfl) rfl plain (by kernel_rfl)
end Go.Proofs.YtjnifnlkicajhaaDoor.Kx
