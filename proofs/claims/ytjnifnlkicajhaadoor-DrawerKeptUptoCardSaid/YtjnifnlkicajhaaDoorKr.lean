/-
  DrawerKept: for every number, every script and every list of what survives, that together hold at most 1048576 values and letters, the law returns true and leaves its arguments as they were. Its conditions are that bound and the laid tables; both are the given statement's own.
-/
import Derived.Test.YtjnifnlkicajhaaDoorKq
import Derived.Test.YtjnifnlkicajhaaDoorKm
namespace Go.Proofs.YtjnifnlkicajhaaDoor.Kr
open Go Go.ChangeShapes Go.WideShapes Go.ChangeAt Go.RowKit Go.Deep Vc Hp Fs Da Dd Jn Opn Km
set_option maxRecDepth 4000

theorem contract (H : Type) (enc : TypeId × Value → H) (W : World) (base : Nat) (args : Array Value) (ds gs : List (DataW H)) (before : List MemPlace)
    (hval : ∀ (j : Nat) t v, Tryd.f5.params[j]? = some t → args[j]? = some v → Value.okWide Tryd.prog W .any base t v)
    (hW : DataW.Whole enc Tryd.prog Tryd.f5.params.toList Rows.drawerKeptSpec.vars false W args.toList ds gs before) (hk : Rows.uptoSmall H (ds ++ gs) = true) (hL : laidMetH Tryd.prog Rows.drawerKeptUptoRow.laid W) :
    Calls Tryd.prog 5 args W fun e W' => ∃ v, e = .returned v ∧ Rows.drawerKeptSpec.post enc Tryd.prog Tryd.f5 false true false false W args v W' := by
  have hW' := hW
  obtain ⟨p, q, hA0, hV, rfl, hfz, hnd⟩ := hW
  have hA : DataW.TrodAll enc Tryd.prog W 0 (fun _ => true) true Tryd.f5.params.toList args.toList ds p := hA0
  rw [Tryd.params5] at hA hval
  obtain ⟨v0, vs0, d0, ds0, p0, q0, hargs, rfl, rfl, h0, r0⟩ := trodAll_cons hA
  obtain ⟨v1, vs1, d1, ds1, p1, q1, hvs, rfl, rfl, h1, r1⟩ := trodAll_cons r0
  obtain ⟨v2, vs2, d2, ds2, p2, q2, hvs2, rfl, rfl, h2, r2⟩ := trodAll_cons r1
  obtain ⟨rfl, rfl, rfl⟩ := trodAll_nil r2
  subst hvs2
  subst hvs
  obtain rfl : args = #[v0, v1, v2] := by cases args; simp_all
  obtain ⟨rfl, rfl⟩ := trodVars_none hV
  clear hA0
  simp only [List.append_nil] at hW' hk
  obtain ⟨z0, rfl, rfl, rfl, b0⟩ := open_int Tryd.underlying22 (hval 0 _ v0 rfl rfl) h0
  have hb : Rows.uptoBulkAll [_, d1, d2] ≤ 1048576 := of_decide_eq_true hk
  simp only [Rows.uptoBulkAll] at hb
  obtain ⟨n1, t1⟩ := h1
  obtain ⟨n2, t2⟩ := h2
  obtain ⟨q1', z1, y1, rfl⟩ := okWide_slice Tryd.underlying49 (hval 1 _ v1 rfl rfl)
  obtain ⟨q2', z2, y2, rfl⟩ := okWide_slice Tryd.underlying33 (hval 2 _ v2 rfl rfl)
  obtain ⟨s1, ol, e1, hl1, hok, os⟩ := open_ops (by dsimp only; omega) t1
  obtain ⟨s2, keep, e2, hcap2, hbl2, _, ks⟩ := open_ints t2
  have e1 : Value.slice q1' z1 y1 = s1.val := by simpa [Value.cells] using e1
  have e2 : Value.slice q2' z2 y2 = s2.val := by simpa [Value.cells] using e2
  rw [e1] at t1 hW' ⊢
  rw [e2] at t2 hW' ⊢
  have hb0 : 0 ≤ z0 ∧ z0 ≤ 4294967295 := by simpa [Lit.wf, IntKind.min, IntKind.max, IntKind.signed, IntKind.bits] using b0
  obtain ⟨sum, rfl⟩ : ∃ n : Nat, z0 = (n : Int) := ⟨z0.toNat, by omega⟩
  refine (s_levylaw19_DrawerKept sum s1 s2 (fun b w' => b = true ∧ Below W.heap.size W w') W (Kw.kept_spec (tab_of hL) (by omega) os (by dsimp only at hl1; omega) hok ks
    fun w' c' E => ⟨rfl, below_of E (fun _ h => h rfl)⟩)).mono fun e W' he => ?_
  obtain ⟨v, rfl, b, rfl, rfl, hbel⟩ : ∃ v, e = .returned v ∧ ∃ b : Bool, v = .bool b ∧ b = true ∧ Below W.heap.size W W' := by
    cases e with
    | returned v => exact ⟨v, rfl, he⟩
    | _ => exact he.elim
  have hlt1 : ∀ x ∈ p1, x.block < W.heap.size := fun x hx => hW'.lt x (by simp [hx])
  have hlt2 : ∀ x ∈ p2, x.block < W.heap.size := fun x hx => hW'.lt x (by simp [hx])
  refine ⟨_, rfl, post_of_below (pv := []) hW' (fun _ _ _ => trodAll_cons_mk (shut_bool Tryd.underlying4 _) trodAll_mk0)
    (fun sp hsp => trodAll_cons_mk (shut_int Tryd.underlying22 b0)
      (trodAll_cons_mk (WideElems.Trod_stays laidOut (by kernel_rfl) (of_decide_eq_true (by kernel_rfl)) ⟨n1, t1⟩ (fun x hx => hbel.same (hlt1 x hx)) (fun x hx => hsp x (by simp [hx])))
      (trodAll_cons_mk (WideElems.Trod_stays laidOut (by kernel_rfl) (of_decide_eq_true (by kernel_rfl)) ⟨n2, t2⟩ (fun x hx => hbel.same (hlt2 x hx)) (fun x hx => hsp x (by simp [hx]))) trodAll_mk0)))
    (fun _ _ => rfl) (by simp) hbel (ok_one (by kernel_rfl) rfl (okWide_bool_mk Tryd.underlying4 _))⟩

theorem reads (os : Os) {H : Type} (enc : TypeId × Value → H) : ∃ places, DataW.whole enc Tryd.prog ((laidWorld os).forCall (fun _ _ => 0) ⟨#[], #[.int .u32 0, .slice none 0 0, .slice none 0 0], []⟩).memory Tryd.f5.params.toList Rows.drawerKeptSpec.vars false #[Value.int .u32 0, .slice none 0 0, .slice none 0 0].toList 8 = some ([.lit (.int .u32 0), .nil, .nil], [], places) :=
  ⟨[], by kernel_rfl⟩

set_option maxRecDepth 100000 in
theorem lifted (os : Os) (started : os.Started) (H : Type) (enc : TypeId × Value → H) (F : Stop.Interp) :
    ReturnsInHanded {} Tryd.checked os 5 .any ((Rows.OpenSpec.upto Rows.drawerKeptSpec).preRow enc Tryd.prog Tryd.f5 Rows.drawerKeptUptoRow.domain false Rows.drawerKeptUptoRow.laid) (((Rows.OpenSpec.upto Rows.drawerKeptSpec).at F).post enc Tryd.prog Tryd.f5 false true false false) := by
  obtain ⟨places, hx⟩ := reads os enc
  refine returnsInHanded_of_row (C := Tryd.checked) (s := Rows.OpenSpec.upto Rows.drawerKeptSpec) ownK started (by kernel_rfl) Tryd.func5
    (witness_row_atRef (enc := enc) (C := Tryd.checked) false (laidWorld os) #[.int .u32 0, .slice none 0 0, .slice none 0 0] rfl (by kernel_rfl) (by kernel_rfl) (by kernel_rfl)
      (OpenSpec.preRow_of_cond 8 hx (by kernel_rfl) (fun k hk => by cases hk; kernel_rfl) (by kernel_rfl) (laid_met os _))) ?_
  intro W base args ds gs before hval hW _ hcond _ hL _ _
  exact contract H enc W base args ds gs before hval hW (hcond _ rfl) hL

theorem said : Rows.DrawerKeptUptoSaid :=
  OpenClaim.holds_of_cond 5 Tryd.f5 rfl rfl rfl rfl rfl rfl rfl ⟨rfl, rfl, rfl, rfl, rfl⟩ rfl rfl rfl rfl rfl (by kernel_rfl) Tryd.func5 (by kernel_rfl)
    (of_decide_eq_true (by kernel_rfl)) (by unfold Func.isWrapper; first | (rw [if_pos (by decide +kernel)]; kernel_rfl) | (rw [if_neg (by decide +kernel)]; exact ⟨rfl, rfl⟩))
    (fun os started H enc _ F => by rw [OpenClaim.pre_eq_preRow]; exact lifted os started H enc F)

theorem plain (f : FuncId) (fn : Func) (hf : Tryd.pinned.checked.prog.funcNamed "levy/levylaw19.DrawerKept" = some f) (hfn : Tryd.pinned.checked.prog.funcs[f]? = some fn) :
    true = Tryd.pinned.checked.prog.looks [] ∧ ∀ (j : Nat) t, fn.params[j]? = some t → Tryd.pinned.checked.prog.wantsStandIn t = false := by
  obtain rfl : f = 5 := Option.some.inj ((show Tryd.prog.funcNamed "levy/levylaw19.DrawerKept" = some 5 by kernel_rfl).symm.trans hf) |>.symm
  obtain rfl : fn = Tryd.f5 := (Option.some.inj (Tryd.func5.symm.trans hfn)).symm
  refine ⟨by kernel_rfl, fun j t ht => ?_⟩
  rw [Tryd.params5] at ht
  have ht' : t = 22 ∨ t = 49 ∨ t = 33 := by simpa using Array.mem_of_getElem? ht
  rcases ht' with rfl | rfl | rfl
  · exact (show Tryd.prog.wantsStandIn 22 = false by kernel_rfl)
  · exact (show Tryd.prog.wantsStandIn 49 = false by kernel_rfl)
  · exact (show Tryd.prog.wantsStandIn 33 = false by kernel_rfl)

theorem drawerKept_card : Rows.DrawerKeptUptoCardSaid :=
  Claim7.holds_tied_plain_at .later [] _ _ _ _ said (fun _ h => by cases h) (by kernel_rfl) (fun _ h => by cases h) drawerKeptUpto_row_tie rfl ⟨rfl, rfl⟩ (by kernel_rfl) rfl plain (by kernel_rfl)
end Go.Proofs.YtjnifnlkicajhaaDoor.Kr
