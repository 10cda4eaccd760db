/-
  DrawerDisk: for every list of files and every script that together hold at most 1048576 values and letters, the law returns true and leaves its arguments as they were. Its one condition is that bound; it is the given statement's own.
-/
import Derived.Test.YtjnifnlkicajhaaLo
import Derived.Test.YtjnifnlkicajhaaOpen
namespace Go.Proofs.Ytjnifnlkicajhaa.Row
open Go Go.ChangeShapes Go.WideShapes Go.ChangeAt Go.RowKit Go.Deep Vc Hp Fs Da Dd Opn La
set_option maxRecDepth 4000
section
variable {H : Type} {enc : TypeId × Value → H} {w : World} {base : Nat} {spare : Nat → Bool} {held : Bool}
instance : Inhabited (AF × Sl) := ⟨(⟨⟨#[]⟩, [], 0⟩, ⟨none, 0, 0⟩)⟩
instance : Inhabited OpV := ⟨⟨0, 0, 0, false, ⟨#[]⟩, ⟨none, 0, 0⟩, [], ⟨none, 0, 0⟩, [], 0⟩⟩
theorem open_files {fuel : Nat} {cs : List Value} {x : DataW H × List MemPlace} (h : DataW.trod enc Try.prog w base spare held fuel 22 cs = some x) :
    ∃ (s : Sl) (fl : List (AF × Sl)), cs = [s.val] ∧ fl.length ≤ Rows.uptoBulk x.1 ∧ (∀ p ∈ fl, p.1.data.length ≤ Rows.uptoBulk x.1 ∧ p.1.name.size ≤ Rows.uptoBulk x.1) ∧ FSrc w (fun _ => 0) 0 s fl := by
  rcases open_slice_fields Try.underlying22 Try.underlying74 (by kernel_rfl) (by kernel_rfl) h with ⟨rfl, rfl⟩ | ⟨a, len, cap, D, rest, rfl, hl, hx, hi⟩
  · exact ⟨⟨none, 0, 0⟩, [], rfl, by simp, by simp, ⟨src_nil, by simp⟩⟩
  · have key : ∀ i, i < len → ∃ p : AF × Sl, w.cell? (a.add (i * 3 + 0)) = some (.string p.1.name) ∧ w.cell? (a.add (i * 3 + 1)) = some p.2.val ∧ w.cell? (a.add (i * 3 + 2)) = some (.int .i64 p.1.sure) ∧
        Src w (fun _ => 0) 0 1 p.2 (p.1.data.map u8) ∧ p.1.data.length ≤ Rows.uptoBulk (D i) ∧ p.1.name.size ≤ Rows.uptoBulk (D i) := fun i hil => by
      obtain ⟨ys, n, hD, hf⟩ := hi i hil
      obtain ⟨v0, y0, c0, g0, t0⟩ := hf 0 _ rfl
      obtain ⟨v1, y1, c1, g1, t1⟩ := hf 1 _ rfl
      obtain ⟨v2, y2, c2, g2, t2⟩ := hf 2 _ rfl
      obtain ⟨nm, e0, hn, _⟩ := DataW.trod_string Try.underlying9 t0
      obtain ⟨s1, b1, e1, hc1, hb1, r1⟩ := open_bytes t1
      obtain ⟨z, e2, _, _⟩ := DataW.trod_int Try.underlying3 t2
      obtain rfl : v0 = .string nm := by simpa using e0
      obtain rfl : v1 = s1.val := by simpa using e1
      obtain rfl : v2 = .int .i64 z := by simpa using e2
      exact ⟨(⟨nm, b1, z⟩, s1), c0, c1, c2, r1, by rw [hD]; exact Nat.le_trans hb1 (bulk_field g1), by rw [hD]; refine Nat.le_trans ?_ (bulk_field g0); rw [hn]; exact bulk_str⟩
    obtain ⟨F, hF⟩ := choose_lt key
    refine ⟨⟨some a, len, cap⟩, (List.range len).map F, rfl, by rw [hx, List.length_map, List.length_range]; exact bulk_len, fun p hp => ?_, ⟨?_, fun p hp => ?_⟩⟩
    · obtain ⟨i, hi', rfl⟩ := List.mem_map.1 hp
      obtain ⟨_, _, _, _, h1, h2⟩ := hF i (List.mem_range.1 hi')
      rw [hx]
      exact ⟨Nat.le_trans h1 (bulk_elem (List.mem_range.1 hi')), Nat.le_trans h2 (bulk_elem (List.mem_range.1 hi'))⟩
    · refine src_rows (f := fun p : AF × Sl => [.string p.1.name, p.2.val, .int .i64 p.1.sure]) (by omega) (by simp) (fun _ _ => rfl) fun i hi' j u hj => ?_
      rw [List.length_map, List.length_range] at hi'
      obtain ⟨h0, h1, h2, _⟩ := hF i hi'
      simp only [List.getElem_map, List.getElem_range] at hj
      match j, hj with
      | 0, hj => rw [h0]; exact hj
      | 1, hj => rw [h1]; exact hj
      | 2, hj => rw [h2]; exact hj
      | j + 3, hj => simp at hj
    · obtain ⟨i, hi', rfl⟩ := List.mem_map.1 hp
      exact (hF i (List.mem_range.1 hi')).2.2.2.1

theorem open_ops {fuel : Nat} {cs : List Value} {x : DataW H × List MemPlace} (hk : Rows.uptoBulk x.1 ≤ 1048576) (h : DataW.trod enc Try.prog w base spare held fuel 23 cs = some x) :
    ∃ (s : Sl) (ol : List OpV), cs = [s.val] ∧ ol.length ≤ Rows.uptoBulk x.1 ∧ (∀ o ∈ ol, OOk o) ∧ OSrc w (fun _ => 0) s ol := by
  rcases open_slice_fields Try.underlying23 Try.underlying38 (by kernel_rfl) (by kernel_rfl) h with ⟨rfl, rfl⟩ | ⟨a, len, cap, D, rest, rfl, hl, hx, hi⟩
  · exact ⟨⟨none, 0, 0⟩, [], rfl, by simp, by simp, ⟨src_nil, by simp, by simp⟩⟩
  · have key : ∀ i, i < len → ∃ o : OpV, (∀ j u, ([Value.int .i64 o.kind, .int .i64 o.n, .int .i64 o.m, .bool o.second, .string o.name, o.ds.val, o.ks.val, .int .u32 o.sum] : List Value)[j]? = some u → w.cell? (a.add (i * 8 + j)) = some u) ∧
        OOk o ∧ Src w (fun _ => 0) 0 1 o.ds (o.data.map u8) ∧ Src w (fun _ => 0) 0 1 o.ks (o.keep.map (Value.int .i64)) := fun i hil => by
      obtain ⟨ys, n, hD, hf⟩ := hi i hil
      obtain ⟨v0, y0, c0, g0, t0⟩ := hf 0 _ rfl
      obtain ⟨v1, y1, c1, g1, t1⟩ := hf 1 _ rfl
      obtain ⟨v2, y2, c2, g2, t2⟩ := hf 2 _ rfl
      obtain ⟨v3, y3, c3, g3, t3⟩ := hf 3 _ rfl
      obtain ⟨v4, y4, c4, g4, t4⟩ := hf 4 _ rfl
      obtain ⟨v5, y5, c5, g5, t5⟩ := hf 5 _ rfl
      obtain ⟨v6, y6, c6, g6, t6⟩ := hf 6 _ rfl
      obtain ⟨v7, y7, c7, g7, t7⟩ := hf 7 _ rfl
      obtain ⟨z0, e0, _, b0⟩ := DataW.trod_int Try.underlying3 t0
      obtain ⟨z1, e1, _, b1⟩ := DataW.trod_int Try.underlying3 t1
      obtain ⟨z2, e2, _, b2⟩ := DataW.trod_int Try.underlying3 t2
      obtain ⟨z3, e3, _⟩ := DataW.trod_bool Try.underlying4 t3
      obtain ⟨nm, e4, hn, _⟩ := DataW.trod_string Try.underlying9 t4
      obtain ⟨s5, d5, e5, hc5, hb5, r5⟩ := open_bytes t5
      obtain ⟨s6, d6, e6, hc6, hb6, hz6, r6⟩ := open_ints t6
      obtain ⟨z7, e7, _, b7⟩ := DataW.trod_int Try.underlying36 t7
      obtain rfl : v0 = .int .i64 z0 := by simpa using e0
      obtain rfl : v1 = .int .i64 z1 := by simpa using e1
      obtain rfl : v2 = .int .i64 z2 := by simpa using e2
      obtain rfl : v3 = .bool z3 := by simpa using e3
      obtain rfl : v4 = .string nm := by simpa using e4
      obtain rfl : v5 = s5.val := by simpa using e5
      obtain rfl : v6 = s6.val := by simpa using e6
      obtain rfl : v7 = .int .u32 z7 := by simpa using e7
      have hbulk : Rows.uptoBulk (D i) ≤ 1048576 := Nat.le_trans (bulk_elem hil) (by rw [← hx]; exact hk)
      have f5 := bulk_field g5
      have f6 := bulk_field g6
      have f4 := bulk_field g4
      rw [← hD] at f4 f5 f6
      have f4' : nm.size ≤ Rows.uptoBulk y4.1 := by rw [hn]; exact bulk_str
      refine ⟨⟨z0, z1, z2, z3, nm, s5, d5, s6, d6, z7⟩, fun j u hj => ?_, ⟨?_, hc5, ?_, ?_, ?_, ?_⟩, r5, r6⟩
      · match j, hj with
        | 0, hj => exact c0.trans hj
        | 1, hj => exact c1.trans hj
        | 2, hj => exact c2.trans hj
        | 3, hj => exact c3.trans hj
        | 4, hj => exact c4.trans hj
        | 5, hj => exact c5.trans hj
        | 6, hj => exact c6.trans hj
        | 7, hj => exact c7.trans hj
        | j + 8, hj => simp at hj
      · show nm.size < 9223372036854775807
        omega
      · show d5.length ≤ 1073741824
        omega
      · show d6.length ≤ 1073741824
        omega
      · simpa [Lit.wf, IntKind.min, IntKind.max, IntKind.signed, IntKind.bits, Pm.maxI] using b1
      · simpa [Lit.wf, IntKind.min, IntKind.max, IntKind.signed, IntKind.bits, Pm.maxI] using b2
    obtain ⟨F, hF⟩ := choose_lt key
    refine ⟨⟨some a, len, cap⟩, (List.range len).map F, rfl, by rw [hx, List.length_map, List.length_range]; exact bulk_len, fun o ho => ?_, ⟨?_, fun o ho => ?_, fun o ho => ?_⟩⟩
    · obtain ⟨i, hi', rfl⟩ := List.mem_map.1 ho
      exact (hF i (List.mem_range.1 hi')).2.1
    · refine src_rows (f := fun o : OpV => [.int .i64 o.kind, .int .i64 o.n, .int .i64 o.m, .bool o.second, .string o.name, o.ds.val, o.ks.val, .int .u32 o.sum]) (by omega) (by simp) (fun _ _ => rfl) fun i hi' j u hj => ?_
      rw [List.length_map, List.length_range] at hi'
      simp only [List.getElem_map, List.getElem_range] at hj
      exact (hF i hi').1 j u hj
    · obtain ⟨i, hi', rfl⟩ := List.mem_map.1 ho
      exact (hF i (List.mem_range.1 hi')).2.2.1
    · obtain ⟨i, hi', rfl⟩ := List.mem_map.1 ho
      exact (hF i (List.mem_range.1 hi')).2.2.2
end

theorem ownK : ownKnob Try.prog.godebug = none := by kernel_rfl
theorem laidOut : laidOutB Try.prog = true := by kernel_rfl

theorem contract (H : Type) (enc : TypeId × Value → H) (W : World) (base : Nat) (args : Array Value) (ds gs : List (DataW H)) (before : List MemPlace)
    (hval : ∀ (j : Nat) t v, Try.f3.params[j]? = some t → args[j]? = some v → Value.okWide Try.prog W .any base t v)
    (hW : DataW.Whole enc Try.prog Try.f3.params.toList Rows.drawerDiskSpec.vars false W args.toList ds gs before) (hk : Rows.uptoSmall H (ds ++ gs) = true) :
    Calls Try.prog 3 args W fun e W' => ∃ v, e = .returned v ∧ Rows.drawerDiskSpec.post enc Try.prog Try.f3 false true false false W args v W' := by
  have hW' := hW
  obtain ⟨p, q, hA0, hV, rfl, hfz, hnd⟩ := hW
  have hA : DataW.TrodAll enc Try.prog W 0 (fun _ => true) true Try.f3.params.toList args.toList ds p := hA0
  rw [Try.params3] at hA hval
  obtain ⟨v0, vs0, d0, ds0, p0, q0, hargs, rfl, rfl, h0, r0⟩ := trodAll_cons hA
  obtain ⟨v1, vs1, d1, ds1, p1, q1, hvs, rfl, rfl, h1, r1⟩ := trodAll_cons r0
  obtain ⟨rfl, rfl, rfl⟩ := trodAll_nil r1
  subst hvs
  obtain rfl : args = #[v0, v1] := by cases args; simp_all
  obtain ⟨rfl, rfl⟩ := trodVars_none hV
  clear hA0
  simp only [List.append_nil] at hW' hk
  have hb : Rows.uptoBulkAll [d0, d1] ≤ 1048576 := of_decide_eq_true hk
  simp only [Rows.uptoBulkAll] at hb
  obtain ⟨n0, t0⟩ := h0
  obtain ⟨n1, t1⟩ := h1
  obtain ⟨q0, z0, y0, rfl⟩ := okWide_slice Try.underlying22 (hval 0 _ v0 rfl rfl)
  obtain ⟨q1, z1, y1, rfl⟩ := okWide_slice Try.underlying23 (hval 1 _ v1 rfl rfl)
  obtain ⟨s0, fl, e0, hl0, hp0, src⟩ := open_files t0
  obtain ⟨s1, ol, e1, hl1, hok, os⟩ := open_ops (by dsimp only; omega) t1
  have e0 : Value.slice q0 z0 y0 = s0.val := by simpa [Value.cells] using e0
  have e1 : Value.slice q1 z1 y1 = s1.val := by simpa [Value.cells] using e1
  rw [e0] at t0 hW' ⊢
  rw [e1] at t1 hW' ⊢
  refine (s_levylaw19_DrawerDisk s0 s1 (fun b w' => b = true ∧ Below W.heap.size W w') W (law_spec src (by dsimp only at hl0; omega) (fun p hp => by have := (hp0 p hp).1; dsimp only at this; omega) (fun p hp => by have := (hp0 p hp).2; dsimp only at this; omega) os (by dsimp only at hl1; omega) hok
    fun w' c' E => ⟨rfl, below_of E (fun _ => (by decide : ¬ own 0))⟩)).mono fun e W' he => ?_
  obtain ⟨v, rfl, b, rfl, rfl, hbel⟩ : ∃ v, e = .returned v ∧ ∃ b : Bool, v = .bool b ∧ b = true ∧ Below W.heap.size W W' := by
    cases e with
    | returned v => exact ⟨v, rfl, he⟩
    | _ => exact he.elim
  have hlt0 : ∀ x ∈ p0, x.block < W.heap.size := fun x hx => hW'.lt x (by simp [hx])
  have hlt1 : ∀ x ∈ p1, x.block < W.heap.size := fun x hx => hW'.lt x (by simp [hx])
  refine ⟨_, rfl, post_of_below (pv := []) hW' (fun _ _ _ => trodAll_cons_mk (shut_bool Try.underlying4 _) trodAll_mk0)
    (fun sp hsp => trodAll_cons_mk (WideElems.Trod_stays laidOut (by kernel_rfl) (of_decide_eq_true (by kernel_rfl)) ⟨n0, t0⟩ (fun x hx => hbel.same (hlt0 x hx)) (fun x hx => hsp x (by simp [hx])))
      (trodAll_cons_mk (WideElems.Trod_stays laidOut (by kernel_rfl) (of_decide_eq_true (by kernel_rfl)) ⟨n1, t1⟩ (fun x hx => hbel.same (hlt1 x hx)) (fun x hx => hsp x (by simp [hx]))) trodAll_mk0))
    (fun _ _ => rfl) (by simp) hbel (ok_one (by kernel_rfl) rfl (okWide_bool_mk Try.underlying4 _))⟩

set_option maxRecDepth 100000 in
theorem lifted (os : Os) (started : os.Started) (H : Type) (enc : TypeId × Value → H) (F : Stop.Interp) :
    ReturnsInHanded {} Try.checked os 3 .any ((Rows.OpenSpec.upto Rows.drawerDiskSpec).pre6 enc Try.prog Try.f3 Rows.drawerDiskUptoRow.domain false) (((Rows.OpenSpec.upto Rows.drawerDiskSpec).at F).post enc Try.prog Try.f3 false true false false) := by
  refine returnsInHanded_of_cond (C := Try.checked) (s := Rows.OpenSpec.upto Rows.drawerDiskSpec) (k := Rows.uptoSmall) rfl ownK started (by kernel_rfl) Try.func3
    (OpenSpec.witness (enc := enc) (C := Try.checked) (s := Rows.OpenSpec.upto Rows.drawerDiskSpec) (k := Rows.uptoSmall) rfl false ⟨#[], #[.slice none 0 0, .slice none 0 0], []⟩ 8 (by kernel_rfl) (by kernel_rfl) (by kernel_rfl)
      (x := ([.nil, .nil], [], [])) (by kernel_rfl) rfl (by kernel_rfl)) ?_
  intro W base args ds gs before hval hW _ hk _
  exact contract H enc W base args ds gs before hval hW hk

theorem drawerDisk_holds : Rows.DrawerDiskUptoSaid :=
  OpenClaim.holds_of_cond 3 Try.f3 rfl rfl rfl rfl rfl rfl rfl ⟨rfl, rfl, rfl, rfl, rfl⟩ rfl rfl rfl rfl rfl (by kernel_rfl) Try.func3 (by kernel_rfl)
    (of_decide_eq_true (by kernel_rfl)) (by unfold Func.isWrapper; first | (rw [if_pos (by decide +kernel)]; kernel_rfl) | (rw [if_neg (by decide +kernel)]; exact ⟨rfl, rfl⟩))
    (fun os started H enc _ F => lifted os started H enc F)
end Go.Proofs.Ytjnifnlkicajhaa.Row
