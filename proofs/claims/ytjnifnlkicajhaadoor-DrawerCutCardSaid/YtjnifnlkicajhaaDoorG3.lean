/-
  Written by a program of this claim (wip/gen/gen.py): what each Go function asks of the world, as a plain predicate, and that it is enough. No condition is put on any statement here.
-/
import Derived.Test.YtjnifnlkicajhaaDoorVcDraw
import Derived.Test.YtjnifnlkicajhaaDoorFacts
import Derived.Test.YtjnifnlkicajhaaDoorG2
set_option linter.unusedVariables false
set_option maxRecDepth 100000
set_option maxHeartbeats 2000000
namespace Go.Proofs.YtjnifnlkicajhaaDoor.Fs
open Go Vc

/-! (drawer.Drawer).Put -/

def drawer_Drawer_Put (x0 : Option Addr) (x1_0 : Int) (x1_1 : Sl) (Q : Int → World → Prop) (w : World) : Prop :=
  al w (.cells #[.int .u8 x1_0, Sl.val x1_1] 37) fun x3_1 w => al w (.cells #[.int .i64 0] 34) fun x4_3 w => nn x0 fun x8_5 => ld Value.bool w (x8_5.add 4) fun x10_6 => (if x10_6 = true then st w x4_3 (.int .i64 196) fun w => ld (Value.int .i64) w x4_3 fun r9 => Q r9 w else ld Sl.val w (x3_1.add 1) fun x13_10 => (if (decide (((x13_10.len : Nat) : Int) > 1048576)) = true then st w x4_3 (.int .i64 197) fun w => ld (Value.int .i64) w x4_3 fun r15 => Q r15 w else nn x0 fun x18_16 => ld Value.pointer (World.drew w) (x18_16.add 0) fun x20_17 => nn x0 fun x22_18 => ld (Value.int .i64) (World.drew w) (x22_18.add 2) fun x24_19 => nn x0 fun x27_20 => ld (Value.int .i64) (World.drew w) (x27_20.add 3) fun x29_21 => nn x0 fun x32_23 => ld (Value.int .u32) (World.drew w) (x32_23.add 1) fun x34_24 => ld (Value.int .u8) (World.drew w) (x3_1.add 0) fun x36_25 => ld Sl.val (World.drew w) (x3_1.add 1) fun x38_26 => drawer_name x24_19 (fun x25_27_0 w => ((World.cell? w (x18_16.add 0) = some (.pointer x20_17) ∧ World.cell? w (x22_18.add 2) = some (.int .i64 x24_19) ∧ World.cell? w (x27_20.add 3) = some (.int .i64 x29_21) ∧ World.cell? w (x32_23.add 1) = some (.int .u32 x34_24) ∧ World.cell? w (x3_1.add 0) = some (.int .u8 x36_25) ∧ World.cell? w (x3_1.add 1) = some (Sl.val x38_26) ∧ True) ∧ drawer_piece (IntKind.i64.wrap (x29_21 + 1)) x34_24 x36_25 x38_26 (fun x39_28_0 w => ((World.cell? w (x18_16.add 0) = some (.pointer x20_17) ∧ World.cell? w (x22_18.add 2) = some (.int .i64 x24_19) ∧ World.cell? w (x27_20.add 3) = some (.int .i64 x29_21) ∧ World.cell? w (x32_23.add 1) = some (.int .u32 x34_24) ∧ World.cell? w (x3_1.add 0) = some (.int .u8 x36_25) ∧ World.cell? w (x3_1.add 1) = some (Sl.val x38_26) ∧ True) ∧ drawer_Disk_lay x20_17 x25_27_0 x39_28_0 (fun x40_29_0 w => (if (x40_29_0 != 0) = true then st w x4_3 (.int .i64 x40_29_0) fun w => drawer_Drawer_stick x0 (some x4_3) (fun w => ld (Value.int .i64) w x4_3 fun r33 => Q r33 w) w else nn x0 fun x45_35 => ld (Value.int .i64) w (x45_35.add 3) fun x47_36 => nn x0 fun x49_38 => st w (x49_38.add 3) (.int .i64 (IntKind.i64.wrap (x47_36 + 1))) fun w => st w x4_3 (.int .i64 0) fun w => drawer_Drawer_stick x0 (some x4_3) (fun w => ld (Value.int .i64) w x4_3 fun r41 => Q r41 w) w)) w)) w)) (World.drew w)))

theorem b_drawer_Drawer_Put (x0 : Option Addr) (x1_0 : Int) (x1_1 : Sl) (Q : Int → World → Prop) (w : World) (h : drawer_Drawer_Put x0 x1_0 x1_1 Q w) {c : Code} (hb : Tryd.f9.body = some c) :
 ∀ a, Rep a 51 [(0, .pointer x0), (1, .agg #[.int .u8 x1_0, Sl.val x1_1])] [] → c.wp Tryd.prog (np (bodyPostD Tryd.prog Tryd.f9 (Rets fun v w => ∃ r0 : Int, v = (.int .i64 r0 : Value) ∧ Q r0 w))) a w := by
 intro a R
 obtain rfl := Option.some.inj hb
 unfold drawer_Drawer_Put at h
 refine wp_seq ?_
 refine wp_region_lit ?_
 obtain ⟨x3_1, e2, h⟩ := al_e h
 refine op_val (v := .pointer (some x3_1)) R (by rw [e2]; exact rn_bx (x := (.tmp 1)) (t := 37) R rfl) rfl fun a R => ?_
 obtain ⟨x4_3, e4, h⟩ := al_e h
 refine op_val (v := .pointer (some x4_3)) R (by rw [e4]; exact rn_al R ze34) rfl fun a R => ?_
 refine wpList_nil ?_
 refine then_normal ?_
 refine wp_seq ?_
 refine wp_block ?_
 refine wp_seq ?_
 refine wp_region_lit ?_
 refine omv R rfl rfl fun a R => ?_
 obtain ⟨x8_5, cx8_5, h⟩ := h
 refine onl R rfl cx8_5 rfl fun a R => ?_
 refine ofd R rfl fd64_4 rfl fun a R => ?_
 obtain ⟨x10_6, cx10_6, h⟩ := h
 refine old R rfl Tryd.underlying4 rfl cx10_6 rfl fun a R => ?_
 refine oas R rfl rfl fun a R => ?_
 refine wpList_nil ?_
 refine then_normal ?_
 rcases ite_cases h with ⟨g7, h⟩ | ⟨g7, h⟩
 ·refine wp_condT R (congrArg (fun b => some (Value.bool b)) g7) ?_
  refine wp_seq ?_
  refine wp_region_lit ?_
  obtain ⟨q8, f8, h⟩ := h
  refine op_unit R (rn_st R rfl rfl rfl sz34 q8 f8) fun a R => ?_
  refine wpList_nil ?_
  refine then_normal ?_
  refine wp_ret ?_
  refine block_ret ?_
  refine then_ret ?_
  refine postD_ret R ?_
  obtain ⟨r9, cr9, h⟩ := h
  exact lv_nil (results_cell R rfl rfl Tryd.underlying34 rfl cr9) ⟨r9, rfl, h⟩
 ·refine wp_condF R (congrArg (fun b => some (Value.bool b)) g7) ?_
  refine wp_seq ?_
  refine wp_region_lit ?_
  refine ofd R rfl fd37_1 rfl fun a R => ?_
  obtain ⟨x13_10, cx13_10, h⟩ := h
  refine old R rfl Tryd.underlying29 rfl cx13_10 rfl fun a R => ?_
  refine op_val R (rn_len R rfl Tryd.underlying29) rfl fun a R => ?_
  refine op_val R (rn_bin (v := .bool (decide (((x13_10.len : Nat) : Int) > 1048576))) R rfl rfl rfl) rfl fun a R => ?_
  refine oas R rfl rfl fun a R => ?_
  refine wpList_nil ?_
  refine then_normal ?_
  rcases ite_cases h with ⟨g13, h⟩ | ⟨g13, h⟩
  ·refine wp_condT R (congrArg (fun b => some (Value.bool b)) g13) ?_
   refine wp_seq ?_
   refine wp_region_lit ?_
   obtain ⟨q14, f14, h⟩ := h
   refine op_unit R (rn_st R rfl rfl rfl sz34 q14 f14) fun a R => ?_
   refine wpList_nil ?_
   refine then_normal ?_
   refine wp_ret ?_
   refine block_ret ?_
   refine then_ret ?_
   refine postD_ret R ?_
   obtain ⟨r15, cr15, h⟩ := h
   exact lv_nil (results_cell R rfl rfl Tryd.underlying34 rfl cr15) ⟨r15, rfl, h⟩
  ·refine wp_condF R (congrArg (fun b => some (Value.bool b)) g13) ?_
   refine wp_skip ?_
   refine block_normal ?_
   refine then_normal ?_
   refine wp_seq ?_
   refine wp_region_lit ?_
   refine omv R rfl rfl fun a R => ?_
   refine op_defer R (rn_df (vs := [.pointer x0, .pointer (some x4_3)]) R rfl rfl) fun a R => ?_
   refine wpList_nil ?_
   refine then_normal ?_
   refine wp_seq ?_
   refine wp_seq ?_
   refine region_start mo fun inv => ?_
   obtain ⟨x18_16, cx18_16, h⟩ := h
   obtain ⟨x20_17, cx20_17, h⟩ := h
   obtain ⟨x22_18, cx22_18, h⟩ := h
   obtain ⟨x24_19, cx24_19, h⟩ := h
   obtain ⟨x27_20, cx27_20, h⟩ := h
   obtain ⟨x29_21, cx29_21, h⟩ := h
   obtain ⟨x32_23, cx32_23, h⟩ := h
   obtain ⟨x34_24, cx34_24, h⟩ := h
   obtain ⟨x36_25, cx36_25, h⟩ := h
   obtain ⟨x38_26, cx38_26, h⟩ := h
   refine seg_held (n := 23) (f := 23) (g := 2) (fun w : World => w.cell? (x18_16.add 0) = some (.pointer x20_17) ∧ w.cell? (x22_18.add 2) = some (.int .i64 x24_19) ∧ w.cell? (x27_20.add 3) = some (.int .i64 x29_21) ∧ w.cell? (x32_23.add 1) = some (.int .u32 x34_24) ∧ w.cell? (x3_1.add 0) = some (.int .u8 x36_25) ∧ w.cell? (x3_1.add 1) = some (Sl.val x38_26) ∧ True) (by kernel_rfl) fun inv => ?_
   have hS0 : (fun w : World => w.cell? (x18_16.add 0) = some (.pointer x20_17) ∧ w.cell? (x22_18.add 2) = some (.int .i64 x24_19) ∧ w.cell? (x27_20.add 3) = some (.int .i64 x29_21) ∧ w.cell? (x32_23.add 1) = some (.int .u32 x34_24) ∧ w.cell? (x3_1.add 0) = some (.int .u8 x36_25) ∧ w.cell? (x3_1.add 1) = some (Sl.val x38_26) ∧ True) _ := ⟨cx20_17, cx24_19, cx29_21, cx34_24, cx36_25, cx38_26, trivial⟩
   refine dr_val (i := 0) R (waits_dom (by kernel_rfl) (by kernel_rfl)) (by kernel_rfl) inv rfl (by decide) (by kernel_rfl) (by kernel_rfl) (fun _ _ _ h => h) wanted_none (fun w' hS => rn_mv R rfl) hS0 rfl fun inv a R => ?_
   refine dr_val (i := 1) R (waits_dom (by kernel_rfl) (by kernel_rfl)) (by kernel_rfl) inv rfl (by decide) (by kernel_rfl) (by kernel_rfl) (fun _ _ _ h => h) wanted_none (fun w' hS => rn_nil R rfl cx18_16) hS0 rfl fun inv a R => ?_
   refine dr_val (i := 2) R (waits_dom (by kernel_rfl) (by kernel_rfl)) (by kernel_rfl) inv rfl (by decide) (by kernel_rfl) (by kernel_rfl) (fun _ _ _ h => h) wanted_none (fun w' hS => rn_fld R rfl fd64_0) hS0 rfl fun inv a R => ?_
   refine dr_val (i := 3) R (waits_dom (by kernel_rfl) (by kernel_rfl)) (by kernel_rfl) inv rfl (by decide) (by kernel_rfl) (by kernel_rfl) (fun _ _ _ h => h) wanted_none (fun w' hS => rn_ld R rfl Tryd.underlying27 rfl (hS.1)) hS0 rfl fun inv a R => ?_
   refine dr_val (i := 4) R (waits_dom (by kernel_rfl) (by kernel_rfl)) (by kernel_rfl) inv rfl (by decide) (by kernel_rfl) (by kernel_rfl) (fun _ _ _ h => h) wanted_none (fun w' hS => rn_mv R rfl) hS0 rfl fun inv a R => ?_
   refine dr_val (i := 5) R (waits_dom (by kernel_rfl) (by kernel_rfl)) (by kernel_rfl) inv rfl (by decide) (by kernel_rfl) (by kernel_rfl) (fun _ _ _ h => h) wanted_none (fun w' hS => rn_nil R rfl cx22_18) hS0 rfl fun inv a R => ?_
   refine dr_val (i := 6) R (waits_dom (by kernel_rfl) (by kernel_rfl)) (by kernel_rfl) inv rfl (by decide) (by kernel_rfl) (by kernel_rfl) (fun _ _ _ h => h) wanted_none (fun w' hS => rn_fld R rfl fd64_2) hS0 rfl fun inv a R => ?_
   refine dr_val (i := 7) R (waits_dom (by kernel_rfl) (by kernel_rfl)) (by kernel_rfl) inv rfl (by decide) (by kernel_rfl) (by kernel_rfl) (fun _ _ _ h => h) wanted_none (fun w' hS => rn_ld R rfl Tryd.underlying3 rfl (hS.2.1)) hS0 rfl fun inv a R => ?_
   refine dr_val (i := 9) R (waits_dom (by kernel_rfl) (by kernel_rfl)) (by kernel_rfl) inv rfl (by decide) (by kernel_rfl) (by kernel_rfl) (fun _ _ _ h => h) wanted_none (fun w' hS => rn_mv R rfl) hS0 rfl fun inv a R => ?_
   refine dr_val (i := 10) R (waits_dom (by kernel_rfl) (by kernel_rfl)) (by kernel_rfl) inv rfl (by decide) (by kernel_rfl) (by kernel_rfl) (fun _ _ _ h => h) wanted_none (fun w' hS => rn_nil R rfl cx27_20) hS0 rfl fun inv a R => ?_
   refine dr_val (i := 11) R (waits_dom (by kernel_rfl) (by kernel_rfl)) (by kernel_rfl) inv rfl (by decide) (by kernel_rfl) (by kernel_rfl) (fun _ _ _ h => h) wanted_none (fun w' hS => rn_fld R rfl fd64_3) hS0 rfl fun inv a R => ?_
   refine dr_val (i := 12) R (waits_dom (by kernel_rfl) (by kernel_rfl)) (by kernel_rfl) inv rfl (by decide) (by kernel_rfl) (by kernel_rfl) (fun _ _ _ h => h) wanted_none (fun w' hS => rn_ld R rfl Tryd.underlying3 rfl (hS.2.2.1)) hS0 rfl fun inv a R => ?_
   refine dr_val (i := 13) R (waits_dom (by kernel_rfl) (by kernel_rfl)) (by kernel_rfl) inv rfl (by decide) (by kernel_rfl) (by kernel_rfl) (fun _ _ _ h => h) wanted_none (fun w' hS => rn_bin (v := .int .i64 (IntKind.i64.wrap (x29_21 + 1))) R rfl rfl rfl) hS0 rfl fun inv a R => ?_
   refine dr_val (i := 14) R (waits_dom (by kernel_rfl) (by kernel_rfl)) (by kernel_rfl) inv rfl (by decide) (by kernel_rfl) (by kernel_rfl) (fun _ _ _ h => h) wanted_none (fun w' hS => rn_mv R rfl) hS0 rfl fun inv a R => ?_
   refine dr_val (i := 15) R (waits_dom (by kernel_rfl) (by kernel_rfl)) (by kernel_rfl) inv rfl (by decide) (by kernel_rfl) (by kernel_rfl) (fun _ _ _ h => h) wanted_none (fun w' hS => rn_nil R rfl cx32_23) hS0 rfl fun inv a R => ?_
   refine dr_val (i := 16) R (waits_dom (by kernel_rfl) (by kernel_rfl)) (by kernel_rfl) inv rfl (by decide) (by kernel_rfl) (by kernel_rfl) (fun _ _ _ h => h) wanted_none (fun w' hS => rn_fld R rfl fd64_1) hS0 rfl fun inv a R => ?_
   refine dr_val (i := 17) R (waits_dom (by kernel_rfl) (by kernel_rfl)) (by kernel_rfl) inv rfl (by decide) (by kernel_rfl) (by kernel_rfl) (fun _ _ _ h => h) wanted_none (fun w' hS => rn_ld R rfl Tryd.underlying22 rfl (hS.2.2.2.1)) hS0 rfl fun inv a R => ?_
   refine dr_val (i := 18) R (waits_dom (by kernel_rfl) (by kernel_rfl)) (by kernel_rfl) inv rfl (by decide) (by kernel_rfl) (by kernel_rfl) (fun _ _ _ h => h) wanted_none (fun w' hS => rn_fld R rfl fd37_0) hS0 rfl fun inv a R => ?_
   refine dr_val (i := 19) R (waits_dom (by kernel_rfl) (by kernel_rfl)) (by kernel_rfl) inv rfl (by decide) (by kernel_rfl) (by kernel_rfl) (fun _ _ _ h => h) wanted_none (fun w' hS => rn_ld R rfl Tryd.underlying5 rfl (hS.2.2.2.2.1)) hS0 rfl fun inv a R => ?_
   refine dr_val (i := 20) R (waits_dom (by kernel_rfl) (by kernel_rfl)) (by kernel_rfl) inv rfl (by decide) (by kernel_rfl) (by kernel_rfl) (fun _ _ _ h => h) wanted_none (fun w' hS => rn_fld R rfl fd37_1) hS0 rfl fun inv a R => ?_
   refine dr_val (i := 21) R (waits_dom (by kernel_rfl) (by kernel_rfl)) (by kernel_rfl) inv rfl (by decide) (by kernel_rfl) (by kernel_rfl) (fun _ _ _ h => h) wanted_none (fun w' hS => rn_ld R rfl Tryd.underlying29 rfl (hS.2.2.2.2.2.1)) hS0 rfl fun inv a R => ?_
   refine dr_call (i := 8) R inv rfl (by decide) (by kernel_rfl) wanted_none (rn_calls R rfl cf26) rfl ?_
   refine call_mono (s_drawer_name _ _ _ h) ?_
   rintro _ w45 ⟨x25_27_0, rfl, hS0, h⟩
   refine ⟨hS0, fun a inv R => ?_⟩
   refine dr_call (i := 22) R inv rfl (by decide) (by kernel_rfl) wanted_none (rn_calls R rfl cf27) rfl ?_
   refine call_mono (s_drawer_piece _ _ _ _ _ _ h) ?_
   rintro _ w44 ⟨x39_28_0, rfl, hS0, h⟩
   refine ⟨hS0, fun a inv R => ?_⟩
   refine seg_end (by kernel_rfl) ?_
   refine any_tail 23 (by kernel_rfl) ?_
   refine op_call R (rn_calls R rfl cf25) rfl ?_
   refine call_mono (s_drawer_Disk_lay _ _ _ _ _ h) ?_
   rintro _ w43 ⟨x40_29_0, rfl, h⟩ a R
   refine oas R rfl rfl fun a R => ?_
   refine wpList_nil ?_
   refine then_normal ?_
   refine wp_seq ?_
   refine wp_region_lit ?_
   refine omv R rfl rfl fun a R => ?_
   refine op_val R (rn_bin (v := .bool (x40_29_0 != 0)) R rfl rfl rfl) rfl fun a R => ?_
   refine wpList_nil ?_
   refine then_normal ?_
   rcases ite_cases h with ⟨g31, h⟩ | ⟨g31, h⟩
   ·refine wp_condT R (congrArg (fun b => some (Value.bool b)) g31) ?_
    refine wp_seq ?_
    refine wp_region_lit ?_
    refine omv R rfl rfl fun a R => ?_
    obtain ⟨q32, f32, h⟩ := h
    refine op_unit R (rn_st R rfl rfl rfl sz34 q32 f32) fun a R => ?_
    refine wpList_nil ?_
    refine then_normal ?_
    refine wp_ret ?_
    refine then_ret ?_
    refine postD_ret R ?_
    refine lv_cons rfl rfl (fun w => by kernel_rfl) (fun u => sD_drawer_Drawer_stick _ _ _ _ h u) ?_
    rintro _ w34 ⟨rfl, h⟩
    obtain ⟨r33, cr33, h⟩ := h
    exact lv_nil (results_cell R rfl rfl Tryd.underlying34 rfl cr33) ⟨r33, rfl, h⟩
   ·refine wp_condF R (congrArg (fun b => some (Value.bool b)) g31) ?_
    refine wp_skip ?_
    refine then_normal ?_
    refine wp_seq ?_
    refine wp_region_lit ?_
    refine omv R rfl rfl fun a R => ?_
    obtain ⟨x45_35, cx45_35, h⟩ := h
    refine onl R rfl cx45_35 rfl fun a R => ?_
    refine ofd R rfl fd64_3 rfl fun a R => ?_
    obtain ⟨x47_36, cx47_36, h⟩ := h
    refine old R rfl Tryd.underlying3 rfl cx47_36 rfl fun a R => ?_
    refine op_val R (rn_bin (v := .int .i64 (IntKind.i64.wrap (x47_36 + 1))) R rfl rfl rfl) rfl fun a R => ?_
    obtain ⟨x49_38, cx49_38, h⟩ := h
    refine onl R rfl cx49_38 rfl fun a R => ?_
    refine ofd R rfl fd64_3 rfl fun a R => ?_
    obtain ⟨q39, f39, h⟩ := h
    refine op_unit R (rn_st R rfl rfl rfl sz3 q39 f39) fun a R => ?_
    refine wpList_nil ?_
    refine then_normal ?_
    refine wp_seq ?_
    refine wp_region_lit ?_
    obtain ⟨q40, f40, h⟩ := h
    refine op_unit R (rn_st R rfl rfl rfl sz34 q40 f40) fun a R => ?_
    refine wpList_nil ?_
    refine then_normal ?_
    refine wp_ret ?_
    refine postD_ret R ?_
    refine lv_cons rfl rfl (fun w => by kernel_rfl) (fun u => sD_drawer_Drawer_stick _ _ _ _ h u) ?_
    rintro _ w42 ⟨rfl, h⟩
    obtain ⟨r41, cr41, h⟩ := h
    exact lv_nil (results_cell R rfl rfl Tryd.underlying34 rfl cr41) ⟨r41, rfl, h⟩
theorem s_drawer_Drawer_Put (x0 : Option Addr) (x1_0 : Int) (x1_1 : Sl) (Q : Int → World → Prop) (w : World) (h : drawer_Drawer_Put x0 x1_0 x1_1 Q w) :
    Calls Tryd.prog 9 #[.pointer x0, .agg #[.int .u8 x1_0, Sl.val x1_1]] w (Rets fun v w => ∃ r0 : Int, v = (.int .i64 r0 : Value) ∧ Q r0 w) :=
  calls_bodyD (args := [.pointer x0, .agg #[.int .u8 x1_0, Sl.val x1_1]]) Tryd.func9 rfl rfl (Nat.le_of_ble_eq_true rfl) (L := [(0, .pointer x0), (1, .agg #[.int .u8 x1_0, Sl.val x1_1])]) (by simp [starts]) (b_drawer_Drawer_Put x0 x1_0 x1_1 Q w h rfl)

/-! (drawer.Disk).Arm -/

def drawer_Disk_Arm (x0 : Option Addr) (x1 : Int) (Q : World → Prop) (w : World) : Prop :=
  nn x0 fun x5_1 => ld Value.bool w (x5_1.add 1) fun x7_2 => (if x7_2 = true then Q  w else nn x0 fun x14_5 => st w (x14_5.add 2) (.bool (decide (x1 ≥ 0))) fun w => nn x0 fun x16_7 => st w (x16_7.add 3) (.int .i64 x1) fun w => Q  w)

theorem b_drawer_Disk_Arm (x0 : Option Addr) (x1 : Int) (Q : World → Prop) (w : World) (h : drawer_Disk_Arm x0 x1 Q w) {c : Code} (hb : Tryd.f14.body = some c) :
 ∀ a, Rep a 18 [(0, .pointer x0), (1, .int .i64 x1)] [] → c.wp Tryd.prog (bodyPost Tryd.prog Tryd.f14 (Rets fun v w => v = (.tuple #[] : Value) ∧ Q w)) a w := by
 intro a R
 obtain rfl := Option.some.inj hb
 unfold drawer_Disk_Arm at h
 refine wp_seq ?_
 refine wp_region_lit ?_
 refine omv R rfl rfl fun a R => ?_
 obtain ⟨x5_1, cx5_1, h⟩ := h
 refine onl R rfl cx5_1 rfl fun a R => ?_
 refine ofd R rfl fd75_1 rfl fun a R => ?_
 obtain ⟨x7_2, cx7_2, h⟩ := h
 refine old R rfl Tryd.underlying4 rfl cx7_2 rfl fun a R => ?_
 refine op_val R (rn_un (v := .bool (!x7_2)) R rfl rfl) rfl fun a R => ?_
 refine wpList_nil ?_
 refine then_normal ?_
 rcases ite_cases h with ⟨g3, h⟩ | ⟨g3, h⟩
 ·refine wp_condF R (congrArg (fun b => some (Value.bool b)) (nf g3)) ?_
  refine wp_skip ?_
  exact post_end R rfl rfl ⟨rfl, h⟩
 ·refine wp_condT R (congrArg (fun b => some (Value.bool b)) (nt g3)) ?_
  refine wp_region_lit ?_
  refine omv R rfl rfl fun a R => ?_
  refine omv R rfl rfl fun a R => ?_
  refine omv R rfl rfl fun a R => ?_
  refine op_val R (rn_bin (v := .bool (decide (x1 ≥ 0))) R rfl rfl rfl) rfl fun a R => ?_
  refine omv R rfl rfl fun a R => ?_
  obtain ⟨x14_5, cx14_5, h⟩ := h
  refine onl R rfl cx14_5 rfl fun a R => ?_
  refine ofd R rfl fd75_2 rfl fun a R => ?_
  obtain ⟨q6, f6, h⟩ := h
  refine op_unit R (rn_st R rfl rfl rfl sz4 q6 f6) fun a R => ?_
  obtain ⟨x16_7, cx16_7, h⟩ := h
  refine onl R rfl cx16_7 rfl fun a R => ?_
  refine ofd R rfl fd75_3 rfl fun a R => ?_
  obtain ⟨q8, f8, h⟩ := h
  refine op_unit R (rn_st R rfl rfl rfl sz3 q8 f8) fun a R => ?_
  refine wpList_nil ?_
  exact post_end R rfl rfl ⟨rfl, h⟩
theorem s_drawer_Disk_Arm (x0 : Option Addr) (x1 : Int) (Q : World → Prop) (w : World) (h : drawer_Disk_Arm x0 x1 Q w) :
    Calls Tryd.prog 14 #[.pointer x0, .int .i64 x1] w (Rets fun v w => v = (.tuple #[] : Value) ∧ Q w) :=
  calls_body (args := [.pointer x0, .int .i64 x1]) Tryd.func14 rfl rfl (Nat.le_of_ble_eq_true rfl) (L := [(0, .pointer x0), (1, .int .i64 x1)]) (by simp [starts]) (b_drawer_Disk_Arm x0 x1 Q w h rfl)

/-! (drawer.Disk).Restart -/

def drawer_Disk_Restart.k2 (x0 : Option Addr) (Q : World → Prop) (w : World) : Prop :=
  nn x0 fun x70_3 => st w (x70_3.add 1) (.bool false) fun w => Q  w

def drawer_Disk_Restart.k17 (x0 : Option Addr) (x1 : Sl) (x11_5_0 : Sl) (z7_13 : Int) (K7 : Int → World → Prop) (x23_15 : Option Addr) (y17_7 : Int) (Q : World → Prop) (w : World) : Prop :=
  nn x23_15 fun x48_18 => ld Sl.val (World.drew w) (x48_18.add 0) fun x50_19 => nn x23_15 fun x52_20 => ld (Value.int .i64) (World.drew w) (x52_20.add 1) fun x54_21 => ((0 : Int) ≤ (IntKind.i64.wrap (x54_21 + y17_7)) ∧ (IntKind.i64.wrap (x54_21 + y17_7)) ≤ ((x50_19.cap : Nat) : Int) ∧ nn x23_15 fun x58_24 => st (World.drew w) (x58_24.add 0) (Sl.val (cutSl ⟨x50_19.p, x50_19.len, x50_19.cap⟩ 1 0 (Int.toNat (IntKind.i64.wrap (x54_21 + y17_7))) x50_19.cap)) fun w => nn x23_15 fun x62_26 => ld Sl.val w (x62_26.add 0) fun x64_27 => nn x23_15 fun x66_29 => st w (x66_29.add 1) (.int .i64 ((x64_27.len : Nat) : Int)) fun w => K7 (IntKind.i64.wrap (z7_13 + 1)) w)

def drawer_Disk_Restart.l7 (x0 : Option Addr) (x1 : Sl) (x11_5_0 : Sl) (z7_13 : Int) (Q : World → Prop) (K7 : Int → World → Prop) (w : World) : Prop :=
  (if (decide (z7_13 < ((x11_5_0.len : Nat) : Int))) = true then ix x11_5_0.p x11_5_0.len z7_13 1 fun x16_11 => ld Value.string w x16_11 fun x17_12 => nn x0 fun x19_13 => ld Value.map w (x19_13.add 0) fun x21_14 => rn Tryd.prog Value.pointer (Instr.lookup 73 (.map x21_14) (.string x17_12) false) w fun x23_15 w => (if (decide (((x1.len : Nat) : Int) > 0)) = true then (((x1.len : Nat) : Int) ≠ 0 ∧ ix x1.p x1.len (Int.tmod z7_13 ((x1.len : Nat) : Int)) 1 fun x32_38 => ld (Value.int .i64) (World.drew w) x32_38 fun x33_39 => nn x23_15 fun x36_41 => ld Sl.val (World.drew w) (x36_41.add 0) fun x38_42 => nn x23_15 fun x41_44 => ld (Value.int .i64) (World.drew w) (x41_44.add 1) fun x43_45 => drawer_Disk_Restart.k17 x0 x1 x11_5_0 z7_13 K7 x23_15 (if (IntKind.i64.wrap (((x38_42.len : Nat) : Int) - x43_45)) < (if 0 > x33_39 then 0 else x33_39) then (IntKind.i64.wrap (((x38_42.len : Nat) : Int) - x43_45)) else (if 0 > x33_39 then 0 else x33_39)) Q (World.drew w)) else drawer_Disk_Restart.k17 x0 x1 x11_5_0 z7_13 K7 x23_15 0 Q w) else drawer_Disk_Restart.k2 x0 Q w)

def drawer_Disk_Restart (x0 : Option Addr) (x1 : Sl) (Q : World → Prop) (w : World) : Prop :=
  drawer_Disk_Crash x0 (fun  w => drawer_Disk_names x0 (fun x11_5_0 w => (Fix (σ := Int) (fun Ks s w => drawer_Disk_Restart.l7 x0 x1 x11_5_0 s Q (fun z7_13 w => Ks z7_13 w) w) 0 w)) w) w

theorem b_drawer_Disk_Restart (x0 : Option Addr) (x1 : Sl) (Q : World → Prop) (w : World) (h : drawer_Disk_Restart x0 x1 Q w) {c : Code} (hb : Tryd.f18.body = some c) :
 ∀ a, Rep a 72 [(0, .pointer x0), (1, Sl.val x1)] [] → c.wp Tryd.prog (bodyPost Tryd.prog Tryd.f18 (Rets fun v w => v = (.tuple #[] : Value) ∧ Q w)) a w := by
 intro a R
 obtain rfl := Option.some.inj hb
 unfold drawer_Disk_Restart at h
 refine wp_seq ?_
 refine wp_region_lit ?_
 refine omv R rfl rfl fun a R => ?_
 refine op_call R (rn_calls R rfl cf31) rfl ?_
 refine call_mono (s_drawer_Disk_Crash _ _ _ h) ?_
 rintro _ w49 ⟨rfl, h⟩ a R
 refine wpList_nil ?_
 refine then_normal ?_
 refine seq_join (fun a w => Rep a 72 [(0, .pointer x0)] [] ∧ drawer_Disk_Restart.k2 x0 Q w) ?_ ?_
 ·refine wp_seq ?_
  refine wp_region_lit ?_
  refine omv R rfl rfl fun a R => ?_
  refine op_call R (rn_calls R rfl cf28) rfl ?_
  refine call_mono (s_drawer_Disk_names _ _ _ h) ?_
  rintro _ w48 ⟨x11_5_0, rfl, h⟩ a R
  refine op_val R (rn_len R rfl Tryd.underlying70) rfl fun a R => ?_
  refine omv R rfl rfl fun a R => ?_
  refine wpList_nil ?_
  refine then_normal ?_
  refine wp_block ?_
  refine wp_fix (σ := Int) (fun s a => Rep a 72 [(0, .pointer x0), (1, Sl.val x1), (11, Sl.val x11_5_0), (12, .int .i64 ((x11_5_0.len : Nat) : Int)), (13, .int .i64 s)] []) h (R.weak ⟨rfl, rfl, rfl, rfl, rfl, trivial⟩) ?_
  rintro Ks C z7_13 a w hC R h
  have R : Rep a 72 [(0, .pointer x0), (1, Sl.val x1), (11, Sl.val x11_5_0), (12, .int .i64 ((x11_5_0.len : Nat) : Int)), (13, .int .i64 z7_13)] [] := R
  have h : drawer_Disk_Restart.l7 x0 x1 x11_5_0 z7_13 Q (fun z7_13 w => Ks z7_13 w) w := h
  generalize hK7 : (fun z7_13 w => Ks z7_13 w) = K7 at h
  unfold drawer_Disk_Restart.l7 at h
  refine wp_seq ?_
  refine wp_region_lit ?_
  refine op_val R (rn_bin (v := .bool (decide (z7_13 < ((x11_5_0.len : Nat) : Int)))) R rfl rfl rfl) rfl fun a R => ?_
  refine wpList_nil ?_
  refine then_normal ?_
  refine wp_seq ?_
  rcases ite_cases h with ⟨g9, h⟩ | ⟨g9, h⟩
  ·refine wp_condT R (congrArg (fun b => some (Value.bool b)) g9) ?_
   refine wp_skip ?_
   refine then_normal ?_
   refine wp_seq ?_
   refine wp_block ?_
   refine wp_seq ?_
   refine wp_region_lit ?_
   refine omv R rfl rfl fun a R => ?_
   obtain ⟨b10, x16_11, p10, i10, j10, e10, h⟩ := ix_e h
   refine op_val (v := .pointer (some x16_11)) R (by rw [e10]; exact rn_ixs (x := (.tmp 11)) (y := (.tmp 13)) R rfl p10 rfl Tryd.underlying70 sz9 i10 j10) rfl fun a R => ?_
   obtain ⟨x17_12, cx17_12, h⟩ := h
   refine old R rfl Tryd.underlying9 rfl cx17_12 rfl fun a R => ?_
   refine oas R rfl rfl fun a R => ?_
   refine oas R rfl rfl fun a R => ?_
   refine wpList_nil ?_
   refine then_normal ?_
   refine wp_seq ?_
   refine wp_region_lit ?_
   refine omv R rfl rfl fun a R => ?_
   obtain ⟨x19_13, cx19_13, h⟩ := h
   refine onl R rfl cx19_13 rfl fun a R => ?_
   refine ofd R rfl fd75_0 rfl fun a R => ?_
   obtain ⟨x21_14, cx21_14, h⟩ := h
   refine old R rfl Tryd.underlying73 rfl cx21_14 rfl fun a R => ?_
   refine omv R rfl rfl fun a R => ?_
   obtain ⟨x23_15, w16, cx23_15, h⟩ := h
   refine op_val R (rn_lookup R rfl rfl cx23_15) rfl fun a R => ?_
   refine oas R rfl rfl fun a R => ?_
   refine wpList_nil ?_
   refine then_normal ?_
   refine wp_seq ?_
   refine wp_region_lit ?_
   refine oas R rfl rfl fun a R => ?_
   refine wpList_nil ?_
   refine then_normal ?_
   refine seq_join (fun a w => ∃ y17_7 : Int, Rep a 72 [(0, .pointer x0), (1, Sl.val x1), (6, .pointer x23_15), (7, .int .i64 y17_7), (11, Sl.val x11_5_0), (12, .int .i64 ((x11_5_0.len : Nat) : Int)), (13, .int .i64 z7_13)] [] ∧ drawer_Disk_Restart.k17 x0 x1 x11_5_0 z7_13 K7 x23_15 y17_7 Q w) ?_ ?_
   ·refine wp_seq ?_
    refine wp_region_lit ?_
    refine omv R rfl rfl fun a R => ?_
    refine op_val R (rn_len R rfl Tryd.underlying33) rfl fun a R => ?_
    refine op_val R (rn_bin (v := .bool (decide (((x1.len : Nat) : Int) > 0))) R rfl rfl rfl) rfl fun a R => ?_
    refine wpList_nil ?_
    refine then_normal ?_
    rcases ite_cases h with ⟨g34, h⟩ | ⟨g34, h⟩
    ·refine wp_condT R (congrArg (fun b => some (Value.bool b)) g34) ?_
     refine region_start mo fun inv => ?_
     refine seg_same (n := 18) (f := 18) (g := 2) (by kernel_rfl) fun inv => ?_
     refine dr_val (i := 0) R (waits_dom (by kernel_rfl) (by kernel_rfl)) (by kernel_rfl) inv rfl (by decide) (by kernel_rfl) (by kernel_rfl) (fun _ _ _ h => h) wanted_none (fun w' hS => rn_mv R rfl) rfl (by decide) fun inv a R => ?_
     refine dr_val (i := 1) R (waits_dom (by kernel_rfl) (by kernel_rfl)) (by kernel_rfl) inv rfl (by decide) (by kernel_rfl) (by kernel_rfl) (fun _ _ _ h => h) wanted_none (fun w' hS => rn_mv R rfl) rfl (by decide) fun inv a R => ?_
     refine dr_val (i := 2) R (waits_dom (by kernel_rfl) (by kernel_rfl)) (by kernel_rfl) inv rfl (by decide) (by kernel_rfl) (by kernel_rfl) (fun _ _ _ h => h) wanted_none (fun w' hS => rn_mv R rfl) rfl (by decide) fun inv a R => ?_
     refine dr_val (i := 3) R (waits_dom (by kernel_rfl) (by kernel_rfl)) (by kernel_rfl) inv rfl (by decide) (by kernel_rfl) (by kernel_rfl) (fun _ _ _ h => h) wanted_none (fun w' hS => rn_len R rfl Tryd.underlying33) rfl (by decide) fun inv a R => ?_
     obtain ⟨n36, h⟩ := h
     refine dr_val (i := 4) R (waits_dom (by kernel_rfl) (by kernel_rfl)) (by kernel_rfl) inv rfl (by decide) (by kernel_rfl) (by kernel_rfl) (fun _ _ _ h => h) wanted_none (fun w' hS => rn_bin (v := .int .i64 (Int.tmod z7_13 ((x1.len : Nat) : Int))) R rfl rfl (bin_rem n36)) rfl (by decide) fun inv a R => ?_
     obtain ⟨b37, x32_38, p37, i37, j37, e37, h⟩ := ix_e h
     refine dr_val (v := .pointer (some x32_38)) (i := 5) R (waits_dom (by kernel_rfl) (by kernel_rfl)) (by kernel_rfl) inv rfl (by decide) (by kernel_rfl) (by kernel_rfl) (fun _ _ _ h => h) wanted_none (fun w' hS => by rw [e37]; exact rn_ixs (x := (.tmp 27)) (y := (.tmp 31)) R rfl p37 rfl Tryd.underlying33 sz3 i37 j37) rfl (by decide) fun inv a R => ?_
     obtain ⟨x33_39, cx33_39, h⟩ := h
     refine dr_val (i := 6) R (waits_dom (by kernel_rfl) (by kernel_rfl)) (by kernel_rfl) inv rfl (by decide) (by kernel_rfl) (by kernel_rfl) (fun _ _ _ h => h) wanted_none (fun w' hS => rn_ld R rfl Tryd.underlying3 rfl (cell_heap' hS cx33_39)) rfl (by decide) fun inv a R => ?_
     refine dr_val (i := 7) R (waits_dom (by kernel_rfl) (by kernel_rfl)) (by kernel_rfl) inv rfl (by decide) (by kernel_rfl) (by kernel_rfl) (fun _ _ _ h => h) wanted_none (fun w' hS => rn_max R rfl rfl) rfl (by decide) fun inv a R => ?_
     refine dr_val (i := 8) R (waits_dom (by kernel_rfl) (by kernel_rfl)) (by kernel_rfl) inv rfl (by decide) (by kernel_rfl) (by kernel_rfl) (fun _ _ _ h => h) wanted_none (fun w' hS => rn_mv R rfl) rfl (by decide) fun inv a R => ?_
     obtain ⟨x36_41, cx36_41, h⟩ := h
     refine dr_val (i := 9) R (waits_dom (by kernel_rfl) (by kernel_rfl)) (by kernel_rfl) inv rfl (by decide) (by kernel_rfl) (by kernel_rfl) (fun _ _ _ h => h) wanted_none (fun w' hS => rn_nil R rfl cx36_41) rfl (by decide) fun inv a R => ?_
     refine dr_val (i := 10) R (waits_dom (by kernel_rfl) (by kernel_rfl)) (by kernel_rfl) inv rfl (by decide) (by kernel_rfl) (by kernel_rfl) (fun _ _ _ h => h) wanted_none (fun w' hS => rn_fld R rfl fd78_0) rfl (by decide) fun inv a R => ?_
     obtain ⟨x38_42, cx38_42, h⟩ := h
     refine dr_val (i := 11) R (waits_dom (by kernel_rfl) (by kernel_rfl)) (by kernel_rfl) inv rfl (by decide) (by kernel_rfl) (by kernel_rfl) (fun _ _ _ h => h) wanted_none (fun w' hS => rn_ld R rfl Tryd.underlying29 rfl (cell_heap' hS cx38_42)) rfl (by decide) fun inv a R => ?_
     refine dr_val (i := 12) R (waits_dom (by kernel_rfl) (by kernel_rfl)) (by kernel_rfl) inv rfl (by decide) (by kernel_rfl) (by kernel_rfl) (fun _ _ _ h => h) wanted_none (fun w' hS => rn_len R rfl Tryd.underlying29) rfl (by decide) fun inv a R => ?_
     refine dr_val (i := 13) R (waits_dom (by kernel_rfl) (by kernel_rfl)) (by kernel_rfl) inv rfl (by decide) (by kernel_rfl) (by kernel_rfl) (fun _ _ _ h => h) wanted_none (fun w' hS => rn_mv R rfl) rfl (by decide) fun inv a R => ?_
     obtain ⟨x41_44, cx41_44, h⟩ := h
     refine dr_val (i := 14) R (waits_dom (by kernel_rfl) (by kernel_rfl)) (by kernel_rfl) inv rfl (by decide) (by kernel_rfl) (by kernel_rfl) (fun _ _ _ h => h) wanted_none (fun w' hS => rn_nil R rfl cx41_44) rfl (by decide) fun inv a R => ?_
     refine dr_val (i := 15) R (waits_dom (by kernel_rfl) (by kernel_rfl)) (by kernel_rfl) inv rfl (by decide) (by kernel_rfl) (by kernel_rfl) (fun _ _ _ h => h) wanted_none (fun w' hS => rn_fld R rfl fd78_1) rfl (by decide) fun inv a R => ?_
     obtain ⟨x43_45, cx43_45, h⟩ := h
     refine dr_val (i := 16) R (waits_dom (by kernel_rfl) (by kernel_rfl)) (by kernel_rfl) inv rfl (by decide) (by kernel_rfl) (by kernel_rfl) (fun _ _ _ h => h) wanted_none (fun w' hS => rn_ld R rfl Tryd.underlying3 rfl (cell_heap' hS cx43_45)) rfl (by decide) fun inv a R => ?_
     refine dr_val (i := 17) R (waits_dom (by kernel_rfl) (by kernel_rfl)) (by kernel_rfl) inv rfl (by decide) (by kernel_rfl) (by kernel_rfl) (fun _ _ _ h => h) wanted_none (fun w' hS => rn_bin (v := .int .i64 (IntKind.i64.wrap (((x38_42.len : Nat) : Int) - x43_45))) R rfl rfl rfl) rfl (by decide) fun inv a R => ?_
     refine seg_end (by kernel_rfl) ?_
     refine any_tail 18 (by kernel_rfl) ?_
     refine op_val R (rn_min R rfl rfl) rfl fun a R => ?_
     refine oas R rfl rfl fun a R => ?_
     refine wpList_nil ?_
     refine then_normal ?_
     exact ⟨(if (IntKind.i64.wrap (((x38_42.len : Nat) : Int) - x43_45)) < (if 0 > x33_39 then 0 else x33_39) then (IntKind.i64.wrap (((x38_42.len : Nat) : Int) - x43_45)) else (if 0 > x33_39 then 0 else x33_39)), R.weak ⟨rfl, rfl, rfl, rfl, rfl, rfl, rfl, trivial⟩, h⟩
    ·refine wp_condF R (congrArg (fun b => some (Value.bool b)) g34) ?_
     refine wp_skip ?_
     refine then_normal ?_
     exact ⟨0, R.weak ⟨rfl, rfl, rfl, rfl, rfl, rfl, rfl, trivial⟩, h⟩
   ·rintro a w ⟨y17_7, R, h⟩
    unfold drawer_Disk_Restart.k17 at h
    refine wp_seq ?_
    refine region_start mo fun inv => ?_
    refine seg_same (n := 12) (f := 12) (g := 3) (by kernel_rfl) fun inv => ?_
    refine dr_val (i := 0) R (waits_dom (by kernel_rfl) (by kernel_rfl)) (by kernel_rfl) inv rfl (by decide) (by kernel_rfl) (by kernel_rfl) (fun _ _ _ h => h) wanted_none (fun w' hS => rn_mv R rfl) rfl (by decide) fun inv a R => ?_
    refine dr_val (i := 1) R (waits_dom (by kernel_rfl) (by kernel_rfl)) (by kernel_rfl) inv rfl (by decide) (by kernel_rfl) (by kernel_rfl) (fun _ _ _ h => h) wanted_none (fun w' hS => rn_mv R rfl) rfl (by decide) fun inv a R => ?_
    obtain ⟨x48_18, cx48_18, h⟩ := h
    refine dr_val (i := 2) R (waits_dom (by kernel_rfl) (by kernel_rfl)) (by kernel_rfl) inv rfl (by decide) (by kernel_rfl) (by kernel_rfl) (fun _ _ _ h => h) wanted_none (fun w' hS => rn_nil R rfl cx48_18) rfl (by decide) fun inv a R => ?_
    refine dr_val (i := 3) R (waits_dom (by kernel_rfl) (by kernel_rfl)) (by kernel_rfl) inv rfl (by decide) (by kernel_rfl) (by kernel_rfl) (fun _ _ _ h => h) wanted_none (fun w' hS => rn_fld R rfl fd78_0) rfl (by decide) fun inv a R => ?_
    obtain ⟨x50_19, cx50_19, h⟩ := h
    refine dr_val (i := 4) R (waits_dom (by kernel_rfl) (by kernel_rfl)) (by kernel_rfl) inv rfl (by decide) (by kernel_rfl) (by kernel_rfl) (fun _ _ _ h => h) wanted_none (fun w' hS => rn_ld R rfl Tryd.underlying29 rfl (cell_heap' hS cx50_19)) rfl (by decide) fun inv a R => ?_
    refine dr_val (i := 5) R (waits_dom (by kernel_rfl) (by kernel_rfl)) (by kernel_rfl) inv rfl (by decide) (by kernel_rfl) (by kernel_rfl) (fun _ _ _ h => h) wanted_none (fun w' hS => rn_mv R rfl) rfl (by decide) fun inv a R => ?_
    obtain ⟨x52_20, cx52_20, h⟩ := h
    refine dr_val (i := 6) R (waits_dom (by kernel_rfl) (by kernel_rfl)) (by kernel_rfl) inv rfl (by decide) (by kernel_rfl) (by kernel_rfl) (fun _ _ _ h => h) wanted_none (fun w' hS => rn_nil R rfl cx52_20) rfl (by decide) fun inv a R => ?_
    refine dr_val (i := 7) R (waits_dom (by kernel_rfl) (by kernel_rfl)) (by kernel_rfl) inv rfl (by decide) (by kernel_rfl) (by kernel_rfl) (fun _ _ _ h => h) wanted_none (fun w' hS => rn_fld R rfl fd78_1) rfl (by decide) fun inv a R => ?_
    obtain ⟨x54_21, cx54_21, h⟩ := h
    refine dr_val (i := 8) R (waits_dom (by kernel_rfl) (by kernel_rfl)) (by kernel_rfl) inv rfl (by decide) (by kernel_rfl) (by kernel_rfl) (fun _ _ _ h => h) wanted_none (fun w' hS => rn_ld R rfl Tryd.underlying3 rfl (cell_heap' hS cx54_21)) rfl (by decide) fun inv a R => ?_
    refine dr_val (i := 9) R (waits_dom (by kernel_rfl) (by kernel_rfl)) (by kernel_rfl) inv rfl (by decide) (by kernel_rfl) (by kernel_rfl) (fun _ _ _ h => h) wanted_none (fun w' hS => rn_mv R rfl) rfl (by decide) fun inv a R => ?_
    refine dr_val (i := 10) R (waits_dom (by kernel_rfl) (by kernel_rfl)) (by kernel_rfl) inv rfl (by decide) (by kernel_rfl) (by kernel_rfl) (fun _ _ _ h => h) wanted_none (fun w' hS => rn_bin (v := .int .i64 (IntKind.i64.wrap (x54_21 + y17_7))) R rfl rfl rfl) rfl (by decide) fun inv a R => ?_
    obtain ⟨s23_0, s23_1, h⟩ := h
    refine dr_val (i := 11) R (waits_dom (by kernel_rfl) (by kernel_rfl)) (by kernel_rfl) inv rfl (by decide) (by kernel_rfl) (by kernel_rfl) (fun _ _ _ h => h) wanted_none (fun w' hS => rn_sl R rfl rfl (evo R rfl) rfl (fun w => bounds2 (lo := none) (hi := (some (.i64, (IntKind.i64.wrap (x54_21 + y17_7))))) 0 (Int.toNat (IntKind.i64.wrap (x54_21 + y17_7))) ⟨s23_0, s23_1, rfl⟩ rfl w) Tryd.underlying29 sz5) rfl (by decide) fun inv a R => ?_
    refine seg_end (by kernel_rfl) ?_
    refine any_tail 12 (by kernel_rfl) ?_
    obtain ⟨x58_24, cx58_24, h⟩ := h
    refine onl R rfl cx58_24 rfl fun a R => ?_
    refine ofd R rfl fd78_0 rfl fun a R => ?_
    obtain ⟨q25, f25, h⟩ := h
    refine op_unit R (rn_st R rfl rfl rfl sz29 q25 f25) fun a R => ?_
    refine wpList_nil ?_
    refine then_normal ?_
    refine wp_region_lit ?_
    refine omv R rfl rfl fun a R => ?_
    refine omv R rfl rfl fun a R => ?_
    obtain ⟨x62_26, cx62_26, h⟩ := h
    refine onl R rfl cx62_26 rfl fun a R => ?_
    refine ofd R rfl fd78_0 rfl fun a R => ?_
    obtain ⟨x64_27, cx64_27, h⟩ := h
    refine old R rfl Tryd.underlying29 rfl cx64_27 rfl fun a R => ?_
    refine op_val R (rn_len R rfl Tryd.underlying29) rfl fun a R => ?_
    obtain ⟨x66_29, cx66_29, h⟩ := h
    refine onl R rfl cx66_29 rfl fun a R => ?_
    refine ofd R rfl fd78_1 rfl fun a R => ?_
    obtain ⟨q30, f30, h⟩ := h
    refine op_unit R (rn_st R rfl rfl rfl sz3 q30 f30) fun a R => ?_
    refine wpList_nil ?_
    refine block_normal ?_
    refine then_normal ?_
    refine wp_region_lit ?_
    refine op_val R (rn_bin (v := .int .i64 (IntKind.i64.wrap (z7_13 + 1))) R rfl rfl rfl) rfl fun a R => ?_
    refine omv R rfl rfl fun a R => ?_
    refine wpList_nil ?_
    refine then_normal ?_
    exact hC (IntKind.i64.wrap (z7_13 + 1)) _ _ (R.weak ⟨rfl, rfl, rfl, rfl, rfl, trivial⟩) (by rw [← hK7] at h; exact h)
  ·refine wp_condF R (congrArg (fun b => some (Value.bool b)) g9) ?_
   refine wp_exit ?_
   refine then_exit ?_
   refine then_exit ?_
   refine block_eq ?_
   refine then_normal ?_
   exact ⟨R.weak ⟨rfl, trivial⟩, h⟩
 ·rintro a w ⟨R, h⟩
  unfold drawer_Disk_Restart.k2 at h
  refine wp_region_lit ?_
  refine omv R rfl rfl fun a R => ?_
  obtain ⟨x70_3, cx70_3, h⟩ := h
  refine onl R rfl cx70_3 rfl fun a R => ?_
  refine ofd R rfl fd75_1 rfl fun a R => ?_
  obtain ⟨q4, f4, h⟩ := h
  refine op_unit R (rn_st R rfl rfl rfl sz4 q4 f4) fun a R => ?_
  refine wpList_nil ?_
  exact post_end R rfl rfl ⟨rfl, h⟩
theorem s_drawer_Disk_Restart (x0 : Option Addr) (x1 : Sl) (Q : World → Prop) (w : World) (h : drawer_Disk_Restart x0 x1 Q w) :
    Calls Tryd.prog 18 #[.pointer x0, Sl.val x1] w (Rets fun v w => v = (.tuple #[] : Value) ∧ Q w) :=
  calls_body (args := [.pointer x0, Sl.val x1]) Tryd.func18 rfl rfl (Nat.le_of_ble_eq_true rfl) (L := [(0, .pointer x0), (1, Sl.val x1)]) (by simp [starts]) (b_drawer_Disk_Restart x0 x1 Q w h rfl)

/-! levylaw19.known -/

def levylaw19_known.k33 (y33_0 : Bool) (Q : Bool → World → Prop) (w : World) : Prop :=
  Q y33_0 w

def levylaw19_known.k2 (x8_1_0 : Option Addr) (y2_22 : Bool) (Q : Bool → World → Prop) (w : World) : Prop :=
  (if y2_22 = true then Q false w else nn x8_1_0 fun x24_4 => ld Value.pointer (World.drew w) (x24_4.add 1) fun x26_5 => al (World.drew w) (.cells #[.int .u8 97] 5) fun x27_6 w => ((World.cell? w (x24_4.add 1) = some (.pointer x26_5) ∧ True) ∧ levylaw19_record 5 (Sl.mk (some x27_6) 1 1) (fun x28_8_0_0 x28_8_0_1 w => ((World.cell? w (x24_4.add 1) = some (.pointer x26_5) ∧ True) ∧ drawer_Drawer_Put x26_5 x28_8_0_0 x28_8_0_1 (fun x29_9_0 w => (if (x29_9_0 != 0) = true then Q false w else nn x8_1_0 fun x32_12 => ld Value.pointer w (x32_12.add 0) fun x34_13 => drawer_Disk_Arm x34_13 3 (fun  w => nn x8_1_0 fun x37_15 => ld Value.pointer (World.drew w) (x37_15.add 1) fun x39_16 => al (World.drew w) (.cells #[.int .u8 98] 5) fun x40_17 w => ((World.cell? w (x37_15.add 1) = some (.pointer x39_16) ∧ True) ∧ levylaw19_record 6 (Sl.mk (some x40_17) 1 1) (fun x41_19_0_0 x41_19_0_1 w => ((World.cell? w (x37_15.add 1) = some (.pointer x39_16) ∧ True) ∧ drawer_Drawer_Put x39_16 x41_19_0_0 x41_19_0_1 (fun x42_20_0 w => nn x8_1_0 fun x44_21 => ld Value.pointer (World.drew w) (x44_21.add 1) fun x46_22 => levylaw19_record 6 (Sl.mk none 0 0) (fun x47_23_0_0 x47_23_0_1 w => ((World.cell? w (x44_21.add 1) = some (.pointer x46_22) ∧ True) ∧ drawer_Drawer_Put x46_22 x47_23_0_0 x47_23_0_1 (fun x48_24_0 w => nn x8_1_0 fun x50_25 => ld Value.pointer w (x50_25.add 0) fun x52_26 => al w (.cells #[.int .i64 100] 3) fun x53_27 w => drawer_Disk_Restart x52_26 (Sl.mk (some x53_27) 1 1) (fun  w => nn x8_1_0 fun x57_30 => ld Value.pointer w (x57_30.add 0) fun x59_31 => drawer_Open x59_31 7 (fun x60_32_0 x60_32_1 x60_32_2 x60_32_3 w => (if (x42_20_0 == 190) = true then (if (x48_24_0 == 196) = true then (if (x60_32_3 == 0) = true then (if (Option.isNone x60_32_0) = true then levylaw19_known.k33 false Q w else (if (((x60_32_1.len : Nat) : Int) == 0) = true then (if (((x60_32_2.len : Nat) : Int) == 1) = true then ix x60_32_2.p x60_32_2.len 0 2 fun x91_48 => ld (Value.int .u8) w (x91_48.add 0) fun x93_49 => (if (x93_49 == 5) = true then ix x60_32_2.p x60_32_2.len 0 2 fun x98_53 => ld Sl.val w (x98_53.add 1) fun x100_54 => al w (.cells #[.int .u8 97] 5) fun x101_55 w => levylaw19_sameBytes x100_54 (Sl.mk (some x101_55) 1 1) (fun x102_57_0 w => levylaw19_known.k33 x102_57_0 Q w) w else levylaw19_known.k33 false Q w) else levylaw19_known.k33 false Q w) else levylaw19_known.k33 false Q w)) else levylaw19_known.k33 false Q w) else levylaw19_known.k33 false Q w) else levylaw19_known.k33 false Q w)) w) w) w)) (World.drew w)) w)) w)) w)) w)) w))

def levylaw19_known  (Q : Bool → World → Prop) (w : World) : Prop :=
  levylaw19_begin 7 (fun x8_1_0 w => (if (Option.isNone x8_1_0) = true then levylaw19_known.k2 x8_1_0 true Q w else levylaw19_world_open x8_1_0 (fun x13_69_0 w => (if x13_69_0 = true then nn x8_1_0 fun x18_71 => ld Value.pointer w (x18_71.add 1) fun x20_72 => levylaw19_known.k2 x8_1_0 (Option.isNone x20_72) Q w else levylaw19_known.k2 x8_1_0 true Q w)) w)) w

theorem b_levylaw19_known  (Q : Bool → World → Prop) (w : World) (h : levylaw19_known  Q w) {c : Code} (hb : Tryd.f6.body = some c) :
 ∀ a, Rep a 104 [] [] → c.wp Tryd.prog (bodyPost Tryd.prog Tryd.f6 (Rets fun v w => ∃ r0 : Bool, v = (.bool r0 : Value) ∧ Q r0 w)) a w := by
 intro a R
 obtain rfl := Option.some.inj hb
 unfold levylaw19_known at h
 refine wp_seq ?_
 refine wp_region_lit ?_
 refine oas R rfl rfl fun a R => ?_
 refine wpList_nil ?_
 refine then_normal ?_
 refine wp_seq ?_
 refine wp_region_lit ?_
 refine op_call R (rn_calls R rfl cf7) rfl ?_
 refine call_mono (s_levylaw19_begin _ _ _ h) ?_
 rintro _ w74 ⟨x8_1_0, rfl, h⟩ a R
 refine oas R rfl rfl fun a R => ?_
 refine wpList_nil ?_
 refine then_normal ?_
 refine wp_seq ?_
 refine seq_join (fun a w => ∃ y2_22 : Bool, Rep a 104 [(1, .pointer x8_1_0), (22, .bool y2_22)] [] ∧ levylaw19_known.k2 x8_1_0 y2_22 Q w) ?_ ?_
 ·refine wp_region_lit ?_
  refine omv R rfl rfl fun a R => ?_
  refine op_val R (rn_nilPE R rfl rfl Tryd.underlying25) rfl fun a R => ?_
  refine omv R rfl rfl fun a R => ?_
  rcases ite_cases h with ⟨g68, h⟩ | ⟨g68, h⟩
  ·refine op_pass R rfl rfl rfl (nft g68) (fun a R => ?_) (by intro s hs; cases hs; rfl)
   refine op_pass R rfl rfl rfl (nft g68) (fun a R => ?_) (by intro s hs; cases hs; rfl)
   refine op_pass R rfl rfl rfl (nft g68) (fun a R => ?_) (by intro s hs; cases hs; rfl)
   refine op_val R (rn_pickT R rfl g68 rfl) rfl fun a R => ?_
   refine omv R rfl rfl fun a R => ?_
   refine op_pass R rfl rfl rfl (nft rfl) (fun a R => ?_) (by intro s hs; cases hs; rfl)
   refine op_pass R rfl rfl rfl (nft rfl) (fun a R => ?_) (by intro s hs; cases hs; rfl)
   refine op_pass R rfl rfl rfl (nft rfl) (fun a R => ?_) (by intro s hs; cases hs; rfl)
   refine op_pass R rfl rfl rfl (nft rfl) (fun a R => ?_) (by intro s hs; cases hs; rfl)
   refine op_pass R rfl rfl rfl (nft rfl) (fun a R => ?_) (by intro s hs; cases hs; rfl)
   refine op_val R (rn_pickT R rfl rfl rfl) rfl fun a R => ?_
   refine wpList_nil ?_
   refine then_normal ?_
   exact ⟨true, R.weak ⟨rfl, rfl, trivial⟩, h⟩
  ·refine op_guard R rfl rfl rfl g68 ?_
   refine omv R rfl rfl fun a R => ?_
   refine op_guard R rfl rfl rfl g68 ?_
   refine op_call R (rn_calls R rfl cf8) rfl ?_
   refine call_mono (s_levylaw19_world_open _ _ _ h) ?_
   rintro _ w73 ⟨x13_69_0, rfl, h⟩ a R
   refine op_guard R rfl rfl rfl g68 ?_
   refine op_val R (rn_un (v := .bool (!x13_69_0)) R rfl rfl) rfl fun a R => ?_
   refine op_val R (rn_pickF R rfl g68 rfl) rfl fun a R => ?_
   refine omv R rfl rfl fun a R => ?_
   rcases ite_cases h with ⟨g70, h⟩ | ⟨g70, h⟩
   ·refine op_guard R rfl rfl rfl (nf g70) ?_
    refine omv R rfl rfl fun a R => ?_
    refine op_guard R rfl rfl rfl (nf g70) ?_
    obtain ⟨x18_71, cx18_71, h⟩ := h
    refine onl R rfl cx18_71 rfl fun a R => ?_
    refine op_guard R rfl rfl rfl (nf g70) ?_
    refine ofd R rfl fd32_1 rfl fun a R => ?_
    refine op_guard R rfl rfl rfl (nf g70) ?_
    obtain ⟨x20_72, cx20_72, h⟩ := h
    refine old R rfl Tryd.underlying28 rfl cx20_72 rfl fun a R => ?_
    refine op_guard R rfl rfl rfl (nf g70) ?_
    refine op_val R (rn_nilPE R rfl rfl Tryd.underlying28) rfl fun a R => ?_
    refine op_val R (rn_pickF R rfl (nf g70) rfl) rfl fun a R => ?_
    refine wpList_nil ?_
    refine then_normal ?_
    exact ⟨(Option.isNone x20_72), R.weak ⟨rfl, rfl, trivial⟩, h⟩
   ·refine op_pass R rfl rfl rfl (nft (nt g70)) (fun a R => ?_) (by intro s hs; cases hs; rfl)
    refine op_pass R rfl rfl rfl (nft (nt g70)) (fun a R => ?_) (by intro s hs; cases hs; rfl)
    refine op_pass R rfl rfl rfl (nft (nt g70)) (fun a R => ?_) (by intro s hs; cases hs; rfl)
    refine op_pass R rfl rfl rfl (nft (nt g70)) (fun a R => ?_) (by intro s hs; cases hs; rfl)
    refine op_pass R rfl rfl rfl (nft (nt g70)) (fun a R => ?_) (by intro s hs; cases hs; rfl)
    refine op_val R (rn_pickT R rfl (nt g70) rfl) rfl fun a R => ?_
    refine wpList_nil ?_
    refine then_normal ?_
    exact ⟨true, R.weak ⟨rfl, rfl, trivial⟩, h⟩
 ·rintro a w ⟨y2_22, R, h⟩
  unfold levylaw19_known.k2 at h
  rcases ite_cases h with ⟨g3, h⟩ | ⟨g3, h⟩
  ·refine wp_condT R (congrArg (fun b => some (Value.bool b)) g3) ?_
   refine wp_seq ?_
   refine wp_region_lit ?_
   refine oas R rfl rfl fun a R => ?_
   refine wpList_nil ?_
   refine then_normal ?_
   refine wp_ret ?_
   refine then_ret ?_
   exact post_ret R rfl rfl ⟨false, rfl, h⟩
  ·refine wp_condF R (congrArg (fun b => some (Value.bool b)) g3) ?_
   refine wp_skip ?_
   refine then_normal ?_
   refine wp_seq ?_
   refine wp_seq ?_
   refine region_start mo fun inv => ?_
   obtain ⟨x24_4, cx24_4, h⟩ := h
   obtain ⟨x26_5, cx26_5, h⟩ := h
   refine seg_held (n := 6) (f := 6) (g := 2) (fun w : World => w.cell? (x24_4.add 1) = some (.pointer x26_5) ∧ True) (by kernel_rfl) fun inv => ?_
   have hS0 : (fun w : World => w.cell? (x24_4.add 1) = some (.pointer x26_5) ∧ True) _ := ⟨cx26_5, trivial⟩
   refine dr_val (i := 0) R (waits_dom (by kernel_rfl) (by kernel_rfl)) (by kernel_rfl) inv rfl (by decide) (by kernel_rfl) (by kernel_rfl) (fun _ _ _ h => h) wanted_none (fun w' hS => rn_mv R rfl) hS0 rfl fun inv a R => ?_
   refine dr_val (i := 1) R (waits_dom (by kernel_rfl) (by kernel_rfl)) (by kernel_rfl) inv rfl (by decide) (by kernel_rfl) (by kernel_rfl) (fun _ _ _ h => h) wanted_none (fun w' hS => rn_nil R rfl cx24_4) hS0 rfl fun inv a R => ?_
   refine dr_val (i := 2) R (waits_dom (by kernel_rfl) (by kernel_rfl)) (by kernel_rfl) inv rfl (by decide) (by kernel_rfl) (by kernel_rfl) (fun _ _ _ h => h) wanted_none (fun w' hS => rn_fld R rfl fd32_1) hS0 rfl fun inv a R => ?_
   refine dr_val (i := 3) R (waits_dom (by kernel_rfl) (by kernel_rfl)) (by kernel_rfl) inv rfl (by decide) (by kernel_rfl) (by kernel_rfl) (fun _ _ _ h => h) wanted_none (fun w' hS => rn_ld R rfl Tryd.underlying28 rfl (hS.1)) hS0 rfl fun inv a R => ?_
   obtain ⟨x27_6, e7, h⟩ := al_e h
   obtain ⟨hS0, h⟩ := h
   refine dr_run (v := .slice (some x27_6) 1 1) (i := 4) R inv rfl (by decide) (by kernel_rfl) wanted_none (by rw [e7]; exact rn_buildSlice (t := 29) (len := 1) (xs := [(0, (.const (.int .u8 97)))]) (cells := #[.int .u8 97]) (e := 5) R rfl (fun w => by kernel_rfl)) hS0 rfl fun inv a R => ?_
   refine dr_call (i := 5) R inv rfl (by decide) (by kernel_rfl) wanted_none (rn_calls R rfl cf10) rfl ?_
   refine call_mono (s_levylaw19_record _ (Sl.mk (some x27_6) 1 1) _ _ h) ?_
   rintro _ w67 ⟨x28_8_0_0, x28_8_0_1, rfl, hS0, h⟩
   refine ⟨hS0, fun a inv R => ?_⟩
   refine seg_end (by kernel_rfl) ?_
   refine any_tail 6 (by kernel_rfl) ?_
   refine op_call R (rn_calls R rfl cf9) rfl ?_
   refine call_mono (s_drawer_Drawer_Put _ _ _ _ _ h) ?_
   rintro _ w66 ⟨x29_9_0, rfl, h⟩ a R
   refine op_val R (rn_bin (v := .bool (x29_9_0 != 0)) R rfl rfl rfl) rfl fun a R => ?_
   refine wpList_nil ?_
   refine then_normal ?_
   rcases ite_cases h with ⟨g11, h⟩ | ⟨g11, h⟩
   ·refine wp_condT R (congrArg (fun b => some (Value.bool b)) g11) ?_
    refine wp_seq ?_
    refine wp_region_lit ?_
    refine oas R rfl rfl fun a R => ?_
    refine wpList_nil ?_
    refine then_normal ?_
    refine wp_ret ?_
    refine then_ret ?_
    exact post_ret R rfl rfl ⟨false, rfl, h⟩
   ·refine wp_condF R (congrArg (fun b => some (Value.bool b)) g11) ?_
    refine wp_skip ?_
    refine then_normal ?_
    refine wp_seq ?_
    refine wp_region_lit ?_
    refine omv R rfl rfl fun a R => ?_
    obtain ⟨x32_12, cx32_12, h⟩ := h
    refine onl R rfl cx32_12 rfl fun a R => ?_
    refine ofd R rfl fd32_0 rfl fun a R => ?_
    obtain ⟨x34_13, cx34_13, h⟩ := h
    refine old R rfl Tryd.underlying27 rfl cx34_13 rfl fun a R => ?_
    refine op_call R (rn_calls R rfl cf14) rfl ?_
    refine call_mono (s_drawer_Disk_Arm _ _ _ _ h) ?_
    rintro _ w65 ⟨rfl, h⟩ a R
    refine wpList_nil ?_
    refine then_normal ?_
    refine wp_seq ?_
    refine region_start mo fun inv => ?_
    obtain ⟨x37_15, cx37_15, h⟩ := h
    obtain ⟨x39_16, cx39_16, h⟩ := h
    refine seg_held (n := 6) (f := 6) (g := 2) (fun w : World => w.cell? (x37_15.add 1) = some (.pointer x39_16) ∧ True) (by kernel_rfl) fun inv => ?_
    have hS0 : (fun w : World => w.cell? (x37_15.add 1) = some (.pointer x39_16) ∧ True) _ := ⟨cx39_16, trivial⟩
    refine dr_val (i := 0) R (waits_dom (by kernel_rfl) (by kernel_rfl)) (by kernel_rfl) inv rfl (by decide) (by kernel_rfl) (by kernel_rfl) (fun _ _ _ h => h) wanted_none (fun w' hS => rn_mv R rfl) hS0 rfl fun inv a R => ?_
    refine dr_val (i := 1) R (waits_dom (by kernel_rfl) (by kernel_rfl)) (by kernel_rfl) inv rfl (by decide) (by kernel_rfl) (by kernel_rfl) (fun _ _ _ h => h) wanted_none (fun w' hS => rn_nil R rfl cx37_15) hS0 rfl fun inv a R => ?_
    refine dr_val (i := 2) R (waits_dom (by kernel_rfl) (by kernel_rfl)) (by kernel_rfl) inv rfl (by decide) (by kernel_rfl) (by kernel_rfl) (fun _ _ _ h => h) wanted_none (fun w' hS => rn_fld R rfl fd32_1) hS0 rfl fun inv a R => ?_
    refine dr_val (i := 3) R (waits_dom (by kernel_rfl) (by kernel_rfl)) (by kernel_rfl) inv rfl (by decide) (by kernel_rfl) (by kernel_rfl) (fun _ _ _ h => h) wanted_none (fun w' hS => rn_ld R rfl Tryd.underlying28 rfl (hS.1)) hS0 rfl fun inv a R => ?_
    obtain ⟨x40_17, e18, h⟩ := al_e h
    obtain ⟨hS0, h⟩ := h
    refine dr_run (v := .slice (some x40_17) 1 1) (i := 4) R inv rfl (by decide) (by kernel_rfl) wanted_none (by rw [e18]; exact rn_buildSlice (t := 29) (len := 1) (xs := [(0, (.const (.int .u8 98)))]) (cells := #[.int .u8 98]) (e := 5) R rfl (fun w => by kernel_rfl)) hS0 rfl fun inv a R => ?_
    refine dr_call (i := 5) R inv rfl (by decide) (by kernel_rfl) wanted_none (rn_calls R rfl cf10) rfl ?_
    refine call_mono (s_levylaw19_record _ (Sl.mk (some x40_17) 1 1) _ _ h) ?_
    rintro _ w64 ⟨x41_19_0_0, x41_19_0_1, rfl, hS0, h⟩
    refine ⟨hS0, fun a inv R => ?_⟩
    refine seg_end (by kernel_rfl) ?_
    refine any_tail 6 (by kernel_rfl) ?_
    refine op_call R (rn_calls R rfl cf9) rfl ?_
    refine call_mono (s_drawer_Drawer_Put _ _ _ _ _ h) ?_
    rintro _ w63 ⟨x42_20_0, rfl, h⟩ a R
    refine oas R rfl rfl fun a R => ?_
    refine wpList_nil ?_
    refine then_normal ?_
    refine wp_seq ?_
    refine region_start mo fun inv => ?_
    obtain ⟨x44_21, cx44_21, h⟩ := h
    obtain ⟨x46_22, cx46_22, h⟩ := h
    refine seg_held (n := 5) (f := 5) (g := 2) (fun w : World => w.cell? (x44_21.add 1) = some (.pointer x46_22) ∧ True) (by kernel_rfl) fun inv => ?_
    have hS0 : (fun w : World => w.cell? (x44_21.add 1) = some (.pointer x46_22) ∧ True) _ := ⟨cx46_22, trivial⟩
    refine dr_val (i := 0) R (waits_dom (by kernel_rfl) (by kernel_rfl)) (by kernel_rfl) inv rfl (by decide) (by kernel_rfl) (by kernel_rfl) (fun _ _ _ h => h) wanted_none (fun w' hS => rn_mv R rfl) hS0 rfl fun inv a R => ?_
    refine dr_val (i := 1) R (waits_dom (by kernel_rfl) (by kernel_rfl)) (by kernel_rfl) inv rfl (by decide) (by kernel_rfl) (by kernel_rfl) (fun _ _ _ h => h) wanted_none (fun w' hS => rn_nil R rfl cx44_21) hS0 rfl fun inv a R => ?_
    refine dr_val (i := 2) R (waits_dom (by kernel_rfl) (by kernel_rfl)) (by kernel_rfl) inv rfl (by decide) (by kernel_rfl) (by kernel_rfl) (fun _ _ _ h => h) wanted_none (fun w' hS => rn_fld R rfl fd32_1) hS0 rfl fun inv a R => ?_
    refine dr_val (i := 3) R (waits_dom (by kernel_rfl) (by kernel_rfl)) (by kernel_rfl) inv rfl (by decide) (by kernel_rfl) (by kernel_rfl) (fun _ _ _ h => h) wanted_none (fun w' hS => rn_ld R rfl Tryd.underlying28 rfl (hS.1)) hS0 rfl fun inv a R => ?_
    refine dr_call (i := 4) R inv rfl (by decide) (by kernel_rfl) wanted_none (rn_calls R rfl cf10) rfl ?_
    refine call_mono (s_levylaw19_record _ (Sl.mk none 0 0) _ _ h) ?_
    rintro _ w62 ⟨x47_23_0_0, x47_23_0_1, rfl, hS0, h⟩
    refine ⟨hS0, fun a inv R => ?_⟩
    refine seg_end (by kernel_rfl) ?_
    refine any_tail 5 (by kernel_rfl) ?_
    refine op_call R (rn_calls R rfl cf9) rfl ?_
    refine call_mono (s_drawer_Drawer_Put _ _ _ _ _ h) ?_
    rintro _ w61 ⟨x48_24_0, rfl, h⟩ a R
    refine oas R rfl rfl fun a R => ?_
    refine wpList_nil ?_
    refine then_normal ?_
    refine wp_seq ?_
    refine wp_region_lit ?_
    refine omv R rfl rfl fun a R => ?_
    obtain ⟨x50_25, cx50_25, h⟩ := h
    refine onl R rfl cx50_25 rfl fun a R => ?_
    refine ofd R rfl fd32_0 rfl fun a R => ?_
    obtain ⟨x52_26, cx52_26, h⟩ := h
    refine old R rfl Tryd.underlying27 rfl cx52_26 rfl fun a R => ?_
    obtain ⟨x53_27, e28, h⟩ := al_e h
    refine op_val (v := .slice (some x53_27) 1 1) R (by rw [e28]; exact rn_buildSlice (t := 33) (len := 1) (xs := [(0, (.const (.int .i64 100)))]) (cells := #[.int .i64 100]) (e := 3) R rfl (fun w => by kernel_rfl)) rfl fun a R => ?_
    refine op_call R (rn_calls R rfl cf18) rfl ?_
    refine call_mono (s_drawer_Disk_Restart _ (Sl.mk (some x53_27) 1 1) _ _ h) ?_
    rintro _ w60 ⟨rfl, h⟩ a R
    refine wpList_nil ?_
    refine then_normal ?_
    refine wp_seq ?_
    refine wp_region_lit ?_
    refine omv R rfl rfl fun a R => ?_
    obtain ⟨x57_30, cx57_30, h⟩ := h
    refine onl R rfl cx57_30 rfl fun a R => ?_
    refine ofd R rfl fd32_0 rfl fun a R => ?_
    obtain ⟨x59_31, cx59_31, h⟩ := h
    refine old R rfl Tryd.underlying27 rfl cx59_31 rfl fun a R => ?_
    refine op_call R (rn_calls R rfl cf19) rfl ?_
    refine call_mono (s_drawer_Open _ _ _ _ h) ?_
    rintro _ w59 ⟨x60_32_0, x60_32_1, x60_32_2, x60_32_3, rfl, h⟩ a R
    refine omv R rfl rfl fun a R => ?_
    refine op_val R (rn_ext R rfl rfl) rfl fun a R => ?_
    refine op_val R (rn_ext R rfl rfl) rfl fun a R => ?_
    refine op_val R (rn_ext R rfl rfl) rfl fun a R => ?_
    refine op_val R (rn_ext R rfl rfl) rfl fun a R => ?_
    refine oas R rfl rfl fun a R => ?_
    refine oas R rfl rfl fun a R => ?_
    refine oas R rfl rfl fun a R => ?_
    refine oas R rfl rfl fun a R => ?_
    refine wpList_nil ?_
    refine then_normal ?_
    refine seq_join (fun a w => ∃ y33_0 : Bool, Rep a 104 [(0, .bool y33_0)] [] ∧ levylaw19_known.k33 y33_0 Q w) ?_ ?_
    ·refine wp_region_lit ?_
     refine omv R rfl rfl fun a R => ?_
     refine op_val R (rn_bin (v := .bool (x42_20_0 == 190)) R rfl rfl rfl) rfl fun a R => ?_
     refine omv R rfl rfl fun a R => ?_
     rcases ite_cases h with ⟨g35, h⟩ | ⟨g35, h⟩
     ·refine op_guard R rfl rfl rfl g35 ?_
      refine omv R rfl rfl fun a R => ?_
      refine op_guard R rfl rfl rfl g35 ?_
      refine op_val R (rn_bin (v := .bool (x48_24_0 == 196)) R rfl rfl rfl) rfl fun a R => ?_
      refine op_val R (rn_pickT R rfl g35 rfl) rfl fun a R => ?_
      refine omv R rfl rfl fun a R => ?_
      rcases ite_cases h with ⟨g37, h⟩ | ⟨g37, h⟩
      ·refine op_guard R rfl rfl rfl g37 ?_
       refine omv R rfl rfl fun a R => ?_
       refine op_guard R rfl rfl rfl g37 ?_
       refine op_val R (rn_bin (v := .bool (x60_32_3 == 0)) R rfl rfl rfl) rfl fun a R => ?_
       refine op_val R (rn_pickT R rfl g37 rfl) rfl fun a R => ?_
       refine omv R rfl rfl fun a R => ?_
       rcases ite_cases h with ⟨g39, h⟩ | ⟨g39, h⟩
       ·refine op_guard R rfl rfl rfl g39 ?_
        refine omv R rfl rfl fun a R => ?_
        refine op_guard R rfl rfl rfl g39 ?_
        refine op_val R (rn_nilPN R rfl rfl Tryd.underlying28) rfl fun a R => ?_
        refine op_val R (rn_pickT R rfl g39 rfl) rfl fun a R => ?_
        refine omv R rfl rfl fun a R => ?_
        rcases ite_cases h with ⟨g40, h⟩ | ⟨g40, h⟩
        ·refine op_pass R rfl rfl rfl (ntf (nf g40)) (fun a R => ?_) (by intro s hs; cases hs; rfl)
         refine op_pass R rfl rfl rfl (ntf (nf g40)) (fun a R => ?_) (by intro s hs; cases hs; rfl)
         refine op_pass R rfl rfl rfl (ntf (nf g40)) (fun a R => ?_) (by intro s hs; cases hs; rfl)
         refine op_val R (rn_pickF R rfl (nf g40) rfl) rfl fun a R => ?_
         refine omv R rfl rfl fun a R => ?_
         refine op_pass R rfl rfl rfl (ntf rfl) (fun a R => ?_) (by intro s hs; cases hs; rfl)
         refine op_pass R rfl rfl rfl (ntf rfl) (fun a R => ?_) (by intro s hs; cases hs; rfl)
         refine op_pass R rfl rfl rfl (ntf rfl) (fun a R => ?_) (by intro s hs; cases hs; rfl)
         refine op_val R (rn_pickF R rfl rfl rfl) rfl fun a R => ?_
         refine omv R rfl rfl fun a R => ?_
         refine op_pass R rfl rfl rfl (ntf rfl) (fun a R => ?_) (by intro s hs; cases hs; rfl)
         refine op_pass R rfl rfl rfl (ntf rfl) (fun a R => ?_) (by intro s hs; cases hs; rfl)
         refine op_pass R rfl rfl rfl (ntf rfl) (fun a R => ?_) (by intro s hs; cases hs; rfl)
         refine op_pass R rfl rfl rfl (ntf rfl) (fun a R => ?_) (by intro s hs; cases hs; rfl)
         refine op_pass R rfl rfl rfl (ntf rfl) (fun a R => ?_) (by intro s hs; cases hs; rfl)
         refine op_val R (rn_pickF R rfl rfl rfl) rfl fun a R => ?_
         refine omv R rfl rfl fun a R => ?_
         refine op_pass R rfl rfl rfl (ntf rfl) (fun a R => ?_) (by intro s hs; cases hs; rfl)
         refine op_pass R rfl rfl rfl (ntf rfl) (fun a R => ?_) (by intro s hs; cases hs; rfl)
         refine op_pass R rfl rfl rfl (ntf rfl) (fun a R => ?_) (by intro s hs; cases hs; rfl)
         refine op_pass R rfl rfl rfl (ntf rfl) (fun a R => ?_) (by intro s hs; cases hs; rfl)
         refine op_pass R rfl rfl rfl (ntf rfl) (fun a R => ?_) (by intro s hs; cases hs; rfl)
         refine op_pass R rfl rfl rfl (ntf rfl) (fun a R => ?_) (by intro s hs; cases hs; rfl)
         refine op_val R (rn_pickF R rfl rfl rfl) rfl fun a R => ?_
         refine oas R rfl rfl fun a R => ?_
         refine wpList_nil ?_
         refine then_normal ?_
         exact ⟨false, R.weak ⟨rfl, trivial⟩, h⟩
        ·refine op_guard R rfl rfl rfl (nt g40) ?_
         refine omv R rfl rfl fun a R => ?_
         refine op_guard R rfl rfl rfl (nt g40) ?_
         refine op_val R (rn_len R rfl Tryd.underlying29) rfl fun a R => ?_
         refine op_guard R rfl rfl rfl (nt g40) ?_
         refine op_val R (rn_bin (v := .bool (((x60_32_1.len : Nat) : Int) == 0)) R rfl rfl rfl) rfl fun a R => ?_
         refine op_val R (rn_pickT R rfl (nt g40) rfl) rfl fun a R => ?_
         refine omv R rfl rfl fun a R => ?_
         rcases ite_cases h with ⟨g43, h⟩ | ⟨g43, h⟩
         ·refine op_guard R rfl rfl rfl g43 ?_
          refine omv R rfl rfl fun a R => ?_
          refine op_guard R rfl rfl rfl g43 ?_
          refine op_val R (rn_len R rfl Tryd.underlying30) rfl fun a R => ?_
          refine op_guard R rfl rfl rfl g43 ?_
          refine op_val R (rn_bin (v := .bool (((x60_32_2.len : Nat) : Int) == 1)) R rfl rfl rfl) rfl fun a R => ?_
          refine op_val R (rn_pickT R rfl g43 rfl) rfl fun a R => ?_
          refine omv R rfl rfl fun a R => ?_
          rcases ite_cases h with ⟨g46, h⟩ | ⟨g46, h⟩
          ·refine op_guard R rfl rfl rfl g46 ?_
           refine omv R rfl rfl fun a R => ?_
           refine op_guard R rfl rfl rfl g46 ?_
           obtain ⟨b47, x91_48, p47, i47, j47, e47, h⟩ := ix_e h
           refine op_val (v := .pointer (some x91_48)) R (by rw [e47]; exact rn_ixs (x := (.tmp 90)) (y := (.const (.int .i64 0))) R rfl p47 rfl Tryd.underlying30 sz37 i47 j47) rfl fun a R => ?_
           refine op_guard R rfl rfl rfl g46 ?_
           refine ofd R rfl fd37_0 rfl fun a R => ?_
           refine op_guard R rfl rfl rfl g46 ?_
           obtain ⟨x93_49, cx93_49, h⟩ := h
           refine old R rfl Tryd.underlying5 rfl cx93_49 rfl fun a R => ?_
           refine op_guard R rfl rfl rfl g46 ?_
           refine op_val R (rn_bin (v := .bool (x93_49 == 5)) R rfl rfl rfl) rfl fun a R => ?_
           refine op_val R (rn_pickT R rfl g46 rfl) rfl fun a R => ?_
           refine omv R rfl rfl fun a R => ?_
           rcases ite_cases h with ⟨g51, h⟩ | ⟨g51, h⟩
           ·refine op_guard R rfl rfl rfl g51 ?_
            refine omv R rfl rfl fun a R => ?_
            refine op_guard R rfl rfl rfl g51 ?_
            obtain ⟨b52, x98_53, p52, i52, j52, e52, h⟩ := ix_e h
            refine op_val (v := .pointer (some x98_53)) R (by rw [e52]; exact rn_ixs (x := (.tmp 97)) (y := (.const (.int .i64 0))) R rfl p52 rfl Tryd.underlying30 sz37 i52 j52) rfl fun a R => ?_
            refine op_guard R rfl rfl rfl g51 ?_
            refine ofd R rfl fd37_1 rfl fun a R => ?_
            refine op_guard R rfl rfl rfl g51 ?_
            obtain ⟨x100_54, cx100_54, h⟩ := h
            refine old R rfl Tryd.underlying29 rfl cx100_54 rfl fun a R => ?_
            refine op_guard R rfl rfl rfl g51 ?_
            obtain ⟨x101_55, e56, h⟩ := al_e h
            refine op_val (v := .slice (some x101_55) 1 1) R (by rw [e56]; exact rn_buildSlice (t := 29) (len := 1) (xs := [(0, (.const (.int .u8 97)))]) (cells := #[.int .u8 97]) (e := 5) R rfl (fun w => by kernel_rfl)) rfl fun a R => ?_
            refine op_guard R rfl rfl rfl g51 ?_
            refine op_call R (rn_calls R rfl cf20) rfl ?_
            refine call_mono (s_levylaw19_sameBytes _ (Sl.mk (some x101_55) 1 1) _ _ h) ?_
            rintro _ w58 ⟨x102_57_0, rfl, h⟩ a R
            refine op_val R (rn_pickT R rfl g51 rfl) rfl fun a R => ?_
            refine oas R rfl rfl fun a R => ?_
            refine wpList_nil ?_
            refine then_normal ?_
            exact ⟨x102_57_0, R.weak ⟨rfl, trivial⟩, h⟩
           ·refine op_pass R rfl rfl rfl (ntf g51) (fun a R => ?_) (by intro s hs; cases hs; rfl)
            refine op_pass R rfl rfl rfl (ntf g51) (fun a R => ?_) (by intro s hs; cases hs; rfl)
            refine op_pass R rfl rfl rfl (ntf g51) (fun a R => ?_) (by intro s hs; cases hs; rfl)
            refine op_pass R rfl rfl rfl (ntf g51) (fun a R => ?_) (by intro s hs; cases hs; rfl)
            refine op_pass R rfl rfl rfl (ntf g51) (fun a R => ?_) (by intro s hs; cases hs; rfl)
            refine op_pass R rfl rfl rfl (ntf g51) (fun a R => ?_) (by intro s hs; cases hs; rfl)
            refine op_val R (rn_pickF R rfl g51 rfl) rfl fun a R => ?_
            refine oas R rfl rfl fun a R => ?_
            refine wpList_nil ?_
            refine then_normal ?_
            exact ⟨false, R.weak ⟨rfl, trivial⟩, h⟩
          ·refine op_pass R rfl rfl rfl (ntf g46) (fun a R => ?_) (by intro s hs; cases hs; rfl)
           refine op_pass R rfl rfl rfl (ntf g46) (fun a R => ?_) (by intro s hs; cases hs; rfl)
           refine op_pass R rfl rfl rfl (ntf g46) (fun a R => ?_) (by intro s hs; cases hs; rfl)
           refine op_pass R rfl rfl rfl (ntf g46) (fun a R => ?_) (by intro s hs; cases hs; rfl)
           refine op_pass R rfl rfl rfl (ntf g46) (fun a R => ?_) (by intro s hs; cases hs; rfl)
           refine op_val R (rn_pickF R rfl g46 rfl) rfl fun a R => ?_
           refine omv R rfl rfl fun a R => ?_
           refine op_pass R rfl rfl rfl (ntf rfl) (fun a R => ?_) (by intro s hs; cases hs; rfl)
           refine op_pass R rfl rfl rfl (ntf rfl) (fun a R => ?_) (by intro s hs; cases hs; rfl)
           refine op_pass R rfl rfl rfl (ntf rfl) (fun a R => ?_) (by intro s hs; cases hs; rfl)
           refine op_pass R rfl rfl rfl (ntf rfl) (fun a R => ?_) (by intro s hs; cases hs; rfl)
           refine op_pass R rfl rfl rfl (ntf rfl) (fun a R => ?_) (by intro s hs; cases hs; rfl)
           refine op_pass R rfl rfl rfl (ntf rfl) (fun a R => ?_) (by intro s hs; cases hs; rfl)
           refine op_val R (rn_pickF R rfl rfl rfl) rfl fun a R => ?_
           refine oas R rfl rfl fun a R => ?_
           refine wpList_nil ?_
           refine then_normal ?_
           exact ⟨false, R.weak ⟨rfl, trivial⟩, h⟩
         ·refine op_pass R rfl rfl rfl (ntf g43) (fun a R => ?_) (by intro s hs; cases hs; rfl)
          refine op_pass R rfl rfl rfl (ntf g43) (fun a R => ?_) (by intro s hs; cases hs; rfl)
          refine op_pass R rfl rfl rfl (ntf g43) (fun a R => ?_) (by intro s hs; cases hs; rfl)
          refine op_val R (rn_pickF R rfl g43 rfl) rfl fun a R => ?_
          refine omv R rfl rfl fun a R => ?_
          refine op_pass R rfl rfl rfl (ntf rfl) (fun a R => ?_) (by intro s hs; cases hs; rfl)
          refine op_pass R rfl rfl rfl (ntf rfl) (fun a R => ?_) (by intro s hs; cases hs; rfl)
          refine op_pass R rfl rfl rfl (ntf rfl) (fun a R => ?_) (by intro s hs; cases hs; rfl)
          refine op_pass R rfl rfl rfl (ntf rfl) (fun a R => ?_) (by intro s hs; cases hs; rfl)
          refine op_pass R rfl rfl rfl (ntf rfl) (fun a R => ?_) (by intro s hs; cases hs; rfl)
          refine op_val R (rn_pickF R rfl rfl rfl) rfl fun a R => ?_
          refine omv R rfl rfl fun a R => ?_
          refine op_pass R rfl rfl rfl (ntf rfl) (fun a R => ?_) (by intro s hs; cases hs; rfl)
          refine op_pass R rfl rfl rfl (ntf rfl) (fun a R => ?_) (by intro s hs; cases hs; rfl)
          refine op_pass R rfl rfl rfl (ntf rfl) (fun a R => ?_) (by intro s hs; cases hs; rfl)
          refine op_pass R rfl rfl rfl (ntf rfl) (fun a R => ?_) (by intro s hs; cases hs; rfl)
          refine op_pass R rfl rfl rfl (ntf rfl) (fun a R => ?_) (by intro s hs; cases hs; rfl)
          refine op_pass R rfl rfl rfl (ntf rfl) (fun a R => ?_) (by intro s hs; cases hs; rfl)
          refine op_val R (rn_pickF R rfl rfl rfl) rfl fun a R => ?_
          refine oas R rfl rfl fun a R => ?_
          refine wpList_nil ?_
          refine then_normal ?_
          exact ⟨false, R.weak ⟨rfl, trivial⟩, h⟩
       ·refine op_pass R rfl rfl rfl (ntf g39) (fun a R => ?_) (by intro s hs; cases hs; rfl)
        refine op_pass R rfl rfl rfl (ntf g39) (fun a R => ?_) (by intro s hs; cases hs; rfl)
        refine op_val R (rn_pickF R rfl g39 rfl) rfl fun a R => ?_
        refine omv R rfl rfl fun a R => ?_
        refine op_pass R rfl rfl rfl (ntf rfl) (fun a R => ?_) (by intro s hs; cases hs; rfl)
        refine op_pass R rfl rfl rfl (ntf rfl) (fun a R => ?_) (by intro s hs; cases hs; rfl)
        refine op_pass R rfl rfl rfl (ntf rfl) (fun a R => ?_) (by intro s hs; cases hs; rfl)
        refine op_val R (rn_pickF R rfl rfl rfl) rfl fun a R => ?_
        refine omv R rfl rfl fun a R => ?_
        refine op_pass R rfl rfl rfl (ntf rfl) (fun a R => ?_) (by intro s hs; cases hs; rfl)
        refine op_pass R rfl rfl rfl (ntf rfl) (fun a R => ?_) (by intro s hs; cases hs; rfl)
        refine op_pass R rfl rfl rfl (ntf rfl) (fun a R => ?_) (by intro s hs; cases hs; rfl)
        refine op_val R (rn_pickF R rfl rfl rfl) rfl fun a R => ?_
        refine omv R rfl rfl fun a R => ?_
        refine op_pass R rfl rfl rfl (ntf rfl) (fun a R => ?_) (by intro s hs; cases hs; rfl)
        refine op_pass R rfl rfl rfl (ntf rfl) (fun a R => ?_) (by intro s hs; cases hs; rfl)
        refine op_pass R rfl rfl rfl (ntf rfl) (fun a R => ?_) (by intro s hs; cases hs; rfl)
        refine op_pass R rfl rfl rfl (ntf rfl) (fun a R => ?_) (by intro s hs; cases hs; rfl)
        refine op_pass R rfl rfl rfl (ntf rfl) (fun a R => ?_) (by intro s hs; cases hs; rfl)
        refine op_val R (rn_pickF R rfl rfl rfl) rfl fun a R => ?_
        refine omv R rfl rfl fun a R => ?_
        refine op_pass R rfl rfl rfl (ntf rfl) (fun a R => ?_) (by intro s hs; cases hs; rfl)
        refine op_pass R rfl rfl rfl (ntf rfl) (fun a R => ?_) (by intro s hs; cases hs; rfl)
        refine op_pass R rfl rfl rfl (ntf rfl) (fun a R => ?_) (by intro s hs; cases hs; rfl)
        refine op_pass R rfl rfl rfl (ntf rfl) (fun a R => ?_) (by intro s hs; cases hs; rfl)
        refine op_pass R rfl rfl rfl (ntf rfl) (fun a R => ?_) (by intro s hs; cases hs; rfl)
        refine op_pass R rfl rfl rfl (ntf rfl) (fun a R => ?_) (by intro s hs; cases hs; rfl)
        refine op_val R (rn_pickF R rfl rfl rfl) rfl fun a R => ?_
        refine oas R rfl rfl fun a R => ?_
        refine wpList_nil ?_
        refine then_normal ?_
        exact ⟨false, R.weak ⟨rfl, trivial⟩, h⟩
      ·refine op_pass R rfl rfl rfl (ntf g37) (fun a R => ?_) (by intro s hs; cases hs; rfl)
       refine op_pass R rfl rfl rfl (ntf g37) (fun a R => ?_) (by intro s hs; cases hs; rfl)
       refine op_val R (rn_pickF R rfl g37 rfl) rfl fun a R => ?_
       refine omv R rfl rfl fun a R => ?_
       refine op_pass R rfl rfl rfl (ntf rfl) (fun a R => ?_) (by intro s hs; cases hs; rfl)
       refine op_pass R rfl rfl rfl (ntf rfl) (fun a R => ?_) (by intro s hs; cases hs; rfl)
       refine op_val R (rn_pickF R rfl rfl rfl) rfl fun a R => ?_
       refine omv R rfl rfl fun a R => ?_
       refine op_pass R rfl rfl rfl (ntf rfl) (fun a R => ?_) (by intro s hs; cases hs; rfl)
       refine op_pass R rfl rfl rfl (ntf rfl) (fun a R => ?_) (by intro s hs; cases hs; rfl)
       refine op_pass R rfl rfl rfl (ntf rfl) (fun a R => ?_) (by intro s hs; cases hs; rfl)
       refine op_val R (rn_pickF R rfl rfl rfl) rfl fun a R => ?_
       refine omv R rfl rfl fun a R => ?_
       refine op_pass R rfl rfl rfl (ntf rfl) (fun a R => ?_) (by intro s hs; cases hs; rfl)
       refine op_pass R rfl rfl rfl (ntf rfl) (fun a R => ?_) (by intro s hs; cases hs; rfl)
       refine op_pass R rfl rfl rfl (ntf rfl) (fun a R => ?_) (by intro s hs; cases hs; rfl)
       refine op_val R (rn_pickF R rfl rfl rfl) rfl fun a R => ?_
       refine omv R rfl rfl fun a R => ?_
       refine op_pass R rfl rfl rfl (ntf rfl) (fun a R => ?_) (by intro s hs; cases hs; rfl)
       refine op_pass R rfl rfl rfl (ntf rfl) (fun a R => ?_) (by intro s hs; cases hs; rfl)
       refine op_pass R rfl rfl rfl (ntf rfl) (fun a R => ?_) (by intro s hs; cases hs; rfl)
       refine op_pass R rfl rfl rfl (ntf rfl) (fun a R => ?_) (by intro s hs; cases hs; rfl)
       refine op_pass R rfl rfl rfl (ntf rfl) (fun a R => ?_) (by intro s hs; cases hs; rfl)
       refine op_val R (rn_pickF R rfl rfl rfl) rfl fun a R => ?_
       refine omv R rfl rfl fun a R => ?_
       refine op_pass R rfl rfl rfl (ntf rfl) (fun a R => ?_) (by intro s hs; cases hs; rfl)
       refine op_pass R rfl rfl rfl (ntf rfl) (fun a R => ?_) (by intro s hs; cases hs; rfl)
       refine op_pass R rfl rfl rfl (ntf rfl) (fun a R => ?_) (by intro s hs; cases hs; rfl)
       refine op_pass R rfl rfl rfl (ntf rfl) (fun a R => ?_) (by intro s hs; cases hs; rfl)
       refine op_pass R rfl rfl rfl (ntf rfl) (fun a R => ?_) (by intro s hs; cases hs; rfl)
       refine op_pass R rfl rfl rfl (ntf rfl) (fun a R => ?_) (by intro s hs; cases hs; rfl)
       refine op_val R (rn_pickF R rfl rfl rfl) rfl fun a R => ?_
       refine oas R rfl rfl fun a R => ?_
       refine wpList_nil ?_
       refine then_normal ?_
       exact ⟨false, R.weak ⟨rfl, trivial⟩, h⟩
     ·refine op_pass R rfl rfl rfl (ntf g35) (fun a R => ?_) (by intro s hs; cases hs; rfl)
      refine op_pass R rfl rfl rfl (ntf g35) (fun a R => ?_) (by intro s hs; cases hs; rfl)
      refine op_val R (rn_pickF R rfl g35 rfl) rfl fun a R => ?_
      refine omv R rfl rfl fun a R => ?_
      refine op_pass R rfl rfl rfl (ntf rfl) (fun a R => ?_) (by intro s hs; cases hs; rfl)
      refine op_pass R rfl rfl rfl (ntf rfl) (fun a R => ?_) (by intro s hs; cases hs; rfl)
      refine op_val R (rn_pickF R rfl rfl rfl) rfl fun a R => ?_
      refine omv R rfl rfl fun a R => ?_
      refine op_pass R rfl rfl rfl (ntf rfl) (fun a R => ?_) (by intro s hs; cases hs; rfl)
      refine op_pass R rfl rfl rfl (ntf rfl) (fun a R => ?_) (by intro s hs; cases hs; rfl)
      refine op_val R (rn_pickF R rfl rfl rfl) rfl fun a R => ?_
      refine omv R rfl rfl fun a R => ?_
      refine op_pass R rfl rfl rfl (ntf rfl) (fun a R => ?_) (by intro s hs; cases hs; rfl)
      refine op_pass R rfl rfl rfl (ntf rfl) (fun a R => ?_) (by intro s hs; cases hs; rfl)
      refine op_pass R rfl rfl rfl (ntf rfl) (fun a R => ?_) (by intro s hs; cases hs; rfl)
      refine op_val R (rn_pickF R rfl rfl rfl) rfl fun a R => ?_
      refine omv R rfl rfl fun a R => ?_
      refine op_pass R rfl rfl rfl (ntf rfl) (fun a R => ?_) (by intro s hs; cases hs; rfl)
      refine op_pass R rfl rfl rfl (ntf rfl) (fun a R => ?_) (by intro s hs; cases hs; rfl)
      refine op_pass R rfl rfl rfl (ntf rfl) (fun a R => ?_) (by intro s hs; cases hs; rfl)
      refine op_val R (rn_pickF R rfl rfl rfl) rfl fun a R => ?_
      refine omv R rfl rfl fun a R => ?_
      refine op_pass R rfl rfl rfl (ntf rfl) (fun a R => ?_) (by intro s hs; cases hs; rfl)
      refine op_pass R rfl rfl rfl (ntf rfl) (fun a R => ?_) (by intro s hs; cases hs; rfl)
      refine op_pass R rfl rfl rfl (ntf rfl) (fun a R => ?_) (by intro s hs; cases hs; rfl)
      refine op_pass R rfl rfl rfl (ntf rfl) (fun a R => ?_) (by intro s hs; cases hs; rfl)
      refine op_pass R rfl rfl rfl (ntf rfl) (fun a R => ?_) (by intro s hs; cases hs; rfl)
      refine op_val R (rn_pickF R rfl rfl rfl) rfl fun a R => ?_
      refine omv R rfl rfl fun a R => ?_
      refine op_pass R rfl rfl rfl (ntf rfl) (fun a R => ?_) (by intro s hs; cases hs; rfl)
      refine op_pass R rfl rfl rfl (ntf rfl) (fun a R => ?_) (by intro s hs; cases hs; rfl)
      refine op_pass R rfl rfl rfl (ntf rfl) (fun a R => ?_) (by intro s hs; cases hs; rfl)
      refine op_pass R rfl rfl rfl (ntf rfl) (fun a R => ?_) (by intro s hs; cases hs; rfl)
      refine op_pass R rfl rfl rfl (ntf rfl) (fun a R => ?_) (by intro s hs; cases hs; rfl)
      refine op_pass R rfl rfl rfl (ntf rfl) (fun a R => ?_) (by intro s hs; cases hs; rfl)
      refine op_val R (rn_pickF R rfl rfl rfl) rfl fun a R => ?_
      refine oas R rfl rfl fun a R => ?_
      refine wpList_nil ?_
      refine then_normal ?_
      exact ⟨false, R.weak ⟨rfl, trivial⟩, h⟩
    ·rintro a w ⟨y33_0, R, h⟩
     unfold levylaw19_known.k33 at h
     refine wp_ret ?_
     exact post_ret R rfl rfl ⟨y33_0, rfl, h⟩
theorem s_levylaw19_known  (Q : Bool → World → Prop) (w : World) (h : levylaw19_known  Q w) :
    Calls Tryd.prog 6 #[] w (Rets fun v w => ∃ r0 : Bool, v = (.bool r0 : Value) ∧ Q r0 w) :=
  calls_body (args := []) Tryd.func6 rfl rfl (Nat.le_of_ble_eq_true rfl) (L := []) (by simp [starts]) (b_levylaw19_known  Q w h rfl)

/-! (drawer.Disk).Files -/

def drawer_Disk_Files.k1 (y1_3 : Sl) (Q : Sl → World → Prop) (w : World) : Prop :=
  Q y1_3 w

def drawer_Disk_Files.l4 (x0 : Option Addr) (x8_2_0 : Sl) (z4_3 : Sl) (z4_10 : Int) (Q : Sl → World → Prop) (K4 : Sl → Int → World → Prop) (w : World) : Prop :=
  (if (decide (z4_10 < ((x8_2_0.len : Nat) : Int))) = true then ix x8_2_0.p x8_2_0.len z4_10 1 fun x12_8 => ld Value.string w x12_8 fun x13_9 => nn x0 fun x15_10 => ld Value.map w (x15_10.add 0) fun x17_11 => rn Tryd.prog Value.pointer (Instr.lookup 73 (.map x17_11) (.string x13_9) false) w fun x19_12 w => nn x19_12 fun x23_14 => ld Sl.val (World.drew w) (x23_14.add 0) fun x25_15 => nn x19_12 fun x28_16 => ld (Value.int .i64) (World.drew w) (x28_16.add 1) fun x30_17 => slices_Clone_byte_byte x25_15 (fun x26_18_0 w => ((World.cell? w (x23_14.add 0) = some (Sl.val x25_15) ∧ World.cell? w (x28_16.add 1) = some (.int .i64 x30_17) ∧ True) ∧ al w (.cells #[.string x13_9, Sl.val x26_18_0, .int .i64 x30_17] 42) fun x32_19 w => ((World.cell? w (x23_14.add 0) = some (Sl.val x25_15) ∧ World.cell? w (x28_16.add 1) = some (.int .i64 x30_17) ∧ True) ∧ rn Tryd.prog Sl.val (Builtin.append_ #[39, 39] 39 [Sl.val z4_3, .slice (some x32_19) 1 1].toArray) w fun x33_22 w => K4 x33_22 (IntKind.i64.wrap (z4_10 + 1)) w))) (World.drew w) else drawer_Disk_Files.k1 z4_3 Q w)

def drawer_Disk_Files (x0 : Option Addr) (Q : Sl → World → Prop) (w : World) : Prop :=
  drawer_Disk_names x0 (fun x8_2_0 w => (Fix (σ := Sl × Int) (fun Ks s w => drawer_Disk_Files.l4 x0 x8_2_0 s.1 s.2 Q (fun z4_3 z4_10 w => Ks (z4_3, z4_10) w) w) ((Sl.mk none 0 0), 0) w)) w

theorem b_drawer_Disk_Files (x0 : Option Addr) (Q : Sl → World → Prop) (w : World) (h : drawer_Disk_Files x0 Q w) {c : Code} (hb : Tryd.f11.body = some c) :
 ∀ a, Rep a 36 [(0, .pointer x0)] [] → c.wp Tryd.prog (bodyPost Tryd.prog Tryd.f11 (Rets fun v w => ∃ r0 : Sl, v = (Sl.val r0 : Value) ∧ Q r0 w)) a w := by
 intro a R
 obtain rfl := Option.some.inj hb
 unfold drawer_Disk_Files at h
 refine wp_seq ?_
 refine wp_region_lit ?_
 refine oas R rfl rfl fun a R => ?_
 refine wpList_nil ?_
 refine then_normal ?_
 refine wp_seq ?_
 refine wp_region_lit ?_
 refine oas R rfl rfl fun a R => ?_
 refine wpList_nil ?_
 refine then_normal ?_
 refine seq_join (fun a w => ∃ y1_3 : Sl, Rep a 36 [(3, Sl.val y1_3)] [] ∧ drawer_Disk_Files.k1 y1_3 Q w) ?_ ?_
 ·refine wp_seq ?_
  refine wp_region_lit ?_
  refine omv R rfl rfl fun a R => ?_
  refine op_call R (rn_calls R rfl cf28) rfl ?_
  refine call_mono (s_drawer_Disk_names _ _ _ h) ?_
  rintro _ w25 ⟨x8_2_0, rfl, h⟩ a R
  refine op_val R (rn_len R rfl Tryd.underlying70) rfl fun a R => ?_
  refine omv R rfl rfl fun a R => ?_
  refine wpList_nil ?_
  refine then_normal ?_
  refine wp_block ?_
  refine wp_fix (σ := Sl × Int) (fun s a => Rep a 36 [(0, .pointer x0), (3, Sl.val s.1), (8, Sl.val x8_2_0), (9, .int .i64 ((x8_2_0.len : Nat) : Int)), (10, .int .i64 s.2)] []) h (R.weak ⟨rfl, rfl, rfl, rfl, rfl, trivial⟩) ?_
  rintro Ks C ⟨z4_3, z4_10⟩ a w hC R h
  have R : Rep a 36 [(0, .pointer x0), (3, Sl.val z4_3), (8, Sl.val x8_2_0), (9, .int .i64 ((x8_2_0.len : Nat) : Int)), (10, .int .i64 z4_10)] [] := R
  have h : drawer_Disk_Files.l4 x0 x8_2_0 z4_3 z4_10 Q (fun z4_3 z4_10 w => Ks (z4_3, z4_10) w) w := h
  generalize hK4 : (fun z4_3 z4_10 w => Ks (z4_3, z4_10) w) = K4 at h
  unfold drawer_Disk_Files.l4 at h
  refine wp_seq ?_
  refine wp_region_lit ?_
  refine op_val R (rn_bin (v := .bool (decide (z4_10 < ((x8_2_0.len : Nat) : Int)))) R rfl rfl rfl) rfl fun a R => ?_
  refine wpList_nil ?_
  refine then_normal ?_
  refine wp_seq ?_
  rcases ite_cases h with ⟨g6, h⟩ | ⟨g6, h⟩
  ·refine wp_condT R (congrArg (fun b => some (Value.bool b)) g6) ?_
   refine wp_skip ?_
   refine then_normal ?_
   refine wp_seq ?_
   refine wp_block ?_
   refine wp_seq ?_
   refine wp_region_lit ?_
   obtain ⟨b7, x12_8, p7, i7, j7, e7, h⟩ := ix_e h
   refine op_val (v := .pointer (some x12_8)) R (by rw [e7]; exact rn_ixs (x := (.tmp 8)) (y := (.tmp 10)) R rfl p7 rfl Tryd.underlying70 sz9 i7 j7) rfl fun a R => ?_
   obtain ⟨x13_9, cx13_9, h⟩ := h
   refine old R rfl Tryd.underlying9 rfl cx13_9 rfl fun a R => ?_
   refine oas R rfl rfl fun a R => ?_
   refine wpList_nil ?_
   refine then_normal ?_
   refine wp_seq ?_
   refine wp_region_lit ?_
   refine omv R rfl rfl fun a R => ?_
   obtain ⟨x15_10, cx15_10, h⟩ := h
   refine onl R rfl cx15_10 rfl fun a R => ?_
   refine ofd R rfl fd75_0 rfl fun a R => ?_
   obtain ⟨x17_11, cx17_11, h⟩ := h
   refine old R rfl Tryd.underlying73 rfl cx17_11 rfl fun a R => ?_
   refine omv R rfl rfl fun a R => ?_
   obtain ⟨x19_12, w13, cx19_12, h⟩ := h
   refine op_val R (rn_lookup R rfl rfl cx19_12) rfl fun a R => ?_
   refine oas R rfl rfl fun a R => ?_
   refine wpList_nil ?_
   refine then_normal ?_
   refine region_start mo fun inv => ?_
   obtain ⟨x23_14, cx23_14, h⟩ := h
   obtain ⟨x25_15, cx25_15, h⟩ := h
   obtain ⟨x28_16, cx28_16, h⟩ := h
   obtain ⟨x30_17, cx30_17, h⟩ := h
   refine seg_held (n := 13) (f := 13) (g := 2) (fun w : World => w.cell? (x23_14.add 0) = some (Sl.val x25_15) ∧ w.cell? (x28_16.add 1) = some (.int .i64 x30_17) ∧ True) (by kernel_rfl) fun inv => ?_
   have hS0 : (fun w : World => w.cell? (x23_14.add 0) = some (Sl.val x25_15) ∧ w.cell? (x28_16.add 1) = some (.int .i64 x30_17) ∧ True) _ := ⟨cx25_15, cx30_17, trivial⟩
   refine dr_val (i := 0) R (waits_dom (by kernel_rfl) (by kernel_rfl)) (by kernel_rfl) inv rfl (by decide) (by kernel_rfl) (by kernel_rfl) (fun _ _ _ h => h) wanted_none (fun w' hS => rn_mv R rfl) hS0 rfl fun inv a R => ?_
   refine dr_val (i := 1) R (waits_dom (by kernel_rfl) (by kernel_rfl)) (by kernel_rfl) inv rfl (by decide) (by kernel_rfl) (by kernel_rfl) (fun _ _ _ h => h) wanted_none (fun w' hS => rn_mv R rfl) hS0 rfl fun inv a R => ?_
   refine dr_val (i := 2) R (waits_dom (by kernel_rfl) (by kernel_rfl)) (by kernel_rfl) inv rfl (by decide) (by kernel_rfl) (by kernel_rfl) (fun _ _ _ h => h) wanted_none (fun w' hS => rn_mv R rfl) hS0 rfl fun inv a R => ?_
   refine dr_val (i := 3) R (waits_dom (by kernel_rfl) (by kernel_rfl)) (by kernel_rfl) inv rfl (by decide) (by kernel_rfl) (by kernel_rfl) (fun _ _ _ h => h) wanted_none (fun w' hS => rn_nil R rfl cx23_14) hS0 rfl fun inv a R => ?_
   refine dr_val (i := 4) R (waits_dom (by kernel_rfl) (by kernel_rfl)) (by kernel_rfl) inv rfl (by decide) (by kernel_rfl) (by kernel_rfl) (fun _ _ _ h => h) wanted_none (fun w' hS => rn_fld R rfl fd78_0) hS0 rfl fun inv a R => ?_
   refine dr_val (i := 5) R (waits_dom (by kernel_rfl) (by kernel_rfl)) (by kernel_rfl) inv rfl (by decide) (by kernel_rfl) (by kernel_rfl) (fun _ _ _ h => h) wanted_none (fun w' hS => rn_ld R rfl Tryd.underlying29 rfl (hS.1)) hS0 rfl fun inv a R => ?_
   refine dr_val (i := 7) R (waits_dom (by kernel_rfl) (by kernel_rfl)) (by kernel_rfl) inv rfl (by decide) (by kernel_rfl) (by kernel_rfl) (fun _ _ _ h => h) wanted_none (fun w' hS => rn_mv R rfl) hS0 rfl fun inv a R => ?_
   refine dr_val (i := 8) R (waits_dom (by kernel_rfl) (by kernel_rfl)) (by kernel_rfl) inv rfl (by decide) (by kernel_rfl) (by kernel_rfl) (fun _ _ _ h => h) wanted_none (fun w' hS => rn_nil R rfl cx28_16) hS0 rfl fun inv a R => ?_
   refine dr_val (i := 9) R (waits_dom (by kernel_rfl) (by kernel_rfl)) (by kernel_rfl) inv rfl (by decide) (by kernel_rfl) (by kernel_rfl) (fun _ _ _ h => h) wanted_none (fun w' hS => rn_fld R rfl fd78_1) hS0 rfl fun inv a R => ?_
   refine dr_val (i := 10) R (waits_dom (by kernel_rfl) (by kernel_rfl)) (by kernel_rfl) inv rfl (by decide) (by kernel_rfl) (by kernel_rfl) (fun _ _ _ h => h) wanted_none (fun w' hS => rn_ld R rfl Tryd.underlying3 rfl (hS.2.1)) hS0 rfl fun inv a R => ?_
   refine dr_call (i := 6) R inv rfl (by decide) (by kernel_rfl) wanted_none (rn_calls R rfl cf29) rfl ?_
   refine call_mono (s_slices_Clone_byte_byte _ _ _ h) ?_
   rintro _ w24 ⟨x26_18_0, rfl, hS0, h⟩
   refine ⟨hS0, fun a inv R => ?_⟩
   refine dr_val (i := 11) R (waits_dom (by kernel_rfl) (by kernel_rfl)) (by kernel_rfl) inv rfl (by decide) (by kernel_rfl) (by kernel_rfl) (fun _ _ _ h => h) wanted_none (fun w' hS => rn_build (r := .agg #[.string x13_9, Sl.val x26_18_0, .int .i64 x30_17]) R rfl (fun w => by kernel_rfl)) hS0 rfl fun inv a R => ?_
   obtain ⟨x32_19, e20, h⟩ := al_e h
   obtain ⟨hS0, h⟩ := h
   refine dr_run (v := .slice (some x32_19) 1 1) (i := 12) R inv rfl (by decide) (by kernel_rfl) wanted_none (by rw [e20]; exact rn_buildSlice (t := 39) (len := 1) (xs := [(0, (.tmp 31))]) (cells := #[.string x13_9, Sl.val x26_18_0, .int .i64 x30_17]) (e := 42) R rfl (fun w => by kernel_rfl)) hS0 rfl fun inv a R => ?_
   refine seg_end (by kernel_rfl) ?_
   refine any_tail 13 (by kernel_rfl) ?_
   obtain ⟨x33_22, w21, cx33_22, h⟩ := h
   refine op_val R (rn_bi (vs := [Sl.val z4_3, .slice (some x32_19) 1 1]) R rfl (fun _ => rfl) cx33_22) rfl fun a R => ?_
   refine oas R rfl rfl fun a R => ?_
   refine wpList_nil ?_
   refine block_normal ?_
   refine then_normal ?_
   refine wp_region_lit ?_
   refine op_val R (rn_bin (v := .int .i64 (IntKind.i64.wrap (z4_10 + 1))) R rfl rfl rfl) rfl fun a R => ?_
   refine omv R rfl rfl fun a R => ?_
   refine wpList_nil ?_
   refine then_normal ?_
   exact hC (x33_22, (IntKind.i64.wrap (z4_10 + 1))) _ _ (R.weak ⟨rfl, rfl, rfl, rfl, rfl, trivial⟩) (by rw [← hK4] at h; exact h)
  ·refine wp_condF R (congrArg (fun b => some (Value.bool b)) g6) ?_
   refine wp_exit ?_
   refine then_exit ?_
   refine then_exit ?_
   refine block_eq ?_
   refine then_normal ?_
   exact ⟨z4_3, R.weak ⟨rfl, trivial⟩, h⟩
 ·rintro a w ⟨y1_3, R, h⟩
  unfold drawer_Disk_Files.k1 at h
  refine wp_seq ?_
  refine wp_region_lit ?_
  refine omv R rfl rfl fun a R => ?_
  refine oas R rfl rfl fun a R => ?_
  refine wpList_nil ?_
  refine then_normal ?_
  refine wp_ret ?_
  exact post_ret R rfl rfl ⟨y1_3, rfl, h⟩
theorem s_drawer_Disk_Files (x0 : Option Addr) (Q : Sl → World → Prop) (w : World) (h : drawer_Disk_Files x0 Q w) :
    Calls Tryd.prog 11 #[.pointer x0] w (Rets fun v w => ∃ r0 : Sl, v = (Sl.val r0 : Value) ∧ Q r0 w) :=
  calls_body (args := [.pointer x0]) Tryd.func11 rfl rfl (Nat.le_of_ble_eq_true rfl) (L := [(0, .pointer x0)]) (by simp [starts]) (b_drawer_Disk_Files x0 Q w h rfl)

/-! (levylaw19.world).stands -/

def levylaw19_world_stands.k11 (y11_10 : Bool) (Q : Bool → World → Prop) (w : World) : Prop :=
  Q y11_10 w

def levylaw19_world_stands.k10 (x0 : Option Addr) (x39_9_0 : Option Addr) (x39_9_1 : Sl) (x39_9_2 : Sl) (x39_9_3 : Int) (y10_3 : Int) (Q : Bool → World → Prop) (w : World) : Prop :=
  (if (x39_9_3 == 0) = true then (if (Option.isNone x39_9_0) = true then levylaw19_world_stands.k11 false Q w else (if (((x39_9_1.len : Nat) : Int) == 0) = true then nn x0 fun x59_18 => ld Sl.val w (x59_18.add 4) fun x61_19 => ((0 : Int) ≤ y10_3 ∧ y10_3 ≤ ((x61_19.cap : Nat) : Int) ∧ levylaw19_sameRecords x39_9_2 (cutSl ⟨x61_19.p, x61_19.len, x61_19.cap⟩ 2 0 (Int.toNat y10_3) x61_19.cap) (fun x64_21_0 w => (if x64_21_0 = true then drawer_Drawer_Len x39_9_0 (fun x68_23_0 w => levylaw19_world_stands.k11 (x68_23_0 == y10_3) Q w) w else levylaw19_world_stands.k11 false Q w)) w) else levylaw19_world_stands.k11 false Q w)) else levylaw19_world_stands.k11 false Q w)

def levylaw19_world_stands.k5 (x0 : Option Addr) (x3 : Int) (x4 : Bool) (x24_4_0 : Option Addr) (y5_32 : Bool) (Q : Bool → World → Prop) (w : World) : Prop :=
  (if y5_32 = true then Q false w else nn x0 fun x36_7 => ld (Value.int .u32) w (x36_7.add 2) fun x38_8 => drawer_Open x24_4_0 x38_8 (fun x39_9_0 x39_9_1 x39_9_2 x39_9_3 w => (if x4 = true then levylaw19_world_stands.k10 x0 x39_9_0 x39_9_1 x39_9_2 x39_9_3 0 Q w else levylaw19_world_stands.k10 x0 x39_9_0 x39_9_1 x39_9_2 x39_9_3 x3 Q w)) w)

def levylaw19_world_stands (x0 : Option Addr) (x1 : ByteArray) (x2 : Sl) (x3 : Int) (x4 : Bool) (Q : Bool → World → Prop) (w : World) : Prop :=
  al w (.cells #[.string x1, Sl.val x2, .int .i64 ((x2.len : Nat) : Int)] 42) fun x23_2 w => drawer_NewDisk (Sl.mk (some x23_2) 1 1) (fun x24_4_0 x24_4_1 w => (if (Option.isNone x24_4_0) = true then levylaw19_world_stands.k5 x0 x3 x4 x24_4_0 true Q w else levylaw19_world_stands.k5 x0 x3 x4 x24_4_0 (x24_4_1 != 0) Q w)) w

theorem b_levylaw19_world_stands (x0 : Option Addr) (x1 : ByteArray) (x2 : Sl) (x3 : Int) (x4 : Bool) (Q : Bool → World → Prop) (w : World) (h : levylaw19_world_stands x0 x1 x2 x3 x4 Q w) {c : Code} (hb : Tryd.f12.body = some c) :
 ∀ a, Rep a 72 [(0, .pointer x0), (1, .string x1), (2, Sl.val x2), (3, .int .i64 x3), (4, .bool x4)] [] → c.wp Tryd.prog (bodyPost Tryd.prog Tryd.f12 (Rets fun v w => ∃ r0 : Bool, v = (.bool r0 : Value) ∧ Q r0 w)) a w := by
 intro a R
 obtain rfl := Option.some.inj hb
 unfold levylaw19_world_stands at h
 refine wp_seq ?_
 refine wp_region_lit ?_
 refine oas R rfl rfl fun a R => ?_
 refine wpList_nil ?_
 refine then_normal ?_
 refine wp_seq ?_
 refine wp_region_lit ?_
 refine omv R rfl rfl fun a R => ?_
 refine omv R rfl rfl fun a R => ?_
 refine omv R rfl rfl fun a R => ?_
 refine op_val R (rn_len R rfl Tryd.underlying29) rfl fun a R => ?_
 refine op_val R (rn_build (r := .agg #[.string x1, Sl.val x2, .int .i64 ((x2.len : Nat) : Int)]) R rfl (fun w => by kernel_rfl)) rfl fun a R => ?_
 obtain ⟨x23_2, e3, h⟩ := al_e h
 refine op_val (v := .slice (some x23_2) 1 1) R (by rw [e3]; exact rn_buildSlice (t := 39) (len := 1) (xs := [(0, (.tmp 22))]) (cells := #[.string x1, Sl.val x2, .int .i64 ((x2.len : Nat) : Int)]) (e := 42) R rfl (fun w => by kernel_rfl)) rfl fun a R => ?_
 refine op_call R (rn_calls R rfl cf21) rfl ?_
 refine call_mono (s_drawer_NewDisk (Sl.mk (some x23_2) 1 1) _ _ h) ?_
 rintro _ w31 ⟨x24_4_0, x24_4_1, rfl, h⟩ a R
 refine omv R rfl rfl fun a R => ?_
 refine op_val R (rn_ext R rfl rfl) rfl fun a R => ?_
 refine op_val R (rn_ext R rfl rfl) rfl fun a R => ?_
 refine oas R rfl rfl fun a R => ?_
 refine oas R rfl rfl fun a R => ?_
 refine wpList_nil ?_
 refine then_normal ?_
 refine wp_seq ?_
 refine seq_join (fun a w => ∃ y5_32 : Bool, Rep a 72 [(0, .pointer x0), (3, .int .i64 x3), (4, .bool x4), (11, .pointer x24_4_0), (32, .bool y5_32)] [] ∧ levylaw19_world_stands.k5 x0 x3 x4 x24_4_0 y5_32 Q w) ?_ ?_
 ·refine wp_region_lit ?_
  refine omv R rfl rfl fun a R => ?_
  refine op_val R (rn_nilPE R rfl rfl Tryd.underlying27) rfl fun a R => ?_
  refine omv R rfl rfl fun a R => ?_
  rcases ite_cases h with ⟨g29, h⟩ | ⟨g29, h⟩
  ·refine op_pass R rfl rfl rfl (nft g29) (fun a R => ?_) (by intro s hs; cases hs; rfl)
   refine op_pass R rfl rfl rfl (nft g29) (fun a R => ?_) (by intro s hs; cases hs; rfl)
   refine op_val R (rn_pickT R rfl g29 rfl) rfl fun a R => ?_
   refine wpList_nil ?_
   refine then_normal ?_
   exact ⟨true, R.weak ⟨rfl, rfl, rfl, rfl, rfl, trivial⟩, h⟩
  ·refine op_guard R rfl rfl rfl g29 ?_
   refine omv R rfl rfl fun a R => ?_
   refine op_guard R rfl rfl rfl g29 ?_
   refine op_val R (rn_bin (v := .bool (x24_4_1 != 0)) R rfl rfl rfl) rfl fun a R => ?_
   refine op_val R (rn_pickF R rfl g29 rfl) rfl fun a R => ?_
   refine wpList_nil ?_
   refine then_normal ?_
   exact ⟨(x24_4_1 != 0), R.weak ⟨rfl, rfl, rfl, rfl, rfl, trivial⟩, h⟩
 ·rintro a w ⟨y5_32, R, h⟩
  unfold levylaw19_world_stands.k5 at h
  rcases ite_cases h with ⟨g6, h⟩ | ⟨g6, h⟩
  ·refine wp_condT R (congrArg (fun b => some (Value.bool b)) g6) ?_
   refine wp_seq ?_
   refine wp_region_lit ?_
   refine oas R rfl rfl fun a R => ?_
   refine wpList_nil ?_
   refine then_normal ?_
   refine wp_ret ?_
   refine then_ret ?_
   exact post_ret R rfl rfl ⟨false, rfl, h⟩
  ·refine wp_condF R (congrArg (fun b => some (Value.bool b)) g6) ?_
   refine wp_skip ?_
   refine then_normal ?_
   refine wp_seq ?_
   refine wp_region_lit ?_
   refine omv R rfl rfl fun a R => ?_
   refine omv R rfl rfl fun a R => ?_
   obtain ⟨x36_7, cx36_7, h⟩ := h
   refine onl R rfl cx36_7 rfl fun a R => ?_
   refine ofd R rfl fd32_2 rfl fun a R => ?_
   obtain ⟨x38_8, cx38_8, h⟩ := h
   refine old R rfl Tryd.underlying22 rfl cx38_8 rfl fun a R => ?_
   refine op_call R (rn_calls R rfl cf19) rfl ?_
   refine call_mono (s_drawer_Open _ _ _ _ h) ?_
   rintro _ w28 ⟨x39_9_0, x39_9_1, x39_9_2, x39_9_3, rfl, h⟩ a R
   refine omv R rfl rfl fun a R => ?_
   refine op_val R (rn_ext R rfl rfl) rfl fun a R => ?_
   refine op_val R (rn_ext R rfl rfl) rfl fun a R => ?_
   refine op_val R (rn_ext R rfl rfl) rfl fun a R => ?_
   refine op_val R (rn_ext R rfl rfl) rfl fun a R => ?_
   refine oas R rfl rfl fun a R => ?_
   refine oas R rfl rfl fun a R => ?_
   refine oas R rfl rfl fun a R => ?_
   refine oas R rfl rfl fun a R => ?_
   refine wpList_nil ?_
   refine then_normal ?_
   refine seq_join (fun a w => ∃ y10_3 : Int, Rep a 72 [(0, .pointer x0), (3, .int .i64 y10_3), (13, .pointer x39_9_0), (14, Sl.val x39_9_1), (15, Sl.val x39_9_2), (16, .int .i64 x39_9_3)] [] ∧ levylaw19_world_stands.k10 x0 x39_9_0 x39_9_1 x39_9_2 x39_9_3 y10_3 Q w) ?_ ?_
   ·refine wp_seq ?_
    refine wp_region_lit ?_
    refine omv R rfl rfl fun a R => ?_
    refine wpList_nil ?_
    refine then_normal ?_
    rcases ite_cases h with ⟨g27, h⟩ | ⟨g27, h⟩
    ·refine wp_condT R (congrArg (fun b => some (Value.bool b)) g27) ?_
     refine wp_region_lit ?_
     refine oas R rfl rfl fun a R => ?_
     refine wpList_nil ?_
     refine then_normal ?_
     exact ⟨0, R.weak ⟨rfl, rfl, rfl, rfl, rfl, rfl, trivial⟩, h⟩
    ·refine wp_condF R (congrArg (fun b => some (Value.bool b)) g27) ?_
     refine wp_skip ?_
     refine then_normal ?_
     exact ⟨x3, R.weak ⟨rfl, rfl, rfl, rfl, rfl, rfl, trivial⟩, h⟩
   ·rintro a w ⟨y10_3, R, h⟩
    unfold levylaw19_world_stands.k10 at h
    refine seq_join (fun a w => ∃ y11_10 : Bool, Rep a 72 [(10, .bool y11_10)] [] ∧ levylaw19_world_stands.k11 y11_10 Q w) ?_ ?_
    ·refine wp_region_lit ?_
     refine omv R rfl rfl fun a R => ?_
     refine op_val R (rn_bin (v := .bool (x39_9_3 == 0)) R rfl rfl rfl) rfl fun a R => ?_
     refine omv R rfl rfl fun a R => ?_
     rcases ite_cases h with ⟨g13, h⟩ | ⟨g13, h⟩
     ·refine op_guard R rfl rfl rfl g13 ?_
      refine omv R rfl rfl fun a R => ?_
      refine op_guard R rfl rfl rfl g13 ?_
      refine op_val R (rn_nilPN R rfl rfl Tryd.underlying28) rfl fun a R => ?_
      refine op_val R (rn_pickT R rfl g13 rfl) rfl fun a R => ?_
      refine omv R rfl rfl fun a R => ?_
      rcases ite_cases h with ⟨g14, h⟩ | ⟨g14, h⟩
      ·refine op_pass R rfl rfl rfl (ntf (nf g14)) (fun a R => ?_) (by intro s hs; cases hs; rfl)
       refine op_pass R rfl rfl rfl (ntf (nf g14)) (fun a R => ?_) (by intro s hs; cases hs; rfl)
       refine op_pass R rfl rfl rfl (ntf (nf g14)) (fun a R => ?_) (by intro s hs; cases hs; rfl)
       refine op_val R (rn_pickF R rfl (nf g14) rfl) rfl fun a R => ?_
       refine omv R rfl rfl fun a R => ?_
       refine op_pass R rfl rfl rfl (ntf rfl) (fun a R => ?_) (by intro s hs; cases hs; rfl)
       refine op_pass R rfl rfl rfl (ntf rfl) (fun a R => ?_) (by intro s hs; cases hs; rfl)
       refine op_pass R rfl rfl rfl (ntf rfl) (fun a R => ?_) (by intro s hs; cases hs; rfl)
       refine op_pass R rfl rfl rfl (ntf rfl) (fun a R => ?_) (by intro s hs; cases hs; rfl)
       refine op_pass R rfl rfl rfl (ntf rfl) (fun a R => ?_) (by intro s hs; cases hs; rfl)
       refine op_pass R rfl rfl rfl (ntf rfl) (fun a R => ?_) (by intro s hs; cases hs; rfl)
       refine op_pass R rfl rfl rfl (ntf rfl) (fun a R => ?_) (by intro s hs; cases hs; rfl)
       refine op_pass R rfl rfl rfl (ntf rfl) (fun a R => ?_) (by intro s hs; cases hs; rfl)
       refine op_val R (rn_pickF R rfl rfl rfl) rfl fun a R => ?_
       refine omv R rfl rfl fun a R => ?_
       refine op_pass R rfl rfl rfl (ntf rfl) (fun a R => ?_) (by intro s hs; cases hs; rfl)
       refine op_pass R rfl rfl rfl (ntf rfl) (fun a R => ?_) (by intro s hs; cases hs; rfl)
       refine op_pass R rfl rfl rfl (ntf rfl) (fun a R => ?_) (by intro s hs; cases hs; rfl)
       refine op_pass R rfl rfl rfl (ntf rfl) (fun a R => ?_) (by intro s hs; cases hs; rfl)
       refine op_val R (rn_pickF R rfl rfl rfl) rfl fun a R => ?_
       refine oas R rfl rfl fun a R => ?_
       refine wpList_nil ?_
       refine then_normal ?_
       exact ⟨false, R.weak ⟨rfl, trivial⟩, h⟩
      ·refine op_guard R rfl rfl rfl (nt g14) ?_
       refine omv R rfl rfl fun a R => ?_
       refine op_guard R rfl rfl rfl (nt g14) ?_
       refine op_val R (rn_len R rfl Tryd.underlying29) rfl fun a R => ?_
       refine op_guard R rfl rfl rfl (nt g14) ?_
       refine op_val R (rn_bin (v := .bool (((x39_9_1.len : Nat) : Int) == 0)) R rfl rfl rfl) rfl fun a R => ?_
       refine op_val R (rn_pickT R rfl (nt g14) rfl) rfl fun a R => ?_
       refine omv R rfl rfl fun a R => ?_
       rcases ite_cases h with ⟨g17, h⟩ | ⟨g17, h⟩
       ·refine op_guard R rfl rfl rfl g17 ?_
        refine omv R rfl rfl fun a R => ?_
        refine op_guard R rfl rfl rfl g17 ?_
        refine omv R rfl rfl fun a R => ?_
        refine op_guard R rfl rfl rfl g17 ?_
        obtain ⟨x59_18, cx59_18, h⟩ := h
        refine onl R rfl cx59_18 rfl fun a R => ?_
        refine op_guard R rfl rfl rfl g17 ?_
        refine ofd R rfl fd32_4 rfl fun a R => ?_
        refine op_guard R rfl rfl rfl g17 ?_
        obtain ⟨x61_19, cx61_19, h⟩ := h
        refine old R rfl Tryd.underlying30 rfl cx61_19 rfl fun a R => ?_
        refine op_guard R rfl rfl rfl g17 ?_
        refine omv R rfl rfl fun a R => ?_
        refine op_guard R rfl rfl rfl g17 ?_
        obtain ⟨s20_0, s20_1, h⟩ := h
        refine op_val R (rn_sl R rfl rfl (evo R rfl) rfl (fun w => bounds2 (lo := none) (hi := (some (.i64, y10_3))) 0 (Int.toNat y10_3) ⟨s20_0, s20_1, rfl⟩ rfl w) Tryd.underlying30 sz37) rfl fun a R => ?_
        refine op_guard R rfl rfl rfl g17 ?_
        refine op_call R (rn_calls R rfl cf30) rfl ?_
        refine call_mono (s_levylaw19_sameRecords _ _ _ _ h) ?_
        rintro _ w26 ⟨x64_21_0, rfl, h⟩ a R
        refine op_val R (rn_pickT R rfl g17 rfl) rfl fun a R => ?_
        refine omv R rfl rfl fun a R => ?_
        rcases ite_cases h with ⟨g22, h⟩ | ⟨g22, h⟩
        ·refine op_guard R rfl rfl rfl g22 ?_
         refine omv R rfl rfl fun a R => ?_
         refine op_guard R rfl rfl rfl g22 ?_
         refine op_call R (rn_calls R rfl cf23) rfl ?_
         refine call_mono (s_drawer_Drawer_Len _ _ _ h) ?_
         rintro _ w25 ⟨x68_23_0, rfl, h⟩ a R
         refine op_guard R rfl rfl rfl g22 ?_
         refine omv R rfl rfl fun a R => ?_
         refine op_guard R rfl rfl rfl g22 ?_
         refine op_val R (rn_bin (v := .bool (x68_23_0 == y10_3)) R rfl rfl rfl) rfl fun a R => ?_
         refine op_val R (rn_pickT R rfl g22 rfl) rfl fun a R => ?_
         refine oas R rfl rfl fun a R => ?_
         refine wpList_nil ?_
         refine then_normal ?_
         exact ⟨(x68_23_0 == y10_3), R.weak ⟨rfl, trivial⟩, h⟩
        ·refine op_pass R rfl rfl rfl (ntf g22) (fun a R => ?_) (by intro s hs; cases hs; rfl)
         refine op_pass R rfl rfl rfl (ntf g22) (fun a R => ?_) (by intro s hs; cases hs; rfl)
         refine op_pass R rfl rfl rfl (ntf g22) (fun a R => ?_) (by intro s hs; cases hs; rfl)
         refine op_pass R rfl rfl rfl (ntf g22) (fun a R => ?_) (by intro s hs; cases hs; rfl)
         refine op_val R (rn_pickF R rfl g22 rfl) rfl fun a R => ?_
         refine oas R rfl rfl fun a R => ?_
         refine wpList_nil ?_
         refine then_normal ?_
         exact ⟨false, R.weak ⟨rfl, trivial⟩, h⟩
       ·refine op_pass R rfl rfl rfl (ntf g17) (fun a R => ?_) (by intro s hs; cases hs; rfl)
        refine op_pass R rfl rfl rfl (ntf g17) (fun a R => ?_) (by intro s hs; cases hs; rfl)
        refine op_pass R rfl rfl rfl (ntf g17) (fun a R => ?_) (by intro s hs; cases hs; rfl)
        refine op_pass R rfl rfl rfl (ntf g17) (fun a R => ?_) (by intro s hs; cases hs; rfl)
        refine op_pass R rfl rfl rfl (ntf g17) (fun a R => ?_) (by intro s hs; cases hs; rfl)
        refine op_pass R rfl rfl rfl (ntf g17) (fun a R => ?_) (by intro s hs; cases hs; rfl)
        refine op_pass R rfl rfl rfl (ntf g17) (fun a R => ?_) (by intro s hs; cases hs; rfl)
        refine op_pass R rfl rfl rfl (ntf g17) (fun a R => ?_) (by intro s hs; cases hs; rfl)
        refine op_val R (rn_pickF R rfl g17 rfl) rfl fun a R => ?_
        refine omv R rfl rfl fun a R => ?_
        refine op_pass R rfl rfl rfl (ntf rfl) (fun a R => ?_) (by intro s hs; cases hs; rfl)
        refine op_pass R rfl rfl rfl (ntf rfl) (fun a R => ?_) (by intro s hs; cases hs; rfl)
        refine op_pass R rfl rfl rfl (ntf rfl) (fun a R => ?_) (by intro s hs; cases hs; rfl)
        refine op_pass R rfl rfl rfl (ntf rfl) (fun a R => ?_) (by intro s hs; cases hs; rfl)
        refine op_val R (rn_pickF R rfl rfl rfl) rfl fun a R => ?_
        refine oas R rfl rfl fun a R => ?_
        refine wpList_nil ?_
        refine then_normal ?_
        exact ⟨false, R.weak ⟨rfl, trivial⟩, h⟩
     ·refine op_pass R rfl rfl rfl (ntf g13) (fun a R => ?_) (by intro s hs; cases hs; rfl)
      refine op_pass R rfl rfl rfl (ntf g13) (fun a R => ?_) (by intro s hs; cases hs; rfl)
      refine op_val R (rn_pickF R rfl g13 rfl) rfl fun a R => ?_
      refine omv R rfl rfl fun a R => ?_
      refine op_pass R rfl rfl rfl (ntf rfl) (fun a R => ?_) (by intro s hs; cases hs; rfl)
      refine op_pass R rfl rfl rfl (ntf rfl) (fun a R => ?_) (by intro s hs; cases hs; rfl)
      refine op_pass R rfl rfl rfl (ntf rfl) (fun a R => ?_) (by intro s hs; cases hs; rfl)
      refine op_val R (rn_pickF R rfl rfl rfl) rfl fun a R => ?_
      refine omv R rfl rfl fun a R => ?_
      refine op_pass R rfl rfl rfl (ntf rfl) (fun a R => ?_) (by intro s hs; cases hs; rfl)
      refine op_pass R rfl rfl rfl (ntf rfl) (fun a R => ?_) (by intro s hs; cases hs; rfl)
      refine op_pass R rfl rfl rfl (ntf rfl) (fun a R => ?_) (by intro s hs; cases hs; rfl)
      refine op_pass R rfl rfl rfl (ntf rfl) (fun a R => ?_) (by intro s hs; cases hs; rfl)
      refine op_pass R rfl rfl rfl (ntf rfl) (fun a R => ?_) (by intro s hs; cases hs; rfl)
      refine op_pass R rfl rfl rfl (ntf rfl) (fun a R => ?_) (by intro s hs; cases hs; rfl)
      refine op_pass R rfl rfl rfl (ntf rfl) (fun a R => ?_) (by intro s hs; cases hs; rfl)
      refine op_pass R rfl rfl rfl (ntf rfl) (fun a R => ?_) (by intro s hs; cases hs; rfl)
      refine op_val R (rn_pickF R rfl rfl rfl) rfl fun a R => ?_
      refine omv R rfl rfl fun a R => ?_
      refine op_pass R rfl rfl rfl (ntf rfl) (fun a R => ?_) (by intro s hs; cases hs; rfl)
      refine op_pass R rfl rfl rfl (ntf rfl) (fun a R => ?_) (by intro s hs; cases hs; rfl)
      refine op_pass R rfl rfl rfl (ntf rfl) (fun a R => ?_) (by intro s hs; cases hs; rfl)
      refine op_pass R rfl rfl rfl (ntf rfl) (fun a R => ?_) (by intro s hs; cases hs; rfl)
      refine op_val R (rn_pickF R rfl rfl rfl) rfl fun a R => ?_
      refine oas R rfl rfl fun a R => ?_
      refine wpList_nil ?_
      refine then_normal ?_
      exact ⟨false, R.weak ⟨rfl, trivial⟩, h⟩
    ·rintro a w ⟨y11_10, R, h⟩
     unfold levylaw19_world_stands.k11 at h
     refine wp_ret ?_
     exact post_ret R rfl rfl ⟨y11_10, rfl, h⟩
theorem s_levylaw19_world_stands (x0 : Option Addr) (x1 : ByteArray) (x2 : Sl) (x3 : Int) (x4 : Bool) (Q : Bool → World → Prop) (w : World) (h : levylaw19_world_stands x0 x1 x2 x3 x4 Q w) :
    Calls Tryd.prog 12 #[.pointer x0, .string x1, Sl.val x2, .int .i64 x3, .bool x4] w (Rets fun v w => ∃ r0 : Bool, v = (.bool r0 : Value) ∧ Q r0 w) :=
  calls_body (args := [.pointer x0, .string x1, Sl.val x2, .int .i64 x3, .bool x4]) Tryd.func12 rfl rfl (Nat.le_of_ble_eq_true rfl) (L := [(0, .pointer x0), (1, .string x1), (2, Sl.val x2), (3, .int .i64 x3), (4, .bool x4)]) (by simp [starts]) (b_levylaw19_world_stands x0 x1 x2 x3 x4 Q w h rfl)

/-! levylaw19.place -/

def levylaw19_place.k1 (x1 : Int) (y1_0 : Int) (Q : Int → World → Prop) (w : World) : Prop :=
  (x1 ≠ 0 ∧ Q (Int.tmod y1_0 x1) w)

def levylaw19_place (x0 : Int) (x1 : Int) (Q : Int → World → Prop) (w : World) : Prop :=
  (if (decide (x0 < 0)) = true then levylaw19_place.k1 x1 (IntKind.i64.wrap (0 - (IntKind.i64.wrap (x0 + 1)))) Q w else levylaw19_place.k1 x1 x0 Q w)

theorem b_levylaw19_place (x0 : Int) (x1 : Int) (Q : Int → World → Prop) (w : World) (h : levylaw19_place x0 x1 Q w) {c : Code} (hb : Tryd.f13.body = some c) :
 ∀ a, Rep a 13 [(0, .int .i64 x0), (1, .int .i64 x1)] [] → c.wp Tryd.prog (bodyPost Tryd.prog Tryd.f13 (Rets fun v w => ∃ r0 : Int, v = (.int .i64 r0 : Value) ∧ Q r0 w)) a w := by
 intro a R
 obtain rfl := Option.some.inj hb
 unfold levylaw19_place at h
 refine wp_seq ?_
 refine wp_region_lit ?_
 refine oas R rfl rfl fun a R => ?_
 refine wpList_nil ?_
 refine then_normal ?_
 refine seq_join (fun a w => ∃ y1_0 : Int, Rep a 13 [(0, .int .i64 y1_0), (1, .int .i64 x1)] [] ∧ levylaw19_place.k1 x1 y1_0 Q w) ?_ ?_
 ·refine wp_seq ?_
  refine wp_region_lit ?_
  refine omv R rfl rfl fun a R => ?_
  refine op_val R (rn_bin (v := .bool (decide (x0 < 0))) R rfl rfl rfl) rfl fun a R => ?_
  refine wpList_nil ?_
  refine then_normal ?_
  rcases ite_cases h with ⟨g4, h⟩ | ⟨g4, h⟩
  ·refine wp_condT R (congrArg (fun b => some (Value.bool b)) g4) ?_
   refine wp_region_lit ?_
   refine omv R rfl rfl fun a R => ?_
   refine op_val R (rn_bin (v := .int .i64 (IntKind.i64.wrap (x0 + 1))) R rfl rfl rfl) rfl fun a R => ?_
   refine op_val R (rn_un (v := .int .i64 (IntKind.i64.wrap (0 - (IntKind.i64.wrap (x0 + 1))))) R rfl rfl) rfl fun a R => ?_
   refine oas R rfl rfl fun a R => ?_
   refine wpList_nil ?_
   refine then_normal ?_
   exact ⟨(IntKind.i64.wrap (0 - (IntKind.i64.wrap (x0 + 1)))), R.weak ⟨rfl, rfl, trivial⟩, h⟩
  ·refine wp_condF R (congrArg (fun b => some (Value.bool b)) g4) ?_
   refine wp_skip ?_
   refine then_normal ?_
   exact ⟨x0, R.weak ⟨rfl, rfl, trivial⟩, h⟩
 ·rintro a w ⟨y1_0, R, h⟩
  unfold levylaw19_place.k1 at h
  refine wp_seq ?_
  refine wp_region_lit ?_
  refine omv R rfl rfl fun a R => ?_
  refine omv R rfl rfl fun a R => ?_
  obtain ⟨n2, h⟩ := h
  refine op_val R (rn_bin (v := .int .i64 (Int.tmod y1_0 x1)) R rfl rfl (bin_rem n2)) rfl fun a R => ?_
  refine oas R rfl rfl fun a R => ?_
  refine wpList_nil ?_
  refine then_normal ?_
  refine wp_ret ?_
  exact post_ret R rfl rfl ⟨(Int.tmod y1_0 x1), rfl, h⟩
theorem s_levylaw19_place (x0 : Int) (x1 : Int) (Q : Int → World → Prop) (w : World) (h : levylaw19_place x0 x1 Q w) :
    Calls Tryd.prog 13 #[.int .i64 x0, .int .i64 x1] w (Rets fun v w => ∃ r0 : Int, v = (.int .i64 r0 : Value) ∧ Q r0 w) :=
  calls_body (args := [.int .i64 x0, .int .i64 x1]) Tryd.func13 rfl rfl (Nat.le_of_ble_eq_true rfl) (L := [(0, .int .i64 x0), (1, .int .i64 x1)]) (by simp [starts]) (b_levylaw19_place x0 x1 Q w h rfl)

/-! levylaw19.DrawerCut -/

def levylaw19_DrawerCut.k29 (x3 : Int) (x22_3_0 : Option Addr) (y6_11 : Int) (x92_9_0 : Sl) (y12_2 : Int) (y14_15 : Int) (y29_171 : Bool) (Q : Bool → World → Prop) (w : World) : Prop :=
  (if y29_171 = true then Q true w else ix x92_9_0.p x92_9_0.len 0 3 fun x173_32 => ld Sl.val w (x173_32.add 1) fun x175_33 => rn Tryd.prog Sl.val (Builtin.append_ #[29, 29] 29 [.slice none 0 0, Sl.val x175_33].toArray) w fun x176_35 w => ix x176_35.p x176_35.len (Int.tmod y12_2 y6_11) 1 fun x181_37 => ld (Value.int .u8) (World.drew w) x181_37 fun x182_38 => levylaw19_place x3 255 (fun x184_39_0 w => ((World.cell? w x181_37 = some (.int .u8 x182_38) ∧ True) ∧ ix x176_35.p x176_35.len (Int.tmod y12_2 y6_11) 1 fun x188_43 => st w x188_43 (.int .u8 (IntKind.u8.wrap (x182_38 + (IntKind.u8.wrap (IntKind.i64.wrap (1 + x184_39_0)))))) fun w => ix x92_9_0.p x92_9_0.len 0 3 fun x191_46 => ld Value.string w (x191_46.add 0) fun x193_47 => levylaw19_world_stands x22_3_0 x193_47 x176_35 y14_15 (decide ((Int.tmod y12_2 y6_11) < 18)) (fun x198_49_0 w => Q x198_49_0 w) w)) (World.drew w))

def levylaw19_DrawerCut.k28 (x3 : Int) (x22_3_0 : Option Addr) (y6_11 : Int) (x92_9_0 : Sl) (y12_2 : Int) (y14_15 : Int) (y28_17 : Int) (Q : Bool → World → Prop) (w : World) : Prop :=
  (if (decide ((IntKind.i64.wrap ((Int.tmod y12_2 y6_11) - y28_17)) ≥ 9)) = true then levylaw19_DrawerCut.k29 x3 x22_3_0 y6_11 x92_9_0 y12_2 y14_15 (decide ((IntKind.i64.wrap ((Int.tmod y12_2 y6_11) - y28_17)) < 13)) Q w else levylaw19_DrawerCut.k29 x3 x22_3_0 y6_11 x92_9_0 y12_2 y14_15 false Q w)

def levylaw19_DrawerCut.k27 (x3 : Int) (x22_3_0 : Option Addr) (y6_10 : Sl) (y6_11 : Int) (x92_9_0 : Sl) (y12_2 : Int) (y14_15 : Int) (y27_17 : Int) (Q : Bool → World → Prop) (w : World) : Prop :=
  (if (decide (y14_15 > 0)) = true then ix y6_10.p y6_10.len (IntKind.i64.wrap (y14_15 - 1)) 1 fun x160_61 => ld (Value.int .i64) w x160_61 fun x161_62 => levylaw19_DrawerCut.k28 x3 x22_3_0 y6_11 x92_9_0 y12_2 y14_15 x161_62 Q w else levylaw19_DrawerCut.k28 x3 x22_3_0 y6_11 x92_9_0 y12_2 y14_15 y27_17 Q w)

def levylaw19_DrawerCut.k14 (x3 : Int) (x22_3_0 : Option Addr) (y6_10 : Sl) (y6_11 : Int) (x92_9_0 : Sl) (y12_2 : Int) (y14_15 : Int) (Q : Bool → World → Prop) (w : World) : Prop :=
  ix x92_9_0.p x92_9_0.len 0 3 fun x136_16 => ld Sl.val w (x136_16.add 1) fun x138_17 => ((0 : Int) ≤ (Int.tmod y12_2 y6_11) ∧ (Int.tmod y12_2 y6_11) ≤ ((x138_17.cap : Nat) : Int) ∧ rn Tryd.prog Sl.val (Builtin.append_ #[29, 29] 29 [.slice none 0 0, Sl.val (cutSl ⟨x138_17.p, x138_17.len, x138_17.cap⟩ 1 0 (Int.toNat (Int.tmod y12_2 y6_11)) x138_17.cap)].toArray) w fun x141_20 w => ix x92_9_0.p x92_9_0.len 0 3 fun x144_22 => ld Value.string w (x144_22.add 0) fun x146_23 => levylaw19_world_stands x22_3_0 x146_23 x141_20 y14_15 (decide ((Int.tmod y12_2 y6_11) < 18)) (fun x151_25_0 w => (if x151_25_0 = true then (if (decide ((Int.tmod y12_2 y6_11) ≥ 18)) = true then levylaw19_DrawerCut.k27 x3 x22_3_0 y6_10 y6_11 x92_9_0 y12_2 y14_15 18 Q w else levylaw19_DrawerCut.k27 x3 x22_3_0 y6_10 y6_11 x92_9_0 y12_2 y14_15 0 Q w) else Q false w)) w)

def levylaw19_DrawerCut.k67 (x3 : Int) (x22_3_0 : Option Addr) (y6_10 : Sl) (y6_11 : Int) (x92_9_0 : Sl) (y12_2 : Int) (z66_15 : Int) (K66 : Int → World → Prop) (y67_132 : Bool) (Q : Bool → World → Prop) (w : World) : Prop :=
  (if y67_132 = true then K66 (IntKind.i64.wrap (z66_15 + 1)) w else levylaw19_DrawerCut.k14 x3 x22_3_0 y6_10 y6_11 x92_9_0 y12_2 z66_15 Q w)

def levylaw19_DrawerCut.l66 (x3 : Int) (x22_3_0 : Option Addr) (y6_10 : Sl) (y6_11 : Int) (x92_9_0 : Sl) (y12_2 : Int) (z66_15 : Int) (Q : Bool → World → Prop) (K66 : Int → World → Prop) (w : World) : Prop :=
  (if (decide (z66_15 < ((y6_10.len : Nat) : Int))) = true then ix y6_10.p y6_10.len z66_15 1 fun x128_74 => ld (Value.int .i64) w x128_74 fun x129_75 => levylaw19_DrawerCut.k67 x3 x22_3_0 y6_10 y6_11 x92_9_0 y12_2 z66_15 K66 (decide (x129_75 ≤ (Int.tmod y12_2 y6_11))) Q w else levylaw19_DrawerCut.k67 x3 x22_3_0 y6_10 y6_11 x92_9_0 y12_2 z66_15 K66 false Q w)

def levylaw19_DrawerCut.k12 (x3 : Int) (x22_3_0 : Option Addr) (y6_10 : Sl) (y6_11 : Int) (x92_9_0 : Sl) (y12_2 : Int) (Q : Bool → World → Prop) (w : World) : Prop :=
  (y6_11 ≠ 0 ∧ (Fix (σ := Int) (fun Ks s w => levylaw19_DrawerCut.l66 x3 x22_3_0 y6_10 y6_11 x92_9_0 y12_2 s Q (fun z66_15 w => Ks z66_15 w) w) 0 w))

def levylaw19_DrawerCut.k10 (x2 : Int) (x3 : Int) (x22_3_0 : Option Addr) (y6_10 : Sl) (y6_11 : Int) (x92_9_0 : Sl) (y10_112 : Bool) (Q : Bool → World → Prop) (w : World) : Prop :=
  (if y10_112 = true then Q false w else (if (decide (x2 < 0)) = true then levylaw19_DrawerCut.k12 x3 x22_3_0 y6_10 y6_11 x92_9_0 (IntKind.i64.wrap (0 - (IntKind.i64.wrap (x2 + 1)))) Q w else levylaw19_DrawerCut.k12 x3 x22_3_0 y6_10 y6_11 x92_9_0 x2 Q w))

def levylaw19_DrawerCut.k6 (x2 : Int) (x3 : Int) (x22_3_0 : Option Addr) (y6_10 : Sl) (y6_11 : Int) (Q : Bool → World → Prop) (w : World) : Prop :=
  nn x22_3_0 fun x89_7 => ld Value.pointer w (x89_7.add 0) fun x91_8 => drawer_Disk_Files x91_8 (fun x92_9_0 w => (if (((x92_9_0.len : Nat) : Int) != 1) = true then levylaw19_DrawerCut.k10 x2 x3 x22_3_0 y6_10 y6_11 x92_9_0 true Q w else ix x92_9_0.p x92_9_0.len 0 3 fun x98_84 => ld Sl.val w (x98_84.add 1) fun x100_85 => (if (((x100_85.len : Nat) : Int) != y6_11) = true then levylaw19_DrawerCut.k10 x2 x3 x22_3_0 y6_10 y6_11 x92_9_0 true Q w else ix x92_9_0.p x92_9_0.len 0 3 fun x107_90 => ld (Value.int .i64) w (x107_90.add 2) fun x109_91 => levylaw19_DrawerCut.k10 x2 x3 x22_3_0 y6_10 y6_11 x92_9_0 (x109_91 != y6_11) Q w))) w

def levylaw19_DrawerCut.k95 (x1 : Sl) (x2 : Int) (x3 : Int) (x22_3_0 : Option Addr) (z94_10 : Sl) (z94_11 : Int) (z94_12 : Int) (K94 : Sl → Int → Int → World → Prop) (y95_44 : Bool) (Q : Bool → World → Prop) (w : World) : Prop :=
  (if y95_44 = true then ix x1.p x1.len z94_12 1 fun x49_98 => ld Sl.val (World.drew w) x49_98 fun x50_99 => ix x1.p x1.len z94_12 1 fun x53_101 => ld Sl.val (World.drew w) x53_101 fun x54_102 => ((0 : Int) ≤ (if 300 < ((x54_102.len : Nat) : Int) then 300 else ((x54_102.len : Nat) : Int)) ∧ (if 300 < ((x54_102.len : Nat) : Int) then 300 else ((x54_102.len : Nat) : Int)) ≤ ((x50_99.cap : Nat) : Int) ∧ nn x22_3_0 fun x59_106 => ld Value.pointer (World.drew (World.drew w)) (x59_106.add 1) fun x61_107 => levylaw19_record z94_12 (cutSl ⟨x50_99.p, x50_99.len, x50_99.cap⟩ 1 0 (Int.toNat (if 300 < ((x54_102.len : Nat) : Int) then 300 else ((x54_102.len : Nat) : Int))) x50_99.cap) (fun x64_108_0_0 x64_108_0_1 w => ((World.cell? w (x59_106.add 1) = some (.pointer x61_107) ∧ True) ∧ drawer_Drawer_Put x61_107 x64_108_0_0 x64_108_0_1 (fun x65_109_0 w => (if (x65_109_0 != 0) = true then Q false w else nn x22_3_0 fun x69_112 => ld Sl.val (World.drew w) (x69_112.add 4) fun x71_113 => levylaw19_record z94_12 (cutSl ⟨x50_99.p, x50_99.len, x50_99.cap⟩ 1 0 (Int.toNat (if 300 < ((x54_102.len : Nat) : Int) then 300 else ((x54_102.len : Nat) : Int))) x50_99.cap) (fun x74_114_0_0 x74_114_0_1 w => ((World.cell? w (x69_112.add 4) = some (Sl.val x71_113) ∧ True) ∧ al w (.cells #[.int .u8 x74_114_0_0, Sl.val x74_114_0_1] 37) fun x75_115 w => ((World.cell? w (x69_112.add 4) = some (Sl.val x71_113) ∧ True) ∧ rn Tryd.prog Sl.val (Builtin.append_ #[30, 30] 30 [Sl.val x71_113, .slice (some x75_115) 1 1].toArray) w fun x76_118 w => ((World.cell? w (x69_112.add 4) = some (Sl.val x71_113) ∧ True) ∧ nn x22_3_0 fun x77_119 => st w (x77_119.add 4) (Sl.val x76_118) fun w => al w (.cells #[.int .i64 (IntKind.i64.wrap ((IntKind.i64.wrap (z94_11 + 18)) + (((cutSl ⟨x50_99.p, x50_99.len, x50_99.cap⟩ 1 0 (Int.toNat (if 300 < ((x54_102.len : Nat) : Int) then 300 else ((x54_102.len : Nat) : Int))) x50_99.cap).len : Nat) : Int)))] 3) fun x86_124 w => rn Tryd.prog Sl.val (Builtin.append_ #[33, 33] 33 [Sl.val z94_10, .slice (some x86_124) 1 1].toArray) w fun x87_127 w => K94 x87_127 (IntKind.i64.wrap ((IntKind.i64.wrap (z94_11 + 18)) + (((cutSl ⟨x50_99.p, x50_99.len, x50_99.cap⟩ 1 0 (Int.toNat (if 300 < ((x54_102.len : Nat) : Int) then 300 else ((x54_102.len : Nat) : Int))) x50_99.cap).len : Nat) : Int))) (IntKind.i64.wrap (z94_12 + 1)) w)))) (World.drew w))) w)) (World.drew (World.drew w))) else levylaw19_DrawerCut.k6 x2 x3 x22_3_0 z94_10 z94_11 Q w)

def levylaw19_DrawerCut.l94 (x1 : Sl) (x2 : Int) (x3 : Int) (x22_3_0 : Option Addr) (z94_10 : Sl) (z94_11 : Int) (z94_12 : Int) (Q : Bool → World → Prop) (K94 : Sl → Int → Int → World → Prop) (w : World) : Prop :=
  (if (decide (z94_12 < ((x1.len : Nat) : Int))) = true then levylaw19_DrawerCut.k95 x1 x2 x3 x22_3_0 z94_10 z94_11 z94_12 K94 (decide (z94_12 < 12)) Q w else levylaw19_DrawerCut.k95 x1 x2 x3 x22_3_0 z94_10 z94_11 z94_12 K94 false Q w)

def levylaw19_DrawerCut.k4 (x1 : Sl) (x2 : Int) (x3 : Int) (x22_3_0 : Option Addr) (y4_36 : Bool) (Q : Bool → World → Prop) (w : World) : Prop :=
  (if y4_36 = true then Q false w else (Fix (σ := Sl × Int × Int) (fun Ks s w => levylaw19_DrawerCut.l94 x1 x2 x3 x22_3_0 s.1 s.2.1 s.2.2 Q (fun z94_10 z94_11 z94_12 w => Ks (z94_10, z94_11, z94_12) w) w) ((Sl.mk none 0 0), 18, 0) w))

def levylaw19_DrawerCut (x0 : Int) (x1 : Sl) (x2 : Int) (x3 : Int) (Q : Bool → World → Prop) (w : World) : Prop :=
  levylaw19_known  (fun x19_1_0 w => (if x19_1_0 = true then levylaw19_begin x0 (fun x22_3_0 w => (if (Option.isNone x22_3_0) = true then levylaw19_DrawerCut.k4 x1 x2 x3 x22_3_0 true Q w else levylaw19_world_open x22_3_0 (fun x27_137_0 w => (if x27_137_0 = true then nn x22_3_0 fun x32_139 => ld Value.pointer w (x32_139.add 1) fun x34_140 => levylaw19_DrawerCut.k4 x1 x2 x3 x22_3_0 (Option.isNone x34_140) Q w else levylaw19_DrawerCut.k4 x1 x2 x3 x22_3_0 true Q w)) w)) w else Q false w)) w

theorem b_levylaw19_DrawerCut (x0 : Int) (x1 : Sl) (x2 : Int) (x3 : Int) (Q : Bool → World → Prop) (w : World) (h : levylaw19_DrawerCut x0 x1 x2 x3 Q w) {c : Code} (hb : Tryd.f3.body = some c) :
 ∀ a, Rep a 199 [(0, .int .u32 x0), (1, Sl.val x1), (2, .int .i64 x2), (3, .int .i64 x3)] [] → c.wp Tryd.prog (bodyPost Tryd.prog Tryd.f3 (Rets fun v w => ∃ r0 : Bool, v = (.bool r0 : Value) ∧ Q r0 w)) a w := by
 intro a R
 obtain rfl := Option.some.inj hb
 unfold levylaw19_DrawerCut at h
 refine wp_seq ?_
 refine wp_region_lit ?_
 refine oas R rfl rfl fun a R => ?_
 refine wpList_nil ?_
 refine then_normal ?_
 refine wp_seq ?_
 refine wp_seq ?_
 refine wp_region_lit ?_
 refine op_call R (rn_calls R rfl cf6) rfl ?_
 refine call_mono (s_levylaw19_known  _ _ h) ?_
 rintro _ w143 ⟨x19_1_0, rfl, h⟩ a R
 refine op_val R (rn_un (v := .bool (!x19_1_0)) R rfl rfl) rfl fun a R => ?_
 refine wpList_nil ?_
 refine then_normal ?_
 rcases ite_cases h with ⟨g2, h⟩ | ⟨g2, h⟩
 ·refine wp_condF R (congrArg (fun b => some (Value.bool b)) (nf g2)) ?_
  refine wp_skip ?_
  refine then_normal ?_
  refine wp_seq ?_
  refine wp_region_lit ?_
  refine omv R rfl rfl fun a R => ?_
  refine op_call R (rn_calls R rfl cf7) rfl ?_
  refine call_mono (s_levylaw19_begin _ _ _ h) ?_
  rintro _ w142 ⟨x22_3_0, rfl, h⟩ a R
  refine oas R rfl rfl fun a R => ?_
  refine wpList_nil ?_
  refine then_normal ?_
  refine wp_seq ?_
  refine seq_join (fun a w => ∃ y4_36 : Bool, Rep a 199 [(1, Sl.val x1), (2, .int .i64 x2), (3, .int .i64 x3), (9, .pointer x22_3_0), (36, .bool y4_36)] [] ∧ levylaw19_DrawerCut.k4 x1 x2 x3 x22_3_0 y4_36 Q w) ?_ ?_
  ·refine wp_region_lit ?_
   refine omv R rfl rfl fun a R => ?_
   refine op_val R (rn_nilPE R rfl rfl Tryd.underlying25) rfl fun a R => ?_
   refine omv R rfl rfl fun a R => ?_
   rcases ite_cases h with ⟨g136, h⟩ | ⟨g136, h⟩
   ·refine op_pass R rfl rfl rfl (nft g136) (fun a R => ?_) (by intro s hs; cases hs; rfl)
    refine op_pass R rfl rfl rfl (nft g136) (fun a R => ?_) (by intro s hs; cases hs; rfl)
    refine op_pass R rfl rfl rfl (nft g136) (fun a R => ?_) (by intro s hs; cases hs; rfl)
    refine op_val R (rn_pickT R rfl g136 rfl) rfl fun a R => ?_
    refine omv R rfl rfl fun a R => ?_
    refine op_pass R rfl rfl rfl (nft rfl) (fun a R => ?_) (by intro s hs; cases hs; rfl)
    refine op_pass R rfl rfl rfl (nft rfl) (fun a R => ?_) (by intro s hs; cases hs; rfl)
    refine op_pass R rfl rfl rfl (nft rfl) (fun a R => ?_) (by intro s hs; cases hs; rfl)
    refine op_pass R rfl rfl rfl (nft rfl) (fun a R => ?_) (by intro s hs; cases hs; rfl)
    refine op_pass R rfl rfl rfl (nft rfl) (fun a R => ?_) (by intro s hs; cases hs; rfl)
    refine op_val R (rn_pickT R rfl rfl rfl) rfl fun a R => ?_
    refine wpList_nil ?_
    refine then_normal ?_
    exact ⟨true, R.weak ⟨rfl, rfl, rfl, rfl, rfl, trivial⟩, h⟩
   ·refine op_guard R rfl rfl rfl g136 ?_
    refine omv R rfl rfl fun a R => ?_
    refine op_guard R rfl rfl rfl g136 ?_
    refine op_call R (rn_calls R rfl cf8) rfl ?_
    refine call_mono (s_levylaw19_world_open _ _ _ h) ?_
    rintro _ w141 ⟨x27_137_0, rfl, h⟩ a R
    refine op_guard R rfl rfl rfl g136 ?_
    refine op_val R (rn_un (v := .bool (!x27_137_0)) R rfl rfl) rfl fun a R => ?_
    refine op_val R (rn_pickF R rfl g136 rfl) rfl fun a R => ?_
    refine omv R rfl rfl fun a R => ?_
    rcases ite_cases h with ⟨g138, h⟩ | ⟨g138, h⟩
    ·refine op_guard R rfl rfl rfl (nf g138) ?_
     refine omv R rfl rfl fun a R => ?_
     refine op_guard R rfl rfl rfl (nf g138) ?_
     obtain ⟨x32_139, cx32_139, h⟩ := h
     refine onl R rfl cx32_139 rfl fun a R => ?_
     refine op_guard R rfl rfl rfl (nf g138) ?_
     refine ofd R rfl fd32_1 rfl fun a R => ?_
     refine op_guard R rfl rfl rfl (nf g138) ?_
     obtain ⟨x34_140, cx34_140, h⟩ := h
     refine old R rfl Tryd.underlying28 rfl cx34_140 rfl fun a R => ?_
     refine op_guard R rfl rfl rfl (nf g138) ?_
     refine op_val R (rn_nilPE R rfl rfl Tryd.underlying28) rfl fun a R => ?_
     refine op_val R (rn_pickF R rfl (nf g138) rfl) rfl fun a R => ?_
     refine wpList_nil ?_
     refine then_normal ?_
     exact ⟨(Option.isNone x34_140), R.weak ⟨rfl, rfl, rfl, rfl, rfl, trivial⟩, h⟩
    ·refine op_pass R rfl rfl rfl (nft (nt g138)) (fun a R => ?_) (by intro s hs; cases hs; rfl)
     refine op_pass R rfl rfl rfl (nft (nt g138)) (fun a R => ?_) (by intro s hs; cases hs; rfl)
     refine op_pass R rfl rfl rfl (nft (nt g138)) (fun a R => ?_) (by intro s hs; cases hs; rfl)
     refine op_pass R rfl rfl rfl (nft (nt g138)) (fun a R => ?_) (by intro s hs; cases hs; rfl)
     refine op_pass R rfl rfl rfl (nft (nt g138)) (fun a R => ?_) (by intro s hs; cases hs; rfl)
     refine op_val R (rn_pickT R rfl (nt g138) rfl) rfl fun a R => ?_
     refine wpList_nil ?_
     refine then_normal ?_
     exact ⟨true, R.weak ⟨rfl, rfl, rfl, rfl, rfl, trivial⟩, h⟩
  ·rintro a w ⟨y4_36, R, h⟩
   unfold levylaw19_DrawerCut.k4 at h
   rcases ite_cases h with ⟨g5, h⟩ | ⟨g5, h⟩
   ·refine wp_condT R (congrArg (fun b => some (Value.bool b)) g5) ?_
    refine wp_seq ?_
    refine wp_region_lit ?_
    refine oas R rfl rfl fun a R => ?_
    refine wpList_nil ?_
    refine then_normal ?_
    refine wp_ret ?_
    refine then_ret ?_
    exact post_ret R rfl rfl ⟨false, rfl, h⟩
   ·refine wp_condF R (congrArg (fun b => some (Value.bool b)) g5) ?_
    refine wp_skip ?_
    refine then_normal ?_
    refine wp_seq ?_
    refine wp_region_lit ?_
    refine oas R rfl rfl fun a R => ?_
    refine wpList_nil ?_
    refine then_normal ?_
    refine wp_seq ?_
    refine wp_region_lit ?_
    refine oas R rfl rfl fun a R => ?_
    refine wpList_nil ?_
    refine then_normal ?_
    refine seq_join (fun a w => ∃ y6_10 : Sl, ∃ y6_11 : Int, Rep a 199 [(2, .int .i64 x2), (3, .int .i64 x3), (9, .pointer x22_3_0), (10, Sl.val y6_10), (11, .int .i64 y6_11)] [] ∧ levylaw19_DrawerCut.k6 x2 x3 x22_3_0 y6_10 y6_11 Q w) ?_ ?_
    ·refine wp_seq ?_
     refine wp_region_lit ?_
     refine oas R rfl rfl fun a R => ?_
     refine wpList_nil ?_
     refine then_normal ?_
     refine wp_block ?_
     refine wp_fix (σ := Sl × Int × Int) (fun s a => Rep a 199 [(1, Sl.val x1), (2, .int .i64 x2), (3, .int .i64 x3), (9, .pointer x22_3_0), (10, Sl.val s.1), (11, .int .i64 s.2.1), (12, .int .i64 s.2.2)] []) h (R.weak ⟨rfl, rfl, rfl, rfl, rfl, rfl, rfl, trivial⟩) ?_
     rintro Ks C ⟨z94_10, z94_11, z94_12⟩ a w hC R h
     have R : Rep a 199 [(1, Sl.val x1), (2, .int .i64 x2), (3, .int .i64 x3), (9, .pointer x22_3_0), (10, Sl.val z94_10), (11, .int .i64 z94_11), (12, .int .i64 z94_12)] [] := R
     have h : levylaw19_DrawerCut.l94 x1 x2 x3 x22_3_0 z94_10 z94_11 z94_12 Q (fun z94_10 z94_11 z94_12 w => Ks (z94_10, z94_11, z94_12) w) w := h
     generalize hK94 : (fun z94_10 z94_11 z94_12 w => Ks (z94_10, z94_11, z94_12) w) = K94 at h
     unfold levylaw19_DrawerCut.l94 at h
     refine wp_seq ?_
     refine seq_join (fun a w => ∃ y95_44 : Bool, Rep a 199 [(1, Sl.val x1), (2, .int .i64 x2), (3, .int .i64 x3), (9, .pointer x22_3_0), (10, Sl.val z94_10), (11, .int .i64 z94_11), (12, .int .i64 z94_12), (44, .bool y95_44)] [] ∧ levylaw19_DrawerCut.k95 x1 x2 x3 x22_3_0 z94_10 z94_11 z94_12 K94 y95_44 Q w) ?_ ?_
     ·refine wp_region_lit ?_
      refine omv R rfl rfl fun a R => ?_
      refine omv R rfl rfl fun a R => ?_
      refine op_val R (rn_len R rfl Tryd.underlying23) rfl fun a R => ?_
      refine op_val R (rn_bin (v := .bool (decide (z94_12 < ((x1.len : Nat) : Int)))) R rfl rfl rfl) rfl fun a R => ?_
      refine omv R rfl rfl fun a R => ?_
      rcases ite_cases h with ⟨g134, h⟩ | ⟨g134, h⟩
      ·refine op_guard R rfl rfl rfl g134 ?_
       refine omv R rfl rfl fun a R => ?_
       refine op_guard R rfl rfl rfl g134 ?_
       refine op_val R (rn_bin (v := .bool (decide (z94_12 < 12))) R rfl rfl rfl) rfl fun a R => ?_
       refine op_val R (rn_pickT R rfl g134 rfl) rfl fun a R => ?_
       refine wpList_nil ?_
       refine then_normal ?_
       exact ⟨(decide (z94_12 < 12)), R.weak ⟨rfl, rfl, rfl, rfl, rfl, rfl, rfl, rfl, trivial⟩, h⟩
      ·refine op_pass R rfl rfl rfl (ntf g134) (fun a R => ?_) (by intro s hs; cases hs; rfl)
       refine op_pass R rfl rfl rfl (ntf g134) (fun a R => ?_) (by intro s hs; cases hs; rfl)
       refine op_val R (rn_pickF R rfl g134 rfl) rfl fun a R => ?_
       refine wpList_nil ?_
       refine then_normal ?_
       exact ⟨false, R.weak ⟨rfl, rfl, rfl, rfl, rfl, rfl, rfl, rfl, trivial⟩, h⟩
     ·rintro a w ⟨y95_44, R, h⟩
      unfold levylaw19_DrawerCut.k95 at h
      rcases ite_cases h with ⟨g96, h⟩ | ⟨g96, h⟩
      ·refine wp_condT R (congrArg (fun b => some (Value.bool b)) g96) ?_
       refine wp_skip ?_
       refine then_normal ?_
       refine wp_seq ?_
       refine wp_block ?_
       refine wp_seq ?_
       refine region_start mo fun inv => ?_
       refine seg_same (n := 10) (f := 10) (g := 2) (by kernel_rfl) fun inv => ?_
       refine dr_val (i := 0) R (waits_dom (by kernel_rfl) (by kernel_rfl)) (by kernel_rfl) inv rfl (by decide) (by kernel_rfl) (by kernel_rfl) (fun _ _ _ h => h) wanted_none (fun w' hS => rn_mv R rfl) rfl (by decide) fun inv a R => ?_
       refine dr_val (i := 1) R (waits_dom (by kernel_rfl) (by kernel_rfl)) (by kernel_rfl) inv rfl (by decide) (by kernel_rfl) (by kernel_rfl) (fun _ _ _ h => h) wanted_none (fun w' hS => rn_mv R rfl) rfl (by decide) fun inv a R => ?_
       obtain ⟨b97, x49_98, p97, i97, j97, e97, h⟩ := ix_e h
       refine dr_val (v := .pointer (some x49_98)) (i := 2) R (waits_dom (by kernel_rfl) (by kernel_rfl)) (by kernel_rfl) inv rfl (by decide) (by kernel_rfl) (by kernel_rfl) (fun _ _ _ h => h) wanted_none (fun w' hS => by rw [e97]; exact rn_ixs (x := (.tmp 47)) (y := (.tmp 48)) R rfl p97 rfl Tryd.underlying23 sz29 i97 j97) rfl (by decide) fun inv a R => ?_
       obtain ⟨x50_99, cx50_99, h⟩ := h
       refine dr_val (i := 3) R (waits_dom (by kernel_rfl) (by kernel_rfl)) (by kernel_rfl) inv rfl (by decide) (by kernel_rfl) (by kernel_rfl) (fun _ _ _ h => h) wanted_none (fun w' hS => rn_ld R rfl Tryd.underlying29 rfl (cell_heap' hS cx50_99)) rfl (by decide) fun inv a R => ?_
       refine dr_val (i := 4) R (waits_dom (by kernel_rfl) (by kernel_rfl)) (by kernel_rfl) inv rfl (by decide) (by kernel_rfl) (by kernel_rfl) (fun _ _ _ h => h) wanted_none (fun w' hS => rn_mv R rfl) rfl (by decide) fun inv a R => ?_
       refine dr_val (i := 5) R (waits_dom (by kernel_rfl) (by kernel_rfl)) (by kernel_rfl) inv rfl (by decide) (by kernel_rfl) (by kernel_rfl) (fun _ _ _ h => h) wanted_none (fun w' hS => rn_mv R rfl) rfl (by decide) fun inv a R => ?_
       obtain ⟨b100, x53_101, p100, i100, j100, e100, h⟩ := ix_e h
       refine dr_val (v := .pointer (some x53_101)) (i := 6) R (waits_dom (by kernel_rfl) (by kernel_rfl)) (by kernel_rfl) inv rfl (by decide) (by kernel_rfl) (by kernel_rfl) (fun _ _ _ h => h) wanted_none (fun w' hS => by rw [e100]; exact rn_ixs (x := (.tmp 51)) (y := (.tmp 52)) R rfl p100 rfl Tryd.underlying23 sz29 i100 j100) rfl (by decide) fun inv a R => ?_
       obtain ⟨x54_102, cx54_102, h⟩ := h
       refine dr_val (i := 7) R (waits_dom (by kernel_rfl) (by kernel_rfl)) (by kernel_rfl) inv rfl (by decide) (by kernel_rfl) (by kernel_rfl) (fun _ _ _ h => h) wanted_none (fun w' hS => rn_ld R rfl Tryd.underlying29 rfl (cell_heap' hS cx54_102)) rfl (by decide) fun inv a R => ?_
       refine dr_val (i := 8) R (waits_dom (by kernel_rfl) (by kernel_rfl)) (by kernel_rfl) inv rfl (by decide) (by kernel_rfl) (by kernel_rfl) (fun _ _ _ h => h) wanted_none (fun w' hS => rn_len R rfl Tryd.underlying29) rfl (by decide) fun inv a R => ?_
       refine dr_val (i := 9) R (waits_dom (by kernel_rfl) (by kernel_rfl)) (by kernel_rfl) inv rfl (by decide) (by kernel_rfl) (by kernel_rfl) (fun _ _ _ h => h) wanted_none (fun w' hS => rn_min R rfl rfl) rfl (by decide) fun inv a R => ?_
       refine seg_end (by kernel_rfl) ?_
       refine any_tail 10 (by kernel_rfl) ?_
       obtain ⟨s105_0, s105_1, h⟩ := h
       refine op_val R (rn_sl R rfl rfl (evo R rfl) rfl (fun w => bounds2 (lo := none) (hi := (some (.i64, (if 300 < ((x54_102.len : Nat) : Int) then 300 else ((x54_102.len : Nat) : Int))))) 0 (Int.toNat (if 300 < ((x54_102.len : Nat) : Int) then 300 else ((x54_102.len : Nat) : Int))) ⟨s105_0, s105_1, rfl⟩ rfl w) Tryd.underlying29 sz5) rfl fun a R => ?_
       refine oas R rfl rfl fun a R => ?_
       refine wpList_nil ?_
       refine then_normal ?_
       refine wp_seq ?_
       refine wp_seq ?_
       refine region_start mo fun inv => ?_
       obtain ⟨x59_106, cx59_106, h⟩ := h
       obtain ⟨x61_107, cx61_107, h⟩ := h
       refine seg_held (n := 7) (f := 7) (g := 2) (fun w : World => w.cell? (x59_106.add 1) = some (.pointer x61_107) ∧ True) (by kernel_rfl) fun inv => ?_
       have hS0 : (fun w : World => w.cell? (x59_106.add 1) = some (.pointer x61_107) ∧ True) _ := ⟨cx61_107, trivial⟩
       refine dr_val (i := 0) R (waits_dom (by kernel_rfl) (by kernel_rfl)) (by kernel_rfl) inv rfl (by decide) (by kernel_rfl) (by kernel_rfl) (fun _ _ _ h => h) wanted_none (fun w' hS => rn_mv R rfl) hS0 rfl fun inv a R => ?_
       refine dr_val (i := 1) R (waits_dom (by kernel_rfl) (by kernel_rfl)) (by kernel_rfl) inv rfl (by decide) (by kernel_rfl) (by kernel_rfl) (fun _ _ _ h => h) wanted_none (fun w' hS => rn_nil R rfl cx59_106) hS0 rfl fun inv a R => ?_
       refine dr_val (i := 2) R (waits_dom (by kernel_rfl) (by kernel_rfl)) (by kernel_rfl) inv rfl (by decide) (by kernel_rfl) (by kernel_rfl) (fun _ _ _ h => h) wanted_none (fun w' hS => rn_fld R rfl fd32_1) hS0 rfl fun inv a R => ?_
       refine dr_val (i := 3) R (waits_dom (by kernel_rfl) (by kernel_rfl)) (by kernel_rfl) inv rfl (by decide) (by kernel_rfl) (by kernel_rfl) (fun _ _ _ h => h) wanted_none (fun w' hS => rn_ld R rfl Tryd.underlying28 rfl (hS.1)) hS0 rfl fun inv a R => ?_
       refine dr_val (i := 4) R (waits_dom (by kernel_rfl) (by kernel_rfl)) (by kernel_rfl) inv rfl (by decide) (by kernel_rfl) (by kernel_rfl) (fun _ _ _ h => h) wanted_none (fun w' hS => rn_mv R rfl) hS0 rfl fun inv a R => ?_
       refine dr_val (i := 5) R (waits_dom (by kernel_rfl) (by kernel_rfl)) (by kernel_rfl) inv rfl (by decide) (by kernel_rfl) (by kernel_rfl) (fun _ _ _ h => h) wanted_none (fun w' hS => rn_mv R rfl) hS0 rfl fun inv a R => ?_
       refine dr_call (i := 6) R inv rfl (by decide) (by kernel_rfl) wanted_none (rn_calls R rfl cf10) rfl ?_
       refine call_mono (s_levylaw19_record _ _ _ _ h) ?_
       rintro _ w131 ⟨x64_108_0_0, x64_108_0_1, rfl, hS0, h⟩
       refine ⟨hS0, fun a inv R => ?_⟩
       refine seg_end (by kernel_rfl) ?_
       refine any_tail 7 (by kernel_rfl) ?_
       refine op_call R (rn_calls R rfl cf9) rfl ?_
       refine call_mono (s_drawer_Drawer_Put _ _ _ _ _ h) ?_
       rintro _ w130 ⟨x65_109_0, rfl, h⟩ a R
       refine op_val R (rn_bin (v := .bool (x65_109_0 != 0)) R rfl rfl rfl) rfl fun a R => ?_
       refine wpList_nil ?_
       refine then_normal ?_
       rcases ite_cases h with ⟨g111, h⟩ | ⟨g111, h⟩
       ·refine wp_condT R (congrArg (fun b => some (Value.bool b)) g111) ?_
        refine wp_seq ?_
        refine wp_region_lit ?_
        refine oas R rfl rfl fun a R => ?_
        refine wpList_nil ?_
        refine then_normal ?_
        refine wp_ret ?_
        refine then_ret ?_
        refine block_ret ?_
        refine then_ret ?_
        refine then_ret ?_
        refine block_ret ?_
        refine then_ret ?_
        exact post_ret R rfl rfl ⟨false, rfl, h⟩
       ·refine wp_condF R (congrArg (fun b => some (Value.bool b)) g111) ?_
        refine wp_skip ?_
        refine then_normal ?_
        refine wp_seq ?_
        refine region_start mo fun inv => ?_
        obtain ⟨x69_112, cx69_112, h⟩ := h
        obtain ⟨x71_113, cx71_113, h⟩ := h
        refine seg_held (n := 10) (f := 10) (g := 3) (fun w : World => w.cell? (x69_112.add 4) = some (Sl.val x71_113) ∧ True) (by kernel_rfl) fun inv => ?_
        have hS0 : (fun w : World => w.cell? (x69_112.add 4) = some (Sl.val x71_113) ∧ True) _ := ⟨cx71_113, trivial⟩
        refine dr_val (i := 0) R (waits_dom (by kernel_rfl) (by kernel_rfl)) (by kernel_rfl) inv rfl (by decide) (by kernel_rfl) (by kernel_rfl) (fun _ _ _ h => h) wanted_none (fun w' hS => rn_mv R rfl) hS0 rfl fun inv a R => ?_
        refine dr_val (i := 1) R (waits_dom (by kernel_rfl) (by kernel_rfl)) (by kernel_rfl) inv rfl (by decide) (by kernel_rfl) (by kernel_rfl) (fun _ _ _ h => h) wanted_none (fun w' hS => rn_mv R rfl) hS0 rfl fun inv a R => ?_
        refine dr_val (i := 2) R (waits_dom (by kernel_rfl) (by kernel_rfl)) (by kernel_rfl) inv rfl (by decide) (by kernel_rfl) (by kernel_rfl) (fun _ _ _ h => h) wanted_none (fun w' hS => rn_nil R rfl cx69_112) hS0 rfl fun inv a R => ?_
        refine dr_val (i := 3) R (waits_dom (by kernel_rfl) (by kernel_rfl)) (by kernel_rfl) inv rfl (by decide) (by kernel_rfl) (by kernel_rfl) (fun _ _ _ h => h) wanted_none (fun w' hS => rn_fld R rfl fd32_4) hS0 rfl fun inv a R => ?_
        refine dr_val (i := 4) R (waits_dom (by kernel_rfl) (by kernel_rfl)) (by kernel_rfl) inv rfl (by decide) (by kernel_rfl) (by kernel_rfl) (fun _ _ _ h => h) wanted_none (fun w' hS => rn_ld R rfl Tryd.underlying30 rfl (hS.1)) hS0 rfl fun inv a R => ?_
        refine dr_val (i := 5) R (waits_dom (by kernel_rfl) (by kernel_rfl)) (by kernel_rfl) inv rfl (by decide) (by kernel_rfl) (by kernel_rfl) (fun _ _ _ h => h) wanted_none (fun w' hS => rn_mv R rfl) hS0 rfl fun inv a R => ?_
        refine dr_val (i := 6) R (waits_dom (by kernel_rfl) (by kernel_rfl)) (by kernel_rfl) inv rfl (by decide) (by kernel_rfl) (by kernel_rfl) (fun _ _ _ h => h) wanted_none (fun w' hS => rn_mv R rfl) hS0 rfl fun inv a R => ?_
        refine dr_call (i := 7) R inv rfl (by decide) (by kernel_rfl) wanted_none (rn_calls R rfl cf10) rfl ?_
        refine call_mono (s_levylaw19_record _ _ _ _ h) ?_
        rintro _ w129 ⟨x74_114_0_0, x74_114_0_1, rfl, hS0, h⟩
        refine ⟨hS0, fun a inv R => ?_⟩
        obtain ⟨x75_115, e116, h⟩ := al_e h
        obtain ⟨hS0, h⟩ := h
        refine dr_run (v := .slice (some x75_115) 1 1) (i := 8) R inv rfl (by decide) (by kernel_rfl) wanted_none (by rw [e116]; exact rn_buildSlice (t := 30) (len := 1) (xs := [(0, (.tmp 74))]) (cells := #[.int .u8 x74_114_0_0, Sl.val x74_114_0_1]) (e := 37) R rfl (fun w => by kernel_rfl)) hS0 rfl fun inv a R => ?_
        obtain ⟨x76_118, w117, cx76_118, h⟩ := h
        obtain ⟨hS0, h⟩ := h
        refine dr_run (i := 9) R inv rfl (by decide) (by kernel_rfl) wanted_none (rn_bi (vs := [Sl.val x71_113, .slice (some x75_115) 1 1]) R rfl (fun _ => rfl) cx76_118) hS0 rfl fun inv a R => ?_
        refine seg_end (by kernel_rfl) ?_
        refine any_tail 10 (by kernel_rfl) ?_
        obtain ⟨x77_119, cx77_119, h⟩ := h
        refine onl R rfl cx77_119 rfl fun a R => ?_
        refine ofd R rfl fd32_4 rfl fun a R => ?_
        obtain ⟨q120, f120, h⟩ := h
        refine op_unit R (rn_st R rfl rfl rfl sz30 q120 f120) fun a R => ?_
        refine wpList_nil ?_
        refine then_normal ?_
        refine wp_seq ?_
        refine wp_region_lit ?_
        refine omv R rfl rfl fun a R => ?_
        refine op_val R (rn_bin (v := .int .i64 (IntKind.i64.wrap (z94_11 + 18))) R rfl rfl rfl) rfl fun a R => ?_
        refine omv R rfl rfl fun a R => ?_
        refine op_val R (rn_len R rfl Tryd.underlying29) rfl fun a R => ?_
        refine op_val R (rn_bin (v := .int .i64 (IntKind.i64.wrap ((IntKind.i64.wrap (z94_11 + 18)) + (((cutSl ⟨x50_99.p, x50_99.len, x50_99.cap⟩ 1 0 (Int.toNat (if 300 < ((x54_102.len : Nat) : Int) then 300 else ((x54_102.len : Nat) : Int))) x50_99.cap).len : Nat) : Int)))) R rfl rfl rfl) rfl fun a R => ?_
        refine oas R rfl rfl fun a R => ?_
        refine wpList_nil ?_
        refine then_normal ?_
        refine wp_region_lit ?_
        refine omv R rfl rfl fun a R => ?_
        refine omv R rfl rfl fun a R => ?_
        obtain ⟨x86_124, e125, h⟩ := al_e h
        refine op_val (v := .slice (some x86_124) 1 1) R (by rw [e125]; exact rn_buildSlice (t := 33) (len := 1) (xs := [(0, (.tmp 85))]) (cells := #[.int .i64 (IntKind.i64.wrap ((IntKind.i64.wrap (z94_11 + 18)) + (((cutSl ⟨x50_99.p, x50_99.len, x50_99.cap⟩ 1 0 (Int.toNat (if 300 < ((x54_102.len : Nat) : Int) then 300 else ((x54_102.len : Nat) : Int))) x50_99.cap).len : Nat) : Int)))]) (e := 3) R rfl (fun w => by kernel_rfl)) rfl fun a R => ?_
        obtain ⟨x87_127, w126, cx87_127, h⟩ := h
        refine op_val R (rn_bi (vs := [Sl.val z94_10, .slice (some x86_124) 1 1]) R rfl (fun _ => rfl) cx87_127) rfl fun a R => ?_
        refine oas R rfl rfl fun a R => ?_
        refine wpList_nil ?_
        refine block_normal ?_
        refine then_normal ?_
        refine wp_region_lit ?_
        refine omv R rfl rfl fun a R => ?_
        refine op_val R (rn_bin (v := .int .i64 (IntKind.i64.wrap (z94_12 + 1))) R rfl rfl rfl) rfl fun a R => ?_
        refine oas R rfl rfl fun a R => ?_
        refine wpList_nil ?_
        refine then_normal ?_
        exact hC (x87_127, (IntKind.i64.wrap ((IntKind.i64.wrap (z94_11 + 18)) + (((cutSl ⟨x50_99.p, x50_99.len, x50_99.cap⟩ 1 0 (Int.toNat (if 300 < ((x54_102.len : Nat) : Int) then 300 else ((x54_102.len : Nat) : Int))) x50_99.cap).len : Nat) : Int))), (IntKind.i64.wrap (z94_12 + 1))) _ _ (R.weak ⟨rfl, rfl, rfl, rfl, rfl, rfl, rfl, trivial⟩) (by rw [← hK94] at h; exact h)
      ·refine wp_condF R (congrArg (fun b => some (Value.bool b)) g96) ?_
       refine wp_exit ?_
       refine then_exit ?_
       refine then_exit ?_
       refine block_eq ?_
       refine then_normal ?_
       exact ⟨z94_10, z94_11, R.weak ⟨rfl, rfl, rfl, rfl, rfl, trivial⟩, h⟩
    ·rintro a w ⟨y6_10, y6_11, R, h⟩
     unfold levylaw19_DrawerCut.k6 at h
     refine wp_seq ?_
     refine wp_region_lit ?_
     refine omv R rfl rfl fun a R => ?_
     obtain ⟨x89_7, cx89_7, h⟩ := h
     refine onl R rfl cx89_7 rfl fun a R => ?_
     refine ofd R rfl fd32_0 rfl fun a R => ?_
     obtain ⟨x91_8, cx91_8, h⟩ := h
     refine old R rfl Tryd.underlying27 rfl cx91_8 rfl fun a R => ?_
     refine op_call R (rn_calls R rfl cf11) rfl ?_
     refine call_mono (s_drawer_Disk_Files _ _ _ h) ?_
     rintro _ w93 ⟨x92_9_0, rfl, h⟩ a R
     refine oas R rfl rfl fun a R => ?_
     refine wpList_nil ?_
     refine then_normal ?_
     refine wp_seq ?_
     refine seq_join (fun a w => ∃ y10_112 : Bool, Rep a 199 [(2, .int .i64 x2), (3, .int .i64 x3), (9, .pointer x22_3_0), (10, Sl.val y6_10), (11, .int .i64 y6_11), (14, Sl.val x92_9_0), (112, .bool y10_112)] [] ∧ levylaw19_DrawerCut.k10 x2 x3 x22_3_0 y6_10 y6_11 x92_9_0 y10_112 Q w) ?_ ?_
     ·refine wp_region_lit ?_
      refine omv R rfl rfl fun a R => ?_
      refine op_val R (rn_len R rfl Tryd.underlying39) rfl fun a R => ?_
      refine op_val R (rn_bin (v := .bool (((x92_9_0.len : Nat) : Int) != 1)) R rfl rfl rfl) rfl fun a R => ?_
      refine omv R rfl rfl fun a R => ?_
      rcases ite_cases h with ⟨g82, h⟩ | ⟨g82, h⟩
      ·refine op_pass R rfl rfl rfl (nft g82) (fun a R => ?_) (by intro s hs; cases hs; rfl)
       refine op_pass R rfl rfl rfl (nft g82) (fun a R => ?_) (by intro s hs; cases hs; rfl)
       refine op_pass R rfl rfl rfl (nft g82) (fun a R => ?_) (by intro s hs; cases hs; rfl)
       refine op_pass R rfl rfl rfl (nft g82) (fun a R => ?_) (by intro s hs; cases hs; rfl)
       refine op_pass R rfl rfl rfl (nft g82) (fun a R => ?_) (by intro s hs; cases hs; rfl)
       refine op_pass R rfl rfl rfl (nft g82) (fun a R => ?_) (by intro s hs; cases hs; rfl)
       refine op_pass R rfl rfl rfl (nft g82) (fun a R => ?_) (by intro s hs; cases hs; rfl)
       refine op_val R (rn_pickT R rfl g82 rfl) rfl fun a R => ?_
       refine omv R rfl rfl fun a R => ?_
       refine op_pass R rfl rfl rfl (nft rfl) (fun a R => ?_) (by intro s hs; cases hs; rfl)
       refine op_pass R rfl rfl rfl (nft rfl) (fun a R => ?_) (by intro s hs; cases hs; rfl)
       refine op_pass R rfl rfl rfl (nft rfl) (fun a R => ?_) (by intro s hs; cases hs; rfl)
       refine op_pass R rfl rfl rfl (nft rfl) (fun a R => ?_) (by intro s hs; cases hs; rfl)
       refine op_pass R rfl rfl rfl (nft rfl) (fun a R => ?_) (by intro s hs; cases hs; rfl)
       refine op_pass R rfl rfl rfl (nft rfl) (fun a R => ?_) (by intro s hs; cases hs; rfl)
       refine op_val R (rn_pickT R rfl rfl rfl) rfl fun a R => ?_
       refine wpList_nil ?_
       refine then_normal ?_
       exact ⟨true, R.weak ⟨rfl, rfl, rfl, rfl, rfl, rfl, rfl, trivial⟩, h⟩
      ·refine op_guard R rfl rfl rfl g82 ?_
       refine omv R rfl rfl fun a R => ?_
       refine op_guard R rfl rfl rfl g82 ?_
       obtain ⟨b83, x98_84, p83, i83, j83, e83, h⟩ := ix_e h
       refine op_val (v := .pointer (some x98_84)) R (by rw [e83]; exact rn_ixs (x := (.tmp 97)) (y := (.const (.int .i64 0))) R rfl p83 rfl Tryd.underlying39 sz42 i83 j83) rfl fun a R => ?_
       refine op_guard R rfl rfl rfl g82 ?_
       refine ofd R rfl fd42_1 rfl fun a R => ?_
       refine op_guard R rfl rfl rfl g82 ?_
       obtain ⟨x100_85, cx100_85, h⟩ := h
       refine old R rfl Tryd.underlying29 rfl cx100_85 rfl fun a R => ?_
       refine op_guard R rfl rfl rfl g82 ?_
       refine op_val R (rn_len R rfl Tryd.underlying29) rfl fun a R => ?_
       refine op_guard R rfl rfl rfl g82 ?_
       refine omv R rfl rfl fun a R => ?_
       refine op_guard R rfl rfl rfl g82 ?_
       refine op_val R (rn_bin (v := .bool (((x100_85.len : Nat) : Int) != y6_11)) R rfl rfl rfl) rfl fun a R => ?_
       refine op_val R (rn_pickF R rfl g82 rfl) rfl fun a R => ?_
       refine omv R rfl rfl fun a R => ?_
       rcases ite_cases h with ⟨g88, h⟩ | ⟨g88, h⟩
       ·refine op_pass R rfl rfl rfl (nft g88) (fun a R => ?_) (by intro s hs; cases hs; rfl)
        refine op_pass R rfl rfl rfl (nft g88) (fun a R => ?_) (by intro s hs; cases hs; rfl)
        refine op_pass R rfl rfl rfl (nft g88) (fun a R => ?_) (by intro s hs; cases hs; rfl)
        refine op_pass R rfl rfl rfl (nft g88) (fun a R => ?_) (by intro s hs; cases hs; rfl)
        refine op_pass R rfl rfl rfl (nft g88) (fun a R => ?_) (by intro s hs; cases hs; rfl)
        refine op_pass R rfl rfl rfl (nft g88) (fun a R => ?_) (by intro s hs; cases hs; rfl)
        refine op_val R (rn_pickT R rfl g88 rfl) rfl fun a R => ?_
        refine wpList_nil ?_
        refine then_normal ?_
        exact ⟨true, R.weak ⟨rfl, rfl, rfl, rfl, rfl, rfl, rfl, trivial⟩, h⟩
       ·refine op_guard R rfl rfl rfl g88 ?_
        refine omv R rfl rfl fun a R => ?_
        refine op_guard R rfl rfl rfl g88 ?_
        obtain ⟨b89, x107_90, p89, i89, j89, e89, h⟩ := ix_e h
        refine op_val (v := .pointer (some x107_90)) R (by rw [e89]; exact rn_ixs (x := (.tmp 106)) (y := (.const (.int .i64 0))) R rfl p89 rfl Tryd.underlying39 sz42 i89 j89) rfl fun a R => ?_
        refine op_guard R rfl rfl rfl g88 ?_
        refine ofd R rfl fd42_2 rfl fun a R => ?_
        refine op_guard R rfl rfl rfl g88 ?_
        obtain ⟨x109_91, cx109_91, h⟩ := h
        refine old R rfl Tryd.underlying3 rfl cx109_91 rfl fun a R => ?_
        refine op_guard R rfl rfl rfl g88 ?_
        refine omv R rfl rfl fun a R => ?_
        refine op_guard R rfl rfl rfl g88 ?_
        refine op_val R (rn_bin (v := .bool (x109_91 != y6_11)) R rfl rfl rfl) rfl fun a R => ?_
        refine op_val R (rn_pickF R rfl g88 rfl) rfl fun a R => ?_
        refine wpList_nil ?_
        refine then_normal ?_
        exact ⟨(x109_91 != y6_11), R.weak ⟨rfl, rfl, rfl, rfl, rfl, rfl, rfl, trivial⟩, h⟩
     ·rintro a w ⟨y10_112, R, h⟩
      unfold levylaw19_DrawerCut.k10 at h
      rcases ite_cases h with ⟨g11, h⟩ | ⟨g11, h⟩
      ·refine wp_condT R (congrArg (fun b => some (Value.bool b)) g11) ?_
       refine wp_seq ?_
       refine wp_region_lit ?_
       refine oas R rfl rfl fun a R => ?_
       refine wpList_nil ?_
       refine then_normal ?_
       refine wp_ret ?_
       refine then_ret ?_
       exact post_ret R rfl rfl ⟨false, rfl, h⟩
      ·refine wp_condF R (congrArg (fun b => some (Value.bool b)) g11) ?_
       refine wp_skip ?_
       refine then_normal ?_
       refine seq_join (fun a w => ∃ y12_2 : Int, Rep a 199 [(2, .int .i64 y12_2), (3, .int .i64 x3), (9, .pointer x22_3_0), (10, Sl.val y6_10), (11, .int .i64 y6_11), (14, Sl.val x92_9_0)] [] ∧ levylaw19_DrawerCut.k12 x3 x22_3_0 y6_10 y6_11 x92_9_0 y12_2 Q w) ?_ ?_
       ·refine wp_seq ?_
        refine wp_region_lit ?_
        refine omv R rfl rfl fun a R => ?_
        refine op_val R (rn_bin (v := .bool (decide (x2 < 0))) R rfl rfl rfl) rfl fun a R => ?_
        refine wpList_nil ?_
        refine then_normal ?_
        rcases ite_cases h with ⟨g78, h⟩ | ⟨g78, h⟩
        ·refine wp_condT R (congrArg (fun b => some (Value.bool b)) g78) ?_
         refine wp_region_lit ?_
         refine omv R rfl rfl fun a R => ?_
         refine op_val R (rn_bin (v := .int .i64 (IntKind.i64.wrap (x2 + 1))) R rfl rfl rfl) rfl fun a R => ?_
         refine op_val R (rn_un (v := .int .i64 (IntKind.i64.wrap (0 - (IntKind.i64.wrap (x2 + 1))))) R rfl rfl) rfl fun a R => ?_
         refine oas R rfl rfl fun a R => ?_
         refine wpList_nil ?_
         refine then_normal ?_
         exact ⟨(IntKind.i64.wrap (0 - (IntKind.i64.wrap (x2 + 1)))), R.weak ⟨rfl, rfl, rfl, rfl, rfl, rfl, trivial⟩, h⟩
        ·refine wp_condF R (congrArg (fun b => some (Value.bool b)) g78) ?_
         refine wp_skip ?_
         refine then_normal ?_
         exact ⟨x2, R.weak ⟨rfl, rfl, rfl, rfl, rfl, rfl, trivial⟩, h⟩
       ·rintro a w ⟨y12_2, R, h⟩
        unfold levylaw19_DrawerCut.k12 at h
        refine wp_seq ?_
        refine wp_region_lit ?_
        refine omv R rfl rfl fun a R => ?_
        refine omv R rfl rfl fun a R => ?_
        obtain ⟨n13, h⟩ := h
        refine op_val R (rn_bin (v := .int .i64 (Int.tmod y12_2 y6_11)) R rfl rfl (bin_rem n13)) rfl fun a R => ?_
        refine oas R rfl rfl fun a R => ?_
        refine wpList_nil ?_
        refine then_normal ?_
        refine wp_seq ?_
        refine wp_region_lit ?_
        refine oas R rfl rfl fun a R => ?_
        refine wpList_nil ?_
        refine then_normal ?_
        refine seq_join (fun a w => ∃ y14_15 : Int, Rep a 199 [(2, .int .i64 (Int.tmod y12_2 y6_11)), (3, .int .i64 x3), (9, .pointer x22_3_0), (10, Sl.val y6_10), (14, Sl.val x92_9_0), (15, .int .i64 y14_15)] [] ∧ levylaw19_DrawerCut.k14 x3 x22_3_0 y6_10 y6_11 x92_9_0 y12_2 y14_15 Q w) ?_ ?_
        ·refine wp_block ?_
         refine wp_fix (σ := Int) (fun s a => Rep a 199 [(2, .int .i64 (Int.tmod y12_2 y6_11)), (3, .int .i64 x3), (9, .pointer x22_3_0), (10, Sl.val y6_10), (14, Sl.val x92_9_0), (15, .int .i64 s)] []) h (R.weak ⟨rfl, rfl, rfl, rfl, rfl, rfl, trivial⟩) ?_
         rintro Ks C z66_15 a w hC R h
         have R : Rep a 199 [(2, .int .i64 (Int.tmod y12_2 y6_11)), (3, .int .i64 x3), (9, .pointer x22_3_0), (10, Sl.val y6_10), (14, Sl.val x92_9_0), (15, .int .i64 z66_15)] [] := R
         have h : levylaw19_DrawerCut.l66 x3 x22_3_0 y6_10 y6_11 x92_9_0 y12_2 z66_15 Q (fun z66_15 w => Ks z66_15 w) w := h
         generalize hK66 : (fun z66_15 w => Ks z66_15 w) = K66 at h
         unfold levylaw19_DrawerCut.l66 at h
         refine wp_seq ?_
         refine seq_join (fun a w => ∃ y67_132 : Bool, Rep a 199 [(2, .int .i64 (Int.tmod y12_2 y6_11)), (3, .int .i64 x3), (9, .pointer x22_3_0), (10, Sl.val y6_10), (14, Sl.val x92_9_0), (15, .int .i64 z66_15), (132, .bool y67_132)] [] ∧ levylaw19_DrawerCut.k67 x3 x22_3_0 y6_10 y6_11 x92_9_0 y12_2 z66_15 K66 y67_132 Q w) ?_ ?_
         ·refine wp_region_lit ?_
          refine omv R rfl rfl fun a R => ?_
          refine omv R rfl rfl fun a R => ?_
          refine op_val R (rn_len R rfl Tryd.underlying33) rfl fun a R => ?_
          refine op_val R (rn_bin (v := .bool (decide (z66_15 < ((y6_10.len : Nat) : Int)))) R rfl rfl rfl) rfl fun a R => ?_
          refine omv R rfl rfl fun a R => ?_
          rcases ite_cases h with ⟨g72, h⟩ | ⟨g72, h⟩
          ·refine op_guard R rfl rfl rfl g72 ?_
           refine omv R rfl rfl fun a R => ?_
           refine op_guard R rfl rfl rfl g72 ?_
           refine omv R rfl rfl fun a R => ?_
           refine op_guard R rfl rfl rfl g72 ?_
           obtain ⟨b73, x128_74, p73, i73, j73, e73, h⟩ := ix_e h
           refine op_val (v := .pointer (some x128_74)) R (by rw [e73]; exact rn_ixs (x := (.tmp 126)) (y := (.tmp 127)) R rfl p73 rfl Tryd.underlying33 sz3 i73 j73) rfl fun a R => ?_
           refine op_guard R rfl rfl rfl g72 ?_
           obtain ⟨x129_75, cx129_75, h⟩ := h
           refine old R rfl Tryd.underlying3 rfl cx129_75 rfl fun a R => ?_
           refine op_guard R rfl rfl rfl g72 ?_
           refine omv R rfl rfl fun a R => ?_
           refine op_guard R rfl rfl rfl g72 ?_
           refine op_val R (rn_bin (v := .bool (decide (x129_75 ≤ (Int.tmod y12_2 y6_11)))) R rfl rfl rfl) rfl fun a R => ?_
           refine op_val R (rn_pickT R rfl g72 rfl) rfl fun a R => ?_
           refine wpList_nil ?_
           refine then_normal ?_
           exact ⟨(decide (x129_75 ≤ (Int.tmod y12_2 y6_11))), R.weak ⟨rfl, rfl, rfl, rfl, rfl, rfl, rfl, trivial⟩, h⟩
          ·refine op_pass R rfl rfl rfl (ntf g72) (fun a R => ?_) (by intro s hs; cases hs; rfl)
           refine op_pass R rfl rfl rfl (ntf g72) (fun a R => ?_) (by intro s hs; cases hs; rfl)
           refine op_pass R rfl rfl rfl (ntf g72) (fun a R => ?_) (by intro s hs; cases hs; rfl)
           refine op_pass R rfl rfl rfl (ntf g72) (fun a R => ?_) (by intro s hs; cases hs; rfl)
           refine op_pass R rfl rfl rfl (ntf g72) (fun a R => ?_) (by intro s hs; cases hs; rfl)
           refine op_pass R rfl rfl rfl (ntf g72) (fun a R => ?_) (by intro s hs; cases hs; rfl)
           refine op_val R (rn_pickF R rfl g72 rfl) rfl fun a R => ?_
           refine wpList_nil ?_
           refine then_normal ?_
           exact ⟨false, R.weak ⟨rfl, rfl, rfl, rfl, rfl, rfl, rfl, trivial⟩, h⟩
         ·rintro a w ⟨y67_132, R, h⟩
          unfold levylaw19_DrawerCut.k67 at h
          rcases ite_cases h with ⟨g68, h⟩ | ⟨g68, h⟩
          ·refine wp_condT R (congrArg (fun b => some (Value.bool b)) g68) ?_
           refine wp_skip ?_
           refine then_normal ?_
           refine wp_block ?_
           refine wp_region_lit ?_
           refine omv R rfl rfl fun a R => ?_
           refine op_val R (rn_bin (v := .int .i64 (IntKind.i64.wrap (z66_15 + 1))) R rfl rfl rfl) rfl fun a R => ?_
           refine oas R rfl rfl fun a R => ?_
           refine wpList_nil ?_
           refine block_normal ?_
           refine then_normal ?_
           exact hC (IntKind.i64.wrap (z66_15 + 1)) _ _ (R.weak ⟨rfl, rfl, rfl, rfl, rfl, rfl, trivial⟩) (by rw [← hK66] at h; exact h)
          ·refine wp_condF R (congrArg (fun b => some (Value.bool b)) g68) ?_
           refine wp_exit ?_
           refine then_exit ?_
           refine then_exit ?_
           refine block_eq ?_
           refine then_normal ?_
           exact ⟨z66_15, R.weak ⟨rfl, rfl, rfl, rfl, rfl, rfl, trivial⟩, h⟩
        ·rintro a w ⟨y14_15, R, h⟩
         unfold levylaw19_DrawerCut.k14 at h
         refine wp_seq ?_
         refine wp_region_lit ?_
         refine omv R rfl rfl fun a R => ?_
         obtain ⟨b15, x136_16, p15, i15, j15, e15, h⟩ := ix_e h
         refine op_val (v := .pointer (some x136_16)) R (by rw [e15]; exact rn_ixs (x := (.tmp 135)) (y := (.const (.int .i64 0))) R rfl p15 rfl Tryd.underlying39 sz42 i15 j15) rfl fun a R => ?_
         refine ofd R rfl fd42_1 rfl fun a R => ?_
         obtain ⟨x138_17, cx138_17, h⟩ := h
         refine old R rfl Tryd.underlying29 rfl cx138_17 rfl fun a R => ?_
         refine omv R rfl rfl fun a R => ?_
         obtain ⟨s18_0, s18_1, h⟩ := h
         refine op_val R (rn_sl R rfl rfl (evo R rfl) rfl (fun w => bounds2 (lo := none) (hi := (some (.i64, (Int.tmod y12_2 y6_11)))) 0 (Int.toNat (Int.tmod y12_2 y6_11)) ⟨s18_0, s18_1, rfl⟩ rfl w) Tryd.underlying29 sz5) rfl fun a R => ?_
         obtain ⟨x141_20, w19, cx141_20, h⟩ := h
         refine op_val R (rn_bi (vs := [.slice none 0 0, Sl.val (cutSl ⟨x138_17.p, x138_17.len, x138_17.cap⟩ 1 0 (Int.toNat (Int.tmod y12_2 y6_11)) x138_17.cap)]) R rfl (fun _ => rfl) cx141_20) rfl fun a R => ?_
         refine oas R rfl rfl fun a R => ?_
         refine wpList_nil ?_
         refine then_normal ?_
         refine wp_seq ?_
         refine wp_seq ?_
         refine wp_region_lit ?_
         refine omv R rfl rfl fun a R => ?_
         refine omv R rfl rfl fun a R => ?_
         obtain ⟨b21, x144_22, p21, i21, j21, e21, h⟩ := ix_e h
         refine op_val (v := .pointer (some x144_22)) R (by rw [e21]; exact rn_ixs (x := (.tmp 143)) (y := (.const (.int .i64 0))) R rfl p21 rfl Tryd.underlying39 sz42 i21 j21) rfl fun a R => ?_
         refine ofd R rfl fd42_0 rfl fun a R => ?_
         obtain ⟨x146_23, cx146_23, h⟩ := h
         refine old R rfl Tryd.underlying9 rfl cx146_23 rfl fun a R => ?_
         refine omv R rfl rfl fun a R => ?_
         refine omv R rfl rfl fun a R => ?_
         refine omv R rfl rfl fun a R => ?_
         refine op_val R (rn_bin (v := .bool (decide ((Int.tmod y12_2 y6_11) < 18))) R rfl rfl rfl) rfl fun a R => ?_
         refine op_call R (rn_calls R rfl cf12) rfl ?_
         refine call_mono (s_levylaw19_world_stands _ _ _ _ _ _ _ h) ?_
         rintro _ w65 ⟨x151_25_0, rfl, h⟩ a R
         refine op_val R (rn_un (v := .bool (!x151_25_0)) R rfl rfl) rfl fun a R => ?_
         refine wpList_nil ?_
         refine then_normal ?_
         rcases ite_cases h with ⟨g26, h⟩ | ⟨g26, h⟩
         ·refine wp_condF R (congrArg (fun b => some (Value.bool b)) (nf g26)) ?_
          refine wp_skip ?_
          refine then_normal ?_
          refine wp_seq ?_
          refine wp_region_lit ?_
          refine oas R rfl rfl fun a R => ?_
          refine wpList_nil ?_
          refine then_normal ?_
          refine seq_join (fun a w => ∃ y27_17 : Int, Rep a 199 [(2, .int .i64 (Int.tmod y12_2 y6_11)), (3, .int .i64 x3), (9, .pointer x22_3_0), (10, Sl.val y6_10), (14, Sl.val x92_9_0), (15, .int .i64 y14_15), (17, .int .i64 y27_17)] [] ∧ levylaw19_DrawerCut.k27 x3 x22_3_0 y6_10 y6_11 x92_9_0 y12_2 y14_15 y27_17 Q w) ?_ ?_
          ·refine wp_seq ?_
           refine wp_region_lit ?_
           refine omv R rfl rfl fun a R => ?_
           refine op_val R (rn_bin (v := .bool (decide ((Int.tmod y12_2 y6_11) ≥ 18))) R rfl rfl rfl) rfl fun a R => ?_
           refine wpList_nil ?_
           refine then_normal ?_
           rcases ite_cases h with ⟨g64, h⟩ | ⟨g64, h⟩
           ·refine wp_condT R (congrArg (fun b => some (Value.bool b)) g64) ?_
            refine wp_region_lit ?_
            refine oas R rfl rfl fun a R => ?_
            refine wpList_nil ?_
            refine then_normal ?_
            exact ⟨18, R.weak ⟨rfl, rfl, rfl, rfl, rfl, rfl, rfl, trivial⟩, h⟩
           ·refine wp_condF R (congrArg (fun b => some (Value.bool b)) g64) ?_
            refine wp_skip ?_
            refine then_normal ?_
            exact ⟨0, R.weak ⟨rfl, rfl, rfl, rfl, rfl, rfl, rfl, trivial⟩, h⟩
          ·rintro a w ⟨y27_17, R, h⟩
           unfold levylaw19_DrawerCut.k27 at h
           refine seq_join (fun a w => ∃ y28_17 : Int, Rep a 199 [(2, .int .i64 (Int.tmod y12_2 y6_11)), (3, .int .i64 x3), (9, .pointer x22_3_0), (14, Sl.val x92_9_0), (15, .int .i64 y14_15), (17, .int .i64 y28_17)] [] ∧ levylaw19_DrawerCut.k28 x3 x22_3_0 y6_11 x92_9_0 y12_2 y14_15 y28_17 Q w) ?_ ?_
           ·refine wp_seq ?_
            refine wp_region_lit ?_
            refine omv R rfl rfl fun a R => ?_
            refine op_val R (rn_bin (v := .bool (decide (y14_15 > 0))) R rfl rfl rfl) rfl fun a R => ?_
            refine wpList_nil ?_
            refine then_normal ?_
            rcases ite_cases h with ⟨g58, h⟩ | ⟨g58, h⟩
            ·refine wp_condT R (congrArg (fun b => some (Value.bool b)) g58) ?_
             refine wp_region_lit ?_
             refine omv R rfl rfl fun a R => ?_
             refine omv R rfl rfl fun a R => ?_
             refine op_val R (rn_bin (v := .int .i64 (IntKind.i64.wrap (y14_15 - 1))) R rfl rfl rfl) rfl fun a R => ?_
             obtain ⟨b60, x160_61, p60, i60, j60, e60, h⟩ := ix_e h
             refine op_val (v := .pointer (some x160_61)) R (by rw [e60]; exact rn_ixs (x := (.tmp 157)) (y := (.tmp 159)) R rfl p60 rfl Tryd.underlying33 sz3 i60 j60) rfl fun a R => ?_
             obtain ⟨x161_62, cx161_62, h⟩ := h
             refine old R rfl Tryd.underlying3 rfl cx161_62 rfl fun a R => ?_
             refine oas R rfl rfl fun a R => ?_
             refine wpList_nil ?_
             refine then_normal ?_
             exact ⟨x161_62, R.weak ⟨rfl, rfl, rfl, rfl, rfl, rfl, trivial⟩, h⟩
            ·refine wp_condF R (congrArg (fun b => some (Value.bool b)) g58) ?_
             refine wp_skip ?_
             refine then_normal ?_
             exact ⟨y27_17, R.weak ⟨rfl, rfl, rfl, rfl, rfl, rfl, trivial⟩, h⟩
           ·rintro a w ⟨y28_17, R, h⟩
            unfold levylaw19_DrawerCut.k28 at h
            refine wp_seq ?_
            refine seq_join (fun a w => ∃ y29_171 : Bool, Rep a 199 [(2, .int .i64 (Int.tmod y12_2 y6_11)), (3, .int .i64 x3), (9, .pointer x22_3_0), (14, Sl.val x92_9_0), (15, .int .i64 y14_15), (171, .bool y29_171)] [] ∧ levylaw19_DrawerCut.k29 x3 x22_3_0 y6_11 x92_9_0 y12_2 y14_15 y29_171 Q w) ?_ ?_
            ·refine wp_region_lit ?_
             refine omv R rfl rfl fun a R => ?_
             refine omv R rfl rfl fun a R => ?_
             refine op_val R (rn_bin (v := .int .i64 (IntKind.i64.wrap ((Int.tmod y12_2 y6_11) - y28_17))) R rfl rfl rfl) rfl fun a R => ?_
             refine op_val R (rn_bin (v := .bool (decide ((IntKind.i64.wrap ((Int.tmod y12_2 y6_11) - y28_17)) ≥ 9))) R rfl rfl rfl) rfl fun a R => ?_
             refine omv R rfl rfl fun a R => ?_
             rcases ite_cases h with ⟨g54, h⟩ | ⟨g54, h⟩
             ·refine op_guard R rfl rfl rfl g54 ?_
              refine omv R rfl rfl fun a R => ?_
              refine op_guard R rfl rfl rfl g54 ?_
              refine omv R rfl rfl fun a R => ?_
              refine op_guard R rfl rfl rfl g54 ?_
              refine op_val R (rn_bin (v := .int .i64 (IntKind.i64.wrap ((Int.tmod y12_2 y6_11) - y28_17))) R rfl rfl rfl) rfl fun a R => ?_
              refine op_guard R rfl rfl rfl g54 ?_
              refine op_val R (rn_bin (v := .bool (decide ((IntKind.i64.wrap ((Int.tmod y12_2 y6_11) - y28_17)) < 13))) R rfl rfl rfl) rfl fun a R => ?_
              refine op_val R (rn_pickT R rfl g54 rfl) rfl fun a R => ?_
              refine wpList_nil ?_
              refine then_normal ?_
              exact ⟨(decide ((IntKind.i64.wrap ((Int.tmod y12_2 y6_11) - y28_17)) < 13)), R.weak ⟨rfl, rfl, rfl, rfl, rfl, rfl, trivial⟩, h⟩
             ·refine op_pass R rfl rfl rfl (ntf g54) (fun a R => ?_) (by intro s hs; cases hs; rfl)
              refine op_pass R rfl rfl rfl (ntf g54) (fun a R => ?_) (by intro s hs; cases hs; rfl)
              refine op_pass R rfl rfl rfl (ntf g54) (fun a R => ?_) (by intro s hs; cases hs; rfl)
              refine op_pass R rfl rfl rfl (ntf g54) (fun a R => ?_) (by intro s hs; cases hs; rfl)
              refine op_val R (rn_pickF R rfl g54 rfl) rfl fun a R => ?_
              refine wpList_nil ?_
              refine then_normal ?_
              exact ⟨false, R.weak ⟨rfl, rfl, rfl, rfl, rfl, rfl, trivial⟩, h⟩
            ·rintro a w ⟨y29_171, R, h⟩
             unfold levylaw19_DrawerCut.k29 at h
             rcases ite_cases h with ⟨g30, h⟩ | ⟨g30, h⟩
             ·refine wp_condT R (congrArg (fun b => some (Value.bool b)) g30) ?_
              refine wp_seq ?_
              refine wp_region_lit ?_
              refine oas R rfl rfl fun a R => ?_
              refine wpList_nil ?_
              refine then_normal ?_
              refine wp_ret ?_
              refine then_ret ?_
              exact post_ret R rfl rfl ⟨true, rfl, h⟩
             ·refine wp_condF R (congrArg (fun b => some (Value.bool b)) g30) ?_
              refine wp_skip ?_
              refine then_normal ?_
              refine wp_seq ?_
              refine wp_region_lit ?_
              refine omv R rfl rfl fun a R => ?_
              obtain ⟨b31, x173_32, p31, i31, j31, e31, h⟩ := ix_e h
              refine op_val (v := .pointer (some x173_32)) R (by rw [e31]; exact rn_ixs (x := (.tmp 172)) (y := (.const (.int .i64 0))) R rfl p31 rfl Tryd.underlying39 sz42 i31 j31) rfl fun a R => ?_
              refine ofd R rfl fd42_1 rfl fun a R => ?_
              obtain ⟨x175_33, cx175_33, h⟩ := h
              refine old R rfl Tryd.underlying29 rfl cx175_33 rfl fun a R => ?_
              obtain ⟨x176_35, w34, cx176_35, h⟩ := h
              refine op_val R (rn_bi (vs := [.slice none 0 0, Sl.val x175_33]) R rfl (fun _ => rfl) cx176_35) rfl fun a R => ?_
              refine oas R rfl rfl fun a R => ?_
              refine wpList_nil ?_
              refine then_normal ?_
              refine wp_seq ?_
              refine region_start mo fun inv => ?_
              obtain ⟨b36, x181_37, p36, i36, j36, e36, h⟩ := ix_e h
              obtain ⟨x182_38, cx182_38, h⟩ := h
              refine seg_held (n := 11) (f := 11) (g := 2) (fun w : World => w.cell? x181_37 = some (.int .u8 x182_38) ∧ True) (by kernel_rfl) fun inv => ?_
              have hS0 : (fun w : World => w.cell? x181_37 = some (.int .u8 x182_38) ∧ True) _ := ⟨cx182_38, trivial⟩
              refine dr_val (i := 0) R (waits_dom (by kernel_rfl) (by kernel_rfl)) (by kernel_rfl) inv rfl (by decide) (by kernel_rfl) (by kernel_rfl) (fun _ _ _ h => h) wanted_none (fun w' hS => rn_mv R rfl) hS0 rfl fun inv a R => ?_
              refine dr_val (i := 1) R (waits_dom (by kernel_rfl) (by kernel_rfl)) (by kernel_rfl) inv rfl (by decide) (by kernel_rfl) (by kernel_rfl) (fun _ _ _ h => h) wanted_none (fun w' hS => rn_mv R rfl) hS0 rfl fun inv a R => ?_
              refine dr_val (i := 2) R (waits_dom (by kernel_rfl) (by kernel_rfl)) (by kernel_rfl) inv rfl (by decide) (by kernel_rfl) (by kernel_rfl) (fun _ _ _ h => h) wanted_none (fun w' hS => rn_mv R rfl) hS0 rfl fun inv a R => ?_
              refine dr_val (i := 3) R (waits_dom (by kernel_rfl) (by kernel_rfl)) (by kernel_rfl) inv rfl (by decide) (by kernel_rfl) (by kernel_rfl) (fun _ _ _ h => h) wanted_none (fun w' hS => rn_mv R rfl) hS0 rfl fun inv a R => ?_
              refine dr_val (v := .pointer (some x181_37)) (i := 4) R (waits_dom (by kernel_rfl) (by kernel_rfl)) (by kernel_rfl) inv rfl (by decide) (by kernel_rfl) (by kernel_rfl) (fun _ _ _ h => h) wanted_none (fun w' hS => by rw [e36]; exact rn_ixs (x := (.tmp 179)) (y := (.tmp 180)) R rfl p36 rfl Tryd.underlying29 sz5 i36 j36) hS0 rfl fun inv a R => ?_
              refine dr_val (i := 5) R (waits_dom (by kernel_rfl) (by kernel_rfl)) (by kernel_rfl) inv rfl (by decide) (by kernel_rfl) (by kernel_rfl) (fun _ _ _ h => h) wanted_none (fun w' hS => rn_ld R rfl Tryd.underlying5 rfl (hS.1)) hS0 rfl fun inv a R => ?_
              refine dr_val (i := 6) R (waits_dom (by kernel_rfl) (by kernel_rfl)) (by kernel_rfl) inv rfl (by decide) (by kernel_rfl) (by kernel_rfl) (fun _ _ _ h => h) wanted_none (fun w' hS => rn_mv R rfl) hS0 rfl fun inv a R => ?_
              refine dr_call (i := 7) R inv rfl (by decide) (by kernel_rfl) wanted_none (rn_calls R rfl cf13) rfl ?_
              refine call_mono (s_levylaw19_place _ _ _ _ h) ?_
              rintro _ w51 ⟨x184_39_0, rfl, hS0, h⟩
              refine ⟨hS0, fun a inv R => ?_⟩
              refine dr_val (i := 8) R (waits_dom (by kernel_rfl) (by kernel_rfl)) (by kernel_rfl) inv rfl (by decide) (by kernel_rfl) (by kernel_rfl) (fun _ _ _ h => h) wanted_none (fun w' hS => rn_bin (v := .int .i64 (IntKind.i64.wrap (1 + x184_39_0))) R rfl rfl rfl) hS0 rfl fun inv a R => ?_
              refine dr_val (i := 9) R (waits_dom (by kernel_rfl) (by kernel_rfl)) (by kernel_rfl) inv rfl (by decide) (by kernel_rfl) (by kernel_rfl) (fun _ _ _ h => h) wanted_none (fun w' hS => rn_cvI R rfl Tryd.underlying3 Tryd.underlying5) hS0 rfl fun inv a R => ?_
              refine dr_val (i := 10) R (waits_dom (by kernel_rfl) (by kernel_rfl)) (by kernel_rfl) inv rfl (by decide) (by kernel_rfl) (by kernel_rfl) (fun _ _ _ h => h) wanted_none (fun w' hS => rn_bin (v := .int .u8 (IntKind.u8.wrap (x182_38 + (IntKind.u8.wrap (IntKind.i64.wrap (1 + x184_39_0)))))) R rfl rfl rfl) hS0 rfl fun inv a R => ?_
              refine seg_end (by kernel_rfl) ?_
              refine any_tail 11 (by kernel_rfl) ?_
              obtain ⟨b42, x188_43, p42, i42, j42, e42, h⟩ := ix_e h
              refine op_val (v := .pointer (some x188_43)) R (by rw [e42]; exact rn_ixs (x := (.tmp 177)) (y := (.tmp 178)) R rfl p42 rfl Tryd.underlying29 sz5 i42 j42) rfl fun a R => ?_
              obtain ⟨q44, f44, h⟩ := h
              refine op_unit R (rn_st R rfl rfl rfl sz5 q44 f44) fun a R => ?_
              refine wpList_nil ?_
              refine then_normal ?_
              refine wp_seq ?_
              refine wp_region_lit ?_
              refine omv R rfl rfl fun a R => ?_
              refine omv R rfl rfl fun a R => ?_
              obtain ⟨b45, x191_46, p45, i45, j45, e45, h⟩ := ix_e h
              refine op_val (v := .pointer (some x191_46)) R (by rw [e45]; exact rn_ixs (x := (.tmp 190)) (y := (.const (.int .i64 0))) R rfl p45 rfl Tryd.underlying39 sz42 i45 j45) rfl fun a R => ?_
              refine ofd R rfl fd42_0 rfl fun a R => ?_
              obtain ⟨x193_47, cx193_47, h⟩ := h
              refine old R rfl Tryd.underlying9 rfl cx193_47 rfl fun a R => ?_
              refine omv R rfl rfl fun a R => ?_
              refine omv R rfl rfl fun a R => ?_
              refine omv R rfl rfl fun a R => ?_
              refine op_val R (rn_bin (v := .bool (decide ((Int.tmod y12_2 y6_11) < 18))) R rfl rfl rfl) rfl fun a R => ?_
              refine op_call R (rn_calls R rfl cf12) rfl ?_
              refine call_mono (s_levylaw19_world_stands _ _ _ _ _ _ _ h) ?_
              rintro _ w50 ⟨x198_49_0, rfl, h⟩ a R
              refine oas R rfl rfl fun a R => ?_
              refine wpList_nil ?_
              refine then_normal ?_
              refine wp_ret ?_
              exact post_ret R rfl rfl ⟨x198_49_0, rfl, h⟩
         ·refine wp_condT R (congrArg (fun b => some (Value.bool b)) (nt g26)) ?_
          refine wp_seq ?_
          refine wp_region_lit ?_
          refine oas R rfl rfl fun a R => ?_
          refine wpList_nil ?_
          refine then_normal ?_
          refine wp_ret ?_
          refine then_ret ?_
          exact post_ret R rfl rfl ⟨false, rfl, h⟩
 ·refine wp_condT R (congrArg (fun b => some (Value.bool b)) (nt g2)) ?_
  refine wp_seq ?_
  refine wp_region_lit ?_
  refine oas R rfl rfl fun a R => ?_
  refine wpList_nil ?_
  refine then_normal ?_
  refine wp_ret ?_
  refine then_ret ?_
  exact post_ret R rfl rfl ⟨false, rfl, h⟩
theorem s_levylaw19_DrawerCut (x0 : Int) (x1 : Sl) (x2 : Int) (x3 : Int) (Q : Bool → World → Prop) (w : World) (h : levylaw19_DrawerCut x0 x1 x2 x3 Q w) :
    Calls Tryd.prog 3 #[.int .u32 x0, Sl.val x1, .int .i64 x2, .int .i64 x3] w (Rets fun v w => ∃ r0 : Bool, v = (.bool r0 : Value) ∧ Q r0 w) :=
  calls_body (args := [.int .u32 x0, Sl.val x1, .int .i64 x2, .int .i64 x3]) Tryd.func3 rfl rfl (Nat.le_of_ble_eq_true rfl) (L := [(0, .int .u32 x0), (1, Sl.val x1), (2, .int .i64 x2), (3, .int .i64 x3)]) (by simp [starts]) (b_levylaw19_DrawerCut x0 x1 x2 x3 Q w h rfl)

/-! (drawer.Disk).Fail -/

def drawer_Disk_Fail.k8 (x0 : Option Addr) (y8_23 : Bool) (Q : World → Prop) (w : World) : Prop :=
  (if y8_23 = true then nn x0 fun x26_10 => st w (x26_10.add 4) (.int .i64 0) fun w => nn x0 fun x28_12 => st w (x28_12.add 5) (.int .i64 0) fun w => Q  w else Q  w)

def drawer_Disk_Fail (x0 : Option Addr) (x1 : Int) (x2 : Int) (Q : World → Prop) (w : World) : Prop :=
  nn x0 fun x7_1 => ld Value.bool w (x7_1.add 1) fun x9_2 => (if x9_2 = true then Q  w else nn x0 fun x14_4 => st w (x14_4.add 4) (.int .i64 x1) fun w => nn x0 fun x16_6 => st w (x16_6.add 5) (.int .i64 x2) fun w => (if (decide (x1 < 0)) = true then drawer_Disk_Fail.k8 x0 true Q w else drawer_Disk_Fail.k8 x0 (decide (x2 ≤ 0)) Q w))

theorem b_drawer_Disk_Fail (x0 : Option Addr) (x1 : Int) (x2 : Int) (Q : World → Prop) (w : World) (h : drawer_Disk_Fail x0 x1 x2 Q w) {c : Code} (hb : Tryd.f15.body = some c) :
 ∀ a, Rep a 30 [(0, .pointer x0), (1, .int .i64 x1), (2, .int .i64 x2)] [] → c.wp Tryd.prog (bodyPost Tryd.prog Tryd.f15 (Rets fun v w => v = (.tuple #[] : Value) ∧ Q w)) a w := by
 intro a R
 obtain rfl := Option.some.inj hb
 unfold drawer_Disk_Fail at h
 refine wp_seq ?_
 refine wp_seq ?_
 refine wp_region_lit ?_
 refine omv R rfl rfl fun a R => ?_
 obtain ⟨x7_1, cx7_1, h⟩ := h
 refine onl R rfl cx7_1 rfl fun a R => ?_
 refine ofd R rfl fd75_1 rfl fun a R => ?_
 obtain ⟨x9_2, cx9_2, h⟩ := h
 refine old R rfl Tryd.underlying4 rfl cx9_2 rfl fun a R => ?_
 refine wpList_nil ?_
 refine then_normal ?_
 rcases ite_cases h with ⟨g3, h⟩ | ⟨g3, h⟩
 ·refine wp_condT R (congrArg (fun b => some (Value.bool b)) g3) ?_
  refine wp_ret ?_
  refine then_ret ?_
  exact post_ret R rfl rfl ⟨rfl, h⟩
 ·refine wp_condF R (congrArg (fun b => some (Value.bool b)) g3) ?_
  refine wp_skip ?_
  refine then_normal ?_
  refine wp_seq ?_
  refine wp_region_lit ?_
  refine omv R rfl rfl fun a R => ?_
  refine omv R rfl rfl fun a R => ?_
  refine omv R rfl rfl fun a R => ?_
  refine omv R rfl rfl fun a R => ?_
  obtain ⟨x14_4, cx14_4, h⟩ := h
  refine onl R rfl cx14_4 rfl fun a R => ?_
  refine ofd R rfl fd75_4 rfl fun a R => ?_
  obtain ⟨q5, f5, h⟩ := h
  refine op_unit R (rn_st R rfl rfl rfl sz3 q5 f5) fun a R => ?_
  obtain ⟨x16_6, cx16_6, h⟩ := h
  refine onl R rfl cx16_6 rfl fun a R => ?_
  refine ofd R rfl fd75_5 rfl fun a R => ?_
  obtain ⟨q7, f7, h⟩ := h
  refine op_unit R (rn_st R rfl rfl rfl sz3 q7 f7) fun a R => ?_
  refine wpList_nil ?_
  refine then_normal ?_
  refine seq_join (fun a w => ∃ y8_23 : Bool, Rep a 30 [(0, .pointer x0), (23, .bool y8_23)] [] ∧ drawer_Disk_Fail.k8 x0 y8_23 Q w) ?_ ?_
  ·refine wp_region_lit ?_
   refine omv R rfl rfl fun a R => ?_
   refine op_val R (rn_bin (v := .bool (decide (x1 < 0))) R rfl rfl rfl) rfl fun a R => ?_
   refine omv R rfl rfl fun a R => ?_
   rcases ite_cases h with ⟨g15, h⟩ | ⟨g15, h⟩
   ·refine op_pass R rfl rfl rfl (nft g15) (fun a R => ?_) (by intro s hs; cases hs; rfl)
    refine op_pass R rfl rfl rfl (nft g15) (fun a R => ?_) (by intro s hs; cases hs; rfl)
    refine op_val R (rn_pickT R rfl g15 rfl) rfl fun a R => ?_
    refine wpList_nil ?_
    refine then_normal ?_
    exact ⟨true, R.weak ⟨rfl, rfl, trivial⟩, h⟩
   ·refine op_guard R rfl rfl rfl g15 ?_
    refine omv R rfl rfl fun a R => ?_
    refine op_guard R rfl rfl rfl g15 ?_
    refine op_val R (rn_bin (v := .bool (decide (x2 ≤ 0))) R rfl rfl rfl) rfl fun a R => ?_
    refine op_val R (rn_pickF R rfl g15 rfl) rfl fun a R => ?_
    refine wpList_nil ?_
    refine then_normal ?_
    exact ⟨(decide (x2 ≤ 0)), R.weak ⟨rfl, rfl, trivial⟩, h⟩
  ·rintro a w ⟨y8_23, R, h⟩
   unfold drawer_Disk_Fail.k8 at h
   rcases ite_cases h with ⟨g9, h⟩ | ⟨g9, h⟩
   ·refine wp_condT R (congrArg (fun b => some (Value.bool b)) g9) ?_
    refine wp_region_lit ?_
    refine omv R rfl rfl fun a R => ?_
    refine omv R rfl rfl fun a R => ?_
    obtain ⟨x26_10, cx26_10, h⟩ := h
    refine onl R rfl cx26_10 rfl fun a R => ?_
    refine ofd R rfl fd75_4 rfl fun a R => ?_
    obtain ⟨q11, f11, h⟩ := h
    refine op_unit R (rn_st R rfl rfl rfl sz3 q11 f11) fun a R => ?_
    obtain ⟨x28_12, cx28_12, h⟩ := h
    refine onl R rfl cx28_12 rfl fun a R => ?_
    refine ofd R rfl fd75_5 rfl fun a R => ?_
    obtain ⟨q13, f13, h⟩ := h
    refine op_unit R (rn_st R rfl rfl rfl sz3 q13 f13) fun a R => ?_
    refine wpList_nil ?_
    exact post_end R rfl rfl ⟨rfl, h⟩
   ·refine wp_condF R (congrArg (fun b => some (Value.bool b)) g9) ?_
    refine wp_skip ?_
    exact post_end R rfl rfl ⟨rfl, h⟩
theorem s_drawer_Disk_Fail (x0 : Option Addr) (x1 : Int) (x2 : Int) (Q : World → Prop) (w : World) (h : drawer_Disk_Fail x0 x1 x2 Q w) :
    Calls Tryd.prog 15 #[.pointer x0, .int .i64 x1, .int .i64 x2] w (Rets fun v w => v = (.tuple #[] : Value) ∧ Q w) :=
  calls_body (args := [.pointer x0, .int .i64 x1, .int .i64 x2]) Tryd.func15 rfl rfl (Nat.le_of_ble_eq_true rfl) (L := [(0, .pointer x0), (1, .int .i64 x1), (2, .int .i64 x2)]) (by simp [starts]) (b_drawer_Disk_Fail x0 x1 x2 Q w h rfl)

/-! levylaw19.DrawerCost -/

def levylaw19_DrawerCost.k7  (Q : Bool → World → Prop) (w : World) : Prop :=
  Q true w

def levylaw19_DrawerCost.k29 (x0 : Int) (x1 : Int) (y3_2 : Sl) (z8_8 : Int) (K8 : Int → World → Prop) (x96_26_0 : Int) (y29_12 : Int) (Q : Bool → World → Prop) (w : World) : Prop :=
  (if (x96_26_0 != y29_12) = true then Q false w else K8 (IntKind.i64.wrap (z8_8 + 1)) w)

def levylaw19_DrawerCost.k28 (x0 : Int) (x1 : Int) (y3_2 : Sl) (z8_8 : Int) (K8 : Int → World → Prop) (x96_26_0 : Int) (y28_12 : Int) (Q : Bool → World → Prop) (w : World) : Prop :=
  (if (z8_8 == 3) = true then levylaw19_DrawerCost.k29 x0 x1 y3_2 z8_8 K8 x96_26_0 191 Q w else levylaw19_DrawerCost.k29 x0 x1 y3_2 z8_8 K8 x96_26_0 y28_12 Q w)

def levylaw19_DrawerCost.k27 (x0 : Int) (x1 : Int) (y3_2 : Sl) (z8_8 : Int) (K8 : Int → World → Prop) (x96_26_0 : Int) (y27_12 : Int) (Q : Bool → World → Prop) (w : World) : Prop :=
  (if (z8_8 == 2) = true then levylaw19_DrawerCost.k28 x0 x1 y3_2 z8_8 K8 x96_26_0 196 Q w else levylaw19_DrawerCost.k28 x0 x1 y3_2 z8_8 K8 x96_26_0 y27_12 Q w)

def levylaw19_DrawerCost.k21 (x0 : Int) (x1 : Int) (y3_2 : Sl) (z8_8 : Int) (K8 : Int → World → Prop) (x29_11_0 : Option Addr) (y21_89 : Bool) (Q : Bool → World → Prop) (w : World) : Prop :=
  (if y21_89 = true then Q false w else nn x29_11_0 fun x91_23 => ld Value.pointer (World.drew w) (x91_23.add 1) fun x93_24 => levylaw19_record x1 (Sl.mk none 0 0) (fun x95_25_0_0 x95_25_0_1 w => ((World.cell? w (x91_23.add 1) = some (.pointer x93_24) ∧ True) ∧ drawer_Drawer_Put x93_24 x95_25_0_0 x95_25_0_1 (fun x96_26_0 w => (if (z8_8 == 1) = true then levylaw19_DrawerCost.k27 x0 x1 y3_2 z8_8 K8 x96_26_0 190 Q w else levylaw19_DrawerCost.k27 x0 x1 y3_2 z8_8 K8 x96_26_0 0 Q w)) w)) (World.drew w))

def levylaw19_DrawerCost.k16 (x0 : Int) (x1 : Int) (y3_2 : Sl) (z8_8 : Int) (K8 : Int → World → Prop) (x29_11_0 : Option Addr) (Q : Bool → World → Prop) (w : World) : Prop :=
  nn x29_11_0 fun x69_17 => ld Value.pointer (World.drew w) (x69_17.add 1) fun x71_18 => levylaw19_record x1 y3_2 (fun x74_19_0_0 x74_19_0_1 w => ((World.cell? w (x69_17.add 1) = some (.pointer x71_18) ∧ True) ∧ drawer_Drawer_Put x71_18 x74_19_0_0 x74_19_0_1 (fun x75_20_0 w => (if (z8_8 == 2) = true then (if (x75_20_0 != 190) = true then levylaw19_DrawerCost.k21 x0 x1 y3_2 z8_8 K8 x29_11_0 true Q w else (if (z8_8 != 2) = true then levylaw19_DrawerCost.k21 x0 x1 y3_2 z8_8 K8 x29_11_0 (x75_20_0 != 0) Q w else levylaw19_DrawerCost.k21 x0 x1 y3_2 z8_8 K8 x29_11_0 false Q w)) else (if (z8_8 != 2) = true then levylaw19_DrawerCost.k21 x0 x1 y3_2 z8_8 K8 x29_11_0 (x75_20_0 != 0) Q w else levylaw19_DrawerCost.k21 x0 x1 y3_2 z8_8 K8 x29_11_0 false Q w))) w)) (World.drew w)

def levylaw19_DrawerCost.k15 (x0 : Int) (x1 : Int) (y3_2 : Sl) (z8_8 : Int) (K8 : Int → World → Prop) (x29_11_0 : Option Addr) (Q : Bool → World → Prop) (w : World) : Prop :=
  (if (z8_8 == 3) = true then nn x29_11_0 fun x64_55 => ld Value.pointer w (x64_55.add 0) fun x66_56 => drawer_Disk_Fail x66_56 2 1 (fun  w => levylaw19_DrawerCost.k16 x0 x1 y3_2 z8_8 K8 x29_11_0 Q w) w else levylaw19_DrawerCost.k16 x0 x1 y3_2 z8_8 K8 x29_11_0 Q w)

def levylaw19_DrawerCost.k14 (x0 : Int) (x1 : Int) (y3_2 : Sl) (z8_8 : Int) (K8 : Int → World → Prop) (x29_11_0 : Option Addr) (Q : Bool → World → Prop) (w : World) : Prop :=
  (if (z8_8 == 2) = true then nn x29_11_0 fun x55_61 => ld Value.pointer w (x55_61.add 0) fun x57_62 => drawer_Disk_Arm x57_62 (IntKind.i64.wrap ((IntKind.i64.wrap ((IntKind.i64.wrap (((y3_2.len : Nat) : Int) + 18)) + 2)) - 1)) (fun  w => levylaw19_DrawerCost.k15 x0 x1 y3_2 z8_8 K8 x29_11_0 Q w) w else levylaw19_DrawerCost.k15 x0 x1 y3_2 z8_8 K8 x29_11_0 Q w)

def levylaw19_DrawerCost.k12 (x0 : Int) (x1 : Int) (y3_2 : Sl) (z8_8 : Int) (K8 : Int → World → Prop) (x29_11_0 : Option Addr) (y12_43 : Bool) (Q : Bool → World → Prop) (w : World) : Prop :=
  (if y12_43 = true then Q false w else (if (z8_8 == 1) = true then nn x29_11_0 fun x47_68 => ld Value.pointer w (x47_68.add 0) fun x49_69 => drawer_Disk_Arm x49_69 (IntKind.i64.wrap ((IntKind.i64.wrap (((y3_2.len : Nat) : Int) + 18)) + 2)) (fun  w => levylaw19_DrawerCost.k14 x0 x1 y3_2 z8_8 K8 x29_11_0 Q w) w else levylaw19_DrawerCost.k14 x0 x1 y3_2 z8_8 K8 x29_11_0 Q w))

def levylaw19_DrawerCost.l8 (x0 : Int) (x1 : Int) (y3_2 : Sl) (z8_8 : Int) (Q : Bool → World → Prop) (K8 : Int → World → Prop) (w : World) : Prop :=
  (if (decide (z8_8 < 4)) = true then levylaw19_begin x0 (fun x29_11_0 w => (if (Option.isNone x29_11_0) = true then levylaw19_DrawerCost.k12 x0 x1 y3_2 z8_8 K8 x29_11_0 true Q w else levylaw19_world_open x29_11_0 (fun x34_73_0 w => (if x34_73_0 = true then nn x29_11_0 fun x39_75 => ld Value.pointer w (x39_75.add 1) fun x41_76 => levylaw19_DrawerCost.k12 x0 x1 y3_2 z8_8 K8 x29_11_0 (Option.isNone x41_76) Q w else levylaw19_DrawerCost.k12 x0 x1 y3_2 z8_8 K8 x29_11_0 true Q w)) w)) w else levylaw19_DrawerCost.k7  Q w)

def levylaw19_DrawerCost.k3 (x0 : Int) (x1 : Int) (y3_2 : Sl) (Q : Bool → World → Prop) (w : World) : Prop :=
  (Fix (σ := Int) (fun Ks s w => levylaw19_DrawerCost.l8 x0 x1 y3_2 s Q (fun z8_8 w => Ks z8_8 w) w) 0 w)

def levylaw19_DrawerCost (x0 : Int) (x1 : Int) (x2 : Sl) (Q : Bool → World → Prop) (w : World) : Prop :=
  levylaw19_known  (fun x13_1_0 w => (if x13_1_0 = true then (if (decide (((x2.len : Nat) : Int) > 1048576)) = true then ((0 : Int) ≤ 1048576 ∧ 1048576 ≤ ((x2.cap : Nat) : Int) ∧ levylaw19_DrawerCost.k3 x0 x1 (cutSl ⟨x2.p, x2.len, x2.cap⟩ 1 0 (Int.toNat 1048576) x2.cap) Q w) else levylaw19_DrawerCost.k3 x0 x1 x2 Q w) else Q false w)) w

theorem b_levylaw19_DrawerCost (x0 : Int) (x1 : Int) (x2 : Sl) (Q : Bool → World → Prop) (w : World) (h : levylaw19_DrawerCost x0 x1 x2 Q w) {c : Code} (hb : Tryd.f4.body = some c) :
 ∀ a, Rep a 106 [(0, .int .u32 x0), (1, .int .i64 x1), (2, Sl.val x2)] [] → c.wp Tryd.prog (bodyPost Tryd.prog Tryd.f4 (Rets fun v w => ∃ r0 : Bool, v = (.bool r0 : Value) ∧ Q r0 w)) a w := by
 intro a R
 obtain rfl := Option.some.inj hb
 unfold levylaw19_DrawerCost at h
 refine wp_seq ?_
 refine wp_region_lit ?_
 refine oas R rfl rfl fun a R => ?_
 refine wpList_nil ?_
 refine then_normal ?_
 refine wp_seq ?_
 refine wp_seq ?_
 refine wp_region_lit ?_
 refine op_call R (rn_calls R rfl cf6) rfl ?_
 refine call_mono (s_levylaw19_known  _ _ h) ?_
 rintro _ w83 ⟨x13_1_0, rfl, h⟩ a R
 refine op_val R (rn_un (v := .bool (!x13_1_0)) R rfl rfl) rfl fun a R => ?_
 refine wpList_nil ?_
 refine then_normal ?_
 rcases ite_cases h with ⟨g2, h⟩ | ⟨g2, h⟩
 ·refine wp_condF R (congrArg (fun b => some (Value.bool b)) (nf g2)) ?_
  refine wp_skip ?_
  refine then_normal ?_
  refine seq_join (fun a w => ∃ y3_2 : Sl, Rep a 106 [(0, .int .u32 x0), (1, .int .i64 x1), (2, Sl.val y3_2)] [] ∧ levylaw19_DrawerCost.k3 x0 x1 y3_2 Q w) ?_ ?_
  ·refine wp_seq ?_
   refine wp_region_lit ?_
   refine omv R rfl rfl fun a R => ?_
   refine op_val R (rn_len R rfl Tryd.underlying29) rfl fun a R => ?_
   refine op_val R (rn_bin (v := .bool (decide (((x2.len : Nat) : Int) > 1048576))) R rfl rfl rfl) rfl fun a R => ?_
   refine wpList_nil ?_
   refine then_normal ?_
   rcases ite_cases h with ⟨g81, h⟩ | ⟨g81, h⟩
   ·refine wp_condT R (congrArg (fun b => some (Value.bool b)) g81) ?_
    refine wp_region_lit ?_
    refine omv R rfl rfl fun a R => ?_
    obtain ⟨s82_0, s82_1, h⟩ := h
    refine op_val R (rn_sl R rfl rfl (evo R rfl) rfl (fun w => bounds2 (lo := none) (hi := (some (.i64, 1048576))) 0 (Int.toNat 1048576) ⟨s82_0, s82_1, rfl⟩ rfl w) Tryd.underlying29 sz5) rfl fun a R => ?_
    refine oas R rfl rfl fun a R => ?_
    refine wpList_nil ?_
    refine then_normal ?_
    exact ⟨(cutSl ⟨x2.p, x2.len, x2.cap⟩ 1 0 (Int.toNat 1048576) x2.cap), R.weak ⟨rfl, rfl, rfl, trivial⟩, h⟩
   ·refine wp_condF R (congrArg (fun b => some (Value.bool b)) g81) ?_
    refine wp_skip ?_
    refine then_normal ?_
    exact ⟨x2, R.weak ⟨rfl, rfl, rfl, trivial⟩, h⟩
  ·rintro a w ⟨y3_2, R, h⟩
   unfold levylaw19_DrawerCost.k3 at h
   refine wp_seq ?_
   refine wp_region_lit ?_
   refine omv R rfl rfl fun a R => ?_
   refine op_val R (rn_len R rfl Tryd.underlying29) rfl fun a R => ?_
   refine op_val R (rn_bin (v := .int .i64 (IntKind.i64.wrap (((y3_2.len : Nat) : Int) + 18))) R rfl rfl rfl) rfl fun a R => ?_
   refine op_val R (rn_bin (v := .int .i64 (IntKind.i64.wrap ((IntKind.i64.wrap (((y3_2.len : Nat) : Int) + 18)) + 2))) R rfl rfl rfl) rfl fun a R => ?_
   refine oas R rfl rfl fun a R => ?_
   refine wpList_nil ?_
   refine then_normal ?_
   refine seq_join (fun a w => Rep a 106 [] [] ∧ levylaw19_DrawerCost.k7  Q w) ?_ ?_
   ·refine wp_seq ?_
    refine wp_region_lit ?_
    refine oas R rfl rfl fun a R => ?_
    refine wpList_nil ?_
    refine then_normal ?_
    refine wp_block ?_
    refine wp_fix (σ := Int) (fun s a => Rep a 106 [(0, .int .u32 x0), (1, .int .i64 x1), (2, Sl.val y3_2), (7, .int .i64 (IntKind.i64.wrap ((IntKind.i64.wrap (((y3_2.len : Nat) : Int) + 18)) + 2))), (8, .int .i64 s)] []) h (R.weak ⟨rfl, rfl, rfl, rfl, rfl, trivial⟩) ?_
    rintro Ks C z8_8 a w hC R h
    have R : Rep a 106 [(0, .int .u32 x0), (1, .int .i64 x1), (2, Sl.val y3_2), (7, .int .i64 (IntKind.i64.wrap ((IntKind.i64.wrap (((y3_2.len : Nat) : Int) + 18)) + 2))), (8, .int .i64 z8_8)] [] := R
    have h : levylaw19_DrawerCost.l8 x0 x1 y3_2 z8_8 Q (fun z8_8 w => Ks z8_8 w) w := h
    generalize hK8 : (fun z8_8 w => Ks z8_8 w) = K8 at h
    unfold levylaw19_DrawerCost.l8 at h
    refine wp_seq ?_
    refine wp_seq ?_
    refine wp_region_lit ?_
    refine omv R rfl rfl fun a R => ?_
    refine op_val R (rn_bin (v := .bool (decide (z8_8 < 4))) R rfl rfl rfl) rfl fun a R => ?_
    refine wpList_nil ?_
    refine then_normal ?_
    rcases ite_cases h with ⟨g10, h⟩ | ⟨g10, h⟩
    ·refine wp_condT R (congrArg (fun b => some (Value.bool b)) g10) ?_
     refine wp_skip ?_
     refine then_normal ?_
     refine wp_seq ?_
     refine wp_block ?_
     refine wp_seq ?_
     refine wp_region_lit ?_
     refine omv R rfl rfl fun a R => ?_
     refine op_call R (rn_calls R rfl cf7) rfl ?_
     refine call_mono (s_levylaw19_begin _ _ _ h) ?_
     rintro _ w78 ⟨x29_11_0, rfl, h⟩ a R
     refine oas R rfl rfl fun a R => ?_
     refine wpList_nil ?_
     refine then_normal ?_
     refine wp_seq ?_
     refine seq_join (fun a w => ∃ y12_43 : Bool, Rep a 106 [(0, .int .u32 x0), (1, .int .i64 x1), (2, Sl.val y3_2), (7, .int .i64 (IntKind.i64.wrap ((IntKind.i64.wrap (((y3_2.len : Nat) : Int) + 18)) + 2))), (8, .int .i64 z8_8), (9, .pointer x29_11_0), (43, .bool y12_43)] [] ∧ levylaw19_DrawerCost.k12 x0 x1 y3_2 z8_8 K8 x29_11_0 y12_43 Q w) ?_ ?_
     ·refine wp_region_lit ?_
      refine omv R rfl rfl fun a R => ?_
      refine op_val R (rn_nilPE R rfl rfl Tryd.underlying25) rfl fun a R => ?_
      refine omv R rfl rfl fun a R => ?_
      rcases ite_cases h with ⟨g72, h⟩ | ⟨g72, h⟩
      ·refine op_pass R rfl rfl rfl (nft g72) (fun a R => ?_) (by intro s hs; cases hs; rfl)
       refine op_pass R rfl rfl rfl (nft g72) (fun a R => ?_) (by intro s hs; cases hs; rfl)
       refine op_pass R rfl rfl rfl (nft g72) (fun a R => ?_) (by intro s hs; cases hs; rfl)
       refine op_val R (rn_pickT R rfl g72 rfl) rfl fun a R => ?_
       refine omv R rfl rfl fun a R => ?_
       refine op_pass R rfl rfl rfl (nft rfl) (fun a R => ?_) (by intro s hs; cases hs; rfl)
       refine op_pass R rfl rfl rfl (nft rfl) (fun a R => ?_) (by intro s hs; cases hs; rfl)
       refine op_pass R rfl rfl rfl (nft rfl) (fun a R => ?_) (by intro s hs; cases hs; rfl)
       refine op_pass R rfl rfl rfl (nft rfl) (fun a R => ?_) (by intro s hs; cases hs; rfl)
       refine op_pass R rfl rfl rfl (nft rfl) (fun a R => ?_) (by intro s hs; cases hs; rfl)
       refine op_val R (rn_pickT R rfl rfl rfl) rfl fun a R => ?_
       refine wpList_nil ?_
       refine then_normal ?_
       exact ⟨true, R.weak ⟨rfl, rfl, rfl, rfl, rfl, rfl, rfl, trivial⟩, h⟩
      ·refine op_guard R rfl rfl rfl g72 ?_
       refine omv R rfl rfl fun a R => ?_
       refine op_guard R rfl rfl rfl g72 ?_
       refine op_call R (rn_calls R rfl cf8) rfl ?_
       refine call_mono (s_levylaw19_world_open _ _ _ h) ?_
       rintro _ w77 ⟨x34_73_0, rfl, h⟩ a R
       refine op_guard R rfl rfl rfl g72 ?_
       refine op_val R (rn_un (v := .bool (!x34_73_0)) R rfl rfl) rfl fun a R => ?_
       refine op_val R (rn_pickF R rfl g72 rfl) rfl fun a R => ?_
       refine omv R rfl rfl fun a R => ?_
       rcases ite_cases h with ⟨g74, h⟩ | ⟨g74, h⟩
       ·refine op_guard R rfl rfl rfl (nf g74) ?_
        refine omv R rfl rfl fun a R => ?_
        refine op_guard R rfl rfl rfl (nf g74) ?_
        obtain ⟨x39_75, cx39_75, h⟩ := h
        refine onl R rfl cx39_75 rfl fun a R => ?_
        refine op_guard R rfl rfl rfl (nf g74) ?_
        refine ofd R rfl fd32_1 rfl fun a R => ?_
        refine op_guard R rfl rfl rfl (nf g74) ?_
        obtain ⟨x41_76, cx41_76, h⟩ := h
        refine old R rfl Tryd.underlying28 rfl cx41_76 rfl fun a R => ?_
        refine op_guard R rfl rfl rfl (nf g74) ?_
        refine op_val R (rn_nilPE R rfl rfl Tryd.underlying28) rfl fun a R => ?_
        refine op_val R (rn_pickF R rfl (nf g74) rfl) rfl fun a R => ?_
        refine wpList_nil ?_
        refine then_normal ?_
        exact ⟨(Option.isNone x41_76), R.weak ⟨rfl, rfl, rfl, rfl, rfl, rfl, rfl, trivial⟩, h⟩
       ·refine op_pass R rfl rfl rfl (nft (nt g74)) (fun a R => ?_) (by intro s hs; cases hs; rfl)
        refine op_pass R rfl rfl rfl (nft (nt g74)) (fun a R => ?_) (by intro s hs; cases hs; rfl)
        refine op_pass R rfl rfl rfl (nft (nt g74)) (fun a R => ?_) (by intro s hs; cases hs; rfl)
        refine op_pass R rfl rfl rfl (nft (nt g74)) (fun a R => ?_) (by intro s hs; cases hs; rfl)
        refine op_pass R rfl rfl rfl (nft (nt g74)) (fun a R => ?_) (by intro s hs; cases hs; rfl)
        refine op_val R (rn_pickT R rfl (nt g74) rfl) rfl fun a R => ?_
        refine wpList_nil ?_
        refine then_normal ?_
        exact ⟨true, R.weak ⟨rfl, rfl, rfl, rfl, rfl, rfl, rfl, trivial⟩, h⟩
     ·rintro a w ⟨y12_43, R, h⟩
      unfold levylaw19_DrawerCost.k12 at h
      rcases ite_cases h with ⟨g13, h⟩ | ⟨g13, h⟩
      ·refine wp_condT R (congrArg (fun b => some (Value.bool b)) g13) ?_
       refine wp_seq ?_
       refine wp_region_lit ?_
       refine oas R rfl rfl fun a R => ?_
       refine wpList_nil ?_
       refine then_normal ?_
       refine wp_ret ?_
       refine then_ret ?_
       refine block_ret ?_
       refine then_ret ?_
       refine then_ret ?_
       refine block_ret ?_
       refine then_ret ?_
       exact post_ret R rfl rfl ⟨false, rfl, h⟩
      ·refine wp_condF R (congrArg (fun b => some (Value.bool b)) g13) ?_
       refine wp_skip ?_
       refine then_normal ?_
       refine seq_join (fun a w => Rep a 106 [(0, .int .u32 x0), (1, .int .i64 x1), (2, Sl.val y3_2), (7, .int .i64 (IntKind.i64.wrap ((IntKind.i64.wrap (((y3_2.len : Nat) : Int) + 18)) + 2))), (8, .int .i64 z8_8), (9, .pointer x29_11_0)] [] ∧ levylaw19_DrawerCost.k14 x0 x1 y3_2 z8_8 K8 x29_11_0 Q w) ?_ ?_
       ·refine wp_seq ?_
        refine wp_region_lit ?_
        refine omv R rfl rfl fun a R => ?_
        refine op_val R (rn_bin (v := .bool (z8_8 == 1)) R rfl rfl rfl) rfl fun a R => ?_
        refine wpList_nil ?_
        refine then_normal ?_
        rcases ite_cases h with ⟨g67, h⟩ | ⟨g67, h⟩
        ·refine wp_condT R (congrArg (fun b => some (Value.bool b)) g67) ?_
         refine wp_region_lit ?_
         refine omv R rfl rfl fun a R => ?_
         obtain ⟨x47_68, cx47_68, h⟩ := h
         refine onl R rfl cx47_68 rfl fun a R => ?_
         refine ofd R rfl fd32_0 rfl fun a R => ?_
         obtain ⟨x49_69, cx49_69, h⟩ := h
         refine old R rfl Tryd.underlying27 rfl cx49_69 rfl fun a R => ?_
         refine omv R rfl rfl fun a R => ?_
         refine op_call R (rn_calls R rfl cf14) rfl ?_
         refine call_mono (s_drawer_Disk_Arm _ _ _ _ h) ?_
         rintro _ w71 ⟨rfl, h⟩ a R
         refine wpList_nil ?_
         refine then_normal ?_
         exact ⟨R.weak ⟨rfl, rfl, rfl, rfl, rfl, rfl, trivial⟩, h⟩
        ·refine wp_condF R (congrArg (fun b => some (Value.bool b)) g67) ?_
         refine wp_skip ?_
         refine then_normal ?_
         exact ⟨R.weak ⟨rfl, rfl, rfl, rfl, rfl, rfl, trivial⟩, h⟩
       ·rintro a w ⟨R, h⟩
        unfold levylaw19_DrawerCost.k14 at h
        refine seq_join (fun a w => Rep a 106 [(0, .int .u32 x0), (1, .int .i64 x1), (2, Sl.val y3_2), (7, .int .i64 (IntKind.i64.wrap ((IntKind.i64.wrap (((y3_2.len : Nat) : Int) + 18)) + 2))), (8, .int .i64 z8_8), (9, .pointer x29_11_0)] [] ∧ levylaw19_DrawerCost.k15 x0 x1 y3_2 z8_8 K8 x29_11_0 Q w) ?_ ?_
        ·refine wp_seq ?_
         refine wp_region_lit ?_
         refine omv R rfl rfl fun a R => ?_
         refine op_val R (rn_bin (v := .bool (z8_8 == 2)) R rfl rfl rfl) rfl fun a R => ?_
         refine wpList_nil ?_
         refine then_normal ?_
         rcases ite_cases h with ⟨g60, h⟩ | ⟨g60, h⟩
         ·refine wp_condT R (congrArg (fun b => some (Value.bool b)) g60) ?_
          refine wp_region_lit ?_
          refine omv R rfl rfl fun a R => ?_
          obtain ⟨x55_61, cx55_61, h⟩ := h
          refine onl R rfl cx55_61 rfl fun a R => ?_
          refine ofd R rfl fd32_0 rfl fun a R => ?_
          obtain ⟨x57_62, cx57_62, h⟩ := h
          refine old R rfl Tryd.underlying27 rfl cx57_62 rfl fun a R => ?_
          refine omv R rfl rfl fun a R => ?_
          refine op_val R (rn_bin (v := .int .i64 (IntKind.i64.wrap ((IntKind.i64.wrap ((IntKind.i64.wrap (((y3_2.len : Nat) : Int) + 18)) + 2)) - 1))) R rfl rfl rfl) rfl fun a R => ?_
          refine op_call R (rn_calls R rfl cf14) rfl ?_
          refine call_mono (s_drawer_Disk_Arm _ _ _ _ h) ?_
          rintro _ w65 ⟨rfl, h⟩ a R
          refine wpList_nil ?_
          refine then_normal ?_
          exact ⟨R.weak ⟨rfl, rfl, rfl, rfl, rfl, rfl, trivial⟩, h⟩
         ·refine wp_condF R (congrArg (fun b => some (Value.bool b)) g60) ?_
          refine wp_skip ?_
          refine then_normal ?_
          exact ⟨R.weak ⟨rfl, rfl, rfl, rfl, rfl, rfl, trivial⟩, h⟩
        ·rintro a w ⟨R, h⟩
         unfold levylaw19_DrawerCost.k15 at h
         refine seq_join (fun a w => Rep a 106 [(0, .int .u32 x0), (1, .int .i64 x1), (2, Sl.val y3_2), (7, .int .i64 (IntKind.i64.wrap ((IntKind.i64.wrap (((y3_2.len : Nat) : Int) + 18)) + 2))), (8, .int .i64 z8_8), (9, .pointer x29_11_0)] [] ∧ levylaw19_DrawerCost.k16 x0 x1 y3_2 z8_8 K8 x29_11_0 Q w) ?_ ?_
         ·refine wp_seq ?_
          refine wp_region_lit ?_
          refine omv R rfl rfl fun a R => ?_
          refine op_val R (rn_bin (v := .bool (z8_8 == 3)) R rfl rfl rfl) rfl fun a R => ?_
          refine wpList_nil ?_
          refine then_normal ?_
          rcases ite_cases h with ⟨g54, h⟩ | ⟨g54, h⟩
          ·refine wp_condT R (congrArg (fun b => some (Value.bool b)) g54) ?_
           refine wp_region_lit ?_
           refine omv R rfl rfl fun a R => ?_
           obtain ⟨x64_55, cx64_55, h⟩ := h
           refine onl R rfl cx64_55 rfl fun a R => ?_
           refine ofd R rfl fd32_0 rfl fun a R => ?_
           obtain ⟨x66_56, cx66_56, h⟩ := h
           refine old R rfl Tryd.underlying27 rfl cx66_56 rfl fun a R => ?_
           refine op_call R (rn_calls R rfl cf15) rfl ?_
           refine call_mono (s_drawer_Disk_Fail _ _ _ _ _ h) ?_
           rintro _ w58 ⟨rfl, h⟩ a R
           refine wpList_nil ?_
           refine then_normal ?_
           exact ⟨R.weak ⟨rfl, rfl, rfl, rfl, rfl, rfl, trivial⟩, h⟩
          ·refine wp_condF R (congrArg (fun b => some (Value.bool b)) g54) ?_
           refine wp_skip ?_
           refine then_normal ?_
           exact ⟨R.weak ⟨rfl, rfl, rfl, rfl, rfl, rfl, trivial⟩, h⟩
         ·rintro a w ⟨R, h⟩
          unfold levylaw19_DrawerCost.k16 at h
          refine wp_seq ?_
          refine region_start mo fun inv => ?_
          obtain ⟨x69_17, cx69_17, h⟩ := h
          obtain ⟨x71_18, cx71_18, h⟩ := h
          refine seg_held (n := 7) (f := 7) (g := 2) (fun w : World => w.cell? (x69_17.add 1) = some (.pointer x71_18) ∧ True) (by kernel_rfl) fun inv => ?_
          have hS0 : (fun w : World => w.cell? (x69_17.add 1) = some (.pointer x71_18) ∧ True) _ := ⟨cx71_18, trivial⟩
          refine dr_val (i := 0) R (waits_dom (by kernel_rfl) (by kernel_rfl)) (by kernel_rfl) inv rfl (by decide) (by kernel_rfl) (by kernel_rfl) (fun _ _ _ h => h) wanted_none (fun w' hS => rn_mv R rfl) hS0 rfl fun inv a R => ?_
          refine dr_val (i := 1) R (waits_dom (by kernel_rfl) (by kernel_rfl)) (by kernel_rfl) inv rfl (by decide) (by kernel_rfl) (by kernel_rfl) (fun _ _ _ h => h) wanted_none (fun w' hS => rn_nil R rfl cx69_17) hS0 rfl fun inv a R => ?_
          refine dr_val (i := 2) R (waits_dom (by kernel_rfl) (by kernel_rfl)) (by kernel_rfl) inv rfl (by decide) (by kernel_rfl) (by kernel_rfl) (fun _ _ _ h => h) wanted_none (fun w' hS => rn_fld R rfl fd32_1) hS0 rfl fun inv a R => ?_
          refine dr_val (i := 3) R (waits_dom (by kernel_rfl) (by kernel_rfl)) (by kernel_rfl) inv rfl (by decide) (by kernel_rfl) (by kernel_rfl) (fun _ _ _ h => h) wanted_none (fun w' hS => rn_ld R rfl Tryd.underlying28 rfl (hS.1)) hS0 rfl fun inv a R => ?_
          refine dr_val (i := 4) R (waits_dom (by kernel_rfl) (by kernel_rfl)) (by kernel_rfl) inv rfl (by decide) (by kernel_rfl) (by kernel_rfl) (fun _ _ _ h => h) wanted_none (fun w' hS => rn_mv R rfl) hS0 rfl fun inv a R => ?_
          refine dr_val (i := 5) R (waits_dom (by kernel_rfl) (by kernel_rfl)) (by kernel_rfl) inv rfl (by decide) (by kernel_rfl) (by kernel_rfl) (fun _ _ _ h => h) wanted_none (fun w' hS => rn_mv R rfl) hS0 rfl fun inv a R => ?_
          refine dr_call (i := 6) R inv rfl (by decide) (by kernel_rfl) wanted_none (rn_calls R rfl cf10) rfl ?_
          refine call_mono (s_levylaw19_record _ _ _ _ h) ?_
          rintro _ w52 ⟨x74_19_0_0, x74_19_0_1, rfl, hS0, h⟩
          refine ⟨hS0, fun a inv R => ?_⟩
          refine seg_end (by kernel_rfl) ?_
          refine any_tail 7 (by kernel_rfl) ?_
          refine op_call R (rn_calls R rfl cf9) rfl ?_
          refine call_mono (s_drawer_Drawer_Put _ _ _ _ _ h) ?_
          rintro _ w51 ⟨x75_20_0, rfl, h⟩ a R
          refine oas R rfl rfl fun a R => ?_
          refine wpList_nil ?_
          refine then_normal ?_
          refine wp_seq ?_
          refine seq_join (fun a w => ∃ y21_89 : Bool, Rep a 106 [(0, .int .u32 x0), (1, .int .i64 x1), (2, Sl.val y3_2), (7, .int .i64 (IntKind.i64.wrap ((IntKind.i64.wrap (((y3_2.len : Nat) : Int) + 18)) + 2))), (8, .int .i64 z8_8), (9, .pointer x29_11_0), (89, .bool y21_89)] [] ∧ levylaw19_DrawerCost.k21 x0 x1 y3_2 z8_8 K8 x29_11_0 y21_89 Q w) ?_ ?_
          ·refine wp_region_lit ?_
           refine omv R rfl rfl fun a R => ?_
           refine op_val R (rn_bin (v := .bool (z8_8 == 2)) R rfl rfl rfl) rfl fun a R => ?_
           refine omv R rfl rfl fun a R => ?_
           rcases ite_cases h with ⟨g42, h⟩ | ⟨g42, h⟩
           ·refine op_guard R rfl rfl rfl g42 ?_
            refine omv R rfl rfl fun a R => ?_
            refine op_guard R rfl rfl rfl g42 ?_
            refine op_val R (rn_bin (v := .bool (x75_20_0 != 190)) R rfl rfl rfl) rfl fun a R => ?_
            refine op_val R (rn_pickT R rfl g42 rfl) rfl fun a R => ?_
            refine omv R rfl rfl fun a R => ?_
            rcases ite_cases h with ⟨g44, h⟩ | ⟨g44, h⟩
            ·refine op_pass R rfl rfl rfl (nft g44) (fun a R => ?_) (by intro s hs; cases hs; rfl)
             refine op_pass R rfl rfl rfl (nft g44) (fun a R => ?_) (by intro s hs; cases hs; rfl)
             refine op_pass R rfl rfl rfl (nft g44) (fun a R => ?_) (by intro s hs; cases hs; rfl)
             refine op_pass0 R rfl rfl rfl (fun a R => ?_) (by intro s hs; cases hs; rfl)
             refine op_pass0 R rfl rfl rfl (fun a R => ?_) (by intro s hs; cases hs; rfl)
             refine op_pass R rfl rfl rfl (nft g44) (fun a R => ?_) (by intro s hs; cases hs; rfl)
             refine op_val R (rn_pickT R rfl g44 rfl) rfl fun a R => ?_
             refine wpList_nil ?_
             refine then_normal ?_
             exact ⟨true, R.weak ⟨rfl, rfl, rfl, rfl, rfl, rfl, rfl, trivial⟩, h⟩
            ·refine op_guard R rfl rfl rfl g44 ?_
             refine omv R rfl rfl fun a R => ?_
             refine op_guard R rfl rfl rfl g44 ?_
             refine op_val R (rn_bin (v := .bool (z8_8 != 2)) R rfl rfl rfl) rfl fun a R => ?_
             refine op_guard R rfl rfl rfl g44 ?_
             refine omv R rfl rfl fun a R => ?_
             rcases ite_cases h with ⟨g46, h⟩ | ⟨g46, h⟩
             ·refine op_guard R rfl rfl rfl g46 ?_
              refine omv R rfl rfl fun a R => ?_
              refine op_guard R rfl rfl rfl g46 ?_
              refine op_val R (rn_bin (v := .bool (x75_20_0 != 0)) R rfl rfl rfl) rfl fun a R => ?_
              refine op_guard R rfl rfl rfl g44 ?_
              refine op_val R (rn_pickT R rfl g46 rfl) rfl fun a R => ?_
              refine op_val R (rn_pickF R rfl g44 rfl) rfl fun a R => ?_
              refine wpList_nil ?_
              refine then_normal ?_
              exact ⟨(x75_20_0 != 0), R.weak ⟨rfl, rfl, rfl, rfl, rfl, rfl, rfl, trivial⟩, h⟩
             ·refine op_pass R rfl rfl rfl (ntf g46) (fun a R => ?_) (by intro s hs; cases hs; rfl)
              refine op_pass R rfl rfl rfl (ntf g46) (fun a R => ?_) (by intro s hs; cases hs; rfl)
              refine op_guard R rfl rfl rfl g44 ?_
              refine op_val R (rn_pickF R rfl g46 rfl) rfl fun a R => ?_
              refine op_val R (rn_pickF R rfl g44 rfl) rfl fun a R => ?_
              refine wpList_nil ?_
              refine then_normal ?_
              exact ⟨false, R.weak ⟨rfl, rfl, rfl, rfl, rfl, rfl, rfl, trivial⟩, h⟩
           ·refine op_pass R rfl rfl rfl (ntf g42) (fun a R => ?_) (by intro s hs; cases hs; rfl)
            refine op_pass R rfl rfl rfl (ntf g42) (fun a R => ?_) (by intro s hs; cases hs; rfl)
            refine op_val R (rn_pickF R rfl g42 rfl) rfl fun a R => ?_
            refine omv R rfl rfl fun a R => ?_
            refine op_guard R rfl rfl rfl rfl ?_
            refine omv R rfl rfl fun a R => ?_
            refine op_guard R rfl rfl rfl rfl ?_
            refine op_val R (rn_bin (v := .bool (z8_8 != 2)) R rfl rfl rfl) rfl fun a R => ?_
            refine op_guard R rfl rfl rfl rfl ?_
            refine omv R rfl rfl fun a R => ?_
            rcases ite_cases h with ⟨g49, h⟩ | ⟨g49, h⟩
            ·refine op_guard R rfl rfl rfl g49 ?_
             refine omv R rfl rfl fun a R => ?_
             refine op_guard R rfl rfl rfl g49 ?_
             refine op_val R (rn_bin (v := .bool (x75_20_0 != 0)) R rfl rfl rfl) rfl fun a R => ?_
             refine op_guard R rfl rfl rfl rfl ?_
             refine op_val R (rn_pickT R rfl g49 rfl) rfl fun a R => ?_
             refine op_val R (rn_pickF R rfl rfl rfl) rfl fun a R => ?_
             refine wpList_nil ?_
             refine then_normal ?_
             exact ⟨(x75_20_0 != 0), R.weak ⟨rfl, rfl, rfl, rfl, rfl, rfl, rfl, trivial⟩, h⟩
            ·refine op_pass R rfl rfl rfl (ntf g49) (fun a R => ?_) (by intro s hs; cases hs; rfl)
             refine op_pass R rfl rfl rfl (ntf g49) (fun a R => ?_) (by intro s hs; cases hs; rfl)
             refine op_guard R rfl rfl rfl rfl ?_
             refine op_val R (rn_pickF R rfl g49 rfl) rfl fun a R => ?_
             refine op_val R (rn_pickF R rfl rfl rfl) rfl fun a R => ?_
             refine wpList_nil ?_
             refine then_normal ?_
             exact ⟨false, R.weak ⟨rfl, rfl, rfl, rfl, rfl, rfl, rfl, trivial⟩, h⟩
          ·rintro a w ⟨y21_89, R, h⟩
           unfold levylaw19_DrawerCost.k21 at h
           rcases ite_cases h with ⟨g22, h⟩ | ⟨g22, h⟩
           ·refine wp_condT R (congrArg (fun b => some (Value.bool b)) g22) ?_
            refine wp_seq ?_
            refine wp_region_lit ?_
            refine oas R rfl rfl fun a R => ?_
            refine wpList_nil ?_
            refine then_normal ?_
            refine wp_ret ?_
            refine then_ret ?_
            refine block_ret ?_
            refine then_ret ?_
            refine then_ret ?_
            refine block_ret ?_
            refine then_ret ?_
            exact post_ret R rfl rfl ⟨false, rfl, h⟩
           ·refine wp_condF R (congrArg (fun b => some (Value.bool b)) g22) ?_
            refine wp_skip ?_
            refine then_normal ?_
            refine wp_seq ?_
            refine region_start mo fun inv => ?_
            obtain ⟨x91_23, cx91_23, h⟩ := h
            obtain ⟨x93_24, cx93_24, h⟩ := h
            refine seg_held (n := 6) (f := 6) (g := 2) (fun w : World => w.cell? (x91_23.add 1) = some (.pointer x93_24) ∧ True) (by kernel_rfl) fun inv => ?_
            have hS0 : (fun w : World => w.cell? (x91_23.add 1) = some (.pointer x93_24) ∧ True) _ := ⟨cx93_24, trivial⟩
            refine dr_val (i := 0) R (waits_dom (by kernel_rfl) (by kernel_rfl)) (by kernel_rfl) inv rfl (by decide) (by kernel_rfl) (by kernel_rfl) (fun _ _ _ h => h) wanted_none (fun w' hS => rn_mv R rfl) hS0 rfl fun inv a R => ?_
            refine dr_val (i := 1) R (waits_dom (by kernel_rfl) (by kernel_rfl)) (by kernel_rfl) inv rfl (by decide) (by kernel_rfl) (by kernel_rfl) (fun _ _ _ h => h) wanted_none (fun w' hS => rn_nil R rfl cx91_23) hS0 rfl fun inv a R => ?_
            refine dr_val (i := 2) R (waits_dom (by kernel_rfl) (by kernel_rfl)) (by kernel_rfl) inv rfl (by decide) (by kernel_rfl) (by kernel_rfl) (fun _ _ _ h => h) wanted_none (fun w' hS => rn_fld R rfl fd32_1) hS0 rfl fun inv a R => ?_
            refine dr_val (i := 3) R (waits_dom (by kernel_rfl) (by kernel_rfl)) (by kernel_rfl) inv rfl (by decide) (by kernel_rfl) (by kernel_rfl) (fun _ _ _ h => h) wanted_none (fun w' hS => rn_ld R rfl Tryd.underlying28 rfl (hS.1)) hS0 rfl fun inv a R => ?_
            refine dr_val (i := 4) R (waits_dom (by kernel_rfl) (by kernel_rfl)) (by kernel_rfl) inv rfl (by decide) (by kernel_rfl) (by kernel_rfl) (fun _ _ _ h => h) wanted_none (fun w' hS => rn_mv R rfl) hS0 rfl fun inv a R => ?_
            refine dr_call (i := 5) R inv rfl (by decide) (by kernel_rfl) wanted_none (rn_calls R rfl cf10) rfl ?_
            refine call_mono (s_levylaw19_record _ (Sl.mk none 0 0) _ _ h) ?_
            rintro _ w40 ⟨x95_25_0_0, x95_25_0_1, rfl, hS0, h⟩
            refine ⟨hS0, fun a inv R => ?_⟩
            refine seg_end (by kernel_rfl) ?_
            refine any_tail 6 (by kernel_rfl) ?_
            refine op_call R (rn_calls R rfl cf9) rfl ?_
            refine call_mono (s_drawer_Drawer_Put _ _ _ _ _ h) ?_
            rintro _ w39 ⟨x96_26_0, rfl, h⟩ a R
            refine oas R rfl rfl fun a R => ?_
            refine wpList_nil ?_
            refine then_normal ?_
            refine wp_seq ?_
            refine wp_region_lit ?_
            refine oas R rfl rfl fun a R => ?_
            refine wpList_nil ?_
            refine then_normal ?_
            refine seq_join (fun a w => ∃ y27_12 : Int, Rep a 106 [(0, .int .u32 x0), (1, .int .i64 x1), (2, Sl.val y3_2), (7, .int .i64 (IntKind.i64.wrap ((IntKind.i64.wrap (((y3_2.len : Nat) : Int) + 18)) + 2))), (8, .int .i64 z8_8), (11, .int .i64 x96_26_0), (12, .int .i64 y27_12)] [] ∧ levylaw19_DrawerCost.k27 x0 x1 y3_2 z8_8 K8 x96_26_0 y27_12 Q w) ?_ ?_
            ·refine wp_seq ?_
             refine wp_region_lit ?_
             refine omv R rfl rfl fun a R => ?_
             refine op_val R (rn_bin (v := .bool (z8_8 == 1)) R rfl rfl rfl) rfl fun a R => ?_
             refine wpList_nil ?_
             refine then_normal ?_
             rcases ite_cases h with ⟨g38, h⟩ | ⟨g38, h⟩
             ·refine wp_condT R (congrArg (fun b => some (Value.bool b)) g38) ?_
              refine wp_region_lit ?_
              refine oas R rfl rfl fun a R => ?_
              refine wpList_nil ?_
              refine then_normal ?_
              exact ⟨190, R.weak ⟨rfl, rfl, rfl, rfl, rfl, rfl, rfl, trivial⟩, h⟩
             ·refine wp_condF R (congrArg (fun b => some (Value.bool b)) g38) ?_
              refine wp_skip ?_
              refine then_normal ?_
              exact ⟨0, R.weak ⟨rfl, rfl, rfl, rfl, rfl, rfl, rfl, trivial⟩, h⟩
            ·rintro a w ⟨y27_12, R, h⟩
             unfold levylaw19_DrawerCost.k27 at h
             refine seq_join (fun a w => ∃ y28_12 : Int, Rep a 106 [(0, .int .u32 x0), (1, .int .i64 x1), (2, Sl.val y3_2), (7, .int .i64 (IntKind.i64.wrap ((IntKind.i64.wrap (((y3_2.len : Nat) : Int) + 18)) + 2))), (8, .int .i64 z8_8), (11, .int .i64 x96_26_0), (12, .int .i64 y28_12)] [] ∧ levylaw19_DrawerCost.k28 x0 x1 y3_2 z8_8 K8 x96_26_0 y28_12 Q w) ?_ ?_
             ·refine wp_seq ?_
              refine wp_region_lit ?_
              refine omv R rfl rfl fun a R => ?_
              refine op_val R (rn_bin (v := .bool (z8_8 == 2)) R rfl rfl rfl) rfl fun a R => ?_
              refine wpList_nil ?_
              refine then_normal ?_
              rcases ite_cases h with ⟨g36, h⟩ | ⟨g36, h⟩
              ·refine wp_condT R (congrArg (fun b => some (Value.bool b)) g36) ?_
               refine wp_region_lit ?_
               refine oas R rfl rfl fun a R => ?_
               refine wpList_nil ?_
               refine then_normal ?_
               exact ⟨196, R.weak ⟨rfl, rfl, rfl, rfl, rfl, rfl, rfl, trivial⟩, h⟩
              ·refine wp_condF R (congrArg (fun b => some (Value.bool b)) g36) ?_
               refine wp_skip ?_
               refine then_normal ?_
               exact ⟨y27_12, R.weak ⟨rfl, rfl, rfl, rfl, rfl, rfl, rfl, trivial⟩, h⟩
             ·rintro a w ⟨y28_12, R, h⟩
              unfold levylaw19_DrawerCost.k28 at h
              refine seq_join (fun a w => ∃ y29_12 : Int, Rep a 106 [(0, .int .u32 x0), (1, .int .i64 x1), (2, Sl.val y3_2), (7, .int .i64 (IntKind.i64.wrap ((IntKind.i64.wrap (((y3_2.len : Nat) : Int) + 18)) + 2))), (8, .int .i64 z8_8), (11, .int .i64 x96_26_0), (12, .int .i64 y29_12)] [] ∧ levylaw19_DrawerCost.k29 x0 x1 y3_2 z8_8 K8 x96_26_0 y29_12 Q w) ?_ ?_
              ·refine wp_seq ?_
               refine wp_region_lit ?_
               refine omv R rfl rfl fun a R => ?_
               refine op_val R (rn_bin (v := .bool (z8_8 == 3)) R rfl rfl rfl) rfl fun a R => ?_
               refine wpList_nil ?_
               refine then_normal ?_
               rcases ite_cases h with ⟨g34, h⟩ | ⟨g34, h⟩
               ·refine wp_condT R (congrArg (fun b => some (Value.bool b)) g34) ?_
                refine wp_region_lit ?_
                refine oas R rfl rfl fun a R => ?_
                refine wpList_nil ?_
                refine then_normal ?_
                exact ⟨191, R.weak ⟨rfl, rfl, rfl, rfl, rfl, rfl, rfl, trivial⟩, h⟩
               ·refine wp_condF R (congrArg (fun b => some (Value.bool b)) g34) ?_
                refine wp_skip ?_
                refine then_normal ?_
                exact ⟨y28_12, R.weak ⟨rfl, rfl, rfl, rfl, rfl, rfl, rfl, trivial⟩, h⟩
              ·rintro a w ⟨y29_12, R, h⟩
               unfold levylaw19_DrawerCost.k29 at h
               refine wp_seq ?_
               refine wp_region_lit ?_
               refine omv R rfl rfl fun a R => ?_
               refine omv R rfl rfl fun a R => ?_
               refine op_val R (rn_bin (v := .bool (x96_26_0 != y29_12)) R rfl rfl rfl) rfl fun a R => ?_
               refine wpList_nil ?_
               refine then_normal ?_
               rcases ite_cases h with ⟨g31, h⟩ | ⟨g31, h⟩
               ·refine wp_condT R (congrArg (fun b => some (Value.bool b)) g31) ?_
                refine wp_seq ?_
                refine wp_region_lit ?_
                refine oas R rfl rfl fun a R => ?_
                refine wpList_nil ?_
                refine then_normal ?_
                refine wp_ret ?_
                refine block_ret ?_
                refine then_ret ?_
                refine then_ret ?_
                refine block_ret ?_
                refine then_ret ?_
                exact post_ret R rfl rfl ⟨false, rfl, h⟩
               ·refine wp_condF R (congrArg (fun b => some (Value.bool b)) g31) ?_
                refine wp_skip ?_
                refine block_normal ?_
                refine then_normal ?_
                refine wp_region_lit ?_
                refine omv R rfl rfl fun a R => ?_
                refine op_val R (rn_bin (v := .int .i64 (IntKind.i64.wrap (z8_8 + 1))) R rfl rfl rfl) rfl fun a R => ?_
                refine oas R rfl rfl fun a R => ?_
                refine wpList_nil ?_
                refine then_normal ?_
                exact hC (IntKind.i64.wrap (z8_8 + 1)) _ _ (R.weak ⟨rfl, rfl, rfl, rfl, rfl, trivial⟩) (by rw [← hK8] at h; exact h)
    ·refine wp_condF R (congrArg (fun b => some (Value.bool b)) g10) ?_
     refine wp_exit ?_
     refine then_exit ?_
     refine then_exit ?_
     refine block_eq ?_
     refine then_normal ?_
     exact ⟨R.weak trivial, h⟩
   ·rintro a w ⟨R, h⟩
    unfold levylaw19_DrawerCost.k7 at h
    refine wp_seq ?_
    refine wp_region_lit ?_
    refine oas R rfl rfl fun a R => ?_
    refine wpList_nil ?_
    refine then_normal ?_
    refine wp_ret ?_
    exact post_ret R rfl rfl ⟨true, rfl, h⟩
 ·refine wp_condT R (congrArg (fun b => some (Value.bool b)) (nt g2)) ?_
  refine wp_seq ?_
  refine wp_region_lit ?_
  refine oas R rfl rfl fun a R => ?_
  refine wpList_nil ?_
  refine then_normal ?_
  refine wp_ret ?_
  refine then_ret ?_
  exact post_ret R rfl rfl ⟨false, rfl, h⟩
theorem s_levylaw19_DrawerCost (x0 : Int) (x1 : Int) (x2 : Sl) (Q : Bool → World → Prop) (w : World) (h : levylaw19_DrawerCost x0 x1 x2 Q w) :
    Calls Tryd.prog 4 #[.int .u32 x0, .int .i64 x1, Sl.val x2] w (Rets fun v w => ∃ r0 : Bool, v = (.bool r0 : Value) ∧ Q r0 w) :=
  calls_body (args := [.int .u32 x0, .int .i64 x1, Sl.val x2]) Tryd.func4 rfl rfl (Nat.le_of_ble_eq_true rfl) (L := [(0, .int .u32 x0), (1, .int .i64 x1), (2, Sl.val x2)]) (by simp [starts]) (b_levylaw19_DrawerCost x0 x1 x2 Q w h rfl)

/-! (levylaw19.world).other -/

def levylaw19_world_other.k11 (y11_4 : Bool) (Q : Bool → World → Prop) (w : World) : Prop :=
  Q y11_4 w

def levylaw19_world_other.k5 (x0 : Option Addr) (x1 : Sl) (x17_4_0 : Option Addr) (y5_25 : Bool) (Q : Bool → World → Prop) (w : World) : Prop :=
  (if y5_25 = true then Q false w else drawer_Disk_Restart x17_4_0 x1 (fun  w => nn x0 fun x32_8 => ld (Value.int .u32) w (x32_8.add 2) fun x34_9 => drawer_Open x17_4_0 x34_9 (fun x35_10_0 x35_10_1 x35_10_2 x35_10_3 w => (if (x35_10_3 == 0) = true then (if (Option.isNone x35_10_0) = true then levylaw19_world_other.k11 false Q w else levylaw19_world_may x0 x35_10_1 x35_10_2 (fun x50_15_0 w => levylaw19_world_other.k11 x50_15_0 Q w) w) else levylaw19_world_other.k11 false Q w)) w) w)

def levylaw19_world_other (x0 : Option Addr) (x1 : Sl) (Q : Bool → World → Prop) (w : World) : Prop :=
  nn x0 fun x13_1 => ld Value.pointer w (x13_1.add 0) fun x15_2 => drawer_Disk_Files x15_2 (fun x16_3_0 w => drawer_NewDisk x16_3_0 (fun x17_4_0 x17_4_1 w => (if (Option.isNone x17_4_0) = true then levylaw19_world_other.k5 x0 x1 x17_4_0 true Q w else levylaw19_world_other.k5 x0 x1 x17_4_0 (x17_4_1 != 0) Q w)) w) w

theorem b_levylaw19_world_other (x0 : Option Addr) (x1 : Sl) (Q : Bool → World → Prop) (w : World) (h : levylaw19_world_other x0 x1 Q w) {c : Code} (hb : Tryd.f17.body = some c) :
 ∀ a, Rep a 52 [(0, .pointer x0), (1, Sl.val x1)] [] → c.wp Tryd.prog (bodyPost Tryd.prog Tryd.f17 (Rets fun v w => ∃ r0 : Bool, v = (.bool r0 : Value) ∧ Q r0 w)) a w := by
 intro a R
 obtain rfl := Option.some.inj hb
 unfold levylaw19_world_other at h
 refine wp_seq ?_
 refine wp_region_lit ?_
 refine oas R rfl rfl fun a R => ?_
 refine wpList_nil ?_
 refine then_normal ?_
 refine wp_seq ?_
 refine wp_region_lit ?_
 refine omv R rfl rfl fun a R => ?_
 obtain ⟨x13_1, cx13_1, h⟩ := h
 refine onl R rfl cx13_1 rfl fun a R => ?_
 refine ofd R rfl fd32_0 rfl fun a R => ?_
 obtain ⟨x15_2, cx15_2, h⟩ := h
 refine old R rfl Tryd.underlying27 rfl cx15_2 rfl fun a R => ?_
 refine op_call R (rn_calls R rfl cf11) rfl ?_
 refine call_mono (s_drawer_Disk_Files _ _ _ h) ?_
 rintro _ w22 ⟨x16_3_0, rfl, h⟩ a R
 refine op_call R (rn_calls R rfl cf21) rfl ?_
 refine call_mono (s_drawer_NewDisk _ _ _ h) ?_
 rintro _ w21 ⟨x17_4_0, x17_4_1, rfl, h⟩ a R
 refine omv R rfl rfl fun a R => ?_
 refine op_val R (rn_ext R rfl rfl) rfl fun a R => ?_
 refine op_val R (rn_ext R rfl rfl) rfl fun a R => ?_
 refine oas R rfl rfl fun a R => ?_
 refine oas R rfl rfl fun a R => ?_
 refine wpList_nil ?_
 refine then_normal ?_
 refine wp_seq ?_
 refine seq_join (fun a w => ∃ y5_25 : Bool, Rep a 52 [(0, .pointer x0), (1, Sl.val x1), (5, .pointer x17_4_0), (25, .bool y5_25)] [] ∧ levylaw19_world_other.k5 x0 x1 x17_4_0 y5_25 Q w) ?_ ?_
 ·refine wp_region_lit ?_
  refine omv R rfl rfl fun a R => ?_
  refine op_val R (rn_nilPE R rfl rfl Tryd.underlying27) rfl fun a R => ?_
  refine omv R rfl rfl fun a R => ?_
  rcases ite_cases h with ⟨g19, h⟩ | ⟨g19, h⟩
  ·refine op_pass R rfl rfl rfl (nft g19) (fun a R => ?_) (by intro s hs; cases hs; rfl)
   refine op_pass R rfl rfl rfl (nft g19) (fun a R => ?_) (by intro s hs; cases hs; rfl)
   refine op_val R (rn_pickT R rfl g19 rfl) rfl fun a R => ?_
   refine wpList_nil ?_
   refine then_normal ?_
   exact ⟨true, R.weak ⟨rfl, rfl, rfl, rfl, trivial⟩, h⟩
  ·refine op_guard R rfl rfl rfl g19 ?_
   refine omv R rfl rfl fun a R => ?_
   refine op_guard R rfl rfl rfl g19 ?_
   refine op_val R (rn_bin (v := .bool (x17_4_1 != 0)) R rfl rfl rfl) rfl fun a R => ?_
   refine op_val R (rn_pickF R rfl g19 rfl) rfl fun a R => ?_
   refine wpList_nil ?_
   refine then_normal ?_
   exact ⟨(x17_4_1 != 0), R.weak ⟨rfl, rfl, rfl, rfl, trivial⟩, h⟩
 ·rintro a w ⟨y5_25, R, h⟩
  unfold levylaw19_world_other.k5 at h
  rcases ite_cases h with ⟨g6, h⟩ | ⟨g6, h⟩
  ·refine wp_condT R (congrArg (fun b => some (Value.bool b)) g6) ?_
   refine wp_seq ?_
   refine wp_region_lit ?_
   refine oas R rfl rfl fun a R => ?_
   refine wpList_nil ?_
   refine then_normal ?_
   refine wp_ret ?_
   refine then_ret ?_
   exact post_ret R rfl rfl ⟨false, rfl, h⟩
  ·refine wp_condF R (congrArg (fun b => some (Value.bool b)) g6) ?_
   refine wp_skip ?_
   refine then_normal ?_
   refine wp_seq ?_
   refine wp_region_lit ?_
   refine omv R rfl rfl fun a R => ?_
   refine omv R rfl rfl fun a R => ?_
   refine op_call R (rn_calls R rfl cf18) rfl ?_
   refine call_mono (s_drawer_Disk_Restart _ _ _ _ h) ?_
   rintro _ w18 ⟨rfl, h⟩ a R
   refine wpList_nil ?_
   refine then_normal ?_
   refine wp_seq ?_
   refine wp_region_lit ?_
   refine omv R rfl rfl fun a R => ?_
   refine omv R rfl rfl fun a R => ?_
   obtain ⟨x32_8, cx32_8, h⟩ := h
   refine onl R rfl cx32_8 rfl fun a R => ?_
   refine ofd R rfl fd32_2 rfl fun a R => ?_
   obtain ⟨x34_9, cx34_9, h⟩ := h
   refine old R rfl Tryd.underlying22 rfl cx34_9 rfl fun a R => ?_
   refine op_call R (rn_calls R rfl cf19) rfl ?_
   refine call_mono (s_drawer_Open _ _ _ _ h) ?_
   rintro _ w17 ⟨x35_10_0, x35_10_1, x35_10_2, x35_10_3, rfl, h⟩ a R
   refine omv R rfl rfl fun a R => ?_
   refine op_val R (rn_ext R rfl rfl) rfl fun a R => ?_
   refine op_val R (rn_ext R rfl rfl) rfl fun a R => ?_
   refine op_val R (rn_ext R rfl rfl) rfl fun a R => ?_
   refine op_val R (rn_ext R rfl rfl) rfl fun a R => ?_
   refine oas R rfl rfl fun a R => ?_
   refine oas R rfl rfl fun a R => ?_
   refine oas R rfl rfl fun a R => ?_
   refine oas R rfl rfl fun a R => ?_
   refine wpList_nil ?_
   refine then_normal ?_
   refine seq_join (fun a w => ∃ y11_4 : Bool, Rep a 52 [(4, .bool y11_4)] [] ∧ levylaw19_world_other.k11 y11_4 Q w) ?_ ?_
   ·refine wp_region_lit ?_
    refine omv R rfl rfl fun a R => ?_
    refine op_val R (rn_bin (v := .bool (x35_10_3 == 0)) R rfl rfl rfl) rfl fun a R => ?_
    refine omv R rfl rfl fun a R => ?_
    rcases ite_cases h with ⟨g13, h⟩ | ⟨g13, h⟩
    ·refine op_guard R rfl rfl rfl g13 ?_
     refine omv R rfl rfl fun a R => ?_
     refine op_guard R rfl rfl rfl g13 ?_
     refine op_val R (rn_nilPN R rfl rfl Tryd.underlying28) rfl fun a R => ?_
     refine op_val R (rn_pickT R rfl g13 rfl) rfl fun a R => ?_
     refine omv R rfl rfl fun a R => ?_
     rcases ite_cases h with ⟨g14, h⟩ | ⟨g14, h⟩
     ·refine op_pass R rfl rfl rfl (ntf (nf g14)) (fun a R => ?_) (by intro s hs; cases hs; rfl)
      refine op_pass R rfl rfl rfl (ntf (nf g14)) (fun a R => ?_) (by intro s hs; cases hs; rfl)
      refine op_pass R rfl rfl rfl (ntf (nf g14)) (fun a R => ?_) (by intro s hs; cases hs; rfl)
      refine op_pass R rfl rfl rfl (ntf (nf g14)) (fun a R => ?_) (by intro s hs; cases hs; rfl)
      refine op_val R (rn_pickF R rfl (nf g14) rfl) rfl fun a R => ?_
      refine oas R rfl rfl fun a R => ?_
      refine wpList_nil ?_
      refine then_normal ?_
      exact ⟨false, R.weak ⟨rfl, trivial⟩, h⟩
     ·refine op_guard R rfl rfl rfl (nt g14) ?_
      refine omv R rfl rfl fun a R => ?_
      refine op_guard R rfl rfl rfl (nt g14) ?_
      refine omv R rfl rfl fun a R => ?_
      refine op_guard R rfl rfl rfl (nt g14) ?_
      refine omv R rfl rfl fun a R => ?_
      refine op_guard R rfl rfl rfl (nt g14) ?_
      refine op_call R (rn_calls R rfl cf22) rfl ?_
      refine call_mono (s_levylaw19_world_may _ _ _ _ _ h) ?_
      rintro _ w16 ⟨x50_15_0, rfl, h⟩ a R
      refine op_val R (rn_pickT R rfl (nt g14) rfl) rfl fun a R => ?_
      refine oas R rfl rfl fun a R => ?_
      refine wpList_nil ?_
      refine then_normal ?_
      exact ⟨x50_15_0, R.weak ⟨rfl, trivial⟩, h⟩
    ·refine op_pass R rfl rfl rfl (ntf g13) (fun a R => ?_) (by intro s hs; cases hs; rfl)
     refine op_pass R rfl rfl rfl (ntf g13) (fun a R => ?_) (by intro s hs; cases hs; rfl)
     refine op_val R (rn_pickF R rfl g13 rfl) rfl fun a R => ?_
     refine omv R rfl rfl fun a R => ?_
     refine op_pass R rfl rfl rfl (ntf rfl) (fun a R => ?_) (by intro s hs; cases hs; rfl)
     refine op_pass R rfl rfl rfl (ntf rfl) (fun a R => ?_) (by intro s hs; cases hs; rfl)
     refine op_pass R rfl rfl rfl (ntf rfl) (fun a R => ?_) (by intro s hs; cases hs; rfl)
     refine op_pass R rfl rfl rfl (ntf rfl) (fun a R => ?_) (by intro s hs; cases hs; rfl)
     refine op_val R (rn_pickF R rfl rfl rfl) rfl fun a R => ?_
     refine oas R rfl rfl fun a R => ?_
     refine wpList_nil ?_
     refine then_normal ?_
     exact ⟨false, R.weak ⟨rfl, trivial⟩, h⟩
   ·rintro a w ⟨y11_4, R, h⟩
    unfold levylaw19_world_other.k11 at h
    refine wp_ret ?_
    exact post_ret R rfl rfl ⟨y11_4, rfl, h⟩
theorem s_levylaw19_world_other (x0 : Option Addr) (x1 : Sl) (Q : Bool → World → Prop) (w : World) (h : levylaw19_world_other x0 x1 Q w) :
    Calls Tryd.prog 17 #[.pointer x0, Sl.val x1] w (Rets fun v w => ∃ r0 : Bool, v = (.bool r0 : Value) ∧ Q r0 w) :=
  calls_body (args := [.pointer x0, Sl.val x1]) Tryd.func17 rfl rfl (Nat.le_of_ble_eq_true rfl) (L := [(0, .pointer x0), (1, Sl.val x1)]) (by simp [starts]) (b_levylaw19_world_other x0 x1 Q w h rfl)

/-! (drawer.Drawer).Fold -/

def drawer_Drawer_Fold (x0 : Option Addr) (x1 : Sl) (Q : Int → World → Prop) (w : World) : Prop :=
  al w (.cells #[.int .i64 0] 34) fun x4_1 w => nn x0 fun x9_3 => ld Value.bool w (x9_3.add 4) fun x11_4 => (if x11_4 = true then st w x4_1 (.int .i64 196) fun w => ld (Value.int .i64) w x4_1 fun r7 => Q r7 w else (if (decide (((x1.len : Nat) : Int) > 1048576)) = true then st w x4_1 (.int .i64 197) fun w => ld (Value.int .i64) w x4_1 fun r12 => Q r12 w else nn x0 fun x18_13 => ld (Value.int .i64) w (x18_13.add 2) fun x20_14 => (if (x20_14 == 99999999) = true then st w x4_1 (.int .i64 194) fun w => ld (Value.int .i64) w x4_1 fun r18 => Q r18 w else nn x0 fun x24_19 => ld Value.pointer (World.drew w) (x24_19.add 0) fun x26_20 => nn x0 fun x28_21 => ld (Value.int .i64) (World.drew w) (x28_21.add 2) fun x30_22 => nn x0 fun x34_24 => ld (Value.int .u32) (World.drew w) (x34_24.add 1) fun x36_25 => drawer_name (IntKind.i64.wrap (x30_22 + 1)) (fun x32_26_0 w => ((World.cell? w (x24_19.add 0) = some (.pointer x26_20) ∧ World.cell? w (x28_21.add 2) = some (.int .i64 x30_22) ∧ World.cell? w (x34_24.add 1) = some (.int .u32 x36_25) ∧ True) ∧ drawer_piece 0 x36_25 0 x1 (fun x38_27_0 w => ((World.cell? w (x24_19.add 0) = some (.pointer x26_20) ∧ World.cell? w (x28_21.add 2) = some (.int .i64 x30_22) ∧ World.cell? w (x34_24.add 1) = some (.int .u32 x36_25) ∧ True) ∧ drawer_Disk_lay x26_20 x32_26_0 x38_27_0 (fun x39_28_0 w => (if (x39_28_0 != 0) = true then st w x4_1 (.int .i64 x39_28_0) fun w => drawer_Drawer_stick x0 (some x4_1) (fun w => ld (Value.int .i64) w x4_1 fun r32 => Q r32 w) w else nn x0 fun x44_34 => ld Value.pointer (World.drew w) (x44_34.add 0) fun x46_35 => nn x0 fun x48_36 => ld (Value.int .i64) (World.drew w) (x48_36.add 2) fun x50_37 => drawer_name x50_37 (fun x51_38_0 w => ((World.cell? w (x44_34.add 0) = some (.pointer x46_35) ∧ World.cell? w (x48_36.add 2) = some (.int .i64 x50_37) ∧ True) ∧ drawer_Disk_Remove x46_35 x51_38_0 (fun x52_39_0 w => (if (x52_39_0 != 0) = true then st w x4_1 (.int .i64 x52_39_0) fun w => drawer_Drawer_stick x0 (some x4_1) (fun w => ld (Value.int .i64) w x4_1 fun r43 => Q r43 w) w else nn x0 fun x57_45 => ld (Value.int .i64) w (x57_45.add 2) fun x59_46 => nn x0 fun x61_48 => st w (x61_48.add 2) (.int .i64 (IntKind.i64.wrap (x59_46 + 1))) fun w => nn x0 fun x64_50 => st w (x64_50.add 3) (.int .i64 0) fun w => st w x4_1 (.int .i64 0) fun w => drawer_Drawer_stick x0 (some x4_1) (fun w => ld (Value.int .i64) w x4_1 fun r53 => Q r53 w) w)) w)) (World.drew w))) w)) w)) (World.drew w))))

theorem b_drawer_Drawer_Fold (x0 : Option Addr) (x1 : Sl) (Q : Int → World → Prop) (w : World) (h : drawer_Drawer_Fold x0 x1 Q w) {c : Code} (hb : Tryd.f32.body = some c) :
 ∀ a, Rep a 66 [(0, .pointer x0), (1, Sl.val x1)] [] → c.wp Tryd.prog (np (bodyPostD Tryd.prog Tryd.f32 (Rets fun v w => ∃ r0 : Int, v = (.int .i64 r0 : Value) ∧ Q r0 w))) a w := by
 intro a R
 obtain rfl := Option.some.inj hb
 unfold drawer_Drawer_Fold at h
 refine wp_seq ?_
 refine wp_region_lit ?_
 obtain ⟨x4_1, e2, h⟩ := al_e h
 refine op_val (v := .pointer (some x4_1)) R (by rw [e2]; exact rn_al R ze34) rfl fun a R => ?_
 refine wpList_nil ?_
 refine then_normal ?_
 refine wp_seq ?_
 refine wp_block ?_
 refine wp_seq ?_
 refine wp_region_lit ?_
 refine omv R rfl rfl fun a R => ?_
 obtain ⟨x9_3, cx9_3, h⟩ := h
 refine onl R rfl cx9_3 rfl fun a R => ?_
 refine ofd R rfl fd64_4 rfl fun a R => ?_
 obtain ⟨x11_4, cx11_4, h⟩ := h
 refine old R rfl Tryd.underlying4 rfl cx11_4 rfl fun a R => ?_
 refine oas R rfl rfl fun a R => ?_
 refine wpList_nil ?_
 refine then_normal ?_
 rcases ite_cases h with ⟨g5, h⟩ | ⟨g5, h⟩
 ·refine wp_condT R (congrArg (fun b => some (Value.bool b)) g5) ?_
  refine wp_seq ?_
  refine wp_region_lit ?_
  obtain ⟨q6, f6, h⟩ := h
  refine op_unit R (rn_st R rfl rfl rfl sz34 q6 f6) fun a R => ?_
  refine wpList_nil ?_
  refine then_normal ?_
  refine wp_ret ?_
  refine block_ret ?_
  refine then_ret ?_
  refine postD_ret R ?_
  obtain ⟨r7, cr7, h⟩ := h
  exact lv_nil (results_cell R rfl rfl Tryd.underlying34 rfl cr7) ⟨r7, rfl, h⟩
 ·refine wp_condF R (congrArg (fun b => some (Value.bool b)) g5) ?_
  refine wp_seq ?_
  refine wp_region_lit ?_
  refine omv R rfl rfl fun a R => ?_
  refine op_val R (rn_len R rfl Tryd.underlying29) rfl fun a R => ?_
  refine op_val R (rn_bin (v := .bool (decide (((x1.len : Nat) : Int) > 1048576))) R rfl rfl rfl) rfl fun a R => ?_
  refine oas R rfl rfl fun a R => ?_
  refine wpList_nil ?_
  refine then_normal ?_
  rcases ite_cases h with ⟨g10, h⟩ | ⟨g10, h⟩
  ·refine wp_condT R (congrArg (fun b => some (Value.bool b)) g10) ?_
   refine wp_seq ?_
   refine wp_region_lit ?_
   obtain ⟨q11, f11, h⟩ := h
   refine op_unit R (rn_st R rfl rfl rfl sz34 q11 f11) fun a R => ?_
   refine wpList_nil ?_
   refine then_normal ?_
   refine wp_ret ?_
   refine block_ret ?_
   refine then_ret ?_
   refine postD_ret R ?_
   obtain ⟨r12, cr12, h⟩ := h
   exact lv_nil (results_cell R rfl rfl Tryd.underlying34 rfl cr12) ⟨r12, rfl, h⟩
  ·refine wp_condF R (congrArg (fun b => some (Value.bool b)) g10) ?_
   refine wp_seq ?_
   refine wp_region_lit ?_
   refine omv R rfl rfl fun a R => ?_
   obtain ⟨x18_13, cx18_13, h⟩ := h
   refine onl R rfl cx18_13 rfl fun a R => ?_
   refine ofd R rfl fd64_2 rfl fun a R => ?_
   obtain ⟨x20_14, cx20_14, h⟩ := h
   refine old R rfl Tryd.underlying3 rfl cx20_14 rfl fun a R => ?_
   refine op_val R (rn_bin (v := .bool (x20_14 == 99999999)) R rfl rfl rfl) rfl fun a R => ?_
   refine oas R rfl rfl fun a R => ?_
   refine wpList_nil ?_
   refine then_normal ?_
   rcases ite_cases h with ⟨g16, h⟩ | ⟨g16, h⟩
   ·refine wp_condT R (congrArg (fun b => some (Value.bool b)) g16) ?_
    refine wp_seq ?_
    refine wp_region_lit ?_
    obtain ⟨q17, f17, h⟩ := h
    refine op_unit R (rn_st R rfl rfl rfl sz34 q17 f17) fun a R => ?_
    refine wpList_nil ?_
    refine then_normal ?_
    refine wp_ret ?_
    refine block_ret ?_
    refine then_ret ?_
    refine postD_ret R ?_
    obtain ⟨r18, cr18, h⟩ := h
    exact lv_nil (results_cell R rfl rfl Tryd.underlying34 rfl cr18) ⟨r18, rfl, h⟩
   ·refine wp_condF R (congrArg (fun b => some (Value.bool b)) g16) ?_
    refine wp_skip ?_
    refine block_normal ?_
    refine then_normal ?_
    refine wp_seq ?_
    refine wp_region_lit ?_
    refine omv R rfl rfl fun a R => ?_
    refine op_defer R (rn_df (vs := [.pointer x0, .pointer (some x4_1)]) R rfl rfl) fun a R => ?_
    refine wpList_nil ?_
    refine then_normal ?_
    refine wp_seq ?_
    refine wp_seq ?_
    refine region_start mo fun inv => ?_
    obtain ⟨x24_19, cx24_19, h⟩ := h
    obtain ⟨x26_20, cx26_20, h⟩ := h
    obtain ⟨x28_21, cx28_21, h⟩ := h
    obtain ⟨x30_22, cx30_22, h⟩ := h
    obtain ⟨x34_24, cx34_24, h⟩ := h
    obtain ⟨x36_25, cx36_25, h⟩ := h
    refine seg_held (n := 16) (f := 16) (g := 2) (fun w : World => w.cell? (x24_19.add 0) = some (.pointer x26_20) ∧ w.cell? (x28_21.add 2) = some (.int .i64 x30_22) ∧ w.cell? (x34_24.add 1) = some (.int .u32 x36_25) ∧ True) (by kernel_rfl) fun inv => ?_
    have hS0 : (fun w : World => w.cell? (x24_19.add 0) = some (.pointer x26_20) ∧ w.cell? (x28_21.add 2) = some (.int .i64 x30_22) ∧ w.cell? (x34_24.add 1) = some (.int .u32 x36_25) ∧ True) _ := ⟨cx26_20, cx30_22, cx36_25, trivial⟩
    refine dr_val (i := 0) R (waits_dom (by kernel_rfl) (by kernel_rfl)) (by kernel_rfl) inv rfl (by decide) (by kernel_rfl) (by kernel_rfl) (fun _ _ _ h => h) wanted_none (fun w' hS => rn_mv R rfl) hS0 rfl fun inv a R => ?_
    refine dr_val (i := 1) R (waits_dom (by kernel_rfl) (by kernel_rfl)) (by kernel_rfl) inv rfl (by decide) (by kernel_rfl) (by kernel_rfl) (fun _ _ _ h => h) wanted_none (fun w' hS => rn_nil R rfl cx24_19) hS0 rfl fun inv a R => ?_
    refine dr_val (i := 2) R (waits_dom (by kernel_rfl) (by kernel_rfl)) (by kernel_rfl) inv rfl (by decide) (by kernel_rfl) (by kernel_rfl) (fun _ _ _ h => h) wanted_none (fun w' hS => rn_fld R rfl fd64_0) hS0 rfl fun inv a R => ?_
    refine dr_val (i := 3) R (waits_dom (by kernel_rfl) (by kernel_rfl)) (by kernel_rfl) inv rfl (by decide) (by kernel_rfl) (by kernel_rfl) (fun _ _ _ h => h) wanted_none (fun w' hS => rn_ld R rfl Tryd.underlying27 rfl (hS.1)) hS0 rfl fun inv a R => ?_
    refine dr_val (i := 4) R (waits_dom (by kernel_rfl) (by kernel_rfl)) (by kernel_rfl) inv rfl (by decide) (by kernel_rfl) (by kernel_rfl) (fun _ _ _ h => h) wanted_none (fun w' hS => rn_mv R rfl) hS0 rfl fun inv a R => ?_
    refine dr_val (i := 5) R (waits_dom (by kernel_rfl) (by kernel_rfl)) (by kernel_rfl) inv rfl (by decide) (by kernel_rfl) (by kernel_rfl) (fun _ _ _ h => h) wanted_none (fun w' hS => rn_nil R rfl cx28_21) hS0 rfl fun inv a R => ?_
    refine dr_val (i := 6) R (waits_dom (by kernel_rfl) (by kernel_rfl)) (by kernel_rfl) inv rfl (by decide) (by kernel_rfl) (by kernel_rfl) (fun _ _ _ h => h) wanted_none (fun w' hS => rn_fld R rfl fd64_2) hS0 rfl fun inv a R => ?_
    refine dr_val (i := 7) R (waits_dom (by kernel_rfl) (by kernel_rfl)) (by kernel_rfl) inv rfl (by decide) (by kernel_rfl) (by kernel_rfl) (fun _ _ _ h => h) wanted_none (fun w' hS => rn_ld R rfl Tryd.underlying3 rfl (hS.2.1)) hS0 rfl fun inv a R => ?_
    refine dr_val (i := 8) R (waits_dom (by kernel_rfl) (by kernel_rfl)) (by kernel_rfl) inv rfl (by decide) (by kernel_rfl) (by kernel_rfl) (fun _ _ _ h => h) wanted_none (fun w' hS => rn_bin (v := .int .i64 (IntKind.i64.wrap (x30_22 + 1))) R rfl rfl rfl) hS0 rfl fun inv a R => ?_
    refine dr_val (i := 10) R (waits_dom (by kernel_rfl) (by kernel_rfl)) (by kernel_rfl) inv rfl (by decide) (by kernel_rfl) (by kernel_rfl) (fun _ _ _ h => h) wanted_none (fun w' hS => rn_mv R rfl) hS0 rfl fun inv a R => ?_
    refine dr_val (i := 11) R (waits_dom (by kernel_rfl) (by kernel_rfl)) (by kernel_rfl) inv rfl (by decide) (by kernel_rfl) (by kernel_rfl) (fun _ _ _ h => h) wanted_none (fun w' hS => rn_nil R rfl cx34_24) hS0 rfl fun inv a R => ?_
    refine dr_val (i := 12) R (waits_dom (by kernel_rfl) (by kernel_rfl)) (by kernel_rfl) inv rfl (by decide) (by kernel_rfl) (by kernel_rfl) (fun _ _ _ h => h) wanted_none (fun w' hS => rn_fld R rfl fd64_1) hS0 rfl fun inv a R => ?_
    refine dr_val (i := 13) R (waits_dom (by kernel_rfl) (by kernel_rfl)) (by kernel_rfl) inv rfl (by decide) (by kernel_rfl) (by kernel_rfl) (fun _ _ _ h => h) wanted_none (fun w' hS => rn_ld R rfl Tryd.underlying22 rfl (hS.2.2.1)) hS0 rfl fun inv a R => ?_
    refine dr_val (i := 14) R (waits_dom (by kernel_rfl) (by kernel_rfl)) (by kernel_rfl) inv rfl (by decide) (by kernel_rfl) (by kernel_rfl) (fun _ _ _ h => h) wanted_none (fun w' hS => rn_mv R rfl) hS0 rfl fun inv a R => ?_
    refine dr_call (i := 9) R inv rfl (by decide) (by kernel_rfl) wanted_none (rn_calls R rfl cf26) rfl ?_
    refine call_mono (s_drawer_name _ _ _ h) ?_
    rintro _ w59 ⟨x32_26_0, rfl, hS0, h⟩
    refine ⟨hS0, fun a inv R => ?_⟩
    refine dr_call (i := 15) R inv rfl (by decide) (by kernel_rfl) wanted_none (rn_calls R rfl cf27) rfl ?_
    refine call_mono (s_drawer_piece _ _ _ _ _ _ h) ?_
    rintro _ w58 ⟨x38_27_0, rfl, hS0, h⟩
    refine ⟨hS0, fun a inv R => ?_⟩
    refine seg_end (by kernel_rfl) ?_
    refine any_tail 16 (by kernel_rfl) ?_
    refine op_call R (rn_calls R rfl cf25) rfl ?_
    refine call_mono (s_drawer_Disk_lay _ _ _ _ _ h) ?_
    rintro _ w57 ⟨x39_28_0, rfl, h⟩ a R
    refine oas R rfl rfl fun a R => ?_
    refine wpList_nil ?_
    refine then_normal ?_
    refine wp_seq ?_
    refine wp_region_lit ?_
    refine omv R rfl rfl fun a R => ?_
    refine op_val R (rn_bin (v := .bool (x39_28_0 != 0)) R rfl rfl rfl) rfl fun a R => ?_
    refine wpList_nil ?_
    refine then_normal ?_
    rcases ite_cases h with ⟨g30, h⟩ | ⟨g30, h⟩
    ·refine wp_condT R (congrArg (fun b => some (Value.bool b)) g30) ?_
     refine wp_seq ?_
     refine wp_region_lit ?_
     refine omv R rfl rfl fun a R => ?_
     obtain ⟨q31, f31, h⟩ := h
     refine op_unit R (rn_st R rfl rfl rfl sz34 q31 f31) fun a R => ?_
     refine wpList_nil ?_
     refine then_normal ?_
     refine wp_ret ?_
     refine then_ret ?_
     refine postD_ret R ?_
     refine lv_cons rfl rfl (fun w => by kernel_rfl) (fun u => sD_drawer_Drawer_stick _ _ _ _ h u) ?_
     rintro _ w33 ⟨rfl, h⟩
     obtain ⟨r32, cr32, h⟩ := h
     exact lv_nil (results_cell R rfl rfl Tryd.underlying34 rfl cr32) ⟨r32, rfl, h⟩
    ·refine wp_condF R (congrArg (fun b => some (Value.bool b)) g30) ?_
     refine wp_skip ?_
     refine then_normal ?_
     refine wp_seq ?_
     refine wp_seq ?_
     refine region_start mo fun inv => ?_
     obtain ⟨x44_34, cx44_34, h⟩ := h
     obtain ⟨x46_35, cx46_35, h⟩ := h
     obtain ⟨x48_36, cx48_36, h⟩ := h
     obtain ⟨x50_37, cx50_37, h⟩ := h
     refine seg_held (n := 9) (f := 9) (g := 2) (fun w : World => w.cell? (x44_34.add 0) = some (.pointer x46_35) ∧ w.cell? (x48_36.add 2) = some (.int .i64 x50_37) ∧ True) (by kernel_rfl) fun inv => ?_
     have hS0 : (fun w : World => w.cell? (x44_34.add 0) = some (.pointer x46_35) ∧ w.cell? (x48_36.add 2) = some (.int .i64 x50_37) ∧ True) _ := ⟨cx46_35, cx50_37, trivial⟩
     refine dr_val (i := 0) R (waits_dom (by kernel_rfl) (by kernel_rfl)) (by kernel_rfl) inv rfl (by decide) (by kernel_rfl) (by kernel_rfl) (fun _ _ _ h => h) wanted_none (fun w' hS => rn_mv R rfl) hS0 rfl fun inv a R => ?_
     refine dr_val (i := 1) R (waits_dom (by kernel_rfl) (by kernel_rfl)) (by kernel_rfl) inv rfl (by decide) (by kernel_rfl) (by kernel_rfl) (fun _ _ _ h => h) wanted_none (fun w' hS => rn_nil R rfl cx44_34) hS0 rfl fun inv a R => ?_
     refine dr_val (i := 2) R (waits_dom (by kernel_rfl) (by kernel_rfl)) (by kernel_rfl) inv rfl (by decide) (by kernel_rfl) (by kernel_rfl) (fun _ _ _ h => h) wanted_none (fun w' hS => rn_fld R rfl fd64_0) hS0 rfl fun inv a R => ?_
     refine dr_val (i := 3) R (waits_dom (by kernel_rfl) (by kernel_rfl)) (by kernel_rfl) inv rfl (by decide) (by kernel_rfl) (by kernel_rfl) (fun _ _ _ h => h) wanted_none (fun w' hS => rn_ld R rfl Tryd.underlying27 rfl (hS.1)) hS0 rfl fun inv a R => ?_
     refine dr_val (i := 4) R (waits_dom (by kernel_rfl) (by kernel_rfl)) (by kernel_rfl) inv rfl (by decide) (by kernel_rfl) (by kernel_rfl) (fun _ _ _ h => h) wanted_none (fun w' hS => rn_mv R rfl) hS0 rfl fun inv a R => ?_
     refine dr_val (i := 5) R (waits_dom (by kernel_rfl) (by kernel_rfl)) (by kernel_rfl) inv rfl (by decide) (by kernel_rfl) (by kernel_rfl) (fun _ _ _ h => h) wanted_none (fun w' hS => rn_nil R rfl cx48_36) hS0 rfl fun inv a R => ?_
     refine dr_val (i := 6) R (waits_dom (by kernel_rfl) (by kernel_rfl)) (by kernel_rfl) inv rfl (by decide) (by kernel_rfl) (by kernel_rfl) (fun _ _ _ h => h) wanted_none (fun w' hS => rn_fld R rfl fd64_2) hS0 rfl fun inv a R => ?_
     refine dr_val (i := 7) R (waits_dom (by kernel_rfl) (by kernel_rfl)) (by kernel_rfl) inv rfl (by decide) (by kernel_rfl) (by kernel_rfl) (fun _ _ _ h => h) wanted_none (fun w' hS => rn_ld R rfl Tryd.underlying3 rfl (hS.2.1)) hS0 rfl fun inv a R => ?_
     refine dr_call (i := 8) R inv rfl (by decide) (by kernel_rfl) wanted_none (rn_calls R rfl cf26) rfl ?_
     refine call_mono (s_drawer_name _ _ _ h) ?_
     rintro _ w56 ⟨x51_38_0, rfl, hS0, h⟩
     refine ⟨hS0, fun a inv R => ?_⟩
     refine seg_end (by kernel_rfl) ?_
     refine any_tail 9 (by kernel_rfl) ?_
     refine op_call R (rn_calls R rfl cf42) rfl ?_
     refine call_mono (s_drawer_Disk_Remove _ _ _ _ h) ?_
     rintro _ w55 ⟨x52_39_0, rfl, h⟩ a R
     refine oas R rfl rfl fun a R => ?_
     refine wpList_nil ?_
     refine then_normal ?_
     refine wp_seq ?_
     refine wp_region_lit ?_
     refine omv R rfl rfl fun a R => ?_
     refine op_val R (rn_bin (v := .bool (x52_39_0 != 0)) R rfl rfl rfl) rfl fun a R => ?_
     refine wpList_nil ?_
     refine then_normal ?_
     rcases ite_cases h with ⟨g41, h⟩ | ⟨g41, h⟩
     ·refine wp_condT R (congrArg (fun b => some (Value.bool b)) g41) ?_
      refine wp_seq ?_
      refine wp_region_lit ?_
      refine omv R rfl rfl fun a R => ?_
      obtain ⟨q42, f42, h⟩ := h
      refine op_unit R (rn_st R rfl rfl rfl sz34 q42 f42) fun a R => ?_
      refine wpList_nil ?_
      refine then_normal ?_
      refine wp_ret ?_
      refine then_ret ?_
      refine postD_ret R ?_
      refine lv_cons rfl rfl (fun w => by kernel_rfl) (fun u => sD_drawer_Drawer_stick _ _ _ _ h u) ?_
      rintro _ w44 ⟨rfl, h⟩
      obtain ⟨r43, cr43, h⟩ := h
      exact lv_nil (results_cell R rfl rfl Tryd.underlying34 rfl cr43) ⟨r43, rfl, h⟩
     ·refine wp_condF R (congrArg (fun b => some (Value.bool b)) g41) ?_
      refine wp_skip ?_
      refine then_normal ?_
      refine wp_seq ?_
      refine wp_region_lit ?_
      refine omv R rfl rfl fun a R => ?_
      obtain ⟨x57_45, cx57_45, h⟩ := h
      refine onl R rfl cx57_45 rfl fun a R => ?_
      refine ofd R rfl fd64_2 rfl fun a R => ?_
      obtain ⟨x59_46, cx59_46, h⟩ := h
      refine old R rfl Tryd.underlying3 rfl cx59_46 rfl fun a R => ?_
      refine op_val R (rn_bin (v := .int .i64 (IntKind.i64.wrap (x59_46 + 1))) R rfl rfl rfl) rfl fun a R => ?_
      obtain ⟨x61_48, cx61_48, h⟩ := h
      refine onl R rfl cx61_48 rfl fun a R => ?_
      refine ofd R rfl fd64_2 rfl fun a R => ?_
      obtain ⟨q49, f49, h⟩ := h
      refine op_unit R (rn_st R rfl rfl rfl sz3 q49 f49) fun a R => ?_
      refine wpList_nil ?_
      refine then_normal ?_
      refine wp_seq ?_
      refine wp_region_lit ?_
      refine omv R rfl rfl fun a R => ?_
      obtain ⟨x64_50, cx64_50, h⟩ := h
      refine onl R rfl cx64_50 rfl fun a R => ?_
      refine ofd R rfl fd64_3 rfl fun a R => ?_
      obtain ⟨q51, f51, h⟩ := h
      refine op_unit R (rn_st R rfl rfl rfl sz3 q51 f51) fun a R => ?_
      refine wpList_nil ?_
      refine then_normal ?_
      refine wp_seq ?_
      refine wp_region_lit ?_
      obtain ⟨q52, f52, h⟩ := h
      refine op_unit R (rn_st R rfl rfl rfl sz34 q52 f52) fun a R => ?_
      refine wpList_nil ?_
      refine then_normal ?_
      refine wp_ret ?_
      refine postD_ret R ?_
      refine lv_cons rfl rfl (fun w => by kernel_rfl) (fun u => sD_drawer_Drawer_stick _ _ _ _ h u) ?_
      rintro _ w54 ⟨rfl, h⟩
      obtain ⟨r53, cr53, h⟩ := h
      exact lv_nil (results_cell R rfl rfl Tryd.underlying34 rfl cr53) ⟨r53, rfl, h⟩
theorem s_drawer_Drawer_Fold (x0 : Option Addr) (x1 : Sl) (Q : Int → World → Prop) (w : World) (h : drawer_Drawer_Fold x0 x1 Q w) :
    Calls Tryd.prog 32 #[.pointer x0, Sl.val x1] w (Rets fun v w => ∃ r0 : Int, v = (.int .i64 r0 : Value) ∧ Q r0 w) :=
  calls_bodyD (args := [.pointer x0, Sl.val x1]) Tryd.func32 rfl rfl (Nat.le_of_ble_eq_true rfl) (L := [(0, .pointer x0), (1, Sl.val x1)]) (by simp [starts]) (b_drawer_Drawer_Fold x0 x1 Q w h rfl)

end Go.Proofs.YtjnifnlkicajhaaDoor.Fs
