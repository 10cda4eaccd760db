/-
  Written by a program of this claim (wip/gen/gen.py): what each Go function asks of the world, as a plain predicate, and that it is enough. No condition is put on any statement here.
-/
import Derived.Test.YtjnifnlkicajhaaDoorVcDraw
import Derived.Test.YtjnifnlkicajhaaDoorFacts
import Derived.Test.YtjnifnlkicajhaaDoorG1
set_option linter.unusedVariables false
set_option maxRecDepth 100000
set_option maxHeartbeats 2000000
namespace Go.Proofs.YtjnifnlkicajhaaDoor.Fs
open Go Vc

/-! (drawer.Disk).Remove$1 -/

def drawer_Disk_Remove_1 (x0 : Option Addr) (x1 : Addr) (x2 : Addr) (Q : World → Prop) (w : World) : Prop :=
  ld Value.pointer (World.drew w) x1 fun x4_1 => nn x4_1 fun x5_2 => ld Value.map (World.drew w) (x5_2.add 0) fun x7_3 => ld Value.string (World.drew w) x2 fun x8_4 => rn Tryd.prog id (Builtin.delete_ #[73, 9] 0 [.map x7_3, .string x8_4].toArray) (World.drew w) fun _ w => Q  w

theorem b_drawer_Disk_Remove_1 (x0 : Option Addr) (x1 : Addr) (x2 : Addr) (Q : World → Prop) (w : World) (h : drawer_Disk_Remove_1 x0 x1 x2 Q w) {c : Code} (hb : Tryd.f54.body = some c) :
 ∀ a, Rep a 9 [(0, .pointer x0), (1, .pointer (some x1)), (2, .pointer (some x2))] [] → c.wp Tryd.prog (bodyPost Tryd.prog Tryd.f54 (Rets fun v w => v = (.tuple #[] : Value) ∧ Q w)) a w := by
 intro a R
 obtain rfl := Option.some.inj hb
 unfold drawer_Disk_Remove_1 at h
 refine region_start mo fun inv => ?_
 refine seg_same (n := 5) (f := 5) (g := 1) (by kernel_rfl) fun inv => ?_
 obtain ⟨x4_1, cx4_1, h⟩ := h
 refine dr_val (i := 0) R (waits_dom (by kernel_rfl) (by kernel_rfl)) (by kernel_rfl) inv rfl (by decide) (by kernel_rfl) (by kernel_rfl) (fun _ _ _ h => h) wanted_none (fun w' hS => rn_ld R rfl Tryd.underlying27 rfl (cell_heap' hS cx4_1)) rfl (by decide) fun inv a R => ?_
 obtain ⟨x5_2, cx5_2, h⟩ := h
 refine dr_val (i := 1) R (waits_dom (by kernel_rfl) (by kernel_rfl)) (by kernel_rfl) inv rfl (by decide) (by kernel_rfl) (by kernel_rfl) (fun _ _ _ h => h) wanted_none (fun w' hS => rn_nil R rfl cx5_2) rfl (by decide) fun inv a R => ?_
 refine dr_val (i := 2) R (waits_dom (by kernel_rfl) (by kernel_rfl)) (by kernel_rfl) inv rfl (by decide) (by kernel_rfl) (by kernel_rfl) (fun _ _ _ h => h) wanted_none (fun w' hS => rn_fld R rfl fd75_0) rfl (by decide) fun inv a R => ?_
 obtain ⟨x7_3, cx7_3, h⟩ := h
 refine dr_val (i := 3) R (waits_dom (by kernel_rfl) (by kernel_rfl)) (by kernel_rfl) inv rfl (by decide) (by kernel_rfl) (by kernel_rfl) (fun _ _ _ h => h) wanted_none (fun w' hS => rn_ld R rfl Tryd.underlying73 rfl (cell_heap' hS cx7_3)) rfl (by decide) fun inv a R => ?_
 obtain ⟨x8_4, cx8_4, h⟩ := h
 refine dr_val (i := 4) R (waits_dom (by kernel_rfl) (by kernel_rfl)) (by kernel_rfl) inv rfl (by decide) (by kernel_rfl) (by kernel_rfl) (fun _ _ _ h => h) wanted_none (fun w' hS => rn_ld R rfl Tryd.underlying9 rfl (cell_heap' hS cx8_4)) rfl (by decide) fun inv a R => ?_
 refine seg_end (by kernel_rfl) ?_
 refine any_tail 5 (by kernel_rfl) ?_
 obtain ⟨x_5, w5, c5, h⟩ := h
 refine op_drop R (rn_bi (vs := [.map x7_3, .string x8_4]) R rfl (fun _ => rfl) c5) fun a R => ?_
 refine wpList_nil ?_
 exact post_end R rfl rfl ⟨rfl, h⟩
theorem s_drawer_Disk_Remove_1 (x0 : Option Addr) (x1 : Addr) (x2 : Addr) (Q : World → Prop) (w : World) (h : drawer_Disk_Remove_1 x0 x1 x2 Q w) :
    Calls Tryd.prog 54 #[.pointer x0, .pointer (some x1), .pointer (some x2)] w (Rets fun v w => v = (.tuple #[] : Value) ∧ Q w) :=
  calls_body (args := [.pointer x0, .pointer (some x1), .pointer (some x2)]) Tryd.func54 rfl rfl (Nat.le_of_ble_eq_true rfl) (L := [(0, .pointer x0), (1, .pointer (some x1)), (2, .pointer (some x2))]) (by simp [starts]) (b_drawer_Disk_Remove_1 x0 x1 x2 Q w h rfl)

/-! (drawer.Disk).Remove -/

def drawer_Disk_Remove (x0 : Option Addr) (x1 : ByteArray) (Q : Int → World → Prop) (w : World) : Prop :=
  al w (.cells #[.pointer x0] 27) fun x2_1 w => al w (.cells #[.string x1] 9) fun x3_3 w => ld Value.pointer w x2_1 fun x5_5 => ld Value.string w x3_3 fun x6_6 => drawer_Disk_change x5_5 x6_6 (.func (.func 54) #[] [.pointer (some x2_1), .pointer (some x3_3)].toArray : Value) (fun x8_7_0 w => Q x8_7_0 w) w

theorem b_drawer_Disk_Remove (x0 : Option Addr) (x1 : ByteArray) (Q : Int → World → Prop) (w : World) (h : drawer_Disk_Remove x0 x1 Q w) {c : Code} (hb : Tryd.f42.body = some c) :
 ∀ a, Rep a 9 [(0, .pointer x0), (1, .string x1)] [] → c.wp Tryd.prog (bodyPost Tryd.prog Tryd.f42 (Rets fun v w => ∃ r0 : Int, v = (.int .i64 r0 : Value) ∧ Q r0 w)) a w := by
 intro a R
 obtain rfl := Option.some.inj hb
 unfold drawer_Disk_Remove at h
 refine wp_seq ?_
 refine wp_region_lit ?_
 obtain ⟨x2_1, e2, h⟩ := al_e h
 refine op_val (v := .pointer (some x2_1)) R (by rw [e2]; exact rn_bx (x := (.tmp 0)) (t := 27) R rfl) rfl fun a R => ?_
 obtain ⟨x3_3, e4, h⟩ := al_e h
 refine op_val (v := .pointer (some x3_3)) R (by rw [e4]; exact rn_bx (x := (.tmp 1)) (t := 9) R rfl) rfl fun a R => ?_
 refine oas R rfl rfl fun a R => ?_
 refine wpList_nil ?_
 refine then_normal ?_
 refine wp_seq ?_
 refine wp_region_lit ?_
 obtain ⟨x5_5, cx5_5, h⟩ := h
 refine old R rfl Tryd.underlying27 rfl cx5_5 rfl fun a R => ?_
 obtain ⟨x6_6, cx6_6, h⟩ := h
 refine old R rfl Tryd.underlying9 rfl cx6_6 rfl fun a R => ?_
 refine op_val R (rn_fn (us := []) R rfl rfl) rfl fun a R => ?_
 refine op_call R (rn_calls R rfl cf49) rfl ?_
 refine call_mono (s_drawer_Disk_change _ _ _ _ _ h) ?_
 rintro _ w8 ⟨x8_7_0, rfl, h⟩ a R
 refine oas R rfl rfl fun a R => ?_
 refine wpList_nil ?_
 refine then_normal ?_
 refine wp_ret ?_
 exact post_ret R rfl rfl ⟨x8_7_0, rfl, h⟩
theorem s_drawer_Disk_Remove (x0 : Option Addr) (x1 : ByteArray) (Q : Int → World → Prop) (w : World) (h : drawer_Disk_Remove x0 x1 Q w) :
    Calls Tryd.prog 42 #[.pointer x0, .string x1] w (Rets fun v w => ∃ r0 : Int, v = (.int .i64 r0 : Value) ∧ Q r0 w) :=
  calls_body (args := [.pointer x0, .string x1]) Tryd.func42 rfl rfl (Nat.le_of_ble_eq_true rfl) (L := [(0, .pointer x0), (1, .string x1)]) (by simp [starts]) (b_drawer_Disk_Remove x0 x1 Q w h rfl)

/-! (drawer.Disk).Trim$1 -/

def drawer_Disk_Trim_1 (x0 : Option Addr) (x1 : Addr) (Q : World → Prop) (w : World) : Prop :=
  nn x0 fun x5_1 => ld Sl.val (World.drew w) (x5_1.add 0) fun x7_2 => ld (Value.int .i64) (World.drew w) x1 fun x8_3 => nn x0 fun x11_5 => ld Sl.val (World.drew w) (x11_5.add 0) fun x13_6 => ((0 : Int) ≤ (if ((x13_6.len : Nat) : Int) < (if 0 > x8_3 then 0 else x8_3) then ((x13_6.len : Nat) : Int) else (if 0 > x8_3 then 0 else x8_3)) ∧ (if ((x13_6.len : Nat) : Int) < (if 0 > x8_3 then 0 else x8_3) then ((x13_6.len : Nat) : Int) else (if 0 > x8_3 then 0 else x8_3)) ≤ ((x7_2.cap : Nat) : Int) ∧ nn x0 fun x17_10 => st (World.drew w) (x17_10.add 0) (Sl.val (cutSl ⟨x7_2.p, x7_2.len, x7_2.cap⟩ 1 0 (Int.toNat (if ((x13_6.len : Nat) : Int) < (if 0 > x8_3 then 0 else x8_3) then ((x13_6.len : Nat) : Int) else (if 0 > x8_3 then 0 else x8_3))) x7_2.cap)) fun w => nn x0 fun x21_12 => ld (Value.int .i64) (World.drew w) (x21_12.add 1) fun x23_13 => nn x0 fun x25_14 => ld Sl.val (World.drew w) (x25_14.add 0) fun x27_15 => nn x0 fun x30_18 => st (World.drew w) (x30_18.add 1) (.int .i64 (if ((x27_15.len : Nat) : Int) < x23_13 then ((x27_15.len : Nat) : Int) else x23_13)) fun w => Q  w)

theorem b_drawer_Disk_Trim_1 (x0 : Option Addr) (x1 : Addr) (Q : World → Prop) (w : World) (h : drawer_Disk_Trim_1 x0 x1 Q w) {c : Code} (hb : Tryd.f57.body = some c) :
 ∀ a, Rep a 32 [(0, .pointer x0), (1, .pointer (some x1))] [] → c.wp Tryd.prog (bodyPost Tryd.prog Tryd.f57 (Rets fun v w => v = (.tuple #[] : Value) ∧ Q w)) a w := by
 intro a R
 obtain rfl := Option.some.inj hb
 unfold drawer_Disk_Trim_1 at h
 refine wp_seq ?_
 refine region_start mo fun inv => ?_
 refine seg_same (n := 14) (f := 14) (g := 3) (by kernel_rfl) fun inv => ?_
 refine dr_val (i := 0) R (waits_dom (by kernel_rfl) (by kernel_rfl)) (by kernel_rfl) inv rfl (by decide) (by kernel_rfl) (by kernel_rfl) (fun _ _ _ h => h) wanted_none (fun w' hS => rn_mv R rfl) rfl (by decide) fun inv a R => ?_
 refine dr_val (i := 1) R (waits_dom (by kernel_rfl) (by kernel_rfl)) (by kernel_rfl) inv rfl (by decide) (by kernel_rfl) (by kernel_rfl) (fun _ _ _ h => h) wanted_none (fun w' hS => rn_mv R rfl) rfl (by decide) fun inv a R => ?_
 obtain ⟨x5_1, cx5_1, h⟩ := h
 refine dr_val (i := 2) R (waits_dom (by kernel_rfl) (by kernel_rfl)) (by kernel_rfl) inv rfl (by decide) (by kernel_rfl) (by kernel_rfl) (fun _ _ _ h => h) wanted_none (fun w' hS => rn_nil R rfl cx5_1) rfl (by decide) fun inv a R => ?_
 refine dr_val (i := 3) R (waits_dom (by kernel_rfl) (by kernel_rfl)) (by kernel_rfl) inv rfl (by decide) (by kernel_rfl) (by kernel_rfl) (fun _ _ _ h => h) wanted_none (fun w' hS => rn_fld R rfl fd78_0) rfl (by decide) fun inv a R => ?_
 obtain ⟨x7_2, cx7_2, h⟩ := h
 refine dr_val (i := 4) R (waits_dom (by kernel_rfl) (by kernel_rfl)) (by kernel_rfl) inv rfl (by decide) (by kernel_rfl) (by kernel_rfl) (fun _ _ _ h => h) wanted_none (fun w' hS => rn_ld R rfl Tryd.underlying29 rfl (cell_heap' hS cx7_2)) rfl (by decide) fun inv a R => ?_
 obtain ⟨x8_3, cx8_3, h⟩ := h
 refine dr_val (i := 5) R (waits_dom (by kernel_rfl) (by kernel_rfl)) (by kernel_rfl) inv rfl (by decide) (by kernel_rfl) (by kernel_rfl) (fun _ _ _ h => h) wanted_none (fun w' hS => rn_ld R rfl Tryd.underlying3 rfl (cell_heap' hS cx8_3)) rfl (by decide) fun inv a R => ?_
 refine dr_val (i := 6) R (waits_dom (by kernel_rfl) (by kernel_rfl)) (by kernel_rfl) inv rfl (by decide) (by kernel_rfl) (by kernel_rfl) (fun _ _ _ h => h) wanted_none (fun w' hS => rn_max R rfl rfl) rfl (by decide) fun inv a R => ?_
 refine dr_val (i := 7) R (waits_dom (by kernel_rfl) (by kernel_rfl)) (by kernel_rfl) inv rfl (by decide) (by kernel_rfl) (by kernel_rfl) (fun _ _ _ h => h) wanted_none (fun w' hS => rn_mv R rfl) rfl (by decide) fun inv a R => ?_
 obtain ⟨x11_5, cx11_5, h⟩ := h
 refine dr_val (i := 8) R (waits_dom (by kernel_rfl) (by kernel_rfl)) (by kernel_rfl) inv rfl (by decide) (by kernel_rfl) (by kernel_rfl) (fun _ _ _ h => h) wanted_none (fun w' hS => rn_nil R rfl cx11_5) rfl (by decide) fun inv a R => ?_
 refine dr_val (i := 9) R (waits_dom (by kernel_rfl) (by kernel_rfl)) (by kernel_rfl) inv rfl (by decide) (by kernel_rfl) (by kernel_rfl) (fun _ _ _ h => h) wanted_none (fun w' hS => rn_fld R rfl fd78_0) rfl (by decide) fun inv a R => ?_
 obtain ⟨x13_6, cx13_6, h⟩ := h
 refine dr_val (i := 10) R (waits_dom (by kernel_rfl) (by kernel_rfl)) (by kernel_rfl) inv rfl (by decide) (by kernel_rfl) (by kernel_rfl) (fun _ _ _ h => h) wanted_none (fun w' hS => rn_ld R rfl Tryd.underlying29 rfl (cell_heap' hS cx13_6)) rfl (by decide) fun inv a R => ?_
 refine dr_val (i := 11) R (waits_dom (by kernel_rfl) (by kernel_rfl)) (by kernel_rfl) inv rfl (by decide) (by kernel_rfl) (by kernel_rfl) (fun _ _ _ h => h) wanted_none (fun w' hS => rn_len R rfl Tryd.underlying29) rfl (by decide) fun inv a R => ?_
 refine dr_val (i := 12) R (waits_dom (by kernel_rfl) (by kernel_rfl)) (by kernel_rfl) inv rfl (by decide) (by kernel_rfl) (by kernel_rfl) (fun _ _ _ h => h) wanted_none (fun w' hS => rn_min R rfl rfl) rfl (by decide) fun inv a R => ?_
 obtain ⟨s9_0, s9_1, h⟩ := h
 refine dr_val (i := 13) R (waits_dom (by kernel_rfl) (by kernel_rfl)) (by kernel_rfl) inv rfl (by decide) (by kernel_rfl) (by kernel_rfl) (fun _ _ _ h => h) wanted_none (fun w' hS => rn_sl R rfl rfl (evo R rfl) rfl (fun w => bounds2 (lo := none) (hi := (some (.i64, (if ((x13_6.len : Nat) : Int) < (if 0 > x8_3 then 0 else x8_3) then ((x13_6.len : Nat) : Int) else (if 0 > x8_3 then 0 else x8_3))))) 0 (Int.toNat (if ((x13_6.len : Nat) : Int) < (if 0 > x8_3 then 0 else x8_3) then ((x13_6.len : Nat) : Int) else (if 0 > x8_3 then 0 else x8_3))) ⟨s9_0, s9_1, rfl⟩ rfl w) Tryd.underlying29 sz5) rfl (by decide) fun inv a R => ?_
 refine seg_end (by kernel_rfl) ?_
 refine any_tail 14 (by kernel_rfl) ?_
 obtain ⟨x17_10, cx17_10, h⟩ := h
 refine onl R rfl cx17_10 rfl fun a R => ?_
 refine ofd R rfl fd78_0 rfl fun a R => ?_
 obtain ⟨q11, f11, h⟩ := h
 refine op_unit R (rn_st R rfl rfl rfl sz29 q11 f11) fun a R => ?_
 refine wpList_nil ?_
 refine then_normal ?_
 refine region_start mo fun inv => ?_
 refine seg_same (n := 11) (f := 11) (g := 3) (by kernel_rfl) fun inv => ?_
 refine dr_val (i := 0) R (waits_dom (by kernel_rfl) (by kernel_rfl)) (by kernel_rfl) inv rfl (by decide) (by kernel_rfl) (by kernel_rfl) (fun _ _ _ h => h) wanted_none (fun w' hS => rn_mv R rfl) rfl (by decide) fun inv a R => ?_
 refine dr_val (i := 1) R (waits_dom (by kernel_rfl) (by kernel_rfl)) (by kernel_rfl) inv rfl (by decide) (by kernel_rfl) (by kernel_rfl) (fun _ _ _ h => h) wanted_none (fun w' hS => rn_mv R rfl) rfl (by decide) fun inv a R => ?_
 obtain ⟨x21_12, cx21_12, h⟩ := h
 refine dr_val (i := 2) R (waits_dom (by kernel_rfl) (by kernel_rfl)) (by kernel_rfl) inv rfl (by decide) (by kernel_rfl) (by kernel_rfl) (fun _ _ _ h => h) wanted_none (fun w' hS => rn_nil R rfl cx21_12) rfl (by decide) fun inv a R => ?_
 refine dr_val (i := 3) R (waits_dom (by kernel_rfl) (by kernel_rfl)) (by kernel_rfl) inv rfl (by decide) (by kernel_rfl) (by kernel_rfl) (fun _ _ _ h => h) wanted_none (fun w' hS => rn_fld R rfl fd78_1) rfl (by decide) fun inv a R => ?_
 obtain ⟨x23_13, cx23_13, h⟩ := h
 refine dr_val (i := 4) R (waits_dom (by kernel_rfl) (by kernel_rfl)) (by kernel_rfl) inv rfl (by decide) (by kernel_rfl) (by kernel_rfl) (fun _ _ _ h => h) wanted_none (fun w' hS => rn_ld R rfl Tryd.underlying3 rfl (cell_heap' hS cx23_13)) rfl (by decide) fun inv a R => ?_
 refine dr_val (i := 5) R (waits_dom (by kernel_rfl) (by kernel_rfl)) (by kernel_rfl) inv rfl (by decide) (by kernel_rfl) (by kernel_rfl) (fun _ _ _ h => h) wanted_none (fun w' hS => rn_mv R rfl) rfl (by decide) fun inv a R => ?_
 obtain ⟨x25_14, cx25_14, h⟩ := h
 refine dr_val (i := 6) R (waits_dom (by kernel_rfl) (by kernel_rfl)) (by kernel_rfl) inv rfl (by decide) (by kernel_rfl) (by kernel_rfl) (fun _ _ _ h => h) wanted_none (fun w' hS => rn_nil R rfl cx25_14) rfl (by decide) fun inv a R => ?_
 refine dr_val (i := 7) R (waits_dom (by kernel_rfl) (by kernel_rfl)) (by kernel_rfl) inv rfl (by decide) (by kernel_rfl) (by kernel_rfl) (fun _ _ _ h => h) wanted_none (fun w' hS => rn_fld R rfl fd78_0) rfl (by decide) fun inv a R => ?_
 obtain ⟨x27_15, cx27_15, h⟩ := h
 refine dr_val (i := 8) R (waits_dom (by kernel_rfl) (by kernel_rfl)) (by kernel_rfl) inv rfl (by decide) (by kernel_rfl) (by kernel_rfl) (fun _ _ _ h => h) wanted_none (fun w' hS => rn_ld R rfl Tryd.underlying29 rfl (cell_heap' hS cx27_15)) rfl (by decide) fun inv a R => ?_
 refine dr_val (i := 9) R (waits_dom (by kernel_rfl) (by kernel_rfl)) (by kernel_rfl) inv rfl (by decide) (by kernel_rfl) (by kernel_rfl) (fun _ _ _ h => h) wanted_none (fun w' hS => rn_len R rfl Tryd.underlying29) rfl (by decide) fun inv a R => ?_
 refine dr_val (i := 10) R (waits_dom (by kernel_rfl) (by kernel_rfl)) (by kernel_rfl) inv rfl (by decide) (by kernel_rfl) (by kernel_rfl) (fun _ _ _ h => h) wanted_none (fun w' hS => rn_min R rfl rfl) rfl (by decide) fun inv a R => ?_
 refine seg_end (by kernel_rfl) ?_
 refine any_tail 11 (by kernel_rfl) ?_
 obtain ⟨x30_18, cx30_18, h⟩ := h
 refine onl R rfl cx30_18 rfl fun a R => ?_
 refine ofd R rfl fd78_1 rfl fun a R => ?_
 obtain ⟨q19, f19, h⟩ := h
 refine op_unit R (rn_st R rfl rfl rfl sz3 q19 f19) fun a R => ?_
 refine wpList_nil ?_
 exact post_end R rfl rfl ⟨rfl, h⟩
theorem s_drawer_Disk_Trim_1 (x0 : Option Addr) (x1 : Addr) (Q : World → Prop) (w : World) (h : drawer_Disk_Trim_1 x0 x1 Q w) :
    Calls Tryd.prog 57 #[.pointer x0, .pointer (some x1)] w (Rets fun v w => v = (.tuple #[] : Value) ∧ Q w) :=
  calls_body (args := [.pointer x0, .pointer (some x1)]) Tryd.func57 rfl rfl (Nat.le_of_ble_eq_true rfl) (L := [(0, .pointer x0), (1, .pointer (some x1))]) (by simp [starts]) (b_drawer_Disk_Trim_1 x0 x1 Q w h rfl)

/-! (drawer.Disk).Trim -/

def drawer_Disk_Trim (x0 : Option Addr) (x1 : ByteArray) (x2 : Int) (Q : Int → World → Prop) (w : World) : Prop :=
  al w (.cells #[.int .i64 x2] 3) fun x5_1 w => drawer_Disk_change x0 x1 (.func (.func 57) #[] [.pointer (some x5_1)].toArray : Value) (fun x10_3_0 w => Q x10_3_0 w) w

theorem b_drawer_Disk_Trim (x0 : Option Addr) (x1 : ByteArray) (x2 : Int) (Q : Int → World → Prop) (w : World) (h : drawer_Disk_Trim x0 x1 x2 Q w) {c : Code} (hb : Tryd.f45.body = some c) :
 ∀ a, Rep a 11 [(0, .pointer x0), (1, .string x1), (2, .int .i64 x2)] [] → c.wp Tryd.prog (bodyPost Tryd.prog Tryd.f45 (Rets fun v w => ∃ r0 : Int, v = (.int .i64 r0 : Value) ∧ Q r0 w)) a w := by
 intro a R
 obtain rfl := Option.some.inj hb
 unfold drawer_Disk_Trim at h
 refine wp_seq ?_
 refine wp_region_lit ?_
 obtain ⟨x5_1, e2, h⟩ := al_e h
 refine op_val (v := .pointer (some x5_1)) R (by rw [e2]; exact rn_bx (x := (.tmp 2)) (t := 3) R rfl) rfl fun a R => ?_
 refine oas R rfl rfl fun a R => ?_
 refine wpList_nil ?_
 refine then_normal ?_
 refine wp_seq ?_
 refine wp_region_lit ?_
 refine omv R rfl rfl fun a R => ?_
 refine omv R rfl rfl fun a R => ?_
 refine op_val R (rn_fn (us := []) R rfl rfl) rfl fun a R => ?_
 refine op_call R (rn_calls R rfl cf49) rfl ?_
 refine call_mono (s_drawer_Disk_change _ _ _ _ _ h) ?_
 rintro _ w4 ⟨x10_3_0, rfl, h⟩ a R
 refine oas R rfl rfl fun a R => ?_
 refine wpList_nil ?_
 refine then_normal ?_
 refine wp_ret ?_
 exact post_ret R rfl rfl ⟨x10_3_0, rfl, h⟩
theorem s_drawer_Disk_Trim (x0 : Option Addr) (x1 : ByteArray) (x2 : Int) (Q : Int → World → Prop) (w : World) (h : drawer_Disk_Trim x0 x1 x2 Q w) :
    Calls Tryd.prog 45 #[.pointer x0, .string x1, .int .i64 x2] w (Rets fun v w => ∃ r0 : Int, v = (.int .i64 r0 : Value) ∧ Q r0 w) :=
  calls_body (args := [.pointer x0, .string x1, .int .i64 x2]) Tryd.func45 rfl rfl (Nat.le_of_ble_eq_true rfl) (L := [(0, .pointer x0), (1, .string x1), (2, .int .i64 x2)]) (by simp [starts]) (b_drawer_Disk_Trim x0 x1 x2 Q w h rfl)

/-! (drawer.Disk).mend -/

def drawer_Disk_mend.k5  (Q : Int → World → Prop) (w : World) : Prop :=
  Q 0 w

def drawer_Disk_mend.k11 (x0 : Option Addr) (x3_1 : Addr) (x50_6_0 : Sl) (z8_52 : Int) (K8 : Int → World → Prop) (Q : Int → World → Prop) (w : World) : Prop :=
  K8 (IntKind.i64.wrap (z8_52 + 1)) w

def drawer_Disk_mend.k17 (x0 : Option Addr) (x3_1 : Addr) (x50_6_0 : Sl) (z8_52 : Int) (K8 : Int → World → Prop) (x55_15 : ByteArray) (y17_65 : Bool) (Q : Int → World → Prop) (w : World) : Prop :=
  (if y17_65 = true then drawer_Disk_Remove x0 x55_15 (fun x68_19_0 w => (if (x68_19_0 != 0) = true then Q x68_19_0 w else drawer_Disk_mend.k11 x0 x3_1 x50_6_0 z8_52 K8 Q w)) w else drawer_Disk_mend.k11 x0 x3_1 x50_6_0 z8_52 K8 Q w)

def drawer_Disk_mend.l8 (x0 : Option Addr) (x3_1 : Addr) (x50_6_0 : Sl) (z8_52 : Int) (Q : Int → World → Prop) (K8 : Int → World → Prop) (w : World) : Prop :=
  (if (decide (z8_52 < ((x50_6_0.len : Nat) : Int))) = true then ix x50_6_0.p x50_6_0.len z8_52 1 fun x54_14 => ld Value.string w x54_14 fun x55_15 => drawer_generation x55_15 (fun x57_16_0 w => (if (decide (x57_16_0 > 0)) = true then ld (Value.int .i64) w (x3_1.add 0) fun x63_25 => drawer_Disk_mend.k17 x0 x3_1 x50_6_0 z8_52 K8 x55_15 (x57_16_0 != x63_25) Q w else drawer_Disk_mend.k17 x0 x3_1 x50_6_0 z8_52 K8 x55_15 false Q w)) w else drawer_Disk_mend.k5  Q w)

def drawer_Disk_mend.k4 (x0 : Option Addr) (x3_1 : Addr) (Q : Int → World → Prop) (w : World) : Prop :=
  drawer_Disk_names x0 (fun x50_6_0 w => (Fix (σ := Int) (fun Ks s w => drawer_Disk_mend.l8 x0 x3_1 x50_6_0 s Q (fun z8_52 w => Ks z8_52 w) w) 0 w)) w

def drawer_Disk_mend.k29 (x0 : Option Addr) (x3_1 : Addr) (y29_40 : Bool) (Q : Int → World → Prop) (w : World) : Prop :=
  (if y29_40 = true then ld (Value.int .i64) w (x3_1.add 0) fun x43_31 => drawer_name x43_31 (fun x44_32_0 w => drawer_Disk_Sync x0 x44_32_0 (fun x45_33_0 w => (if (x45_33_0 != 0) = true then Q x45_33_0 w else drawer_Disk_mend.k4 x0 x3_1 Q w)) w) w else drawer_Disk_mend.k4 x0 x3_1 Q w)

def drawer_Disk_mend.k3 (x0 : Option Addr) (x3_1 : Addr) (Q : Int → World → Prop) (w : World) : Prop :=
  ld (Value.int .i64) w (x3_1.add 0) fun x32_38 => (if (decide (x32_38 > 0)) = true then ld (Value.int .i64) w (x3_1.add 6) fun x36_41 => ld (Value.int .i64) w (x3_1.add 4) fun x38_42 => drawer_Disk_mend.k29 x0 x3_1 (decide (x36_41 < x38_42)) Q w else drawer_Disk_mend.k29 x0 x3_1 false Q w)

def drawer_Disk_mend.k44 (x0 : Option Addr) (x3_1 : Addr) (y44_20 : Bool) (Q : Int → World → Prop) (w : World) : Prop :=
  (if y44_20 = true then ld (Value.int .i64) (World.drew w) (x3_1.add 0) fun x23_46 => ld (Value.int .i64) (World.drew w) (x3_1.add 4) fun x26_47 => drawer_name x23_46 (fun x24_48_0 w => ((World.cell? w (x3_1.add 0) = some (.int .i64 x23_46) ∧ World.cell? w (x3_1.add 4) = some (.int .i64 x26_47) ∧ True) ∧ drawer_Disk_Trim x0 x24_48_0 x26_47 (fun x27_49_0 w => (if (x27_49_0 != 0) = true then Q x27_49_0 w else drawer_Disk_mend.k3 x0 x3_1 Q w)) w)) (World.drew w) else drawer_Disk_mend.k3 x0 x3_1 Q w)

def drawer_Disk_mend (x0 : Option Addr) (x1_0 : Int) (x1_1 : Int) (x1_2 : Sl) (x1_3 : Sl) (x1_4 : Int) (x1_5 : Int) (x1_6 : Int) (Q : Int → World → Prop) (w : World) : Prop :=
  al w (.cells #[.int .i64 x1_0, .int .u32 x1_1, Sl.val x1_2, Sl.val x1_3, .int .i64 x1_4, .int .i64 x1_5, .int .i64 x1_6] 82) fun x3_1 w => ld (Value.int .i64) w (x3_1.add 0) fun x12_54 => (if (decide (x12_54 > 0)) = true then ld (Value.int .i64) w (x3_1.add 4) fun x16_57 => ld (Value.int .i64) w (x3_1.add 5) fun x18_58 => drawer_Disk_mend.k44 x0 x3_1 (decide (x16_57 < x18_58)) Q w else drawer_Disk_mend.k44 x0 x3_1 false Q w)

theorem b_drawer_Disk_mend (x0 : Option Addr) (x1_0 : Int) (x1_1 : Int) (x1_2 : Sl) (x1_3 : Sl) (x1_4 : Int) (x1_5 : Int) (x1_6 : Int) (Q : Int → World → Prop) (w : World) (h : drawer_Disk_mend x0 x1_0 x1_1 x1_2 x1_3 x1_4 x1_5 x1_6 Q w) {c : Code} (hb : Tryd.f34.body = some c) :
 ∀ a, Rep a 73 [(0, .pointer x0), (1, .agg #[.int .i64 x1_0, .int .u32 x1_1, Sl.val x1_2, Sl.val x1_3, .int .i64 x1_4, .int .i64 x1_5, .int .i64 x1_6])] [] → c.wp Tryd.prog (bodyPost Tryd.prog Tryd.f34 (Rets fun v w => ∃ r0 : Int, v = (.int .i64 r0 : Value) ∧ Q r0 w)) a w := by
 intro a R
 obtain rfl := Option.some.inj hb
 unfold drawer_Disk_mend at h
 refine wp_seq ?_
 refine wp_region_lit ?_
 obtain ⟨x3_1, e2, h⟩ := al_e h
 refine op_val (v := .pointer (some x3_1)) R (by rw [e2]; exact rn_bx (x := (.tmp 1)) (t := 82) R rfl) rfl fun a R => ?_
 refine oas R rfl rfl fun a R => ?_
 refine wpList_nil ?_
 refine then_normal ?_
 refine seq_join (fun a w => Rep a 73 [(0, .pointer x0), (3, .pointer (some x3_1))] [] ∧ drawer_Disk_mend.k3 x0 x3_1 Q w) ?_ ?_
 ·refine seq_join (fun a w => ∃ y44_20 : Bool, Rep a 73 [(0, .pointer x0), (3, .pointer (some x3_1)), (20, .bool y44_20)] [] ∧ drawer_Disk_mend.k44 x0 x3_1 y44_20 Q w) ?_ ?_
  ·refine wp_region_lit ?_
   refine ofd R rfl fd82_0 rfl fun a R => ?_
   obtain ⟨x12_54, cx12_54, h⟩ := h
   refine old R rfl Tryd.underlying3 rfl cx12_54 rfl fun a R => ?_
   refine op_val R (rn_bin (v := .bool (decide (x12_54 > 0))) R rfl rfl rfl) rfl fun a R => ?_
   refine omv R rfl rfl fun a R => ?_
   rcases ite_cases h with ⟨g56, h⟩ | ⟨g56, h⟩
   ·refine op_guard R rfl rfl rfl g56 ?_
    refine ofd R rfl fd82_4 rfl fun a R => ?_
    refine op_guard R rfl rfl rfl g56 ?_
    obtain ⟨x16_57, cx16_57, h⟩ := h
    refine old R rfl Tryd.underlying3 rfl cx16_57 rfl fun a R => ?_
    refine op_guard R rfl rfl rfl g56 ?_
    refine ofd R rfl fd82_5 rfl fun a R => ?_
    refine op_guard R rfl rfl rfl g56 ?_
    obtain ⟨x18_58, cx18_58, h⟩ := h
    refine old R rfl Tryd.underlying3 rfl cx18_58 rfl fun a R => ?_
    refine op_guard R rfl rfl rfl g56 ?_
    refine op_val R (rn_bin (v := .bool (decide (x16_57 < x18_58))) R rfl rfl rfl) rfl fun a R => ?_
    refine op_val R (rn_pickT R rfl g56 rfl) rfl fun a R => ?_
    refine wpList_nil ?_
    refine then_normal ?_
    exact ⟨(decide (x16_57 < x18_58)), R.weak ⟨rfl, rfl, rfl, trivial⟩, h⟩
   ·refine op_pass R rfl rfl rfl (ntf g56) (fun a R => ?_) (by intro s hs; cases hs; rfl)
    refine op_pass R rfl rfl rfl (ntf g56) (fun a R => ?_) (by intro s hs; cases hs; rfl)
    refine op_pass R rfl rfl rfl (ntf g56) (fun a R => ?_) (by intro s hs; cases hs; rfl)
    refine op_pass R rfl rfl rfl (ntf g56) (fun a R => ?_) (by intro s hs; cases hs; rfl)
    refine op_pass R rfl rfl rfl (ntf g56) (fun a R => ?_) (by intro s hs; cases hs; rfl)
    refine op_val R (rn_pickF R rfl g56 rfl) rfl fun a R => ?_
    refine wpList_nil ?_
    refine then_normal ?_
    exact ⟨false, R.weak ⟨rfl, rfl, rfl, trivial⟩, h⟩
  ·rintro a w ⟨y44_20, R, h⟩
   unfold drawer_Disk_mend.k44 at h
   rcases ite_cases h with ⟨g45, h⟩ | ⟨g45, h⟩
   ·refine wp_condT R (congrArg (fun b => some (Value.bool b)) g45) ?_
    refine wp_seq ?_
    refine region_start mo fun inv => ?_
    obtain ⟨x23_46, cx23_46, h⟩ := h
    obtain ⟨x26_47, cx26_47, h⟩ := h
    refine seg_held (n := 6) (f := 6) (g := 2) (fun w : World => w.cell? (x3_1.add 0) = some (.int .i64 x23_46) ∧ w.cell? (x3_1.add 4) = some (.int .i64 x26_47) ∧ True) (by kernel_rfl) fun inv => ?_
    have hS0 : (fun w : World => w.cell? (x3_1.add 0) = some (.int .i64 x23_46) ∧ w.cell? (x3_1.add 4) = some (.int .i64 x26_47) ∧ True) _ := ⟨cx23_46, cx26_47, trivial⟩
    refine dr_val (i := 0) R (waits_dom (by kernel_rfl) (by kernel_rfl)) (by kernel_rfl) inv rfl (by decide) (by kernel_rfl) (by kernel_rfl) (fun _ _ _ h => h) wanted_none (fun w' hS => rn_mv R rfl) hS0 rfl fun inv a R => ?_
    refine dr_val (i := 1) R (waits_dom (by kernel_rfl) (by kernel_rfl)) (by kernel_rfl) inv rfl (by decide) (by kernel_rfl) (by kernel_rfl) (fun _ _ _ h => h) wanted_none (fun w' hS => rn_fld R rfl fd82_0) hS0 rfl fun inv a R => ?_
    refine dr_val (i := 2) R (waits_dom (by kernel_rfl) (by kernel_rfl)) (by kernel_rfl) inv rfl (by decide) (by kernel_rfl) (by kernel_rfl) (fun _ _ _ h => h) wanted_none (fun w' hS => rn_ld R rfl Tryd.underlying3 rfl (hS.1)) hS0 rfl fun inv a R => ?_
    refine dr_val (i := 4) R (waits_dom (by kernel_rfl) (by kernel_rfl)) (by kernel_rfl) inv rfl (by decide) (by kernel_rfl) (by kernel_rfl) (fun _ _ _ h => h) wanted_none (fun w' hS => rn_fld R rfl fd82_4) hS0 rfl fun inv a R => ?_
    refine dr_val (i := 5) R (waits_dom (by kernel_rfl) (by kernel_rfl)) (by kernel_rfl) inv rfl (by decide) (by kernel_rfl) (by kernel_rfl) (fun _ _ _ h => h) wanted_none (fun w' hS => rn_ld R rfl Tryd.underlying3 rfl (hS.2.1)) hS0 rfl fun inv a R => ?_
    refine dr_call (i := 3) R inv rfl (by decide) (by kernel_rfl) wanted_none (rn_calls R rfl cf26) rfl ?_
    refine call_mono (s_drawer_name _ _ _ h) ?_
    rintro _ w53 ⟨x24_48_0, rfl, hS0, h⟩
    refine ⟨hS0, fun a inv R => ?_⟩
    refine seg_end (by kernel_rfl) ?_
    refine any_tail 6 (by kernel_rfl) ?_
    refine op_call R (rn_calls R rfl cf45) rfl ?_
    refine call_mono (s_drawer_Disk_Trim _ _ _ _ _ h) ?_
    rintro _ w52 ⟨x27_49_0, rfl, h⟩ a R
    refine oas R rfl rfl fun a R => ?_
    refine wpList_nil ?_
    refine then_normal ?_
    refine wp_seq ?_
    refine wp_region_lit ?_
    refine omv R rfl rfl fun a R => ?_
    refine op_val R (rn_bin (v := .bool (x27_49_0 != 0)) R rfl rfl rfl) rfl fun a R => ?_
    refine wpList_nil ?_
    refine then_normal ?_
    rcases ite_cases h with ⟨g51, h⟩ | ⟨g51, h⟩
    ·refine wp_condT R (congrArg (fun b => some (Value.bool b)) g51) ?_
     refine wp_seq ?_
     refine wp_region_lit ?_
     refine omv R rfl rfl fun a R => ?_
     refine oas R rfl rfl fun a R => ?_
     refine wpList_nil ?_
     refine then_normal ?_
     refine wp_ret ?_
     refine then_ret ?_
     exact post_ret R rfl rfl ⟨x27_49_0, rfl, h⟩
    ·refine wp_condF R (congrArg (fun b => some (Value.bool b)) g51) ?_
     refine wp_skip ?_
     refine then_normal ?_
     exact ⟨R.weak ⟨rfl, rfl, trivial⟩, h⟩
   ·refine wp_condF R (congrArg (fun b => some (Value.bool b)) g45) ?_
    refine wp_skip ?_
    refine then_normal ?_
    exact ⟨R.weak ⟨rfl, rfl, trivial⟩, h⟩
 ·rintro a w ⟨R, h⟩
  unfold drawer_Disk_mend.k3 at h
  refine seq_join (fun a w => Rep a 73 [(0, .pointer x0), (3, .pointer (some x3_1))] [] ∧ drawer_Disk_mend.k4 x0 x3_1 Q w) ?_ ?_
  ·refine seq_join (fun a w => ∃ y29_40 : Bool, Rep a 73 [(0, .pointer x0), (3, .pointer (some x3_1)), (40, .bool y29_40)] [] ∧ drawer_Disk_mend.k29 x0 x3_1 y29_40 Q w) ?_ ?_
   ·refine wp_region_lit ?_
    refine ofd R rfl fd82_0 rfl fun a R => ?_
    obtain ⟨x32_38, cx32_38, h⟩ := h
    refine old R rfl Tryd.underlying3 rfl cx32_38 rfl fun a R => ?_
    refine op_val R (rn_bin (v := .bool (decide (x32_38 > 0))) R rfl rfl rfl) rfl fun a R => ?_
    refine omv R rfl rfl fun a R => ?_
    rcases ite_cases h with ⟨g40, h⟩ | ⟨g40, h⟩
    ·refine op_guard R rfl rfl rfl g40 ?_
     refine ofd R rfl fd82_6 rfl fun a R => ?_
     refine op_guard R rfl rfl rfl g40 ?_
     obtain ⟨x36_41, cx36_41, h⟩ := h
     refine old R rfl Tryd.underlying3 rfl cx36_41 rfl fun a R => ?_
     refine op_guard R rfl rfl rfl g40 ?_
     refine ofd R rfl fd82_4 rfl fun a R => ?_
     refine op_guard R rfl rfl rfl g40 ?_
     obtain ⟨x38_42, cx38_42, h⟩ := h
     refine old R rfl Tryd.underlying3 rfl cx38_42 rfl fun a R => ?_
     refine op_guard R rfl rfl rfl g40 ?_
     refine op_val R (rn_bin (v := .bool (decide (x36_41 < x38_42))) R rfl rfl rfl) rfl fun a R => ?_
     refine op_val R (rn_pickT R rfl g40 rfl) rfl fun a R => ?_
     refine wpList_nil ?_
     refine then_normal ?_
     exact ⟨(decide (x36_41 < x38_42)), R.weak ⟨rfl, rfl, rfl, trivial⟩, h⟩
    ·refine op_pass R rfl rfl rfl (ntf g40) (fun a R => ?_) (by intro s hs; cases hs; rfl)
     refine op_pass R rfl rfl rfl (ntf g40) (fun a R => ?_) (by intro s hs; cases hs; rfl)
     refine op_pass R rfl rfl rfl (ntf g40) (fun a R => ?_) (by intro s hs; cases hs; rfl)
     refine op_pass R rfl rfl rfl (ntf g40) (fun a R => ?_) (by intro s hs; cases hs; rfl)
     refine op_pass R rfl rfl rfl (ntf g40) (fun a R => ?_) (by intro s hs; cases hs; rfl)
     refine op_val R (rn_pickF R rfl g40 rfl) rfl fun a R => ?_
     refine wpList_nil ?_
     refine then_normal ?_
     exact ⟨false, R.weak ⟨rfl, rfl, rfl, trivial⟩, h⟩
   ·rintro a w ⟨y29_40, R, h⟩
    unfold drawer_Disk_mend.k29 at h
    rcases ite_cases h with ⟨g30, h⟩ | ⟨g30, h⟩
    ·refine wp_condT R (congrArg (fun b => some (Value.bool b)) g30) ?_
     refine wp_seq ?_
     refine wp_region_lit ?_
     refine omv R rfl rfl fun a R => ?_
     refine ofd R rfl fd82_0 rfl fun a R => ?_
     obtain ⟨x43_31, cx43_31, h⟩ := h
     refine old R rfl Tryd.underlying3 rfl cx43_31 rfl fun a R => ?_
     refine op_call R (rn_calls R rfl cf26) rfl ?_
     refine call_mono (s_drawer_name _ _ _ h) ?_
     rintro _ w37 ⟨x44_32_0, rfl, h⟩ a R
     refine op_call R (rn_calls R rfl cf37) rfl ?_
     refine call_mono (s_drawer_Disk_Sync _ _ _ _ h) ?_
     rintro _ w36 ⟨x45_33_0, rfl, h⟩ a R
     refine oas R rfl rfl fun a R => ?_
     refine wpList_nil ?_
     refine then_normal ?_
     refine wp_seq ?_
     refine wp_region_lit ?_
     refine omv R rfl rfl fun a R => ?_
     refine op_val R (rn_bin (v := .bool (x45_33_0 != 0)) R rfl rfl rfl) rfl fun a R => ?_
     refine wpList_nil ?_
     refine then_normal ?_
     rcases ite_cases h with ⟨g35, h⟩ | ⟨g35, h⟩
     ·refine wp_condT R (congrArg (fun b => some (Value.bool b)) g35) ?_
      refine wp_seq ?_
      refine wp_region_lit ?_
      refine omv R rfl rfl fun a R => ?_
      refine oas R rfl rfl fun a R => ?_
      refine wpList_nil ?_
      refine then_normal ?_
      refine wp_ret ?_
      refine then_ret ?_
      exact post_ret R rfl rfl ⟨x45_33_0, rfl, h⟩
     ·refine wp_condF R (congrArg (fun b => some (Value.bool b)) g35) ?_
      refine wp_skip ?_
      refine then_normal ?_
      exact ⟨R.weak ⟨rfl, rfl, trivial⟩, h⟩
    ·refine wp_condF R (congrArg (fun b => some (Value.bool b)) g30) ?_
     refine wp_skip ?_
     refine then_normal ?_
     exact ⟨R.weak ⟨rfl, rfl, trivial⟩, h⟩
  ·rintro a w ⟨R, h⟩
   unfold drawer_Disk_mend.k4 at h
   refine seq_join (fun a w => Rep a 73 [] [] ∧ drawer_Disk_mend.k5  Q w) ?_ ?_
   ·refine wp_seq ?_
    refine wp_region_lit ?_
    refine omv R rfl rfl fun a R => ?_
    refine op_call R (rn_calls R rfl cf28) rfl ?_
    refine call_mono (s_drawer_Disk_names _ _ _ h) ?_
    rintro _ w28 ⟨x50_6_0, rfl, h⟩ a R
    refine op_val R (rn_len R rfl Tryd.underlying70) rfl fun a R => ?_
    refine omv R rfl rfl fun a R => ?_
    refine wpList_nil ?_
    refine then_normal ?_
    refine wp_block ?_
    refine wp_fix (σ := Int) (fun s a => Rep a 73 [(0, .pointer x0), (3, .pointer (some x3_1)), (50, Sl.val x50_6_0), (51, .int .i64 ((x50_6_0.len : Nat) : Int)), (52, .int .i64 s)] []) h (R.weak ⟨rfl, rfl, rfl, rfl, rfl, trivial⟩) ?_
    rintro Ks C z8_52 a w hC R h
    have R : Rep a 73 [(0, .pointer x0), (3, .pointer (some x3_1)), (50, Sl.val x50_6_0), (51, .int .i64 ((x50_6_0.len : Nat) : Int)), (52, .int .i64 z8_52)] [] := R
    have h : drawer_Disk_mend.l8 x0 x3_1 x50_6_0 z8_52 Q (fun z8_52 w => Ks z8_52 w) w := h
    generalize hK8 : (fun z8_52 w => Ks z8_52 w) = K8 at h
    unfold drawer_Disk_mend.l8 at h
    refine wp_seq ?_
    refine wp_region_lit ?_
    refine op_val R (rn_bin (v := .bool (decide (z8_52 < ((x50_6_0.len : Nat) : Int)))) R rfl rfl rfl) rfl fun a R => ?_
    refine wpList_nil ?_
    refine then_normal ?_
    refine wp_seq ?_
    rcases ite_cases h with ⟨g10, h⟩ | ⟨g10, h⟩
    ·refine wp_condT R (congrArg (fun b => some (Value.bool b)) g10) ?_
     refine wp_skip ?_
     refine then_normal ?_
     refine seq_join (fun a w => Rep a 73 [(0, .pointer x0), (3, .pointer (some x3_1)), (50, Sl.val x50_6_0), (51, .int .i64 ((x50_6_0.len : Nat) : Int)), (52, .int .i64 z8_52)] [] ∧ drawer_Disk_mend.k11 x0 x3_1 x50_6_0 z8_52 K8 Q w) ?_ ?_
     ·refine wp_block ?_
      refine wp_seq ?_
      refine wp_region_lit ?_
      obtain ⟨b13, x54_14, p13, i13, j13, e13, h⟩ := ix_e h
      refine op_val (v := .pointer (some x54_14)) R (by rw [e13]; exact rn_ixs (x := (.tmp 50)) (y := (.tmp 52)) R rfl p13 rfl Tryd.underlying70 sz9 i13 j13) rfl fun a R => ?_
      obtain ⟨x55_15, cx55_15, h⟩ := h
      refine old R rfl Tryd.underlying9 rfl cx55_15 rfl fun a R => ?_
      refine oas R rfl rfl fun a R => ?_
      refine wpList_nil ?_
      refine then_normal ?_
      refine wp_seq ?_
      refine wp_region_lit ?_
      refine omv R rfl rfl fun a R => ?_
      refine op_call R (rn_calls R rfl cf43) rfl ?_
      refine call_mono (s_drawer_generation _ _ _ h) ?_
      rintro _ w27 ⟨x57_16_0, rfl, h⟩ a R
      refine oas R rfl rfl fun a R => ?_
      refine wpList_nil ?_
      refine then_normal ?_
      refine seq_join (fun a w => ∃ y17_65 : Bool, Rep a 73 [(0, .pointer x0), (3, .pointer (some x3_1)), (8, .string x55_15), (50, Sl.val x50_6_0), (51, .int .i64 ((x50_6_0.len : Nat) : Int)), (52, .int .i64 z8_52), (65, .bool y17_65)] [] ∧ drawer_Disk_mend.k17 x0 x3_1 x50_6_0 z8_52 K8 x55_15 y17_65 Q w) ?_ ?_
      ·refine wp_region_lit ?_
       refine omv R rfl rfl fun a R => ?_
       refine op_val R (rn_bin (v := .bool (decide (x57_16_0 > 0))) R rfl rfl rfl) rfl fun a R => ?_
       refine omv R rfl rfl fun a R => ?_
       rcases ite_cases h with ⟨g24, h⟩ | ⟨g24, h⟩
       ·refine op_guard R rfl rfl rfl g24 ?_
        refine omv R rfl rfl fun a R => ?_
        refine op_guard R rfl rfl rfl g24 ?_
        refine ofd R rfl fd82_0 rfl fun a R => ?_
        refine op_guard R rfl rfl rfl g24 ?_
        obtain ⟨x63_25, cx63_25, h⟩ := h
        refine old R rfl Tryd.underlying3 rfl cx63_25 rfl fun a R => ?_
        refine op_guard R rfl rfl rfl g24 ?_
        refine op_val R (rn_bin (v := .bool (x57_16_0 != x63_25)) R rfl rfl rfl) rfl fun a R => ?_
        refine op_val R (rn_pickT R rfl g24 rfl) rfl fun a R => ?_
        refine wpList_nil ?_
        refine then_normal ?_
        exact ⟨(x57_16_0 != x63_25), R.weak ⟨rfl, rfl, rfl, rfl, rfl, rfl, rfl, trivial⟩, h⟩
       ·refine op_pass R rfl rfl rfl (ntf g24) (fun a R => ?_) (by intro s hs; cases hs; rfl)
        refine op_pass R rfl rfl rfl (ntf g24) (fun a R => ?_) (by intro s hs; cases hs; rfl)
        refine op_pass R rfl rfl rfl (ntf g24) (fun a R => ?_) (by intro s hs; cases hs; rfl)
        refine op_pass R rfl rfl rfl (ntf g24) (fun a R => ?_) (by intro s hs; cases hs; rfl)
        refine op_val R (rn_pickF R rfl g24 rfl) rfl fun a R => ?_
        refine wpList_nil ?_
        refine then_normal ?_
        exact ⟨false, R.weak ⟨rfl, rfl, rfl, rfl, rfl, rfl, rfl, trivial⟩, h⟩
      ·rintro a w ⟨y17_65, R, h⟩
       unfold drawer_Disk_mend.k17 at h
       rcases ite_cases h with ⟨g18, h⟩ | ⟨g18, h⟩
       ·refine wp_condT R (congrArg (fun b => some (Value.bool b)) g18) ?_
        refine wp_seq ?_
        refine wp_region_lit ?_
        refine omv R rfl rfl fun a R => ?_
        refine omv R rfl rfl fun a R => ?_
        refine op_call R (rn_calls R rfl cf42) rfl ?_
        refine call_mono (s_drawer_Disk_Remove _ _ _ _ h) ?_
        rintro _ w22 ⟨x68_19_0, rfl, h⟩ a R
        refine oas R rfl rfl fun a R => ?_
        refine wpList_nil ?_
        refine then_normal ?_
        refine wp_seq ?_
        refine wp_region_lit ?_
        refine omv R rfl rfl fun a R => ?_
        refine op_val R (rn_bin (v := .bool (x68_19_0 != 0)) R rfl rfl rfl) rfl fun a R => ?_
        refine wpList_nil ?_
        refine then_normal ?_
        rcases ite_cases h with ⟨g21, h⟩ | ⟨g21, h⟩
        ·refine wp_condT R (congrArg (fun b => some (Value.bool b)) g21) ?_
         refine wp_seq ?_
         refine wp_region_lit ?_
         refine omv R rfl rfl fun a R => ?_
         refine oas R rfl rfl fun a R => ?_
         refine wpList_nil ?_
         refine then_normal ?_
         refine wp_ret ?_
         refine block_ret ?_
         refine then_ret ?_
         refine then_ret ?_
         refine block_ret ?_
         refine then_ret ?_
         exact post_ret R rfl rfl ⟨x68_19_0, rfl, h⟩
        ·refine wp_condF R (congrArg (fun b => some (Value.bool b)) g21) ?_
         refine wp_skip ?_
         refine block_normal ?_
         refine then_normal ?_
         exact ⟨R.weak ⟨rfl, rfl, rfl, rfl, rfl, trivial⟩, h⟩
       ·refine wp_condF R (congrArg (fun b => some (Value.bool b)) g18) ?_
        refine wp_skip ?_
        refine block_normal ?_
        refine then_normal ?_
        exact ⟨R.weak ⟨rfl, rfl, rfl, rfl, rfl, trivial⟩, h⟩
     ·rintro a w ⟨R, h⟩
      unfold drawer_Disk_mend.k11 at h
      refine wp_region_lit ?_
      refine op_val R (rn_bin (v := .int .i64 (IntKind.i64.wrap (z8_52 + 1))) R rfl rfl rfl) rfl fun a R => ?_
      refine omv R rfl rfl fun a R => ?_
      refine wpList_nil ?_
      refine then_normal ?_
      exact hC (IntKind.i64.wrap (z8_52 + 1)) _ _ (R.weak ⟨rfl, rfl, rfl, rfl, rfl, trivial⟩) (by rw [← hK8] at h; exact h)
    ·refine wp_condF R (congrArg (fun b => some (Value.bool b)) g10) ?_
     refine wp_exit ?_
     refine then_exit ?_
     refine then_exit ?_
     refine block_eq ?_
     refine then_normal ?_
     exact ⟨R.weak trivial, h⟩
   ·rintro a w ⟨R, h⟩
    unfold drawer_Disk_mend.k5 at h
    refine wp_seq ?_
    refine wp_region_lit ?_
    refine oas R rfl rfl fun a R => ?_
    refine wpList_nil ?_
    refine then_normal ?_
    refine wp_ret ?_
    exact post_ret R rfl rfl ⟨0, rfl, h⟩
theorem s_drawer_Disk_mend (x0 : Option Addr) (x1_0 : Int) (x1_1 : Int) (x1_2 : Sl) (x1_3 : Sl) (x1_4 : Int) (x1_5 : Int) (x1_6 : Int) (Q : Int → World → Prop) (w : World) (h : drawer_Disk_mend x0 x1_0 x1_1 x1_2 x1_3 x1_4 x1_5 x1_6 Q w) :
    Calls Tryd.prog 34 #[.pointer x0, .agg #[.int .i64 x1_0, .int .u32 x1_1, Sl.val x1_2, Sl.val x1_3, .int .i64 x1_4, .int .i64 x1_5, .int .i64 x1_6]] w (Rets fun v w => ∃ r0 : Int, v = (.int .i64 r0 : Value) ∧ Q r0 w) :=
  calls_body (args := [.pointer x0, .agg #[.int .i64 x1_0, .int .u32 x1_1, Sl.val x1_2, Sl.val x1_3, .int .i64 x1_4, .int .i64 x1_5, .int .i64 x1_6]]) Tryd.func34 rfl rfl (Nat.le_of_ble_eq_true rfl) (L := [(0, .pointer x0), (1, .agg #[.int .i64 x1_0, .int .u32 x1_1, Sl.val x1_2, Sl.val x1_3, .int .i64 x1_4, .int .i64 x1_5, .int .i64 x1_6])]) (by simp [starts]) (b_drawer_Disk_mend x0 x1_0 x1_1 x1_2 x1_3 x1_4 x1_5 x1_6 Q w h rfl)

/-! drawer.Open -/

def drawer_Open.k14 (x0 : Option Addr) (x1 : Int) (x8_5 : Addr) (Q : Option Addr → Sl → Sl → Int → World → Prop) (w : World) : Prop :=
  ld (Value.int .i64) (World.drew w) (x8_5.add 0) fun x47_15 => ld Sl.val (World.drew w) (x8_5.add 3) fun x49_16 => ld Sl.val (World.drew w) (x8_5.add 2) fun x54_18 => ld Sl.val (World.drew w) (x8_5.add 3) fun x56_19 => al (World.drew w) (.cells #[.pointer x0, .int .u32 x1, .int .i64 x47_15, .int .i64 ((x49_16.len : Nat) : Int), .bool false] 64) fun x52_20 w => ((World.cell? w (x8_5.add 0) = some (.int .i64 x47_15) ∧ World.cell? w (x8_5.add 3) = some (Sl.val x49_16) ∧ World.cell? w (x8_5.add 2) = some (Sl.val x54_18) ∧ World.cell? w (x8_5.add 3) = some (Sl.val x56_19) ∧ True) ∧ Q (some x52_20) x54_18 x56_19 0 w)

def drawer_Open.k8 (x0 : Option Addr) (x1 : Int) (x8_5 : Addr) (y8_25 : Bool) (Q : Option Addr → Sl → Sl → Int → World → Prop) (w : World) : Prop :=
  (if y8_25 = true then Q none (Sl.mk none 0 0) (Sl.mk none 0 0) 198 w else ld (Value.int .i64) w (x8_5.add 0) fun x27_10_0 => ld (Value.int .u32) w (x8_5.add 1) fun x27_10_1 => ld Sl.val w (x8_5.add 2) fun x27_10_2 => ld Sl.val w (x8_5.add 3) fun x27_10_3 => ld (Value.int .i64) w (x8_5.add 4) fun x27_10_4 => ld (Value.int .i64) w (x8_5.add 5) fun x27_10_5 => ld (Value.int .i64) w (x8_5.add 6) fun x27_10_6 => drawer_Disk_mend x0 x27_10_0 x27_10_1 x27_10_2 x27_10_3 x27_10_4 x27_10_5 x27_10_6 (fun x28_11_0 w => (if (x28_11_0 != 0) = true then Q none (Sl.mk none 0 0) (Sl.mk none 0 0) x28_11_0 w else ld (Value.int .i64) w (x8_5.add 0) fun x33_22 => (if (x33_22 == 0) = true then st w (x8_5.add 0) (.int .i64 1) fun w => drawer_name 1 (fun x37_26_0 w => drawer_piece 0 x1 0 (Sl.mk none 0 0) (fun x39_27_0 w => drawer_Disk_lay x0 x37_26_0 x39_27_0 (fun x40_28_0 w => (if (x40_28_0 != 0) = true then Q none (Sl.mk none 0 0) (Sl.mk none 0 0) x40_28_0 w else drawer_Open.k14 x0 x1 x8_5 Q w)) w) w) w else drawer_Open.k14 x0 x1 x8_5 Q w))) w)

def drawer_Open (x0 : Option Addr) (x1 : Int) (Q : Option Addr → Sl → Sl → Int → World → Prop) (w : World) : Prop :=
  nn x0 fun x12_1 => ld Value.bool w (x12_1.add 1) fun x14_2 => (if x14_2 = true then Q none (Sl.mk none 0 0) (Sl.mk none 0 0) 190 w else drawer_Disk_seek x0 (fun x16_4_0_0 x16_4_0_1 x16_4_0_2 x16_4_0_3 x16_4_0_4 x16_4_0_5 x16_4_0_6 w => al w (.cells #[.int .i64 0, .int .u32 0, .slice none 0 0, .slice none 0 0, .int .i64 0, .int .i64 0, .int .i64 0] 82) fun x8_5 w => stN w x8_5 [.int .i64 x16_4_0_0, .int .u32 x16_4_0_1, Sl.val x16_4_0_2, Sl.val x16_4_0_3, .int .i64 x16_4_0_4, .int .i64 x16_4_0_5, .int .i64 x16_4_0_6] fun w => ld (Value.int .i64) w (x8_5.add 0) fun x18_35 => (if (decide (x18_35 > 0)) = true then ld (Value.int .u32) w (x8_5.add 1) fun x22_38 => drawer_Open.k8 x0 x1 x8_5 (x22_38 != x1) Q w else drawer_Open.k8 x0 x1 x8_5 false Q w)) w)

theorem b_drawer_Open (x0 : Option Addr) (x1 : Int) (Q : Option Addr → Sl → Sl → Int → World → Prop) (w : World) (h : drawer_Open x0 x1 Q w) {c : Code} (hb : Tryd.f19.body = some c) :
 ∀ a, Rep a 57 [(0, .pointer x0), (1, .int .u32 x1)] [] → c.wp Tryd.prog (bodyPost Tryd.prog Tryd.f19 (Rets fun v w => ∃ r0 : Option Addr, ∃ r1 : Sl, ∃ r2 : Sl, ∃ r3 : Int, v = (.tuple #[.pointer r0, Sl.val r1, Sl.val r2, .int .i64 r3] : Value) ∧ Q r0 r1 r2 r3 w)) a w := by
 intro a R
 obtain rfl := Option.some.inj hb
 unfold drawer_Open at h
 refine wp_seq ?_
 refine wp_region_lit ?_
 refine oas R rfl rfl fun a R => ?_
 refine oas R rfl rfl fun a R => ?_
 refine oas R rfl rfl fun a R => ?_
 refine oas R rfl rfl fun a R => ?_
 refine wpList_nil ?_
 refine then_normal ?_
 refine wp_seq ?_
 refine wp_seq ?_
 refine wp_region_lit ?_
 refine omv R rfl rfl fun a R => ?_
 obtain ⟨x12_1, cx12_1, h⟩ := h
 refine onl R rfl cx12_1 rfl fun a R => ?_
 refine ofd R rfl fd75_1 rfl fun a R => ?_
 obtain ⟨x14_2, cx14_2, h⟩ := h
 refine old R rfl Tryd.underlying4 rfl cx14_2 rfl fun a R => ?_
 refine wpList_nil ?_
 refine then_normal ?_
 rcases ite_cases h with ⟨g3, h⟩ | ⟨g3, h⟩
 ·refine wp_condT R (congrArg (fun b => some (Value.bool b)) g3) ?_
  refine wp_seq ?_
  refine wp_region_lit ?_
  refine oas R rfl rfl fun a R => ?_
  refine oas R rfl rfl fun a R => ?_
  refine oas R rfl rfl fun a R => ?_
  refine oas R rfl rfl fun a R => ?_
  refine wpList_nil ?_
  refine then_normal ?_
  refine wp_ret ?_
  refine then_ret ?_
  exact post_ret R rfl rfl ⟨none, (Sl.mk none 0 0), (Sl.mk none 0 0), 190, rfl, h⟩
 ·refine wp_condF R (congrArg (fun b => some (Value.bool b)) g3) ?_
  refine wp_skip ?_
  refine then_normal ?_
  refine wp_seq ?_
  refine wp_region_lit ?_
  refine omv R rfl rfl fun a R => ?_
  refine op_call R (rn_calls R rfl cf33) rfl ?_
  refine call_mono (s_drawer_Disk_seek _ _ _ h) ?_
  rintro _ w40 ⟨x16_4_0_0, x16_4_0_1, x16_4_0_2, x16_4_0_3, x16_4_0_4, x16_4_0_5, x16_4_0_6, rfl, h⟩ a R
  obtain ⟨x8_5, e6, h⟩ := al_e h
  refine op_val (v := .pointer (some x8_5)) R (by rw [e6]; exact rn_al R ze82) rfl fun a R => ?_
  obtain ⟨q7, h⟩ := h
  refine op_unit R (rn_stN (vs := [.int .i64 x16_4_0_0, .int .u32 x16_4_0_1, Sl.val x16_4_0_2, Sl.val x16_4_0_3, .int .i64 x16_4_0_4, .int .i64 x16_4_0_5, .int .i64 x16_4_0_6]) R rfl rfl (ao ⟨rfl, rfl, rfl, rfl, rfl, rfl, rfl, trivial⟩) sz82 q7) fun a R => ?_
  refine wpList_nil ?_
  refine then_normal ?_
  refine wp_seq ?_
  refine seq_join (fun a w => ∃ y8_25 : Bool, Rep a 57 [(0, .pointer x0), (1, .int .u32 x1), (8, .pointer (some x8_5)), (25, .bool y8_25)] [] ∧ drawer_Open.k8 x0 x1 x8_5 y8_25 Q w) ?_ ?_
  ·refine wp_region_lit ?_
   refine ofd R rfl fd82_0 rfl fun a R => ?_
   obtain ⟨x18_35, cx18_35, h⟩ := h
   refine old R rfl Tryd.underlying3 rfl cx18_35 rfl fun a R => ?_
   refine op_val R (rn_bin (v := .bool (decide (x18_35 > 0))) R rfl rfl rfl) rfl fun a R => ?_
   refine omv R rfl rfl fun a R => ?_
   rcases ite_cases h with ⟨g37, h⟩ | ⟨g37, h⟩
   ·refine op_guard R rfl rfl rfl g37 ?_
    refine ofd R rfl fd82_1 rfl fun a R => ?_
    refine op_guard R rfl rfl rfl g37 ?_
    obtain ⟨x22_38, cx22_38, h⟩ := h
    refine old R rfl Tryd.underlying22 rfl cx22_38 rfl fun a R => ?_
    refine op_guard R rfl rfl rfl g37 ?_
    refine omv R rfl rfl fun a R => ?_
    refine op_guard R rfl rfl rfl g37 ?_
    refine op_val R (rn_bin (v := .bool (x22_38 != x1)) R rfl rfl rfl) rfl fun a R => ?_
    refine op_val R (rn_pickT R rfl g37 rfl) rfl fun a R => ?_
    refine wpList_nil ?_
    refine then_normal ?_
    exact ⟨(x22_38 != x1), R.weak ⟨rfl, rfl, rfl, rfl, trivial⟩, h⟩
   ·refine op_pass R rfl rfl rfl (ntf g37) (fun a R => ?_) (by intro s hs; cases hs; rfl)
    refine op_pass R rfl rfl rfl (ntf g37) (fun a R => ?_) (by intro s hs; cases hs; rfl)
    refine op_pass R rfl rfl rfl (ntf g37) (fun a R => ?_) (by intro s hs; cases hs; rfl)
    refine op_pass R rfl rfl rfl (ntf g37) (fun a R => ?_) (by intro s hs; cases hs; rfl)
    refine op_val R (rn_pickF R rfl g37 rfl) rfl fun a R => ?_
    refine wpList_nil ?_
    refine then_normal ?_
    exact ⟨false, R.weak ⟨rfl, rfl, rfl, rfl, trivial⟩, h⟩
  ·rintro a w ⟨y8_25, R, h⟩
   unfold drawer_Open.k8 at h
   rcases ite_cases h with ⟨g9, h⟩ | ⟨g9, h⟩
   ·refine wp_condT R (congrArg (fun b => some (Value.bool b)) g9) ?_
    refine wp_seq ?_
    refine wp_region_lit ?_
    refine oas R rfl rfl fun a R => ?_
    refine oas R rfl rfl fun a R => ?_
    refine oas R rfl rfl fun a R => ?_
    refine oas R rfl rfl fun a R => ?_
    refine wpList_nil ?_
    refine then_normal ?_
    refine wp_ret ?_
    refine then_ret ?_
    exact post_ret R rfl rfl ⟨none, (Sl.mk none 0 0), (Sl.mk none 0 0), 198, rfl, h⟩
   ·refine wp_condF R (congrArg (fun b => some (Value.bool b)) g9) ?_
    refine wp_skip ?_
    refine then_normal ?_
    refine wp_seq ?_
    refine wp_seq ?_
    refine wp_region_lit ?_
    refine omv R rfl rfl fun a R => ?_
    obtain ⟨x27_10_0, cx27_10_0, x27_10_1, cx27_10_1, x27_10_2, cx27_10_2, x27_10_3, cx27_10_3, x27_10_4, cx27_10_4, x27_10_5, cx27_10_5, x27_10_6, cx27_10_6, h⟩ := h
    refine op_val R (rn_ldN (cs := [.int .i64 x27_10_0, .int .u32 x27_10_1, Sl.val x27_10_2, Sl.val x27_10_3, .int .i64 x27_10_4, .int .i64 x27_10_5, .int .i64 x27_10_6]) R rfl Tryd.underlying82 rfl sz82 ⟨cx27_10_0, cx27_10_1, cx27_10_2, cx27_10_3, cx27_10_4, cx27_10_5, cx27_10_6, trivial⟩) rfl fun a R => ?_
    refine op_call R (rn_calls R rfl cf34) rfl ?_
    refine call_mono (s_drawer_Disk_mend _ _ _ _ _ _ _ _ _ _ h) ?_
    rintro _ w34 ⟨x28_11_0, rfl, h⟩ a R
    refine oas R rfl rfl fun a R => ?_
    refine wpList_nil ?_
    refine then_normal ?_
    refine wp_seq ?_
    refine wp_region_lit ?_
    refine omv R rfl rfl fun a R => ?_
    refine op_val R (rn_bin (v := .bool (x28_11_0 != 0)) R rfl rfl rfl) rfl fun a R => ?_
    refine wpList_nil ?_
    refine then_normal ?_
    rcases ite_cases h with ⟨g13, h⟩ | ⟨g13, h⟩
    ·refine wp_condT R (congrArg (fun b => some (Value.bool b)) g13) ?_
     refine wp_seq ?_
     refine wp_region_lit ?_
     refine omv R rfl rfl fun a R => ?_
     refine oas R rfl rfl fun a R => ?_
     refine oas R rfl rfl fun a R => ?_
     refine oas R rfl rfl fun a R => ?_
     refine oas R rfl rfl fun a R => ?_
     refine wpList_nil ?_
     refine then_normal ?_
     refine wp_ret ?_
     refine then_ret ?_
     exact post_ret R rfl rfl ⟨none, (Sl.mk none 0 0), (Sl.mk none 0 0), x28_11_0, rfl, h⟩
    ·refine wp_condF R (congrArg (fun b => some (Value.bool b)) g13) ?_
     refine wp_skip ?_
     refine then_normal ?_
     refine seq_join (fun a w => Rep a 57 [(0, .pointer x0), (1, .int .u32 x1), (8, .pointer (some x8_5))] [] ∧ drawer_Open.k14 x0 x1 x8_5 Q w) ?_ ?_
     ·refine wp_seq ?_
      refine wp_region_lit ?_
      refine ofd R rfl fd82_0 rfl fun a R => ?_
      obtain ⟨x33_22, cx33_22, h⟩ := h
      refine old R rfl Tryd.underlying3 rfl cx33_22 rfl fun a R => ?_
      refine op_val R (rn_bin (v := .bool (x33_22 == 0)) R rfl rfl rfl) rfl fun a R => ?_
      refine wpList_nil ?_
      refine then_normal ?_
      rcases ite_cases h with ⟨g24, h⟩ | ⟨g24, h⟩
      ·refine wp_condT R (congrArg (fun b => some (Value.bool b)) g24) ?_
       refine wp_seq ?_
       refine wp_region_lit ?_
       refine ofd R rfl fd82_0 rfl fun a R => ?_
       obtain ⟨q25, f25, h⟩ := h
       refine op_unit R (rn_st R rfl rfl rfl sz3 q25 f25) fun a R => ?_
       refine wpList_nil ?_
       refine then_normal ?_
       refine wp_seq ?_
       refine wp_region_lit ?_
       refine omv R rfl rfl fun a R => ?_
       refine op_call R (rn_calls R rfl cf26) rfl ?_
       refine call_mono (s_drawer_name _ _ _ h) ?_
       rintro _ w33 ⟨x37_26_0, rfl, h⟩ a R
       refine omv R rfl rfl fun a R => ?_
       refine op_call R (rn_calls R rfl cf27) rfl ?_
       refine call_mono (s_drawer_piece _ _ _ (Sl.mk none 0 0) _ _ h) ?_
       rintro _ w32 ⟨x39_27_0, rfl, h⟩ a R
       refine op_call R (rn_calls R rfl cf25) rfl ?_
       refine call_mono (s_drawer_Disk_lay _ _ _ _ _ h) ?_
       rintro _ w31 ⟨x40_28_0, rfl, h⟩ a R
       refine oas R rfl rfl fun a R => ?_
       refine wpList_nil ?_
       refine then_normal ?_
       refine wp_seq ?_
       refine wp_region_lit ?_
       refine omv R rfl rfl fun a R => ?_
       refine op_val R (rn_bin (v := .bool (x40_28_0 != 0)) R rfl rfl rfl) rfl fun a R => ?_
       refine wpList_nil ?_
       refine then_normal ?_
       rcases ite_cases h with ⟨g30, h⟩ | ⟨g30, h⟩
       ·refine wp_condT R (congrArg (fun b => some (Value.bool b)) g30) ?_
        refine wp_seq ?_
        refine wp_region_lit ?_
        refine omv R rfl rfl fun a R => ?_
        refine oas R rfl rfl fun a R => ?_
        refine oas R rfl rfl fun a R => ?_
        refine oas R rfl rfl fun a R => ?_
        refine oas R rfl rfl fun a R => ?_
        refine wpList_nil ?_
        refine then_normal ?_
        refine wp_ret ?_
        refine then_ret ?_
        exact post_ret R rfl rfl ⟨none, (Sl.mk none 0 0), (Sl.mk none 0 0), x40_28_0, rfl, h⟩
       ·refine wp_condF R (congrArg (fun b => some (Value.bool b)) g30) ?_
        refine wp_skip ?_
        refine then_normal ?_
        exact ⟨R.weak ⟨rfl, rfl, rfl, trivial⟩, h⟩
      ·refine wp_condF R (congrArg (fun b => some (Value.bool b)) g24) ?_
       refine wp_skip ?_
       refine then_normal ?_
       exact ⟨R.weak ⟨rfl, rfl, rfl, trivial⟩, h⟩
     ·rintro a w ⟨R, h⟩
      unfold drawer_Open.k14 at h
      refine wp_seq ?_
      refine region_start mo fun inv => ?_
      obtain ⟨x47_15, cx47_15, h⟩ := h
      obtain ⟨x49_16, cx49_16, h⟩ := h
      obtain ⟨x54_18, cx54_18, h⟩ := h
      obtain ⟨x56_19, cx56_19, h⟩ := h
      refine seg_held (n := 15) (f := 15) (g := 2) (fun w : World => w.cell? (x8_5.add 0) = some (.int .i64 x47_15) ∧ w.cell? (x8_5.add 3) = some (Sl.val x49_16) ∧ w.cell? (x8_5.add 2) = some (Sl.val x54_18) ∧ w.cell? (x8_5.add 3) = some (Sl.val x56_19) ∧ True) (by kernel_rfl) fun inv => ?_
      have hS0 : (fun w : World => w.cell? (x8_5.add 0) = some (.int .i64 x47_15) ∧ w.cell? (x8_5.add 3) = some (Sl.val x49_16) ∧ w.cell? (x8_5.add 2) = some (Sl.val x54_18) ∧ w.cell? (x8_5.add 3) = some (Sl.val x56_19) ∧ True) _ := ⟨cx47_15, cx49_16, cx54_18, cx56_19, trivial⟩
      refine dr_val (i := 0) R (waits_dom (by kernel_rfl) (by kernel_rfl)) (by kernel_rfl) inv rfl (by decide) (by kernel_rfl) (by kernel_rfl) (fun _ _ _ h => h) wanted_none (fun w' hS => rn_mv R rfl) hS0 rfl fun inv a R => ?_
      refine dr_val (i := 1) R (waits_dom (by kernel_rfl) (by kernel_rfl)) (by kernel_rfl) inv rfl (by decide) (by kernel_rfl) (by kernel_rfl) (fun _ _ _ h => h) wanted_none (fun w' hS => rn_mv R rfl) hS0 rfl fun inv a R => ?_
      refine dr_val (i := 2) R (waits_dom (by kernel_rfl) (by kernel_rfl)) (by kernel_rfl) inv rfl (by decide) (by kernel_rfl) (by kernel_rfl) (fun _ _ _ h => h) wanted_none (fun w' hS => rn_fld R rfl fd82_0) hS0 rfl fun inv a R => ?_
      refine dr_val (i := 3) R (waits_dom (by kernel_rfl) (by kernel_rfl)) (by kernel_rfl) inv rfl (by decide) (by kernel_rfl) (by kernel_rfl) (fun _ _ _ h => h) wanted_none (fun w' hS => rn_ld R rfl Tryd.underlying3 rfl (hS.1)) hS0 rfl fun inv a R => ?_
      refine dr_val (i := 4) R (waits_dom (by kernel_rfl) (by kernel_rfl)) (by kernel_rfl) inv rfl (by decide) (by kernel_rfl) (by kernel_rfl) (fun _ _ _ h => h) wanted_none (fun w' hS => rn_fld R rfl fd82_3) hS0 rfl fun inv a R => ?_
      refine dr_val (i := 5) R (waits_dom (by kernel_rfl) (by kernel_rfl)) (by kernel_rfl) inv rfl (by decide) (by kernel_rfl) (by kernel_rfl) (fun _ _ _ h => h) wanted_none (fun w' hS => rn_ld R rfl Tryd.underlying30 rfl (hS.2.1)) hS0 rfl fun inv a R => ?_
      refine dr_val (i := 6) R (waits_dom (by kernel_rfl) (by kernel_rfl)) (by kernel_rfl) inv rfl (by decide) (by kernel_rfl) (by kernel_rfl) (fun _ _ _ h => h) wanted_none (fun w' hS => rn_len R rfl Tryd.underlying30) hS0 rfl fun inv a R => ?_
      refine dr_val (i := 7) R (waits_dom (by kernel_rfl) (by kernel_rfl)) (by kernel_rfl) inv rfl (by decide) (by kernel_rfl) (by kernel_rfl) (fun _ _ _ h => h) wanted_none (fun w' hS => rn_build (r := .agg #[.pointer x0, .int .u32 x1, .int .i64 x47_15, .int .i64 ((x49_16.len : Nat) : Int), .bool false]) R rfl (fun w => by kernel_rfl)) hS0 rfl fun inv a R => ?_
      refine dr_val (i := 9) R (waits_dom (by kernel_rfl) (by kernel_rfl)) (by kernel_rfl) inv rfl (by decide) (by kernel_rfl) (by kernel_rfl) (fun _ _ _ h => h) wanted_none (fun w' hS => rn_fld R rfl fd82_2) hS0 rfl fun inv a R => ?_
      refine dr_val (i := 10) R (waits_dom (by kernel_rfl) (by kernel_rfl)) (by kernel_rfl) inv rfl (by decide) (by kernel_rfl) (by kernel_rfl) (fun _ _ _ h => h) wanted_none (fun w' hS => rn_ld R rfl Tryd.underlying29 rfl (hS.2.2.1)) hS0 rfl fun inv a R => ?_
      refine dr_val (i := 11) R (waits_dom (by kernel_rfl) (by kernel_rfl)) (by kernel_rfl) inv rfl (by decide) (by kernel_rfl) (by kernel_rfl) (fun _ _ _ h => h) wanted_none (fun w' hS => rn_fld R rfl fd82_3) hS0 rfl fun inv a R => ?_
      refine dr_val (i := 12) R (waits_dom (by kernel_rfl) (by kernel_rfl)) (by kernel_rfl) inv rfl (by decide) (by kernel_rfl) (by kernel_rfl) (fun _ _ _ h => h) wanted_none (fun w' hS => rn_ld R rfl Tryd.underlying30 rfl (hS.2.2.2.1)) hS0 rfl fun inv a R => ?_
      obtain ⟨x52_20, e21, h⟩ := al_e h
      obtain ⟨hS0, h⟩ := h
      refine dr_run (v := .pointer (some x52_20)) (i := 8) R inv rfl (by decide) (by kernel_rfl) wanted_none (by rw [e21]; exact rn_bx (x := (.tmp 51)) (t := 64) R rfl) hS0 rfl fun inv a R => ?_
      refine dr_val (i := 13) R (waits_dom (by kernel_rfl) (by kernel_rfl)) (by kernel_rfl) inv rfl (by decide) (by kernel_rfl) (by kernel_rfl) (fun _ _ _ h => h) wanted_none (fun w' hS => rn_as R rfl) hS0 rfl fun inv a R => ?_
      refine dr_val (i := 14) R (waits_dom (by kernel_rfl) (by kernel_rfl)) (by kernel_rfl) inv rfl (by decide) (by kernel_rfl) (by kernel_rfl) (fun _ _ _ h => h) wanted_none (fun w' hS => rn_as R rfl) hS0 rfl fun inv a R => ?_
      refine seg_end (by kernel_rfl) ?_
      refine any_tail 15 (by kernel_rfl) ?_
      refine oas R rfl rfl fun a R => ?_
      refine oas R rfl rfl fun a R => ?_
      refine wpList_nil ?_
      refine then_normal ?_
      refine wp_ret ?_
      exact post_ret R rfl rfl ⟨(some x52_20), x54_18, x56_19, 0, rfl, h⟩
theorem s_drawer_Open (x0 : Option Addr) (x1 : Int) (Q : Option Addr → Sl → Sl → Int → World → Prop) (w : World) (h : drawer_Open x0 x1 Q w) :
    Calls Tryd.prog 19 #[.pointer x0, .int .u32 x1] w (Rets fun v w => ∃ r0 : Option Addr, ∃ r1 : Sl, ∃ r2 : Sl, ∃ r3 : Int, v = (.tuple #[.pointer r0, Sl.val r1, Sl.val r2, .int .i64 r3] : Value) ∧ Q r0 r1 r2 r3 w) :=
  calls_body (args := [.pointer x0, .int .u32 x1]) Tryd.func19 rfl rfl (Nat.le_of_ble_eq_true rfl) (L := [(0, .pointer x0), (1, .int .u32 x1)]) (by simp [starts]) (b_drawer_Open x0 x1 Q w h rfl)

/-! levylaw19.sameBytes -/

def levylaw19_sameBytes (x0 : Sl) (x1 : Sl) (Q : Bool → World → Prop) (w : World) : Prop :=
  rn Tryd.prog Value.string (convert 29 9 (Sl.val x0)) w fun x6_1 w => rn Tryd.prog Value.string (convert 29 9 (Sl.val x1)) w fun x8_3 w => Q (sEq x6_1 x8_3) w

theorem b_levylaw19_sameBytes (x0 : Sl) (x1 : Sl) (Q : Bool → World → Prop) (w : World) (h : levylaw19_sameBytes x0 x1 Q w) {c : Code} (hb : Tryd.f20.body = some c) :
 ∀ a, Rep a 10 [(0, Sl.val x0), (1, Sl.val x1)] [] → c.wp Tryd.prog (bodyPost Tryd.prog Tryd.f20 (Rets fun v w => ∃ r0 : Bool, v = (.bool r0 : Value) ∧ Q r0 w)) a w := by
 intro a R
 obtain rfl := Option.some.inj hb
 unfold levylaw19_sameBytes at h
 refine wp_seq ?_
 refine wp_region_lit ?_
 refine oas R rfl rfl fun a R => ?_
 refine wpList_nil ?_
 refine then_normal ?_
 refine wp_seq ?_
 refine wp_region_lit ?_
 refine omv R rfl rfl fun a R => ?_
 obtain ⟨x6_1, w2, cx6_1, h⟩ := h
 refine op_val R (rn_convert R rfl cx6_1) rfl fun a R => ?_
 refine omv R rfl rfl fun a R => ?_
 obtain ⟨x8_3, w4, cx8_3, h⟩ := h
 refine op_val R (rn_convert R rfl cx8_3) rfl fun a R => ?_
 refine op_val R (rn_binS (v := .bool (sEq x6_1 x8_3)) R rfl rfl rfl) rfl fun a R => ?_
 refine oas R rfl rfl fun a R => ?_
 refine wpList_nil ?_
 refine then_normal ?_
 refine wp_ret ?_
 exact post_ret R rfl rfl ⟨(sEq x6_1 x8_3), rfl, h⟩
theorem s_levylaw19_sameBytes (x0 : Sl) (x1 : Sl) (Q : Bool → World → Prop) (w : World) (h : levylaw19_sameBytes x0 x1 Q w) :
    Calls Tryd.prog 20 #[Sl.val x0, Sl.val x1] w (Rets fun v w => ∃ r0 : Bool, v = (.bool r0 : Value) ∧ Q r0 w) :=
  calls_body (args := [Sl.val x0, Sl.val x1]) Tryd.func20 rfl rfl (Nat.le_of_ble_eq_true rfl) (L := [(0, Sl.val x0), (1, Sl.val x1)]) (by simp [starts]) (b_levylaw19_sameBytes x0 x1 Q w h rfl)

/-! levylaw19.sameRecords -/

def levylaw19_sameRecords.k5  (Q : Bool → World → Prop) (w : World) : Prop :=
  Q true w

def levylaw19_sameRecords.k10 (x0 : Sl) (x1 : Sl) (z6_5 : Int) (K6 : Int → World → Prop) (y10_41 : Bool) (Q : Bool → World → Prop) (w : World) : Prop :=
  (if y10_41 = true then Q false w else K6 (IntKind.i64.wrap (z6_5 + 1)) w)

def levylaw19_sameRecords.l6 (x0 : Sl) (x1 : Sl) (z6_5 : Int) (Q : Bool → World → Prop) (K6 : Int → World → Prop) (w : World) : Prop :=
  (if (decide (z6_5 < ((x0.len : Nat) : Int))) = true then ix x0.p x0.len z6_5 2 fun x19_14 => ld (Value.int .u8) (World.drew w) (x19_14.add 0) fun x21_15 => ix x1.p x1.len z6_5 2 fun x24_17 => ld (Value.int .u8) (World.drew w) (x24_17.add 0) fun x26_18 => (if (x21_15 != x26_18) = true then levylaw19_sameRecords.k10 x0 x1 z6_5 K6 true Q (World.drew w) else ix x0.p x0.len z6_5 2 fun x31_22 => ld Sl.val (World.drew w) (x31_22.add 1) fun x33_23 => ix x1.p x1.len z6_5 2 fun x36_25 => ld Sl.val (World.drew w) (x36_25.add 1) fun x38_26 => levylaw19_sameBytes x33_23 x38_26 (fun x39_27_0 w => levylaw19_sameRecords.k10 x0 x1 z6_5 K6 (!x39_27_0) Q w) (World.drew w)) else levylaw19_sameRecords.k5  Q w)

def levylaw19_sameRecords (x0 : Sl) (x1 : Sl) (Q : Bool → World → Prop) (w : World) : Prop :=
  (if (((x0.len : Nat) : Int) != ((x1.len : Nat) : Int)) = true then Q false w else (Fix (σ := Int) (fun Ks s w => levylaw19_sameRecords.l6 x0 x1 s Q (fun z6_5 w => Ks z6_5 w) w) 0 w))

theorem b_levylaw19_sameRecords (x0 : Sl) (x1 : Sl) (Q : Bool → World → Prop) (w : World) (h : levylaw19_sameRecords x0 x1 Q w) {c : Code} (hb : Tryd.f30.body = some c) :
 ∀ a, Rep a 42 [(0, Sl.val x0), (1, Sl.val x1)] [] → c.wp Tryd.prog (bodyPost Tryd.prog Tryd.f30 (Rets fun v w => ∃ r0 : Bool, v = (.bool r0 : Value) ∧ Q r0 w)) a w := by
 intro a R
 obtain rfl := Option.some.inj hb
 unfold levylaw19_sameRecords at h
 refine wp_seq ?_
 refine wp_region_lit ?_
 refine oas R rfl rfl fun a R => ?_
 refine wpList_nil ?_
 refine then_normal ?_
 refine wp_seq ?_
 refine wp_seq ?_
 refine wp_region_lit ?_
 refine omv R rfl rfl fun a R => ?_
 refine op_val R (rn_len R rfl Tryd.underlying30) rfl fun a R => ?_
 refine omv R rfl rfl fun a R => ?_
 refine op_val R (rn_len R rfl Tryd.underlying30) rfl fun a R => ?_
 refine op_val R (rn_bin (v := .bool (((x0.len : Nat) : Int) != ((x1.len : Nat) : Int))) R rfl rfl rfl) rfl fun a R => ?_
 refine wpList_nil ?_
 refine then_normal ?_
 rcases ite_cases h with ⟨g4, h⟩ | ⟨g4, h⟩
 ·refine wp_condT R (congrArg (fun b => some (Value.bool b)) g4) ?_
  refine wp_seq ?_
  refine wp_region_lit ?_
  refine oas R rfl rfl fun a R => ?_
  refine wpList_nil ?_
  refine then_normal ?_
  refine wp_ret ?_
  refine then_ret ?_
  exact post_ret R rfl rfl ⟨false, rfl, h⟩
 ·refine wp_condF R (congrArg (fun b => some (Value.bool b)) g4) ?_
  refine wp_skip ?_
  refine then_normal ?_
  refine seq_join (fun a w => Rep a 42 [] [] ∧ levylaw19_sameRecords.k5  Q w) ?_ ?_
  ·refine wp_seq ?_
   refine wp_region_lit ?_
   refine oas R rfl rfl fun a R => ?_
   refine wpList_nil ?_
   refine then_normal ?_
   refine wp_block ?_
   refine wp_fix (σ := Int) (fun s a => Rep a 42 [(0, Sl.val x0), (1, Sl.val x1), (5, .int .i64 s)] []) h (R.weak ⟨rfl, rfl, rfl, trivial⟩) ?_
   rintro Ks C z6_5 a w hC R h
   have R : Rep a 42 [(0, Sl.val x0), (1, Sl.val x1), (5, .int .i64 z6_5)] [] := R
   have h : levylaw19_sameRecords.l6 x0 x1 z6_5 Q (fun z6_5 w => Ks z6_5 w) w := h
   generalize hK6 : (fun z6_5 w => Ks z6_5 w) = K6 at h
   unfold levylaw19_sameRecords.l6 at h
   refine wp_seq ?_
   refine wp_seq ?_
   refine wp_region_lit ?_
   refine omv R rfl rfl fun a R => ?_
   refine omv R rfl rfl fun a R => ?_
   refine op_val R (rn_len R rfl Tryd.underlying30) rfl fun a R => ?_
   refine op_val R (rn_bin (v := .bool (decide (z6_5 < ((x0.len : Nat) : Int)))) R rfl rfl rfl) rfl fun a R => ?_
   refine wpList_nil ?_
   refine then_normal ?_
   rcases ite_cases h with ⟨g9, h⟩ | ⟨g9, h⟩
   ·refine wp_condT R (congrArg (fun b => some (Value.bool b)) g9) ?_
    refine wp_skip ?_
    refine then_normal ?_
    refine wp_seq ?_
    refine wp_block ?_
    refine seq_join (fun a w => ∃ y10_41 : Bool, Rep a 42 [(0, Sl.val x0), (1, Sl.val x1), (5, .int .i64 z6_5), (41, .bool y10_41)] [] ∧ levylaw19_sameRecords.k10 x0 x1 z6_5 K6 y10_41 Q w) ?_ ?_
    ·refine region_start mo fun inv => ?_
     refine seg_same (n := 10) (f := 10) (g := 15) (by kernel_rfl) fun inv => ?_
     refine dr_val (i := 0) R (waits_dom (by kernel_rfl) (by kernel_rfl)) (by kernel_rfl) inv rfl (by decide) (by kernel_rfl) (by kernel_rfl) (fun _ _ _ h => h) wanted_none (fun w' hS => rn_mv R rfl) rfl (by decide) fun inv a R => ?_
     refine dr_val (i := 1) R (waits_dom (by kernel_rfl) (by kernel_rfl)) (by kernel_rfl) inv rfl (by decide) (by kernel_rfl) (by kernel_rfl) (fun _ _ _ h => h) wanted_none (fun w' hS => rn_mv R rfl) rfl (by decide) fun inv a R => ?_
     obtain ⟨b13, x19_14, p13, i13, j13, e13, h⟩ := ix_e h
     refine dr_val (v := .pointer (some x19_14)) (i := 2) R (waits_dom (by kernel_rfl) (by kernel_rfl)) (by kernel_rfl) inv rfl (by decide) (by kernel_rfl) (by kernel_rfl) (fun _ _ _ h => h) wanted_none (fun w' hS => by rw [e13]; exact rn_ixs (x := (.tmp 17)) (y := (.tmp 18)) R rfl p13 rfl Tryd.underlying30 sz37 i13 j13) rfl (by decide) fun inv a R => ?_
     refine dr_val (i := 3) R (waits_dom (by kernel_rfl) (by kernel_rfl)) (by kernel_rfl) inv rfl (by decide) (by kernel_rfl) (by kernel_rfl) (fun _ _ _ h => h) wanted_none (fun w' hS => rn_fld R rfl fd37_0) rfl (by decide) fun inv a R => ?_
     obtain ⟨x21_15, cx21_15, h⟩ := h
     refine dr_val (i := 4) R (waits_dom (by kernel_rfl) (by kernel_rfl)) (by kernel_rfl) inv rfl (by decide) (by kernel_rfl) (by kernel_rfl) (fun _ _ _ h => h) wanted_none (fun w' hS => rn_ld R rfl Tryd.underlying5 rfl (cell_heap' hS cx21_15)) rfl (by decide) fun inv a R => ?_
     refine dr_val (i := 5) R (waits_dom (by kernel_rfl) (by kernel_rfl)) (by kernel_rfl) inv rfl (by decide) (by kernel_rfl) (by kernel_rfl) (fun _ _ _ h => h) wanted_none (fun w' hS => rn_mv R rfl) rfl (by decide) fun inv a R => ?_
     refine dr_val (i := 6) R (waits_dom (by kernel_rfl) (by kernel_rfl)) (by kernel_rfl) inv rfl (by decide) (by kernel_rfl) (by kernel_rfl) (fun _ _ _ h => h) wanted_none (fun w' hS => rn_mv R rfl) rfl (by decide) fun inv a R => ?_
     obtain ⟨b16, x24_17, p16, i16, j16, e16, h⟩ := ix_e h
     refine dr_val (v := .pointer (some x24_17)) (i := 7) R (waits_dom (by kernel_rfl) (by kernel_rfl)) (by kernel_rfl) inv rfl (by decide) (by kernel_rfl) (by kernel_rfl) (fun _ _ _ h => h) wanted_none (fun w' hS => by rw [e16]; exact rn_ixs (x := (.tmp 22)) (y := (.tmp 23)) R rfl p16 rfl Tryd.underlying30 sz37 i16 j16) rfl (by decide) fun inv a R => ?_
     refine dr_val (i := 8) R (waits_dom (by kernel_rfl) (by kernel_rfl)) (by kernel_rfl) inv rfl (by decide) (by kernel_rfl) (by kernel_rfl) (fun _ _ _ h => h) wanted_none (fun w' hS => rn_fld R rfl fd37_0) rfl (by decide) fun inv a R => ?_
     obtain ⟨x26_18, cx26_18, h⟩ := h
     refine dr_val (i := 9) R (waits_dom (by kernel_rfl) (by kernel_rfl)) (by kernel_rfl) inv rfl (by decide) (by kernel_rfl) (by kernel_rfl) (fun _ _ _ h => h) wanted_none (fun w' hS => rn_ld R rfl Tryd.underlying5 rfl (cell_heap' hS cx26_18)) rfl (by decide) fun inv a R => ?_
     refine seg_end (by kernel_rfl) ?_
     refine any_val (i := 10) R rfl (by kernel_rfl) wanted_none (rn_bin (v := .bool (x21_15 != x26_18)) R rfl rfl rfl) rfl fun a R => ?_
     refine any_val (i := 11) R rfl (by kernel_rfl) wanted_none (rn_mv R rfl) rfl fun a R => ?_
     refine seg_same (n := 22) (f := 10) (g := 3) (by kernel_rfl) fun inv => ?_
     rcases ite_cases h with ⟨g20, h⟩ | ⟨g20, h⟩
     ·refine dr_pass (i := 12) R (waits_dom (by kernel_rfl) (by kernel_rfl)) (by kernel_rfl) inv rfl (by decide) (by kernel_rfl) (by kernel_rfl) (fun _ _ _ h => h) (wanted_no R rfl rfl rfl (nft g20)) rfl rfl fun inv a R => ?_
      refine dr_pass (i := 13) R (waits_dom (by kernel_rfl) (by kernel_rfl)) (by kernel_rfl) inv rfl (by decide) (by kernel_rfl) (by kernel_rfl) (fun _ _ _ h => h) (wanted_no R rfl rfl rfl (nft g20)) rfl rfl fun inv a R => ?_
      refine dr_pass (i := 14) R (waits_dom (by kernel_rfl) (by kernel_rfl)) (by kernel_rfl) inv rfl (by decide) (by kernel_rfl) (by kernel_rfl) (fun _ _ _ h => h) (wanted_no R rfl rfl rfl (nft g20)) rfl rfl fun inv a R => ?_
      refine dr_pass (i := 15) R (waits_dom (by kernel_rfl) (by kernel_rfl)) (by kernel_rfl) inv rfl (by decide) (by kernel_rfl) (by kernel_rfl) (fun _ _ _ h => h) (wanted_no R rfl rfl rfl (nft g20)) rfl rfl fun inv a R => ?_
      refine dr_pass (i := 16) R (waits_dom (by kernel_rfl) (by kernel_rfl)) (by kernel_rfl) inv rfl (by decide) (by kernel_rfl) (by kernel_rfl) (fun _ _ _ h => h) (wanted_no R rfl rfl rfl (nft g20)) rfl rfl fun inv a R => ?_
      refine dr_pass (i := 17) R (waits_dom (by kernel_rfl) (by kernel_rfl)) (by kernel_rfl) inv rfl (by decide) (by kernel_rfl) (by kernel_rfl) (fun _ _ _ h => h) (wanted_no R rfl rfl rfl (nft g20)) rfl rfl fun inv a R => ?_
      refine dr_pass (i := 18) R (waits_dom (by kernel_rfl) (by kernel_rfl)) (by kernel_rfl) inv rfl (by decide) (by kernel_rfl) (by kernel_rfl) (fun _ _ _ h => h) (wanted_no R rfl rfl rfl (nft g20)) rfl rfl fun inv a R => ?_
      refine dr_pass (i := 19) R (waits_dom (by kernel_rfl) (by kernel_rfl)) (by kernel_rfl) inv rfl (by decide) (by kernel_rfl) (by kernel_rfl) (fun _ _ _ h => h) (wanted_no R rfl rfl rfl (nft g20)) rfl rfl fun inv a R => ?_
      refine dr_pass (i := 20) R (waits_dom (by kernel_rfl) (by kernel_rfl)) (by kernel_rfl) inv rfl (by decide) (by kernel_rfl) (by kernel_rfl) (fun _ _ _ h => h) (wanted_no R rfl rfl rfl (nft g20)) rfl rfl fun inv a R => ?_
      refine dr_pass (i := 21) R (waits_dom (by kernel_rfl) (by kernel_rfl)) (by kernel_rfl) inv rfl (by decide) (by kernel_rfl) (by kernel_rfl) (fun _ _ _ h => h) (wanted_no R rfl rfl rfl (nft g20)) rfl rfl fun inv a R => ?_
      refine seg_end (by kernel_rfl) ?_
      refine any_tail 22 (by kernel_rfl) ?_
      refine op_pass R rfl rfl rfl (nft g20) (fun a R => ?_) (by intro s hs; cases hs; rfl)
      refine op_pass R rfl rfl rfl (nft g20) (fun a R => ?_) (by intro s hs; cases hs; rfl)
      refine op_val R (rn_pickT R rfl g20 rfl) rfl fun a R => ?_
      refine wpList_nil ?_
      refine then_normal ?_
      exact ⟨true, R.weak ⟨rfl, rfl, rfl, rfl, trivial⟩, h⟩
     ·refine dr_val (i := 12) R (waits_dom (by kernel_rfl) (by kernel_rfl)) (by kernel_rfl) inv rfl (by decide) (by kernel_rfl) (by kernel_rfl) (fun _ _ _ h => h) (wanted_yes R rfl rfl rfl g20) (fun w' hS => rn_mv R rfl) rfl (by decide) fun inv a R => ?_
      refine dr_val (i := 13) R (waits_dom (by kernel_rfl) (by kernel_rfl)) (by kernel_rfl) inv rfl (by decide) (by kernel_rfl) (by kernel_rfl) (fun _ _ _ h => h) (wanted_yes R rfl rfl rfl g20) (fun w' hS => rn_mv R rfl) rfl (by decide) fun inv a R => ?_
      obtain ⟨b21, x31_22, p21, i21, j21, e21, h⟩ := ix_e h
      refine dr_val (v := .pointer (some x31_22)) (i := 14) R (waits_dom (by kernel_rfl) (by kernel_rfl)) (by kernel_rfl) inv rfl (by decide) (by kernel_rfl) (by kernel_rfl) (fun _ _ _ h => h) (wanted_yes R rfl rfl rfl g20) (fun w' hS => by rw [e21]; exact rn_ixs (x := (.tmp 29)) (y := (.tmp 30)) R rfl p21 rfl Tryd.underlying30 sz37 i21 j21) rfl (by decide) fun inv a R => ?_
      refine dr_val (i := 15) R (waits_dom (by kernel_rfl) (by kernel_rfl)) (by kernel_rfl) inv rfl (by decide) (by kernel_rfl) (by kernel_rfl) (fun _ _ _ h => h) (wanted_yes R rfl rfl rfl g20) (fun w' hS => rn_fld R rfl fd37_1) rfl (by decide) fun inv a R => ?_
      obtain ⟨x33_23, cx33_23, h⟩ := h
      refine dr_val (i := 16) R (waits_dom (by kernel_rfl) (by kernel_rfl)) (by kernel_rfl) inv rfl (by decide) (by kernel_rfl) (by kernel_rfl) (fun _ _ _ h => h) (wanted_yes R rfl rfl rfl g20) (fun w' hS => rn_ld R rfl Tryd.underlying29 rfl (cell_heap' hS cx33_23)) rfl (by decide) fun inv a R => ?_
      refine dr_val (i := 17) R (waits_dom (by kernel_rfl) (by kernel_rfl)) (by kernel_rfl) inv rfl (by decide) (by kernel_rfl) (by kernel_rfl) (fun _ _ _ h => h) (wanted_yes R rfl rfl rfl g20) (fun w' hS => rn_mv R rfl) rfl (by decide) fun inv a R => ?_
      refine dr_val (i := 18) R (waits_dom (by kernel_rfl) (by kernel_rfl)) (by kernel_rfl) inv rfl (by decide) (by kernel_rfl) (by kernel_rfl) (fun _ _ _ h => h) (wanted_yes R rfl rfl rfl g20) (fun w' hS => rn_mv R rfl) rfl (by decide) fun inv a R => ?_
      obtain ⟨b24, x36_25, p24, i24, j24, e24, h⟩ := ix_e h
      refine dr_val (v := .pointer (some x36_25)) (i := 19) R (waits_dom (by kernel_rfl) (by kernel_rfl)) (by kernel_rfl) inv rfl (by decide) (by kernel_rfl) (by kernel_rfl) (fun _ _ _ h => h) (wanted_yes R rfl rfl rfl g20) (fun w' hS => by rw [e24]; exact rn_ixs (x := (.tmp 34)) (y := (.tmp 35)) R rfl p24 rfl Tryd.underlying30 sz37 i24 j24) rfl (by decide) fun inv a R => ?_
      refine dr_val (i := 20) R (waits_dom (by kernel_rfl) (by kernel_rfl)) (by kernel_rfl) inv rfl (by decide) (by kernel_rfl) (by kernel_rfl) (fun _ _ _ h => h) (wanted_yes R rfl rfl rfl g20) (fun w' hS => rn_fld R rfl fd37_1) rfl (by decide) fun inv a R => ?_
      obtain ⟨x38_26, cx38_26, h⟩ := h
      refine dr_val (i := 21) R (waits_dom (by kernel_rfl) (by kernel_rfl)) (by kernel_rfl) inv rfl (by decide) (by kernel_rfl) (by kernel_rfl) (fun _ _ _ h => h) (wanted_yes R rfl rfl rfl g20) (fun w' hS => rn_ld R rfl Tryd.underlying29 rfl (cell_heap' hS cx38_26)) rfl (by decide) fun inv a R => ?_
      refine seg_end (by kernel_rfl) ?_
      refine any_tail 22 (by kernel_rfl) ?_
      refine op_guard R rfl rfl rfl g20 ?_
      refine op_call R (rn_calls R rfl cf20) rfl ?_
      refine call_mono (s_levylaw19_sameBytes _ _ _ _ h) ?_
      rintro _ w28 ⟨x39_27_0, rfl, h⟩ a R
      refine op_guard R rfl rfl rfl g20 ?_
      refine op_val R (rn_un (v := .bool (!x39_27_0)) R rfl rfl) rfl fun a R => ?_
      refine op_val R (rn_pickF R rfl g20 rfl) rfl fun a R => ?_
      refine wpList_nil ?_
      refine then_normal ?_
      exact ⟨(!x39_27_0), R.weak ⟨rfl, rfl, rfl, rfl, trivial⟩, h⟩
    ·rintro a w ⟨y10_41, R, h⟩
     unfold levylaw19_sameRecords.k10 at h
     rcases ite_cases h with ⟨g11, h⟩ | ⟨g11, h⟩
     ·refine wp_condT R (congrArg (fun b => some (Value.bool b)) g11) ?_
      refine wp_seq ?_
      refine wp_region_lit ?_
      refine oas R rfl rfl fun a R => ?_
      refine wpList_nil ?_
      refine then_normal ?_
      refine wp_ret ?_
      refine block_ret ?_
      refine then_ret ?_
      refine then_ret ?_
      refine block_ret ?_
      refine then_ret ?_
      exact post_ret R rfl rfl ⟨false, rfl, h⟩
     ·refine wp_condF R (congrArg (fun b => some (Value.bool b)) g11) ?_
      refine wp_skip ?_
      refine block_normal ?_
      refine then_normal ?_
      refine wp_region_lit ?_
      refine omv R rfl rfl fun a R => ?_
      refine op_val R (rn_bin (v := .int .i64 (IntKind.i64.wrap (z6_5 + 1))) R rfl rfl rfl) rfl fun a R => ?_
      refine oas R rfl rfl fun a R => ?_
      refine wpList_nil ?_
      refine then_normal ?_
      exact hC (IntKind.i64.wrap (z6_5 + 1)) _ _ (R.weak ⟨rfl, rfl, rfl, trivial⟩) (by rw [← hK6] at h; exact h)
   ·refine wp_condF R (congrArg (fun b => some (Value.bool b)) g9) ?_
    refine wp_exit ?_
    refine then_exit ?_
    refine then_exit ?_
    refine block_eq ?_
    refine then_normal ?_
    exact ⟨R.weak trivial, h⟩
  ·rintro a w ⟨R, h⟩
   unfold levylaw19_sameRecords.k5 at h
   refine wp_seq ?_
   refine wp_region_lit ?_
   refine oas R rfl rfl fun a R => ?_
   refine wpList_nil ?_
   refine then_normal ?_
   refine wp_ret ?_
   exact post_ret R rfl rfl ⟨true, rfl, h⟩
theorem s_levylaw19_sameRecords (x0 : Sl) (x1 : Sl) (Q : Bool → World → Prop) (w : World) (h : levylaw19_sameRecords x0 x1 Q w) :
    Calls Tryd.prog 30 #[Sl.val x0, Sl.val x1] w (Rets fun v w => ∃ r0 : Bool, v = (.bool r0 : Value) ∧ Q r0 w) :=
  calls_body (args := [Sl.val x0, Sl.val x1]) Tryd.func30 rfl rfl (Nat.le_of_ble_eq_true rfl) (L := [(0, Sl.val x0), (1, Sl.val x1)]) (by simp [starts]) (b_levylaw19_sameRecords x0 x1 Q w h rfl)

/-! (levylaw19.world).may -/

def levylaw19_world_may.k2 (y2_6 : Bool) (Q : Bool → World → Prop) (w : World) : Prop :=
  Q y2_6 w

def levylaw19_world_may.k1 (x0 : Option Addr) (x1 : Sl) (x2 : Sl) (Q : Bool → World → Prop) (w : World) : Prop :=
  nn x0 fun x61_3 => ld Sl.val w (x61_3.add 6) fun x63_4 => (if (((x63_4.len : Nat) : Int) == 1) = true then nn x0 fun x69_8 => ld Sl.val w (x69_8.add 6) fun x71_9 => ix x71_9.p x71_9.len 0 1 fun x72_11 => ld Sl.val w x72_11 fun x73_12 => levylaw19_sameBytes x1 x73_12 (fun x74_13_0 w => (if x74_13_0 = true then levylaw19_world_may.k2 (((x2.len : Nat) : Int) == 0) Q w else levylaw19_world_may.k2 false Q w)) w else levylaw19_world_may.k2 false Q w)

def levylaw19_world_may.k26 (x0 : Option Addr) (x1 : Sl) (x2 : Sl) (y26_59 : Bool) (Q : Bool → World → Prop) (w : World) : Prop :=
  (if y26_59 = true then Q true w else levylaw19_world_may.k1 x0 x1 x2 Q w)

def levylaw19_world_may (x0 : Option Addr) (x1 : Sl) (x2 : Sl) (Q : Bool → World → Prop) (w : World) : Prop :=
  nn x0 fun x9_18 => ld Sl.val w (x9_18.add 3) fun x11_19 => levylaw19_sameBytes x1 x11_19 (fun x12_20_0 w => (if x12_20_0 = true then nn x0 fun x15_22 => ld Sl.val w (x15_22.add 4) fun x17_23 => levylaw19_sameRecords x2 x17_23 (fun x18_24_0 w => (if x18_24_0 = true then Q true w else nn x0 fun x20_28 => ld Sl.val (World.drew w) (x20_28.add 5) fun x22_29 => (if (((x22_29.len : Nat) : Int) == 1) = true then nn x0 fun x29_34 => ld Sl.val (World.drew w) (x29_34.add 4) fun x31_35 => (if (((x2.len : Nat) : Int) == (IntKind.i64.wrap (((x31_35.len : Nat) : Int) + 1))) = true then ((0 : Int) ≤ (IntKind.i64.wrap (((x2.len : Nat) : Int) - 1)) ∧ (IntKind.i64.wrap (((x2.len : Nat) : Int) - 1)) ≤ ((x2.cap : Nat) : Int) ∧ nn x0 fun x43_43 => ld Sl.val (World.drew w) (x43_43.add 4) fun x45_44 => levylaw19_sameRecords (cutSl ⟨x2.p, x2.len, x2.cap⟩ 2 0 (Int.toNat (IntKind.i64.wrap (((x2.len : Nat) : Int) - 1))) x2.cap) x45_44 (fun x46_45_0 w => (if x46_45_0 = true then ((0 : Int) ≤ (IntKind.i64.wrap (((x2.len : Nat) : Int) - 1)) ∧ (IntKind.i64.wrap (((x2.len : Nat) : Int) - 1)) ≤ ((x2.len : Nat) : Int) ∧ nn x0 fun x55_50 => ld Sl.val w (x55_50.add 5) fun x57_51 => levylaw19_sameRecords (cutSl ⟨x2.p, x2.len, x2.cap⟩ 2 (Int.toNat (IntKind.i64.wrap (((x2.len : Nat) : Int) - 1))) x2.len x2.cap) x57_51 (fun x58_52_0 w => levylaw19_world_may.k26 x0 x1 x2 x58_52_0 Q w) w) else levylaw19_world_may.k26 x0 x1 x2 false Q w)) (World.drew w)) else levylaw19_world_may.k26 x0 x1 x2 false Q (World.drew w)) else levylaw19_world_may.k26 x0 x1 x2 false Q (World.drew w)))) w else levylaw19_world_may.k1 x0 x1 x2 Q w)) w

theorem b_levylaw19_world_may (x0 : Option Addr) (x1 : Sl) (x2 : Sl) (Q : Bool → World → Prop) (w : World) (h : levylaw19_world_may x0 x1 x2 Q w) {c : Code} (hb : Tryd.f22.body = some c) :
 ∀ a, Rep a 81 [(0, .pointer x0), (1, Sl.val x1), (2, Sl.val x2)] [] → c.wp Tryd.prog (bodyPost Tryd.prog Tryd.f22 (Rets fun v w => ∃ r0 : Bool, v = (.bool r0 : Value) ∧ Q r0 w)) a w := by
 intro a R
 obtain rfl := Option.some.inj hb
 unfold levylaw19_world_may at h
 refine wp_seq ?_
 refine wp_region_lit ?_
 refine oas R rfl rfl fun a R => ?_
 refine wpList_nil ?_
 refine then_normal ?_
 refine seq_join (fun a w => Rep a 81 [(0, .pointer x0), (1, Sl.val x1), (2, Sl.val x2)] [] ∧ levylaw19_world_may.k1 x0 x1 x2 Q w) ?_ ?_
 ·refine wp_seq ?_
  refine wp_region_lit ?_
  refine omv R rfl rfl fun a R => ?_
  refine omv R rfl rfl fun a R => ?_
  obtain ⟨x9_18, cx9_18, h⟩ := h
  refine onl R rfl cx9_18 rfl fun a R => ?_
  refine ofd R rfl fd32_3 rfl fun a R => ?_
  obtain ⟨x11_19, cx11_19, h⟩ := h
  refine old R rfl Tryd.underlying29 rfl cx11_19 rfl fun a R => ?_
  refine op_call R (rn_calls R rfl cf20) rfl ?_
  refine call_mono (s_levylaw19_sameBytes _ _ _ _ h) ?_
  rintro _ w56 ⟨x12_20_0, rfl, h⟩ a R
  refine wpList_nil ?_
  refine then_normal ?_
  rcases ite_cases h with ⟨g21, h⟩ | ⟨g21, h⟩
  ·refine wp_condT R (congrArg (fun b => some (Value.bool b)) g21) ?_
   refine wp_seq ?_
   refine wp_seq ?_
   refine wp_region_lit ?_
   refine omv R rfl rfl fun a R => ?_
   refine omv R rfl rfl fun a R => ?_
   obtain ⟨x15_22, cx15_22, h⟩ := h
   refine onl R rfl cx15_22 rfl fun a R => ?_
   refine ofd R rfl fd32_4 rfl fun a R => ?_
   obtain ⟨x17_23, cx17_23, h⟩ := h
   refine old R rfl Tryd.underlying30 rfl cx17_23 rfl fun a R => ?_
   refine op_call R (rn_calls R rfl cf30) rfl ?_
   refine call_mono (s_levylaw19_sameRecords _ _ _ _ h) ?_
   rintro _ w55 ⟨x18_24_0, rfl, h⟩ a R
   refine wpList_nil ?_
   refine then_normal ?_
   rcases ite_cases h with ⟨g25, h⟩ | ⟨g25, h⟩
   ·refine wp_condT R (congrArg (fun b => some (Value.bool b)) g25) ?_
    refine wp_seq ?_
    refine wp_region_lit ?_
    refine oas R rfl rfl fun a R => ?_
    refine wpList_nil ?_
    refine then_normal ?_
    refine wp_ret ?_
    refine then_ret ?_
    refine then_ret ?_
    exact post_ret R rfl rfl ⟨true, rfl, h⟩
   ·refine wp_condF R (congrArg (fun b => some (Value.bool b)) g25) ?_
    refine wp_skip ?_
    refine then_normal ?_
    refine seq_join (fun a w => ∃ y26_59 : Bool, Rep a 81 [(0, .pointer x0), (1, Sl.val x1), (2, Sl.val x2), (59, .bool y26_59)] [] ∧ levylaw19_world_may.k26 x0 x1 x2 y26_59 Q w) ?_ ?_
    ·refine region_start mo fun inv => ?_
     refine any_val (i := 0) R rfl (by kernel_rfl) wanted_none (rn_mv R rfl) rfl fun a R => ?_
     obtain ⟨x20_28, cx20_28, h⟩ := h
     refine any_val (i := 1) R rfl (by kernel_rfl) wanted_none (rn_nil R rfl cx20_28) rfl fun a R => ?_
     refine any_val (i := 2) R rfl (by kernel_rfl) wanted_none (rn_fld R rfl fd32_5) rfl fun a R => ?_
     obtain ⟨x22_29, cx22_29, h⟩ := h
     refine any_val (i := 3) R rfl (by kernel_rfl) wanted_none (rn_ld R rfl Tryd.underlying30 rfl cx22_29) rfl fun a R => ?_
     refine any_val (i := 4) R rfl (by kernel_rfl) wanted_none (rn_len R rfl Tryd.underlying30) rfl fun a R => ?_
     refine any_val (i := 5) R rfl (by kernel_rfl) wanted_none (rn_bin (v := .bool (((x22_29.len : Nat) : Int) == 1)) R rfl rfl rfl) rfl fun a R => ?_
     refine any_val (i := 6) R rfl (by kernel_rfl) wanted_none (rn_mv R rfl) rfl fun a R => ?_
     refine seg_same (n := 15) (f := 8) (g := 26) (by kernel_rfl) fun inv => ?_
     rcases ite_cases h with ⟨g32, h⟩ | ⟨g32, h⟩
     ·refine dr_val (i := 7) R (waits_dom (by kernel_rfl) (by kernel_rfl)) (by kernel_rfl) inv rfl (by decide) (by kernel_rfl) (by kernel_rfl) (fun _ _ _ h => h) (wanted_yes R rfl rfl rfl g32) (fun w' hS => rn_mv R rfl) rfl (by decide) fun inv a R => ?_
      refine dr_val (i := 8) R (waits_dom (by kernel_rfl) (by kernel_rfl)) (by kernel_rfl) inv rfl (by decide) (by kernel_rfl) (by kernel_rfl) (fun _ _ _ h => h) (wanted_yes R rfl rfl rfl g32) (fun w' hS => rn_len R rfl Tryd.underlying30) rfl (by decide) fun inv a R => ?_
      refine dr_val (i := 9) R (waits_dom (by kernel_rfl) (by kernel_rfl)) (by kernel_rfl) inv rfl (by decide) (by kernel_rfl) (by kernel_rfl) (fun _ _ _ h => h) (wanted_yes R rfl rfl rfl g32) (fun w' hS => rn_mv R rfl) rfl (by decide) fun inv a R => ?_
      obtain ⟨x29_34, cx29_34, h⟩ := h
      refine dr_val (i := 10) R (waits_dom (by kernel_rfl) (by kernel_rfl)) (by kernel_rfl) inv rfl (by decide) (by kernel_rfl) (by kernel_rfl) (fun _ _ _ h => h) (wanted_yes R rfl rfl rfl g32) (fun w' hS => rn_nil R rfl cx29_34) rfl (by decide) fun inv a R => ?_
      refine dr_val (i := 11) R (waits_dom (by kernel_rfl) (by kernel_rfl)) (by kernel_rfl) inv rfl (by decide) (by kernel_rfl) (by kernel_rfl) (fun _ _ _ h => h) (wanted_yes R rfl rfl rfl g32) (fun w' hS => rn_fld R rfl fd32_4) rfl (by decide) fun inv a R => ?_
      obtain ⟨x31_35, cx31_35, h⟩ := h
      refine dr_val (i := 12) R (waits_dom (by kernel_rfl) (by kernel_rfl)) (by kernel_rfl) inv rfl (by decide) (by kernel_rfl) (by kernel_rfl) (fun _ _ _ h => h) (wanted_yes R rfl rfl rfl g32) (fun w' hS => rn_ld R rfl Tryd.underlying30 rfl (cell_heap' hS cx31_35)) rfl (by decide) fun inv a R => ?_
      refine dr_val (i := 13) R (waits_dom (by kernel_rfl) (by kernel_rfl)) (by kernel_rfl) inv rfl (by decide) (by kernel_rfl) (by kernel_rfl) (fun _ _ _ h => h) (wanted_yes R rfl rfl rfl g32) (fun w' hS => rn_len R rfl Tryd.underlying30) rfl (by decide) fun inv a R => ?_
      refine dr_val (i := 14) R (waits_dom (by kernel_rfl) (by kernel_rfl)) (by kernel_rfl) inv rfl (by decide) (by kernel_rfl) (by kernel_rfl) (fun _ _ _ h => h) (wanted_yes R rfl rfl rfl g32) (fun w' hS => rn_bin (v := .int .i64 (IntKind.i64.wrap (((x31_35.len : Nat) : Int) + 1))) R rfl rfl rfl) rfl (by decide) fun inv a R => ?_
      refine seg_end (by kernel_rfl) ?_
      refine any_val (i := 15) R rfl (by kernel_rfl) (wanted_yes R rfl rfl rfl g32) (rn_bin (v := .bool (((x2.len : Nat) : Int) == (IntKind.i64.wrap (((x31_35.len : Nat) : Int) + 1)))) R rfl rfl rfl) rfl fun a R => ?_
      refine any_val (i := 16) R rfl (by kernel_rfl) wanted_none (rn_pickT R rfl g32 rfl) rfl fun a R => ?_
      refine any_val (i := 17) R rfl (by kernel_rfl) wanted_none (rn_mv R rfl) rfl fun a R => ?_
      refine seg_same (n := 27) (f := 9) (g := 14) (by kernel_rfl) fun inv => ?_
      rcases ite_cases h with ⟨g39, h⟩ | ⟨g39, h⟩
      ·refine dr_val (i := 18) R (waits_dom (by kernel_rfl) (by kernel_rfl)) (by kernel_rfl) inv rfl (by decide) (by kernel_rfl) (by kernel_rfl) (fun _ _ _ h => h) (wanted_yes R rfl rfl rfl g39) (fun w' hS => rn_mv R rfl) rfl (by decide) fun inv a R => ?_
       refine dr_val (i := 19) R (waits_dom (by kernel_rfl) (by kernel_rfl)) (by kernel_rfl) inv rfl (by decide) (by kernel_rfl) (by kernel_rfl) (fun _ _ _ h => h) (wanted_yes R rfl rfl rfl g39) (fun w' hS => rn_mv R rfl) rfl (by decide) fun inv a R => ?_
       refine dr_val (i := 20) R (waits_dom (by kernel_rfl) (by kernel_rfl)) (by kernel_rfl) inv rfl (by decide) (by kernel_rfl) (by kernel_rfl) (fun _ _ _ h => h) (wanted_yes R rfl rfl rfl g39) (fun w' hS => rn_len R rfl Tryd.underlying30) rfl (by decide) fun inv a R => ?_
       refine dr_val (i := 21) R (waits_dom (by kernel_rfl) (by kernel_rfl)) (by kernel_rfl) inv rfl (by decide) (by kernel_rfl) (by kernel_rfl) (fun _ _ _ h => h) (wanted_yes R rfl rfl rfl g39) (fun w' hS => rn_bin (v := .int .i64 (IntKind.i64.wrap (((x2.len : Nat) : Int) - 1))) R rfl rfl rfl) rfl (by decide) fun inv a R => ?_
       obtain ⟨s42_0, s42_1, h⟩ := h
       refine dr_val (i := 22) R (waits_dom (by kernel_rfl) (by kernel_rfl)) (by kernel_rfl) inv rfl (by decide) (by kernel_rfl) (by kernel_rfl) (fun _ _ _ h => h) (wanted_yes R rfl rfl rfl g39) (fun w' hS => rn_sl R rfl rfl (evo R rfl) rfl (fun w => bounds2 (lo := none) (hi := (some (.i64, (IntKind.i64.wrap (((x2.len : Nat) : Int) - 1))))) 0 (Int.toNat (IntKind.i64.wrap (((x2.len : Nat) : Int) - 1))) ⟨s42_0, s42_1, rfl⟩ rfl w) Tryd.underlying30 sz37) rfl (by decide) fun inv a R => ?_
       refine dr_val (i := 23) R (waits_dom (by kernel_rfl) (by kernel_rfl)) (by kernel_rfl) inv rfl (by decide) (by kernel_rfl) (by kernel_rfl) (fun _ _ _ h => h) (wanted_yes R rfl rfl rfl g39) (fun w' hS => rn_mv R rfl) rfl (by decide) fun inv a R => ?_
       obtain ⟨x43_43, cx43_43, h⟩ := h
       refine dr_val (i := 24) R (waits_dom (by kernel_rfl) (by kernel_rfl)) (by kernel_rfl) inv rfl (by decide) (by kernel_rfl) (by kernel_rfl) (fun _ _ _ h => h) (wanted_yes R rfl rfl rfl g39) (fun w' hS => rn_nil R rfl cx43_43) rfl (by decide) fun inv a R => ?_
       refine dr_val (i := 25) R (waits_dom (by kernel_rfl) (by kernel_rfl)) (by kernel_rfl) inv rfl (by decide) (by kernel_rfl) (by kernel_rfl) (fun _ _ _ h => h) (wanted_yes R rfl rfl rfl g39) (fun w' hS => rn_fld R rfl fd32_4) rfl (by decide) fun inv a R => ?_
       obtain ⟨x45_44, cx45_44, h⟩ := h
       refine dr_val (i := 26) R (waits_dom (by kernel_rfl) (by kernel_rfl)) (by kernel_rfl) inv rfl (by decide) (by kernel_rfl) (by kernel_rfl) (fun _ _ _ h => h) (wanted_yes R rfl rfl rfl g39) (fun w' hS => rn_ld R rfl Tryd.underlying30 rfl (cell_heap' hS cx45_44)) rfl (by decide) fun inv a R => ?_
       refine seg_end (by kernel_rfl) ?_
       refine any_call (i := 27) R rfl (by kernel_rfl) (wanted_yes R rfl rfl rfl g39) (rn_calls R rfl cf30) rfl ?_
       refine call_mono (s_levylaw19_sameRecords _ _ _ _ h) ?_
       rintro _ w54 ⟨x46_45_0, rfl, h⟩ a R
       refine any_val (i := 28) R rfl (by kernel_rfl) wanted_none (rn_pickT R rfl g39 rfl) rfl fun a R => ?_
       refine any_val (i := 29) R rfl (by kernel_rfl) wanted_none (rn_mv R rfl) rfl fun a R => ?_
       refine seg_same (n := 39) (f := 9) (g := 2) (by kernel_rfl) fun inv => ?_
       rcases ite_cases h with ⟨g46, h⟩ | ⟨g46, h⟩
       ·refine dr_val (i := 30) R (waits_dom (by kernel_rfl) (by kernel_rfl)) (by kernel_rfl) inv rfl (by decide) (by kernel_rfl) (by kernel_rfl) (fun _ _ _ h => h) (wanted_yes R rfl rfl rfl g46) (fun w' hS => rn_mv R rfl) rfl (by decide) fun inv a R => ?_
        refine dr_val (i := 31) R (waits_dom (by kernel_rfl) (by kernel_rfl)) (by kernel_rfl) inv rfl (by decide) (by kernel_rfl) (by kernel_rfl) (fun _ _ _ h => h) (wanted_yes R rfl rfl rfl g46) (fun w' hS => rn_mv R rfl) rfl (by decide) fun inv a R => ?_
        refine dr_val (i := 32) R (waits_dom (by kernel_rfl) (by kernel_rfl)) (by kernel_rfl) inv rfl (by decide) (by kernel_rfl) (by kernel_rfl) (fun _ _ _ h => h) (wanted_yes R rfl rfl rfl g46) (fun w' hS => rn_len R rfl Tryd.underlying30) rfl (by decide) fun inv a R => ?_
        refine dr_val (i := 33) R (waits_dom (by kernel_rfl) (by kernel_rfl)) (by kernel_rfl) inv rfl (by decide) (by kernel_rfl) (by kernel_rfl) (fun _ _ _ h => h) (wanted_yes R rfl rfl rfl g46) (fun w' hS => rn_bin (v := .int .i64 (IntKind.i64.wrap (((x2.len : Nat) : Int) - 1))) R rfl rfl rfl) rfl (by decide) fun inv a R => ?_
        obtain ⟨s49_0, s49_1, h⟩ := h
        refine dr_val (i := 34) R (waits_dom (by kernel_rfl) (by kernel_rfl)) (by kernel_rfl) inv rfl (by decide) (by kernel_rfl) (by kernel_rfl) (fun _ _ _ h => h) (wanted_yes R rfl rfl rfl g46) (fun w' hS => rn_sl R rfl (evo R rfl) rfl rfl (fun w => bounds2 (lo := (some (.i64, (IntKind.i64.wrap (((x2.len : Nat) : Int) - 1))))) (hi := none) (Int.toNat (IntKind.i64.wrap (((x2.len : Nat) : Int) - 1))) x2.len rfl ⟨s49_0, s49_1, rfl⟩ w) Tryd.underlying30 sz37) rfl (by decide) fun inv a R => ?_
        refine dr_val (i := 35) R (waits_dom (by kernel_rfl) (by kernel_rfl)) (by kernel_rfl) inv rfl (by decide) (by kernel_rfl) (by kernel_rfl) (fun _ _ _ h => h) (wanted_yes R rfl rfl rfl g46) (fun w' hS => rn_mv R rfl) rfl (by decide) fun inv a R => ?_
        obtain ⟨x55_50, cx55_50, h⟩ := h
        refine dr_val (i := 36) R (waits_dom (by kernel_rfl) (by kernel_rfl)) (by kernel_rfl) inv rfl (by decide) (by kernel_rfl) (by kernel_rfl) (fun _ _ _ h => h) (wanted_yes R rfl rfl rfl g46) (fun w' hS => rn_nil R rfl cx55_50) rfl (by decide) fun inv a R => ?_
        refine dr_val (i := 37) R (waits_dom (by kernel_rfl) (by kernel_rfl)) (by kernel_rfl) inv rfl (by decide) (by kernel_rfl) (by kernel_rfl) (fun _ _ _ h => h) (wanted_yes R rfl rfl rfl g46) (fun w' hS => rn_fld R rfl fd32_5) rfl (by decide) fun inv a R => ?_
        obtain ⟨x57_51, cx57_51, h⟩ := h
        refine dr_val (i := 38) R (waits_dom (by kernel_rfl) (by kernel_rfl)) (by kernel_rfl) inv rfl (by decide) (by kernel_rfl) (by kernel_rfl) (fun _ _ _ h => h) (wanted_yes R rfl rfl rfl g46) (fun w' hS => rn_ld R rfl Tryd.underlying30 rfl (cell_heap' hS cx57_51)) rfl (by decide) fun inv a R => ?_
        refine seg_end (by kernel_rfl) ?_
        refine any_tail 39 (by kernel_rfl) ?_
        refine op_guard R rfl rfl rfl g46 ?_
        refine op_call R (rn_calls R rfl cf30) rfl ?_
        refine call_mono (s_levylaw19_sameRecords _ _ _ _ h) ?_
        rintro _ w53 ⟨x58_52_0, rfl, h⟩ a R
        refine op_val R (rn_pickT R rfl g46 rfl) rfl fun a R => ?_
        refine wpList_nil ?_
        refine then_normal ?_
        exact ⟨x58_52_0, R.weak ⟨rfl, rfl, rfl, rfl, trivial⟩, h⟩
       ·refine dr_pass (i := 30) R (waits_dom (by kernel_rfl) (by kernel_rfl)) (by kernel_rfl) inv rfl (by decide) (by kernel_rfl) (by kernel_rfl) (fun _ _ _ h => h) (wanted_no R rfl rfl rfl (ntf g46)) rfl rfl fun inv a R => ?_
        refine dr_pass (i := 31) R (waits_dom (by kernel_rfl) (by kernel_rfl)) (by kernel_rfl) inv rfl (by decide) (by kernel_rfl) (by kernel_rfl) (fun _ _ _ h => h) (wanted_no R rfl rfl rfl (ntf g46)) rfl rfl fun inv a R => ?_
        refine dr_pass (i := 32) R (waits_dom (by kernel_rfl) (by kernel_rfl)) (by kernel_rfl) inv rfl (by decide) (by kernel_rfl) (by kernel_rfl) (fun _ _ _ h => h) (wanted_no R rfl rfl rfl (ntf g46)) rfl rfl fun inv a R => ?_
        refine dr_pass (i := 33) R (waits_dom (by kernel_rfl) (by kernel_rfl)) (by kernel_rfl) inv rfl (by decide) (by kernel_rfl) (by kernel_rfl) (fun _ _ _ h => h) (wanted_no R rfl rfl rfl (ntf g46)) rfl rfl fun inv a R => ?_
        refine dr_pass (i := 34) R (waits_dom (by kernel_rfl) (by kernel_rfl)) (by kernel_rfl) inv rfl (by decide) (by kernel_rfl) (by kernel_rfl) (fun _ _ _ h => h) (wanted_no R rfl rfl rfl (ntf g46)) rfl rfl fun inv a R => ?_
        refine dr_pass (i := 35) R (waits_dom (by kernel_rfl) (by kernel_rfl)) (by kernel_rfl) inv rfl (by decide) (by kernel_rfl) (by kernel_rfl) (fun _ _ _ h => h) (wanted_no R rfl rfl rfl (ntf g46)) rfl rfl fun inv a R => ?_
        refine dr_pass (i := 36) R (waits_dom (by kernel_rfl) (by kernel_rfl)) (by kernel_rfl) inv rfl (by decide) (by kernel_rfl) (by kernel_rfl) (fun _ _ _ h => h) (wanted_no R rfl rfl rfl (ntf g46)) rfl rfl fun inv a R => ?_
        refine dr_pass (i := 37) R (waits_dom (by kernel_rfl) (by kernel_rfl)) (by kernel_rfl) inv rfl (by decide) (by kernel_rfl) (by kernel_rfl) (fun _ _ _ h => h) (wanted_no R rfl rfl rfl (ntf g46)) rfl rfl fun inv a R => ?_
        refine dr_pass (i := 38) R (waits_dom (by kernel_rfl) (by kernel_rfl)) (by kernel_rfl) inv rfl (by decide) (by kernel_rfl) (by kernel_rfl) (fun _ _ _ h => h) (wanted_no R rfl rfl rfl (ntf g46)) rfl rfl fun inv a R => ?_
        refine seg_end (by kernel_rfl) ?_
        refine any_tail 39 (by kernel_rfl) ?_
        refine op_pass R rfl rfl rfl (ntf g46) (fun a R => ?_) (by intro s hs; cases hs; rfl)
        refine op_val R (rn_pickF R rfl g46 rfl) rfl fun a R => ?_
        refine wpList_nil ?_
        refine then_normal ?_
        exact ⟨false, R.weak ⟨rfl, rfl, rfl, rfl, trivial⟩, h⟩
      ·refine dr_pass (i := 18) R (waits_dom (by kernel_rfl) (by kernel_rfl)) (by kernel_rfl) inv rfl (by decide) (by kernel_rfl) (by kernel_rfl) (fun _ _ _ h => h) (wanted_no R rfl rfl rfl (ntf g39)) rfl rfl fun inv a R => ?_
       refine dr_pass (i := 19) R (waits_dom (by kernel_rfl) (by kernel_rfl)) (by kernel_rfl) inv rfl (by decide) (by kernel_rfl) (by kernel_rfl) (fun _ _ _ h => h) (wanted_no R rfl rfl rfl (ntf g39)) rfl rfl fun inv a R => ?_
       refine dr_pass (i := 20) R (waits_dom (by kernel_rfl) (by kernel_rfl)) (by kernel_rfl) inv rfl (by decide) (by kernel_rfl) (by kernel_rfl) (fun _ _ _ h => h) (wanted_no R rfl rfl rfl (ntf g39)) rfl rfl fun inv a R => ?_
       refine dr_pass (i := 21) R (waits_dom (by kernel_rfl) (by kernel_rfl)) (by kernel_rfl) inv rfl (by decide) (by kernel_rfl) (by kernel_rfl) (fun _ _ _ h => h) (wanted_no R rfl rfl rfl (ntf g39)) rfl rfl fun inv a R => ?_
       refine dr_pass (i := 22) R (waits_dom (by kernel_rfl) (by kernel_rfl)) (by kernel_rfl) inv rfl (by decide) (by kernel_rfl) (by kernel_rfl) (fun _ _ _ h => h) (wanted_no R rfl rfl rfl (ntf g39)) rfl rfl fun inv a R => ?_
       refine dr_pass (i := 23) R (waits_dom (by kernel_rfl) (by kernel_rfl)) (by kernel_rfl) inv rfl (by decide) (by kernel_rfl) (by kernel_rfl) (fun _ _ _ h => h) (wanted_no R rfl rfl rfl (ntf g39)) rfl rfl fun inv a R => ?_
       refine dr_pass (i := 24) R (waits_dom (by kernel_rfl) (by kernel_rfl)) (by kernel_rfl) inv rfl (by decide) (by kernel_rfl) (by kernel_rfl) (fun _ _ _ h => h) (wanted_no R rfl rfl rfl (ntf g39)) rfl rfl fun inv a R => ?_
       refine dr_pass (i := 25) R (waits_dom (by kernel_rfl) (by kernel_rfl)) (by kernel_rfl) inv rfl (by decide) (by kernel_rfl) (by kernel_rfl) (fun _ _ _ h => h) (wanted_no R rfl rfl rfl (ntf g39)) rfl rfl fun inv a R => ?_
       refine dr_pass (i := 26) R (waits_dom (by kernel_rfl) (by kernel_rfl)) (by kernel_rfl) inv rfl (by decide) (by kernel_rfl) (by kernel_rfl) (fun _ _ _ h => h) (wanted_no R rfl rfl rfl (ntf g39)) rfl rfl fun inv a R => ?_
       refine seg_end (by kernel_rfl) ?_
       refine any_pass (i := 27) R rfl (by kernel_rfl) (wanted_no R rfl rfl rfl (ntf g39)) rfl fun a R => ?_
       refine any_val (i := 28) R rfl (by kernel_rfl) wanted_none (rn_pickF R rfl g39 rfl) rfl fun a R => ?_
       refine any_val (i := 29) R rfl (by kernel_rfl) wanted_none (rn_mv R rfl) rfl fun a R => ?_
       refine seg_same (n := 39) (f := 9) (g := 2) (by kernel_rfl) fun inv => ?_
       refine dr_pass (i := 30) R (waits_dom (by kernel_rfl) (by kernel_rfl)) (by kernel_rfl) inv rfl (by decide) (by kernel_rfl) (by kernel_rfl) (fun _ _ _ h => h) (wanted_no R rfl rfl rfl (ntf rfl)) rfl rfl fun inv a R => ?_
       refine dr_pass (i := 31) R (waits_dom (by kernel_rfl) (by kernel_rfl)) (by kernel_rfl) inv rfl (by decide) (by kernel_rfl) (by kernel_rfl) (fun _ _ _ h => h) (wanted_no R rfl rfl rfl (ntf rfl)) rfl rfl fun inv a R => ?_
       refine dr_pass (i := 32) R (waits_dom (by kernel_rfl) (by kernel_rfl)) (by kernel_rfl) inv rfl (by decide) (by kernel_rfl) (by kernel_rfl) (fun _ _ _ h => h) (wanted_no R rfl rfl rfl (ntf rfl)) rfl rfl fun inv a R => ?_
       refine dr_pass (i := 33) R (waits_dom (by kernel_rfl) (by kernel_rfl)) (by kernel_rfl) inv rfl (by decide) (by kernel_rfl) (by kernel_rfl) (fun _ _ _ h => h) (wanted_no R rfl rfl rfl (ntf rfl)) rfl rfl fun inv a R => ?_
       refine dr_pass (i := 34) R (waits_dom (by kernel_rfl) (by kernel_rfl)) (by kernel_rfl) inv rfl (by decide) (by kernel_rfl) (by kernel_rfl) (fun _ _ _ h => h) (wanted_no R rfl rfl rfl (ntf rfl)) rfl rfl fun inv a R => ?_
       refine dr_pass (i := 35) R (waits_dom (by kernel_rfl) (by kernel_rfl)) (by kernel_rfl) inv rfl (by decide) (by kernel_rfl) (by kernel_rfl) (fun _ _ _ h => h) (wanted_no R rfl rfl rfl (ntf rfl)) rfl rfl fun inv a R => ?_
       refine dr_pass (i := 36) R (waits_dom (by kernel_rfl) (by kernel_rfl)) (by kernel_rfl) inv rfl (by decide) (by kernel_rfl) (by kernel_rfl) (fun _ _ _ h => h) (wanted_no R rfl rfl rfl (ntf rfl)) rfl rfl fun inv a R => ?_
       refine dr_pass (i := 37) R (waits_dom (by kernel_rfl) (by kernel_rfl)) (by kernel_rfl) inv rfl (by decide) (by kernel_rfl) (by kernel_rfl) (fun _ _ _ h => h) (wanted_no R rfl rfl rfl (ntf rfl)) rfl rfl fun inv a R => ?_
       refine dr_pass (i := 38) R (waits_dom (by kernel_rfl) (by kernel_rfl)) (by kernel_rfl) inv rfl (by decide) (by kernel_rfl) (by kernel_rfl) (fun _ _ _ h => h) (wanted_no R rfl rfl rfl (ntf rfl)) rfl rfl fun inv a R => ?_
       refine seg_end (by kernel_rfl) ?_
       refine any_tail 39 (by kernel_rfl) ?_
       refine op_pass R rfl rfl rfl (ntf rfl) (fun a R => ?_) (by intro s hs; cases hs; rfl)
       refine op_val R (rn_pickF R rfl rfl rfl) rfl fun a R => ?_
       refine wpList_nil ?_
       refine then_normal ?_
       exact ⟨false, R.weak ⟨rfl, rfl, rfl, rfl, trivial⟩, h⟩
     ·refine dr_pass (i := 7) R (waits_dom (by kernel_rfl) (by kernel_rfl)) (by kernel_rfl) inv rfl (by decide) (by kernel_rfl) (by kernel_rfl) (fun _ _ _ h => h) (wanted_no R rfl rfl rfl (ntf g32)) rfl rfl fun inv a R => ?_
      refine dr_pass (i := 8) R (waits_dom (by kernel_rfl) (by kernel_rfl)) (by kernel_rfl) inv rfl (by decide) (by kernel_rfl) (by kernel_rfl) (fun _ _ _ h => h) (wanted_no R rfl rfl rfl (ntf g32)) rfl rfl fun inv a R => ?_
      refine dr_pass (i := 9) R (waits_dom (by kernel_rfl) (by kernel_rfl)) (by kernel_rfl) inv rfl (by decide) (by kernel_rfl) (by kernel_rfl) (fun _ _ _ h => h) (wanted_no R rfl rfl rfl (ntf g32)) rfl rfl fun inv a R => ?_
      refine dr_pass (i := 10) R (waits_dom (by kernel_rfl) (by kernel_rfl)) (by kernel_rfl) inv rfl (by decide) (by kernel_rfl) (by kernel_rfl) (fun _ _ _ h => h) (wanted_no R rfl rfl rfl (ntf g32)) rfl rfl fun inv a R => ?_
      refine dr_pass (i := 11) R (waits_dom (by kernel_rfl) (by kernel_rfl)) (by kernel_rfl) inv rfl (by decide) (by kernel_rfl) (by kernel_rfl) (fun _ _ _ h => h) (wanted_no R rfl rfl rfl (ntf g32)) rfl rfl fun inv a R => ?_
      refine dr_pass (i := 12) R (waits_dom (by kernel_rfl) (by kernel_rfl)) (by kernel_rfl) inv rfl (by decide) (by kernel_rfl) (by kernel_rfl) (fun _ _ _ h => h) (wanted_no R rfl rfl rfl (ntf g32)) rfl rfl fun inv a R => ?_
      refine dr_pass (i := 13) R (waits_dom (by kernel_rfl) (by kernel_rfl)) (by kernel_rfl) inv rfl (by decide) (by kernel_rfl) (by kernel_rfl) (fun _ _ _ h => h) (wanted_no R rfl rfl rfl (ntf g32)) rfl rfl fun inv a R => ?_
      refine dr_pass (i := 14) R (waits_dom (by kernel_rfl) (by kernel_rfl)) (by kernel_rfl) inv rfl (by decide) (by kernel_rfl) (by kernel_rfl) (fun _ _ _ h => h) (wanted_no R rfl rfl rfl (ntf g32)) rfl rfl fun inv a R => ?_
      refine seg_end (by kernel_rfl) ?_
      refine any_pass (i := 15) R rfl (by kernel_rfl) (wanted_no R rfl rfl rfl (ntf g32)) rfl fun a R => ?_
      refine any_val (i := 16) R rfl (by kernel_rfl) wanted_none (rn_pickF R rfl g32 rfl) rfl fun a R => ?_
      refine any_val (i := 17) R rfl (by kernel_rfl) wanted_none (rn_mv R rfl) rfl fun a R => ?_
      refine seg_same (n := 27) (f := 9) (g := 14) (by kernel_rfl) fun inv => ?_
      refine dr_pass (i := 18) R (waits_dom (by kernel_rfl) (by kernel_rfl)) (by kernel_rfl) inv rfl (by decide) (by kernel_rfl) (by kernel_rfl) (fun _ _ _ h => h) (wanted_no R rfl rfl rfl (ntf rfl)) rfl rfl fun inv a R => ?_
      refine dr_pass (i := 19) R (waits_dom (by kernel_rfl) (by kernel_rfl)) (by kernel_rfl) inv rfl (by decide) (by kernel_rfl) (by kernel_rfl) (fun _ _ _ h => h) (wanted_no R rfl rfl rfl (ntf rfl)) rfl rfl fun inv a R => ?_
      refine dr_pass (i := 20) R (waits_dom (by kernel_rfl) (by kernel_rfl)) (by kernel_rfl) inv rfl (by decide) (by kernel_rfl) (by kernel_rfl) (fun _ _ _ h => h) (wanted_no R rfl rfl rfl (ntf rfl)) rfl rfl fun inv a R => ?_
      refine dr_pass (i := 21) R (waits_dom (by kernel_rfl) (by kernel_rfl)) (by kernel_rfl) inv rfl (by decide) (by kernel_rfl) (by kernel_rfl) (fun _ _ _ h => h) (wanted_no R rfl rfl rfl (ntf rfl)) rfl rfl fun inv a R => ?_
      refine dr_pass (i := 22) R (waits_dom (by kernel_rfl) (by kernel_rfl)) (by kernel_rfl) inv rfl (by decide) (by kernel_rfl) (by kernel_rfl) (fun _ _ _ h => h) (wanted_no R rfl rfl rfl (ntf rfl)) rfl rfl fun inv a R => ?_
      refine dr_pass (i := 23) R (waits_dom (by kernel_rfl) (by kernel_rfl)) (by kernel_rfl) inv rfl (by decide) (by kernel_rfl) (by kernel_rfl) (fun _ _ _ h => h) (wanted_no R rfl rfl rfl (ntf rfl)) rfl rfl fun inv a R => ?_
      refine dr_pass (i := 24) R (waits_dom (by kernel_rfl) (by kernel_rfl)) (by kernel_rfl) inv rfl (by decide) (by kernel_rfl) (by kernel_rfl) (fun _ _ _ h => h) (wanted_no R rfl rfl rfl (ntf rfl)) rfl rfl fun inv a R => ?_
      refine dr_pass (i := 25) R (waits_dom (by kernel_rfl) (by kernel_rfl)) (by kernel_rfl) inv rfl (by decide) (by kernel_rfl) (by kernel_rfl) (fun _ _ _ h => h) (wanted_no R rfl rfl rfl (ntf rfl)) rfl rfl fun inv a R => ?_
      refine dr_pass (i := 26) R (waits_dom (by kernel_rfl) (by kernel_rfl)) (by kernel_rfl) inv rfl (by decide) (by kernel_rfl) (by kernel_rfl) (fun _ _ _ h => h) (wanted_no R rfl rfl rfl (ntf rfl)) rfl rfl fun inv a R => ?_
      refine seg_end (by kernel_rfl) ?_
      refine any_pass (i := 27) R rfl (by kernel_rfl) (wanted_no R rfl rfl rfl (ntf rfl)) rfl fun a R => ?_
      refine any_val (i := 28) R rfl (by kernel_rfl) wanted_none (rn_pickF R rfl rfl rfl) rfl fun a R => ?_
      refine any_val (i := 29) R rfl (by kernel_rfl) wanted_none (rn_mv R rfl) rfl fun a R => ?_
      refine seg_same (n := 39) (f := 9) (g := 2) (by kernel_rfl) fun inv => ?_
      refine dr_pass (i := 30) R (waits_dom (by kernel_rfl) (by kernel_rfl)) (by kernel_rfl) inv rfl (by decide) (by kernel_rfl) (by kernel_rfl) (fun _ _ _ h => h) (wanted_no R rfl rfl rfl (ntf rfl)) rfl rfl fun inv a R => ?_
      refine dr_pass (i := 31) R (waits_dom (by kernel_rfl) (by kernel_rfl)) (by kernel_rfl) inv rfl (by decide) (by kernel_rfl) (by kernel_rfl) (fun _ _ _ h => h) (wanted_no R rfl rfl rfl (ntf rfl)) rfl rfl fun inv a R => ?_
      refine dr_pass (i := 32) R (waits_dom (by kernel_rfl) (by kernel_rfl)) (by kernel_rfl) inv rfl (by decide) (by kernel_rfl) (by kernel_rfl) (fun _ _ _ h => h) (wanted_no R rfl rfl rfl (ntf rfl)) rfl rfl fun inv a R => ?_
      refine dr_pass (i := 33) R (waits_dom (by kernel_rfl) (by kernel_rfl)) (by kernel_rfl) inv rfl (by decide) (by kernel_rfl) (by kernel_rfl) (fun _ _ _ h => h) (wanted_no R rfl rfl rfl (ntf rfl)) rfl rfl fun inv a R => ?_
      refine dr_pass (i := 34) R (waits_dom (by kernel_rfl) (by kernel_rfl)) (by kernel_rfl) inv rfl (by decide) (by kernel_rfl) (by kernel_rfl) (fun _ _ _ h => h) (wanted_no R rfl rfl rfl (ntf rfl)) rfl rfl fun inv a R => ?_
      refine dr_pass (i := 35) R (waits_dom (by kernel_rfl) (by kernel_rfl)) (by kernel_rfl) inv rfl (by decide) (by kernel_rfl) (by kernel_rfl) (fun _ _ _ h => h) (wanted_no R rfl rfl rfl (ntf rfl)) rfl rfl fun inv a R => ?_
      refine dr_pass (i := 36) R (waits_dom (by kernel_rfl) (by kernel_rfl)) (by kernel_rfl) inv rfl (by decide) (by kernel_rfl) (by kernel_rfl) (fun _ _ _ h => h) (wanted_no R rfl rfl rfl (ntf rfl)) rfl rfl fun inv a R => ?_
      refine dr_pass (i := 37) R (waits_dom (by kernel_rfl) (by kernel_rfl)) (by kernel_rfl) inv rfl (by decide) (by kernel_rfl) (by kernel_rfl) (fun _ _ _ h => h) (wanted_no R rfl rfl rfl (ntf rfl)) rfl rfl fun inv a R => ?_
      refine dr_pass (i := 38) R (waits_dom (by kernel_rfl) (by kernel_rfl)) (by kernel_rfl) inv rfl (by decide) (by kernel_rfl) (by kernel_rfl) (fun _ _ _ h => h) (wanted_no R rfl rfl rfl (ntf rfl)) rfl rfl fun inv a R => ?_
      refine seg_end (by kernel_rfl) ?_
      refine any_tail 39 (by kernel_rfl) ?_
      refine op_pass R rfl rfl rfl (ntf rfl) (fun a R => ?_) (by intro s hs; cases hs; rfl)
      refine op_val R (rn_pickF R rfl rfl rfl) rfl fun a R => ?_
      refine wpList_nil ?_
      refine then_normal ?_
      exact ⟨false, R.weak ⟨rfl, rfl, rfl, rfl, trivial⟩, h⟩
    ·rintro a w ⟨y26_59, R, h⟩
     unfold levylaw19_world_may.k26 at h
     rcases ite_cases h with ⟨g27, h⟩ | ⟨g27, h⟩
     ·refine wp_condT R (congrArg (fun b => some (Value.bool b)) g27) ?_
      refine wp_seq ?_
      refine wp_region_lit ?_
      refine oas R rfl rfl fun a R => ?_
      refine wpList_nil ?_
      refine then_normal ?_
      refine wp_ret ?_
      refine then_ret ?_
      exact post_ret R rfl rfl ⟨true, rfl, h⟩
     ·refine wp_condF R (congrArg (fun b => some (Value.bool b)) g27) ?_
      refine wp_skip ?_
      refine then_normal ?_
      exact ⟨R.weak ⟨rfl, rfl, rfl, trivial⟩, h⟩
  ·refine wp_condF R (congrArg (fun b => some (Value.bool b)) g21) ?_
   refine wp_skip ?_
   refine then_normal ?_
   exact ⟨R.weak ⟨rfl, rfl, rfl, trivial⟩, h⟩
 ·rintro a w ⟨R, h⟩
  unfold levylaw19_world_may.k1 at h
  refine seq_join (fun a w => ∃ y2_6 : Bool, Rep a 81 [(6, .bool y2_6)] [] ∧ levylaw19_world_may.k2 y2_6 Q w) ?_ ?_
  ·refine wp_region_lit ?_
   refine omv R rfl rfl fun a R => ?_
   obtain ⟨x61_3, cx61_3, h⟩ := h
   refine onl R rfl cx61_3 rfl fun a R => ?_
   refine ofd R rfl fd32_6 rfl fun a R => ?_
   obtain ⟨x63_4, cx63_4, h⟩ := h
   refine old R rfl Tryd.underlying23 rfl cx63_4 rfl fun a R => ?_
   refine op_val R (rn_len R rfl Tryd.underlying23) rfl fun a R => ?_
   refine op_val R (rn_bin (v := .bool (((x63_4.len : Nat) : Int) == 1)) R rfl rfl rfl) rfl fun a R => ?_
   refine omv R rfl rfl fun a R => ?_
   rcases ite_cases h with ⟨g7, h⟩ | ⟨g7, h⟩
   ·refine op_guard R rfl rfl rfl g7 ?_
    refine omv R rfl rfl fun a R => ?_
    refine op_guard R rfl rfl rfl g7 ?_
    refine omv R rfl rfl fun a R => ?_
    refine op_guard R rfl rfl rfl g7 ?_
    obtain ⟨x69_8, cx69_8, h⟩ := h
    refine onl R rfl cx69_8 rfl fun a R => ?_
    refine op_guard R rfl rfl rfl g7 ?_
    refine ofd R rfl fd32_6 rfl fun a R => ?_
    refine op_guard R rfl rfl rfl g7 ?_
    obtain ⟨x71_9, cx71_9, h⟩ := h
    refine old R rfl Tryd.underlying23 rfl cx71_9 rfl fun a R => ?_
    refine op_guard R rfl rfl rfl g7 ?_
    obtain ⟨b10, x72_11, p10, i10, j10, e10, h⟩ := ix_e h
    refine op_val (v := .pointer (some x72_11)) R (by rw [e10]; exact rn_ixs (x := (.tmp 71)) (y := (.const (.int .i64 0))) R rfl p10 rfl Tryd.underlying23 sz29 i10 j10) rfl fun a R => ?_
    refine op_guard R rfl rfl rfl g7 ?_
    obtain ⟨x73_12, cx73_12, h⟩ := h
    refine old R rfl Tryd.underlying29 rfl cx73_12 rfl fun a R => ?_
    refine op_guard R rfl rfl rfl g7 ?_
    refine op_call R (rn_calls R rfl cf20) rfl ?_
    refine call_mono (s_levylaw19_sameBytes _ _ _ _ h) ?_
    rintro _ w17 ⟨x74_13_0, rfl, h⟩ a R
    refine op_val R (rn_pickT R rfl g7 rfl) rfl fun a R => ?_
    refine omv R rfl rfl fun a R => ?_
    rcases ite_cases h with ⟨g14, h⟩ | ⟨g14, h⟩
    ·refine op_guard R rfl rfl rfl g14 ?_
     refine omv R rfl rfl fun a R => ?_
     refine op_guard R rfl rfl rfl g14 ?_
     refine op_val R (rn_len R rfl Tryd.underlying30) rfl fun a R => ?_
     refine op_guard R rfl rfl rfl g14 ?_
     refine op_val R (rn_bin (v := .bool (((x2.len : Nat) : Int) == 0)) R rfl rfl rfl) rfl fun a R => ?_
     refine op_val R (rn_pickT R rfl g14 rfl) rfl fun a R => ?_
     refine oas R rfl rfl fun a R => ?_
     refine wpList_nil ?_
     refine then_normal ?_
     exact ⟨(((x2.len : Nat) : Int) == 0), R.weak ⟨rfl, trivial⟩, h⟩
    ·refine op_pass R rfl rfl rfl (ntf g14) (fun a R => ?_) (by intro s hs; cases hs; rfl)
     refine op_pass R rfl rfl rfl (ntf g14) (fun a R => ?_) (by intro s hs; cases hs; rfl)
     refine op_pass R rfl rfl rfl (ntf g14) (fun a R => ?_) (by intro s hs; cases hs; rfl)
     refine op_val R (rn_pickF R rfl g14 rfl) rfl fun a R => ?_
     refine oas R rfl rfl fun a R => ?_
     refine wpList_nil ?_
     refine then_normal ?_
     exact ⟨false, R.weak ⟨rfl, trivial⟩, h⟩
   ·refine op_pass R rfl rfl rfl (ntf g7) (fun a R => ?_) (by intro s hs; cases hs; rfl)
    refine op_pass R rfl rfl rfl (ntf g7) (fun a R => ?_) (by intro s hs; cases hs; rfl)
    refine op_pass R rfl rfl rfl (ntf g7) (fun a R => ?_) (by intro s hs; cases hs; rfl)
    refine op_pass R rfl rfl rfl (ntf g7) (fun a R => ?_) (by intro s hs; cases hs; rfl)
    refine op_pass R rfl rfl rfl (ntf g7) (fun a R => ?_) (by intro s hs; cases hs; rfl)
    refine op_pass R rfl rfl rfl (ntf g7) (fun a R => ?_) (by intro s hs; cases hs; rfl)
    refine op_pass R rfl rfl rfl (ntf g7) (fun a R => ?_) (by intro s hs; cases hs; rfl)
    refine op_pass R rfl rfl rfl (ntf g7) (fun a R => ?_) (by intro s hs; cases hs; rfl)
    refine op_val R (rn_pickF R rfl g7 rfl) rfl fun a R => ?_
    refine omv R rfl rfl fun a R => ?_
    refine op_pass R rfl rfl rfl (ntf rfl) (fun a R => ?_) (by intro s hs; cases hs; rfl)
    refine op_pass R rfl rfl rfl (ntf rfl) (fun a R => ?_) (by intro s hs; cases hs; rfl)
    refine op_pass R rfl rfl rfl (ntf rfl) (fun a R => ?_) (by intro s hs; cases hs; rfl)
    refine op_val R (rn_pickF R rfl rfl rfl) rfl fun a R => ?_
    refine oas R rfl rfl fun a R => ?_
    refine wpList_nil ?_
    refine then_normal ?_
    exact ⟨false, R.weak ⟨rfl, trivial⟩, h⟩
  ·rintro a w ⟨y2_6, R, h⟩
   unfold levylaw19_world_may.k2 at h
   refine wp_ret ?_
   exact post_ret R rfl rfl ⟨y2_6, rfl, h⟩
theorem s_levylaw19_world_may (x0 : Option Addr) (x1 : Sl) (x2 : Sl) (Q : Bool → World → Prop) (w : World) (h : levylaw19_world_may x0 x1 x2 Q w) :
    Calls Tryd.prog 22 #[.pointer x0, Sl.val x1, Sl.val x2] w (Rets fun v w => ∃ r0 : Bool, v = (.bool r0 : Value) ∧ Q r0 w) :=
  calls_body (args := [.pointer x0, Sl.val x1, Sl.val x2]) Tryd.func22 rfl rfl (Nat.le_of_ble_eq_true rfl) (L := [(0, .pointer x0), (1, Sl.val x1), (2, Sl.val x2)]) (by simp [starts]) (b_levylaw19_world_may x0 x1 x2 Q w h rfl)

/-! (drawer.Drawer).Len -/

def drawer_Drawer_Len (x0 : Option Addr) (Q : Int → World → Prop) (w : World) : Prop :=
  nn x0 fun x4_1 => ld (Value.int .i64) w (x4_1.add 3) fun x6_2 => Q x6_2 w

theorem b_drawer_Drawer_Len (x0 : Option Addr) (Q : Int → World → Prop) (w : World) (h : drawer_Drawer_Len x0 Q w) {c : Code} (hb : Tryd.f23.body = some c) :
 ∀ a, Rep a 7 [(0, .pointer x0)] [] → c.wp Tryd.prog (bodyPost Tryd.prog Tryd.f23 (Rets fun v w => ∃ r0 : Int, v = (.int .i64 r0 : Value) ∧ Q r0 w)) a w := by
 intro a R
 obtain rfl := Option.some.inj hb
 unfold drawer_Drawer_Len at h
 refine wp_seq ?_
 refine wp_region_lit ?_
 refine oas R rfl rfl fun a R => ?_
 refine wpList_nil ?_
 refine then_normal ?_
 refine wp_seq ?_
 refine wp_region_lit ?_
 refine omv R rfl rfl fun a R => ?_
 obtain ⟨x4_1, cx4_1, h⟩ := h
 refine onl R rfl cx4_1 rfl fun a R => ?_
 refine ofd R rfl fd64_3 rfl fun a R => ?_
 obtain ⟨x6_2, cx6_2, h⟩ := h
 refine old R rfl Tryd.underlying3 rfl cx6_2 rfl fun a R => ?_
 refine oas R rfl rfl fun a R => ?_
 refine wpList_nil ?_
 refine then_normal ?_
 refine wp_ret ?_
 exact post_ret R rfl rfl ⟨x6_2, rfl, h⟩
theorem s_drawer_Drawer_Len (x0 : Option Addr) (Q : Int → World → Prop) (w : World) (h : drawer_Drawer_Len x0 Q w) :
    Calls Tryd.prog 23 #[.pointer x0] w (Rets fun v w => ∃ r0 : Int, v = (.int .i64 r0 : Value) ∧ Q r0 w) :=
  calls_body (args := [.pointer x0]) Tryd.func23 rfl rfl (Nat.le_of_ble_eq_true rfl) (L := [(0, .pointer x0)]) (by simp [starts]) (b_drawer_Drawer_Len x0 Q w h rfl)

/-! (levylaw19.world).open -/

def levylaw19_world_open.k10 (y10_2 : Bool) (Q : Bool → World → Prop) (w : World) : Prop :=
  Q y10_2 w

def levylaw19_world_open.k31 (x0 : Option Addr) (Q : Bool → World → Prop) (w : World) : Prop :=
  nn x0 fun x106_32 => st w (x106_32.add 5) (.slice none 0 0) fun w => nn x0 fun x108_34 => st w (x108_34.add 6) (.slice none 0 0) fun w => nn x0 fun x110_36 => st w (x110_36.add 7) (.bool false) fun w => Q true w

def levylaw19_world_open.l38 (x0 : Option Addr) (x17_5_2 : Sl) (z38_7 : Int) (Q : Bool → World → Prop) (K38 : Int → World → Prop) (w : World) : Prop :=
  (if (decide (z38_7 < ((x17_5_2.len : Nat) : Int))) = true then nn x0 fun x84_42 => ld Sl.val (World.drew w) (x84_42.add 4) fun x86_43 => ix x17_5_2.p x17_5_2.len z38_7 2 fun x89_45 => ld (Value.int .u8) (World.drew w) (x89_45.add 0) fun x91_46 => ix x17_5_2.p x17_5_2.len z38_7 2 fun x95_48 => ld Sl.val (World.drew w) (x95_48.add 1) fun x97_49 => levylaw19_record (IntKind.i64.wrap x91_46) x97_49 (fun x98_50_0_0 x98_50_0_1 w => ((World.cell? w (x84_42.add 4) = some (Sl.val x86_43) ∧ World.cell? w (x89_45.add 0) = some (.int .u8 x91_46) ∧ World.cell? w (x95_48.add 1) = some (Sl.val x97_49) ∧ True) ∧ al w (.cells #[.int .u8 x98_50_0_0, Sl.val x98_50_0_1] 37) fun x99_51 w => ((World.cell? w (x84_42.add 4) = some (Sl.val x86_43) ∧ World.cell? w (x89_45.add 0) = some (.int .u8 x91_46) ∧ World.cell? w (x95_48.add 1) = some (Sl.val x97_49) ∧ True) ∧ rn Tryd.prog Sl.val (Builtin.append_ #[30, 30] 30 [Sl.val x86_43, .slice (some x99_51) 1 1].toArray) w fun x100_54 w => ((World.cell? w (x84_42.add 4) = some (Sl.val x86_43) ∧ World.cell? w (x89_45.add 0) = some (.int .u8 x91_46) ∧ World.cell? w (x95_48.add 1) = some (Sl.val x97_49) ∧ True) ∧ nn x0 fun x101_55 => st w (x101_55.add 4) (Sl.val x100_54) fun w => K38 (IntKind.i64.wrap (z38_7 + 1)) w)))) (World.drew w) else levylaw19_world_open.k31 x0 Q w)

def levylaw19_world_open.k23 (x0 : Option Addr) (x17_5_1 : Sl) (x17_5_2 : Sl) (y23_67 : Bool) (Q : Bool → World → Prop) (w : World) : Prop :=
  (if y23_67 = true then Q false w else rn Tryd.prog Sl.val (Builtin.append_ #[29, 29] 29 [.slice none 0 0, Sl.val x17_5_1].toArray) w fun x70_26 w => nn x0 fun x71_27 => st w (x71_27.add 3) (Sl.val x70_26) fun w => nn x0 fun x74_29 => st w (x74_29.add 4) (.slice none 0 0) fun w => (Fix (σ := Int) (fun Ks s w => levylaw19_world_open.l38 x0 x17_5_2 s Q (fun z38_7 w => Ks z38_7 w) w) 0 w))

def levylaw19_world_open (x0 : Option Addr) (Q : Bool → World → Prop) (w : World) : Prop :=
  nn x0 fun x10_1 => ld Value.pointer (World.drew w) (x10_1.add 0) fun x12_2 => nn x0 fun x14_3 => ld (Value.int .u32) (World.drew w) (x14_3.add 2) fun x16_4 => drawer_Open x12_2 x16_4 (fun x17_5_0 x17_5_1 x17_5_2 x17_5_3 w => nn x0 fun x24_6 => st w (x24_6.add 1) (.pointer x17_5_0) fun w => (if (x17_5_3 != 0) = true then (if (Option.isNone x17_5_0) = true then (if (((x17_5_1.len : Nat) : Int) == 0) = true then (if (((x17_5_2.len : Nat) : Int) == 0) = true then (if (x17_5_3 == 190) = true then levylaw19_world_open.k10 true Q w else (if (x17_5_3 == 191) = true then levylaw19_world_open.k10 true Q w else levylaw19_world_open.k10 (x17_5_3 == 194) Q w)) else levylaw19_world_open.k10 false Q w) else levylaw19_world_open.k10 false Q w) else levylaw19_world_open.k10 false Q w) else (if (Option.isNone x17_5_0) = true then levylaw19_world_open.k23 x0 x17_5_1 x17_5_2 true Q w else levylaw19_world_may x0 x17_5_1 x17_5_2 (fun x58_60_0 w => (if x58_60_0 = true then drawer_Drawer_Len x17_5_0 (fun x63_62_0 w => levylaw19_world_open.k23 x0 x17_5_1 x17_5_2 (x63_62_0 != ((x17_5_2.len : Nat) : Int)) Q w) w else levylaw19_world_open.k23 x0 x17_5_1 x17_5_2 true Q w)) w))) (World.drew w)

theorem b_levylaw19_world_open (x0 : Option Addr) (Q : Bool → World → Prop) (w : World) (h : levylaw19_world_open x0 Q w) {c : Code} (hb : Tryd.f8.body = some c) :
 ∀ a, Rep a 112 [(0, .pointer x0)] [] → c.wp Tryd.prog (bodyPost Tryd.prog Tryd.f8 (Rets fun v w => ∃ r0 : Bool, v = (.bool r0 : Value) ∧ Q r0 w)) a w := by
 intro a R
 obtain rfl := Option.some.inj hb
 unfold levylaw19_world_open at h
 refine wp_seq ?_
 refine wp_region_lit ?_
 refine oas R rfl rfl fun a R => ?_
 refine wpList_nil ?_
 refine then_normal ?_
 refine wp_seq ?_
 refine region_start mo fun inv => ?_
 refine seg_same (n := 8) (f := 8) (g := 10) (by kernel_rfl) fun inv => ?_
 refine dr_val (i := 0) R (waits_dom (by kernel_rfl) (by kernel_rfl)) (by kernel_rfl) inv rfl (by decide) (by kernel_rfl) (by kernel_rfl) (fun _ _ _ h => h) wanted_none (fun w' hS => rn_mv R rfl) rfl (by decide) fun inv a R => ?_
 obtain ⟨x10_1, cx10_1, h⟩ := h
 refine dr_val (i := 1) R (waits_dom (by kernel_rfl) (by kernel_rfl)) (by kernel_rfl) inv rfl (by decide) (by kernel_rfl) (by kernel_rfl) (fun _ _ _ h => h) wanted_none (fun w' hS => rn_nil R rfl cx10_1) rfl (by decide) fun inv a R => ?_
 refine dr_val (i := 2) R (waits_dom (by kernel_rfl) (by kernel_rfl)) (by kernel_rfl) inv rfl (by decide) (by kernel_rfl) (by kernel_rfl) (fun _ _ _ h => h) wanted_none (fun w' hS => rn_fld R rfl fd32_0) rfl (by decide) fun inv a R => ?_
 obtain ⟨x12_2, cx12_2, h⟩ := h
 refine dr_val (i := 3) R (waits_dom (by kernel_rfl) (by kernel_rfl)) (by kernel_rfl) inv rfl (by decide) (by kernel_rfl) (by kernel_rfl) (fun _ _ _ h => h) wanted_none (fun w' hS => rn_ld R rfl Tryd.underlying27 rfl (cell_heap' hS cx12_2)) rfl (by decide) fun inv a R => ?_
 refine dr_val (i := 4) R (waits_dom (by kernel_rfl) (by kernel_rfl)) (by kernel_rfl) inv rfl (by decide) (by kernel_rfl) (by kernel_rfl) (fun _ _ _ h => h) wanted_none (fun w' hS => rn_mv R rfl) rfl (by decide) fun inv a R => ?_
 obtain ⟨x14_3, cx14_3, h⟩ := h
 refine dr_val (i := 5) R (waits_dom (by kernel_rfl) (by kernel_rfl)) (by kernel_rfl) inv rfl (by decide) (by kernel_rfl) (by kernel_rfl) (fun _ _ _ h => h) wanted_none (fun w' hS => rn_nil R rfl cx14_3) rfl (by decide) fun inv a R => ?_
 refine dr_val (i := 6) R (waits_dom (by kernel_rfl) (by kernel_rfl)) (by kernel_rfl) inv rfl (by decide) (by kernel_rfl) (by kernel_rfl) (fun _ _ _ h => h) wanted_none (fun w' hS => rn_fld R rfl fd32_2) rfl (by decide) fun inv a R => ?_
 obtain ⟨x16_4, cx16_4, h⟩ := h
 refine dr_val (i := 7) R (waits_dom (by kernel_rfl) (by kernel_rfl)) (by kernel_rfl) inv rfl (by decide) (by kernel_rfl) (by kernel_rfl) (fun _ _ _ h => h) wanted_none (fun w' hS => rn_ld R rfl Tryd.underlying22 rfl (cell_heap' hS cx16_4)) rfl (by decide) fun inv a R => ?_
 refine seg_end (by kernel_rfl) ?_
 refine any_call (i := 8) R rfl (by kernel_rfl) wanted_none (rn_calls R rfl cf19) rfl ?_
 refine call_mono (s_drawer_Open _ _ _ _ h) ?_
 rintro _ w67 ⟨x17_5_0, x17_5_1, x17_5_2, x17_5_3, rfl, h⟩ a R
 refine any_val (i := 9) R rfl (by kernel_rfl) wanted_none (rn_mv R rfl) rfl fun a R => ?_
 refine seg_same (n := 17) (f := 7) (g := 1) (by kernel_rfl) fun inv => ?_
 refine dr_val (i := 10) R (waits_dom (by kernel_rfl) (by kernel_rfl)) (by kernel_rfl) inv rfl (by decide) (by kernel_rfl) (by kernel_rfl) (fun _ _ _ h => h) wanted_none (fun w' hS => rn_ext R rfl rfl) rfl (by decide) fun inv a R => ?_
 refine dr_val (i := 11) R (waits_dom (by kernel_rfl) (by kernel_rfl)) (by kernel_rfl) inv rfl (by decide) (by kernel_rfl) (by kernel_rfl) (fun _ _ _ h => h) wanted_none (fun w' hS => rn_ext R rfl rfl) rfl (by decide) fun inv a R => ?_
 refine dr_val (i := 12) R (waits_dom (by kernel_rfl) (by kernel_rfl)) (by kernel_rfl) inv rfl (by decide) (by kernel_rfl) (by kernel_rfl) (fun _ _ _ h => h) wanted_none (fun w' hS => rn_ext R rfl rfl) rfl (by decide) fun inv a R => ?_
 refine dr_val (i := 13) R (waits_dom (by kernel_rfl) (by kernel_rfl)) (by kernel_rfl) inv rfl (by decide) (by kernel_rfl) (by kernel_rfl) (fun _ _ _ h => h) wanted_none (fun w' hS => rn_ext R rfl rfl) rfl (by decide) fun inv a R => ?_
 refine dr_val (i := 14) R (waits_dom (by kernel_rfl) (by kernel_rfl)) (by kernel_rfl) inv rfl (by decide) (by kernel_rfl) (by kernel_rfl) (fun _ _ _ h => h) wanted_none (fun w' hS => rn_as R rfl) rfl (by decide) fun inv a R => ?_
 refine dr_val (i := 15) R (waits_dom (by kernel_rfl) (by kernel_rfl)) (by kernel_rfl) inv rfl (by decide) (by kernel_rfl) (by kernel_rfl) (fun _ _ _ h => h) wanted_none (fun w' hS => rn_as R rfl) rfl (by decide) fun inv a R => ?_
 refine dr_val (i := 16) R (waits_dom (by kernel_rfl) (by kernel_rfl)) (by kernel_rfl) inv rfl (by decide) (by kernel_rfl) (by kernel_rfl) (fun _ _ _ h => h) wanted_none (fun w' hS => rn_as R rfl) rfl (by decide) fun inv a R => ?_
 refine seg_end (by kernel_rfl) ?_
 refine any_tail 17 (by kernel_rfl) ?_
 refine oas R rfl rfl fun a R => ?_
 refine wpList_nil ?_
 refine then_normal ?_
 refine wp_seq ?_
 refine wp_region_lit ?_
 refine omv R rfl rfl fun a R => ?_
 refine omv R rfl rfl fun a R => ?_
 obtain ⟨x24_6, cx24_6, h⟩ := h
 refine onl R rfl cx24_6 rfl fun a R => ?_
 refine ofd R rfl fd32_1 rfl fun a R => ?_
 obtain ⟨q7, f7, h⟩ := h
 refine op_unit R (rn_st R rfl rfl rfl sz28 q7 f7) fun a R => ?_
 refine wpList_nil ?_
 refine then_normal ?_
 refine wp_seq ?_
 refine wp_seq ?_
 refine wp_region_lit ?_
 refine omv R rfl rfl fun a R => ?_
 refine op_val R (rn_bin (v := .bool (x17_5_3 != 0)) R rfl rfl rfl) rfl fun a R => ?_
 refine wpList_nil ?_
 refine then_normal ?_
 rcases ite_cases h with ⟨g9, h⟩ | ⟨g9, h⟩
 ·refine wp_condT R (congrArg (fun b => some (Value.bool b)) g9) ?_
  refine seq_join (fun a w => ∃ y10_2 : Bool, Rep a 112 [(2, .bool y10_2)] [] ∧ levylaw19_world_open.k10 y10_2 Q w) ?_ ?_
  ·refine wp_region_lit ?_
   refine omv R rfl rfl fun a R => ?_
   refine op_val R (rn_nilPE R rfl rfl Tryd.underlying28) rfl fun a R => ?_
   refine omv R rfl rfl fun a R => ?_
   rcases ite_cases h with ⟨g11, h⟩ | ⟨g11, h⟩
   ·refine op_guard R rfl rfl rfl g11 ?_
    refine omv R rfl rfl fun a R => ?_
    refine op_guard R rfl rfl rfl g11 ?_
    refine op_val R (rn_len R rfl Tryd.underlying29) rfl fun a R => ?_
    refine op_guard R rfl rfl rfl g11 ?_
    refine op_val R (rn_bin (v := .bool (((x17_5_1.len : Nat) : Int) == 0)) R rfl rfl rfl) rfl fun a R => ?_
    refine op_val R (rn_pickT R rfl g11 rfl) rfl fun a R => ?_
    refine omv R rfl rfl fun a R => ?_
    rcases ite_cases h with ⟨g14, h⟩ | ⟨g14, h⟩
    ·refine op_guard R rfl rfl rfl g14 ?_
     refine omv R rfl rfl fun a R => ?_
     refine op_guard R rfl rfl rfl g14 ?_
     refine op_val R (rn_len R rfl Tryd.underlying30) rfl fun a R => ?_
     refine op_guard R rfl rfl rfl g14 ?_
     refine op_val R (rn_bin (v := .bool (((x17_5_2.len : Nat) : Int) == 0)) R rfl rfl rfl) rfl fun a R => ?_
     refine op_val R (rn_pickT R rfl g14 rfl) rfl fun a R => ?_
     refine omv R rfl rfl fun a R => ?_
     rcases ite_cases h with ⟨g17, h⟩ | ⟨g17, h⟩
     ·refine op_guard R rfl rfl rfl g17 ?_
      refine omv R rfl rfl fun a R => ?_
      refine op_guard R rfl rfl rfl g17 ?_
      refine op_val R (rn_bin (v := .bool (x17_5_3 == 190)) R rfl rfl rfl) rfl fun a R => ?_
      refine op_guard R rfl rfl rfl g17 ?_
      refine omv R rfl rfl fun a R => ?_
      rcases ite_cases h with ⟨g19, h⟩ | ⟨g19, h⟩
      ·refine op_pass R rfl rfl rfl (nft g19) (fun a R => ?_) (by intro s hs; cases hs; rfl)
       refine op_pass R rfl rfl rfl (nft g19) (fun a R => ?_) (by intro s hs; cases hs; rfl)
       refine op_guard R rfl rfl rfl g17 ?_
       refine op_val R (rn_pickT R rfl g19 rfl) rfl fun a R => ?_
       refine op_guard R rfl rfl rfl g17 ?_
       refine omv R rfl rfl fun a R => ?_
       refine op_pass R rfl rfl rfl (nft rfl) (fun a R => ?_) (by intro s hs; cases hs; rfl)
       refine op_pass R rfl rfl rfl (nft rfl) (fun a R => ?_) (by intro s hs; cases hs; rfl)
       refine op_guard R rfl rfl rfl g17 ?_
       refine op_val R (rn_pickT R rfl rfl rfl) rfl fun a R => ?_
       refine op_val R (rn_pickT R rfl g17 rfl) rfl fun a R => ?_
       refine oas R rfl rfl fun a R => ?_
       refine wpList_nil ?_
       refine then_normal ?_
       exact ⟨true, R.weak ⟨rfl, trivial⟩, h⟩
      ·refine op_guard R rfl rfl rfl g19 ?_
       refine omv R rfl rfl fun a R => ?_
       refine op_guard R rfl rfl rfl g19 ?_
       refine op_val R (rn_bin (v := .bool (x17_5_3 == 191)) R rfl rfl rfl) rfl fun a R => ?_
       refine op_guard R rfl rfl rfl g17 ?_
       refine op_val R (rn_pickF R rfl g19 rfl) rfl fun a R => ?_
       refine op_guard R rfl rfl rfl g17 ?_
       refine omv R rfl rfl fun a R => ?_
       rcases ite_cases h with ⟨g21, h⟩ | ⟨g21, h⟩
       ·refine op_pass R rfl rfl rfl (nft g21) (fun a R => ?_) (by intro s hs; cases hs; rfl)
        refine op_pass R rfl rfl rfl (nft g21) (fun a R => ?_) (by intro s hs; cases hs; rfl)
        refine op_guard R rfl rfl rfl g17 ?_
        refine op_val R (rn_pickT R rfl g21 rfl) rfl fun a R => ?_
        refine op_val R (rn_pickT R rfl g17 rfl) rfl fun a R => ?_
        refine oas R rfl rfl fun a R => ?_
        refine wpList_nil ?_
        refine then_normal ?_
        exact ⟨true, R.weak ⟨rfl, trivial⟩, h⟩
       ·refine op_guard R rfl rfl rfl g21 ?_
        refine omv R rfl rfl fun a R => ?_
        refine op_guard R rfl rfl rfl g21 ?_
        refine op_val R (rn_bin (v := .bool (x17_5_3 == 194)) R rfl rfl rfl) rfl fun a R => ?_
        refine op_guard R rfl rfl rfl g17 ?_
        refine op_val R (rn_pickF R rfl g21 rfl) rfl fun a R => ?_
        refine op_val R (rn_pickT R rfl g17 rfl) rfl fun a R => ?_
        refine oas R rfl rfl fun a R => ?_
        refine wpList_nil ?_
        refine then_normal ?_
        exact ⟨(x17_5_3 == 194), R.weak ⟨rfl, trivial⟩, h⟩
     ·refine op_pass R rfl rfl rfl (ntf g17) (fun a R => ?_) (by intro s hs; cases hs; rfl)
      refine op_pass R rfl rfl rfl (ntf g17) (fun a R => ?_) (by intro s hs; cases hs; rfl)
      refine op_pass R rfl rfl rfl (ntf g17) (fun a R => ?_) (by intro s hs; cases hs; rfl)
      refine op_pass0 R rfl rfl rfl (fun a R => ?_) (by intro s hs; cases hs; rfl)
      refine op_pass0 R rfl rfl rfl (fun a R => ?_) (by intro s hs; cases hs; rfl)
      refine op_pass R rfl rfl rfl (ntf g17) (fun a R => ?_) (by intro s hs; cases hs; rfl)
      refine op_pass R rfl rfl rfl (ntf g17) (fun a R => ?_) (by intro s hs; cases hs; rfl)
      refine op_pass0 R rfl rfl rfl (fun a R => ?_) (by intro s hs; cases hs; rfl)
      refine op_pass0 R rfl rfl rfl (fun a R => ?_) (by intro s hs; cases hs; rfl)
      refine op_pass R rfl rfl rfl (ntf g17) (fun a R => ?_) (by intro s hs; cases hs; rfl)
      refine op_val R (rn_pickF R rfl g17 rfl) rfl fun a R => ?_
      refine oas R rfl rfl fun a R => ?_
      refine wpList_nil ?_
      refine then_normal ?_
      exact ⟨false, R.weak ⟨rfl, trivial⟩, h⟩
    ·refine op_pass R rfl rfl rfl (ntf g14) (fun a R => ?_) (by intro s hs; cases hs; rfl)
     refine op_pass R rfl rfl rfl (ntf g14) (fun a R => ?_) (by intro s hs; cases hs; rfl)
     refine op_pass R rfl rfl rfl (ntf g14) (fun a R => ?_) (by intro s hs; cases hs; rfl)
     refine op_val R (rn_pickF R rfl g14 rfl) rfl fun a R => ?_
     refine omv R rfl rfl fun a R => ?_
     refine op_pass R rfl rfl rfl (ntf rfl) (fun a R => ?_) (by intro s hs; cases hs; rfl)
     refine op_pass R rfl rfl rfl (ntf rfl) (fun a R => ?_) (by intro s hs; cases hs; rfl)
     refine op_pass R rfl rfl rfl (ntf rfl) (fun a R => ?_) (by intro s hs; cases hs; rfl)
     refine op_pass0 R rfl rfl rfl (fun a R => ?_) (by intro s hs; cases hs; rfl)
     refine op_pass0 R rfl rfl rfl (fun a R => ?_) (by intro s hs; cases hs; rfl)
     refine op_pass R rfl rfl rfl (ntf rfl) (fun a R => ?_) (by intro s hs; cases hs; rfl)
     refine op_pass R rfl rfl rfl (ntf rfl) (fun a R => ?_) (by intro s hs; cases hs; rfl)
     refine op_pass0 R rfl rfl rfl (fun a R => ?_) (by intro s hs; cases hs; rfl)
     refine op_pass0 R rfl rfl rfl (fun a R => ?_) (by intro s hs; cases hs; rfl)
     refine op_pass R rfl rfl rfl (ntf rfl) (fun a R => ?_) (by intro s hs; cases hs; rfl)
     refine op_val R (rn_pickF R rfl rfl rfl) rfl fun a R => ?_
     refine oas R rfl rfl fun a R => ?_
     refine wpList_nil ?_
     refine then_normal ?_
     exact ⟨false, R.weak ⟨rfl, trivial⟩, h⟩
   ·refine op_pass R rfl rfl rfl (ntf g11) (fun a R => ?_) (by intro s hs; cases hs; rfl)
    refine op_pass R rfl rfl rfl (ntf g11) (fun a R => ?_) (by intro s hs; cases hs; rfl)
    refine op_pass R rfl rfl rfl (ntf g11) (fun a R => ?_) (by intro s hs; cases hs; rfl)
    refine op_val R (rn_pickF R rfl g11 rfl) rfl fun a R => ?_
    refine omv R rfl rfl fun a R => ?_
    refine op_pass R rfl rfl rfl (ntf rfl) (fun a R => ?_) (by intro s hs; cases hs; rfl)
    refine op_pass R rfl rfl rfl (ntf rfl) (fun a R => ?_) (by intro s hs; cases hs; rfl)
    refine op_pass R rfl rfl rfl (ntf rfl) (fun a R => ?_) (by intro s hs; cases hs; rfl)
    refine op_val R (rn_pickF R rfl rfl rfl) rfl fun a R => ?_
    refine omv R rfl rfl fun a R => ?_
    refine op_pass R rfl rfl rfl (ntf rfl) (fun a R => ?_) (by intro s hs; cases hs; rfl)
    refine op_pass R rfl rfl rfl (ntf rfl) (fun a R => ?_) (by intro s hs; cases hs; rfl)
    refine op_pass R rfl rfl rfl (ntf rfl) (fun a R => ?_) (by intro s hs; cases hs; rfl)
    refine op_pass0 R rfl rfl rfl (fun a R => ?_) (by intro s hs; cases hs; rfl)
    refine op_pass0 R rfl rfl rfl (fun a R => ?_) (by intro s hs; cases hs; rfl)
    refine op_pass R rfl rfl rfl (ntf rfl) (fun a R => ?_) (by intro s hs; cases hs; rfl)
    refine op_pass R rfl rfl rfl (ntf rfl) (fun a R => ?_) (by intro s hs; cases hs; rfl)
    refine op_pass0 R rfl rfl rfl (fun a R => ?_) (by intro s hs; cases hs; rfl)
    refine op_pass0 R rfl rfl rfl (fun a R => ?_) (by intro s hs; cases hs; rfl)
    refine op_pass R rfl rfl rfl (ntf rfl) (fun a R => ?_) (by intro s hs; cases hs; rfl)
    refine op_val R (rn_pickF R rfl rfl rfl) rfl fun a R => ?_
    refine oas R rfl rfl fun a R => ?_
    refine wpList_nil ?_
    refine then_normal ?_
    exact ⟨false, R.weak ⟨rfl, trivial⟩, h⟩
  ·rintro a w ⟨y10_2, R, h⟩
   unfold levylaw19_world_open.k10 at h
   refine wp_ret ?_
   refine then_ret ?_
   exact post_ret R rfl rfl ⟨y10_2, rfl, h⟩
 ·refine wp_condF R (congrArg (fun b => some (Value.bool b)) g9) ?_
  refine wp_skip ?_
  refine then_normal ?_
  refine wp_seq ?_
  refine seq_join (fun a w => ∃ y23_67 : Bool, Rep a 112 [(0, .pointer x0), (4, Sl.val x17_5_1), (5, Sl.val x17_5_2), (67, .bool y23_67)] [] ∧ levylaw19_world_open.k23 x0 x17_5_1 x17_5_2 y23_67 Q w) ?_ ?_
  ·refine wp_region_lit ?_
   refine omv R rfl rfl fun a R => ?_
   refine op_val R (rn_nilPE R rfl rfl Tryd.underlying28) rfl fun a R => ?_
   refine omv R rfl rfl fun a R => ?_
   rcases ite_cases h with ⟨g59, h⟩ | ⟨g59, h⟩
   ·refine op_pass R rfl rfl rfl (nft g59) (fun a R => ?_) (by intro s hs; cases hs; rfl)
    refine op_pass R rfl rfl rfl (nft g59) (fun a R => ?_) (by intro s hs; cases hs; rfl)
    refine op_pass R rfl rfl rfl (nft g59) (fun a R => ?_) (by intro s hs; cases hs; rfl)
    refine op_pass R rfl rfl rfl (nft g59) (fun a R => ?_) (by intro s hs; cases hs; rfl)
    refine op_pass R rfl rfl rfl (nft g59) (fun a R => ?_) (by intro s hs; cases hs; rfl)
    refine op_val R (rn_pickT R rfl g59 rfl) rfl fun a R => ?_
    refine omv R rfl rfl fun a R => ?_
    refine op_pass R rfl rfl rfl (nft rfl) (fun a R => ?_) (by intro s hs; cases hs; rfl)
    refine op_pass R rfl rfl rfl (nft rfl) (fun a R => ?_) (by intro s hs; cases hs; rfl)
    refine op_pass R rfl rfl rfl (nft rfl) (fun a R => ?_) (by intro s hs; cases hs; rfl)
    refine op_pass R rfl rfl rfl (nft rfl) (fun a R => ?_) (by intro s hs; cases hs; rfl)
    refine op_pass R rfl rfl rfl (nft rfl) (fun a R => ?_) (by intro s hs; cases hs; rfl)
    refine op_val R (rn_pickT R rfl rfl rfl) rfl fun a R => ?_
    refine wpList_nil ?_
    refine then_normal ?_
    exact ⟨true, R.weak ⟨rfl, rfl, rfl, rfl, trivial⟩, h⟩
   ·refine op_guard R rfl rfl rfl g59 ?_
    refine omv R rfl rfl fun a R => ?_
    refine op_guard R rfl rfl rfl g59 ?_
    refine omv R rfl rfl fun a R => ?_
    refine op_guard R rfl rfl rfl g59 ?_
    refine omv R rfl rfl fun a R => ?_
    refine op_guard R rfl rfl rfl g59 ?_
    refine op_call R (rn_calls R rfl cf22) rfl ?_
    refine call_mono (s_levylaw19_world_may _ _ _ _ _ h) ?_
    rintro _ w66 ⟨x58_60_0, rfl, h⟩ a R
    refine op_guard R rfl rfl rfl g59 ?_
    refine op_val R (rn_un (v := .bool (!x58_60_0)) R rfl rfl) rfl fun a R => ?_
    refine op_val R (rn_pickF R rfl g59 rfl) rfl fun a R => ?_
    refine omv R rfl rfl fun a R => ?_
    rcases ite_cases h with ⟨g61, h⟩ | ⟨g61, h⟩
    ·refine op_guard R rfl rfl rfl (nf g61) ?_
     refine omv R rfl rfl fun a R => ?_
     refine op_guard R rfl rfl rfl (nf g61) ?_
     refine op_call R (rn_calls R rfl cf23) rfl ?_
     refine call_mono (s_drawer_Drawer_Len _ _ _ h) ?_
     rintro _ w65 ⟨x63_62_0, rfl, h⟩ a R
     refine op_guard R rfl rfl rfl (nf g61) ?_
     refine omv R rfl rfl fun a R => ?_
     refine op_guard R rfl rfl rfl (nf g61) ?_
     refine op_val R (rn_len R rfl Tryd.underlying30) rfl fun a R => ?_
     refine op_guard R rfl rfl rfl (nf g61) ?_
     refine op_val R (rn_bin (v := .bool (x63_62_0 != ((x17_5_2.len : Nat) : Int))) R rfl rfl rfl) rfl fun a R => ?_
     refine op_val R (rn_pickF R rfl (nf g61) rfl) rfl fun a R => ?_
     refine wpList_nil ?_
     refine then_normal ?_
     exact ⟨(x63_62_0 != ((x17_5_2.len : Nat) : Int)), R.weak ⟨rfl, rfl, rfl, rfl, trivial⟩, h⟩
    ·refine op_pass R rfl rfl rfl (nft (nt g61)) (fun a R => ?_) (by intro s hs; cases hs; rfl)
     refine op_pass R rfl rfl rfl (nft (nt g61)) (fun a R => ?_) (by intro s hs; cases hs; rfl)
     refine op_pass R rfl rfl rfl (nft (nt g61)) (fun a R => ?_) (by intro s hs; cases hs; rfl)
     refine op_pass R rfl rfl rfl (nft (nt g61)) (fun a R => ?_) (by intro s hs; cases hs; rfl)
     refine op_pass R rfl rfl rfl (nft (nt g61)) (fun a R => ?_) (by intro s hs; cases hs; rfl)
     refine op_val R (rn_pickT R rfl (nt g61) rfl) rfl fun a R => ?_
     refine wpList_nil ?_
     refine then_normal ?_
     exact ⟨true, R.weak ⟨rfl, rfl, rfl, rfl, trivial⟩, h⟩
  ·rintro a w ⟨y23_67, R, h⟩
   unfold levylaw19_world_open.k23 at h
   rcases ite_cases h with ⟨g24, h⟩ | ⟨g24, h⟩
   ·refine wp_condT R (congrArg (fun b => some (Value.bool b)) g24) ?_
    refine wp_seq ?_
    refine wp_region_lit ?_
    refine oas R rfl rfl fun a R => ?_
    refine wpList_nil ?_
    refine then_normal ?_
    refine wp_ret ?_
    refine then_ret ?_
    exact post_ret R rfl rfl ⟨false, rfl, h⟩
   ·refine wp_condF R (congrArg (fun b => some (Value.bool b)) g24) ?_
    refine wp_skip ?_
    refine then_normal ?_
    refine wp_seq ?_
    refine wp_region_lit ?_
    refine omv R rfl rfl fun a R => ?_
    refine omv R rfl rfl fun a R => ?_
    obtain ⟨x70_26, w25, cx70_26, h⟩ := h
    refine op_val R (rn_bi (vs := [.slice none 0 0, Sl.val x17_5_1]) R rfl (fun _ => rfl) cx70_26) rfl fun a R => ?_
    obtain ⟨x71_27, cx71_27, h⟩ := h
    refine onl R rfl cx71_27 rfl fun a R => ?_
    refine ofd R rfl fd32_3 rfl fun a R => ?_
    obtain ⟨q28, f28, h⟩ := h
    refine op_unit R (rn_st R rfl rfl rfl sz29 q28 f28) fun a R => ?_
    refine wpList_nil ?_
    refine then_normal ?_
    refine wp_seq ?_
    refine wp_region_lit ?_
    refine omv R rfl rfl fun a R => ?_
    obtain ⟨x74_29, cx74_29, h⟩ := h
    refine onl R rfl cx74_29 rfl fun a R => ?_
    refine ofd R rfl fd32_4 rfl fun a R => ?_
    obtain ⟨q30, f30, h⟩ := h
    refine op_unit R (rn_st R rfl rfl rfl sz30 q30 f30) fun a R => ?_
    refine wpList_nil ?_
    refine then_normal ?_
    refine seq_join (fun a w => Rep a 112 [(0, .pointer x0)] [] ∧ levylaw19_world_open.k31 x0 Q w) ?_ ?_
    ·refine wp_seq ?_
     refine wp_region_lit ?_
     refine oas R rfl rfl fun a R => ?_
     refine wpList_nil ?_
     refine then_normal ?_
     refine wp_block ?_
     refine wp_fix (σ := Int) (fun s a => Rep a 112 [(0, .pointer x0), (5, Sl.val x17_5_2), (7, .int .i64 s)] []) h (R.weak ⟨rfl, rfl, rfl, trivial⟩) ?_
     rintro Ks C z38_7 a w hC R h
     have R : Rep a 112 [(0, .pointer x0), (5, Sl.val x17_5_2), (7, .int .i64 z38_7)] [] := R
     have h : levylaw19_world_open.l38 x0 x17_5_2 z38_7 Q (fun z38_7 w => Ks z38_7 w) w := h
     generalize hK38 : (fun z38_7 w => Ks z38_7 w) = K38 at h
     unfold levylaw19_world_open.l38 at h
     refine wp_seq ?_
     refine wp_seq ?_
     refine wp_region_lit ?_
     refine omv R rfl rfl fun a R => ?_
     refine omv R rfl rfl fun a R => ?_
     refine op_val R (rn_len R rfl Tryd.underlying30) rfl fun a R => ?_
     refine op_val R (rn_bin (v := .bool (decide (z38_7 < ((x17_5_2.len : Nat) : Int)))) R rfl rfl rfl) rfl fun a R => ?_
     refine wpList_nil ?_
     refine then_normal ?_
     rcases ite_cases h with ⟨g41, h⟩ | ⟨g41, h⟩
     ·refine wp_condT R (congrArg (fun b => some (Value.bool b)) g41) ?_
      refine wp_skip ?_
      refine then_normal ?_
      refine wp_seq ?_
      refine wp_block ?_
      refine region_start mo fun inv => ?_
      obtain ⟨x84_42, cx84_42, h⟩ := h
      obtain ⟨x86_43, cx86_43, h⟩ := h
      obtain ⟨b44, x89_45, p44, i44, j44, e44, h⟩ := ix_e h
      obtain ⟨x91_46, cx91_46, h⟩ := h
      obtain ⟨b47, x95_48, p47, i47, j47, e47, h⟩ := ix_e h
      obtain ⟨x97_49, cx97_49, h⟩ := h
      refine seg_held (n := 19) (f := 19) (g := 3) (fun w : World => w.cell? (x84_42.add 4) = some (Sl.val x86_43) ∧ w.cell? (x89_45.add 0) = some (.int .u8 x91_46) ∧ w.cell? (x95_48.add 1) = some (Sl.val x97_49) ∧ True) (by kernel_rfl) fun inv => ?_
      have hS0 : (fun w : World => w.cell? (x84_42.add 4) = some (Sl.val x86_43) ∧ w.cell? (x89_45.add 0) = some (.int .u8 x91_46) ∧ w.cell? (x95_48.add 1) = some (Sl.val x97_49) ∧ True) _ := ⟨cx86_43, cx91_46, cx97_49, trivial⟩
      refine dr_val (i := 0) R (waits_dom (by kernel_rfl) (by kernel_rfl)) (by kernel_rfl) inv rfl (by decide) (by kernel_rfl) (by kernel_rfl) (fun _ _ _ h => h) wanted_none (fun w' hS => rn_mv R rfl) hS0 rfl fun inv a R => ?_
      refine dr_val (i := 1) R (waits_dom (by kernel_rfl) (by kernel_rfl)) (by kernel_rfl) inv rfl (by decide) (by kernel_rfl) (by kernel_rfl) (fun _ _ _ h => h) wanted_none (fun w' hS => rn_mv R rfl) hS0 rfl fun inv a R => ?_
      refine dr_val (i := 2) R (waits_dom (by kernel_rfl) (by kernel_rfl)) (by kernel_rfl) inv rfl (by decide) (by kernel_rfl) (by kernel_rfl) (fun _ _ _ h => h) wanted_none (fun w' hS => rn_nil R rfl cx84_42) hS0 rfl fun inv a R => ?_
      refine dr_val (i := 3) R (waits_dom (by kernel_rfl) (by kernel_rfl)) (by kernel_rfl) inv rfl (by decide) (by kernel_rfl) (by kernel_rfl) (fun _ _ _ h => h) wanted_none (fun w' hS => rn_fld R rfl fd32_4) hS0 rfl fun inv a R => ?_
      refine dr_val (i := 4) R (waits_dom (by kernel_rfl) (by kernel_rfl)) (by kernel_rfl) inv rfl (by decide) (by kernel_rfl) (by kernel_rfl) (fun _ _ _ h => h) wanted_none (fun w' hS => rn_ld R rfl Tryd.underlying30 rfl (hS.1)) hS0 rfl fun inv a R => ?_
      refine dr_val (i := 5) R (waits_dom (by kernel_rfl) (by kernel_rfl)) (by kernel_rfl) inv rfl (by decide) (by kernel_rfl) (by kernel_rfl) (fun _ _ _ h => h) wanted_none (fun w' hS => rn_mv R rfl) hS0 rfl fun inv a R => ?_
      refine dr_val (i := 6) R (waits_dom (by kernel_rfl) (by kernel_rfl)) (by kernel_rfl) inv rfl (by decide) (by kernel_rfl) (by kernel_rfl) (fun _ _ _ h => h) wanted_none (fun w' hS => rn_mv R rfl) hS0 rfl fun inv a R => ?_
      refine dr_val (v := .pointer (some x89_45)) (i := 7) R (waits_dom (by kernel_rfl) (by kernel_rfl)) (by kernel_rfl) inv rfl (by decide) (by kernel_rfl) (by kernel_rfl) (fun _ _ _ h => h) wanted_none (fun w' hS => by rw [e44]; exact rn_ixs (x := (.tmp 87)) (y := (.tmp 88)) R rfl p44 rfl Tryd.underlying30 sz37 i44 j44) hS0 rfl fun inv a R => ?_
      refine dr_val (i := 8) R (waits_dom (by kernel_rfl) (by kernel_rfl)) (by kernel_rfl) inv rfl (by decide) (by kernel_rfl) (by kernel_rfl) (fun _ _ _ h => h) wanted_none (fun w' hS => rn_fld R rfl fd37_0) hS0 rfl fun inv a R => ?_
      refine dr_val (i := 9) R (waits_dom (by kernel_rfl) (by kernel_rfl)) (by kernel_rfl) inv rfl (by decide) (by kernel_rfl) (by kernel_rfl) (fun _ _ _ h => h) wanted_none (fun w' hS => rn_ld R rfl Tryd.underlying5 rfl (hS.2.1)) hS0 rfl fun inv a R => ?_
      refine dr_val (i := 10) R (waits_dom (by kernel_rfl) (by kernel_rfl)) (by kernel_rfl) inv rfl (by decide) (by kernel_rfl) (by kernel_rfl) (fun _ _ _ h => h) wanted_none (fun w' hS => rn_cvI R rfl Tryd.underlying5 Tryd.underlying3) hS0 rfl fun inv a R => ?_
      refine dr_val (i := 11) R (waits_dom (by kernel_rfl) (by kernel_rfl)) (by kernel_rfl) inv rfl (by decide) (by kernel_rfl) (by kernel_rfl) (fun _ _ _ h => h) wanted_none (fun w' hS => rn_mv R rfl) hS0 rfl fun inv a R => ?_
      refine dr_val (i := 12) R (waits_dom (by kernel_rfl) (by kernel_rfl)) (by kernel_rfl) inv rfl (by decide) (by kernel_rfl) (by kernel_rfl) (fun _ _ _ h => h) wanted_none (fun w' hS => rn_mv R rfl) hS0 rfl fun inv a R => ?_
      refine dr_val (v := .pointer (some x95_48)) (i := 13) R (waits_dom (by kernel_rfl) (by kernel_rfl)) (by kernel_rfl) inv rfl (by decide) (by kernel_rfl) (by kernel_rfl) (fun _ _ _ h => h) wanted_none (fun w' hS => by rw [e47]; exact rn_ixs (x := (.tmp 93)) (y := (.tmp 94)) R rfl p47 rfl Tryd.underlying30 sz37 i47 j47) hS0 rfl fun inv a R => ?_
      refine dr_val (i := 14) R (waits_dom (by kernel_rfl) (by kernel_rfl)) (by kernel_rfl) inv rfl (by decide) (by kernel_rfl) (by kernel_rfl) (fun _ _ _ h => h) wanted_none (fun w' hS => rn_fld R rfl fd37_1) hS0 rfl fun inv a R => ?_
      refine dr_val (i := 15) R (waits_dom (by kernel_rfl) (by kernel_rfl)) (by kernel_rfl) inv rfl (by decide) (by kernel_rfl) (by kernel_rfl) (fun _ _ _ h => h) wanted_none (fun w' hS => rn_ld R rfl Tryd.underlying29 rfl (hS.2.2.1)) hS0 rfl fun inv a R => ?_
      refine dr_call (i := 16) R inv rfl (by decide) (by kernel_rfl) wanted_none (rn_calls R rfl cf10) rfl ?_
      refine call_mono (s_levylaw19_record _ _ _ _ h) ?_
      rintro _ w58 ⟨x98_50_0_0, x98_50_0_1, rfl, hS0, h⟩
      refine ⟨hS0, fun a inv R => ?_⟩
      obtain ⟨x99_51, e52, h⟩ := al_e h
      obtain ⟨hS0, h⟩ := h
      refine dr_run (v := .slice (some x99_51) 1 1) (i := 17) R inv rfl (by decide) (by kernel_rfl) wanted_none (by rw [e52]; exact rn_buildSlice (t := 30) (len := 1) (xs := [(0, (.tmp 98))]) (cells := #[.int .u8 x98_50_0_0, Sl.val x98_50_0_1]) (e := 37) R rfl (fun w => by kernel_rfl)) hS0 rfl fun inv a R => ?_
      obtain ⟨x100_54, w53, cx100_54, h⟩ := h
      obtain ⟨hS0, h⟩ := h
      refine dr_run (i := 18) R inv rfl (by decide) (by kernel_rfl) wanted_none (rn_bi (vs := [Sl.val x86_43, .slice (some x99_51) 1 1]) R rfl (fun _ => rfl) cx100_54) hS0 rfl fun inv a R => ?_
      refine seg_end (by kernel_rfl) ?_
      refine any_tail 19 (by kernel_rfl) ?_
      obtain ⟨x101_55, cx101_55, h⟩ := h
      refine onl R rfl cx101_55 rfl fun a R => ?_
      refine ofd R rfl fd32_4 rfl fun a R => ?_
      obtain ⟨q56, f56, h⟩ := h
      refine op_unit R (rn_st R rfl rfl rfl sz30 q56 f56) fun a R => ?_
      refine wpList_nil ?_
      refine block_normal ?_
      refine then_normal ?_
      refine wp_region_lit ?_
      refine omv R rfl rfl fun a R => ?_
      refine op_val R (rn_bin (v := .int .i64 (IntKind.i64.wrap (z38_7 + 1))) R rfl rfl rfl) rfl fun a R => ?_
      refine oas R rfl rfl fun a R => ?_
      refine wpList_nil ?_
      refine then_normal ?_
      exact hC (IntKind.i64.wrap (z38_7 + 1)) _ _ (R.weak ⟨rfl, rfl, rfl, trivial⟩) (by rw [← hK38] at h; exact h)
     ·refine wp_condF R (congrArg (fun b => some (Value.bool b)) g41) ?_
      refine wp_exit ?_
      refine then_exit ?_
      refine then_exit ?_
      refine block_eq ?_
      refine then_normal ?_
      exact ⟨R.weak ⟨rfl, trivial⟩, h⟩
    ·rintro a w ⟨R, h⟩
     unfold levylaw19_world_open.k31 at h
     refine wp_seq ?_
     refine wp_region_lit ?_
     refine omv R rfl rfl fun a R => ?_
     refine omv R rfl rfl fun a R => ?_
     refine omv R rfl rfl fun a R => ?_
     obtain ⟨x106_32, cx106_32, h⟩ := h
     refine onl R rfl cx106_32 rfl fun a R => ?_
     refine ofd R rfl fd32_5 rfl fun a R => ?_
     obtain ⟨q33, f33, h⟩ := h
     refine op_unit R (rn_st R rfl rfl rfl sz30 q33 f33) fun a R => ?_
     obtain ⟨x108_34, cx108_34, h⟩ := h
     refine onl R rfl cx108_34 rfl fun a R => ?_
     refine ofd R rfl fd32_6 rfl fun a R => ?_
     obtain ⟨q35, f35, h⟩ := h
     refine op_unit R (rn_st R rfl rfl rfl sz23 q35 f35) fun a R => ?_
     obtain ⟨x110_36, cx110_36, h⟩ := h
     refine onl R rfl cx110_36 rfl fun a R => ?_
     refine ofd R rfl fd32_7 rfl fun a R => ?_
     obtain ⟨q37, f37, h⟩ := h
     refine op_unit R (rn_st R rfl rfl rfl sz4 q37 f37) fun a R => ?_
     refine wpList_nil ?_
     refine then_normal ?_
     refine wp_seq ?_
     refine wp_region_lit ?_
     refine oas R rfl rfl fun a R => ?_
     refine wpList_nil ?_
     refine then_normal ?_
     refine wp_ret ?_
     exact post_ret R rfl rfl ⟨true, rfl, h⟩
theorem s_levylaw19_world_open (x0 : Option Addr) (Q : Bool → World → Prop) (w : World) (h : levylaw19_world_open x0 Q w) :
    Calls Tryd.prog 8 #[.pointer x0] w (Rets fun v w => ∃ r0 : Bool, v = (.bool r0 : Value) ∧ Q r0 w) :=
  calls_body (args := [.pointer x0]) Tryd.func8 rfl rfl (Nat.le_of_ble_eq_true rfl) (L := [(0, .pointer x0)]) (by simp [starts]) (b_levylaw19_world_open x0 Q w h rfl)

/-! (drawer.Drawer).stick -/

def drawer_Drawer_stick (x0 : Option Addr) (x1 : Option Addr) (Q : World → Prop) (w : World) : Prop :=
  nn x1 fun x6_1 => ld (Value.int .i64) w x6_1 fun x7_2 => nn x0 fun x9_4 => st w (x9_4.add 4) (.bool (x7_2 != 0)) fun w => Q  w

theorem b_drawer_Drawer_stick (x0 : Option Addr) (x1 : Option Addr) (Q : World → Prop) (w : World) (h : drawer_Drawer_stick x0 x1 Q w) {c : Code} (hb : Tryd.f24.body = some c) :
 ∀ a, Rep a 11 [(0, .pointer x0), (1, .pointer x1)] [] → c.wp Tryd.prog (bodyPost Tryd.prog Tryd.f24 (Rets fun v w => v = (.tuple #[] : Value) ∧ Q w)) a w := by
 intro a R
 obtain rfl := Option.some.inj hb
 unfold drawer_Drawer_stick at h
 refine wp_region_lit ?_
 refine omv R rfl rfl fun a R => ?_
 refine omv R rfl rfl fun a R => ?_
 obtain ⟨x6_1, cx6_1, h⟩ := h
 refine onl R rfl cx6_1 rfl fun a R => ?_
 obtain ⟨x7_2, cx7_2, h⟩ := h
 refine old R rfl Tryd.underlying34 rfl cx7_2 rfl fun a R => ?_
 refine op_val R (rn_bin (v := .bool (x7_2 != 0)) R rfl rfl rfl) rfl fun a R => ?_
 obtain ⟨x9_4, cx9_4, h⟩ := h
 refine onl R rfl cx9_4 rfl fun a R => ?_
 refine ofd R rfl fd64_4 rfl fun a R => ?_
 obtain ⟨q5, f5, h⟩ := h
 refine op_unit R (rn_st R rfl rfl rfl sz4 q5 f5) fun a R => ?_
 refine wpList_nil ?_
 exact post_end R rfl rfl ⟨rfl, h⟩
theorem s_drawer_Drawer_stick (x0 : Option Addr) (x1 : Option Addr) (Q : World → Prop) (w : World) (h : drawer_Drawer_stick x0 x1 Q w) :
    Calls Tryd.prog 24 #[.pointer x0, .pointer x1] w (Rets fun v w => v = (.tuple #[] : Value) ∧ Q w) :=
  calls_body (args := [.pointer x0, .pointer x1]) Tryd.func24 rfl rfl (Nat.le_of_ble_eq_true rfl) (L := [(0, .pointer x0), (1, .pointer x1)]) (by simp [starts]) (b_drawer_Drawer_stick x0 x1 Q w h rfl)

theorem sD_drawer_Drawer_stick (x0 : Option Addr) (x1 : Option Addr) (Q : World → Prop) (w : World) (h : drawer_Drawer_stick x0 x1 Q w) (u : FrameMode) :
    CallsD Tryd.prog 24 #[.pointer x0, .pointer x1] u w (fun e u' w' => u' = u ∧ Rets (fun v w => v = (.tuple #[] : Value) ∧ Q w) e w') :=
  callsD_body (args := [.pointer x0, .pointer x1]) Tryd.func24 rfl rfl (Nat.le_of_ble_eq_true rfl) (L := [(0, .pointer x0), (1, .pointer x1)]) (by simp [starts]) (b_drawer_Drawer_stick x0 x1 Q w h rfl)

end Go.Proofs.YtjnifnlkicajhaaDoor.Fs
