/-
  Written by a program of this claim (wip/gen/gen.py): what each Go function asks of the world, as a plain predicate, and that it is enough. No condition is put on any statement here.
-/
import Derived.Test.YtjnifnlkicajhaaVcDraw
import Derived.Test.YtjnifnlkicajhaaFacts
import Derived.Test.YtjnifnlkicajhaaG4
set_option linter.unusedVariables false
set_option maxRecDepth 100000
set_option maxHeartbeats 2000000
namespace Go.Proofs.Ytjnifnlkicajhaa.Fs
open Go Vc

/-! (levyref19.Disk).Read -/

def levyref19_Disk_Read (x0 : Option Addr) (x1 : ByteArray) (Q : Sl → Int → World → Prop) (w : World) : Prop :=
  levyref19_named x1 (fun x11_1_0 w => (if x11_1_0 = true then nn x0 fun x15_3 => ld Value.bool w (x15_3.add 1) fun x17_4 => (if x17_4 = true then Q (Sl.mk none 0 0) 190 w else levyref19_Disk_place x0 x1 (fun x21_6_0 x21_6_1 w => (if x21_6_1 = true then nn x0 fun x27_8 => ld Sl.val w (x27_8.add 0) fun x29_9 => ix x29_9.p x29_9.len x21_6_0 3 fun x31_11 => ld Sl.val w (x31_11.add 1) fun x33_12 => levyref19_copied x33_12 (fun x34_13_0 w => Q x34_13_0 0 w) w else Q (Sl.mk none 0 0) 193 w)) w) else Q (Sl.mk none 0 0) 192 w)) w

theorem b_levyref19_Disk_Read (x0 : Option Addr) (x1 : ByteArray) (Q : Sl → Int → World → Prop) (w : World) (h : levyref19_Disk_Read x0 x1 Q w) {c : Code} (hb : Try.f24.body = some c) :
 ∀ a, Rep a 36 [(0, .pointer x0), (1, .string x1)] [] → c.wp Try.prog (bodyPost Try.prog Try.f24 (Rets fun v w => ∃ r0 : Sl, ∃ r1 : Int, v = (.tuple #[Sl.val r0, .int .i64 r1] : Value) ∧ Q r0 r1 w)) a w := by
 intro a R
 obtain rfl := Option.some.inj hb
 unfold levyref19_Disk_Read at h
 refine wp_seq ?_
 refine wp_region_lit ?_
 refine oas R rfl rfl fun a R => ?_
 refine oas R rfl rfl fun a R => ?_
 refine wpList_nil ?_
 refine then_normal ?_
 refine wp_seq ?_
 refine wp_region_lit ?_
 refine omv R rfl rfl fun a R => ?_
 refine op_call R (rn_calls R rfl cf37) rfl ?_
 refine call_mono (s_levyref19_named _ _ _ h) ?_
 rintro _ w16 ⟨x11_1_0, rfl, h⟩ a R
 refine oas R rfl rfl fun a R => ?_
 refine wpList_nil ?_
 refine then_normal ?_
 refine wp_seq ?_
 refine wp_seq ?_
 refine wp_region_lit ?_
 refine omv R rfl rfl fun a R => ?_
 refine op_val R (rn_un (v := .bool (!x11_1_0)) R rfl rfl) rfl fun a R => ?_
 refine wpList_nil ?_
 refine then_normal ?_
 rcases ite_cases h with ⟨g2, h⟩ | ⟨g2, h⟩
 ·refine wp_condF R (congrArg (fun b => some (Value.bool b)) (nf g2)) ?_
  refine wp_skip ?_
  refine then_normal ?_
  refine wp_seq ?_
  refine wp_seq ?_
  refine wp_region_lit ?_
  refine omv R rfl rfl fun a R => ?_
  obtain ⟨x15_3, cx15_3, h⟩ := h
  refine onl R rfl cx15_3 rfl fun a R => ?_
  refine ofd R rfl fd100_1 rfl fun a R => ?_
  obtain ⟨x17_4, cx17_4, h⟩ := h
  refine old R rfl Try.underlying4 rfl cx17_4 rfl fun a R => ?_
  refine wpList_nil ?_
  refine then_normal ?_
  rcases ite_cases h with ⟨g5, h⟩ | ⟨g5, h⟩
  ·refine wp_condT R (congrArg (fun b => some (Value.bool b)) g5) ?_
   refine wp_seq ?_
   refine wp_region_lit ?_
   refine oas R rfl rfl fun a R => ?_
   refine oas R rfl rfl fun a R => ?_
   refine wpList_nil ?_
   refine then_normal ?_
   refine wp_ret ?_
   refine then_ret ?_
   exact post_ret R rfl rfl ⟨(Sl.mk none 0 0), 190, rfl, h⟩
  ·refine wp_condF R (congrArg (fun b => some (Value.bool b)) g5) ?_
   refine wp_skip ?_
   refine then_normal ?_
   refine wp_seq ?_
   refine wp_region_lit ?_
   refine omv R rfl rfl fun a R => ?_
   refine omv R rfl rfl fun a R => ?_
   refine op_call R (rn_calls R rfl cf38) rfl ?_
   refine call_mono (s_levyref19_Disk_place _ _ _ _ h) ?_
   rintro _ w15 ⟨x21_6_0, x21_6_1, rfl, h⟩ a R
   refine omv R rfl rfl fun a R => ?_
   refine op_val R (rn_ext R rfl rfl) rfl fun a R => ?_
   refine op_val R (rn_ext R rfl rfl) rfl fun a R => ?_
   refine oas R rfl rfl fun a R => ?_
   refine oas R rfl rfl fun a R => ?_
   refine wpList_nil ?_
   refine then_normal ?_
   refine wp_seq ?_
   refine wp_seq ?_
   refine wp_region_lit ?_
   refine omv R rfl rfl fun a R => ?_
   refine op_val R (rn_un (v := .bool (!x21_6_1)) R rfl rfl) rfl fun a R => ?_
   refine wpList_nil ?_
   refine then_normal ?_
   rcases ite_cases h with ⟨g7, h⟩ | ⟨g7, h⟩
   ·refine wp_condF R (congrArg (fun b => some (Value.bool b)) (nf g7)) ?_
    refine wp_skip ?_
    refine then_normal ?_
    refine wp_seq ?_
    refine wp_region_lit ?_
    refine omv R rfl rfl fun a R => ?_
    obtain ⟨x27_8, cx27_8, h⟩ := h
    refine onl R rfl cx27_8 rfl fun a R => ?_
    refine ofd R rfl fd100_0 rfl fun a R => ?_
    obtain ⟨x29_9, cx29_9, h⟩ := h
    refine old R rfl Try.underlying22 rfl cx29_9 rfl fun a R => ?_
    refine omv R rfl rfl fun a R => ?_
    obtain ⟨b10, x31_11, p10, i10, j10, e10, h⟩ := ix_e h
    refine op_val (v := .pointer (some x31_11)) R (by rw [e10]; exact rn_ixs (x := (.tmp 29)) (y := (.tmp 30)) R rfl p10 rfl Try.underlying22 sz74 i10 j10) rfl fun a R => ?_
    refine ofd R rfl fd74_1 rfl fun a R => ?_
    obtain ⟨x33_12, cx33_12, h⟩ := h
    refine old R rfl Try.underlying34 rfl cx33_12 rfl fun a R => ?_
    refine op_call R (rn_calls R rfl cf36) rfl ?_
    refine call_mono (s_levyref19_copied _ _ _ h) ?_
    rintro _ w14 ⟨x34_13_0, rfl, h⟩ a R
    refine oas R rfl rfl fun a R => ?_
    refine wpList_nil ?_
    refine then_normal ?_
    refine wp_seq ?_
    refine wp_region_lit ?_
    refine omv R rfl rfl fun a R => ?_
    refine oas R rfl rfl fun a R => ?_
    refine oas R rfl rfl fun a R => ?_
    refine wpList_nil ?_
    refine then_normal ?_
    refine wp_ret ?_
    exact post_ret R rfl rfl ⟨x34_13_0, 0, rfl, h⟩
   ·refine wp_condT R (congrArg (fun b => some (Value.bool b)) (nt g7)) ?_
    refine wp_seq ?_
    refine wp_region_lit ?_
    refine oas R rfl rfl fun a R => ?_
    refine oas R rfl rfl fun a R => ?_
    refine wpList_nil ?_
    refine then_normal ?_
    refine wp_ret ?_
    refine then_ret ?_
    exact post_ret R rfl rfl ⟨(Sl.mk none 0 0), 193, rfl, h⟩
 ·refine wp_condT R (congrArg (fun b => some (Value.bool b)) (nt g2)) ?_
  refine wp_seq ?_
  refine wp_region_lit ?_
  refine oas R rfl rfl fun a R => ?_
  refine oas R rfl rfl fun a R => ?_
  refine wpList_nil ?_
  refine then_normal ?_
  refine wp_ret ?_
  refine then_ret ?_
  exact post_ret R rfl rfl ⟨(Sl.mk none 0 0), 192, rfl, h⟩
theorem s_levyref19_Disk_Read (x0 : Option Addr) (x1 : ByteArray) (Q : Sl → Int → World → Prop) (w : World) (h : levyref19_Disk_Read x0 x1 Q w) :
    Calls Try.prog 24 #[.pointer x0, .string x1] w (Rets fun v w => ∃ r0 : Sl, ∃ r1 : Int, v = (.tuple #[Sl.val r0, .int .i64 r1] : Value) ∧ Q r0 r1 w) :=
  calls_body (args := [.pointer x0, .string x1]) Try.func24 rfl rfl (Nat.le_of_ble_eq_true rfl) (L := [(0, .pointer x0), (1, .string x1)]) (by simp [starts]) (b_levyref19_Disk_Read x0 x1 Q w h rfl)

/-! (drawer.Disk).Arm -/

def drawer_Disk_Arm (x0 : Option Addr) (x1 : Int) (Q : World → Prop) (w : World) : Prop :=
  nn x0 fun x5_1 => ld Value.bool w (x5_1.add 1) fun x7_2 => (if x7_2 = true then Q  w else nn x0 fun x14_5 => st w (x14_5.add 2) (.bool (decide (x1 ≥ 0))) fun w => nn x0 fun x16_7 => st w (x16_7.add 3) (.int .i64 x1) fun w => Q  w)

theorem b_drawer_Disk_Arm (x0 : Option Addr) (x1 : Int) (Q : World → Prop) (w : World) (h : drawer_Disk_Arm x0 x1 Q w) {c : Code} (hb : Try.f25.body = some c) :
 ∀ a, Rep a 18 [(0, .pointer x0), (1, .int .i64 x1)] [] → c.wp Try.prog (bodyPost Try.prog Try.f25 (Rets fun v w => v = (.tuple #[] : Value) ∧ Q w)) a w := by
 intro a R
 obtain rfl := Option.some.inj hb
 unfold drawer_Disk_Arm at h
 refine wp_seq ?_
 refine wp_region_lit ?_
 refine omv R rfl rfl fun a R => ?_
 obtain ⟨x5_1, cx5_1, h⟩ := h
 refine onl R rfl cx5_1 rfl fun a R => ?_
 refine ofd R rfl fd96_1 rfl fun a R => ?_
 obtain ⟨x7_2, cx7_2, h⟩ := h
 refine old R rfl Try.underlying4 rfl cx7_2 rfl fun a R => ?_
 refine op_val R (rn_un (v := .bool (!x7_2)) R rfl rfl) rfl fun a R => ?_
 refine wpList_nil ?_
 refine then_normal ?_
 rcases ite_cases h with ⟨g3, h⟩ | ⟨g3, h⟩
 ·refine wp_condF R (congrArg (fun b => some (Value.bool b)) (nf g3)) ?_
  refine wp_skip ?_
  exact post_end R rfl rfl ⟨rfl, h⟩
 ·refine wp_condT R (congrArg (fun b => some (Value.bool b)) (nt g3)) ?_
  refine wp_region_lit ?_
  refine omv R rfl rfl fun a R => ?_
  refine omv R rfl rfl fun a R => ?_
  refine omv R rfl rfl fun a R => ?_
  refine op_val R (rn_bin (v := .bool (decide (x1 ≥ 0))) R rfl rfl rfl) rfl fun a R => ?_
  refine omv R rfl rfl fun a R => ?_
  obtain ⟨x14_5, cx14_5, h⟩ := h
  refine onl R rfl cx14_5 rfl fun a R => ?_
  refine ofd R rfl fd96_2 rfl fun a R => ?_
  obtain ⟨q6, f6, h⟩ := h
  refine op_unit R (rn_st R rfl rfl rfl sz4 q6 f6) fun a R => ?_
  obtain ⟨x16_7, cx16_7, h⟩ := h
  refine onl R rfl cx16_7 rfl fun a R => ?_
  refine ofd R rfl fd96_3 rfl fun a R => ?_
  obtain ⟨q8, f8, h⟩ := h
  refine op_unit R (rn_st R rfl rfl rfl sz3 q8 f8) fun a R => ?_
  refine wpList_nil ?_
  exact post_end R rfl rfl ⟨rfl, h⟩
theorem s_drawer_Disk_Arm (x0 : Option Addr) (x1 : Int) (Q : World → Prop) (w : World) (h : drawer_Disk_Arm x0 x1 Q w) :
    Calls Try.prog 25 #[.pointer x0, .int .i64 x1] w (Rets fun v w => v = (.tuple #[] : Value) ∧ Q w) :=
  calls_body (args := [.pointer x0, .int .i64 x1]) Try.func25 rfl rfl (Nat.le_of_ble_eq_true rfl) (L := [(0, .pointer x0), (1, .int .i64 x1)]) (by simp [starts]) (b_drawer_Disk_Arm x0 x1 Q w h rfl)

/-! (levyref19.Disk).Arm -/

def levyref19_Disk_Arm (x0 : Option Addr) (x1 : Int) (Q : World → Prop) (w : World) : Prop :=
  nn x0 fun x5_1 => ld Value.bool w (x5_1.add 1) fun x7_2 => (if x7_2 = true then Q  w else nn x0 fun x12_5 => st w (x12_5.add 2) (.int .i64 (if (-1) > x1 then (-1) else x1)) fun w => Q  w)

theorem b_levyref19_Disk_Arm (x0 : Option Addr) (x1 : Int) (Q : World → Prop) (w : World) (h : levyref19_Disk_Arm x0 x1 Q w) {c : Code} (hb : Try.f26.body = some c) :
 ∀ a, Rep a 14 [(0, .pointer x0), (1, .int .i64 x1)] [] → c.wp Try.prog (bodyPost Try.prog Try.f26 (Rets fun v w => v = (.tuple #[] : Value) ∧ Q w)) a w := by
 intro a R
 obtain rfl := Option.some.inj hb
 unfold levyref19_Disk_Arm at h
 refine wp_seq ?_
 refine wp_region_lit ?_
 refine omv R rfl rfl fun a R => ?_
 obtain ⟨x5_1, cx5_1, h⟩ := h
 refine onl R rfl cx5_1 rfl fun a R => ?_
 refine ofd R rfl fd100_1 rfl fun a R => ?_
 obtain ⟨x7_2, cx7_2, h⟩ := h
 refine old R rfl Try.underlying4 rfl cx7_2 rfl fun a R => ?_
 refine op_val R (rn_un (v := .bool (!x7_2)) R rfl rfl) rfl fun a R => ?_
 refine wpList_nil ?_
 refine then_normal ?_
 rcases ite_cases h with ⟨g3, h⟩ | ⟨g3, h⟩
 ·refine wp_condF R (congrArg (fun b => some (Value.bool b)) (nf g3)) ?_
  refine wp_skip ?_
  exact post_end R rfl rfl ⟨rfl, h⟩
 ·refine wp_condT R (congrArg (fun b => some (Value.bool b)) (nt g3)) ?_
  refine wp_region_lit ?_
  refine omv R rfl rfl fun a R => ?_
  refine omv R rfl rfl fun a R => ?_
  refine op_val R (rn_max R rfl rfl) rfl fun a R => ?_
  obtain ⟨x12_5, cx12_5, h⟩ := h
  refine onl R rfl cx12_5 rfl fun a R => ?_
  refine ofd R rfl fd100_2 rfl fun a R => ?_
  obtain ⟨q6, f6, h⟩ := h
  refine op_unit R (rn_st R rfl rfl rfl sz3 q6 f6) fun a R => ?_
  refine wpList_nil ?_
  exact post_end R rfl rfl ⟨rfl, h⟩
theorem s_levyref19_Disk_Arm (x0 : Option Addr) (x1 : Int) (Q : World → Prop) (w : World) (h : levyref19_Disk_Arm x0 x1 Q w) :
    Calls Try.prog 26 #[.pointer x0, .int .i64 x1] w (Rets fun v w => v = (.tuple #[] : Value) ∧ Q w) :=
  calls_body (args := [.pointer x0, .int .i64 x1]) Try.func26 rfl rfl (Nat.le_of_ble_eq_true rfl) (L := [(0, .pointer x0), (1, .int .i64 x1)]) (by simp [starts]) (b_levyref19_Disk_Arm x0 x1 Q w h rfl)

/-! (drawer.Disk).Fail -/

def drawer_Disk_Fail.k8 (x0 : Option Addr) (y8_23 : Bool) (Q : World → Prop) (w : World) : Prop :=
  (if y8_23 = true then nn x0 fun x26_10 => st w (x26_10.add 4) (.int .i64 0) fun w => nn x0 fun x28_12 => st w (x28_12.add 5) (.int .i64 0) fun w => Q  w else Q  w)

def drawer_Disk_Fail (x0 : Option Addr) (x1 : Int) (x2 : Int) (Q : World → Prop) (w : World) : Prop :=
  nn x0 fun x7_1 => ld Value.bool w (x7_1.add 1) fun x9_2 => (if x9_2 = true then Q  w else nn x0 fun x14_4 => st w (x14_4.add 4) (.int .i64 x1) fun w => nn x0 fun x16_6 => st w (x16_6.add 5) (.int .i64 x2) fun w => (if (decide (x1 < 0)) = true then drawer_Disk_Fail.k8 x0 true Q w else drawer_Disk_Fail.k8 x0 (decide (x2 ≤ 0)) Q w))

theorem b_drawer_Disk_Fail (x0 : Option Addr) (x1 : Int) (x2 : Int) (Q : World → Prop) (w : World) (h : drawer_Disk_Fail x0 x1 x2 Q w) {c : Code} (hb : Try.f27.body = some c) :
 ∀ a, Rep a 30 [(0, .pointer x0), (1, .int .i64 x1), (2, .int .i64 x2)] [] → c.wp Try.prog (bodyPost Try.prog Try.f27 (Rets fun v w => v = (.tuple #[] : Value) ∧ Q w)) a w := by
 intro a R
 obtain rfl := Option.some.inj hb
 unfold drawer_Disk_Fail at h
 refine wp_seq ?_
 refine wp_seq ?_
 refine wp_region_lit ?_
 refine omv R rfl rfl fun a R => ?_
 obtain ⟨x7_1, cx7_1, h⟩ := h
 refine onl R rfl cx7_1 rfl fun a R => ?_
 refine ofd R rfl fd96_1 rfl fun a R => ?_
 obtain ⟨x9_2, cx9_2, h⟩ := h
 refine old R rfl Try.underlying4 rfl cx9_2 rfl fun a R => ?_
 refine wpList_nil ?_
 refine then_normal ?_
 rcases ite_cases h with ⟨g3, h⟩ | ⟨g3, h⟩
 ·refine wp_condT R (congrArg (fun b => some (Value.bool b)) g3) ?_
  refine wp_ret ?_
  refine then_ret ?_
  exact post_ret R rfl rfl ⟨rfl, h⟩
 ·refine wp_condF R (congrArg (fun b => some (Value.bool b)) g3) ?_
  refine wp_skip ?_
  refine then_normal ?_
  refine wp_seq ?_
  refine wp_region_lit ?_
  refine omv R rfl rfl fun a R => ?_
  refine omv R rfl rfl fun a R => ?_
  refine omv R rfl rfl fun a R => ?_
  refine omv R rfl rfl fun a R => ?_
  obtain ⟨x14_4, cx14_4, h⟩ := h
  refine onl R rfl cx14_4 rfl fun a R => ?_
  refine ofd R rfl fd96_4 rfl fun a R => ?_
  obtain ⟨q5, f5, h⟩ := h
  refine op_unit R (rn_st R rfl rfl rfl sz3 q5 f5) fun a R => ?_
  obtain ⟨x16_6, cx16_6, h⟩ := h
  refine onl R rfl cx16_6 rfl fun a R => ?_
  refine ofd R rfl fd96_5 rfl fun a R => ?_
  obtain ⟨q7, f7, h⟩ := h
  refine op_unit R (rn_st R rfl rfl rfl sz3 q7 f7) fun a R => ?_
  refine wpList_nil ?_
  refine then_normal ?_
  refine seq_join (fun a w => ∃ y8_23 : Bool, Rep a 30 [(0, .pointer x0), (23, .bool y8_23)] [] ∧ drawer_Disk_Fail.k8 x0 y8_23 Q w) ?_ ?_
  ·refine wp_region_lit ?_
   refine omv R rfl rfl fun a R => ?_
   refine op_val R (rn_bin (v := .bool (decide (x1 < 0))) R rfl rfl rfl) rfl fun a R => ?_
   refine omv R rfl rfl fun a R => ?_
   rcases ite_cases h with ⟨g15, h⟩ | ⟨g15, h⟩
   ·refine op_pass R rfl rfl rfl (nft g15) (fun a R => ?_) (by intro s hs; cases hs; rfl)
    refine op_pass R rfl rfl rfl (nft g15) (fun a R => ?_) (by intro s hs; cases hs; rfl)
    refine op_val R (rn_pickT R rfl g15 rfl) rfl fun a R => ?_
    refine wpList_nil ?_
    refine then_normal ?_
    exact ⟨true, R.weak ⟨rfl, rfl, trivial⟩, h⟩
   ·refine op_guard R rfl rfl rfl g15 ?_
    refine omv R rfl rfl fun a R => ?_
    refine op_guard R rfl rfl rfl g15 ?_
    refine op_val R (rn_bin (v := .bool (decide (x2 ≤ 0))) R rfl rfl rfl) rfl fun a R => ?_
    refine op_val R (rn_pickF R rfl g15 rfl) rfl fun a R => ?_
    refine wpList_nil ?_
    refine then_normal ?_
    exact ⟨(decide (x2 ≤ 0)), R.weak ⟨rfl, rfl, trivial⟩, h⟩
  ·rintro a w ⟨y8_23, R, h⟩
   unfold drawer_Disk_Fail.k8 at h
   rcases ite_cases h with ⟨g9, h⟩ | ⟨g9, h⟩
   ·refine wp_condT R (congrArg (fun b => some (Value.bool b)) g9) ?_
    refine wp_region_lit ?_
    refine omv R rfl rfl fun a R => ?_
    refine omv R rfl rfl fun a R => ?_
    obtain ⟨x26_10, cx26_10, h⟩ := h
    refine onl R rfl cx26_10 rfl fun a R => ?_
    refine ofd R rfl fd96_4 rfl fun a R => ?_
    obtain ⟨q11, f11, h⟩ := h
    refine op_unit R (rn_st R rfl rfl rfl sz3 q11 f11) fun a R => ?_
    obtain ⟨x28_12, cx28_12, h⟩ := h
    refine onl R rfl cx28_12 rfl fun a R => ?_
    refine ofd R rfl fd96_5 rfl fun a R => ?_
    obtain ⟨q13, f13, h⟩ := h
    refine op_unit R (rn_st R rfl rfl rfl sz3 q13 f13) fun a R => ?_
    refine wpList_nil ?_
    exact post_end R rfl rfl ⟨rfl, h⟩
   ·refine wp_condF R (congrArg (fun b => some (Value.bool b)) g9) ?_
    refine wp_skip ?_
    exact post_end R rfl rfl ⟨rfl, h⟩
theorem s_drawer_Disk_Fail (x0 : Option Addr) (x1 : Int) (x2 : Int) (Q : World → Prop) (w : World) (h : drawer_Disk_Fail x0 x1 x2 Q w) :
    Calls Try.prog 27 #[.pointer x0, .int .i64 x1, .int .i64 x2] w (Rets fun v w => v = (.tuple #[] : Value) ∧ Q w) :=
  calls_body (args := [.pointer x0, .int .i64 x1, .int .i64 x2]) Try.func27 rfl rfl (Nat.le_of_ble_eq_true rfl) (L := [(0, .pointer x0), (1, .int .i64 x1), (2, .int .i64 x2)]) (by simp [starts]) (b_drawer_Disk_Fail x0 x1 x2 Q w h rfl)

/-! (levyref19.Disk).Fail -/

def levyref19_Disk_Fail.k8 (x0 : Option Addr) (x1 : Int) (x2 : Int) (y8_21 : Bool) (Q : World → Prop) (w : World) : Prop :=
  (if y8_21 = true then nn x0 fun x24_10 => st w (x24_10.add 3) (.int .i64 x1) fun w => nn x0 fun x28_12 => st w (x28_12.add 4) (.int .i64 x2) fun w => Q  w else Q  w)

def levyref19_Disk_Fail (x0 : Option Addr) (x1 : Int) (x2 : Int) (Q : World → Prop) (w : World) : Prop :=
  nn x0 fun x7_1 => ld Value.bool w (x7_1.add 1) fun x9_2 => (if x9_2 = true then Q  w else nn x0 fun x11_4 => st w (x11_4.add 3) (.int .i64 0) fun w => nn x0 fun x14_6 => st w (x14_6.add 4) (.int .i64 0) fun w => (if (decide (x1 ≥ 0)) = true then levyref19_Disk_Fail.k8 x0 x1 x2 (decide (x2 > 0)) Q w else levyref19_Disk_Fail.k8 x0 x1 x2 false Q w))

theorem b_levyref19_Disk_Fail (x0 : Option Addr) (x1 : Int) (x2 : Int) (Q : World → Prop) (w : World) (h : levyref19_Disk_Fail x0 x1 x2 Q w) {c : Code} (hb : Try.f28.body = some c) :
 ∀ a, Rep a 30 [(0, .pointer x0), (1, .int .i64 x1), (2, .int .i64 x2)] [] → c.wp Try.prog (bodyPost Try.prog Try.f28 (Rets fun v w => v = (.tuple #[] : Value) ∧ Q w)) a w := by
 intro a R
 obtain rfl := Option.some.inj hb
 unfold levyref19_Disk_Fail at h
 refine wp_seq ?_
 refine wp_seq ?_
 refine wp_region_lit ?_
 refine omv R rfl rfl fun a R => ?_
 obtain ⟨x7_1, cx7_1, h⟩ := h
 refine onl R rfl cx7_1 rfl fun a R => ?_
 refine ofd R rfl fd100_1 rfl fun a R => ?_
 obtain ⟨x9_2, cx9_2, h⟩ := h
 refine old R rfl Try.underlying4 rfl cx9_2 rfl fun a R => ?_
 refine wpList_nil ?_
 refine then_normal ?_
 rcases ite_cases h with ⟨g3, h⟩ | ⟨g3, h⟩
 ·refine wp_condT R (congrArg (fun b => some (Value.bool b)) g3) ?_
  refine wp_ret ?_
  refine then_ret ?_
  exact post_ret R rfl rfl ⟨rfl, h⟩
 ·refine wp_condF R (congrArg (fun b => some (Value.bool b)) g3) ?_
  refine wp_skip ?_
  refine then_normal ?_
  refine wp_seq ?_
  refine wp_region_lit ?_
  refine omv R rfl rfl fun a R => ?_
  obtain ⟨x11_4, cx11_4, h⟩ := h
  refine onl R rfl cx11_4 rfl fun a R => ?_
  refine ofd R rfl fd100_3 rfl fun a R => ?_
  obtain ⟨q5, f5, h⟩ := h
  refine op_unit R (rn_st R rfl rfl rfl sz3 q5 f5) fun a R => ?_
  refine wpList_nil ?_
  refine then_normal ?_
  refine wp_seq ?_
  refine wp_region_lit ?_
  refine omv R rfl rfl fun a R => ?_
  obtain ⟨x14_6, cx14_6, h⟩ := h
  refine onl R rfl cx14_6 rfl fun a R => ?_
  refine ofd R rfl fd100_4 rfl fun a R => ?_
  obtain ⟨q7, f7, h⟩ := h
  refine op_unit R (rn_st R rfl rfl rfl sz3 q7 f7) fun a R => ?_
  refine wpList_nil ?_
  refine then_normal ?_
  refine seq_join (fun a w => ∃ y8_21 : Bool, Rep a 30 [(0, .pointer x0), (1, .int .i64 x1), (2, .int .i64 x2), (21, .bool y8_21)] [] ∧ levyref19_Disk_Fail.k8 x0 x1 x2 y8_21 Q w) ?_ ?_
  ·refine wp_region_lit ?_
   refine omv R rfl rfl fun a R => ?_
   refine op_val R (rn_bin (v := .bool (decide (x1 ≥ 0))) R rfl rfl rfl) rfl fun a R => ?_
   refine omv R rfl rfl fun a R => ?_
   rcases ite_cases h with ⟨g15, h⟩ | ⟨g15, h⟩
   ·refine op_guard R rfl rfl rfl g15 ?_
    refine omv R rfl rfl fun a R => ?_
    refine op_guard R rfl rfl rfl g15 ?_
    refine op_val R (rn_bin (v := .bool (decide (x2 > 0))) R rfl rfl rfl) rfl fun a R => ?_
    refine op_val R (rn_pickT R rfl g15 rfl) rfl fun a R => ?_
    refine wpList_nil ?_
    refine then_normal ?_
    exact ⟨(decide (x2 > 0)), R.weak ⟨rfl, rfl, rfl, rfl, trivial⟩, h⟩
   ·refine op_pass R rfl rfl rfl (ntf g15) (fun a R => ?_) (by intro s hs; cases hs; rfl)
    refine op_pass R rfl rfl rfl (ntf g15) (fun a R => ?_) (by intro s hs; cases hs; rfl)
    refine op_val R (rn_pickF R rfl g15 rfl) rfl fun a R => ?_
    refine wpList_nil ?_
    refine then_normal ?_
    exact ⟨false, R.weak ⟨rfl, rfl, rfl, rfl, trivial⟩, h⟩
  ·rintro a w ⟨y8_21, R, h⟩
   unfold levyref19_Disk_Fail.k8 at h
   rcases ite_cases h with ⟨g9, h⟩ | ⟨g9, h⟩
   ·refine wp_condT R (congrArg (fun b => some (Value.bool b)) g9) ?_
    refine wp_seq ?_
    refine wp_region_lit ?_
    refine omv R rfl rfl fun a R => ?_
    refine omv R rfl rfl fun a R => ?_
    obtain ⟨x24_10, cx24_10, h⟩ := h
    refine onl R rfl cx24_10 rfl fun a R => ?_
    refine ofd R rfl fd100_3 rfl fun a R => ?_
    obtain ⟨q11, f11, h⟩ := h
    refine op_unit R (rn_st R rfl rfl rfl sz3 q11 f11) fun a R => ?_
    refine wpList_nil ?_
    refine then_normal ?_
    refine wp_region_lit ?_
    refine omv R rfl rfl fun a R => ?_
    refine omv R rfl rfl fun a R => ?_
    obtain ⟨x28_12, cx28_12, h⟩ := h
    refine onl R rfl cx28_12 rfl fun a R => ?_
    refine ofd R rfl fd100_4 rfl fun a R => ?_
    obtain ⟨q13, f13, h⟩ := h
    refine op_unit R (rn_st R rfl rfl rfl sz3 q13 f13) fun a R => ?_
    refine wpList_nil ?_
    exact post_end R rfl rfl ⟨rfl, h⟩
   ·refine wp_condF R (congrArg (fun b => some (Value.bool b)) g9) ?_
    refine wp_skip ?_
    exact post_end R rfl rfl ⟨rfl, h⟩
theorem s_levyref19_Disk_Fail (x0 : Option Addr) (x1 : Int) (x2 : Int) (Q : World → Prop) (w : World) (h : levyref19_Disk_Fail x0 x1 x2 Q w) :
    Calls Try.prog 28 #[.pointer x0, .int .i64 x1, .int .i64 x2] w (Rets fun v w => v = (.tuple #[] : Value) ∧ Q w) :=
  calls_body (args := [.pointer x0, .int .i64 x1, .int .i64 x2]) Try.func28 rfl rfl (Nat.le_of_ble_eq_true rfl) (L := [(0, .pointer x0), (1, .int .i64 x1), (2, .int .i64 x2)]) (by simp [starts]) (b_levyref19_Disk_Fail x0 x1 x2 Q w h rfl)

/-! (levyref19.Disk).Crash -/

def levyref19_Disk_Crash (x0 : Option Addr) (Q : World → Prop) (w : World) : Prop :=
  levyref19_Disk_falls x0 (fun  w => Q  w) w

theorem b_levyref19_Disk_Crash (x0 : Option Addr) (Q : World → Prop) (w : World) (h : levyref19_Disk_Crash x0 Q w) {c : Code} (hb : Try.f30.body = some c) :
 ∀ a, Rep a 4 [(0, .pointer x0)] [] → c.wp Try.prog (bodyPost Try.prog Try.f30 (Rets fun v w => v = (.tuple #[] : Value) ∧ Q w)) a w := by
 intro a R
 obtain rfl := Option.some.inj hb
 unfold levyref19_Disk_Crash at h
 refine wp_region_lit ?_
 refine omv R rfl rfl fun a R => ?_
 refine op_call R (rn_calls R rfl cf72) rfl ?_
 refine call_mono (s_levyref19_Disk_falls _ _ _ h) ?_
 rintro _ w2 ⟨rfl, h⟩ a R
 refine wpList_nil ?_
 exact post_end R rfl rfl ⟨rfl, h⟩
theorem s_levyref19_Disk_Crash (x0 : Option Addr) (Q : World → Prop) (w : World) (h : levyref19_Disk_Crash x0 Q w) :
    Calls Try.prog 30 #[.pointer x0] w (Rets fun v w => v = (.tuple #[] : Value) ∧ Q w) :=
  calls_body (args := [.pointer x0]) Try.func30 rfl rfl (Nat.le_of_ble_eq_true rfl) (L := [(0, .pointer x0)]) (by simp [starts]) (b_levyref19_Disk_Crash x0 Q w h rfl)

/-! (drawer.Disk).Restart -/

def drawer_Disk_Restart.k2 (x0 : Option Addr) (Q : World → Prop) (w : World) : Prop :=
  nn x0 fun x70_3 => st w (x70_3.add 1) (.bool false) fun w => Q  w

def drawer_Disk_Restart.k17 (x0 : Option Addr) (x1 : Sl) (x11_5_0 : Sl) (z7_13 : Int) (K7 : Int → World → Prop) (x23_15 : Option Addr) (y17_7 : Int) (Q : World → Prop) (w : World) : Prop :=
  nn x23_15 fun x48_18 => ld Sl.val (World.drew w) (x48_18.add 0) fun x50_19 => nn x23_15 fun x52_20 => ld (Value.int .i64) (World.drew w) (x52_20.add 1) fun x54_21 => (0 ≤ (IntKind.i64.wrap (x54_21 + y17_7)) ∧ (IntKind.i64.wrap (x54_21 + y17_7)) ≤ ((x50_19.cap : Nat) : Int) ∧ nn x23_15 fun x58_24 => st (World.drew w) (x58_24.add 0) (Sl.val (cutSl ⟨x50_19.p, x50_19.len, x50_19.cap⟩ 1 0 (Int.toNat (IntKind.i64.wrap (x54_21 + y17_7))) x50_19.cap)) fun w => nn x23_15 fun x62_26 => ld Sl.val w (x62_26.add 0) fun x64_27 => nn x23_15 fun x66_29 => st w (x66_29.add 1) (.int .i64 ((x64_27.len : Nat) : Int)) fun w => K7 (IntKind.i64.wrap (z7_13 + 1)) w)

def drawer_Disk_Restart.l7 (x0 : Option Addr) (x1 : Sl) (x11_5_0 : Sl) (z7_13 : Int) (Q : World → Prop) (K7 : Int → World → Prop) (w : World) : Prop :=
  (if (decide (z7_13 < ((x11_5_0.len : Nat) : Int))) = true then ix x11_5_0.p x11_5_0.len z7_13 1 fun x16_11 => ld Value.string w x16_11 fun x17_12 => nn x0 fun x19_13 => ld Value.map w (x19_13.add 0) fun x21_14 => rn Try.prog Value.pointer (Instr.lookup 94 (.map x21_14) (.string x17_12) false) w fun x23_15 w => (if (decide (((x1.len : Nat) : Int) > 0)) = true then (((x1.len : Nat) : Int) ≠ 0 ∧ ix x1.p x1.len (Int.tmod z7_13 ((x1.len : Nat) : Int)) 1 fun x32_38 => ld (Value.int .i64) (World.drew w) x32_38 fun x33_39 => nn x23_15 fun x36_41 => ld Sl.val (World.drew w) (x36_41.add 0) fun x38_42 => nn x23_15 fun x41_44 => ld (Value.int .i64) (World.drew w) (x41_44.add 1) fun x43_45 => drawer_Disk_Restart.k17 x0 x1 x11_5_0 z7_13 K7 x23_15 (if (IntKind.i64.wrap (((x38_42.len : Nat) : Int) - x43_45)) < (if 0 > x33_39 then 0 else x33_39) then (IntKind.i64.wrap (((x38_42.len : Nat) : Int) - x43_45)) else (if 0 > x33_39 then 0 else x33_39)) Q (World.drew w)) else drawer_Disk_Restart.k17 x0 x1 x11_5_0 z7_13 K7 x23_15 0 Q w) else drawer_Disk_Restart.k2 x0 Q w)

def drawer_Disk_Restart (x0 : Option Addr) (x1 : Sl) (Q : World → Prop) (w : World) : Prop :=
  drawer_Disk_Crash x0 (fun  w => drawer_Disk_names x0 (fun x11_5_0 w => (Fix (σ := Int) (fun Ks s w => drawer_Disk_Restart.l7 x0 x1 x11_5_0 s Q (fun z7_13 w => Ks z7_13 w) w) 0 w)) w) w

theorem b_drawer_Disk_Restart (x0 : Option Addr) (x1 : Sl) (Q : World → Prop) (w : World) (h : drawer_Disk_Restart x0 x1 Q w) {c : Code} (hb : Try.f31.body = some c) :
 ∀ a, Rep a 72 [(0, .pointer x0), (1, Sl.val x1)] [] → c.wp Try.prog (bodyPost Try.prog Try.f31 (Rets fun v w => v = (.tuple #[] : Value) ∧ Q w)) a w := by
 intro a R
 obtain rfl := Option.some.inj hb
 unfold drawer_Disk_Restart at h
 refine wp_seq ?_
 refine wp_region_lit ?_
 refine omv R rfl rfl fun a R => ?_
 refine op_call R (rn_calls R rfl cf29) rfl ?_
 refine call_mono (s_drawer_Disk_Crash _ _ _ h) ?_
 rintro _ w49 ⟨rfl, h⟩ a R
 refine wpList_nil ?_
 refine then_normal ?_
 refine seq_join (fun a w => Rep a 72 [(0, .pointer x0)] [] ∧ drawer_Disk_Restart.k2 x0 Q w) ?_ ?_
 ·refine wp_seq ?_
  refine wp_region_lit ?_
  refine omv R rfl rfl fun a R => ?_
  refine op_call R (rn_calls R rfl cf34) rfl ?_
  refine call_mono (s_drawer_Disk_names _ _ _ h) ?_
  rintro _ w48 ⟨x11_5_0, rfl, h⟩ a R
  refine op_val R (rn_len R rfl Try.underlying91) rfl fun a R => ?_
  refine omv R rfl rfl fun a R => ?_
  refine wpList_nil ?_
  refine then_normal ?_
  refine wp_block ?_
  refine wp_fix (σ := Int) (fun s a => Rep a 72 [(0, .pointer x0), (1, Sl.val x1), (11, Sl.val x11_5_0), (12, .int .i64 ((x11_5_0.len : Nat) : Int)), (13, .int .i64 s)] []) h (R.weak ⟨rfl, rfl, rfl, rfl, rfl, trivial⟩) ?_
  rintro Ks C z7_13 a w hC R h
  have R : Rep a 72 [(0, .pointer x0), (1, Sl.val x1), (11, Sl.val x11_5_0), (12, .int .i64 ((x11_5_0.len : Nat) : Int)), (13, .int .i64 z7_13)] [] := R
  have h : drawer_Disk_Restart.l7 x0 x1 x11_5_0 z7_13 Q (fun z7_13 w => Ks z7_13 w) w := h
  generalize hK7 : (fun z7_13 w => Ks z7_13 w) = K7 at h
  unfold drawer_Disk_Restart.l7 at h
  refine wp_seq ?_
  refine wp_region_lit ?_
  refine op_val R (rn_bin (v := .bool (decide (z7_13 < ((x11_5_0.len : Nat) : Int)))) R rfl rfl rfl) rfl fun a R => ?_
  refine wpList_nil ?_
  refine then_normal ?_
  refine wp_seq ?_
  rcases ite_cases h with ⟨g9, h⟩ | ⟨g9, h⟩
  ·refine wp_condT R (congrArg (fun b => some (Value.bool b)) g9) ?_
   refine wp_skip ?_
   refine then_normal ?_
   refine wp_seq ?_
   refine wp_block ?_
   refine wp_seq ?_
   refine wp_region_lit ?_
   refine omv R rfl rfl fun a R => ?_
   obtain ⟨b10, x16_11, p10, i10, j10, e10, h⟩ := ix_e h
   refine op_val (v := .pointer (some x16_11)) R (by rw [e10]; exact rn_ixs (x := (.tmp 11)) (y := (.tmp 13)) R rfl p10 rfl Try.underlying91 sz9 i10 j10) rfl fun a R => ?_
   obtain ⟨x17_12, cx17_12, h⟩ := h
   refine old R rfl Try.underlying9 rfl cx17_12 rfl fun a R => ?_
   refine oas R rfl rfl fun a R => ?_
   refine oas R rfl rfl fun a R => ?_
   refine wpList_nil ?_
   refine then_normal ?_
   refine wp_seq ?_
   refine wp_region_lit ?_
   refine omv R rfl rfl fun a R => ?_
   obtain ⟨x19_13, cx19_13, h⟩ := h
   refine onl R rfl cx19_13 rfl fun a R => ?_
   refine ofd R rfl fd96_0 rfl fun a R => ?_
   obtain ⟨x21_14, cx21_14, h⟩ := h
   refine old R rfl Try.underlying94 rfl cx21_14 rfl fun a R => ?_
   refine omv R rfl rfl fun a R => ?_
   obtain ⟨x23_15, w16, cx23_15, h⟩ := h
   refine op_val R (rn_lookup R rfl rfl cx23_15) rfl fun a R => ?_
   refine oas R rfl rfl fun a R => ?_
   refine wpList_nil ?_
   refine then_normal ?_
   refine wp_seq ?_
   refine wp_region_lit ?_
   refine oas R rfl rfl fun a R => ?_
   refine wpList_nil ?_
   refine then_normal ?_
   refine seq_join (fun a w => ∃ y17_7 : Int, Rep a 72 [(0, .pointer x0), (1, Sl.val x1), (6, .pointer x23_15), (7, .int .i64 y17_7), (11, Sl.val x11_5_0), (12, .int .i64 ((x11_5_0.len : Nat) : Int)), (13, .int .i64 z7_13)] [] ∧ drawer_Disk_Restart.k17 x0 x1 x11_5_0 z7_13 K7 x23_15 y17_7 Q w) ?_ ?_
   ·refine wp_seq ?_
    refine wp_region_lit ?_
    refine omv R rfl rfl fun a R => ?_
    refine op_val R (rn_len R rfl Try.underlying35) rfl fun a R => ?_
    refine op_val R (rn_bin (v := .bool (decide (((x1.len : Nat) : Int) > 0))) R rfl rfl rfl) rfl fun a R => ?_
    refine wpList_nil ?_
    refine then_normal ?_
    rcases ite_cases h with ⟨g34, h⟩ | ⟨g34, h⟩
    ·refine wp_condT R (congrArg (fun b => some (Value.bool b)) g34) ?_
     refine region_start mo fun inv => ?_
     refine seg_same (n := 18) (f := 18) (g := 2) (by kernel_rfl) fun inv => ?_
     refine dr_val (i := 0) R (waits_dom (by kernel_rfl) (by kernel_rfl)) (by kernel_rfl) inv rfl (by decide) (by kernel_rfl) (by kernel_rfl) (fun _ _ _ h => h) wanted_none (fun w' hS => rn_mv R rfl) rfl (by decide) fun inv a R => ?_
     refine dr_val (i := 1) R (waits_dom (by kernel_rfl) (by kernel_rfl)) (by kernel_rfl) inv rfl (by decide) (by kernel_rfl) (by kernel_rfl) (fun _ _ _ h => h) wanted_none (fun w' hS => rn_mv R rfl) rfl (by decide) fun inv a R => ?_
     refine dr_val (i := 2) R (waits_dom (by kernel_rfl) (by kernel_rfl)) (by kernel_rfl) inv rfl (by decide) (by kernel_rfl) (by kernel_rfl) (fun _ _ _ h => h) wanted_none (fun w' hS => rn_mv R rfl) rfl (by decide) fun inv a R => ?_
     refine dr_val (i := 3) R (waits_dom (by kernel_rfl) (by kernel_rfl)) (by kernel_rfl) inv rfl (by decide) (by kernel_rfl) (by kernel_rfl) (fun _ _ _ h => h) wanted_none (fun w' hS => rn_len R rfl Try.underlying35) rfl (by decide) fun inv a R => ?_
     obtain ⟨n36, h⟩ := h
     refine dr_val (i := 4) R (waits_dom (by kernel_rfl) (by kernel_rfl)) (by kernel_rfl) inv rfl (by decide) (by kernel_rfl) (by kernel_rfl) (fun _ _ _ h => h) wanted_none (fun w' hS => rn_bin (v := .int .i64 (Int.tmod z7_13 ((x1.len : Nat) : Int))) R rfl rfl (bin_rem n36)) rfl (by decide) fun inv a R => ?_
     obtain ⟨b37, x32_38, p37, i37, j37, e37, h⟩ := ix_e h
     refine dr_val (v := .pointer (some x32_38)) (i := 5) R (waits_dom (by kernel_rfl) (by kernel_rfl)) (by kernel_rfl) inv rfl (by decide) (by kernel_rfl) (by kernel_rfl) (fun _ _ _ h => h) wanted_none (fun w' hS => by rw [e37]; exact rn_ixs (x := (.tmp 27)) (y := (.tmp 31)) R rfl p37 rfl Try.underlying35 sz3 i37 j37) rfl (by decide) fun inv a R => ?_
     obtain ⟨x33_39, cx33_39, h⟩ := h
     refine dr_val (i := 6) R (waits_dom (by kernel_rfl) (by kernel_rfl)) (by kernel_rfl) inv rfl (by decide) (by kernel_rfl) (by kernel_rfl) (fun _ _ _ h => h) wanted_none (fun w' hS => rn_ld R rfl Try.underlying3 rfl (cell_heap' hS cx33_39)) rfl (by decide) fun inv a R => ?_
     refine dr_val (i := 7) R (waits_dom (by kernel_rfl) (by kernel_rfl)) (by kernel_rfl) inv rfl (by decide) (by kernel_rfl) (by kernel_rfl) (fun _ _ _ h => h) wanted_none (fun w' hS => rn_max R rfl rfl) rfl (by decide) fun inv a R => ?_
     refine dr_val (i := 8) R (waits_dom (by kernel_rfl) (by kernel_rfl)) (by kernel_rfl) inv rfl (by decide) (by kernel_rfl) (by kernel_rfl) (fun _ _ _ h => h) wanted_none (fun w' hS => rn_mv R rfl) rfl (by decide) fun inv a R => ?_
     obtain ⟨x36_41, cx36_41, h⟩ := h
     refine dr_val (i := 9) R (waits_dom (by kernel_rfl) (by kernel_rfl)) (by kernel_rfl) inv rfl (by decide) (by kernel_rfl) (by kernel_rfl) (fun _ _ _ h => h) wanted_none (fun w' hS => rn_nil R rfl cx36_41) rfl (by decide) fun inv a R => ?_
     refine dr_val (i := 10) R (waits_dom (by kernel_rfl) (by kernel_rfl)) (by kernel_rfl) inv rfl (by decide) (by kernel_rfl) (by kernel_rfl) (fun _ _ _ h => h) wanted_none (fun w' hS => rn_fld R rfl fd98_0) rfl (by decide) fun inv a R => ?_
     obtain ⟨x38_42, cx38_42, h⟩ := h
     refine dr_val (i := 11) R (waits_dom (by kernel_rfl) (by kernel_rfl)) (by kernel_rfl) inv rfl (by decide) (by kernel_rfl) (by kernel_rfl) (fun _ _ _ h => h) wanted_none (fun w' hS => rn_ld R rfl Try.underlying34 rfl (cell_heap' hS cx38_42)) rfl (by decide) fun inv a R => ?_
     refine dr_val (i := 12) R (waits_dom (by kernel_rfl) (by kernel_rfl)) (by kernel_rfl) inv rfl (by decide) (by kernel_rfl) (by kernel_rfl) (fun _ _ _ h => h) wanted_none (fun w' hS => rn_len R rfl Try.underlying34) rfl (by decide) fun inv a R => ?_
     refine dr_val (i := 13) R (waits_dom (by kernel_rfl) (by kernel_rfl)) (by kernel_rfl) inv rfl (by decide) (by kernel_rfl) (by kernel_rfl) (fun _ _ _ h => h) wanted_none (fun w' hS => rn_mv R rfl) rfl (by decide) fun inv a R => ?_
     obtain ⟨x41_44, cx41_44, h⟩ := h
     refine dr_val (i := 14) R (waits_dom (by kernel_rfl) (by kernel_rfl)) (by kernel_rfl) inv rfl (by decide) (by kernel_rfl) (by kernel_rfl) (fun _ _ _ h => h) wanted_none (fun w' hS => rn_nil R rfl cx41_44) rfl (by decide) fun inv a R => ?_
     refine dr_val (i := 15) R (waits_dom (by kernel_rfl) (by kernel_rfl)) (by kernel_rfl) inv rfl (by decide) (by kernel_rfl) (by kernel_rfl) (fun _ _ _ h => h) wanted_none (fun w' hS => rn_fld R rfl fd98_1) rfl (by decide) fun inv a R => ?_
     obtain ⟨x43_45, cx43_45, h⟩ := h
     refine dr_val (i := 16) R (waits_dom (by kernel_rfl) (by kernel_rfl)) (by kernel_rfl) inv rfl (by decide) (by kernel_rfl) (by kernel_rfl) (fun _ _ _ h => h) wanted_none (fun w' hS => rn_ld R rfl Try.underlying3 rfl (cell_heap' hS cx43_45)) rfl (by decide) fun inv a R => ?_
     refine dr_val (i := 17) R (waits_dom (by kernel_rfl) (by kernel_rfl)) (by kernel_rfl) inv rfl (by decide) (by kernel_rfl) (by kernel_rfl) (fun _ _ _ h => h) wanted_none (fun w' hS => rn_bin (v := .int .i64 (IntKind.i64.wrap (((x38_42.len : Nat) : Int) - x43_45))) R rfl rfl rfl) rfl (by decide) fun inv a R => ?_
     refine seg_end (by kernel_rfl) ?_
     refine any_tail 18 (by kernel_rfl) ?_
     refine op_val R (rn_min R rfl rfl) rfl fun a R => ?_
     refine oas R rfl rfl fun a R => ?_
     refine wpList_nil ?_
     refine then_normal ?_
     exact ⟨(if (IntKind.i64.wrap (((x38_42.len : Nat) : Int) - x43_45)) < (if 0 > x33_39 then 0 else x33_39) then (IntKind.i64.wrap (((x38_42.len : Nat) : Int) - x43_45)) else (if 0 > x33_39 then 0 else x33_39)), R.weak ⟨rfl, rfl, rfl, rfl, rfl, rfl, rfl, trivial⟩, h⟩
    ·refine wp_condF R (congrArg (fun b => some (Value.bool b)) g34) ?_
     refine wp_skip ?_
     refine then_normal ?_
     exact ⟨0, R.weak ⟨rfl, rfl, rfl, rfl, rfl, rfl, rfl, trivial⟩, h⟩
   ·rintro a w ⟨y17_7, R, h⟩
    unfold drawer_Disk_Restart.k17 at h
    refine wp_seq ?_
    refine region_start mo fun inv => ?_
    refine seg_same (n := 12) (f := 12) (g := 3) (by kernel_rfl) fun inv => ?_
    refine dr_val (i := 0) R (waits_dom (by kernel_rfl) (by kernel_rfl)) (by kernel_rfl) inv rfl (by decide) (by kernel_rfl) (by kernel_rfl) (fun _ _ _ h => h) wanted_none (fun w' hS => rn_mv R rfl) rfl (by decide) fun inv a R => ?_
    refine dr_val (i := 1) R (waits_dom (by kernel_rfl) (by kernel_rfl)) (by kernel_rfl) inv rfl (by decide) (by kernel_rfl) (by kernel_rfl) (fun _ _ _ h => h) wanted_none (fun w' hS => rn_mv R rfl) rfl (by decide) fun inv a R => ?_
    obtain ⟨x48_18, cx48_18, h⟩ := h
    refine dr_val (i := 2) R (waits_dom (by kernel_rfl) (by kernel_rfl)) (by kernel_rfl) inv rfl (by decide) (by kernel_rfl) (by kernel_rfl) (fun _ _ _ h => h) wanted_none (fun w' hS => rn_nil R rfl cx48_18) rfl (by decide) fun inv a R => ?_
    refine dr_val (i := 3) R (waits_dom (by kernel_rfl) (by kernel_rfl)) (by kernel_rfl) inv rfl (by decide) (by kernel_rfl) (by kernel_rfl) (fun _ _ _ h => h) wanted_none (fun w' hS => rn_fld R rfl fd98_0) rfl (by decide) fun inv a R => ?_
    obtain ⟨x50_19, cx50_19, h⟩ := h
    refine dr_val (i := 4) R (waits_dom (by kernel_rfl) (by kernel_rfl)) (by kernel_rfl) inv rfl (by decide) (by kernel_rfl) (by kernel_rfl) (fun _ _ _ h => h) wanted_none (fun w' hS => rn_ld R rfl Try.underlying34 rfl (cell_heap' hS cx50_19)) rfl (by decide) fun inv a R => ?_
    refine dr_val (i := 5) R (waits_dom (by kernel_rfl) (by kernel_rfl)) (by kernel_rfl) inv rfl (by decide) (by kernel_rfl) (by kernel_rfl) (fun _ _ _ h => h) wanted_none (fun w' hS => rn_mv R rfl) rfl (by decide) fun inv a R => ?_
    obtain ⟨x52_20, cx52_20, h⟩ := h
    refine dr_val (i := 6) R (waits_dom (by kernel_rfl) (by kernel_rfl)) (by kernel_rfl) inv rfl (by decide) (by kernel_rfl) (by kernel_rfl) (fun _ _ _ h => h) wanted_none (fun w' hS => rn_nil R rfl cx52_20) rfl (by decide) fun inv a R => ?_
    refine dr_val (i := 7) R (waits_dom (by kernel_rfl) (by kernel_rfl)) (by kernel_rfl) inv rfl (by decide) (by kernel_rfl) (by kernel_rfl) (fun _ _ _ h => h) wanted_none (fun w' hS => rn_fld R rfl fd98_1) rfl (by decide) fun inv a R => ?_
    obtain ⟨x54_21, cx54_21, h⟩ := h
    refine dr_val (i := 8) R (waits_dom (by kernel_rfl) (by kernel_rfl)) (by kernel_rfl) inv rfl (by decide) (by kernel_rfl) (by kernel_rfl) (fun _ _ _ h => h) wanted_none (fun w' hS => rn_ld R rfl Try.underlying3 rfl (cell_heap' hS cx54_21)) rfl (by decide) fun inv a R => ?_
    refine dr_val (i := 9) R (waits_dom (by kernel_rfl) (by kernel_rfl)) (by kernel_rfl) inv rfl (by decide) (by kernel_rfl) (by kernel_rfl) (fun _ _ _ h => h) wanted_none (fun w' hS => rn_mv R rfl) rfl (by decide) fun inv a R => ?_
    refine dr_val (i := 10) R (waits_dom (by kernel_rfl) (by kernel_rfl)) (by kernel_rfl) inv rfl (by decide) (by kernel_rfl) (by kernel_rfl) (fun _ _ _ h => h) wanted_none (fun w' hS => rn_bin (v := .int .i64 (IntKind.i64.wrap (x54_21 + y17_7))) R rfl rfl rfl) rfl (by decide) fun inv a R => ?_
    obtain ⟨s23_0, s23_1, h⟩ := h
    refine dr_val (i := 11) R (waits_dom (by kernel_rfl) (by kernel_rfl)) (by kernel_rfl) inv rfl (by decide) (by kernel_rfl) (by kernel_rfl) (fun _ _ _ h => h) wanted_none (fun w' hS => rn_sl R rfl rfl (evo R rfl) rfl (fun w => bounds2 (lo := none) (hi := (some (.i64, (IntKind.i64.wrap (x54_21 + y17_7))))) 0 (Int.toNat (IntKind.i64.wrap (x54_21 + y17_7))) ⟨s23_0, s23_1, rfl⟩ rfl w) Try.underlying34 sz5) rfl (by decide) fun inv a R => ?_
    refine seg_end (by kernel_rfl) ?_
    refine any_tail 12 (by kernel_rfl) ?_
    obtain ⟨x58_24, cx58_24, h⟩ := h
    refine onl R rfl cx58_24 rfl fun a R => ?_
    refine ofd R rfl fd98_0 rfl fun a R => ?_
    obtain ⟨q25, f25, h⟩ := h
    refine op_unit R (rn_st R rfl rfl rfl sz34 q25 f25) fun a R => ?_
    refine wpList_nil ?_
    refine then_normal ?_
    refine wp_region_lit ?_
    refine omv R rfl rfl fun a R => ?_
    refine omv R rfl rfl fun a R => ?_
    obtain ⟨x62_26, cx62_26, h⟩ := h
    refine onl R rfl cx62_26 rfl fun a R => ?_
    refine ofd R rfl fd98_0 rfl fun a R => ?_
    obtain ⟨x64_27, cx64_27, h⟩ := h
    refine old R rfl Try.underlying34 rfl cx64_27 rfl fun a R => ?_
    refine op_val R (rn_len R rfl Try.underlying34) rfl fun a R => ?_
    obtain ⟨x66_29, cx66_29, h⟩ := h
    refine onl R rfl cx66_29 rfl fun a R => ?_
    refine ofd R rfl fd98_1 rfl fun a R => ?_
    obtain ⟨q30, f30, h⟩ := h
    refine op_unit R (rn_st R rfl rfl rfl sz3 q30 f30) fun a R => ?_
    refine wpList_nil ?_
    refine block_normal ?_
    refine then_normal ?_
    refine wp_region_lit ?_
    refine op_val R (rn_bin (v := .int .i64 (IntKind.i64.wrap (z7_13 + 1))) R rfl rfl rfl) rfl fun a R => ?_
    refine omv R rfl rfl fun a R => ?_
    refine wpList_nil ?_
    refine then_normal ?_
    exact hC (IntKind.i64.wrap (z7_13 + 1)) _ _ (R.weak ⟨rfl, rfl, rfl, rfl, rfl, trivial⟩) (by rw [← hK7] at h; exact h)
  ·refine wp_condF R (congrArg (fun b => some (Value.bool b)) g9) ?_
   refine wp_exit ?_
   refine then_exit ?_
   refine then_exit ?_
   refine block_eq ?_
   refine then_normal ?_
   exact ⟨R.weak ⟨rfl, trivial⟩, h⟩
 ·rintro a w ⟨R, h⟩
  unfold drawer_Disk_Restart.k2 at h
  refine wp_region_lit ?_
  refine omv R rfl rfl fun a R => ?_
  obtain ⟨x70_3, cx70_3, h⟩ := h
  refine onl R rfl cx70_3 rfl fun a R => ?_
  refine ofd R rfl fd96_1 rfl fun a R => ?_
  obtain ⟨q4, f4, h⟩ := h
  refine op_unit R (rn_st R rfl rfl rfl sz4 q4 f4) fun a R => ?_
  refine wpList_nil ?_
  exact post_end R rfl rfl ⟨rfl, h⟩
theorem s_drawer_Disk_Restart (x0 : Option Addr) (x1 : Sl) (Q : World → Prop) (w : World) (h : drawer_Disk_Restart x0 x1 Q w) :
    Calls Try.prog 31 #[.pointer x0, Sl.val x1] w (Rets fun v w => v = (.tuple #[] : Value) ∧ Q w) :=
  calls_body (args := [.pointer x0, Sl.val x1]) Try.func31 rfl rfl (Nat.le_of_ble_eq_true rfl) (L := [(0, .pointer x0), (1, Sl.val x1)]) (by simp [starts]) (b_drawer_Disk_Restart x0 x1 Q w h rfl)

/-! (levyroom.Room).Ints -/

def levyroom_Room_Ints.k4 (x0 : Option Addr) (x1 : Sl) (y4_5 : Sl) (Q : Sl → World → Prop) (w : World) : Prop :=
  nn x0 fun x31_5 => ld Sl.val w (x31_5.add 1) fun x33_6 => al w (.cells #[Sl.val y4_5] 35) fun x35_7 w => rn Try.prog Sl.val (Builtin.append_ #[44, 44] 44 [Sl.val x33_6, .slice (some x35_7) 1 1].toArray) w fun x36_10 w => nn x0 fun x37_11 => st w (x37_11.add 1) (Sl.val x36_10) fun w => (0 ≤ ((y4_5.len : Nat) : Int) ∧ ((y4_5.len : Nat) : Int) ≤ ((y4_5.cap : Nat) : Int) ∧ 0 ≤ ((x1.len : Nat) : Int) ∧ ((x1.len : Nat) : Int) ≤ ((y4_5.len : Nat) : Int) ∧ Q (cutSl ⟨y4_5.p, y4_5.len, y4_5.cap⟩ 1 0 (Int.toNat ((x1.len : Nat) : Int)) (Int.toNat ((y4_5.len : Nat) : Int))) w)

def levyroom_Room_Ints.l16 (x0 : Option Addr) (x1 : Sl) (z16_5 : Sl) (z16_7 : Int) (Q : Sl → World → Prop) (K16 : Sl → Int → World → Prop) (w : World) : Prop :=
  (if (decide (z16_7 < 40)) = true then al w (.cells #[.int .i64 (-7701), .int .i64 (-7702)] 3) fun x27_19 w => rn Try.prog Sl.val (Builtin.append_ #[35, 35] 35 [Sl.val z16_5, .slice (some x27_19) 2 2].toArray) w fun x28_22 w => K16 x28_22 (IntKind.i64.wrap (z16_7 + 2)) w else levyroom_Room_Ints.k4 x0 x1 z16_5 Q w)

def levyroom_Room_Ints.k3 (x0 : Option Addr) (x1 : Sl) (y3_5 : Sl) (Q : Sl → World → Prop) (w : World) : Prop :=
  (Fix (σ := Sl × Int) (fun Ks s w => levyroom_Room_Ints.l16 x0 x1 s.1 s.2 Q (fun z16_5 z16_7 w => Ks (z16_5, z16_7) w) w) (y3_5, 0) w)

def levyroom_Room_Ints.l24 (x0 : Option Addr) (x1 : Sl) (z24_5 : Sl) (z24_6 : Int) (Q : Sl → World → Prop) (K24 : Sl → Int → World → Prop) (w : World) : Prop :=
  (if (decide (z24_6 < ((x1.len : Nat) : Int))) = true then ix x1.p x1.len z24_6 1 fun x18_29 => ld (Value.int .i64) w x18_29 fun x19_30 => al w (.cells #[.int .i64 x19_30] 3) fun x20_31 w => rn Try.prog Sl.val (Builtin.append_ #[35, 35] 35 [Sl.val z24_5, .slice (some x20_31) 1 1].toArray) w fun x21_34 w => K24 x21_34 (IntKind.i64.wrap (z24_6 + 1)) w else levyroom_Room_Ints.k3 x0 x1 z24_5 Q w)

def levyroom_Room_Ints (x0 : Option Addr) (x1 : Sl) (Q : Sl → World → Prop) (w : World) : Prop :=
  al w (.cells #[] 3) fun x8_1 w => (Fix (σ := Sl × Int) (fun Ks s w => levyroom_Room_Ints.l24 x0 x1 s.1 s.2 Q (fun z24_5 z24_6 w => Ks (z24_5, z24_6) w) w) ((Sl.mk (some x8_1) 0 0), 0) w)

theorem b_levyroom_Room_Ints (x0 : Option Addr) (x1 : Sl) (Q : Sl → World → Prop) (w : World) (h : levyroom_Room_Ints x0 x1 Q w) {c : Code} (hb : Try.f32.body = some c) :
 ∀ a, Rep a 45 [(0, .pointer x0), (1, Sl.val x1)] [] → c.wp Try.prog (bodyPost Try.prog Try.f32 (Rets fun v w => ∃ r0 : Sl, v = (Sl.val r0 : Value) ∧ Q r0 w)) a w := by
 intro a R
 obtain rfl := Option.some.inj hb
 unfold levyroom_Room_Ints at h
 refine wp_seq ?_
 refine wp_region_lit ?_
 refine oas R rfl rfl fun a R => ?_
 refine wpList_nil ?_
 refine then_normal ?_
 refine wp_seq ?_
 refine wp_region_lit ?_
 obtain ⟨x8_1, e2, h⟩ := al_e h
 refine op_val (v := .slice (some x8_1) 0 0) R (by rw [e2]; exact rn_buildSlice (t := 35) (len := 0) (xs := []) (cells := #[]) (e := 3) R rfl (fun w => by kernel_rfl)) rfl fun a R => ?_
 refine oas R rfl rfl fun a R => ?_
 refine wpList_nil ?_
 refine then_normal ?_
 refine seq_join (fun a w => ∃ y3_5 : Sl, Rep a 45 [(0, .pointer x0), (1, Sl.val x1), (5, Sl.val y3_5)] [] ∧ levyroom_Room_Ints.k3 x0 x1 y3_5 Q w) ?_ ?_
 ·refine wp_seq ?_
  refine wp_region_lit ?_
  refine oas R rfl rfl fun a R => ?_
  refine wpList_nil ?_
  refine then_normal ?_
  refine wp_block ?_
  refine wp_fix (σ := Sl × Int) (fun s a => Rep a 45 [(0, .pointer x0), (1, Sl.val x1), (5, Sl.val s.1), (6, .int .i64 s.2)] []) h (R.weak ⟨rfl, rfl, rfl, rfl, trivial⟩) ?_
  rintro Ks C ⟨z24_5, z24_6⟩ a w hC R h
  have R : Rep a 45 [(0, .pointer x0), (1, Sl.val x1), (5, Sl.val z24_5), (6, .int .i64 z24_6)] [] := R
  have h : levyroom_Room_Ints.l24 x0 x1 z24_5 z24_6 Q (fun z24_5 z24_6 w => Ks (z24_5, z24_6) w) w := h
  generalize hK24 : (fun z24_5 z24_6 w => Ks (z24_5, z24_6) w) = K24 at h
  unfold levyroom_Room_Ints.l24 at h
  refine wp_seq ?_
  refine wp_seq ?_
  refine wp_region_lit ?_
  refine omv R rfl rfl fun a R => ?_
  refine omv R rfl rfl fun a R => ?_
  refine op_val R (rn_len R rfl Try.underlying35) rfl fun a R => ?_
  refine op_val R (rn_bin (v := .bool (decide (z24_6 < ((x1.len : Nat) : Int)))) R rfl rfl rfl) rfl fun a R => ?_
  refine wpList_nil ?_
  refine then_normal ?_
  rcases ite_cases h with ⟨g27, h⟩ | ⟨g27, h⟩
  ·refine wp_condT R (congrArg (fun b => some (Value.bool b)) g27) ?_
   refine wp_skip ?_
   refine then_normal ?_
   refine wp_seq ?_
   refine wp_block ?_
   refine wp_region_lit ?_
   refine omv R rfl rfl fun a R => ?_
   refine omv R rfl rfl fun a R => ?_
   refine omv R rfl rfl fun a R => ?_
   obtain ⟨b28, x18_29, p28, i28, j28, e28, h⟩ := ix_e h
   refine op_val (v := .pointer (some x18_29)) R (by rw [e28]; exact rn_ixs (x := (.tmp 16)) (y := (.tmp 17)) R rfl p28 rfl Try.underlying35 sz3 i28 j28) rfl fun a R => ?_
   obtain ⟨x19_30, cx19_30, h⟩ := h
   refine old R rfl Try.underlying3 rfl cx19_30 rfl fun a R => ?_
   obtain ⟨x20_31, e32, h⟩ := al_e h
   refine op_val (v := .slice (some x20_31) 1 1) R (by rw [e32]; exact rn_buildSlice (t := 35) (len := 1) (xs := [(0, (.tmp 19))]) (cells := #[.int .i64 x19_30]) (e := 3) R rfl (fun w => by kernel_rfl)) rfl fun a R => ?_
   obtain ⟨x21_34, w33, cx21_34, h⟩ := h
   refine op_val R (rn_bi (vs := [Sl.val z24_5, .slice (some x20_31) 1 1]) R rfl (fun _ => rfl) cx21_34) rfl fun a R => ?_
   refine oas R rfl rfl fun a R => ?_
   refine wpList_nil ?_
   refine block_normal ?_
   refine then_normal ?_
   refine wp_region_lit ?_
   refine omv R rfl rfl fun a R => ?_
   refine op_val R (rn_bin (v := .int .i64 (IntKind.i64.wrap (z24_6 + 1))) R rfl rfl rfl) rfl fun a R => ?_
   refine oas R rfl rfl fun a R => ?_
   refine wpList_nil ?_
   refine then_normal ?_
   exact hC (x21_34, (IntKind.i64.wrap (z24_6 + 1))) _ _ (R.weak ⟨rfl, rfl, rfl, rfl, trivial⟩) (by rw [← hK24] at h; exact h)
  ·refine wp_condF R (congrArg (fun b => some (Value.bool b)) g27) ?_
   refine wp_exit ?_
   refine then_exit ?_
   refine then_exit ?_
   refine block_eq ?_
   refine then_normal ?_
   exact ⟨z24_5, R.weak ⟨rfl, rfl, rfl, trivial⟩, h⟩
 ·rintro a w ⟨y3_5, R, h⟩
  unfold levyroom_Room_Ints.k3 at h
  refine seq_join (fun a w => ∃ y4_5 : Sl, Rep a 45 [(0, .pointer x0), (1, Sl.val x1), (5, Sl.val y4_5)] [] ∧ levyroom_Room_Ints.k4 x0 x1 y4_5 Q w) ?_ ?_
  ·refine wp_seq ?_
   refine wp_region_lit ?_
   refine oas R rfl rfl fun a R => ?_
   refine wpList_nil ?_
   refine then_normal ?_
   refine wp_block ?_
   refine wp_fix (σ := Sl × Int) (fun s a => Rep a 45 [(0, .pointer x0), (1, Sl.val x1), (5, Sl.val s.1), (7, .int .i64 s.2)] []) h (R.weak ⟨rfl, rfl, rfl, rfl, trivial⟩) ?_
   rintro Ks C ⟨z16_5, z16_7⟩ a w hC R h
   have R : Rep a 45 [(0, .pointer x0), (1, Sl.val x1), (5, Sl.val z16_5), (7, .int .i64 z16_7)] [] := R
   have h : levyroom_Room_Ints.l16 x0 x1 z16_5 z16_7 Q (fun z16_5 z16_7 w => Ks (z16_5, z16_7) w) w := h
   generalize hK16 : (fun z16_5 z16_7 w => Ks (z16_5, z16_7) w) = K16 at h
   unfold levyroom_Room_Ints.l16 at h
   refine wp_seq ?_
   refine wp_seq ?_
   refine wp_region_lit ?_
   refine omv R rfl rfl fun a R => ?_
   refine op_val R (rn_bin (v := .bool (decide (z16_7 < 40))) R rfl rfl rfl) rfl fun a R => ?_
   refine wpList_nil ?_
   refine then_normal ?_
   rcases ite_cases h with ⟨g18, h⟩ | ⟨g18, h⟩
   ·refine wp_condT R (congrArg (fun b => some (Value.bool b)) g18) ?_
    refine wp_skip ?_
    refine then_normal ?_
    refine wp_seq ?_
    refine wp_block ?_
    refine wp_region_lit ?_
    refine omv R rfl rfl fun a R => ?_
    obtain ⟨x27_19, e20, h⟩ := al_e h
    refine op_val (v := .slice (some x27_19) 2 2) R (by rw [e20]; exact rn_buildSlice (t := 35) (len := 2) (xs := [(0, (.const (.int .i64 (-7701)))), (1, (.const (.int .i64 (-7702))))]) (cells := #[.int .i64 (-7701), .int .i64 (-7702)]) (e := 3) R rfl (fun w => by kernel_rfl)) rfl fun a R => ?_
    obtain ⟨x28_22, w21, cx28_22, h⟩ := h
    refine op_val R (rn_bi (vs := [Sl.val z16_5, .slice (some x27_19) 2 2]) R rfl (fun _ => rfl) cx28_22) rfl fun a R => ?_
    refine oas R rfl rfl fun a R => ?_
    refine wpList_nil ?_
    refine block_normal ?_
    refine then_normal ?_
    refine wp_region_lit ?_
    refine omv R rfl rfl fun a R => ?_
    refine op_val R (rn_bin (v := .int .i64 (IntKind.i64.wrap (z16_7 + 2))) R rfl rfl rfl) rfl fun a R => ?_
    refine oas R rfl rfl fun a R => ?_
    refine wpList_nil ?_
    refine then_normal ?_
    exact hC (x28_22, (IntKind.i64.wrap (z16_7 + 2))) _ _ (R.weak ⟨rfl, rfl, rfl, rfl, trivial⟩) (by rw [← hK16] at h; exact h)
   ·refine wp_condF R (congrArg (fun b => some (Value.bool b)) g18) ?_
    refine wp_exit ?_
    refine then_exit ?_
    refine then_exit ?_
    refine block_eq ?_
    refine then_normal ?_
    exact ⟨z16_5, R.weak ⟨rfl, rfl, rfl, trivial⟩, h⟩
  ·rintro a w ⟨y4_5, R, h⟩
   unfold levyroom_Room_Ints.k4 at h
   refine wp_seq ?_
   refine wp_region_lit ?_
   refine omv R rfl rfl fun a R => ?_
   refine omv R rfl rfl fun a R => ?_
   obtain ⟨x31_5, cx31_5, h⟩ := h
   refine onl R rfl cx31_5 rfl fun a R => ?_
   refine ofd R rfl fd65_1 rfl fun a R => ?_
   obtain ⟨x33_6, cx33_6, h⟩ := h
   refine old R rfl Try.underlying44 rfl cx33_6 rfl fun a R => ?_
   refine omv R rfl rfl fun a R => ?_
   obtain ⟨x35_7, e8, h⟩ := al_e h
   refine op_val (v := .slice (some x35_7) 1 1) R (by rw [e8]; exact rn_buildSlice (t := 44) (len := 1) (xs := [(0, (.tmp 34))]) (cells := #[Sl.val y4_5]) (e := 35) R rfl (fun w => by kernel_rfl)) rfl fun a R => ?_
   obtain ⟨x36_10, w9, cx36_10, h⟩ := h
   refine op_val R (rn_bi (vs := [Sl.val x33_6, .slice (some x35_7) 1 1]) R rfl (fun _ => rfl) cx36_10) rfl fun a R => ?_
   obtain ⟨x37_11, cx37_11, h⟩ := h
   refine onl R rfl cx37_11 rfl fun a R => ?_
   refine ofd R rfl fd65_1 rfl fun a R => ?_
   obtain ⟨q12, f12, h⟩ := h
   refine op_unit R (rn_st R rfl rfl rfl sz44 q12 f12) fun a R => ?_
   refine wpList_nil ?_
   refine then_normal ?_
   refine wp_seq ?_
   refine wp_region_lit ?_
   refine omv R rfl rfl fun a R => ?_
   refine omv R rfl rfl fun a R => ?_
   refine op_val R (rn_len R rfl Try.underlying35) rfl fun a R => ?_
   refine omv R rfl rfl fun a R => ?_
   refine op_val R (rn_len R rfl Try.underlying35) rfl fun a R => ?_
   obtain ⟨ma15, mb15, ha15, hb15, h⟩ := h
   refine op_val R (rn_sl R rfl rfl (evo R rfl) (evo R rfl) (fun w => bounds3 ma15 mb15 ha15 hb15 w) Try.underlying35 sz3) rfl fun a R => ?_
   refine oas R rfl rfl fun a R => ?_
   refine wpList_nil ?_
   refine then_normal ?_
   refine wp_ret ?_
   exact post_ret R rfl rfl ⟨(cutSl ⟨y4_5.p, y4_5.len, y4_5.cap⟩ 1 0 (Int.toNat ((x1.len : Nat) : Int)) (Int.toNat ((y4_5.len : Nat) : Int))), rfl, h⟩
theorem s_levyroom_Room_Ints (x0 : Option Addr) (x1 : Sl) (Q : Sl → World → Prop) (w : World) (h : levyroom_Room_Ints x0 x1 Q w) :
    Calls Try.prog 32 #[.pointer x0, Sl.val x1] w (Rets fun v w => ∃ r0 : Sl, v = (Sl.val r0 : Value) ∧ Q r0 w) :=
  calls_body (args := [.pointer x0, Sl.val x1]) Try.func32 rfl rfl (Nat.le_of_ble_eq_true rfl) (L := [(0, .pointer x0), (1, Sl.val x1)]) (by simp [starts]) (b_levyroom_Room_Ints x0 x1 Q w h rfl)

/-! (levyref19.Disk).Restart -/

def levyref19_Disk_Restart.k2 (x0 : Option Addr) (Q : World → Prop) (w : World) : Prop :=
  nn x0 fun x72_3 => st w (x72_3.add 1) (.bool false) fun w => Q  w

def levyref19_Disk_Restart.k19 (x0 : Option Addr) (x1 : Sl) (z5_4 : Int) (K5 : Int → World → Prop) (x5_16 : Addr) (y19_6 : Int) (Q : World → Prop) (w : World) : Prop :=
  ld Sl.val w (x5_16.add 1) fun x39_21 => ld (Value.int .i64) w (x5_16.add 2) fun x42_23 => nn x0 fun x46_26 => ld Sl.val (World.drew w) (x46_26.add 0) fun x48_27 => ld Sl.val (World.drew w) (x5_16.add 1) fun x51_28 => ld (Value.int .i64) (World.drew w) (x5_16.add 2) fun x53_29 => (0 ≤ (IntKind.i64.wrap (x53_29 + (if (IntKind.i64.wrap (((x39_21.len : Nat) : Int) - x42_23)) < (if 0 > y19_6 then 0 else y19_6) then (IntKind.i64.wrap (((x39_21.len : Nat) : Int) - x42_23)) else (if 0 > y19_6 then 0 else y19_6)))) ∧ (IntKind.i64.wrap (x53_29 + (if (IntKind.i64.wrap (((x39_21.len : Nat) : Int) - x42_23)) < (if 0 > y19_6 then 0 else y19_6) then (IntKind.i64.wrap (((x39_21.len : Nat) : Int) - x42_23)) else (if 0 > y19_6 then 0 else y19_6)))) ≤ ((x51_28.cap : Nat) : Int) ∧ levyref19_copied (cutSl ⟨x51_28.p, x51_28.len, x51_28.cap⟩ 1 0 (Int.toNat (IntKind.i64.wrap (x53_29 + (if (IntKind.i64.wrap (((x39_21.len : Nat) : Int) - x42_23)) < (if 0 > y19_6 then 0 else y19_6) then (IntKind.i64.wrap (((x39_21.len : Nat) : Int) - x42_23)) else (if 0 > y19_6 then 0 else y19_6))))) x51_28.cap) (fun x57_32_0 w => ((World.cell? w (x46_26.add 0) = some (Sl.val x48_27) ∧ World.cell? w (x5_16.add 1) = some (Sl.val x51_28) ∧ World.cell? w (x5_16.add 2) = some (.int .i64 x53_29) ∧ True) ∧ ix x48_27.p x48_27.len z5_4 3 fun x58_34 => st w (x58_34.add 1) (Sl.val x57_32_0) fun w => nn x0 fun x61_36 => ld Sl.val (World.drew w) (x61_36.add 0) fun x63_37 => ld (Value.int .i64) (World.drew w) (x5_16.add 2) fun x66_38 => ix x63_37.p x63_37.len z5_4 3 fun x69_41 => st (World.drew w) (x69_41.add 2) (.int .i64 (IntKind.i64.wrap (x66_38 + (if (IntKind.i64.wrap (((x39_21.len : Nat) : Int) - x42_23)) < (if 0 > y19_6 then 0 else y19_6) then (IntKind.i64.wrap (((x39_21.len : Nat) : Int) - x42_23)) else (if 0 > y19_6 then 0 else y19_6))))) fun w => K5 (IntKind.i64.wrap (z5_4 + 1)) w)) (World.drew w))

def levyref19_Disk_Restart.l5 (x0 : Option Addr) (x1 : Sl) (z5_4 : Int) (Q : World → Prop) (K5 : Int → World → Prop) (w : World) : Prop :=
  nn x0 fun x11_6 => ld Sl.val w (x11_6.add 0) fun x13_7 => (if (decide (z5_4 < ((x13_7.len : Nat) : Int))) = true then nn x0 fun x19_11 => ld Sl.val w (x19_11.add 0) fun x21_12 => ix x21_12.p x21_12.len z5_4 3 fun x23_14 => ld Value.string w (x23_14.add 0) fun x24_15_0 => ld Sl.val w (x23_14.add 1) fun x24_15_1 => ld (Value.int .i64) w (x23_14.add 2) fun x24_15_2 => al w (.cells #[.string ⟨#[]⟩, .slice none 0 0, .int .i64 0] 74) fun x5_16 w => stN w x5_16 [.string x24_15_0, Sl.val x24_15_1, .int .i64 x24_15_2] fun w => (if (decide (((x1.len : Nat) : Int) > 0)) = true then (((x1.len : Nat) : Int) ≠ 0 ∧ ix x1.p x1.len (Int.tmod z5_4 ((x1.len : Nat) : Int)) 1 fun x33_51 => ld (Value.int .i64) w x33_51 fun x34_52 => levyref19_Disk_Restart.k19 x0 x1 z5_4 K5 x5_16 x34_52 Q w) else levyref19_Disk_Restart.k19 x0 x1 z5_4 K5 x5_16 0 Q w) else levyref19_Disk_Restart.k2 x0 Q w)

def levyref19_Disk_Restart (x0 : Option Addr) (x1 : Sl) (Q : World → Prop) (w : World) : Prop :=
  levyref19_Disk_falls x0 (fun  w => (Fix (σ := Int) (fun Ks s w => levyref19_Disk_Restart.l5 x0 x1 s Q (fun z5_4 w => Ks z5_4 w) w) 0 w)) w

theorem b_levyref19_Disk_Restart (x0 : Option Addr) (x1 : Sl) (Q : World → Prop) (w : World) (h : levyref19_Disk_Restart x0 x1 Q w) {c : Code} (hb : Try.f33.body = some c) :
 ∀ a, Rep a 74 [(0, .pointer x0), (1, Sl.val x1)] [] → c.wp Try.prog (bodyPost Try.prog Try.f33 (Rets fun v w => v = (.tuple #[] : Value) ∧ Q w)) a w := by
 intro a R
 obtain rfl := Option.some.inj hb
 unfold levyref19_Disk_Restart at h
 refine wp_seq ?_
 refine wp_region_lit ?_
 refine omv R rfl rfl fun a R => ?_
 refine op_call R (rn_calls R rfl cf72) rfl ?_
 refine call_mono (s_levyref19_Disk_falls _ _ _ h) ?_
 rintro _ w53 ⟨rfl, h⟩ a R
 refine wpList_nil ?_
 refine then_normal ?_
 refine seq_join (fun a w => Rep a 74 [(0, .pointer x0)] [] ∧ levyref19_Disk_Restart.k2 x0 Q w) ?_ ?_
 ·refine wp_seq ?_
  refine wp_region_lit ?_
  refine oas R rfl rfl fun a R => ?_
  refine wpList_nil ?_
  refine then_normal ?_
  refine wp_block ?_
  refine wp_fix (σ := Int) (fun s a => Rep a 74 [(0, .pointer x0), (1, Sl.val x1), (4, .int .i64 s)] []) h (R.weak ⟨rfl, rfl, rfl, trivial⟩) ?_
  rintro Ks C z5_4 a w hC R h
  have R : Rep a 74 [(0, .pointer x0), (1, Sl.val x1), (4, .int .i64 z5_4)] [] := R
  have h : levyref19_Disk_Restart.l5 x0 x1 z5_4 Q (fun z5_4 w => Ks z5_4 w) w := h
  generalize hK5 : (fun z5_4 w => Ks z5_4 w) = K5 at h
  unfold levyref19_Disk_Restart.l5 at h
  refine wp_seq ?_
  refine wp_seq ?_
  refine wp_region_lit ?_
  refine omv R rfl rfl fun a R => ?_
  refine omv R rfl rfl fun a R => ?_
  obtain ⟨x11_6, cx11_6, h⟩ := h
  refine onl R rfl cx11_6 rfl fun a R => ?_
  refine ofd R rfl fd100_0 rfl fun a R => ?_
  obtain ⟨x13_7, cx13_7, h⟩ := h
  refine old R rfl Try.underlying22 rfl cx13_7 rfl fun a R => ?_
  refine op_val R (rn_len R rfl Try.underlying22) rfl fun a R => ?_
  refine op_val R (rn_bin (v := .bool (decide (z5_4 < ((x13_7.len : Nat) : Int)))) R rfl rfl rfl) rfl fun a R => ?_
  refine wpList_nil ?_
  refine then_normal ?_
  rcases ite_cases h with ⟨g10, h⟩ | ⟨g10, h⟩
  ·refine wp_condT R (congrArg (fun b => some (Value.bool b)) g10) ?_
   refine wp_skip ?_
   refine then_normal ?_
   refine wp_seq ?_
   refine wp_block ?_
   refine wp_seq ?_
   refine wp_region_lit ?_
   refine omv R rfl rfl fun a R => ?_
   obtain ⟨x19_11, cx19_11, h⟩ := h
   refine onl R rfl cx19_11 rfl fun a R => ?_
   refine ofd R rfl fd100_0 rfl fun a R => ?_
   obtain ⟨x21_12, cx21_12, h⟩ := h
   refine old R rfl Try.underlying22 rfl cx21_12 rfl fun a R => ?_
   refine omv R rfl rfl fun a R => ?_
   obtain ⟨b13, x23_14, p13, i13, j13, e13, h⟩ := ix_e h
   refine op_val (v := .pointer (some x23_14)) R (by rw [e13]; exact rn_ixs (x := (.tmp 21)) (y := (.tmp 22)) R rfl p13 rfl Try.underlying22 sz74 i13 j13) rfl fun a R => ?_
   obtain ⟨x24_15_0, cx24_15_0, x24_15_1, cx24_15_1, x24_15_2, cx24_15_2, h⟩ := h
   refine op_val R (rn_ldN (cs := [.string x24_15_0, Sl.val x24_15_1, .int .i64 x24_15_2]) R rfl Try.underlying74 rfl sz74 ⟨cx24_15_0, cx24_15_1, cx24_15_2, trivial⟩) rfl fun a R => ?_
   obtain ⟨x5_16, e17, h⟩ := al_e h
   refine op_val (v := .pointer (some x5_16)) R (by rw [e17]; exact rn_al R ze74) rfl fun a R => ?_
   obtain ⟨q18, h⟩ := h
   refine op_unit R (rn_stN (vs := [.string x24_15_0, Sl.val x24_15_1, .int .i64 x24_15_2]) R rfl rfl (ao ⟨rfl, rfl, rfl, trivial⟩) sz74 q18) fun a R => ?_
   refine wpList_nil ?_
   refine then_normal ?_
   refine wp_seq ?_
   refine wp_region_lit ?_
   refine oas R rfl rfl fun a R => ?_
   refine wpList_nil ?_
   refine then_normal ?_
   refine seq_join (fun a w => ∃ y19_6 : Int, Rep a 74 [(0, .pointer x0), (1, Sl.val x1), (4, .int .i64 z5_4), (5, .pointer (some x5_16)), (6, .int .i64 y19_6)] [] ∧ levyref19_Disk_Restart.k19 x0 x1 z5_4 K5 x5_16 y19_6 Q w) ?_ ?_
   ·refine wp_seq ?_
    refine wp_region_lit ?_
    refine omv R rfl rfl fun a R => ?_
    refine op_val R (rn_len R rfl Try.underlying35) rfl fun a R => ?_
    refine op_val R (rn_bin (v := .bool (decide (((x1.len : Nat) : Int) > 0))) R rfl rfl rfl) rfl fun a R => ?_
    refine wpList_nil ?_
    refine then_normal ?_
    rcases ite_cases h with ⟨g47, h⟩ | ⟨g47, h⟩
    ·refine wp_condT R (congrArg (fun b => some (Value.bool b)) g47) ?_
     refine wp_region_lit ?_
     refine omv R rfl rfl fun a R => ?_
     refine omv R rfl rfl fun a R => ?_
     refine omv R rfl rfl fun a R => ?_
     refine op_val R (rn_len R rfl Try.underlying35) rfl fun a R => ?_
     obtain ⟨n49, h⟩ := h
     refine op_val R (rn_bin (v := .int .i64 (Int.tmod z5_4 ((x1.len : Nat) : Int))) R rfl rfl (bin_rem n49)) rfl fun a R => ?_
     obtain ⟨b50, x33_51, p50, i50, j50, e50, h⟩ := ix_e h
     refine op_val (v := .pointer (some x33_51)) R (by rw [e50]; exact rn_ixs (x := (.tmp 28)) (y := (.tmp 32)) R rfl p50 rfl Try.underlying35 sz3 i50 j50) rfl fun a R => ?_
     obtain ⟨x34_52, cx34_52, h⟩ := h
     refine old R rfl Try.underlying3 rfl cx34_52 rfl fun a R => ?_
     refine oas R rfl rfl fun a R => ?_
     refine wpList_nil ?_
     refine then_normal ?_
     exact ⟨x34_52, R.weak ⟨rfl, rfl, rfl, rfl, rfl, trivial⟩, h⟩
    ·refine wp_condF R (congrArg (fun b => some (Value.bool b)) g47) ?_
     refine wp_skip ?_
     refine then_normal ?_
     exact ⟨0, R.weak ⟨rfl, rfl, rfl, rfl, rfl, trivial⟩, h⟩
   ·rintro a w ⟨y19_6, R, h⟩
    unfold levyref19_Disk_Restart.k19 at h
    refine wp_seq ?_
    refine wp_region_lit ?_
    refine omv R rfl rfl fun a R => ?_
    refine op_val R (rn_max R rfl rfl) rfl fun a R => ?_
    refine oas R rfl rfl fun a R => ?_
    refine wpList_nil ?_
    refine then_normal ?_
    refine wp_seq ?_
    refine wp_region_lit ?_
    refine omv R rfl rfl fun a R => ?_
    refine ofd R rfl fd74_1 rfl fun a R => ?_
    obtain ⟨x39_21, cx39_21, h⟩ := h
    refine old R rfl Try.underlying34 rfl cx39_21 rfl fun a R => ?_
    refine op_val R (rn_len R rfl Try.underlying34) rfl fun a R => ?_
    refine ofd R rfl fd74_2 rfl fun a R => ?_
    obtain ⟨x42_23, cx42_23, h⟩ := h
    refine old R rfl Try.underlying3 rfl cx42_23 rfl fun a R => ?_
    refine op_val R (rn_bin (v := .int .i64 (IntKind.i64.wrap (((x39_21.len : Nat) : Int) - x42_23))) R rfl rfl rfl) rfl fun a R => ?_
    refine op_val R (rn_min R rfl rfl) rfl fun a R => ?_
    refine oas R rfl rfl fun a R => ?_
    refine wpList_nil ?_
    refine then_normal ?_
    refine wp_seq ?_
    refine region_start mo fun inv => ?_
    obtain ⟨x46_26, cx46_26, h⟩ := h
    obtain ⟨x48_27, cx48_27, h⟩ := h
    obtain ⟨x51_28, cx51_28, h⟩ := h
    obtain ⟨x53_29, cx53_29, h⟩ := h
    obtain ⟨s31_0, s31_1, h⟩ := h
    refine seg_held (n := 13) (f := 13) (g := 3) (fun w : World => w.cell? (x46_26.add 0) = some (Sl.val x48_27) ∧ w.cell? (x5_16.add 1) = some (Sl.val x51_28) ∧ w.cell? (x5_16.add 2) = some (.int .i64 x53_29) ∧ True) (by kernel_rfl) fun inv => ?_
    have hS0 : (fun w : World => w.cell? (x46_26.add 0) = some (Sl.val x48_27) ∧ w.cell? (x5_16.add 1) = some (Sl.val x51_28) ∧ w.cell? (x5_16.add 2) = some (.int .i64 x53_29) ∧ True) _ := ⟨cx48_27, cx51_28, cx53_29, trivial⟩
    refine dr_val (i := 0) R (waits_dom (by kernel_rfl) (by kernel_rfl)) (by kernel_rfl) inv rfl (by decide) (by kernel_rfl) (by kernel_rfl) (fun _ _ _ h => h) wanted_none (fun w' hS => rn_mv R rfl) hS0 rfl fun inv a R => ?_
    refine dr_val (i := 1) R (waits_dom (by kernel_rfl) (by kernel_rfl)) (by kernel_rfl) inv rfl (by decide) (by kernel_rfl) (by kernel_rfl) (fun _ _ _ h => h) wanted_none (fun w' hS => rn_nil R rfl cx46_26) hS0 rfl fun inv a R => ?_
    refine dr_val (i := 2) R (waits_dom (by kernel_rfl) (by kernel_rfl)) (by kernel_rfl) inv rfl (by decide) (by kernel_rfl) (by kernel_rfl) (fun _ _ _ h => h) wanted_none (fun w' hS => rn_fld R rfl fd100_0) hS0 rfl fun inv a R => ?_
    refine dr_val (i := 3) R (waits_dom (by kernel_rfl) (by kernel_rfl)) (by kernel_rfl) inv rfl (by decide) (by kernel_rfl) (by kernel_rfl) (fun _ _ _ h => h) wanted_none (fun w' hS => rn_ld R rfl Try.underlying22 rfl (hS.1)) hS0 rfl fun inv a R => ?_
    refine dr_val (i := 4) R (waits_dom (by kernel_rfl) (by kernel_rfl)) (by kernel_rfl) inv rfl (by decide) (by kernel_rfl) (by kernel_rfl) (fun _ _ _ h => h) wanted_none (fun w' hS => rn_mv R rfl) hS0 rfl fun inv a R => ?_
    refine dr_val (i := 5) R (waits_dom (by kernel_rfl) (by kernel_rfl)) (by kernel_rfl) inv rfl (by decide) (by kernel_rfl) (by kernel_rfl) (fun _ _ _ h => h) wanted_none (fun w' hS => rn_fld R rfl fd74_1) hS0 rfl fun inv a R => ?_
    refine dr_val (i := 6) R (waits_dom (by kernel_rfl) (by kernel_rfl)) (by kernel_rfl) inv rfl (by decide) (by kernel_rfl) (by kernel_rfl) (fun _ _ _ h => h) wanted_none (fun w' hS => rn_ld R rfl Try.underlying34 rfl (hS.2.1)) hS0 rfl fun inv a R => ?_
    refine dr_val (i := 7) R (waits_dom (by kernel_rfl) (by kernel_rfl)) (by kernel_rfl) inv rfl (by decide) (by kernel_rfl) (by kernel_rfl) (fun _ _ _ h => h) wanted_none (fun w' hS => rn_fld R rfl fd74_2) hS0 rfl fun inv a R => ?_
    refine dr_val (i := 8) R (waits_dom (by kernel_rfl) (by kernel_rfl)) (by kernel_rfl) inv rfl (by decide) (by kernel_rfl) (by kernel_rfl) (fun _ _ _ h => h) wanted_none (fun w' hS => rn_ld R rfl Try.underlying3 rfl (hS.2.2.1)) hS0 rfl fun inv a R => ?_
    refine dr_val (i := 9) R (waits_dom (by kernel_rfl) (by kernel_rfl)) (by kernel_rfl) inv rfl (by decide) (by kernel_rfl) (by kernel_rfl) (fun _ _ _ h => h) wanted_none (fun w' hS => rn_mv R rfl) hS0 rfl fun inv a R => ?_
    refine dr_val (i := 10) R (waits_dom (by kernel_rfl) (by kernel_rfl)) (by kernel_rfl) inv rfl (by decide) (by kernel_rfl) (by kernel_rfl) (fun _ _ _ h => h) wanted_none (fun w' hS => rn_bin (v := .int .i64 (IntKind.i64.wrap (x53_29 + (if (IntKind.i64.wrap (((x39_21.len : Nat) : Int) - x42_23)) < (if 0 > y19_6 then 0 else y19_6) then (IntKind.i64.wrap (((x39_21.len : Nat) : Int) - x42_23)) else (if 0 > y19_6 then 0 else y19_6))))) R rfl rfl rfl) hS0 rfl fun inv a R => ?_
    refine dr_val (i := 11) R (waits_dom (by kernel_rfl) (by kernel_rfl)) (by kernel_rfl) inv rfl (by decide) (by kernel_rfl) (by kernel_rfl) (fun _ _ _ h => h) wanted_none (fun w' hS => rn_sl R rfl rfl (evo R rfl) rfl (fun w => bounds2 (lo := none) (hi := (some (.i64, (IntKind.i64.wrap (x53_29 + (if (IntKind.i64.wrap (((x39_21.len : Nat) : Int) - x42_23)) < (if 0 > y19_6 then 0 else y19_6) then (IntKind.i64.wrap (((x39_21.len : Nat) : Int) - x42_23)) else (if 0 > y19_6 then 0 else y19_6))))))) 0 (Int.toNat (IntKind.i64.wrap (x53_29 + (if (IntKind.i64.wrap (((x39_21.len : Nat) : Int) - x42_23)) < (if 0 > y19_6 then 0 else y19_6) then (IntKind.i64.wrap (((x39_21.len : Nat) : Int) - x42_23)) else (if 0 > y19_6 then 0 else y19_6))))) ⟨s31_0, s31_1, rfl⟩ rfl w) Try.underlying34 sz5) hS0 rfl fun inv a R => ?_
    refine dr_call (i := 12) R inv rfl (by decide) (by kernel_rfl) wanted_none (rn_calls R rfl cf36) rfl ?_
    refine call_mono (s_levyref19_copied _ _ _ h) ?_
    rintro _ w44 ⟨x57_32_0, rfl, hS0, h⟩
    refine ⟨hS0, fun a inv R => ?_⟩
    refine seg_end (by kernel_rfl) ?_
    refine any_tail 13 (by kernel_rfl) ?_
    obtain ⟨b33, x58_34, p33, i33, j33, e33, h⟩ := ix_e h
    refine op_val (v := .pointer (some x58_34)) R (by rw [e33]; exact rn_ixs (x := (.tmp 48)) (y := (.tmp 49)) R rfl p33 rfl Try.underlying22 sz74 i33 j33) rfl fun a R => ?_
    refine ofd R rfl fd74_1 rfl fun a R => ?_
    obtain ⟨q35, f35, h⟩ := h
    refine op_unit R (rn_st R rfl rfl rfl sz34 q35 f35) fun a R => ?_
    refine wpList_nil ?_
    refine then_normal ?_
    refine region_start mo fun inv => ?_
    refine seg_same (n := 9) (f := 9) (g := 3) (by kernel_rfl) fun inv => ?_
    refine dr_val (i := 0) R (waits_dom (by kernel_rfl) (by kernel_rfl)) (by kernel_rfl) inv rfl (by decide) (by kernel_rfl) (by kernel_rfl) (fun _ _ _ h => h) wanted_none (fun w' hS => rn_mv R rfl) rfl (by decide) fun inv a R => ?_
    obtain ⟨x61_36, cx61_36, h⟩ := h
    refine dr_val (i := 1) R (waits_dom (by kernel_rfl) (by kernel_rfl)) (by kernel_rfl) inv rfl (by decide) (by kernel_rfl) (by kernel_rfl) (fun _ _ _ h => h) wanted_none (fun w' hS => rn_nil R rfl cx61_36) rfl (by decide) fun inv a R => ?_
    refine dr_val (i := 2) R (waits_dom (by kernel_rfl) (by kernel_rfl)) (by kernel_rfl) inv rfl (by decide) (by kernel_rfl) (by kernel_rfl) (fun _ _ _ h => h) wanted_none (fun w' hS => rn_fld R rfl fd100_0) rfl (by decide) fun inv a R => ?_
    obtain ⟨x63_37, cx63_37, h⟩ := h
    refine dr_val (i := 3) R (waits_dom (by kernel_rfl) (by kernel_rfl)) (by kernel_rfl) inv rfl (by decide) (by kernel_rfl) (by kernel_rfl) (fun _ _ _ h => h) wanted_none (fun w' hS => rn_ld R rfl Try.underlying22 rfl (cell_heap' hS cx63_37)) rfl (by decide) fun inv a R => ?_
    refine dr_val (i := 4) R (waits_dom (by kernel_rfl) (by kernel_rfl)) (by kernel_rfl) inv rfl (by decide) (by kernel_rfl) (by kernel_rfl) (fun _ _ _ h => h) wanted_none (fun w' hS => rn_mv R rfl) rfl (by decide) fun inv a R => ?_
    refine dr_val (i := 5) R (waits_dom (by kernel_rfl) (by kernel_rfl)) (by kernel_rfl) inv rfl (by decide) (by kernel_rfl) (by kernel_rfl) (fun _ _ _ h => h) wanted_none (fun w' hS => rn_fld R rfl fd74_2) rfl (by decide) fun inv a R => ?_
    obtain ⟨x66_38, cx66_38, h⟩ := h
    refine dr_val (i := 6) R (waits_dom (by kernel_rfl) (by kernel_rfl)) (by kernel_rfl) inv rfl (by decide) (by kernel_rfl) (by kernel_rfl) (fun _ _ _ h => h) wanted_none (fun w' hS => rn_ld R rfl Try.underlying3 rfl (cell_heap' hS cx66_38)) rfl (by decide) fun inv a R => ?_
    refine dr_val (i := 7) R (waits_dom (by kernel_rfl) (by kernel_rfl)) (by kernel_rfl) inv rfl (by decide) (by kernel_rfl) (by kernel_rfl) (fun _ _ _ h => h) wanted_none (fun w' hS => rn_mv R rfl) rfl (by decide) fun inv a R => ?_
    refine dr_val (i := 8) R (waits_dom (by kernel_rfl) (by kernel_rfl)) (by kernel_rfl) inv rfl (by decide) (by kernel_rfl) (by kernel_rfl) (fun _ _ _ h => h) wanted_none (fun w' hS => rn_bin (v := .int .i64 (IntKind.i64.wrap (x66_38 + (if (IntKind.i64.wrap (((x39_21.len : Nat) : Int) - x42_23)) < (if 0 > y19_6 then 0 else y19_6) then (IntKind.i64.wrap (((x39_21.len : Nat) : Int) - x42_23)) else (if 0 > y19_6 then 0 else y19_6))))) R rfl rfl rfl) rfl (by decide) fun inv a R => ?_
    refine seg_end (by kernel_rfl) ?_
    refine any_tail 9 (by kernel_rfl) ?_
    obtain ⟨b40, x69_41, p40, i40, j40, e40, h⟩ := ix_e h
    refine op_val (v := .pointer (some x69_41)) R (by rw [e40]; exact rn_ixs (x := (.tmp 63)) (y := (.tmp 64)) R rfl p40 rfl Try.underlying22 sz74 i40 j40) rfl fun a R => ?_
    refine ofd R rfl fd74_2 rfl fun a R => ?_
    obtain ⟨q42, f42, h⟩ := h
    refine op_unit R (rn_st R rfl rfl rfl sz3 q42 f42) fun a R => ?_
    refine wpList_nil ?_
    refine block_normal ?_
    refine then_normal ?_
    refine wp_region_lit ?_
    refine omv R rfl rfl fun a R => ?_
    refine op_val R (rn_bin (v := .int .i64 (IntKind.i64.wrap (z5_4 + 1))) R rfl rfl rfl) rfl fun a R => ?_
    refine oas R rfl rfl fun a R => ?_
    refine wpList_nil ?_
    refine then_normal ?_
    exact hC (IntKind.i64.wrap (z5_4 + 1)) _ _ (R.weak ⟨rfl, rfl, rfl, trivial⟩) (by rw [← hK5] at h; exact h)
  ·refine wp_condF R (congrArg (fun b => some (Value.bool b)) g10) ?_
   refine wp_exit ?_
   refine then_exit ?_
   refine then_exit ?_
   refine block_eq ?_
   refine then_normal ?_
   exact ⟨R.weak ⟨rfl, trivial⟩, h⟩
 ·rintro a w ⟨R, h⟩
  unfold levyref19_Disk_Restart.k2 at h
  refine wp_region_lit ?_
  refine omv R rfl rfl fun a R => ?_
  obtain ⟨x72_3, cx72_3, h⟩ := h
  refine onl R rfl cx72_3 rfl fun a R => ?_
  refine ofd R rfl fd100_1 rfl fun a R => ?_
  obtain ⟨q4, f4, h⟩ := h
  refine op_unit R (rn_st R rfl rfl rfl sz4 q4 f4) fun a R => ?_
  refine wpList_nil ?_
  exact post_end R rfl rfl ⟨rfl, h⟩
theorem s_levyref19_Disk_Restart (x0 : Option Addr) (x1 : Sl) (Q : World → Prop) (w : World) (h : levyref19_Disk_Restart x0 x1 Q w) :
    Calls Try.prog 33 #[.pointer x0, Sl.val x1] w (Rets fun v w => v = (.tuple #[] : Value) ∧ Q w) :=
  calls_body (args := [.pointer x0, Sl.val x1]) Try.func33 rfl rfl (Nat.le_of_ble_eq_true rfl) (L := [(0, .pointer x0), (1, Sl.val x1)]) (by simp [starts]) (b_levyref19_Disk_Restart x0 x1 Q w h rfl)

/-! (levylaw19.pair).disk -/

def levylaw19_pair_disk.k3  (Q : Bool → World → Prop) (w : World) : Prop :=
  Q true w

def levylaw19_pair_disk.k17 (y17_8 : Bool) (Q : Bool → World → Prop) (w : World) : Prop :=
  Q y17_8 w

def levylaw19_pair_disk.k18 (x0 : Option Addr) (x3_1 : Addr) (x27_10_0 : Sl) (y15_8 : Bool) (y18_81 : Bool) (Q : Bool → World → Prop) (w : World) : Prop :=
  (if y18_81 = true then nn x0 fun x83_20 => ld Value.pointer (World.drew w) (x83_20.add 0) fun x85_21 => ld Value.string (World.drew w) (x3_1.add 4) fun x87_22 => drawer_Disk_Append x85_21 x87_22 x27_10_0 (fun x89_23_0 w => nn x0 fun x92_24 => ld Value.pointer (World.drew w) (x92_24.add 2) fun x94_25 => ld Value.string (World.drew w) (x3_1.add 4) fun x96_26 => rn Try.prog Sl.val (Builtin.append_ #[34, 34] 34 [.slice none 0 0, Sl.val x27_10_0].toArray) (World.drew w) fun x98_28 w => ((World.cell? w (x92_24.add 2) = some (.pointer x94_25) ∧ World.cell? w (x3_1.add 4) = some (.string x96_26) ∧ True) ∧ levyref19_Disk_Append x94_25 x96_26 x98_28 (fun x99_29_0 w => ((World.cell? w (x92_24.add 2) = some (.pointer x94_25) ∧ World.cell? w (x3_1.add 4) = some (.string x96_26) ∧ True) ∧ levylaw19_pair_disk.k17 (x89_23_0 == x99_29_0) Q w)) w)) (World.drew w) else levylaw19_pair_disk.k17 y15_8 Q w)

def levylaw19_pair_disk.k16 (x0 : Option Addr) (x3_1 : Addr) (x27_10_0 : Sl) (y15_8 : Bool) (Q : Bool → World → Prop) (w : World) : Prop :=
  (if y15_8 = true then (if (decide (((x27_10_0.len : Nat) : Int) > 0)) = true then levylaw19_pair_disk.k18 x0 x3_1 x27_10_0 y15_8 (decide (((x27_10_0.len : Nat) : Int) ≤ 64)) Q w else levylaw19_pair_disk.k18 x0 x3_1 x27_10_0 y15_8 false Q w) else levylaw19_pair_disk.k18 x0 x3_1 x27_10_0 y15_8 false Q w)

def levylaw19_pair_disk.l39 (x0 : Option Addr) (x3_1 : Addr) (x27_10_0 : Sl) (y15_8 : Bool) (z39_9 : Int) (Q : Bool → World → Prop) (K39 : Int → World → Prop) (w : World) : Prop :=
  (if (decide (z39_9 < ((x27_10_0.len : Nat) : Int))) = true then ix x27_10_0.p x27_10_0.len z39_9 1 fun x67_44 => ld (Value.int .u8) w x67_44 fun x68_45 => ix x27_10_0.p x27_10_0.len z39_9 1 fun x70_48 => st w x70_48 (.int .u8 (IntKind.u8.wrap (x68_45 + 1))) fun w => K39 (IntKind.i64.wrap (z39_9 + 1)) w else levylaw19_pair_disk.k16 x0 x3_1 x27_10_0 y15_8 Q w)

def levylaw19_pair_disk.k15 (x0 : Option Addr) (x3_1 : Addr) (x27_10_0 : Sl) (y15_8 : Bool) (Q : Bool → World → Prop) (w : World) : Prop :=
  (Fix (σ := Int) (fun Ks s w => levylaw19_pair_disk.l39 x0 x3_1 x27_10_0 y15_8 s Q (fun z39_9 w => Ks z39_9 w) w) 0 w)

def levylaw19_pair_disk.k118 (y118_4 : Bool) (Q : Bool → World → Prop) (w : World) : Prop :=
  Q y118_4 w

def levylaw19_pair_disk (x0 : Option Addr) (x1_0 : Int) (x1_1 : Int) (x1_2 : Int) (x1_3 : Bool) (x1_4 : ByteArray) (x1_5 : Sl) (x1_6 : Sl) (x1_7 : Int) (Q : Bool → World → Prop) (w : World) : Prop :=
  al w (.cells #[.int .i64 x1_0, .int .i64 x1_1, .int .i64 x1_2, .bool x1_3, .string x1_4, Sl.val x1_5, Sl.val x1_6, .int .u32 x1_7] 38) fun x3_1 w => ld (Value.int .i64) w (x3_1.add 0) fun x19_4 => (if (x19_4 == 1) = true then al w (.cells #[.slice none 0 0, .slice none 0 0, .slice none 0 0, .slice none 0 0, .slice none 0 0, .slice none 0 0, .slice none 0 0, .slice none 0 0, .slice none 0 0, .slice none 0 0, .slice none 0 0, .slice none 0 0, .slice none 0 0, .slice none 0 0, .slice none 0 0, .slice none 0 0, .slice none 0 0, .slice none 0 0, .slice none 0 0, .slice none 0 0, .slice none 0 0] 65) fun x23_7 w => ld Sl.val w (x3_1.add 5) fun x26_9 => levyroom_Room_Bytes (some x23_7) x26_9 (fun x27_10_0 w => nn x0 fun x29_11 => ld Value.pointer (World.drew w) (x29_11.add 0) fun x31_12 => ld Value.string (World.drew w) (x3_1.add 4) fun x33_13 => drawer_Disk_Append x31_12 x33_13 x27_10_0 (fun x35_14_0 w => ld Sl.val (World.drew w) (x3_1.add 5) fun x38_51 => levylaw19_sameBytes x27_10_0 x38_51 (fun x39_52_0 w => (if x39_52_0 = true then levyroom_Room_Hold (some x23_7) (fun x42_54_0 w => (if x42_54_0 = true then nn x0 fun x47_56 => ld Value.pointer w (x47_56.add 2) fun x49_57 => ld Value.string w (x3_1.add 4) fun x51_58 => ld Sl.val w (x3_1.add 5) fun x53_59 => levyref19_Disk_Append x49_57 x51_58 x53_59 (fun x54_60_0 w => ((World.cell? w (x47_56.add 2) = some (.pointer x49_57) ∧ World.cell? w (x3_1.add 4) = some (.string x51_58) ∧ World.cell? w (x3_1.add 5) = some (Sl.val x53_59) ∧ True) ∧ levylaw19_pair_disk.k15 x0 x3_1 x27_10_0 (x35_14_0 == x54_60_0) Q w)) w else levylaw19_pair_disk.k15 x0 x3_1 x27_10_0 false Q w)) w else levylaw19_pair_disk.k15 x0 x3_1 x27_10_0 false Q w)) (World.drew w)) (World.drew w)) w else (if (x19_4 == 2) = true then nn x0 fun x105_69 => ld Value.pointer (World.drew w) (x105_69.add 0) fun x107_70 => ld Value.string (World.drew w) (x3_1.add 4) fun x109_71 => drawer_Disk_Sync x107_70 x109_71 (fun x110_72_0 w => nn x0 fun x113_73 => ld Value.pointer (World.drew w) (x113_73.add 2) fun x115_74 => ld Value.string (World.drew w) (x3_1.add 4) fun x117_75 => levyref19_Disk_Sync x115_74 x117_75 (fun x118_76_0 w => ((World.cell? w (x113_73.add 2) = some (.pointer x115_74) ∧ World.cell? w (x3_1.add 4) = some (.string x117_75) ∧ True) ∧ Q (x110_72_0 == x118_76_0) w)) (World.drew w)) (World.drew w) else (if (x19_4 == 3) = true then nn x0 fun x123_82 => ld Value.pointer (World.drew w) (x123_82.add 0) fun x125_83 => ld Value.string (World.drew w) (x3_1.add 4) fun x127_84 => ld (Value.int .i64) (World.drew w) (x3_1.add 1) fun x129_85 => drawer_Disk_Trim x125_83 x127_84 x129_85 (fun x130_86_0 w => nn x0 fun x133_87 => ld Value.pointer (World.drew w) (x133_87.add 2) fun x135_88 => ld Value.string (World.drew w) (x3_1.add 4) fun x137_89 => ld (Value.int .i64) (World.drew w) (x3_1.add 1) fun x139_90 => levyref19_Disk_Trim x135_88 x137_89 x139_90 (fun x140_91_0 w => ((World.cell? w (x133_87.add 2) = some (.pointer x135_88) ∧ World.cell? w (x3_1.add 4) = some (.string x137_89) ∧ World.cell? w (x3_1.add 1) = some (.int .i64 x139_90) ∧ True) ∧ Q (x130_86_0 == x140_91_0) w)) (World.drew w)) (World.drew w) else (if (x19_4 == 4) = true then nn x0 fun x145_97 => ld Value.pointer (World.drew w) (x145_97.add 0) fun x147_98 => ld Value.string (World.drew w) (x3_1.add 4) fun x149_99 => drawer_Disk_Remove x147_98 x149_99 (fun x150_100_0 w => nn x0 fun x153_101 => ld Value.pointer (World.drew w) (x153_101.add 2) fun x155_102 => ld Value.string (World.drew w) (x3_1.add 4) fun x157_103 => levyref19_Disk_Remove x155_102 x157_103 (fun x158_104_0 w => ((World.cell? w (x153_101.add 2) = some (.pointer x155_102) ∧ World.cell? w (x3_1.add 4) = some (.string x157_103) ∧ True) ∧ Q (x150_100_0 == x158_104_0) w)) (World.drew w)) (World.drew w) else (if (x19_4 == 5) = true then nn x0 fun x164_110 => ld Value.pointer (World.drew w) (x164_110.add 0) fun x166_111 => ld Value.string (World.drew w) (x3_1.add 4) fun x168_112 => drawer_Disk_Read x166_111 x168_112 (fun x169_113_0 x169_113_1 w => nn x0 fun x174_114 => ld Value.pointer (World.drew w) (x174_114.add 2) fun x176_115 => ld Value.string (World.drew w) (x3_1.add 4) fun x178_116 => levyref19_Disk_Read x176_115 x178_116 (fun x179_117_0 x179_117_1 w => (if (x169_113_1 == x179_117_1) = true then levylaw19_sameBytes x169_113_0 x179_117_0 (fun x188_121_0 w => levylaw19_pair_disk.k118 x188_121_0 Q w) w else levylaw19_pair_disk.k118 false Q w)) (World.drew w)) (World.drew w) else (if (x19_4 == 6) = true then nn x0 fun x193_127 => ld Value.pointer (World.drew w) (x193_127.add 0) fun x195_128 => ld (Value.int .i64) (World.drew w) (x3_1.add 1) fun x197_129 => drawer_Disk_Arm x195_128 x197_129 (fun  w => nn x0 fun x200_131 => ld Value.pointer (World.drew w) (x200_131.add 2) fun x202_132 => ld (Value.int .i64) (World.drew w) (x3_1.add 1) fun x204_133 => levyref19_Disk_Arm x202_132 x204_133 (fun  w => levylaw19_pair_disk.k3  Q w) (World.drew w)) (World.drew w) else (if (x19_4 == 7) = true then nn x0 fun x209_139 => ld Value.pointer (World.drew w) (x209_139.add 0) fun x211_140 => ld (Value.int .i64) (World.drew w) (x3_1.add 1) fun x213_141 => ld (Value.int .i64) (World.drew w) (x3_1.add 2) fun x215_142 => drawer_Disk_Fail x211_140 x213_141 x215_142 (fun  w => nn x0 fun x218_144 => ld Value.pointer (World.drew w) (x218_144.add 2) fun x220_145 => ld (Value.int .i64) (World.drew w) (x3_1.add 1) fun x222_146 => ld (Value.int .i64) (World.drew w) (x3_1.add 2) fun x224_147 => levyref19_Disk_Fail x220_145 x222_146 x224_147 (fun  w => levylaw19_pair_disk.k3  Q w) (World.drew w)) (World.drew w) else (if (x19_4 == 8) = true then nn x0 fun x229_153 => ld Value.pointer w (x229_153.add 0) fun x231_154 => drawer_Disk_Crash x231_154 (fun  w => nn x0 fun x234_156 => ld Value.pointer w (x234_156.add 2) fun x236_157 => levyref19_Disk_Crash x236_157 (fun  w => levylaw19_pair_disk.k3  Q w) w) w else (if (x19_4 == 9) = true then al w (.cells #[.slice none 0 0, .slice none 0 0, .slice none 0 0, .slice none 0 0, .slice none 0 0, .slice none 0 0, .slice none 0 0, .slice none 0 0, .slice none 0 0, .slice none 0 0, .slice none 0 0, .slice none 0 0, .slice none 0 0, .slice none 0 0, .slice none 0 0, .slice none 0 0, .slice none 0 0, .slice none 0 0, .slice none 0 0, .slice none 0 0, .slice none 0 0] 65) fun x241_163 w => nn x0 fun x243_165 => ld Value.pointer (World.drew w) (x243_165.add 0) fun x245_166 => ld Sl.val (World.drew w) (x3_1.add 6) fun x248_167 => levyroom_Room_Ints (some x241_163) x248_167 (fun x249_168_0 w => ((World.cell? w (x243_165.add 0) = some (.pointer x245_166) ∧ World.cell? w (x3_1.add 6) = some (Sl.val x248_167) ∧ True) ∧ drawer_Disk_Restart x245_166 x249_168_0 (fun  w => nn x0 fun x252_170 => ld Value.pointer (World.drew w) (x252_170.add 2) fun x254_171 => ld Sl.val (World.drew w) (x3_1.add 6) fun x256_172 => levyref19_Disk_Restart x254_171 x256_172 (fun  w => levyroom_Room_Hold (some x241_163) (fun x259_174_0 w => Q x259_174_0 w) w) (World.drew w)) w)) (World.drew w) else (if (x19_4 == 10) = true then nn x0 fun x263_181 => ld Value.pointer (World.drew w) (x263_181.add 0) fun x265_182 => nn x0 fun x268_183 => ld Value.pointer (World.drew w) (x268_183.add 2) fun x270_184 => drawer_Disk_Files x265_182 (fun x266_185_0 w => ((World.cell? w (x263_181.add 0) = some (.pointer x265_182) ∧ World.cell? w (x268_183.add 2) = some (.pointer x270_184) ∧ True) ∧ levyref19_Disk_Files x270_184 (fun x271_186_0 w => levylaw19_sameFiles x266_185_0 x271_186_0 (fun x272_187_0 w => Q x272_187_0 w) w) w)) (World.drew w) else levylaw19_pair_disk.k3  Q w))))))))))

theorem b_levylaw19_pair_disk (x0 : Option Addr) (x1_0 : Int) (x1_1 : Int) (x1_2 : Int) (x1_3 : Bool) (x1_4 : ByteArray) (x1_5 : Sl) (x1_6 : Sl) (x1_7 : Int) (Q : Bool → World → Prop) (w : World) (h : levylaw19_pair_disk x0 x1_0 x1_1 x1_2 x1_3 x1_4 x1_5 x1_6 x1_7 Q w) {c : Code} (hb : Try.f5.body = some c) :
 ∀ a, Rep a 273 [(0, .pointer x0), (1, .agg #[.int .i64 x1_0, .int .i64 x1_1, .int .i64 x1_2, .bool x1_3, .string x1_4, Sl.val x1_5, Sl.val x1_6, .int .u32 x1_7])] [] → c.wp Try.prog (bodyPost Try.prog Try.f5 (Rets fun v w => ∃ r0 : Bool, v = (.bool r0 : Value) ∧ Q r0 w)) a w := by
 intro a R
 obtain rfl := Option.some.inj hb
 unfold levylaw19_pair_disk at h
 refine wp_seq ?_
 refine wp_region_lit ?_
 obtain ⟨x3_1, e2, h⟩ := al_e h
 refine op_val (v := .pointer (some x3_1)) R (by rw [e2]; exact rn_bx (x := (.tmp 1)) (t := 38) R rfl) rfl fun a R => ?_
 refine oas R rfl rfl fun a R => ?_
 refine wpList_nil ?_
 refine then_normal ?_
 refine seq_join (fun a w => Rep a 273 [] [] ∧ levylaw19_pair_disk.k3  Q w) ?_ ?_
 ·refine wp_seq ?_
  refine wp_region_lit ?_
  refine ofd R rfl fd38_0 rfl fun a R => ?_
  obtain ⟨x19_4, cx19_4, h⟩ := h
  refine old R rfl Try.underlying3 rfl cx19_4 rfl fun a R => ?_
  refine wpList_nil ?_
  refine then_normal ?_
  refine wp_block ?_
  refine wp_seq ?_
  refine wp_region_lit ?_
  refine op_val R (rn_bin (v := .bool (x19_4 == 1)) R rfl rfl rfl) rfl fun a R => ?_
  refine oas R rfl rfl fun a R => ?_
  refine wpList_nil ?_
  refine then_normal ?_
  rcases ite_cases h with ⟨g6, h⟩ | ⟨g6, h⟩
  ·refine wp_condT R (congrArg (fun b => some (Value.bool b)) g6) ?_
   refine wp_seq ?_
   refine wp_region_lit ?_
   refine op_val R (rn_build (r := .agg #[.slice none 0 0, .slice none 0 0, .slice none 0 0, .slice none 0 0, .slice none 0 0, .slice none 0 0, .slice none 0 0, .slice none 0 0, .slice none 0 0, .slice none 0 0, .slice none 0 0, .slice none 0 0, .slice none 0 0, .slice none 0 0, .slice none 0 0, .slice none 0 0, .slice none 0 0, .slice none 0 0, .slice none 0 0, .slice none 0 0, .slice none 0 0]) R rfl (fun w => by kernel_rfl)) rfl fun a R => ?_
   obtain ⟨x23_7, e8, h⟩ := al_e h
   refine op_val (v := .pointer (some x23_7)) R (by rw [e8]; exact rn_bx (x := (.tmp 22)) (t := 65) R rfl) rfl fun a R => ?_
   refine oas R rfl rfl fun a R => ?_
   refine wpList_nil ?_
   refine then_normal ?_
   refine wp_seq ?_
   refine wp_region_lit ?_
   refine omv R rfl rfl fun a R => ?_
   refine ofd R rfl fd38_5 rfl fun a R => ?_
   obtain ⟨x26_9, cx26_9, h⟩ := h
   refine old R rfl Try.underlying34 rfl cx26_9 rfl fun a R => ?_
   refine op_call R (rn_calls R rfl cf13) rfl ?_
   refine call_mono (s_levyroom_Room_Bytes _ _ _ _ h) ?_
   rintro _ w66 ⟨x27_10_0, rfl, h⟩ a R
   refine oas R rfl rfl fun a R => ?_
   refine wpList_nil ?_
   refine then_normal ?_
   refine wp_seq ?_
   refine region_start mo fun inv => ?_
   refine seg_same (n := 7) (f := 7) (g := 2) (by kernel_rfl) fun inv => ?_
   refine dr_val (i := 0) R (waits_dom (by kernel_rfl) (by kernel_rfl)) (by kernel_rfl) inv rfl (by decide) (by kernel_rfl) (by kernel_rfl) (fun _ _ _ h => h) wanted_none (fun w' hS => rn_mv R rfl) rfl (by decide) fun inv a R => ?_
   obtain ⟨x29_11, cx29_11, h⟩ := h
   refine dr_val (i := 1) R (waits_dom (by kernel_rfl) (by kernel_rfl)) (by kernel_rfl) inv rfl (by decide) (by kernel_rfl) (by kernel_rfl) (fun _ _ _ h => h) wanted_none (fun w' hS => rn_nil R rfl cx29_11) rfl (by decide) fun inv a R => ?_
   refine dr_val (i := 2) R (waits_dom (by kernel_rfl) (by kernel_rfl)) (by kernel_rfl) inv rfl (by decide) (by kernel_rfl) (by kernel_rfl) (fun _ _ _ h => h) wanted_none (fun w' hS => rn_fld R rfl fd32_0) rfl (by decide) fun inv a R => ?_
   obtain ⟨x31_12, cx31_12, h⟩ := h
   refine dr_val (i := 3) R (waits_dom (by kernel_rfl) (by kernel_rfl)) (by kernel_rfl) inv rfl (by decide) (by kernel_rfl) (by kernel_rfl) (fun _ _ _ h => h) wanted_none (fun w' hS => rn_ld R rfl Try.underlying27 rfl (cell_heap' hS cx31_12)) rfl (by decide) fun inv a R => ?_
   refine dr_val (i := 4) R (waits_dom (by kernel_rfl) (by kernel_rfl)) (by kernel_rfl) inv rfl (by decide) (by kernel_rfl) (by kernel_rfl) (fun _ _ _ h => h) wanted_none (fun w' hS => rn_fld R rfl fd38_4) rfl (by decide) fun inv a R => ?_
   obtain ⟨x33_13, cx33_13, h⟩ := h
   refine dr_val (i := 5) R (waits_dom (by kernel_rfl) (by kernel_rfl)) (by kernel_rfl) inv rfl (by decide) (by kernel_rfl) (by kernel_rfl) (fun _ _ _ h => h) wanted_none (fun w' hS => rn_ld R rfl Try.underlying9 rfl (cell_heap' hS cx33_13)) rfl (by decide) fun inv a R => ?_
   refine dr_val (i := 6) R (waits_dom (by kernel_rfl) (by kernel_rfl)) (by kernel_rfl) inv rfl (by decide) (by kernel_rfl) (by kernel_rfl) (fun _ _ _ h => h) wanted_none (fun w' hS => rn_mv R rfl) rfl (by decide) fun inv a R => ?_
   refine seg_end (by kernel_rfl) ?_
   refine any_tail 7 (by kernel_rfl) ?_
   refine op_call R (rn_calls R rfl cf14) rfl ?_
   refine call_mono (s_drawer_Disk_Append _ _ _ _ _ h) ?_
   rintro _ w65 ⟨x35_14_0, rfl, h⟩ a R
   refine oas R rfl rfl fun a R => ?_
   refine wpList_nil ?_
   refine then_normal ?_
   refine seq_join (fun a w => ∃ y15_8 : Bool, Rep a 273 [(0, .pointer x0), (3, .pointer (some x3_1)), (6, Sl.val x27_10_0), (8, .bool y15_8)] [] ∧ levylaw19_pair_disk.k15 x0 x3_1 x27_10_0 y15_8 Q w) ?_ ?_
   ·refine region_start mo fun inv => ?_
    refine seg_same (n := 3) (f := 3) (g := 19) (by kernel_rfl) fun inv => ?_
    refine dr_val (i := 0) R (waits_dom (by kernel_rfl) (by kernel_rfl)) (by kernel_rfl) inv rfl (by decide) (by kernel_rfl) (by kernel_rfl) (fun _ _ _ h => h) wanted_none (fun w' hS => rn_mv R rfl) rfl (by decide) fun inv a R => ?_
    refine dr_val (i := 1) R (waits_dom (by kernel_rfl) (by kernel_rfl)) (by kernel_rfl) inv rfl (by decide) (by kernel_rfl) (by kernel_rfl) (fun _ _ _ h => h) wanted_none (fun w' hS => rn_fld R rfl fd38_5) rfl (by decide) fun inv a R => ?_
    obtain ⟨x38_51, cx38_51, h⟩ := h
    refine dr_val (i := 2) R (waits_dom (by kernel_rfl) (by kernel_rfl)) (by kernel_rfl) inv rfl (by decide) (by kernel_rfl) (by kernel_rfl) (fun _ _ _ h => h) wanted_none (fun w' hS => rn_ld R rfl Try.underlying34 rfl (cell_heap' hS cx38_51)) rfl (by decide) fun inv a R => ?_
    refine seg_end (by kernel_rfl) ?_
    refine any_call (i := 3) R rfl (by kernel_rfl) wanted_none (rn_calls R rfl cf15) rfl ?_
    refine call_mono (s_levylaw19_sameBytes _ _ _ _ h) ?_
    rintro _ w64 ⟨x39_52_0, rfl, h⟩ a R
    refine any_val (i := 4) R rfl (by kernel_rfl) wanted_none (rn_mv R rfl) rfl fun a R => ?_
    rcases ite_cases h with ⟨g53, h⟩ | ⟨g53, h⟩
    ·refine any_val (i := 5) R rfl (by kernel_rfl) (wanted_yes R rfl rfl rfl g53) (rn_mv R rfl) rfl fun a R => ?_
     refine any_call (i := 6) R rfl (by kernel_rfl) (wanted_yes R rfl rfl rfl g53) (rn_calls R rfl cf12) rfl ?_
     refine call_mono (s_levyroom_Room_Hold _ _ _ h) ?_
     rintro _ w63 ⟨x42_54_0, rfl, h⟩ a R
     refine any_val (i := 7) R rfl (by kernel_rfl) wanted_none (rn_pickT R rfl g53 rfl) rfl fun a R => ?_
     refine any_val (i := 8) R rfl (by kernel_rfl) wanted_none (rn_mv R rfl) rfl fun a R => ?_
     rcases ite_cases h with ⟨g55, h⟩ | ⟨g55, h⟩
     ·obtain ⟨x47_56, cx47_56, h⟩ := h
      obtain ⟨x49_57, cx49_57, h⟩ := h
      obtain ⟨x51_58, cx51_58, h⟩ := h
      obtain ⟨x53_59, cx53_59, h⟩ := h
      refine seg_held (n := 19) (f := 10) (g := 3) (fun w : World => w.cell? (x47_56.add 2) = some (.pointer x49_57) ∧ w.cell? (x3_1.add 4) = some (.string x51_58) ∧ w.cell? (x3_1.add 5) = some (Sl.val x53_59) ∧ True) (by kernel_rfl) fun inv => ?_
      have hS0 : (fun w : World => w.cell? (x47_56.add 2) = some (.pointer x49_57) ∧ w.cell? (x3_1.add 4) = some (.string x51_58) ∧ w.cell? (x3_1.add 5) = some (Sl.val x53_59) ∧ True) _ := ⟨cx49_57, cx51_58, cx53_59, trivial⟩
      refine dr_val (i := 9) R (waits_dom (by kernel_rfl) (by kernel_rfl)) (by kernel_rfl) inv rfl (by decide) (by kernel_rfl) (by kernel_rfl) (fun _ _ _ h => h) (wanted_yes R rfl rfl rfl g55) (fun w' hS => rn_mv R rfl) hS0 rfl fun inv a R => ?_
      refine dr_val (i := 10) R (waits_dom (by kernel_rfl) (by kernel_rfl)) (by kernel_rfl) inv rfl (by decide) (by kernel_rfl) (by kernel_rfl) (fun _ _ _ h => h) (wanted_yes R rfl rfl rfl g55) (fun w' hS => rn_mv R rfl) hS0 rfl fun inv a R => ?_
      refine dr_val (i := 11) R (waits_dom (by kernel_rfl) (by kernel_rfl)) (by kernel_rfl) inv rfl (by decide) (by kernel_rfl) (by kernel_rfl) (fun _ _ _ h => h) (wanted_yes R rfl rfl rfl g55) (fun w' hS => rn_nil R rfl cx47_56) hS0 rfl fun inv a R => ?_
      refine dr_val (i := 12) R (waits_dom (by kernel_rfl) (by kernel_rfl)) (by kernel_rfl) inv rfl (by decide) (by kernel_rfl) (by kernel_rfl) (fun _ _ _ h => h) (wanted_yes R rfl rfl rfl g55) (fun w' hS => rn_fld R rfl fd32_2) hS0 rfl fun inv a R => ?_
      refine dr_val (i := 13) R (waits_dom (by kernel_rfl) (by kernel_rfl)) (by kernel_rfl) inv rfl (by decide) (by kernel_rfl) (by kernel_rfl) (fun _ _ _ h => h) (wanted_yes R rfl rfl rfl g55) (fun w' hS => rn_ld R rfl Try.underlying29 rfl (hS.1)) hS0 rfl fun inv a R => ?_
      refine dr_val (i := 14) R (waits_dom (by kernel_rfl) (by kernel_rfl)) (by kernel_rfl) inv rfl (by decide) (by kernel_rfl) (by kernel_rfl) (fun _ _ _ h => h) (wanted_yes R rfl rfl rfl g55) (fun w' hS => rn_fld R rfl fd38_4) hS0 rfl fun inv a R => ?_
      refine dr_val (i := 15) R (waits_dom (by kernel_rfl) (by kernel_rfl)) (by kernel_rfl) inv rfl (by decide) (by kernel_rfl) (by kernel_rfl) (fun _ _ _ h => h) (wanted_yes R rfl rfl rfl g55) (fun w' hS => rn_ld R rfl Try.underlying9 rfl (hS.2.1)) hS0 rfl fun inv a R => ?_
      refine dr_val (i := 16) R (waits_dom (by kernel_rfl) (by kernel_rfl)) (by kernel_rfl) inv rfl (by decide) (by kernel_rfl) (by kernel_rfl) (fun _ _ _ h => h) (wanted_yes R rfl rfl rfl g55) (fun w' hS => rn_fld R rfl fd38_5) hS0 rfl fun inv a R => ?_
      refine dr_val (i := 17) R (waits_dom (by kernel_rfl) (by kernel_rfl)) (by kernel_rfl) inv rfl (by decide) (by kernel_rfl) (by kernel_rfl) (fun _ _ _ h => h) (wanted_yes R rfl rfl rfl g55) (fun w' hS => rn_ld R rfl Try.underlying34 rfl (hS.2.2.1)) hS0 rfl fun inv a R => ?_
      refine dr_call (i := 18) R inv rfl (by decide) (by kernel_rfl) (wanted_yes R rfl rfl rfl g55) (rn_calls R rfl cf16) rfl ?_
      refine call_mono (s_levyref19_Disk_Append _ _ _ _ _ h) ?_
      rintro _ w62 ⟨x54_60_0, rfl, hS0, h⟩
      refine ⟨hS0, fun a inv R => ?_⟩
      refine seg_end (by kernel_rfl) ?_
      refine any_tail 19 (by kernel_rfl) ?_
      refine op_guard R rfl rfl rfl g55 ?_
      refine op_val R (rn_bin (v := .bool (x35_14_0 == x54_60_0)) R rfl rfl rfl) rfl fun a R => ?_
      refine op_val R (rn_pickT R rfl g55 rfl) rfl fun a R => ?_
      refine oas R rfl rfl fun a R => ?_
      refine wpList_nil ?_
      refine then_normal ?_
      exact ⟨(x35_14_0 == x54_60_0), R.weak ⟨rfl, rfl, rfl, rfl, trivial⟩, h⟩
     ·refine seg_held (n := 19) (f := 10) (g := 3) (fun w : World => True) (by kernel_rfl) fun inv => ?_
      have hS0 : True := trivial
      refine dr_pass (i := 9) R (waits_dom (by kernel_rfl) (by kernel_rfl)) (by kernel_rfl) inv rfl (by decide) (by kernel_rfl) (by kernel_rfl) (fun _ _ _ h => h) (wanted_no R rfl rfl rfl (ntf g55)) hS0 rfl fun inv a R => ?_
      refine dr_pass (i := 10) R (waits_dom (by kernel_rfl) (by kernel_rfl)) (by kernel_rfl) inv rfl (by decide) (by kernel_rfl) (by kernel_rfl) (fun _ _ _ h => h) (wanted_no R rfl rfl rfl (ntf g55)) hS0 rfl fun inv a R => ?_
      refine dr_pass (i := 11) R (waits_dom (by kernel_rfl) (by kernel_rfl)) (by kernel_rfl) inv rfl (by decide) (by kernel_rfl) (by kernel_rfl) (fun _ _ _ h => h) (wanted_no R rfl rfl rfl (ntf g55)) hS0 rfl fun inv a R => ?_
      refine dr_pass (i := 12) R (waits_dom (by kernel_rfl) (by kernel_rfl)) (by kernel_rfl) inv rfl (by decide) (by kernel_rfl) (by kernel_rfl) (fun _ _ _ h => h) (wanted_no R rfl rfl rfl (ntf g55)) hS0 rfl fun inv a R => ?_
      refine dr_pass (i := 13) R (waits_dom (by kernel_rfl) (by kernel_rfl)) (by kernel_rfl) inv rfl (by decide) (by kernel_rfl) (by kernel_rfl) (fun _ _ _ h => h) (wanted_no R rfl rfl rfl (ntf g55)) hS0 rfl fun inv a R => ?_
      refine dr_pass (i := 14) R (waits_dom (by kernel_rfl) (by kernel_rfl)) (by kernel_rfl) inv rfl (by decide) (by kernel_rfl) (by kernel_rfl) (fun _ _ _ h => h) (wanted_no R rfl rfl rfl (ntf g55)) hS0 rfl fun inv a R => ?_
      refine dr_pass (i := 15) R (waits_dom (by kernel_rfl) (by kernel_rfl)) (by kernel_rfl) inv rfl (by decide) (by kernel_rfl) (by kernel_rfl) (fun _ _ _ h => h) (wanted_no R rfl rfl rfl (ntf g55)) hS0 rfl fun inv a R => ?_
      refine dr_pass (i := 16) R (waits_dom (by kernel_rfl) (by kernel_rfl)) (by kernel_rfl) inv rfl (by decide) (by kernel_rfl) (by kernel_rfl) (fun _ _ _ h => h) (wanted_no R rfl rfl rfl (ntf g55)) hS0 rfl fun inv a R => ?_
      refine dr_pass (i := 17) R (waits_dom (by kernel_rfl) (by kernel_rfl)) (by kernel_rfl) inv rfl (by decide) (by kernel_rfl) (by kernel_rfl) (fun _ _ _ h => h) (wanted_no R rfl rfl rfl (ntf g55)) hS0 rfl fun inv a R => ?_
      refine dr_pass (i := 18) R (waits_dom (by kernel_rfl) (by kernel_rfl)) (by kernel_rfl) inv rfl (by decide) (by kernel_rfl) (by kernel_rfl) (fun _ _ _ h => h) (wanted_no R rfl rfl rfl (ntf g55)) hS0 rfl fun inv a R => ?_
      refine seg_end (by kernel_rfl) ?_
      refine any_tail 19 (by kernel_rfl) ?_
      refine op_pass R rfl rfl rfl (ntf g55) (fun a R => ?_) (by intro s hs; cases hs; rfl)
      refine op_val R (rn_pickF R rfl g55 rfl) rfl fun a R => ?_
      refine oas R rfl rfl fun a R => ?_
      refine wpList_nil ?_
      refine then_normal ?_
      exact ⟨false, R.weak ⟨rfl, rfl, rfl, rfl, trivial⟩, h⟩
    ·refine any_pass (i := 5) R rfl (by kernel_rfl) (wanted_no R rfl rfl rfl (ntf g53)) rfl fun a R => ?_
     refine any_pass (i := 6) R rfl (by kernel_rfl) (wanted_no R rfl rfl rfl (ntf g53)) rfl fun a R => ?_
     refine any_val (i := 7) R rfl (by kernel_rfl) wanted_none (rn_pickF R rfl g53 rfl) rfl fun a R => ?_
     refine any_val (i := 8) R rfl (by kernel_rfl) wanted_none (rn_mv R rfl) rfl fun a R => ?_
     refine seg_held (n := 19) (f := 10) (g := 3) (fun w : World => True) (by kernel_rfl) fun inv => ?_
     have hS0 : True := trivial
     refine dr_pass (i := 9) R (waits_dom (by kernel_rfl) (by kernel_rfl)) (by kernel_rfl) inv rfl (by decide) (by kernel_rfl) (by kernel_rfl) (fun _ _ _ h => h) (wanted_no R rfl rfl rfl (ntf rfl)) hS0 rfl fun inv a R => ?_
     refine dr_pass (i := 10) R (waits_dom (by kernel_rfl) (by kernel_rfl)) (by kernel_rfl) inv rfl (by decide) (by kernel_rfl) (by kernel_rfl) (fun _ _ _ h => h) (wanted_no R rfl rfl rfl (ntf rfl)) hS0 rfl fun inv a R => ?_
     refine dr_pass (i := 11) R (waits_dom (by kernel_rfl) (by kernel_rfl)) (by kernel_rfl) inv rfl (by decide) (by kernel_rfl) (by kernel_rfl) (fun _ _ _ h => h) (wanted_no R rfl rfl rfl (ntf rfl)) hS0 rfl fun inv a R => ?_
     refine dr_pass (i := 12) R (waits_dom (by kernel_rfl) (by kernel_rfl)) (by kernel_rfl) inv rfl (by decide) (by kernel_rfl) (by kernel_rfl) (fun _ _ _ h => h) (wanted_no R rfl rfl rfl (ntf rfl)) hS0 rfl fun inv a R => ?_
     refine dr_pass (i := 13) R (waits_dom (by kernel_rfl) (by kernel_rfl)) (by kernel_rfl) inv rfl (by decide) (by kernel_rfl) (by kernel_rfl) (fun _ _ _ h => h) (wanted_no R rfl rfl rfl (ntf rfl)) hS0 rfl fun inv a R => ?_
     refine dr_pass (i := 14) R (waits_dom (by kernel_rfl) (by kernel_rfl)) (by kernel_rfl) inv rfl (by decide) (by kernel_rfl) (by kernel_rfl) (fun _ _ _ h => h) (wanted_no R rfl rfl rfl (ntf rfl)) hS0 rfl fun inv a R => ?_
     refine dr_pass (i := 15) R (waits_dom (by kernel_rfl) (by kernel_rfl)) (by kernel_rfl) inv rfl (by decide) (by kernel_rfl) (by kernel_rfl) (fun _ _ _ h => h) (wanted_no R rfl rfl rfl (ntf rfl)) hS0 rfl fun inv a R => ?_
     refine dr_pass (i := 16) R (waits_dom (by kernel_rfl) (by kernel_rfl)) (by kernel_rfl) inv rfl (by decide) (by kernel_rfl) (by kernel_rfl) (fun _ _ _ h => h) (wanted_no R rfl rfl rfl (ntf rfl)) hS0 rfl fun inv a R => ?_
     refine dr_pass (i := 17) R (waits_dom (by kernel_rfl) (by kernel_rfl)) (by kernel_rfl) inv rfl (by decide) (by kernel_rfl) (by kernel_rfl) (fun _ _ _ h => h) (wanted_no R rfl rfl rfl (ntf rfl)) hS0 rfl fun inv a R => ?_
     refine dr_pass (i := 18) R (waits_dom (by kernel_rfl) (by kernel_rfl)) (by kernel_rfl) inv rfl (by decide) (by kernel_rfl) (by kernel_rfl) (fun _ _ _ h => h) (wanted_no R rfl rfl rfl (ntf rfl)) hS0 rfl fun inv a R => ?_
     refine seg_end (by kernel_rfl) ?_
     refine any_tail 19 (by kernel_rfl) ?_
     refine op_pass R rfl rfl rfl (ntf rfl) (fun a R => ?_) (by intro s hs; cases hs; rfl)
     refine op_val R (rn_pickF R rfl rfl rfl) rfl fun a R => ?_
     refine oas R rfl rfl fun a R => ?_
     refine wpList_nil ?_
     refine then_normal ?_
     exact ⟨false, R.weak ⟨rfl, rfl, rfl, rfl, trivial⟩, h⟩
   ·rintro a w ⟨y15_8, R, h⟩
    unfold levylaw19_pair_disk.k15 at h
    refine seq_join (fun a w => Rep a 273 [(0, .pointer x0), (3, .pointer (some x3_1)), (6, Sl.val x27_10_0), (8, .bool y15_8)] [] ∧ levylaw19_pair_disk.k16 x0 x3_1 x27_10_0 y15_8 Q w) ?_ ?_
    ·refine wp_seq ?_
     refine wp_region_lit ?_
     refine oas R rfl rfl fun a R => ?_
     refine wpList_nil ?_
     refine then_normal ?_
     refine wp_block ?_
     refine wp_fix (σ := Int) (fun s a => Rep a 273 [(0, .pointer x0), (3, .pointer (some x3_1)), (6, Sl.val x27_10_0), (8, .bool y15_8), (9, .int .i64 s)] []) h (R.weak ⟨rfl, rfl, rfl, rfl, rfl, trivial⟩) ?_
     rintro Ks C z39_9 a w hC R h
     have R : Rep a 273 [(0, .pointer x0), (3, .pointer (some x3_1)), (6, Sl.val x27_10_0), (8, .bool y15_8), (9, .int .i64 z39_9)] [] := R
     have h : levylaw19_pair_disk.l39 x0 x3_1 x27_10_0 y15_8 z39_9 Q (fun z39_9 w => Ks z39_9 w) w := h
     generalize hK39 : (fun z39_9 w => Ks z39_9 w) = K39 at h
     unfold levylaw19_pair_disk.l39 at h
     refine wp_seq ?_
     refine wp_seq ?_
     refine wp_region_lit ?_
     refine omv R rfl rfl fun a R => ?_
     refine omv R rfl rfl fun a R => ?_
     refine op_val R (rn_len R rfl Try.underlying34) rfl fun a R => ?_
     refine op_val R (rn_bin (v := .bool (decide (z39_9 < ((x27_10_0.len : Nat) : Int)))) R rfl rfl rfl) rfl fun a R => ?_
     refine wpList_nil ?_
     refine then_normal ?_
     rcases ite_cases h with ⟨g42, h⟩ | ⟨g42, h⟩
     ·refine wp_condT R (congrArg (fun b => some (Value.bool b)) g42) ?_
      refine wp_skip ?_
      refine then_normal ?_
      refine wp_seq ?_
      refine wp_block ?_
      refine wp_region_lit ?_
      refine omv R rfl rfl fun a R => ?_
      refine omv R rfl rfl fun a R => ?_
      refine omv R rfl rfl fun a R => ?_
      refine omv R rfl rfl fun a R => ?_
      obtain ⟨b43, x67_44, p43, i43, j43, e43, h⟩ := ix_e h
      refine op_val (v := .pointer (some x67_44)) R (by rw [e43]; exact rn_ixs (x := (.tmp 65)) (y := (.tmp 66)) R rfl p43 rfl Try.underlying34 sz5 i43 j43) rfl fun a R => ?_
      obtain ⟨x68_45, cx68_45, h⟩ := h
      refine old R rfl Try.underlying5 rfl cx68_45 rfl fun a R => ?_
      refine op_val R (rn_bin (v := .int .u8 (IntKind.u8.wrap (x68_45 + 1))) R rfl rfl rfl) rfl fun a R => ?_
      obtain ⟨b47, x70_48, p47, i47, j47, e47, h⟩ := ix_e h
      refine op_val (v := .pointer (some x70_48)) R (by rw [e47]; exact rn_ixs (x := (.tmp 63)) (y := (.tmp 64)) R rfl p47 rfl Try.underlying34 sz5 i47 j47) rfl fun a R => ?_
      obtain ⟨q49, f49, h⟩ := h
      refine op_unit R (rn_st R rfl rfl rfl sz5 q49 f49) fun a R => ?_
      refine wpList_nil ?_
      refine block_normal ?_
      refine then_normal ?_
      refine wp_region_lit ?_
      refine omv R rfl rfl fun a R => ?_
      refine op_val R (rn_bin (v := .int .i64 (IntKind.i64.wrap (z39_9 + 1))) R rfl rfl rfl) rfl fun a R => ?_
      refine oas R rfl rfl fun a R => ?_
      refine wpList_nil ?_
      refine then_normal ?_
      exact hC (IntKind.i64.wrap (z39_9 + 1)) _ _ (R.weak ⟨rfl, rfl, rfl, rfl, rfl, trivial⟩) (by rw [← hK39] at h; exact h)
     ·refine wp_condF R (congrArg (fun b => some (Value.bool b)) g42) ?_
      refine wp_exit ?_
      refine then_exit ?_
      refine then_exit ?_
      refine block_eq ?_
      refine then_normal ?_
      exact ⟨R.weak ⟨rfl, rfl, rfl, rfl, trivial⟩, h⟩
    ·rintro a w ⟨R, h⟩
     unfold levylaw19_pair_disk.k16 at h
     refine seq_join (fun a w => ∃ y17_8 : Bool, Rep a 273 [(8, .bool y17_8)] [] ∧ levylaw19_pair_disk.k17 y17_8 Q w) ?_ ?_
     ·refine seq_join (fun a w => ∃ y18_81 : Bool, Rep a 273 [(0, .pointer x0), (3, .pointer (some x3_1)), (6, Sl.val x27_10_0), (8, .bool y15_8), (81, .bool y18_81)] [] ∧ levylaw19_pair_disk.k18 x0 x3_1 x27_10_0 y15_8 y18_81 Q w) ?_ ?_
      ·refine wp_region_lit ?_
       refine omv R rfl rfl fun a R => ?_
       refine omv R rfl rfl fun a R => ?_
       rcases ite_cases h with ⟨g33, h⟩ | ⟨g33, h⟩
       ·refine op_guard R rfl rfl rfl g33 ?_
        refine omv R rfl rfl fun a R => ?_
        refine op_guard R rfl rfl rfl g33 ?_
        refine op_val R (rn_len R rfl Try.underlying34) rfl fun a R => ?_
        refine op_guard R rfl rfl rfl g33 ?_
        refine op_val R (rn_bin (v := .bool (decide (((x27_10_0.len : Nat) : Int) > 0))) R rfl rfl rfl) rfl fun a R => ?_
        refine op_val R (rn_pickT R rfl g33 rfl) rfl fun a R => ?_
        refine omv R rfl rfl fun a R => ?_
        rcases ite_cases h with ⟨g36, h⟩ | ⟨g36, h⟩
        ·refine op_guard R rfl rfl rfl g36 ?_
         refine omv R rfl rfl fun a R => ?_
         refine op_guard R rfl rfl rfl g36 ?_
         refine op_val R (rn_len R rfl Try.underlying34) rfl fun a R => ?_
         refine op_guard R rfl rfl rfl g36 ?_
         refine op_val R (rn_bin (v := .bool (decide (((x27_10_0.len : Nat) : Int) ≤ 64))) R rfl rfl rfl) rfl fun a R => ?_
         refine op_val R (rn_pickT R rfl g36 rfl) rfl fun a R => ?_
         refine wpList_nil ?_
         refine then_normal ?_
         exact ⟨(decide (((x27_10_0.len : Nat) : Int) ≤ 64)), R.weak ⟨rfl, rfl, rfl, rfl, rfl, trivial⟩, h⟩
        ·refine op_pass R rfl rfl rfl (ntf g36) (fun a R => ?_) (by intro s hs; cases hs; rfl)
         refine op_pass R rfl rfl rfl (ntf g36) (fun a R => ?_) (by intro s hs; cases hs; rfl)
         refine op_pass R rfl rfl rfl (ntf g36) (fun a R => ?_) (by intro s hs; cases hs; rfl)
         refine op_val R (rn_pickF R rfl g36 rfl) rfl fun a R => ?_
         refine wpList_nil ?_
         refine then_normal ?_
         exact ⟨false, R.weak ⟨rfl, rfl, rfl, rfl, rfl, trivial⟩, h⟩
       ·refine op_pass R rfl rfl rfl (ntf g33) (fun a R => ?_) (by intro s hs; cases hs; rfl)
        refine op_pass R rfl rfl rfl (ntf g33) (fun a R => ?_) (by intro s hs; cases hs; rfl)
        refine op_pass R rfl rfl rfl (ntf g33) (fun a R => ?_) (by intro s hs; cases hs; rfl)
        refine op_val R (rn_pickF R rfl g33 rfl) rfl fun a R => ?_
        refine omv R rfl rfl fun a R => ?_
        refine op_pass R rfl rfl rfl (ntf rfl) (fun a R => ?_) (by intro s hs; cases hs; rfl)
        refine op_pass R rfl rfl rfl (ntf rfl) (fun a R => ?_) (by intro s hs; cases hs; rfl)
        refine op_pass R rfl rfl rfl (ntf rfl) (fun a R => ?_) (by intro s hs; cases hs; rfl)
        refine op_val R (rn_pickF R rfl rfl rfl) rfl fun a R => ?_
        refine wpList_nil ?_
        refine then_normal ?_
        exact ⟨false, R.weak ⟨rfl, rfl, rfl, rfl, rfl, trivial⟩, h⟩
      ·rintro a w ⟨y18_81, R, h⟩
       unfold levylaw19_pair_disk.k18 at h
       rcases ite_cases h with ⟨g19, h⟩ | ⟨g19, h⟩
       ·refine wp_condT R (congrArg (fun b => some (Value.bool b)) g19) ?_
        refine wp_seq ?_
        refine region_start mo fun inv => ?_
        refine seg_same (n := 7) (f := 7) (g := 2) (by kernel_rfl) fun inv => ?_
        refine dr_val (i := 0) R (waits_dom (by kernel_rfl) (by kernel_rfl)) (by kernel_rfl) inv rfl (by decide) (by kernel_rfl) (by kernel_rfl) (fun _ _ _ h => h) wanted_none (fun w' hS => rn_mv R rfl) rfl (by decide) fun inv a R => ?_
        obtain ⟨x83_20, cx83_20, h⟩ := h
        refine dr_val (i := 1) R (waits_dom (by kernel_rfl) (by kernel_rfl)) (by kernel_rfl) inv rfl (by decide) (by kernel_rfl) (by kernel_rfl) (fun _ _ _ h => h) wanted_none (fun w' hS => rn_nil R rfl cx83_20) rfl (by decide) fun inv a R => ?_
        refine dr_val (i := 2) R (waits_dom (by kernel_rfl) (by kernel_rfl)) (by kernel_rfl) inv rfl (by decide) (by kernel_rfl) (by kernel_rfl) (fun _ _ _ h => h) wanted_none (fun w' hS => rn_fld R rfl fd32_0) rfl (by decide) fun inv a R => ?_
        obtain ⟨x85_21, cx85_21, h⟩ := h
        refine dr_val (i := 3) R (waits_dom (by kernel_rfl) (by kernel_rfl)) (by kernel_rfl) inv rfl (by decide) (by kernel_rfl) (by kernel_rfl) (fun _ _ _ h => h) wanted_none (fun w' hS => rn_ld R rfl Try.underlying27 rfl (cell_heap' hS cx85_21)) rfl (by decide) fun inv a R => ?_
        refine dr_val (i := 4) R (waits_dom (by kernel_rfl) (by kernel_rfl)) (by kernel_rfl) inv rfl (by decide) (by kernel_rfl) (by kernel_rfl) (fun _ _ _ h => h) wanted_none (fun w' hS => rn_fld R rfl fd38_4) rfl (by decide) fun inv a R => ?_
        obtain ⟨x87_22, cx87_22, h⟩ := h
        refine dr_val (i := 5) R (waits_dom (by kernel_rfl) (by kernel_rfl)) (by kernel_rfl) inv rfl (by decide) (by kernel_rfl) (by kernel_rfl) (fun _ _ _ h => h) wanted_none (fun w' hS => rn_ld R rfl Try.underlying9 rfl (cell_heap' hS cx87_22)) rfl (by decide) fun inv a R => ?_
        refine dr_val (i := 6) R (waits_dom (by kernel_rfl) (by kernel_rfl)) (by kernel_rfl) inv rfl (by decide) (by kernel_rfl) (by kernel_rfl) (fun _ _ _ h => h) wanted_none (fun w' hS => rn_mv R rfl) rfl (by decide) fun inv a R => ?_
        refine seg_end (by kernel_rfl) ?_
        refine any_tail 7 (by kernel_rfl) ?_
        refine op_call R (rn_calls R rfl cf14) rfl ?_
        refine call_mono (s_drawer_Disk_Append _ _ _ _ _ h) ?_
        rintro _ w32 ⟨x89_23_0, rfl, h⟩ a R
        refine oas R rfl rfl fun a R => ?_
        refine wpList_nil ?_
        refine then_normal ?_
        refine region_start mo fun inv => ?_
        obtain ⟨x92_24, cx92_24, h⟩ := h
        obtain ⟨x94_25, cx94_25, h⟩ := h
        obtain ⟨x96_26, cx96_26, h⟩ := h
        refine seg_held (n := 10) (f := 10) (g := 2) (fun w : World => w.cell? (x92_24.add 2) = some (.pointer x94_25) ∧ w.cell? (x3_1.add 4) = some (.string x96_26) ∧ True) (by kernel_rfl) fun inv => ?_
        have hS0 : (fun w : World => w.cell? (x92_24.add 2) = some (.pointer x94_25) ∧ w.cell? (x3_1.add 4) = some (.string x96_26) ∧ True) _ := ⟨cx94_25, cx96_26, trivial⟩
        refine dr_val (i := 0) R (waits_dom (by kernel_rfl) (by kernel_rfl)) (by kernel_rfl) inv rfl (by decide) (by kernel_rfl) (by kernel_rfl) (fun _ _ _ h => h) wanted_none (fun w' hS => rn_mv R rfl) hS0 rfl fun inv a R => ?_
        refine dr_val (i := 1) R (waits_dom (by kernel_rfl) (by kernel_rfl)) (by kernel_rfl) inv rfl (by decide) (by kernel_rfl) (by kernel_rfl) (fun _ _ _ h => h) wanted_none (fun w' hS => rn_mv R rfl) hS0 rfl fun inv a R => ?_
        refine dr_val (i := 2) R (waits_dom (by kernel_rfl) (by kernel_rfl)) (by kernel_rfl) inv rfl (by decide) (by kernel_rfl) (by kernel_rfl) (fun _ _ _ h => h) wanted_none (fun w' hS => rn_nil R rfl cx92_24) hS0 rfl fun inv a R => ?_
        refine dr_val (i := 3) R (waits_dom (by kernel_rfl) (by kernel_rfl)) (by kernel_rfl) inv rfl (by decide) (by kernel_rfl) (by kernel_rfl) (fun _ _ _ h => h) wanted_none (fun w' hS => rn_fld R rfl fd32_2) hS0 rfl fun inv a R => ?_
        refine dr_val (i := 4) R (waits_dom (by kernel_rfl) (by kernel_rfl)) (by kernel_rfl) inv rfl (by decide) (by kernel_rfl) (by kernel_rfl) (fun _ _ _ h => h) wanted_none (fun w' hS => rn_ld R rfl Try.underlying29 rfl (hS.1)) hS0 rfl fun inv a R => ?_
        refine dr_val (i := 5) R (waits_dom (by kernel_rfl) (by kernel_rfl)) (by kernel_rfl) inv rfl (by decide) (by kernel_rfl) (by kernel_rfl) (fun _ _ _ h => h) wanted_none (fun w' hS => rn_fld R rfl fd38_4) hS0 rfl fun inv a R => ?_
        refine dr_val (i := 6) R (waits_dom (by kernel_rfl) (by kernel_rfl)) (by kernel_rfl) inv rfl (by decide) (by kernel_rfl) (by kernel_rfl) (fun _ _ _ h => h) wanted_none (fun w' hS => rn_ld R rfl Try.underlying9 rfl (hS.2.1)) hS0 rfl fun inv a R => ?_
        refine dr_val (i := 7) R (waits_dom (by kernel_rfl) (by kernel_rfl)) (by kernel_rfl) inv rfl (by decide) (by kernel_rfl) (by kernel_rfl) (fun _ _ _ h => h) wanted_none (fun w' hS => rn_mv R rfl) hS0 rfl fun inv a R => ?_
        obtain ⟨x98_28, w27, cx98_28, h⟩ := h
        obtain ⟨hS0, h⟩ := h
        refine dr_run (i := 8) R inv rfl (by decide) (by kernel_rfl) wanted_none (rn_bi (vs := [.slice none 0 0, Sl.val x27_10_0]) R rfl (fun _ => rfl) cx98_28) hS0 rfl fun inv a R => ?_
        refine dr_call (i := 9) R inv rfl (by decide) (by kernel_rfl) wanted_none (rn_calls R rfl cf16) rfl ?_
        refine call_mono (s_levyref19_Disk_Append _ _ _ _ _ h) ?_
        rintro _ w31 ⟨x99_29_0, rfl, hS0, h⟩
        refine ⟨hS0, fun a inv R => ?_⟩
        refine seg_end (by kernel_rfl) ?_
        refine any_tail 10 (by kernel_rfl) ?_
        refine op_val R (rn_bin (v := .bool (x89_23_0 == x99_29_0)) R rfl rfl rfl) rfl fun a R => ?_
        refine oas R rfl rfl fun a R => ?_
        refine wpList_nil ?_
        refine then_normal ?_
        exact ⟨(x89_23_0 == x99_29_0), R.weak ⟨rfl, trivial⟩, h⟩
       ·refine wp_condF R (congrArg (fun b => some (Value.bool b)) g19) ?_
        refine wp_skip ?_
        refine then_normal ?_
        exact ⟨y15_8, R.weak ⟨rfl, trivial⟩, h⟩
     ·rintro a w ⟨y17_8, R, h⟩
      unfold levylaw19_pair_disk.k17 at h
      refine wp_seq ?_
      refine wp_region_lit ?_
      refine omv R rfl rfl fun a R => ?_
      refine oas R rfl rfl fun a R => ?_
      refine wpList_nil ?_
      refine then_normal ?_
      refine wp_ret ?_
      refine block_ret ?_
      refine then_ret ?_
      exact post_ret R rfl rfl ⟨y17_8, rfl, h⟩
  ·refine wp_condF R (congrArg (fun b => some (Value.bool b)) g6) ?_
   refine wp_seq ?_
   refine wp_region_lit ?_
   refine op_val R (rn_bin (v := .bool (x19_4 == 2)) R rfl rfl rfl) rfl fun a R => ?_
   refine oas R rfl rfl fun a R => ?_
   refine wpList_nil ?_
   refine then_normal ?_
   rcases ite_cases h with ⟨g68, h⟩ | ⟨g68, h⟩
   ·refine wp_condT R (congrArg (fun b => some (Value.bool b)) g68) ?_
    refine wp_seq ?_
    refine region_start mo fun inv => ?_
    refine seg_same (n := 6) (f := 6) (g := 2) (by kernel_rfl) fun inv => ?_
    refine dr_val (i := 0) R (waits_dom (by kernel_rfl) (by kernel_rfl)) (by kernel_rfl) inv rfl (by decide) (by kernel_rfl) (by kernel_rfl) (fun _ _ _ h => h) wanted_none (fun w' hS => rn_mv R rfl) rfl (by decide) fun inv a R => ?_
    obtain ⟨x105_69, cx105_69, h⟩ := h
    refine dr_val (i := 1) R (waits_dom (by kernel_rfl) (by kernel_rfl)) (by kernel_rfl) inv rfl (by decide) (by kernel_rfl) (by kernel_rfl) (fun _ _ _ h => h) wanted_none (fun w' hS => rn_nil R rfl cx105_69) rfl (by decide) fun inv a R => ?_
    refine dr_val (i := 2) R (waits_dom (by kernel_rfl) (by kernel_rfl)) (by kernel_rfl) inv rfl (by decide) (by kernel_rfl) (by kernel_rfl) (fun _ _ _ h => h) wanted_none (fun w' hS => rn_fld R rfl fd32_0) rfl (by decide) fun inv a R => ?_
    obtain ⟨x107_70, cx107_70, h⟩ := h
    refine dr_val (i := 3) R (waits_dom (by kernel_rfl) (by kernel_rfl)) (by kernel_rfl) inv rfl (by decide) (by kernel_rfl) (by kernel_rfl) (fun _ _ _ h => h) wanted_none (fun w' hS => rn_ld R rfl Try.underlying27 rfl (cell_heap' hS cx107_70)) rfl (by decide) fun inv a R => ?_
    refine dr_val (i := 4) R (waits_dom (by kernel_rfl) (by kernel_rfl)) (by kernel_rfl) inv rfl (by decide) (by kernel_rfl) (by kernel_rfl) (fun _ _ _ h => h) wanted_none (fun w' hS => rn_fld R rfl fd38_4) rfl (by decide) fun inv a R => ?_
    obtain ⟨x109_71, cx109_71, h⟩ := h
    refine dr_val (i := 5) R (waits_dom (by kernel_rfl) (by kernel_rfl)) (by kernel_rfl) inv rfl (by decide) (by kernel_rfl) (by kernel_rfl) (fun _ _ _ h => h) wanted_none (fun w' hS => rn_ld R rfl Try.underlying9 rfl (cell_heap' hS cx109_71)) rfl (by decide) fun inv a R => ?_
    refine seg_end (by kernel_rfl) ?_
    refine any_tail 6 (by kernel_rfl) ?_
    refine op_call R (rn_calls R rfl cf17) rfl ?_
    refine call_mono (s_drawer_Disk_Sync _ _ _ _ h) ?_
    rintro _ w79 ⟨x110_72_0, rfl, h⟩ a R
    refine oas R rfl rfl fun a R => ?_
    refine wpList_nil ?_
    refine then_normal ?_
    refine wp_seq ?_
    refine region_start mo fun inv => ?_
    obtain ⟨x113_73, cx113_73, h⟩ := h
    obtain ⟨x115_74, cx115_74, h⟩ := h
    obtain ⟨x117_75, cx117_75, h⟩ := h
    refine seg_held (n := 8) (f := 8) (g := 2) (fun w : World => w.cell? (x113_73.add 2) = some (.pointer x115_74) ∧ w.cell? (x3_1.add 4) = some (.string x117_75) ∧ True) (by kernel_rfl) fun inv => ?_
    have hS0 : (fun w : World => w.cell? (x113_73.add 2) = some (.pointer x115_74) ∧ w.cell? (x3_1.add 4) = some (.string x117_75) ∧ True) _ := ⟨cx115_74, cx117_75, trivial⟩
    refine dr_val (i := 0) R (waits_dom (by kernel_rfl) (by kernel_rfl)) (by kernel_rfl) inv rfl (by decide) (by kernel_rfl) (by kernel_rfl) (fun _ _ _ h => h) wanted_none (fun w' hS => rn_mv R rfl) hS0 rfl fun inv a R => ?_
    refine dr_val (i := 1) R (waits_dom (by kernel_rfl) (by kernel_rfl)) (by kernel_rfl) inv rfl (by decide) (by kernel_rfl) (by kernel_rfl) (fun _ _ _ h => h) wanted_none (fun w' hS => rn_mv R rfl) hS0 rfl fun inv a R => ?_
    refine dr_val (i := 2) R (waits_dom (by kernel_rfl) (by kernel_rfl)) (by kernel_rfl) inv rfl (by decide) (by kernel_rfl) (by kernel_rfl) (fun _ _ _ h => h) wanted_none (fun w' hS => rn_nil R rfl cx113_73) hS0 rfl fun inv a R => ?_
    refine dr_val (i := 3) R (waits_dom (by kernel_rfl) (by kernel_rfl)) (by kernel_rfl) inv rfl (by decide) (by kernel_rfl) (by kernel_rfl) (fun _ _ _ h => h) wanted_none (fun w' hS => rn_fld R rfl fd32_2) hS0 rfl fun inv a R => ?_
    refine dr_val (i := 4) R (waits_dom (by kernel_rfl) (by kernel_rfl)) (by kernel_rfl) inv rfl (by decide) (by kernel_rfl) (by kernel_rfl) (fun _ _ _ h => h) wanted_none (fun w' hS => rn_ld R rfl Try.underlying29 rfl (hS.1)) hS0 rfl fun inv a R => ?_
    refine dr_val (i := 5) R (waits_dom (by kernel_rfl) (by kernel_rfl)) (by kernel_rfl) inv rfl (by decide) (by kernel_rfl) (by kernel_rfl) (fun _ _ _ h => h) wanted_none (fun w' hS => rn_fld R rfl fd38_4) hS0 rfl fun inv a R => ?_
    refine dr_val (i := 6) R (waits_dom (by kernel_rfl) (by kernel_rfl)) (by kernel_rfl) inv rfl (by decide) (by kernel_rfl) (by kernel_rfl) (fun _ _ _ h => h) wanted_none (fun w' hS => rn_ld R rfl Try.underlying9 rfl (hS.2.1)) hS0 rfl fun inv a R => ?_
    refine dr_call (i := 7) R inv rfl (by decide) (by kernel_rfl) wanted_none (rn_calls R rfl cf18) rfl ?_
    refine call_mono (s_levyref19_Disk_Sync _ _ _ _ h) ?_
    rintro _ w78 ⟨x118_76_0, rfl, hS0, h⟩
    refine ⟨hS0, fun a inv R => ?_⟩
    refine seg_end (by kernel_rfl) ?_
    refine any_tail 8 (by kernel_rfl) ?_
    refine op_val R (rn_bin (v := .bool (x110_72_0 == x118_76_0)) R rfl rfl rfl) rfl fun a R => ?_
    refine oas R rfl rfl fun a R => ?_
    refine wpList_nil ?_
    refine then_normal ?_
    refine wp_ret ?_
    refine block_ret ?_
    refine then_ret ?_
    exact post_ret R rfl rfl ⟨(x110_72_0 == x118_76_0), rfl, h⟩
   ·refine wp_condF R (congrArg (fun b => some (Value.bool b)) g68) ?_
    refine wp_seq ?_
    refine wp_region_lit ?_
    refine op_val R (rn_bin (v := .bool (x19_4 == 3)) R rfl rfl rfl) rfl fun a R => ?_
    refine oas R rfl rfl fun a R => ?_
    refine wpList_nil ?_
    refine then_normal ?_
    rcases ite_cases h with ⟨g81, h⟩ | ⟨g81, h⟩
    ·refine wp_condT R (congrArg (fun b => some (Value.bool b)) g81) ?_
     refine wp_seq ?_
     refine region_start mo fun inv => ?_
     refine seg_same (n := 8) (f := 8) (g := 2) (by kernel_rfl) fun inv => ?_
     refine dr_val (i := 0) R (waits_dom (by kernel_rfl) (by kernel_rfl)) (by kernel_rfl) inv rfl (by decide) (by kernel_rfl) (by kernel_rfl) (fun _ _ _ h => h) wanted_none (fun w' hS => rn_mv R rfl) rfl (by decide) fun inv a R => ?_
     obtain ⟨x123_82, cx123_82, h⟩ := h
     refine dr_val (i := 1) R (waits_dom (by kernel_rfl) (by kernel_rfl)) (by kernel_rfl) inv rfl (by decide) (by kernel_rfl) (by kernel_rfl) (fun _ _ _ h => h) wanted_none (fun w' hS => rn_nil R rfl cx123_82) rfl (by decide) fun inv a R => ?_
     refine dr_val (i := 2) R (waits_dom (by kernel_rfl) (by kernel_rfl)) (by kernel_rfl) inv rfl (by decide) (by kernel_rfl) (by kernel_rfl) (fun _ _ _ h => h) wanted_none (fun w' hS => rn_fld R rfl fd32_0) rfl (by decide) fun inv a R => ?_
     obtain ⟨x125_83, cx125_83, h⟩ := h
     refine dr_val (i := 3) R (waits_dom (by kernel_rfl) (by kernel_rfl)) (by kernel_rfl) inv rfl (by decide) (by kernel_rfl) (by kernel_rfl) (fun _ _ _ h => h) wanted_none (fun w' hS => rn_ld R rfl Try.underlying27 rfl (cell_heap' hS cx125_83)) rfl (by decide) fun inv a R => ?_
     refine dr_val (i := 4) R (waits_dom (by kernel_rfl) (by kernel_rfl)) (by kernel_rfl) inv rfl (by decide) (by kernel_rfl) (by kernel_rfl) (fun _ _ _ h => h) wanted_none (fun w' hS => rn_fld R rfl fd38_4) rfl (by decide) fun inv a R => ?_
     obtain ⟨x127_84, cx127_84, h⟩ := h
     refine dr_val (i := 5) R (waits_dom (by kernel_rfl) (by kernel_rfl)) (by kernel_rfl) inv rfl (by decide) (by kernel_rfl) (by kernel_rfl) (fun _ _ _ h => h) wanted_none (fun w' hS => rn_ld R rfl Try.underlying9 rfl (cell_heap' hS cx127_84)) rfl (by decide) fun inv a R => ?_
     refine dr_val (i := 6) R (waits_dom (by kernel_rfl) (by kernel_rfl)) (by kernel_rfl) inv rfl (by decide) (by kernel_rfl) (by kernel_rfl) (fun _ _ _ h => h) wanted_none (fun w' hS => rn_fld R rfl fd38_1) rfl (by decide) fun inv a R => ?_
     obtain ⟨x129_85, cx129_85, h⟩ := h
     refine dr_val (i := 7) R (waits_dom (by kernel_rfl) (by kernel_rfl)) (by kernel_rfl) inv rfl (by decide) (by kernel_rfl) (by kernel_rfl) (fun _ _ _ h => h) wanted_none (fun w' hS => rn_ld R rfl Try.underlying3 rfl (cell_heap' hS cx129_85)) rfl (by decide) fun inv a R => ?_
     refine seg_end (by kernel_rfl) ?_
     refine any_tail 8 (by kernel_rfl) ?_
     refine op_call R (rn_calls R rfl cf19) rfl ?_
     refine call_mono (s_drawer_Disk_Trim _ _ _ _ _ h) ?_
     rintro _ w94 ⟨x130_86_0, rfl, h⟩ a R
     refine oas R rfl rfl fun a R => ?_
     refine wpList_nil ?_
     refine then_normal ?_
     refine wp_seq ?_
     refine region_start mo fun inv => ?_
     obtain ⟨x133_87, cx133_87, h⟩ := h
     obtain ⟨x135_88, cx135_88, h⟩ := h
     obtain ⟨x137_89, cx137_89, h⟩ := h
     obtain ⟨x139_90, cx139_90, h⟩ := h
     refine seg_held (n := 10) (f := 10) (g := 2) (fun w : World => w.cell? (x133_87.add 2) = some (.pointer x135_88) ∧ w.cell? (x3_1.add 4) = some (.string x137_89) ∧ w.cell? (x3_1.add 1) = some (.int .i64 x139_90) ∧ True) (by kernel_rfl) fun inv => ?_
     have hS0 : (fun w : World => w.cell? (x133_87.add 2) = some (.pointer x135_88) ∧ w.cell? (x3_1.add 4) = some (.string x137_89) ∧ w.cell? (x3_1.add 1) = some (.int .i64 x139_90) ∧ True) _ := ⟨cx135_88, cx137_89, cx139_90, trivial⟩
     refine dr_val (i := 0) R (waits_dom (by kernel_rfl) (by kernel_rfl)) (by kernel_rfl) inv rfl (by decide) (by kernel_rfl) (by kernel_rfl) (fun _ _ _ h => h) wanted_none (fun w' hS => rn_mv R rfl) hS0 rfl fun inv a R => ?_
     refine dr_val (i := 1) R (waits_dom (by kernel_rfl) (by kernel_rfl)) (by kernel_rfl) inv rfl (by decide) (by kernel_rfl) (by kernel_rfl) (fun _ _ _ h => h) wanted_none (fun w' hS => rn_mv R rfl) hS0 rfl fun inv a R => ?_
     refine dr_val (i := 2) R (waits_dom (by kernel_rfl) (by kernel_rfl)) (by kernel_rfl) inv rfl (by decide) (by kernel_rfl) (by kernel_rfl) (fun _ _ _ h => h) wanted_none (fun w' hS => rn_nil R rfl cx133_87) hS0 rfl fun inv a R => ?_
     refine dr_val (i := 3) R (waits_dom (by kernel_rfl) (by kernel_rfl)) (by kernel_rfl) inv rfl (by decide) (by kernel_rfl) (by kernel_rfl) (fun _ _ _ h => h) wanted_none (fun w' hS => rn_fld R rfl fd32_2) hS0 rfl fun inv a R => ?_
     refine dr_val (i := 4) R (waits_dom (by kernel_rfl) (by kernel_rfl)) (by kernel_rfl) inv rfl (by decide) (by kernel_rfl) (by kernel_rfl) (fun _ _ _ h => h) wanted_none (fun w' hS => rn_ld R rfl Try.underlying29 rfl (hS.1)) hS0 rfl fun inv a R => ?_
     refine dr_val (i := 5) R (waits_dom (by kernel_rfl) (by kernel_rfl)) (by kernel_rfl) inv rfl (by decide) (by kernel_rfl) (by kernel_rfl) (fun _ _ _ h => h) wanted_none (fun w' hS => rn_fld R rfl fd38_4) hS0 rfl fun inv a R => ?_
     refine dr_val (i := 6) R (waits_dom (by kernel_rfl) (by kernel_rfl)) (by kernel_rfl) inv rfl (by decide) (by kernel_rfl) (by kernel_rfl) (fun _ _ _ h => h) wanted_none (fun w' hS => rn_ld R rfl Try.underlying9 rfl (hS.2.1)) hS0 rfl fun inv a R => ?_
     refine dr_val (i := 7) R (waits_dom (by kernel_rfl) (by kernel_rfl)) (by kernel_rfl) inv rfl (by decide) (by kernel_rfl) (by kernel_rfl) (fun _ _ _ h => h) wanted_none (fun w' hS => rn_fld R rfl fd38_1) hS0 rfl fun inv a R => ?_
     refine dr_val (i := 8) R (waits_dom (by kernel_rfl) (by kernel_rfl)) (by kernel_rfl) inv rfl (by decide) (by kernel_rfl) (by kernel_rfl) (fun _ _ _ h => h) wanted_none (fun w' hS => rn_ld R rfl Try.underlying3 rfl (hS.2.2.1)) hS0 rfl fun inv a R => ?_
     refine dr_call (i := 9) R inv rfl (by decide) (by kernel_rfl) wanted_none (rn_calls R rfl cf20) rfl ?_
     refine call_mono (s_levyref19_Disk_Trim _ _ _ _ _ h) ?_
     rintro _ w93 ⟨x140_91_0, rfl, hS0, h⟩
     refine ⟨hS0, fun a inv R => ?_⟩
     refine seg_end (by kernel_rfl) ?_
     refine any_tail 10 (by kernel_rfl) ?_
     refine op_val R (rn_bin (v := .bool (x130_86_0 == x140_91_0)) R rfl rfl rfl) rfl fun a R => ?_
     refine oas R rfl rfl fun a R => ?_
     refine wpList_nil ?_
     refine then_normal ?_
     refine wp_ret ?_
     refine block_ret ?_
     refine then_ret ?_
     exact post_ret R rfl rfl ⟨(x130_86_0 == x140_91_0), rfl, h⟩
    ·refine wp_condF R (congrArg (fun b => some (Value.bool b)) g81) ?_
     refine wp_seq ?_
     refine wp_region_lit ?_
     refine op_val R (rn_bin (v := .bool (x19_4 == 4)) R rfl rfl rfl) rfl fun a R => ?_
     refine oas R rfl rfl fun a R => ?_
     refine wpList_nil ?_
     refine then_normal ?_
     rcases ite_cases h with ⟨g96, h⟩ | ⟨g96, h⟩
     ·refine wp_condT R (congrArg (fun b => some (Value.bool b)) g96) ?_
      refine wp_seq ?_
      refine region_start mo fun inv => ?_
      refine seg_same (n := 6) (f := 6) (g := 2) (by kernel_rfl) fun inv => ?_
      refine dr_val (i := 0) R (waits_dom (by kernel_rfl) (by kernel_rfl)) (by kernel_rfl) inv rfl (by decide) (by kernel_rfl) (by kernel_rfl) (fun _ _ _ h => h) wanted_none (fun w' hS => rn_mv R rfl) rfl (by decide) fun inv a R => ?_
      obtain ⟨x145_97, cx145_97, h⟩ := h
      refine dr_val (i := 1) R (waits_dom (by kernel_rfl) (by kernel_rfl)) (by kernel_rfl) inv rfl (by decide) (by kernel_rfl) (by kernel_rfl) (fun _ _ _ h => h) wanted_none (fun w' hS => rn_nil R rfl cx145_97) rfl (by decide) fun inv a R => ?_
      refine dr_val (i := 2) R (waits_dom (by kernel_rfl) (by kernel_rfl)) (by kernel_rfl) inv rfl (by decide) (by kernel_rfl) (by kernel_rfl) (fun _ _ _ h => h) wanted_none (fun w' hS => rn_fld R rfl fd32_0) rfl (by decide) fun inv a R => ?_
      obtain ⟨x147_98, cx147_98, h⟩ := h
      refine dr_val (i := 3) R (waits_dom (by kernel_rfl) (by kernel_rfl)) (by kernel_rfl) inv rfl (by decide) (by kernel_rfl) (by kernel_rfl) (fun _ _ _ h => h) wanted_none (fun w' hS => rn_ld R rfl Try.underlying27 rfl (cell_heap' hS cx147_98)) rfl (by decide) fun inv a R => ?_
      refine dr_val (i := 4) R (waits_dom (by kernel_rfl) (by kernel_rfl)) (by kernel_rfl) inv rfl (by decide) (by kernel_rfl) (by kernel_rfl) (fun _ _ _ h => h) wanted_none (fun w' hS => rn_fld R rfl fd38_4) rfl (by decide) fun inv a R => ?_
      obtain ⟨x149_99, cx149_99, h⟩ := h
      refine dr_val (i := 5) R (waits_dom (by kernel_rfl) (by kernel_rfl)) (by kernel_rfl) inv rfl (by decide) (by kernel_rfl) (by kernel_rfl) (fun _ _ _ h => h) wanted_none (fun w' hS => rn_ld R rfl Try.underlying9 rfl (cell_heap' hS cx149_99)) rfl (by decide) fun inv a R => ?_
      refine seg_end (by kernel_rfl) ?_
      refine any_tail 6 (by kernel_rfl) ?_
      refine op_call R (rn_calls R rfl cf21) rfl ?_
      refine call_mono (s_drawer_Disk_Remove _ _ _ _ h) ?_
      rintro _ w107 ⟨x150_100_0, rfl, h⟩ a R
      refine oas R rfl rfl fun a R => ?_
      refine wpList_nil ?_
      refine then_normal ?_
      refine wp_seq ?_
      refine region_start mo fun inv => ?_
      obtain ⟨x153_101, cx153_101, h⟩ := h
      obtain ⟨x155_102, cx155_102, h⟩ := h
      obtain ⟨x157_103, cx157_103, h⟩ := h
      refine seg_held (n := 8) (f := 8) (g := 2) (fun w : World => w.cell? (x153_101.add 2) = some (.pointer x155_102) ∧ w.cell? (x3_1.add 4) = some (.string x157_103) ∧ True) (by kernel_rfl) fun inv => ?_
      have hS0 : (fun w : World => w.cell? (x153_101.add 2) = some (.pointer x155_102) ∧ w.cell? (x3_1.add 4) = some (.string x157_103) ∧ True) _ := ⟨cx155_102, cx157_103, trivial⟩
      refine dr_val (i := 0) R (waits_dom (by kernel_rfl) (by kernel_rfl)) (by kernel_rfl) inv rfl (by decide) (by kernel_rfl) (by kernel_rfl) (fun _ _ _ h => h) wanted_none (fun w' hS => rn_mv R rfl) hS0 rfl fun inv a R => ?_
      refine dr_val (i := 1) R (waits_dom (by kernel_rfl) (by kernel_rfl)) (by kernel_rfl) inv rfl (by decide) (by kernel_rfl) (by kernel_rfl) (fun _ _ _ h => h) wanted_none (fun w' hS => rn_mv R rfl) hS0 rfl fun inv a R => ?_
      refine dr_val (i := 2) R (waits_dom (by kernel_rfl) (by kernel_rfl)) (by kernel_rfl) inv rfl (by decide) (by kernel_rfl) (by kernel_rfl) (fun _ _ _ h => h) wanted_none (fun w' hS => rn_nil R rfl cx153_101) hS0 rfl fun inv a R => ?_
      refine dr_val (i := 3) R (waits_dom (by kernel_rfl) (by kernel_rfl)) (by kernel_rfl) inv rfl (by decide) (by kernel_rfl) (by kernel_rfl) (fun _ _ _ h => h) wanted_none (fun w' hS => rn_fld R rfl fd32_2) hS0 rfl fun inv a R => ?_
      refine dr_val (i := 4) R (waits_dom (by kernel_rfl) (by kernel_rfl)) (by kernel_rfl) inv rfl (by decide) (by kernel_rfl) (by kernel_rfl) (fun _ _ _ h => h) wanted_none (fun w' hS => rn_ld R rfl Try.underlying29 rfl (hS.1)) hS0 rfl fun inv a R => ?_
      refine dr_val (i := 5) R (waits_dom (by kernel_rfl) (by kernel_rfl)) (by kernel_rfl) inv rfl (by decide) (by kernel_rfl) (by kernel_rfl) (fun _ _ _ h => h) wanted_none (fun w' hS => rn_fld R rfl fd38_4) hS0 rfl fun inv a R => ?_
      refine dr_val (i := 6) R (waits_dom (by kernel_rfl) (by kernel_rfl)) (by kernel_rfl) inv rfl (by decide) (by kernel_rfl) (by kernel_rfl) (fun _ _ _ h => h) wanted_none (fun w' hS => rn_ld R rfl Try.underlying9 rfl (hS.2.1)) hS0 rfl fun inv a R => ?_
      refine dr_call (i := 7) R inv rfl (by decide) (by kernel_rfl) wanted_none (rn_calls R rfl cf22) rfl ?_
      refine call_mono (s_levyref19_Disk_Remove _ _ _ _ h) ?_
      rintro _ w106 ⟨x158_104_0, rfl, hS0, h⟩
      refine ⟨hS0, fun a inv R => ?_⟩
      refine seg_end (by kernel_rfl) ?_
      refine any_tail 8 (by kernel_rfl) ?_
      refine op_val R (rn_bin (v := .bool (x150_100_0 == x158_104_0)) R rfl rfl rfl) rfl fun a R => ?_
      refine oas R rfl rfl fun a R => ?_
      refine wpList_nil ?_
      refine then_normal ?_
      refine wp_ret ?_
      refine block_ret ?_
      refine then_ret ?_
      exact post_ret R rfl rfl ⟨(x150_100_0 == x158_104_0), rfl, h⟩
     ·refine wp_condF R (congrArg (fun b => some (Value.bool b)) g96) ?_
      refine wp_seq ?_
      refine wp_region_lit ?_
      refine op_val R (rn_bin (v := .bool (x19_4 == 5)) R rfl rfl rfl) rfl fun a R => ?_
      refine oas R rfl rfl fun a R => ?_
      refine wpList_nil ?_
      refine then_normal ?_
      rcases ite_cases h with ⟨g109, h⟩ | ⟨g109, h⟩
      ·refine wp_condT R (congrArg (fun b => some (Value.bool b)) g109) ?_
       refine wp_seq ?_
       refine region_start mo fun inv => ?_
       refine seg_same (n := 6) (f := 6) (g := 6) (by kernel_rfl) fun inv => ?_
       refine dr_val (i := 0) R (waits_dom (by kernel_rfl) (by kernel_rfl)) (by kernel_rfl) inv rfl (by decide) (by kernel_rfl) (by kernel_rfl) (fun _ _ _ h => h) wanted_none (fun w' hS => rn_mv R rfl) rfl (by decide) fun inv a R => ?_
       obtain ⟨x164_110, cx164_110, h⟩ := h
       refine dr_val (i := 1) R (waits_dom (by kernel_rfl) (by kernel_rfl)) (by kernel_rfl) inv rfl (by decide) (by kernel_rfl) (by kernel_rfl) (fun _ _ _ h => h) wanted_none (fun w' hS => rn_nil R rfl cx164_110) rfl (by decide) fun inv a R => ?_
       refine dr_val (i := 2) R (waits_dom (by kernel_rfl) (by kernel_rfl)) (by kernel_rfl) inv rfl (by decide) (by kernel_rfl) (by kernel_rfl) (fun _ _ _ h => h) wanted_none (fun w' hS => rn_fld R rfl fd32_0) rfl (by decide) fun inv a R => ?_
       obtain ⟨x166_111, cx166_111, h⟩ := h
       refine dr_val (i := 3) R (waits_dom (by kernel_rfl) (by kernel_rfl)) (by kernel_rfl) inv rfl (by decide) (by kernel_rfl) (by kernel_rfl) (fun _ _ _ h => h) wanted_none (fun w' hS => rn_ld R rfl Try.underlying27 rfl (cell_heap' hS cx166_111)) rfl (by decide) fun inv a R => ?_
       refine dr_val (i := 4) R (waits_dom (by kernel_rfl) (by kernel_rfl)) (by kernel_rfl) inv rfl (by decide) (by kernel_rfl) (by kernel_rfl) (fun _ _ _ h => h) wanted_none (fun w' hS => rn_fld R rfl fd38_4) rfl (by decide) fun inv a R => ?_
       obtain ⟨x168_112, cx168_112, h⟩ := h
       refine dr_val (i := 5) R (waits_dom (by kernel_rfl) (by kernel_rfl)) (by kernel_rfl) inv rfl (by decide) (by kernel_rfl) (by kernel_rfl) (fun _ _ _ h => h) wanted_none (fun w' hS => rn_ld R rfl Try.underlying9 rfl (cell_heap' hS cx168_112)) rfl (by decide) fun inv a R => ?_
       refine seg_end (by kernel_rfl) ?_
       refine any_call (i := 6) R rfl (by kernel_rfl) wanted_none (rn_calls R rfl cf23) rfl ?_
       refine call_mono (s_drawer_Disk_Read _ _ _ _ h) ?_
       rintro _ w124 ⟨x169_113_0, x169_113_1, rfl, h⟩ a R
       refine any_val (i := 7) R rfl (by kernel_rfl) wanted_none (rn_mv R rfl) rfl fun a R => ?_
       refine seg_same (n := 11) (f := 3) (g := 1) (by kernel_rfl) fun inv => ?_
       refine dr_val (i := 8) R (waits_dom (by kernel_rfl) (by kernel_rfl)) (by kernel_rfl) inv rfl (by decide) (by kernel_rfl) (by kernel_rfl) (fun _ _ _ h => h) wanted_none (fun w' hS => rn_ext R rfl rfl) rfl (by decide) fun inv a R => ?_
       refine dr_val (i := 9) R (waits_dom (by kernel_rfl) (by kernel_rfl)) (by kernel_rfl) inv rfl (by decide) (by kernel_rfl) (by kernel_rfl) (fun _ _ _ h => h) wanted_none (fun w' hS => rn_ext R rfl rfl) rfl (by decide) fun inv a R => ?_
       refine dr_val (i := 10) R (waits_dom (by kernel_rfl) (by kernel_rfl)) (by kernel_rfl) inv rfl (by decide) (by kernel_rfl) (by kernel_rfl) (fun _ _ _ h => h) wanted_none (fun w' hS => rn_as R rfl) rfl (by decide) fun inv a R => ?_
       refine seg_end (by kernel_rfl) ?_
       refine any_tail 11 (by kernel_rfl) ?_
       refine oas R rfl rfl fun a R => ?_
       refine wpList_nil ?_
       refine then_normal ?_
       refine wp_seq ?_
       refine region_start mo fun inv => ?_
       refine seg_same (n := 6) (f := 6) (g := 6) (by kernel_rfl) fun inv => ?_
       refine dr_val (i := 0) R (waits_dom (by kernel_rfl) (by kernel_rfl)) (by kernel_rfl) inv rfl (by decide) (by kernel_rfl) (by kernel_rfl) (fun _ _ _ h => h) wanted_none (fun w' hS => rn_mv R rfl) rfl (by decide) fun inv a R => ?_
       obtain ⟨x174_114, cx174_114, h⟩ := h
       refine dr_val (i := 1) R (waits_dom (by kernel_rfl) (by kernel_rfl)) (by kernel_rfl) inv rfl (by decide) (by kernel_rfl) (by kernel_rfl) (fun _ _ _ h => h) wanted_none (fun w' hS => rn_nil R rfl cx174_114) rfl (by decide) fun inv a R => ?_
       refine dr_val (i := 2) R (waits_dom (by kernel_rfl) (by kernel_rfl)) (by kernel_rfl) inv rfl (by decide) (by kernel_rfl) (by kernel_rfl) (fun _ _ _ h => h) wanted_none (fun w' hS => rn_fld R rfl fd32_2) rfl (by decide) fun inv a R => ?_
       obtain ⟨x176_115, cx176_115, h⟩ := h
       refine dr_val (i := 3) R (waits_dom (by kernel_rfl) (by kernel_rfl)) (by kernel_rfl) inv rfl (by decide) (by kernel_rfl) (by kernel_rfl) (fun _ _ _ h => h) wanted_none (fun w' hS => rn_ld R rfl Try.underlying29 rfl (cell_heap' hS cx176_115)) rfl (by decide) fun inv a R => ?_
       refine dr_val (i := 4) R (waits_dom (by kernel_rfl) (by kernel_rfl)) (by kernel_rfl) inv rfl (by decide) (by kernel_rfl) (by kernel_rfl) (fun _ _ _ h => h) wanted_none (fun w' hS => rn_fld R rfl fd38_4) rfl (by decide) fun inv a R => ?_
       obtain ⟨x178_116, cx178_116, h⟩ := h
       refine dr_val (i := 5) R (waits_dom (by kernel_rfl) (by kernel_rfl)) (by kernel_rfl) inv rfl (by decide) (by kernel_rfl) (by kernel_rfl) (fun _ _ _ h => h) wanted_none (fun w' hS => rn_ld R rfl Try.underlying9 rfl (cell_heap' hS cx178_116)) rfl (by decide) fun inv a R => ?_
       refine seg_end (by kernel_rfl) ?_
       refine any_call (i := 6) R rfl (by kernel_rfl) wanted_none (rn_calls R rfl cf24) rfl ?_
       refine call_mono (s_levyref19_Disk_Read _ _ _ _ h) ?_
       rintro _ w123 ⟨x179_117_0, x179_117_1, rfl, h⟩ a R
       refine any_val (i := 7) R rfl (by kernel_rfl) wanted_none (rn_mv R rfl) rfl fun a R => ?_
       refine seg_same (n := 11) (f := 3) (g := 1) (by kernel_rfl) fun inv => ?_
       refine dr_val (i := 8) R (waits_dom (by kernel_rfl) (by kernel_rfl)) (by kernel_rfl) inv rfl (by decide) (by kernel_rfl) (by kernel_rfl) (fun _ _ _ h => h) wanted_none (fun w' hS => rn_ext R rfl rfl) rfl (by decide) fun inv a R => ?_
       refine dr_val (i := 9) R (waits_dom (by kernel_rfl) (by kernel_rfl)) (by kernel_rfl) inv rfl (by decide) (by kernel_rfl) (by kernel_rfl) (fun _ _ _ h => h) wanted_none (fun w' hS => rn_ext R rfl rfl) rfl (by decide) fun inv a R => ?_
       refine dr_val (i := 10) R (waits_dom (by kernel_rfl) (by kernel_rfl)) (by kernel_rfl) inv rfl (by decide) (by kernel_rfl) (by kernel_rfl) (fun _ _ _ h => h) wanted_none (fun w' hS => rn_as R rfl) rfl (by decide) fun inv a R => ?_
       refine seg_end (by kernel_rfl) ?_
       refine any_tail 11 (by kernel_rfl) ?_
       refine oas R rfl rfl fun a R => ?_
       refine wpList_nil ?_
       refine then_normal ?_
       refine seq_join (fun a w => ∃ y118_4 : Bool, Rep a 273 [(4, .bool y118_4)] [] ∧ levylaw19_pair_disk.k118 y118_4 Q w) ?_ ?_
       ·refine wp_region_lit ?_
        refine omv R rfl rfl fun a R => ?_
        refine omv R rfl rfl fun a R => ?_
        refine op_val R (rn_bin (v := .bool (x169_113_1 == x179_117_1)) R rfl rfl rfl) rfl fun a R => ?_
        refine omv R rfl rfl fun a R => ?_
        rcases ite_cases h with ⟨g120, h⟩ | ⟨g120, h⟩
        ·refine op_guard R rfl rfl rfl g120 ?_
         refine omv R rfl rfl fun a R => ?_
         refine op_guard R rfl rfl rfl g120 ?_
         refine omv R rfl rfl fun a R => ?_
         refine op_guard R rfl rfl rfl g120 ?_
         refine op_call R (rn_calls R rfl cf15) rfl ?_
         refine call_mono (s_levylaw19_sameBytes _ _ _ _ h) ?_
         rintro _ w122 ⟨x188_121_0, rfl, h⟩ a R
         refine op_val R (rn_pickT R rfl g120 rfl) rfl fun a R => ?_
         refine oas R rfl rfl fun a R => ?_
         refine wpList_nil ?_
         refine then_normal ?_
         exact ⟨x188_121_0, R.weak ⟨rfl, trivial⟩, h⟩
        ·refine op_pass R rfl rfl rfl (ntf g120) (fun a R => ?_) (by intro s hs; cases hs; rfl)
         refine op_pass R rfl rfl rfl (ntf g120) (fun a R => ?_) (by intro s hs; cases hs; rfl)
         refine op_pass R rfl rfl rfl (ntf g120) (fun a R => ?_) (by intro s hs; cases hs; rfl)
         refine op_val R (rn_pickF R rfl g120 rfl) rfl fun a R => ?_
         refine oas R rfl rfl fun a R => ?_
         refine wpList_nil ?_
         refine then_normal ?_
         exact ⟨false, R.weak ⟨rfl, trivial⟩, h⟩
       ·rintro a w ⟨y118_4, R, h⟩
        unfold levylaw19_pair_disk.k118 at h
        refine wp_ret ?_
        refine block_ret ?_
        refine then_ret ?_
        exact post_ret R rfl rfl ⟨y118_4, rfl, h⟩
      ·refine wp_condF R (congrArg (fun b => some (Value.bool b)) g109) ?_
       refine wp_seq ?_
       refine wp_region_lit ?_
       refine op_val R (rn_bin (v := .bool (x19_4 == 6)) R rfl rfl rfl) rfl fun a R => ?_
       refine oas R rfl rfl fun a R => ?_
       refine wpList_nil ?_
       refine then_normal ?_
       rcases ite_cases h with ⟨g126, h⟩ | ⟨g126, h⟩
       ·refine wp_condT R (congrArg (fun b => some (Value.bool b)) g126) ?_
        refine wp_seq ?_
        refine region_start mo fun inv => ?_
        refine seg_same (n := 6) (f := 6) (g := 1) (by kernel_rfl) fun inv => ?_
        refine dr_val (i := 0) R (waits_dom (by kernel_rfl) (by kernel_rfl)) (by kernel_rfl) inv rfl (by decide) (by kernel_rfl) (by kernel_rfl) (fun _ _ _ h => h) wanted_none (fun w' hS => rn_mv R rfl) rfl (by decide) fun inv a R => ?_
        obtain ⟨x193_127, cx193_127, h⟩ := h
        refine dr_val (i := 1) R (waits_dom (by kernel_rfl) (by kernel_rfl)) (by kernel_rfl) inv rfl (by decide) (by kernel_rfl) (by kernel_rfl) (fun _ _ _ h => h) wanted_none (fun w' hS => rn_nil R rfl cx193_127) rfl (by decide) fun inv a R => ?_
        refine dr_val (i := 2) R (waits_dom (by kernel_rfl) (by kernel_rfl)) (by kernel_rfl) inv rfl (by decide) (by kernel_rfl) (by kernel_rfl) (fun _ _ _ h => h) wanted_none (fun w' hS => rn_fld R rfl fd32_0) rfl (by decide) fun inv a R => ?_
        obtain ⟨x195_128, cx195_128, h⟩ := h
        refine dr_val (i := 3) R (waits_dom (by kernel_rfl) (by kernel_rfl)) (by kernel_rfl) inv rfl (by decide) (by kernel_rfl) (by kernel_rfl) (fun _ _ _ h => h) wanted_none (fun w' hS => rn_ld R rfl Try.underlying27 rfl (cell_heap' hS cx195_128)) rfl (by decide) fun inv a R => ?_
        refine dr_val (i := 4) R (waits_dom (by kernel_rfl) (by kernel_rfl)) (by kernel_rfl) inv rfl (by decide) (by kernel_rfl) (by kernel_rfl) (fun _ _ _ h => h) wanted_none (fun w' hS => rn_fld R rfl fd38_1) rfl (by decide) fun inv a R => ?_
        obtain ⟨x197_129, cx197_129, h⟩ := h
        refine dr_val (i := 5) R (waits_dom (by kernel_rfl) (by kernel_rfl)) (by kernel_rfl) inv rfl (by decide) (by kernel_rfl) (by kernel_rfl) (fun _ _ _ h => h) wanted_none (fun w' hS => rn_ld R rfl Try.underlying3 rfl (cell_heap' hS cx197_129)) rfl (by decide) fun inv a R => ?_
        refine seg_end (by kernel_rfl) ?_
        refine any_tail 6 (by kernel_rfl) ?_
        refine op_call R (rn_calls R rfl cf25) rfl ?_
        refine call_mono (s_drawer_Disk_Arm _ _ _ _ h) ?_
        rintro _ w136 ⟨rfl, h⟩ a R
        refine wpList_nil ?_
        refine then_normal ?_
        refine region_start mo fun inv => ?_
        refine seg_same (n := 6) (f := 6) (g := 1) (by kernel_rfl) fun inv => ?_
        refine dr_val (i := 0) R (waits_dom (by kernel_rfl) (by kernel_rfl)) (by kernel_rfl) inv rfl (by decide) (by kernel_rfl) (by kernel_rfl) (fun _ _ _ h => h) wanted_none (fun w' hS => rn_mv R rfl) rfl (by decide) fun inv a R => ?_
        obtain ⟨x200_131, cx200_131, h⟩ := h
        refine dr_val (i := 1) R (waits_dom (by kernel_rfl) (by kernel_rfl)) (by kernel_rfl) inv rfl (by decide) (by kernel_rfl) (by kernel_rfl) (fun _ _ _ h => h) wanted_none (fun w' hS => rn_nil R rfl cx200_131) rfl (by decide) fun inv a R => ?_
        refine dr_val (i := 2) R (waits_dom (by kernel_rfl) (by kernel_rfl)) (by kernel_rfl) inv rfl (by decide) (by kernel_rfl) (by kernel_rfl) (fun _ _ _ h => h) wanted_none (fun w' hS => rn_fld R rfl fd32_2) rfl (by decide) fun inv a R => ?_
        obtain ⟨x202_132, cx202_132, h⟩ := h
        refine dr_val (i := 3) R (waits_dom (by kernel_rfl) (by kernel_rfl)) (by kernel_rfl) inv rfl (by decide) (by kernel_rfl) (by kernel_rfl) (fun _ _ _ h => h) wanted_none (fun w' hS => rn_ld R rfl Try.underlying29 rfl (cell_heap' hS cx202_132)) rfl (by decide) fun inv a R => ?_
        refine dr_val (i := 4) R (waits_dom (by kernel_rfl) (by kernel_rfl)) (by kernel_rfl) inv rfl (by decide) (by kernel_rfl) (by kernel_rfl) (fun _ _ _ h => h) wanted_none (fun w' hS => rn_fld R rfl fd38_1) rfl (by decide) fun inv a R => ?_
        obtain ⟨x204_133, cx204_133, h⟩ := h
        refine dr_val (i := 5) R (waits_dom (by kernel_rfl) (by kernel_rfl)) (by kernel_rfl) inv rfl (by decide) (by kernel_rfl) (by kernel_rfl) (fun _ _ _ h => h) wanted_none (fun w' hS => rn_ld R rfl Try.underlying3 rfl (cell_heap' hS cx204_133)) rfl (by decide) fun inv a R => ?_
        refine seg_end (by kernel_rfl) ?_
        refine any_tail 6 (by kernel_rfl) ?_
        refine op_call R (rn_calls R rfl cf26) rfl ?_
        refine call_mono (s_levyref19_Disk_Arm _ _ _ _ h) ?_
        rintro _ w135 ⟨rfl, h⟩ a R
        refine wpList_nil ?_
        refine block_normal ?_
        refine then_normal ?_
        exact ⟨R.weak trivial, h⟩
       ·refine wp_condF R (congrArg (fun b => some (Value.bool b)) g126) ?_
        refine wp_seq ?_
        refine wp_region_lit ?_
        refine op_val R (rn_bin (v := .bool (x19_4 == 7)) R rfl rfl rfl) rfl fun a R => ?_
        refine oas R rfl rfl fun a R => ?_
        refine wpList_nil ?_
        refine then_normal ?_
        rcases ite_cases h with ⟨g138, h⟩ | ⟨g138, h⟩
        ·refine wp_condT R (congrArg (fun b => some (Value.bool b)) g138) ?_
         refine wp_seq ?_
         refine region_start mo fun inv => ?_
         refine seg_same (n := 8) (f := 8) (g := 1) (by kernel_rfl) fun inv => ?_
         refine dr_val (i := 0) R (waits_dom (by kernel_rfl) (by kernel_rfl)) (by kernel_rfl) inv rfl (by decide) (by kernel_rfl) (by kernel_rfl) (fun _ _ _ h => h) wanted_none (fun w' hS => rn_mv R rfl) rfl (by decide) fun inv a R => ?_
         obtain ⟨x209_139, cx209_139, h⟩ := h
         refine dr_val (i := 1) R (waits_dom (by kernel_rfl) (by kernel_rfl)) (by kernel_rfl) inv rfl (by decide) (by kernel_rfl) (by kernel_rfl) (fun _ _ _ h => h) wanted_none (fun w' hS => rn_nil R rfl cx209_139) rfl (by decide) fun inv a R => ?_
         refine dr_val (i := 2) R (waits_dom (by kernel_rfl) (by kernel_rfl)) (by kernel_rfl) inv rfl (by decide) (by kernel_rfl) (by kernel_rfl) (fun _ _ _ h => h) wanted_none (fun w' hS => rn_fld R rfl fd32_0) rfl (by decide) fun inv a R => ?_
         obtain ⟨x211_140, cx211_140, h⟩ := h
         refine dr_val (i := 3) R (waits_dom (by kernel_rfl) (by kernel_rfl)) (by kernel_rfl) inv rfl (by decide) (by kernel_rfl) (by kernel_rfl) (fun _ _ _ h => h) wanted_none (fun w' hS => rn_ld R rfl Try.underlying27 rfl (cell_heap' hS cx211_140)) rfl (by decide) fun inv a R => ?_
         refine dr_val (i := 4) R (waits_dom (by kernel_rfl) (by kernel_rfl)) (by kernel_rfl) inv rfl (by decide) (by kernel_rfl) (by kernel_rfl) (fun _ _ _ h => h) wanted_none (fun w' hS => rn_fld R rfl fd38_1) rfl (by decide) fun inv a R => ?_
         obtain ⟨x213_141, cx213_141, h⟩ := h
         refine dr_val (i := 5) R (waits_dom (by kernel_rfl) (by kernel_rfl)) (by kernel_rfl) inv rfl (by decide) (by kernel_rfl) (by kernel_rfl) (fun _ _ _ h => h) wanted_none (fun w' hS => rn_ld R rfl Try.underlying3 rfl (cell_heap' hS cx213_141)) rfl (by decide) fun inv a R => ?_
         refine dr_val (i := 6) R (waits_dom (by kernel_rfl) (by kernel_rfl)) (by kernel_rfl) inv rfl (by decide) (by kernel_rfl) (by kernel_rfl) (fun _ _ _ h => h) wanted_none (fun w' hS => rn_fld R rfl fd38_2) rfl (by decide) fun inv a R => ?_
         obtain ⟨x215_142, cx215_142, h⟩ := h
         refine dr_val (i := 7) R (waits_dom (by kernel_rfl) (by kernel_rfl)) (by kernel_rfl) inv rfl (by decide) (by kernel_rfl) (by kernel_rfl) (fun _ _ _ h => h) wanted_none (fun w' hS => rn_ld R rfl Try.underlying3 rfl (cell_heap' hS cx215_142)) rfl (by decide) fun inv a R => ?_
         refine seg_end (by kernel_rfl) ?_
         refine any_tail 8 (by kernel_rfl) ?_
         refine op_call R (rn_calls R rfl cf27) rfl ?_
         refine call_mono (s_drawer_Disk_Fail _ _ _ _ _ h) ?_
         rintro _ w150 ⟨rfl, h⟩ a R
         refine wpList_nil ?_
         refine then_normal ?_
         refine region_start mo fun inv => ?_
         refine seg_same (n := 8) (f := 8) (g := 1) (by kernel_rfl) fun inv => ?_
         refine dr_val (i := 0) R (waits_dom (by kernel_rfl) (by kernel_rfl)) (by kernel_rfl) inv rfl (by decide) (by kernel_rfl) (by kernel_rfl) (fun _ _ _ h => h) wanted_none (fun w' hS => rn_mv R rfl) rfl (by decide) fun inv a R => ?_
         obtain ⟨x218_144, cx218_144, h⟩ := h
         refine dr_val (i := 1) R (waits_dom (by kernel_rfl) (by kernel_rfl)) (by kernel_rfl) inv rfl (by decide) (by kernel_rfl) (by kernel_rfl) (fun _ _ _ h => h) wanted_none (fun w' hS => rn_nil R rfl cx218_144) rfl (by decide) fun inv a R => ?_
         refine dr_val (i := 2) R (waits_dom (by kernel_rfl) (by kernel_rfl)) (by kernel_rfl) inv rfl (by decide) (by kernel_rfl) (by kernel_rfl) (fun _ _ _ h => h) wanted_none (fun w' hS => rn_fld R rfl fd32_2) rfl (by decide) fun inv a R => ?_
         obtain ⟨x220_145, cx220_145, h⟩ := h
         refine dr_val (i := 3) R (waits_dom (by kernel_rfl) (by kernel_rfl)) (by kernel_rfl) inv rfl (by decide) (by kernel_rfl) (by kernel_rfl) (fun _ _ _ h => h) wanted_none (fun w' hS => rn_ld R rfl Try.underlying29 rfl (cell_heap' hS cx220_145)) rfl (by decide) fun inv a R => ?_
         refine dr_val (i := 4) R (waits_dom (by kernel_rfl) (by kernel_rfl)) (by kernel_rfl) inv rfl (by decide) (by kernel_rfl) (by kernel_rfl) (fun _ _ _ h => h) wanted_none (fun w' hS => rn_fld R rfl fd38_1) rfl (by decide) fun inv a R => ?_
         obtain ⟨x222_146, cx222_146, h⟩ := h
         refine dr_val (i := 5) R (waits_dom (by kernel_rfl) (by kernel_rfl)) (by kernel_rfl) inv rfl (by decide) (by kernel_rfl) (by kernel_rfl) (fun _ _ _ h => h) wanted_none (fun w' hS => rn_ld R rfl Try.underlying3 rfl (cell_heap' hS cx222_146)) rfl (by decide) fun inv a R => ?_
         refine dr_val (i := 6) R (waits_dom (by kernel_rfl) (by kernel_rfl)) (by kernel_rfl) inv rfl (by decide) (by kernel_rfl) (by kernel_rfl) (fun _ _ _ h => h) wanted_none (fun w' hS => rn_fld R rfl fd38_2) rfl (by decide) fun inv a R => ?_
         obtain ⟨x224_147, cx224_147, h⟩ := h
         refine dr_val (i := 7) R (waits_dom (by kernel_rfl) (by kernel_rfl)) (by kernel_rfl) inv rfl (by decide) (by kernel_rfl) (by kernel_rfl) (fun _ _ _ h => h) wanted_none (fun w' hS => rn_ld R rfl Try.underlying3 rfl (cell_heap' hS cx224_147)) rfl (by decide) fun inv a R => ?_
         refine seg_end (by kernel_rfl) ?_
         refine any_tail 8 (by kernel_rfl) ?_
         refine op_call R (rn_calls R rfl cf28) rfl ?_
         refine call_mono (s_levyref19_Disk_Fail _ _ _ _ _ h) ?_
         rintro _ w149 ⟨rfl, h⟩ a R
         refine wpList_nil ?_
         refine block_normal ?_
         refine then_normal ?_
         exact ⟨R.weak trivial, h⟩
        ·refine wp_condF R (congrArg (fun b => some (Value.bool b)) g138) ?_
         refine wp_seq ?_
         refine wp_region_lit ?_
         refine op_val R (rn_bin (v := .bool (x19_4 == 8)) R rfl rfl rfl) rfl fun a R => ?_
         refine oas R rfl rfl fun a R => ?_
         refine wpList_nil ?_
         refine then_normal ?_
         rcases ite_cases h with ⟨g152, h⟩ | ⟨g152, h⟩
         ·refine wp_condT R (congrArg (fun b => some (Value.bool b)) g152) ?_
          refine wp_seq ?_
          refine wp_region_lit ?_
          refine omv R rfl rfl fun a R => ?_
          obtain ⟨x229_153, cx229_153, h⟩ := h
          refine onl R rfl cx229_153 rfl fun a R => ?_
          refine ofd R rfl fd32_0 rfl fun a R => ?_
          obtain ⟨x231_154, cx231_154, h⟩ := h
          refine old R rfl Try.underlying27 rfl cx231_154 rfl fun a R => ?_
          refine op_call R (rn_calls R rfl cf29) rfl ?_
          refine call_mono (s_drawer_Disk_Crash _ _ _ h) ?_
          rintro _ w160 ⟨rfl, h⟩ a R
          refine wpList_nil ?_
          refine then_normal ?_
          refine wp_region_lit ?_
          refine omv R rfl rfl fun a R => ?_
          obtain ⟨x234_156, cx234_156, h⟩ := h
          refine onl R rfl cx234_156 rfl fun a R => ?_
          refine ofd R rfl fd32_2 rfl fun a R => ?_
          obtain ⟨x236_157, cx236_157, h⟩ := h
          refine old R rfl Try.underlying29 rfl cx236_157 rfl fun a R => ?_
          refine op_call R (rn_calls R rfl cf30) rfl ?_
          refine call_mono (s_levyref19_Disk_Crash _ _ _ h) ?_
          rintro _ w159 ⟨rfl, h⟩ a R
          refine wpList_nil ?_
          refine block_normal ?_
          refine then_normal ?_
          exact ⟨R.weak trivial, h⟩
         ·refine wp_condF R (congrArg (fun b => some (Value.bool b)) g152) ?_
          refine wp_seq ?_
          refine wp_region_lit ?_
          refine op_val R (rn_bin (v := .bool (x19_4 == 9)) R rfl rfl rfl) rfl fun a R => ?_
          refine oas R rfl rfl fun a R => ?_
          refine wpList_nil ?_
          refine then_normal ?_
          rcases ite_cases h with ⟨g162, h⟩ | ⟨g162, h⟩
          ·refine wp_condT R (congrArg (fun b => some (Value.bool b)) g162) ?_
           refine wp_seq ?_
           refine wp_region_lit ?_
           refine op_val R (rn_build (r := .agg #[.slice none 0 0, .slice none 0 0, .slice none 0 0, .slice none 0 0, .slice none 0 0, .slice none 0 0, .slice none 0 0, .slice none 0 0, .slice none 0 0, .slice none 0 0, .slice none 0 0, .slice none 0 0, .slice none 0 0, .slice none 0 0, .slice none 0 0, .slice none 0 0, .slice none 0 0, .slice none 0 0, .slice none 0 0, .slice none 0 0, .slice none 0 0]) R rfl (fun w => by kernel_rfl)) rfl fun a R => ?_
           obtain ⟨x241_163, e164, h⟩ := al_e h
           refine op_val (v := .pointer (some x241_163)) R (by rw [e164]; exact rn_bx (x := (.tmp 240)) (t := 65) R rfl) rfl fun a R => ?_
           refine oas R rfl rfl fun a R => ?_
           refine wpList_nil ?_
           refine then_normal ?_
           refine wp_seq ?_
           refine region_start mo fun inv => ?_
           obtain ⟨x243_165, cx243_165, h⟩ := h
           obtain ⟨x245_166, cx245_166, h⟩ := h
           obtain ⟨x248_167, cx248_167, h⟩ := h
           refine seg_held (n := 8) (f := 8) (g := 1) (fun w : World => w.cell? (x243_165.add 0) = some (.pointer x245_166) ∧ w.cell? (x3_1.add 6) = some (Sl.val x248_167) ∧ True) (by kernel_rfl) fun inv => ?_
           have hS0 : (fun w : World => w.cell? (x243_165.add 0) = some (.pointer x245_166) ∧ w.cell? (x3_1.add 6) = some (Sl.val x248_167) ∧ True) _ := ⟨cx245_166, cx248_167, trivial⟩
           refine dr_val (i := 0) R (waits_dom (by kernel_rfl) (by kernel_rfl)) (by kernel_rfl) inv rfl (by decide) (by kernel_rfl) (by kernel_rfl) (fun _ _ _ h => h) wanted_none (fun w' hS => rn_mv R rfl) hS0 rfl fun inv a R => ?_
           refine dr_val (i := 1) R (waits_dom (by kernel_rfl) (by kernel_rfl)) (by kernel_rfl) inv rfl (by decide) (by kernel_rfl) (by kernel_rfl) (fun _ _ _ h => h) wanted_none (fun w' hS => rn_nil R rfl cx243_165) hS0 rfl fun inv a R => ?_
           refine dr_val (i := 2) R (waits_dom (by kernel_rfl) (by kernel_rfl)) (by kernel_rfl) inv rfl (by decide) (by kernel_rfl) (by kernel_rfl) (fun _ _ _ h => h) wanted_none (fun w' hS => rn_fld R rfl fd32_0) hS0 rfl fun inv a R => ?_
           refine dr_val (i := 3) R (waits_dom (by kernel_rfl) (by kernel_rfl)) (by kernel_rfl) inv rfl (by decide) (by kernel_rfl) (by kernel_rfl) (fun _ _ _ h => h) wanted_none (fun w' hS => rn_ld R rfl Try.underlying27 rfl (hS.1)) hS0 rfl fun inv a R => ?_
           refine dr_val (i := 4) R (waits_dom (by kernel_rfl) (by kernel_rfl)) (by kernel_rfl) inv rfl (by decide) (by kernel_rfl) (by kernel_rfl) (fun _ _ _ h => h) wanted_none (fun w' hS => rn_mv R rfl) hS0 rfl fun inv a R => ?_
           refine dr_val (i := 5) R (waits_dom (by kernel_rfl) (by kernel_rfl)) (by kernel_rfl) inv rfl (by decide) (by kernel_rfl) (by kernel_rfl) (fun _ _ _ h => h) wanted_none (fun w' hS => rn_fld R rfl fd38_6) hS0 rfl fun inv a R => ?_
           refine dr_val (i := 6) R (waits_dom (by kernel_rfl) (by kernel_rfl)) (by kernel_rfl) inv rfl (by decide) (by kernel_rfl) (by kernel_rfl) (fun _ _ _ h => h) wanted_none (fun w' hS => rn_ld R rfl Try.underlying35 rfl (hS.2.1)) hS0 rfl fun inv a R => ?_
           refine dr_call (i := 7) R inv rfl (by decide) (by kernel_rfl) wanted_none (rn_calls R rfl cf32) rfl ?_
           refine call_mono (s_levyroom_Room_Ints _ _ _ _ h) ?_
           rintro _ w178 ⟨x249_168_0, rfl, hS0, h⟩
           refine ⟨hS0, fun a inv R => ?_⟩
           refine seg_end (by kernel_rfl) ?_
           refine any_tail 8 (by kernel_rfl) ?_
           refine op_call R (rn_calls R rfl cf31) rfl ?_
           refine call_mono (s_drawer_Disk_Restart _ _ _ _ h) ?_
           rintro _ w177 ⟨rfl, h⟩ a R
           refine wpList_nil ?_
           refine then_normal ?_
           refine wp_seq ?_
           refine region_start mo fun inv => ?_
           refine seg_same (n := 6) (f := 6) (g := 1) (by kernel_rfl) fun inv => ?_
           refine dr_val (i := 0) R (waits_dom (by kernel_rfl) (by kernel_rfl)) (by kernel_rfl) inv rfl (by decide) (by kernel_rfl) (by kernel_rfl) (fun _ _ _ h => h) wanted_none (fun w' hS => rn_mv R rfl) rfl (by decide) fun inv a R => ?_
           obtain ⟨x252_170, cx252_170, h⟩ := h
           refine dr_val (i := 1) R (waits_dom (by kernel_rfl) (by kernel_rfl)) (by kernel_rfl) inv rfl (by decide) (by kernel_rfl) (by kernel_rfl) (fun _ _ _ h => h) wanted_none (fun w' hS => rn_nil R rfl cx252_170) rfl (by decide) fun inv a R => ?_
           refine dr_val (i := 2) R (waits_dom (by kernel_rfl) (by kernel_rfl)) (by kernel_rfl) inv rfl (by decide) (by kernel_rfl) (by kernel_rfl) (fun _ _ _ h => h) wanted_none (fun w' hS => rn_fld R rfl fd32_2) rfl (by decide) fun inv a R => ?_
           obtain ⟨x254_171, cx254_171, h⟩ := h
           refine dr_val (i := 3) R (waits_dom (by kernel_rfl) (by kernel_rfl)) (by kernel_rfl) inv rfl (by decide) (by kernel_rfl) (by kernel_rfl) (fun _ _ _ h => h) wanted_none (fun w' hS => rn_ld R rfl Try.underlying29 rfl (cell_heap' hS cx254_171)) rfl (by decide) fun inv a R => ?_
           refine dr_val (i := 4) R (waits_dom (by kernel_rfl) (by kernel_rfl)) (by kernel_rfl) inv rfl (by decide) (by kernel_rfl) (by kernel_rfl) (fun _ _ _ h => h) wanted_none (fun w' hS => rn_fld R rfl fd38_6) rfl (by decide) fun inv a R => ?_
           obtain ⟨x256_172, cx256_172, h⟩ := h
           refine dr_val (i := 5) R (waits_dom (by kernel_rfl) (by kernel_rfl)) (by kernel_rfl) inv rfl (by decide) (by kernel_rfl) (by kernel_rfl) (fun _ _ _ h => h) wanted_none (fun w' hS => rn_ld R rfl Try.underlying35 rfl (cell_heap' hS cx256_172)) rfl (by decide) fun inv a R => ?_
           refine seg_end (by kernel_rfl) ?_
           refine any_tail 6 (by kernel_rfl) ?_
           refine op_call R (rn_calls R rfl cf33) rfl ?_
           refine call_mono (s_levyref19_Disk_Restart _ _ _ _ h) ?_
           rintro _ w176 ⟨rfl, h⟩ a R
           refine wpList_nil ?_
           refine then_normal ?_
           refine wp_seq ?_
           refine wp_region_lit ?_
           refine omv R rfl rfl fun a R => ?_
           refine op_call R (rn_calls R rfl cf12) rfl ?_
           refine call_mono (s_levyroom_Room_Hold _ _ _ h) ?_
           rintro _ w175 ⟨x259_174_0, rfl, h⟩ a R
           refine oas R rfl rfl fun a R => ?_
           refine wpList_nil ?_
           refine then_normal ?_
           refine wp_ret ?_
           refine block_ret ?_
           refine then_ret ?_
           exact post_ret R rfl rfl ⟨x259_174_0, rfl, h⟩
          ·refine wp_condF R (congrArg (fun b => some (Value.bool b)) g162) ?_
           refine wp_seq ?_
           refine wp_region_lit ?_
           refine op_val R (rn_bin (v := .bool (x19_4 == 10)) R rfl rfl rfl) rfl fun a R => ?_
           refine oas R rfl rfl fun a R => ?_
           refine wpList_nil ?_
           refine then_normal ?_
           rcases ite_cases h with ⟨g180, h⟩ | ⟨g180, h⟩
           ·refine wp_condT R (congrArg (fun b => some (Value.bool b)) g180) ?_
            refine wp_seq ?_
            refine region_start mo fun inv => ?_
            obtain ⟨x263_181, cx263_181, h⟩ := h
            obtain ⟨x265_182, cx265_182, h⟩ := h
            obtain ⟨x268_183, cx268_183, h⟩ := h
            obtain ⟨x270_184, cx270_184, h⟩ := h
            refine seg_held (n := 9) (f := 9) (g := 3) (fun w : World => w.cell? (x263_181.add 0) = some (.pointer x265_182) ∧ w.cell? (x268_183.add 2) = some (.pointer x270_184) ∧ True) (by kernel_rfl) fun inv => ?_
            have hS0 : (fun w : World => w.cell? (x263_181.add 0) = some (.pointer x265_182) ∧ w.cell? (x268_183.add 2) = some (.pointer x270_184) ∧ True) _ := ⟨cx265_182, cx270_184, trivial⟩
            refine dr_val (i := 0) R (waits_dom (by kernel_rfl) (by kernel_rfl)) (by kernel_rfl) inv rfl (by decide) (by kernel_rfl) (by kernel_rfl) (fun _ _ _ h => h) wanted_none (fun w' hS => rn_mv R rfl) hS0 rfl fun inv a R => ?_
            refine dr_val (i := 1) R (waits_dom (by kernel_rfl) (by kernel_rfl)) (by kernel_rfl) inv rfl (by decide) (by kernel_rfl) (by kernel_rfl) (fun _ _ _ h => h) wanted_none (fun w' hS => rn_nil R rfl cx263_181) hS0 rfl fun inv a R => ?_
            refine dr_val (i := 2) R (waits_dom (by kernel_rfl) (by kernel_rfl)) (by kernel_rfl) inv rfl (by decide) (by kernel_rfl) (by kernel_rfl) (fun _ _ _ h => h) wanted_none (fun w' hS => rn_fld R rfl fd32_0) hS0 rfl fun inv a R => ?_
            refine dr_val (i := 3) R (waits_dom (by kernel_rfl) (by kernel_rfl)) (by kernel_rfl) inv rfl (by decide) (by kernel_rfl) (by kernel_rfl) (fun _ _ _ h => h) wanted_none (fun w' hS => rn_ld R rfl Try.underlying27 rfl (hS.1)) hS0 rfl fun inv a R => ?_
            refine dr_val (i := 5) R (waits_dom (by kernel_rfl) (by kernel_rfl)) (by kernel_rfl) inv rfl (by decide) (by kernel_rfl) (by kernel_rfl) (fun _ _ _ h => h) wanted_none (fun w' hS => rn_mv R rfl) hS0 rfl fun inv a R => ?_
            refine dr_val (i := 6) R (waits_dom (by kernel_rfl) (by kernel_rfl)) (by kernel_rfl) inv rfl (by decide) (by kernel_rfl) (by kernel_rfl) (fun _ _ _ h => h) wanted_none (fun w' hS => rn_nil R rfl cx268_183) hS0 rfl fun inv a R => ?_
            refine dr_val (i := 7) R (waits_dom (by kernel_rfl) (by kernel_rfl)) (by kernel_rfl) inv rfl (by decide) (by kernel_rfl) (by kernel_rfl) (fun _ _ _ h => h) wanted_none (fun w' hS => rn_fld R rfl fd32_2) hS0 rfl fun inv a R => ?_
            refine dr_val (i := 8) R (waits_dom (by kernel_rfl) (by kernel_rfl)) (by kernel_rfl) inv rfl (by decide) (by kernel_rfl) (by kernel_rfl) (fun _ _ _ h => h) wanted_none (fun w' hS => rn_ld R rfl Try.underlying29 rfl (hS.2.1)) hS0 rfl fun inv a R => ?_
            refine dr_call (i := 4) R inv rfl (by decide) (by kernel_rfl) wanted_none (rn_calls R rfl cf7) rfl ?_
            refine call_mono (s_drawer_Disk_Files _ _ _ h) ?_
            rintro _ w190 ⟨x266_185_0, rfl, hS0, h⟩
            refine ⟨hS0, fun a inv R => ?_⟩
            refine seg_end (by kernel_rfl) ?_
            refine any_tail 9 (by kernel_rfl) ?_
            refine op_call R (rn_calls R rfl cf8) rfl ?_
            refine call_mono (s_levyref19_Disk_Files _ _ _ h) ?_
            rintro _ w189 ⟨x271_186_0, rfl, h⟩ a R
            refine op_call R (rn_calls R rfl cf6) rfl ?_
            refine call_mono (s_levylaw19_sameFiles _ _ _ _ h) ?_
            rintro _ w188 ⟨x272_187_0, rfl, h⟩ a R
            refine oas R rfl rfl fun a R => ?_
            refine wpList_nil ?_
            refine then_normal ?_
            refine wp_ret ?_
            refine block_ret ?_
            refine then_ret ?_
            exact post_ret R rfl rfl ⟨x272_187_0, rfl, h⟩
           ·refine wp_condF R (congrArg (fun b => some (Value.bool b)) g180) ?_
            refine wp_skip ?_
            refine block_normal ?_
            refine then_normal ?_
            exact ⟨R.weak trivial, h⟩
 ·rintro a w ⟨R, h⟩
  unfold levylaw19_pair_disk.k3 at h
  refine wp_seq ?_
  refine wp_region_lit ?_
  refine oas R rfl rfl fun a R => ?_
  refine wpList_nil ?_
  refine then_normal ?_
  refine wp_ret ?_
  exact post_ret R rfl rfl ⟨true, rfl, h⟩
theorem s_levylaw19_pair_disk (x0 : Option Addr) (x1_0 : Int) (x1_1 : Int) (x1_2 : Int) (x1_3 : Bool) (x1_4 : ByteArray) (x1_5 : Sl) (x1_6 : Sl) (x1_7 : Int) (Q : Bool → World → Prop) (w : World) (h : levylaw19_pair_disk x0 x1_0 x1_1 x1_2 x1_3 x1_4 x1_5 x1_6 x1_7 Q w) :
    Calls Try.prog 5 #[.pointer x0, .agg #[.int .i64 x1_0, .int .i64 x1_1, .int .i64 x1_2, .bool x1_3, .string x1_4, Sl.val x1_5, Sl.val x1_6, .int .u32 x1_7]] w (Rets fun v w => ∃ r0 : Bool, v = (.bool r0 : Value) ∧ Q r0 w) :=
  calls_body (args := [.pointer x0, .agg #[.int .i64 x1_0, .int .i64 x1_1, .int .i64 x1_2, .bool x1_3, .string x1_4, Sl.val x1_5, Sl.val x1_6, .int .u32 x1_7]]) Try.func5 rfl rfl (Nat.le_of_ble_eq_true rfl) (L := [(0, .pointer x0), (1, .agg #[.int .i64 x1_0, .int .i64 x1_1, .int .i64 x1_2, .bool x1_3, .string x1_4, Sl.val x1_5, Sl.val x1_6, .int .u32 x1_7])]) (by simp [starts]) (b_levylaw19_pair_disk x0 x1_0 x1_1 x1_2 x1_3 x1_4 x1_5 x1_6 x1_7 Q w h rfl)

/-! levylaw19.DrawerDisk -/

def levylaw19_DrawerDisk.k4  (Q : Bool → World → Prop) (w : World) : Prop :=
  Q true w

def levylaw19_DrawerDisk.k9 (x1 : Sl) (x10_1_0 : Option Addr) (z5_7 : Int) (K5 : Int → World → Prop) (y9_53 : Bool) (Q : Bool → World → Prop) (w : World) : Prop :=
  (if y9_53 = true then Q false w else K5 (IntKind.i64.wrap (z5_7 + 1)) w)

def levylaw19_DrawerDisk.l5 (x1 : Sl) (x10_1_0 : Option Addr) (z5_7 : Int) (Q : Bool → World → Prop) (K5 : Int → World → Prop) (w : World) : Prop :=
  (if (decide (z5_7 < ((x1.len : Nat) : Int))) = true then ix x1.p x1.len z5_7 8 fun x36_13 => ld (Value.int .i64) (World.drew w) (x36_13.add 0) fun x37_14_0 => ld (Value.int .i64) (World.drew w) (x36_13.add 1) fun x37_14_1 => ld (Value.int .i64) (World.drew w) (x36_13.add 2) fun x37_14_2 => ld Value.bool (World.drew w) (x36_13.add 3) fun x37_14_3 => ld Value.string (World.drew w) (x36_13.add 4) fun x37_14_4 => ld Sl.val (World.drew w) (x36_13.add 5) fun x37_14_5 => ld Sl.val (World.drew w) (x36_13.add 6) fun x37_14_6 => ld (Value.int .u32) (World.drew w) (x36_13.add 7) fun x37_14_7 => levylaw19_pair_disk x10_1_0 x37_14_0 x37_14_1 x37_14_2 x37_14_3 x37_14_4 x37_14_5 x37_14_6 x37_14_7 (fun x38_15_0 w => (if x38_15_0 = true then nn x10_1_0 fun x42_17 => ld Value.pointer w (x42_17.add 0) fun x44_18 => nn x10_1_0 fun x47_19 => ld Value.pointer w (x47_19.add 2) fun x49_20 => drawer_Disk_Files x44_18 (fun x45_21_0 w => ((World.cell? w (x42_17.add 0) = some (.pointer x44_18) ∧ World.cell? w (x47_19.add 2) = some (.pointer x49_20) ∧ True) ∧ levyref19_Disk_Files x49_20 (fun x50_22_0 w => levylaw19_sameFiles x45_21_0 x50_22_0 (fun x51_23_0 w => levylaw19_DrawerDisk.k9 x1 x10_1_0 z5_7 K5 (!x51_23_0) Q w) w) w)) w else levylaw19_DrawerDisk.k9 x1 x10_1_0 z5_7 K5 true Q w)) (World.drew w) else levylaw19_DrawerDisk.k4  Q w)

def levylaw19_DrawerDisk.k2 (x1 : Sl) (x10_1_0 : Option Addr) (x10_1_1 : Bool) (y2_25 : Bool) (Q : Bool → World → Prop) (w : World) : Prop :=
  (if y2_25 = true then Q x10_1_1 w else (Fix (σ := Int) (fun Ks s w => levylaw19_DrawerDisk.l5 x1 x10_1_0 s Q (fun z5_7 w => Ks z5_7 w) w) 0 w))

def levylaw19_DrawerDisk (x0 : Sl) (x1 : Sl) (Q : Bool → World → Prop) (w : World) : Prop :=
  levylaw19_made x0 (fun x10_1_0 x10_1_1 w => (if x10_1_1 = true then (if (Option.isNone x10_1_0) = true then levylaw19_DrawerDisk.k2 x1 x10_1_0 x10_1_1 true Q w else nn x10_1_0 fun x21_30 => ld Value.pointer w (x21_30.add 0) fun x23_31 => levylaw19_DrawerDisk.k2 x1 x10_1_0 x10_1_1 (Option.isNone x23_31) Q w) else levylaw19_DrawerDisk.k2 x1 x10_1_0 x10_1_1 true Q w)) w

theorem b_levylaw19_DrawerDisk (x0 : Sl) (x1 : Sl) (Q : Bool → World → Prop) (w : World) (h : levylaw19_DrawerDisk x0 x1 Q w) {c : Code} (hb : Try.f3.body = some c) :
 ∀ a, Rep a 54 [(0, Sl.val x0), (1, Sl.val x1)] [] → c.wp Try.prog (bodyPost Try.prog Try.f3 (Rets fun v w => ∃ r0 : Bool, v = (.bool r0 : Value) ∧ Q r0 w)) a w := by
 intro a R
 obtain rfl := Option.some.inj hb
 unfold levylaw19_DrawerDisk at h
 refine wp_seq ?_
 refine wp_region_lit ?_
 refine oas R rfl rfl fun a R => ?_
 refine wpList_nil ?_
 refine then_normal ?_
 refine wp_seq ?_
 refine wp_region_lit ?_
 refine omv R rfl rfl fun a R => ?_
 refine op_call R (rn_calls R rfl cf4) rfl ?_
 refine call_mono (s_levylaw19_made _ _ _ h) ?_
 rintro _ w32 ⟨x10_1_0, x10_1_1, rfl, h⟩ a R
 refine omv R rfl rfl fun a R => ?_
 refine op_val R (rn_ext R rfl rfl) rfl fun a R => ?_
 refine op_val R (rn_ext R rfl rfl) rfl fun a R => ?_
 refine oas R rfl rfl fun a R => ?_
 refine oas R rfl rfl fun a R => ?_
 refine wpList_nil ?_
 refine then_normal ?_
 refine wp_seq ?_
 refine seq_join (fun a w => ∃ y2_25 : Bool, Rep a 54 [(1, Sl.val x1), (5, .pointer x10_1_0), (6, .bool x10_1_1), (25, .bool y2_25)] [] ∧ levylaw19_DrawerDisk.k2 x1 x10_1_0 x10_1_1 y2_25 Q w) ?_ ?_
 ·refine wp_region_lit ?_
  refine omv R rfl rfl fun a R => ?_
  refine op_val R (rn_un (v := .bool (!x10_1_1)) R rfl rfl) rfl fun a R => ?_
  refine omv R rfl rfl fun a R => ?_
  rcases ite_cases h with ⟨g28, h⟩ | ⟨g28, h⟩
  ·refine op_guard R rfl rfl rfl (nf g28) ?_
   refine omv R rfl rfl fun a R => ?_
   refine op_guard R rfl rfl rfl (nf g28) ?_
   refine op_val R (rn_nilPE R rfl rfl Try.underlying24) rfl fun a R => ?_
   refine op_val R (rn_pickF R rfl (nf g28) rfl) rfl fun a R => ?_
   refine omv R rfl rfl fun a R => ?_
   rcases ite_cases h with ⟨g29, h⟩ | ⟨g29, h⟩
   ·refine op_pass R rfl rfl rfl (nft g29) (fun a R => ?_) (by intro s hs; cases hs; rfl)
    refine op_pass R rfl rfl rfl (nft g29) (fun a R => ?_) (by intro s hs; cases hs; rfl)
    refine op_pass R rfl rfl rfl (nft g29) (fun a R => ?_) (by intro s hs; cases hs; rfl)
    refine op_pass R rfl rfl rfl (nft g29) (fun a R => ?_) (by intro s hs; cases hs; rfl)
    refine op_pass R rfl rfl rfl (nft g29) (fun a R => ?_) (by intro s hs; cases hs; rfl)
    refine op_val R (rn_pickT R rfl g29 rfl) rfl fun a R => ?_
    refine wpList_nil ?_
    refine then_normal ?_
    exact ⟨true, R.weak ⟨rfl, rfl, rfl, rfl, trivial⟩, h⟩
   ·refine op_guard R rfl rfl rfl g29 ?_
    refine omv R rfl rfl fun a R => ?_
    refine op_guard R rfl rfl rfl g29 ?_
    obtain ⟨x21_30, cx21_30, h⟩ := h
    refine onl R rfl cx21_30 rfl fun a R => ?_
    refine op_guard R rfl rfl rfl g29 ?_
    refine ofd R rfl fd32_0 rfl fun a R => ?_
    refine op_guard R rfl rfl rfl g29 ?_
    obtain ⟨x23_31, cx23_31, h⟩ := h
    refine old R rfl Try.underlying27 rfl cx23_31 rfl fun a R => ?_
    refine op_guard R rfl rfl rfl g29 ?_
    refine op_val R (rn_nilPE R rfl rfl Try.underlying27) rfl fun a R => ?_
    refine op_val R (rn_pickF R rfl g29 rfl) rfl fun a R => ?_
    refine wpList_nil ?_
    refine then_normal ?_
    exact ⟨(Option.isNone x23_31), R.weak ⟨rfl, rfl, rfl, rfl, trivial⟩, h⟩
  ·refine op_pass R rfl rfl rfl (nft (nt g28)) (fun a R => ?_) (by intro s hs; cases hs; rfl)
   refine op_pass R rfl rfl rfl (nft (nt g28)) (fun a R => ?_) (by intro s hs; cases hs; rfl)
   refine op_val R (rn_pickT R rfl (nt g28) rfl) rfl fun a R => ?_
   refine omv R rfl rfl fun a R => ?_
   refine op_pass R rfl rfl rfl (nft rfl) (fun a R => ?_) (by intro s hs; cases hs; rfl)
   refine op_pass R rfl rfl rfl (nft rfl) (fun a R => ?_) (by intro s hs; cases hs; rfl)
   refine op_pass R rfl rfl rfl (nft rfl) (fun a R => ?_) (by intro s hs; cases hs; rfl)
   refine op_pass R rfl rfl rfl (nft rfl) (fun a R => ?_) (by intro s hs; cases hs; rfl)
   refine op_pass R rfl rfl rfl (nft rfl) (fun a R => ?_) (by intro s hs; cases hs; rfl)
   refine op_val R (rn_pickT R rfl rfl rfl) rfl fun a R => ?_
   refine wpList_nil ?_
   refine then_normal ?_
   exact ⟨true, R.weak ⟨rfl, rfl, rfl, rfl, trivial⟩, h⟩
 ·rintro a w ⟨y2_25, R, h⟩
  unfold levylaw19_DrawerDisk.k2 at h
  rcases ite_cases h with ⟨g3, h⟩ | ⟨g3, h⟩
  ·refine wp_condT R (congrArg (fun b => some (Value.bool b)) g3) ?_
   refine wp_seq ?_
   refine wp_region_lit ?_
   refine omv R rfl rfl fun a R => ?_
   refine oas R rfl rfl fun a R => ?_
   refine wpList_nil ?_
   refine then_normal ?_
   refine wp_ret ?_
   refine then_ret ?_
   exact post_ret R rfl rfl ⟨x10_1_1, rfl, h⟩
  ·refine wp_condF R (congrArg (fun b => some (Value.bool b)) g3) ?_
   refine wp_skip ?_
   refine then_normal ?_
   refine seq_join (fun a w => Rep a 54 [] [] ∧ levylaw19_DrawerDisk.k4  Q w) ?_ ?_
   ·refine wp_seq ?_
    refine wp_region_lit ?_
    refine oas R rfl rfl fun a R => ?_
    refine wpList_nil ?_
    refine then_normal ?_
    refine wp_block ?_
    refine wp_fix (σ := Int) (fun s a => Rep a 54 [(1, Sl.val x1), (5, .pointer x10_1_0), (7, .int .i64 s)] []) h (R.weak ⟨rfl, rfl, rfl, trivial⟩) ?_
    rintro Ks C z5_7 a w hC R h
    have R : Rep a 54 [(1, Sl.val x1), (5, .pointer x10_1_0), (7, .int .i64 z5_7)] [] := R
    have h : levylaw19_DrawerDisk.l5 x1 x10_1_0 z5_7 Q (fun z5_7 w => Ks z5_7 w) w := h
    generalize hK5 : (fun z5_7 w => Ks z5_7 w) = K5 at h
    unfold levylaw19_DrawerDisk.l5 at h
    refine wp_seq ?_
    refine wp_seq ?_
    refine wp_region_lit ?_
    refine omv R rfl rfl fun a R => ?_
    refine omv R rfl rfl fun a R => ?_
    refine op_val R (rn_len R rfl Try.underlying23) rfl fun a R => ?_
    refine op_val R (rn_bin (v := .bool (decide (z5_7 < ((x1.len : Nat) : Int)))) R rfl rfl rfl) rfl fun a R => ?_
    refine wpList_nil ?_
    refine then_normal ?_
    rcases ite_cases h with ⟨g8, h⟩ | ⟨g8, h⟩
    ·refine wp_condT R (congrArg (fun b => some (Value.bool b)) g8) ?_
     refine wp_skip ?_
     refine then_normal ?_
     refine wp_seq ?_
     refine wp_block ?_
     refine seq_join (fun a w => ∃ y9_53 : Bool, Rep a 54 [(1, Sl.val x1), (5, .pointer x10_1_0), (7, .int .i64 z5_7), (53, .bool y9_53)] [] ∧ levylaw19_DrawerDisk.k9 x1 x10_1_0 z5_7 K5 y9_53 Q w) ?_ ?_
     ·refine region_start mo fun inv => ?_
      refine seg_same (n := 5) (f := 5) (g := 16) (by kernel_rfl) fun inv => ?_
      refine dr_val (i := 0) R (waits_dom (by kernel_rfl) (by kernel_rfl)) (by kernel_rfl) inv rfl (by decide) (by kernel_rfl) (by kernel_rfl) (fun _ _ _ h => h) wanted_none (fun w' hS => rn_mv R rfl) rfl (by decide) fun inv a R => ?_
      refine dr_val (i := 1) R (waits_dom (by kernel_rfl) (by kernel_rfl)) (by kernel_rfl) inv rfl (by decide) (by kernel_rfl) (by kernel_rfl) (fun _ _ _ h => h) wanted_none (fun w' hS => rn_mv R rfl) rfl (by decide) fun inv a R => ?_
      refine dr_val (i := 2) R (waits_dom (by kernel_rfl) (by kernel_rfl)) (by kernel_rfl) inv rfl (by decide) (by kernel_rfl) (by kernel_rfl) (fun _ _ _ h => h) wanted_none (fun w' hS => rn_mv R rfl) rfl (by decide) fun inv a R => ?_
      obtain ⟨b12, x36_13, p12, i12, j12, e12, h⟩ := ix_e h
      refine dr_val (v := .pointer (some x36_13)) (i := 3) R (waits_dom (by kernel_rfl) (by kernel_rfl)) (by kernel_rfl) inv rfl (by decide) (by kernel_rfl) (by kernel_rfl) (fun _ _ _ h => h) wanted_none (fun w' hS => by rw [e12]; exact rn_ixs (x := (.tmp 34)) (y := (.tmp 35)) R rfl p12 rfl Try.underlying23 sz38 i12 j12) rfl (by decide) fun inv a R => ?_
      obtain ⟨x37_14_0, cx37_14_0, x37_14_1, cx37_14_1, x37_14_2, cx37_14_2, x37_14_3, cx37_14_3, x37_14_4, cx37_14_4, x37_14_5, cx37_14_5, x37_14_6, cx37_14_6, x37_14_7, cx37_14_7, h⟩ := h
      refine dr_val (i := 4) R (waits_dom (by kernel_rfl) (by kernel_rfl)) (by kernel_rfl) inv rfl (by decide) (by kernel_rfl) (by kernel_rfl) (fun _ _ _ h => h) wanted_none (fun w' hS => rn_ldN (cs := [.int .i64 x37_14_0, .int .i64 x37_14_1, .int .i64 x37_14_2, .bool x37_14_3, .string x37_14_4, Sl.val x37_14_5, Sl.val x37_14_6, .int .u32 x37_14_7]) R rfl Try.underlying38 rfl sz38 (cells_heap hS ⟨cx37_14_0, cx37_14_1, cx37_14_2, cx37_14_3, cx37_14_4, cx37_14_5, cx37_14_6, cx37_14_7, trivial⟩)) rfl (by decide) fun inv a R => ?_
      refine seg_end (by kernel_rfl) ?_
      refine any_call (i := 5) R rfl (by kernel_rfl) wanted_none (rn_calls R rfl cf5) rfl ?_
      refine call_mono (s_levylaw19_pair_disk _ _ _ _ _ _ _ _ _ _ _ h) ?_
      rintro _ w27 ⟨x38_15_0, rfl, h⟩ a R
      refine any_val (i := 6) R rfl (by kernel_rfl) wanted_none (rn_un (v := .bool (!x38_15_0)) R rfl rfl) rfl fun a R => ?_
      refine any_val (i := 7) R rfl (by kernel_rfl) wanted_none (rn_mv R rfl) rfl fun a R => ?_
      rcases ite_cases h with ⟨g16, h⟩ | ⟨g16, h⟩
      ·obtain ⟨x42_17, cx42_17, h⟩ := h
       obtain ⟨x44_18, cx44_18, h⟩ := h
       obtain ⟨x47_19, cx47_19, h⟩ := h
       obtain ⟨x49_20, cx49_20, h⟩ := h
       refine seg_held (n := 17) (f := 9) (g := 4) (fun w : World => w.cell? (x42_17.add 0) = some (.pointer x44_18) ∧ w.cell? (x47_19.add 2) = some (.pointer x49_20) ∧ True) (by kernel_rfl) fun inv => ?_
       have hS0 : (fun w : World => w.cell? (x42_17.add 0) = some (.pointer x44_18) ∧ w.cell? (x47_19.add 2) = some (.pointer x49_20) ∧ True) _ := ⟨cx44_18, cx49_20, trivial⟩
       refine dr_val (i := 8) R (waits_dom (by kernel_rfl) (by kernel_rfl)) (by kernel_rfl) inv rfl (by decide) (by kernel_rfl) (by kernel_rfl) (fun _ _ _ h => h) (wanted_yes R rfl rfl rfl (nf g16)) (fun w' hS => rn_mv R rfl) hS0 rfl fun inv a R => ?_
       refine dr_val (i := 9) R (waits_dom (by kernel_rfl) (by kernel_rfl)) (by kernel_rfl) inv rfl (by decide) (by kernel_rfl) (by kernel_rfl) (fun _ _ _ h => h) (wanted_yes R rfl rfl rfl (nf g16)) (fun w' hS => rn_nil R rfl cx42_17) hS0 rfl fun inv a R => ?_
       refine dr_val (i := 10) R (waits_dom (by kernel_rfl) (by kernel_rfl)) (by kernel_rfl) inv rfl (by decide) (by kernel_rfl) (by kernel_rfl) (fun _ _ _ h => h) (wanted_yes R rfl rfl rfl (nf g16)) (fun w' hS => rn_fld R rfl fd32_0) hS0 rfl fun inv a R => ?_
       refine dr_val (i := 11) R (waits_dom (by kernel_rfl) (by kernel_rfl)) (by kernel_rfl) inv rfl (by decide) (by kernel_rfl) (by kernel_rfl) (fun _ _ _ h => h) (wanted_yes R rfl rfl rfl (nf g16)) (fun w' hS => rn_ld R rfl Try.underlying27 rfl (hS.1)) hS0 rfl fun inv a R => ?_
       refine dr_val (i := 13) R (waits_dom (by kernel_rfl) (by kernel_rfl)) (by kernel_rfl) inv rfl (by decide) (by kernel_rfl) (by kernel_rfl) (fun _ _ _ h => h) (wanted_yes R rfl rfl rfl (nf g16)) (fun w' hS => rn_mv R rfl) hS0 rfl fun inv a R => ?_
       refine dr_val (i := 14) R (waits_dom (by kernel_rfl) (by kernel_rfl)) (by kernel_rfl) inv rfl (by decide) (by kernel_rfl) (by kernel_rfl) (fun _ _ _ h => h) (wanted_yes R rfl rfl rfl (nf g16)) (fun w' hS => rn_nil R rfl cx47_19) hS0 rfl fun inv a R => ?_
       refine dr_val (i := 15) R (waits_dom (by kernel_rfl) (by kernel_rfl)) (by kernel_rfl) inv rfl (by decide) (by kernel_rfl) (by kernel_rfl) (fun _ _ _ h => h) (wanted_yes R rfl rfl rfl (nf g16)) (fun w' hS => rn_fld R rfl fd32_2) hS0 rfl fun inv a R => ?_
       refine dr_val (i := 16) R (waits_dom (by kernel_rfl) (by kernel_rfl)) (by kernel_rfl) inv rfl (by decide) (by kernel_rfl) (by kernel_rfl) (fun _ _ _ h => h) (wanted_yes R rfl rfl rfl (nf g16)) (fun w' hS => rn_ld R rfl Try.underlying29 rfl (hS.2.1)) hS0 rfl fun inv a R => ?_
       refine dr_call (i := 12) R inv rfl (by decide) (by kernel_rfl) (wanted_yes R rfl rfl rfl (nf g16)) (rn_calls R rfl cf7) rfl ?_
       refine call_mono (s_drawer_Disk_Files _ _ _ h) ?_
       rintro _ w26 ⟨x45_21_0, rfl, hS0, h⟩
       refine ⟨hS0, fun a inv R => ?_⟩
       refine seg_end (by kernel_rfl) ?_
       refine any_tail 17 (by kernel_rfl) ?_
       refine op_guard R rfl rfl rfl (nf g16) ?_
       refine op_call R (rn_calls R rfl cf8) rfl ?_
       refine call_mono (s_levyref19_Disk_Files _ _ _ h) ?_
       rintro _ w25 ⟨x50_22_0, rfl, h⟩ a R
       refine op_guard R rfl rfl rfl (nf g16) ?_
       refine op_call R (rn_calls R rfl cf6) rfl ?_
       refine call_mono (s_levylaw19_sameFiles _ _ _ _ h) ?_
       rintro _ w24 ⟨x51_23_0, rfl, h⟩ a R
       refine op_guard R rfl rfl rfl (nf g16) ?_
       refine op_val R (rn_un (v := .bool (!x51_23_0)) R rfl rfl) rfl fun a R => ?_
       refine op_val R (rn_pickF R rfl (nf g16) rfl) rfl fun a R => ?_
       refine wpList_nil ?_
       refine then_normal ?_
       exact ⟨(!x51_23_0), R.weak ⟨rfl, rfl, rfl, rfl, trivial⟩, h⟩
      ·refine seg_held (n := 17) (f := 9) (g := 4) (fun w : World => True) (by kernel_rfl) fun inv => ?_
       have hS0 : True := trivial
       refine dr_pass (i := 8) R (waits_dom (by kernel_rfl) (by kernel_rfl)) (by kernel_rfl) inv rfl (by decide) (by kernel_rfl) (by kernel_rfl) (fun _ _ _ h => h) (wanted_no R rfl rfl rfl (nft (nt g16))) hS0 rfl fun inv a R => ?_
       refine dr_pass (i := 9) R (waits_dom (by kernel_rfl) (by kernel_rfl)) (by kernel_rfl) inv rfl (by decide) (by kernel_rfl) (by kernel_rfl) (fun _ _ _ h => h) (wanted_no R rfl rfl rfl (nft (nt g16))) hS0 rfl fun inv a R => ?_
       refine dr_pass (i := 10) R (waits_dom (by kernel_rfl) (by kernel_rfl)) (by kernel_rfl) inv rfl (by decide) (by kernel_rfl) (by kernel_rfl) (fun _ _ _ h => h) (wanted_no R rfl rfl rfl (nft (nt g16))) hS0 rfl fun inv a R => ?_
       refine dr_pass (i := 11) R (waits_dom (by kernel_rfl) (by kernel_rfl)) (by kernel_rfl) inv rfl (by decide) (by kernel_rfl) (by kernel_rfl) (fun _ _ _ h => h) (wanted_no R rfl rfl rfl (nft (nt g16))) hS0 rfl fun inv a R => ?_
       refine dr_pass (i := 13) R (waits_dom (by kernel_rfl) (by kernel_rfl)) (by kernel_rfl) inv rfl (by decide) (by kernel_rfl) (by kernel_rfl) (fun _ _ _ h => h) (wanted_no R rfl rfl rfl (nft (nt g16))) hS0 rfl fun inv a R => ?_
       refine dr_pass (i := 14) R (waits_dom (by kernel_rfl) (by kernel_rfl)) (by kernel_rfl) inv rfl (by decide) (by kernel_rfl) (by kernel_rfl) (fun _ _ _ h => h) (wanted_no R rfl rfl rfl (nft (nt g16))) hS0 rfl fun inv a R => ?_
       refine dr_pass (i := 15) R (waits_dom (by kernel_rfl) (by kernel_rfl)) (by kernel_rfl) inv rfl (by decide) (by kernel_rfl) (by kernel_rfl) (fun _ _ _ h => h) (wanted_no R rfl rfl rfl (nft (nt g16))) hS0 rfl fun inv a R => ?_
       refine dr_pass (i := 16) R (waits_dom (by kernel_rfl) (by kernel_rfl)) (by kernel_rfl) inv rfl (by decide) (by kernel_rfl) (by kernel_rfl) (fun _ _ _ h => h) (wanted_no R rfl rfl rfl (nft (nt g16))) hS0 rfl fun inv a R => ?_
       refine dr_pass (i := 12) R (waits_dom (by kernel_rfl) (by kernel_rfl)) (by kernel_rfl) inv rfl (by decide) (by kernel_rfl) (by kernel_rfl) (fun _ _ _ h => h) (wanted_no R rfl rfl rfl (nft (nt g16))) hS0 rfl fun inv a R => ?_
       refine seg_end (by kernel_rfl) ?_
       refine any_tail 17 (by kernel_rfl) ?_
       refine op_pass R rfl rfl rfl (nft (nt g16)) (fun a R => ?_) (by intro s hs; cases hs; rfl)
       refine op_pass R rfl rfl rfl (nft (nt g16)) (fun a R => ?_) (by intro s hs; cases hs; rfl)
       refine op_pass R rfl rfl rfl (nft (nt g16)) (fun a R => ?_) (by intro s hs; cases hs; rfl)
       refine op_val R (rn_pickT R rfl (nt g16) rfl) rfl fun a R => ?_
       refine wpList_nil ?_
       refine then_normal ?_
       exact ⟨true, R.weak ⟨rfl, rfl, rfl, rfl, trivial⟩, h⟩
     ·rintro a w ⟨y9_53, R, h⟩
      unfold levylaw19_DrawerDisk.k9 at h
      rcases ite_cases h with ⟨g10, h⟩ | ⟨g10, h⟩
      ·refine wp_condT R (congrArg (fun b => some (Value.bool b)) g10) ?_
       refine wp_seq ?_
       refine wp_region_lit ?_
       refine oas R rfl rfl fun a R => ?_
       refine wpList_nil ?_
       refine then_normal ?_
       refine wp_ret ?_
       refine block_ret ?_
       refine then_ret ?_
       refine then_ret ?_
       refine block_ret ?_
       refine then_ret ?_
       exact post_ret R rfl rfl ⟨false, rfl, h⟩
      ·refine wp_condF R (congrArg (fun b => some (Value.bool b)) g10) ?_
       refine wp_skip ?_
       refine block_normal ?_
       refine then_normal ?_
       refine wp_region_lit ?_
       refine omv R rfl rfl fun a R => ?_
       refine op_val R (rn_bin (v := .int .i64 (IntKind.i64.wrap (z5_7 + 1))) R rfl rfl rfl) rfl fun a R => ?_
       refine oas R rfl rfl fun a R => ?_
       refine wpList_nil ?_
       refine then_normal ?_
       exact hC (IntKind.i64.wrap (z5_7 + 1)) _ _ (R.weak ⟨rfl, rfl, rfl, trivial⟩) (by rw [← hK5] at h; exact h)
    ·refine wp_condF R (congrArg (fun b => some (Value.bool b)) g8) ?_
     refine wp_exit ?_
     refine then_exit ?_
     refine then_exit ?_
     refine block_eq ?_
     refine then_normal ?_
     exact ⟨R.weak trivial, h⟩
   ·rintro a w ⟨R, h⟩
    unfold levylaw19_DrawerDisk.k4 at h
    refine wp_seq ?_
    refine wp_region_lit ?_
    refine oas R rfl rfl fun a R => ?_
    refine wpList_nil ?_
    refine then_normal ?_
    refine wp_ret ?_
    exact post_ret R rfl rfl ⟨true, rfl, h⟩
theorem s_levylaw19_DrawerDisk (x0 : Sl) (x1 : Sl) (Q : Bool → World → Prop) (w : World) (h : levylaw19_DrawerDisk x0 x1 Q w) :
    Calls Try.prog 3 #[Sl.val x0, Sl.val x1] w (Rets fun v w => ∃ r0 : Bool, v = (.bool r0 : Value) ∧ Q r0 w) :=
  calls_body (args := [Sl.val x0, Sl.val x1]) Try.func3 rfl rfl (Nat.le_of_ble_eq_true rfl) (L := [(0, Sl.val x0), (1, Sl.val x1)]) (by simp [starts]) (b_levylaw19_DrawerDisk x0 x1 Q w h rfl)

end Go.Proofs.Ytjnifnlkicajhaa.Fs
