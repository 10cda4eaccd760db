/-
  Written by a program of this claim (wip/gen/gen.py): what each Go function asks of the world, as a plain predicate, and that it is enough. No condition is put on any statement here.
-/
import Derived.Test.YtjnifnlkicajhaaVcDraw
import Derived.Test.YtjnifnlkicajhaaFacts
import Derived.Test.YtjnifnlkicajhaaG3
set_option linter.unusedVariables false
set_option maxRecDepth 100000
set_option maxHeartbeats 2000000
namespace Go.Proofs.Ytjnifnlkicajhaa.Fs
open Go Vc

/-! (drawer.Disk).change -/

def drawer_Disk_change (x0 : Option Addr) (x1 : ByteArray) (x2 : Value) (Q : Int → World → Prop) (w : World) : Prop :=
  drawer_Disk_ahead x0 x1 (fun x13_1_0 w => (if (x13_1_0 != 0) = true then Q x13_1_0 w else nn x0 fun x18_4 => ld Value.map w (x18_4.add 0) fun x20_5 => rn Try.prog Value.pointer (Instr.lookup 94 (.map x20_5) (.string x1) false) w fun x22_6 w => (if (Option.isNone x22_6) = true then Q 193 w else drawer_Disk_paid x0 1 (fun x27_9_0 x27_9_1 w => (if x27_9_1 = true then Q 190 w else cv Try.prog x2 [.pointer x22_6] w (fun v w => v = (.tuple #[] : Value) ∧ Q 0 w))) w))) w

theorem b_drawer_Disk_change (x0 : Option Addr) (x1 : ByteArray) (x2 : Value) (Q : Int → World → Prop) (w : World) (h : drawer_Disk_change x0 x1 x2 Q w) {c : Code} (hb : Try.f67.body = some c) :
 ∀ a, Rep a 34 [(0, .pointer x0), (1, .string x1), (2, x2)] [] → c.wp Try.prog (bodyPost Try.prog Try.f67 (Rets fun v w => ∃ r0 : Int, v = (.int .i64 r0 : Value) ∧ Q r0 w)) a w := by
 intro a R
 obtain rfl := Option.some.inj hb
 unfold drawer_Disk_change at h
 refine wp_seq ?_
 refine wp_region_lit ?_
 refine oas R rfl rfl fun a R => ?_
 refine wpList_nil ?_
 refine then_normal ?_
 refine wp_seq ?_
 refine wp_seq ?_
 refine wp_region_lit ?_
 refine omv R rfl rfl fun a R => ?_
 refine omv R rfl rfl fun a R => ?_
 refine op_call R (rn_calls R rfl cf62) rfl ?_
 refine call_mono (s_drawer_Disk_ahead _ _ _ _ h) ?_
 rintro _ w14 ⟨x13_1_0, rfl, h⟩ a R
 refine oas R rfl rfl fun a R => ?_
 refine wpList_nil ?_
 refine then_normal ?_
 refine wp_seq ?_
 refine wp_region_lit ?_
 refine omv R rfl rfl fun a R => ?_
 refine op_val R (rn_bin (v := .bool (x13_1_0 != 0)) R rfl rfl rfl) rfl fun a R => ?_
 refine wpList_nil ?_
 refine then_normal ?_
 rcases ite_cases h with ⟨g3, h⟩ | ⟨g3, h⟩
 ·refine wp_condT R (congrArg (fun b => some (Value.bool b)) g3) ?_
  refine wp_seq ?_
  refine wp_region_lit ?_
  refine omv R rfl rfl fun a R => ?_
  refine oas R rfl rfl fun a R => ?_
  refine wpList_nil ?_
  refine then_normal ?_
  refine wp_ret ?_
  refine then_ret ?_
  exact post_ret R rfl rfl ⟨x13_1_0, rfl, h⟩
 ·refine wp_condF R (congrArg (fun b => some (Value.bool b)) g3) ?_
  refine wp_skip ?_
  refine then_normal ?_
  refine wp_seq ?_
  refine wp_region_lit ?_
  refine omv R rfl rfl fun a R => ?_
  obtain ⟨x18_4, cx18_4, h⟩ := h
  refine onl R rfl cx18_4 rfl fun a R => ?_
  refine ofd R rfl fd96_0 rfl fun a R => ?_
  obtain ⟨x20_5, cx20_5, h⟩ := h
  refine old R rfl Try.underlying94 rfl cx20_5 rfl fun a R => ?_
  refine omv R rfl rfl fun a R => ?_
  obtain ⟨x22_6, w7, cx22_6, h⟩ := h
  refine op_val R (rn_lookup R rfl rfl cx22_6) rfl fun a R => ?_
  refine oas R rfl rfl fun a R => ?_
  refine wpList_nil ?_
  refine then_normal ?_
  refine wp_seq ?_
  refine wp_seq ?_
  refine wp_region_lit ?_
  refine omv R rfl rfl fun a R => ?_
  refine op_val R (rn_nilPE R rfl rfl Try.underlying93) rfl fun a R => ?_
  refine wpList_nil ?_
  refine then_normal ?_
  rcases ite_cases h with ⟨g8, h⟩ | ⟨g8, h⟩
  ·refine wp_condT R (congrArg (fun b => some (Value.bool b)) g8) ?_
   refine wp_seq ?_
   refine wp_region_lit ?_
   refine oas R rfl rfl fun a R => ?_
   refine wpList_nil ?_
   refine then_normal ?_
   refine wp_ret ?_
   refine then_ret ?_
   exact post_ret R rfl rfl ⟨193, rfl, h⟩
  ·refine wp_condF R (congrArg (fun b => some (Value.bool b)) g8) ?_
   refine wp_skip ?_
   refine then_normal ?_
   refine wp_seq ?_
   refine wp_seq ?_
   refine wp_region_lit ?_
   refine omv R rfl rfl fun a R => ?_
   refine op_call R (rn_calls R rfl cf63) rfl ?_
   refine call_mono (s_drawer_Disk_paid _ _ _ _ h) ?_
   rintro _ w13 ⟨x27_9_0, x27_9_1, rfl, h⟩ a R
   refine omv R rfl rfl fun a R => ?_
   refine op_val R (rn_ext R rfl rfl) rfl fun a R => ?_
   refine op_val R (rn_ext R rfl rfl) rfl fun a R => ?_
   refine oas R rfl rfl fun a R => ?_
   refine oas R rfl rfl fun a R => ?_
   refine wpList_nil ?_
   refine then_normal ?_
   refine wp_seq ?_
   refine wp_region_lit ?_
   refine omv R rfl rfl fun a R => ?_
   refine wpList_nil ?_
   refine then_normal ?_
   rcases ite_cases h with ⟨g10, h⟩ | ⟨g10, h⟩
   ·refine wp_condT R (congrArg (fun b => some (Value.bool b)) g10) ?_
    refine wp_seq ?_
    refine wp_region_lit ?_
    refine oas R rfl rfl fun a R => ?_
    refine wpList_nil ?_
    refine then_normal ?_
    refine wp_ret ?_
    refine then_ret ?_
    exact post_ret R rfl rfl ⟨190, rfl, h⟩
   ·refine wp_condF R (congrArg (fun b => some (Value.bool b)) g10) ?_
    refine wp_skip ?_
    refine then_normal ?_
    refine wp_seq ?_
    refine wp_region_lit ?_
    refine omv R rfl rfl fun a R => ?_
    refine omv R rfl rfl fun a R => ?_
    obtain ⟨fid11, cap11, hf11, hc11, h⟩ := h
    refine op_call R (rn_callv R rfl hf11 rfl hc11) rfl ?_
    refine call_mono (h) ?_
    rintro _ w12 ⟨rfl, h⟩ a R
    refine wpList_nil ?_
    refine then_normal ?_
    refine wp_seq ?_
    refine wp_region_lit ?_
    refine oas R rfl rfl fun a R => ?_
    refine wpList_nil ?_
    refine then_normal ?_
    refine wp_ret ?_
    exact post_ret R rfl rfl ⟨0, rfl, h⟩
theorem s_drawer_Disk_change (x0 : Option Addr) (x1 : ByteArray) (x2 : Value) (Q : Int → World → Prop) (w : World) (h : drawer_Disk_change x0 x1 x2 Q w) :
    Calls Try.prog 67 #[.pointer x0, .string x1, x2] w (Rets fun v w => ∃ r0 : Int, v = (.int .i64 r0 : Value) ∧ Q r0 w) :=
  calls_body (args := [.pointer x0, .string x1, x2]) Try.func67 rfl rfl (Nat.le_of_ble_eq_true rfl) (L := [(0, .pointer x0), (1, .string x1), (2, x2)]) (by simp [starts]) (b_drawer_Disk_change x0 x1 x2 Q w h rfl)

/-! (drawer.Disk).Sync$1 -/

def drawer_Disk_Sync_1 (x0 : Option Addr) (Q : World → Prop) (w : World) : Prop :=
  nn x0 fun x4_1 => ld Sl.val w (x4_1.add 0) fun x6_2 => nn x0 fun x8_4 => st w (x8_4.add 1) (.int .i64 ((x6_2.len : Nat) : Int)) fun w => Q  w

theorem b_drawer_Disk_Sync_1 (x0 : Option Addr) (Q : World → Prop) (w : World) (h : drawer_Disk_Sync_1 x0 Q w) {c : Code} (hb : Try.f68.body = some c) :
 ∀ a, Rep a 10 [(0, .pointer x0)] [] → c.wp Try.prog (bodyPost Try.prog Try.f68 (Rets fun v w => v = (.tuple #[] : Value) ∧ Q w)) a w := by
 intro a R
 obtain rfl := Option.some.inj hb
 unfold drawer_Disk_Sync_1 at h
 refine wp_region_lit ?_
 refine omv R rfl rfl fun a R => ?_
 refine omv R rfl rfl fun a R => ?_
 obtain ⟨x4_1, cx4_1, h⟩ := h
 refine onl R rfl cx4_1 rfl fun a R => ?_
 refine ofd R rfl fd98_0 rfl fun a R => ?_
 obtain ⟨x6_2, cx6_2, h⟩ := h
 refine old R rfl Try.underlying34 rfl cx6_2 rfl fun a R => ?_
 refine op_val R (rn_len R rfl Try.underlying34) rfl fun a R => ?_
 obtain ⟨x8_4, cx8_4, h⟩ := h
 refine onl R rfl cx8_4 rfl fun a R => ?_
 refine ofd R rfl fd98_1 rfl fun a R => ?_
 obtain ⟨q5, f5, h⟩ := h
 refine op_unit R (rn_st R rfl rfl rfl sz3 q5 f5) fun a R => ?_
 refine wpList_nil ?_
 exact post_end R rfl rfl ⟨rfl, h⟩
theorem s_drawer_Disk_Sync_1 (x0 : Option Addr) (Q : World → Prop) (w : World) (h : drawer_Disk_Sync_1 x0 Q w) :
    Calls Try.prog 68 #[.pointer x0] w (Rets fun v w => v = (.tuple #[] : Value) ∧ Q w) :=
  calls_body (args := [.pointer x0]) Try.func68 rfl rfl (Nat.le_of_ble_eq_true rfl) (L := [(0, .pointer x0)]) (by simp [starts]) (b_drawer_Disk_Sync_1 x0 Q w h rfl)

/-! (drawer.Disk).Sync -/

def drawer_Disk_Sync (x0 : Option Addr) (x1 : ByteArray) (Q : Int → World → Prop) (w : World) : Prop :=
  drawer_Disk_change x0 x1 (.func (.func 68) #[] [].toArray : Value) (fun x7_1_0 w => Q x7_1_0 w) w

theorem b_drawer_Disk_Sync (x0 : Option Addr) (x1 : ByteArray) (Q : Int → World → Prop) (w : World) (h : drawer_Disk_Sync x0 x1 Q w) {c : Code} (hb : Try.f17.body = some c) :
 ∀ a, Rep a 8 [(0, .pointer x0), (1, .string x1)] [] → c.wp Try.prog (bodyPost Try.prog Try.f17 (Rets fun v w => ∃ r0 : Int, v = (.int .i64 r0 : Value) ∧ Q r0 w)) a w := by
 intro a R
 obtain rfl := Option.some.inj hb
 unfold drawer_Disk_Sync at h
 refine wp_seq ?_
 refine wp_region_lit ?_
 refine oas R rfl rfl fun a R => ?_
 refine wpList_nil ?_
 refine then_normal ?_
 refine wp_seq ?_
 refine wp_region_lit ?_
 refine omv R rfl rfl fun a R => ?_
 refine omv R rfl rfl fun a R => ?_
 refine op_call R (rn_calls R rfl cf67) rfl ?_
 refine call_mono (s_drawer_Disk_change _ _ _ _ _ h) ?_
 rintro _ w2 ⟨x7_1_0, rfl, h⟩ a R
 refine oas R rfl rfl fun a R => ?_
 refine wpList_nil ?_
 refine then_normal ?_
 refine wp_ret ?_
 exact post_ret R rfl rfl ⟨x7_1_0, rfl, h⟩
theorem s_drawer_Disk_Sync (x0 : Option Addr) (x1 : ByteArray) (Q : Int → World → Prop) (w : World) (h : drawer_Disk_Sync x0 x1 Q w) :
    Calls Try.prog 17 #[.pointer x0, .string x1] w (Rets fun v w => ∃ r0 : Int, v = (.int .i64 r0 : Value) ∧ Q r0 w) :=
  calls_body (args := [.pointer x0, .string x1]) Try.func17 rfl rfl (Nat.le_of_ble_eq_true rfl) (L := [(0, .pointer x0), (1, .string x1)]) (by simp [starts]) (b_drawer_Disk_Sync x0 x1 Q w h rfl)

/-! (levyref19.Disk).changes -/

def levyref19_Disk_changes (x0 : Option Addr) (x1 : ByteArray) (Q : Int → Int → World → Prop) (w : World) : Prop :=
  levyref19_Disk_first x0 x1 (fun x13_1_0 w => (if (x13_1_0 != 0) = true then Q 0 x13_1_0 w else levyref19_Disk_place x0 x1 (fun x20_4_0 x20_4_1 w => (if x20_4_1 = true then levyref19_Disk_pays x0 1 (fun x27_6_0 x27_6_1 w => (if x27_6_0 = true then Q x20_4_0 0 w else Q 0 190 w)) w else Q 0 193 w)) w)) w

theorem b_levyref19_Disk_changes (x0 : Option Addr) (x1 : ByteArray) (Q : Int → Int → World → Prop) (w : World) (h : levyref19_Disk_changes x0 x1 Q w) {c : Code} (hb : Try.f69.body = some c) :
 ∀ a, Rep a 33 [(0, .pointer x0), (1, .string x1)] [] → c.wp Try.prog (bodyPost Try.prog Try.f69 (Rets fun v w => ∃ r0 : Int, ∃ r1 : Int, v = (.tuple #[.int .i64 r0, .int .i64 r1] : Value) ∧ Q r0 r1 w)) a w := by
 intro a R
 obtain rfl := Option.some.inj hb
 unfold levyref19_Disk_changes at h
 refine wp_seq ?_
 refine wp_region_lit ?_
 refine oas R rfl rfl fun a R => ?_
 refine oas R rfl rfl fun a R => ?_
 refine wpList_nil ?_
 refine then_normal ?_
 refine wp_seq ?_
 refine wp_region_lit ?_
 refine omv R rfl rfl fun a R => ?_
 refine omv R rfl rfl fun a R => ?_
 refine op_call R (rn_calls R rfl cf65) rfl ?_
 refine call_mono (s_levyref19_Disk_first _ _ _ _ h) ?_
 rintro _ w10 ⟨x13_1_0, rfl, h⟩ a R
 refine oas R rfl rfl fun a R => ?_
 refine wpList_nil ?_
 refine then_normal ?_
 refine wp_seq ?_
 refine wp_seq ?_
 refine wp_region_lit ?_
 refine omv R rfl rfl fun a R => ?_
 refine op_val R (rn_bin (v := .bool (x13_1_0 != 0)) R rfl rfl rfl) rfl fun a R => ?_
 refine wpList_nil ?_
 refine then_normal ?_
 rcases ite_cases h with ⟨g3, h⟩ | ⟨g3, h⟩
 ·refine wp_condT R (congrArg (fun b => some (Value.bool b)) g3) ?_
  refine wp_seq ?_
  refine wp_region_lit ?_
  refine omv R rfl rfl fun a R => ?_
  refine oas R rfl rfl fun a R => ?_
  refine oas R rfl rfl fun a R => ?_
  refine wpList_nil ?_
  refine then_normal ?_
  refine wp_ret ?_
  refine then_ret ?_
  exact post_ret R rfl rfl ⟨0, x13_1_0, rfl, h⟩
 ·refine wp_condF R (congrArg (fun b => some (Value.bool b)) g3) ?_
  refine wp_skip ?_
  refine then_normal ?_
  refine wp_seq ?_
  refine wp_region_lit ?_
  refine omv R rfl rfl fun a R => ?_
  refine omv R rfl rfl fun a R => ?_
  refine op_call R (rn_calls R rfl cf38) rfl ?_
  refine call_mono (s_levyref19_Disk_place _ _ _ _ h) ?_
  rintro _ w9 ⟨x20_4_0, x20_4_1, rfl, h⟩ a R
  refine omv R rfl rfl fun a R => ?_
  refine op_val R (rn_ext R rfl rfl) rfl fun a R => ?_
  refine op_val R (rn_ext R rfl rfl) rfl fun a R => ?_
  refine oas R rfl rfl fun a R => ?_
  refine oas R rfl rfl fun a R => ?_
  refine wpList_nil ?_
  refine then_normal ?_
  refine wp_seq ?_
  refine wp_seq ?_
  refine wp_region_lit ?_
  refine omv R rfl rfl fun a R => ?_
  refine op_val R (rn_un (v := .bool (!x20_4_1)) R rfl rfl) rfl fun a R => ?_
  refine wpList_nil ?_
  refine then_normal ?_
  rcases ite_cases h with ⟨g5, h⟩ | ⟨g5, h⟩
  ·refine wp_condF R (congrArg (fun b => some (Value.bool b)) (nf g5)) ?_
   refine wp_skip ?_
   refine then_normal ?_
   refine wp_seq ?_
   refine wp_region_lit ?_
   refine omv R rfl rfl fun a R => ?_
   refine op_call R (rn_calls R rfl cf66) rfl ?_
   refine call_mono (s_levyref19_Disk_pays _ _ _ _ h) ?_
   rintro _ w8 ⟨x27_6_0, x27_6_1, rfl, h⟩ a R
   refine omv R rfl rfl fun a R => ?_
   refine op_val R (rn_ext R rfl rfl) rfl fun a R => ?_
   refine op_val R (rn_ext R rfl rfl) rfl fun a R => ?_
   refine oas R rfl rfl fun a R => ?_
   refine oas R rfl rfl fun a R => ?_
   refine wpList_nil ?_
   refine then_normal ?_
   refine wp_seq ?_
   refine wp_seq ?_
   refine wp_region_lit ?_
   refine omv R rfl rfl fun a R => ?_
   refine op_val R (rn_un (v := .bool (!x27_6_0)) R rfl rfl) rfl fun a R => ?_
   refine wpList_nil ?_
   refine then_normal ?_
   rcases ite_cases h with ⟨g7, h⟩ | ⟨g7, h⟩
   ·refine wp_condF R (congrArg (fun b => some (Value.bool b)) (nf g7)) ?_
    refine wp_skip ?_
    refine then_normal ?_
    refine wp_seq ?_
    refine wp_region_lit ?_
    refine omv R rfl rfl fun a R => ?_
    refine oas R rfl rfl fun a R => ?_
    refine oas R rfl rfl fun a R => ?_
    refine wpList_nil ?_
    refine then_normal ?_
    refine wp_ret ?_
    exact post_ret R rfl rfl ⟨x20_4_0, 0, rfl, h⟩
   ·refine wp_condT R (congrArg (fun b => some (Value.bool b)) (nt g7)) ?_
    refine wp_seq ?_
    refine wp_region_lit ?_
    refine oas R rfl rfl fun a R => ?_
    refine oas R rfl rfl fun a R => ?_
    refine wpList_nil ?_
    refine then_normal ?_
    refine wp_ret ?_
    refine then_ret ?_
    exact post_ret R rfl rfl ⟨0, 190, rfl, h⟩
  ·refine wp_condT R (congrArg (fun b => some (Value.bool b)) (nt g5)) ?_
   refine wp_seq ?_
   refine wp_region_lit ?_
   refine oas R rfl rfl fun a R => ?_
   refine oas R rfl rfl fun a R => ?_
   refine wpList_nil ?_
   refine then_normal ?_
   refine wp_ret ?_
   refine then_ret ?_
   exact post_ret R rfl rfl ⟨0, 193, rfl, h⟩
theorem s_levyref19_Disk_changes (x0 : Option Addr) (x1 : ByteArray) (Q : Int → Int → World → Prop) (w : World) (h : levyref19_Disk_changes x0 x1 Q w) :
    Calls Try.prog 69 #[.pointer x0, .string x1] w (Rets fun v w => ∃ r0 : Int, ∃ r1 : Int, v = (.tuple #[.int .i64 r0, .int .i64 r1] : Value) ∧ Q r0 r1 w) :=
  calls_body (args := [.pointer x0, .string x1]) Try.func69 rfl rfl (Nat.le_of_ble_eq_true rfl) (L := [(0, .pointer x0), (1, .string x1)]) (by simp [starts]) (b_levyref19_Disk_changes x0 x1 Q w h rfl)

/-! (levyref19.Disk).Sync -/

def levyref19_Disk_Sync.k2 (x10_1_1 : Int) (Q : Int → World → Prop) (w : World) : Prop :=
  Q x10_1_1 w

def levyref19_Disk_Sync (x0 : Option Addr) (x1 : ByteArray) (Q : Int → World → Prop) (w : World) : Prop :=
  levyref19_Disk_changes x0 x1 (fun x10_1_0 x10_1_1 w => (if (x10_1_1 == 0) = true then nn x0 fun x16_5 => ld Sl.val (World.drew w) (x16_5.add 0) fun x18_6 => nn x0 fun x21_7 => ld Sl.val (World.drew w) (x21_7.add 0) fun x23_8 => ix x23_8.p x23_8.len x10_1_0 3 fun x25_10 => ld Sl.val (World.drew w) (x25_10.add 1) fun x27_11 => ix x18_6.p x18_6.len x10_1_0 3 fun x29_14 => st (World.drew w) (x29_14.add 2) (.int .i64 ((x27_11.len : Nat) : Int)) fun w => levyref19_Disk_Sync.k2 x10_1_1 Q w else levyref19_Disk_Sync.k2 x10_1_1 Q w)) w

theorem b_levyref19_Disk_Sync (x0 : Option Addr) (x1 : ByteArray) (Q : Int → World → Prop) (w : World) (h : levyref19_Disk_Sync x0 x1 Q w) {c : Code} (hb : Try.f18.body = some c) :
 ∀ a, Rep a 32 [(0, .pointer x0), (1, .string x1)] [] → c.wp Try.prog (bodyPost Try.prog Try.f18 (Rets fun v w => ∃ r0 : Int, v = (.int .i64 r0 : Value) ∧ Q r0 w)) a w := by
 intro a R
 obtain rfl := Option.some.inj hb
 unfold levyref19_Disk_Sync at h
 refine wp_seq ?_
 refine wp_region_lit ?_
 refine oas R rfl rfl fun a R => ?_
 refine wpList_nil ?_
 refine then_normal ?_
 refine wp_seq ?_
 refine wp_region_lit ?_
 refine omv R rfl rfl fun a R => ?_
 refine omv R rfl rfl fun a R => ?_
 refine op_call R (rn_calls R rfl cf69) rfl ?_
 refine call_mono (s_levyref19_Disk_changes _ _ _ _ h) ?_
 rintro _ w16 ⟨x10_1_0, x10_1_1, rfl, h⟩ a R
 refine omv R rfl rfl fun a R => ?_
 refine op_val R (rn_ext R rfl rfl) rfl fun a R => ?_
 refine op_val R (rn_ext R rfl rfl) rfl fun a R => ?_
 refine oas R rfl rfl fun a R => ?_
 refine oas R rfl rfl fun a R => ?_
 refine wpList_nil ?_
 refine then_normal ?_
 refine seq_join (fun a w => Rep a 32 [(6, .int .i64 x10_1_1)] [] ∧ levyref19_Disk_Sync.k2 x10_1_1 Q w) ?_ ?_
 ·refine wp_seq ?_
  refine wp_region_lit ?_
  refine omv R rfl rfl fun a R => ?_
  refine op_val R (rn_bin (v := .bool (x10_1_1 == 0)) R rfl rfl rfl) rfl fun a R => ?_
  refine wpList_nil ?_
  refine then_normal ?_
  rcases ite_cases h with ⟨g4, h⟩ | ⟨g4, h⟩
  ·refine wp_condT R (congrArg (fun b => some (Value.bool b)) g4) ?_
   refine region_start mo fun inv => ?_
   refine seg_same (n := 14) (f := 14) (g := 3) (by kernel_rfl) fun inv => ?_
   refine dr_val (i := 0) R (waits_dom (by kernel_rfl) (by kernel_rfl)) (by kernel_rfl) inv rfl (by decide) (by kernel_rfl) (by kernel_rfl) (fun _ _ _ h => h) wanted_none (fun w' hS => rn_mv R rfl) rfl (by decide) fun inv a R => ?_
   obtain ⟨x16_5, cx16_5, h⟩ := h
   refine dr_val (i := 1) R (waits_dom (by kernel_rfl) (by kernel_rfl)) (by kernel_rfl) inv rfl (by decide) (by kernel_rfl) (by kernel_rfl) (fun _ _ _ h => h) wanted_none (fun w' hS => rn_nil R rfl cx16_5) rfl (by decide) fun inv a R => ?_
   refine dr_val (i := 2) R (waits_dom (by kernel_rfl) (by kernel_rfl)) (by kernel_rfl) inv rfl (by decide) (by kernel_rfl) (by kernel_rfl) (fun _ _ _ h => h) wanted_none (fun w' hS => rn_fld R rfl fd100_0) rfl (by decide) fun inv a R => ?_
   obtain ⟨x18_6, cx18_6, h⟩ := h
   refine dr_val (i := 3) R (waits_dom (by kernel_rfl) (by kernel_rfl)) (by kernel_rfl) inv rfl (by decide) (by kernel_rfl) (by kernel_rfl) (fun _ _ _ h => h) wanted_none (fun w' hS => rn_ld R rfl Try.underlying22 rfl (cell_heap' hS cx18_6)) rfl (by decide) fun inv a R => ?_
   refine dr_val (i := 4) R (waits_dom (by kernel_rfl) (by kernel_rfl)) (by kernel_rfl) inv rfl (by decide) (by kernel_rfl) (by kernel_rfl) (fun _ _ _ h => h) wanted_none (fun w' hS => rn_mv R rfl) rfl (by decide) fun inv a R => ?_
   refine dr_val (i := 5) R (waits_dom (by kernel_rfl) (by kernel_rfl)) (by kernel_rfl) inv rfl (by decide) (by kernel_rfl) (by kernel_rfl) (fun _ _ _ h => h) wanted_none (fun w' hS => rn_mv R rfl) rfl (by decide) fun inv a R => ?_
   obtain ⟨x21_7, cx21_7, h⟩ := h
   refine dr_val (i := 6) R (waits_dom (by kernel_rfl) (by kernel_rfl)) (by kernel_rfl) inv rfl (by decide) (by kernel_rfl) (by kernel_rfl) (fun _ _ _ h => h) wanted_none (fun w' hS => rn_nil R rfl cx21_7) rfl (by decide) fun inv a R => ?_
   refine dr_val (i := 7) R (waits_dom (by kernel_rfl) (by kernel_rfl)) (by kernel_rfl) inv rfl (by decide) (by kernel_rfl) (by kernel_rfl) (fun _ _ _ h => h) wanted_none (fun w' hS => rn_fld R rfl fd100_0) rfl (by decide) fun inv a R => ?_
   obtain ⟨x23_8, cx23_8, h⟩ := h
   refine dr_val (i := 8) R (waits_dom (by kernel_rfl) (by kernel_rfl)) (by kernel_rfl) inv rfl (by decide) (by kernel_rfl) (by kernel_rfl) (fun _ _ _ h => h) wanted_none (fun w' hS => rn_ld R rfl Try.underlying22 rfl (cell_heap' hS cx23_8)) rfl (by decide) fun inv a R => ?_
   refine dr_val (i := 9) R (waits_dom (by kernel_rfl) (by kernel_rfl)) (by kernel_rfl) inv rfl (by decide) (by kernel_rfl) (by kernel_rfl) (fun _ _ _ h => h) wanted_none (fun w' hS => rn_mv R rfl) rfl (by decide) fun inv a R => ?_
   obtain ⟨b9, x25_10, p9, i9, j9, e9, h⟩ := ix_e h
   refine dr_val (v := .pointer (some x25_10)) (i := 10) R (waits_dom (by kernel_rfl) (by kernel_rfl)) (by kernel_rfl) inv rfl (by decide) (by kernel_rfl) (by kernel_rfl) (fun _ _ _ h => h) wanted_none (fun w' hS => by rw [e9]; exact rn_ixs (x := (.tmp 23)) (y := (.tmp 24)) R rfl p9 rfl Try.underlying22 sz74 i9 j9) rfl (by decide) fun inv a R => ?_
   refine dr_val (i := 11) R (waits_dom (by kernel_rfl) (by kernel_rfl)) (by kernel_rfl) inv rfl (by decide) (by kernel_rfl) (by kernel_rfl) (fun _ _ _ h => h) wanted_none (fun w' hS => rn_fld R rfl fd74_1) rfl (by decide) fun inv a R => ?_
   obtain ⟨x27_11, cx27_11, h⟩ := h
   refine dr_val (i := 12) R (waits_dom (by kernel_rfl) (by kernel_rfl)) (by kernel_rfl) inv rfl (by decide) (by kernel_rfl) (by kernel_rfl) (fun _ _ _ h => h) wanted_none (fun w' hS => rn_ld R rfl Try.underlying34 rfl (cell_heap' hS cx27_11)) rfl (by decide) fun inv a R => ?_
   refine dr_val (i := 13) R (waits_dom (by kernel_rfl) (by kernel_rfl)) (by kernel_rfl) inv rfl (by decide) (by kernel_rfl) (by kernel_rfl) (fun _ _ _ h => h) wanted_none (fun w' hS => rn_len R rfl Try.underlying34) rfl (by decide) fun inv a R => ?_
   refine seg_end (by kernel_rfl) ?_
   refine any_tail 14 (by kernel_rfl) ?_
   obtain ⟨b13, x29_14, p13, i13, j13, e13, h⟩ := ix_e h
   refine op_val (v := .pointer (some x29_14)) R (by rw [e13]; exact rn_ixs (x := (.tmp 18)) (y := (.tmp 19)) R rfl p13 rfl Try.underlying22 sz74 i13 j13) rfl fun a R => ?_
   refine ofd R rfl fd74_2 rfl fun a R => ?_
   obtain ⟨q15, f15, h⟩ := h
   refine op_unit R (rn_st R rfl rfl rfl sz3 q15 f15) fun a R => ?_
   refine wpList_nil ?_
   refine then_normal ?_
   exact ⟨R.weak ⟨rfl, trivial⟩, h⟩
  ·refine wp_condF R (congrArg (fun b => some (Value.bool b)) g4) ?_
   refine wp_skip ?_
   refine then_normal ?_
   exact ⟨R.weak ⟨rfl, trivial⟩, h⟩
 ·rintro a w ⟨R, h⟩
  unfold levyref19_Disk_Sync.k2 at h
  refine wp_seq ?_
  refine wp_region_lit ?_
  refine omv R rfl rfl fun a R => ?_
  refine oas R rfl rfl fun a R => ?_
  refine wpList_nil ?_
  refine then_normal ?_
  refine wp_ret ?_
  exact post_ret R rfl rfl ⟨x10_1_1, rfl, h⟩
theorem s_levyref19_Disk_Sync (x0 : Option Addr) (x1 : ByteArray) (Q : Int → World → Prop) (w : World) (h : levyref19_Disk_Sync x0 x1 Q w) :
    Calls Try.prog 18 #[.pointer x0, .string x1] w (Rets fun v w => ∃ r0 : Int, v = (.int .i64 r0 : Value) ∧ Q r0 w) :=
  calls_body (args := [.pointer x0, .string x1]) Try.func18 rfl rfl (Nat.le_of_ble_eq_true rfl) (L := [(0, .pointer x0), (1, .string x1)]) (by simp [starts]) (b_levyref19_Disk_Sync x0 x1 Q w h rfl)

/-! (drawer.Disk).Trim$1 -/

def drawer_Disk_Trim_1 (x0 : Option Addr) (x1 : Addr) (Q : World → Prop) (w : World) : Prop :=
  nn x0 fun x5_1 => ld Sl.val (World.drew w) (x5_1.add 0) fun x7_2 => ld (Value.int .i64) (World.drew w) x1 fun x8_3 => nn x0 fun x11_5 => ld Sl.val (World.drew w) (x11_5.add 0) fun x13_6 => (0 ≤ (if ((x13_6.len : Nat) : Int) < (if 0 > x8_3 then 0 else x8_3) then ((x13_6.len : Nat) : Int) else (if 0 > x8_3 then 0 else x8_3)) ∧ (if ((x13_6.len : Nat) : Int) < (if 0 > x8_3 then 0 else x8_3) then ((x13_6.len : Nat) : Int) else (if 0 > x8_3 then 0 else x8_3)) ≤ ((x7_2.cap : Nat) : Int) ∧ nn x0 fun x17_10 => st (World.drew w) (x17_10.add 0) (Sl.val (cutSl ⟨x7_2.p, x7_2.len, x7_2.cap⟩ 1 0 (Int.toNat (if ((x13_6.len : Nat) : Int) < (if 0 > x8_3 then 0 else x8_3) then ((x13_6.len : Nat) : Int) else (if 0 > x8_3 then 0 else x8_3))) x7_2.cap)) fun w => nn x0 fun x21_12 => ld (Value.int .i64) (World.drew w) (x21_12.add 1) fun x23_13 => nn x0 fun x25_14 => ld Sl.val (World.drew w) (x25_14.add 0) fun x27_15 => nn x0 fun x30_18 => st (World.drew w) (x30_18.add 1) (.int .i64 (if ((x27_15.len : Nat) : Int) < x23_13 then ((x27_15.len : Nat) : Int) else x23_13)) fun w => Q  w)

theorem b_drawer_Disk_Trim_1 (x0 : Option Addr) (x1 : Addr) (Q : World → Prop) (w : World) (h : drawer_Disk_Trim_1 x0 x1 Q w) {c : Code} (hb : Try.f70.body = some c) :
 ∀ a, Rep a 32 [(0, .pointer x0), (1, .pointer (some x1))] [] → c.wp Try.prog (bodyPost Try.prog Try.f70 (Rets fun v w => v = (.tuple #[] : Value) ∧ Q w)) a w := by
 intro a R
 obtain rfl := Option.some.inj hb
 unfold drawer_Disk_Trim_1 at h
 refine wp_seq ?_
 refine region_start mo fun inv => ?_
 refine seg_same (n := 14) (f := 14) (g := 3) (by kernel_rfl) fun inv => ?_
 refine dr_val (i := 0) R (waits_dom (by kernel_rfl) (by kernel_rfl)) (by kernel_rfl) inv rfl (by decide) (by kernel_rfl) (by kernel_rfl) (fun _ _ _ h => h) wanted_none (fun w' hS => rn_mv R rfl) rfl (by decide) fun inv a R => ?_
 refine dr_val (i := 1) R (waits_dom (by kernel_rfl) (by kernel_rfl)) (by kernel_rfl) inv rfl (by decide) (by kernel_rfl) (by kernel_rfl) (fun _ _ _ h => h) wanted_none (fun w' hS => rn_mv R rfl) rfl (by decide) fun inv a R => ?_
 obtain ⟨x5_1, cx5_1, h⟩ := h
 refine dr_val (i := 2) R (waits_dom (by kernel_rfl) (by kernel_rfl)) (by kernel_rfl) inv rfl (by decide) (by kernel_rfl) (by kernel_rfl) (fun _ _ _ h => h) wanted_none (fun w' hS => rn_nil R rfl cx5_1) rfl (by decide) fun inv a R => ?_
 refine dr_val (i := 3) R (waits_dom (by kernel_rfl) (by kernel_rfl)) (by kernel_rfl) inv rfl (by decide) (by kernel_rfl) (by kernel_rfl) (fun _ _ _ h => h) wanted_none (fun w' hS => rn_fld R rfl fd98_0) rfl (by decide) fun inv a R => ?_
 obtain ⟨x7_2, cx7_2, h⟩ := h
 refine dr_val (i := 4) R (waits_dom (by kernel_rfl) (by kernel_rfl)) (by kernel_rfl) inv rfl (by decide) (by kernel_rfl) (by kernel_rfl) (fun _ _ _ h => h) wanted_none (fun w' hS => rn_ld R rfl Try.underlying34 rfl (cell_heap' hS cx7_2)) rfl (by decide) fun inv a R => ?_
 obtain ⟨x8_3, cx8_3, h⟩ := h
 refine dr_val (i := 5) R (waits_dom (by kernel_rfl) (by kernel_rfl)) (by kernel_rfl) inv rfl (by decide) (by kernel_rfl) (by kernel_rfl) (fun _ _ _ h => h) wanted_none (fun w' hS => rn_ld R rfl Try.underlying3 rfl (cell_heap' hS cx8_3)) rfl (by decide) fun inv a R => ?_
 refine dr_val (i := 6) R (waits_dom (by kernel_rfl) (by kernel_rfl)) (by kernel_rfl) inv rfl (by decide) (by kernel_rfl) (by kernel_rfl) (fun _ _ _ h => h) wanted_none (fun w' hS => rn_max R rfl rfl) rfl (by decide) fun inv a R => ?_
 refine dr_val (i := 7) R (waits_dom (by kernel_rfl) (by kernel_rfl)) (by kernel_rfl) inv rfl (by decide) (by kernel_rfl) (by kernel_rfl) (fun _ _ _ h => h) wanted_none (fun w' hS => rn_mv R rfl) rfl (by decide) fun inv a R => ?_
 obtain ⟨x11_5, cx11_5, h⟩ := h
 refine dr_val (i := 8) R (waits_dom (by kernel_rfl) (by kernel_rfl)) (by kernel_rfl) inv rfl (by decide) (by kernel_rfl) (by kernel_rfl) (fun _ _ _ h => h) wanted_none (fun w' hS => rn_nil R rfl cx11_5) rfl (by decide) fun inv a R => ?_
 refine dr_val (i := 9) R (waits_dom (by kernel_rfl) (by kernel_rfl)) (by kernel_rfl) inv rfl (by decide) (by kernel_rfl) (by kernel_rfl) (fun _ _ _ h => h) wanted_none (fun w' hS => rn_fld R rfl fd98_0) rfl (by decide) fun inv a R => ?_
 obtain ⟨x13_6, cx13_6, h⟩ := h
 refine dr_val (i := 10) R (waits_dom (by kernel_rfl) (by kernel_rfl)) (by kernel_rfl) inv rfl (by decide) (by kernel_rfl) (by kernel_rfl) (fun _ _ _ h => h) wanted_none (fun w' hS => rn_ld R rfl Try.underlying34 rfl (cell_heap' hS cx13_6)) rfl (by decide) fun inv a R => ?_
 refine dr_val (i := 11) R (waits_dom (by kernel_rfl) (by kernel_rfl)) (by kernel_rfl) inv rfl (by decide) (by kernel_rfl) (by kernel_rfl) (fun _ _ _ h => h) wanted_none (fun w' hS => rn_len R rfl Try.underlying34) rfl (by decide) fun inv a R => ?_
 refine dr_val (i := 12) R (waits_dom (by kernel_rfl) (by kernel_rfl)) (by kernel_rfl) inv rfl (by decide) (by kernel_rfl) (by kernel_rfl) (fun _ _ _ h => h) wanted_none (fun w' hS => rn_min R rfl rfl) rfl (by decide) fun inv a R => ?_
 obtain ⟨s9_0, s9_1, h⟩ := h
 refine dr_val (i := 13) R (waits_dom (by kernel_rfl) (by kernel_rfl)) (by kernel_rfl) inv rfl (by decide) (by kernel_rfl) (by kernel_rfl) (fun _ _ _ h => h) wanted_none (fun w' hS => rn_sl R rfl rfl (evo R rfl) rfl (fun w => bounds2 (lo := none) (hi := (some (.i64, (if ((x13_6.len : Nat) : Int) < (if 0 > x8_3 then 0 else x8_3) then ((x13_6.len : Nat) : Int) else (if 0 > x8_3 then 0 else x8_3))))) 0 (Int.toNat (if ((x13_6.len : Nat) : Int) < (if 0 > x8_3 then 0 else x8_3) then ((x13_6.len : Nat) : Int) else (if 0 > x8_3 then 0 else x8_3))) ⟨s9_0, s9_1, rfl⟩ rfl w) Try.underlying34 sz5) rfl (by decide) fun inv a R => ?_
 refine seg_end (by kernel_rfl) ?_
 refine any_tail 14 (by kernel_rfl) ?_
 obtain ⟨x17_10, cx17_10, h⟩ := h
 refine onl R rfl cx17_10 rfl fun a R => ?_
 refine ofd R rfl fd98_0 rfl fun a R => ?_
 obtain ⟨q11, f11, h⟩ := h
 refine op_unit R (rn_st R rfl rfl rfl sz34 q11 f11) fun a R => ?_
 refine wpList_nil ?_
 refine then_normal ?_
 refine region_start mo fun inv => ?_
 refine seg_same (n := 11) (f := 11) (g := 3) (by kernel_rfl) fun inv => ?_
 refine dr_val (i := 0) R (waits_dom (by kernel_rfl) (by kernel_rfl)) (by kernel_rfl) inv rfl (by decide) (by kernel_rfl) (by kernel_rfl) (fun _ _ _ h => h) wanted_none (fun w' hS => rn_mv R rfl) rfl (by decide) fun inv a R => ?_
 refine dr_val (i := 1) R (waits_dom (by kernel_rfl) (by kernel_rfl)) (by kernel_rfl) inv rfl (by decide) (by kernel_rfl) (by kernel_rfl) (fun _ _ _ h => h) wanted_none (fun w' hS => rn_mv R rfl) rfl (by decide) fun inv a R => ?_
 obtain ⟨x21_12, cx21_12, h⟩ := h
 refine dr_val (i := 2) R (waits_dom (by kernel_rfl) (by kernel_rfl)) (by kernel_rfl) inv rfl (by decide) (by kernel_rfl) (by kernel_rfl) (fun _ _ _ h => h) wanted_none (fun w' hS => rn_nil R rfl cx21_12) rfl (by decide) fun inv a R => ?_
 refine dr_val (i := 3) R (waits_dom (by kernel_rfl) (by kernel_rfl)) (by kernel_rfl) inv rfl (by decide) (by kernel_rfl) (by kernel_rfl) (fun _ _ _ h => h) wanted_none (fun w' hS => rn_fld R rfl fd98_1) rfl (by decide) fun inv a R => ?_
 obtain ⟨x23_13, cx23_13, h⟩ := h
 refine dr_val (i := 4) R (waits_dom (by kernel_rfl) (by kernel_rfl)) (by kernel_rfl) inv rfl (by decide) (by kernel_rfl) (by kernel_rfl) (fun _ _ _ h => h) wanted_none (fun w' hS => rn_ld R rfl Try.underlying3 rfl (cell_heap' hS cx23_13)) rfl (by decide) fun inv a R => ?_
 refine dr_val (i := 5) R (waits_dom (by kernel_rfl) (by kernel_rfl)) (by kernel_rfl) inv rfl (by decide) (by kernel_rfl) (by kernel_rfl) (fun _ _ _ h => h) wanted_none (fun w' hS => rn_mv R rfl) rfl (by decide) fun inv a R => ?_
 obtain ⟨x25_14, cx25_14, h⟩ := h
 refine dr_val (i := 6) R (waits_dom (by kernel_rfl) (by kernel_rfl)) (by kernel_rfl) inv rfl (by decide) (by kernel_rfl) (by kernel_rfl) (fun _ _ _ h => h) wanted_none (fun w' hS => rn_nil R rfl cx25_14) rfl (by decide) fun inv a R => ?_
 refine dr_val (i := 7) R (waits_dom (by kernel_rfl) (by kernel_rfl)) (by kernel_rfl) inv rfl (by decide) (by kernel_rfl) (by kernel_rfl) (fun _ _ _ h => h) wanted_none (fun w' hS => rn_fld R rfl fd98_0) rfl (by decide) fun inv a R => ?_
 obtain ⟨x27_15, cx27_15, h⟩ := h
 refine dr_val (i := 8) R (waits_dom (by kernel_rfl) (by kernel_rfl)) (by kernel_rfl) inv rfl (by decide) (by kernel_rfl) (by kernel_rfl) (fun _ _ _ h => h) wanted_none (fun w' hS => rn_ld R rfl Try.underlying34 rfl (cell_heap' hS cx27_15)) rfl (by decide) fun inv a R => ?_
 refine dr_val (i := 9) R (waits_dom (by kernel_rfl) (by kernel_rfl)) (by kernel_rfl) inv rfl (by decide) (by kernel_rfl) (by kernel_rfl) (fun _ _ _ h => h) wanted_none (fun w' hS => rn_len R rfl Try.underlying34) rfl (by decide) fun inv a R => ?_
 refine dr_val (i := 10) R (waits_dom (by kernel_rfl) (by kernel_rfl)) (by kernel_rfl) inv rfl (by decide) (by kernel_rfl) (by kernel_rfl) (fun _ _ _ h => h) wanted_none (fun w' hS => rn_min R rfl rfl) rfl (by decide) fun inv a R => ?_
 refine seg_end (by kernel_rfl) ?_
 refine any_tail 11 (by kernel_rfl) ?_
 obtain ⟨x30_18, cx30_18, h⟩ := h
 refine onl R rfl cx30_18 rfl fun a R => ?_
 refine ofd R rfl fd98_1 rfl fun a R => ?_
 obtain ⟨q19, f19, h⟩ := h
 refine op_unit R (rn_st R rfl rfl rfl sz3 q19 f19) fun a R => ?_
 refine wpList_nil ?_
 exact post_end R rfl rfl ⟨rfl, h⟩
theorem s_drawer_Disk_Trim_1 (x0 : Option Addr) (x1 : Addr) (Q : World → Prop) (w : World) (h : drawer_Disk_Trim_1 x0 x1 Q w) :
    Calls Try.prog 70 #[.pointer x0, .pointer (some x1)] w (Rets fun v w => v = (.tuple #[] : Value) ∧ Q w) :=
  calls_body (args := [.pointer x0, .pointer (some x1)]) Try.func70 rfl rfl (Nat.le_of_ble_eq_true rfl) (L := [(0, .pointer x0), (1, .pointer (some x1))]) (by simp [starts]) (b_drawer_Disk_Trim_1 x0 x1 Q w h rfl)

/-! (drawer.Disk).Trim -/

def drawer_Disk_Trim (x0 : Option Addr) (x1 : ByteArray) (x2 : Int) (Q : Int → World → Prop) (w : World) : Prop :=
  al w (.cells #[.int .i64 x2] 3) fun x5_1 w => drawer_Disk_change x0 x1 (.func (.func 70) #[] [.pointer (some x5_1)].toArray : Value) (fun x10_3_0 w => Q x10_3_0 w) w

theorem b_drawer_Disk_Trim (x0 : Option Addr) (x1 : ByteArray) (x2 : Int) (Q : Int → World → Prop) (w : World) (h : drawer_Disk_Trim x0 x1 x2 Q w) {c : Code} (hb : Try.f19.body = some c) :
 ∀ a, Rep a 11 [(0, .pointer x0), (1, .string x1), (2, .int .i64 x2)] [] → c.wp Try.prog (bodyPost Try.prog Try.f19 (Rets fun v w => ∃ r0 : Int, v = (.int .i64 r0 : Value) ∧ Q r0 w)) a w := by
 intro a R
 obtain rfl := Option.some.inj hb
 unfold drawer_Disk_Trim at h
 refine wp_seq ?_
 refine wp_region_lit ?_
 obtain ⟨x5_1, e2, h⟩ := al_e h
 refine op_val (v := .pointer (some x5_1)) R (by rw [e2]; exact rn_bx (x := (.tmp 2)) (t := 3) R rfl) rfl fun a R => ?_
 refine oas R rfl rfl fun a R => ?_
 refine wpList_nil ?_
 refine then_normal ?_
 refine wp_seq ?_
 refine wp_region_lit ?_
 refine omv R rfl rfl fun a R => ?_
 refine omv R rfl rfl fun a R => ?_
 refine op_val R (rn_fn (us := []) R rfl rfl) rfl fun a R => ?_
 refine op_call R (rn_calls R rfl cf67) rfl ?_
 refine call_mono (s_drawer_Disk_change _ _ _ _ _ h) ?_
 rintro _ w4 ⟨x10_3_0, rfl, h⟩ a R
 refine oas R rfl rfl fun a R => ?_
 refine wpList_nil ?_
 refine then_normal ?_
 refine wp_ret ?_
 exact post_ret R rfl rfl ⟨x10_3_0, rfl, h⟩
theorem s_drawer_Disk_Trim (x0 : Option Addr) (x1 : ByteArray) (x2 : Int) (Q : Int → World → Prop) (w : World) (h : drawer_Disk_Trim x0 x1 x2 Q w) :
    Calls Try.prog 19 #[.pointer x0, .string x1, .int .i64 x2] w (Rets fun v w => ∃ r0 : Int, v = (.int .i64 r0 : Value) ∧ Q r0 w) :=
  calls_body (args := [.pointer x0, .string x1, .int .i64 x2]) Try.func19 rfl rfl (Nat.le_of_ble_eq_true rfl) (L := [(0, .pointer x0), (1, .string x1), (2, .int .i64 x2)]) (by simp [starts]) (b_drawer_Disk_Trim x0 x1 x2 Q w h rfl)

/-! (levyref19.Disk).Trim -/

def levyref19_Disk_Trim.k2 (x13_1_1 : Int) (Q : Int → World → Prop) (w : World) : Prop :=
  Q x13_1_1 w

def levyref19_Disk_Trim.k14 (x0 : Option Addr) (x13_1_0 : Int) (x13_1_1 : Int) (x9_10 : Addr) (Q : Int → World → Prop) (w : World) : Prop :=
  nn x0 fun x45_15 => ld Sl.val (World.drew w) (x45_15.add 0) fun x47_16 => ld (Value.int .i64) (World.drew w) (x9_10.add 2) fun x50_17 => nn x0 fun x52_18 => ld Sl.val (World.drew w) (x52_18.add 0) fun x54_19 => ix x54_19.p x54_19.len x13_1_0 3 fun x56_21 => ld Sl.val (World.drew w) (x56_21.add 1) fun x58_22 => ix x47_16.p x47_16.len x13_1_0 3 fun x61_26 => st (World.drew w) (x61_26.add 2) (.int .i64 (if ((x58_22.len : Nat) : Int) < x50_17 then ((x58_22.len : Nat) : Int) else x50_17)) fun w => levyref19_Disk_Trim.k2 x13_1_1 Q w

def levyref19_Disk_Trim.k13 (x0 : Option Addr) (x13_1_0 : Int) (x13_1_1 : Int) (x9_10 : Addr) (y13_2 : Int) (Q : Int → World → Prop) (w : World) : Prop :=
  ld Sl.val w (x9_10.add 1) fun x29_28 => (if (decide (y13_2 < ((x29_28.len : Nat) : Int))) = true then nn x0 fun x33_32 => ld Sl.val (World.drew w) (x33_32.add 0) fun x35_33 => ld Sl.val (World.drew w) (x9_10.add 1) fun x38_34 => (0 ≤ y13_2 ∧ y13_2 ≤ ((x38_34.cap : Nat) : Int) ∧ levyref19_copied (cutSl ⟨x38_34.p, x38_34.len, x38_34.cap⟩ 1 0 (Int.toNat y13_2) x38_34.cap) (fun x41_36_0 w => ((World.cell? w (x33_32.add 0) = some (Sl.val x35_33) ∧ World.cell? w (x9_10.add 1) = some (Sl.val x38_34) ∧ True) ∧ ix x35_33.p x35_33.len x13_1_0 3 fun x42_38 => st w (x42_38.add 1) (Sl.val x41_36_0) fun w => levyref19_Disk_Trim.k14 x0 x13_1_0 x13_1_1 x9_10 Q w)) (World.drew w)) else levyref19_Disk_Trim.k14 x0 x13_1_0 x13_1_1 x9_10 Q w)

def levyref19_Disk_Trim (x0 : Option Addr) (x1 : ByteArray) (x2 : Int) (Q : Int → World → Prop) (w : World) : Prop :=
  levyref19_Disk_changes x0 x1 (fun x13_1_0 x13_1_1 w => (if (x13_1_1 == 0) = true then nn x0 fun x19_5 => ld Sl.val w (x19_5.add 0) fun x21_6 => ix x21_6.p x21_6.len x13_1_0 3 fun x23_8 => ld Value.string w (x23_8.add 0) fun x24_9_0 => ld Sl.val w (x23_8.add 1) fun x24_9_1 => ld (Value.int .i64) w (x23_8.add 2) fun x24_9_2 => al w (.cells #[.string ⟨#[]⟩, .slice none 0 0, .int .i64 0] 74) fun x9_10 w => stN w x9_10 [.string x24_9_0, Sl.val x24_9_1, .int .i64 x24_9_2] fun w => (if (decide (x2 < 0)) = true then levyref19_Disk_Trim.k13 x0 x13_1_0 x13_1_1 x9_10 0 Q w else levyref19_Disk_Trim.k13 x0 x13_1_0 x13_1_1 x9_10 x2 Q w) else levyref19_Disk_Trim.k2 x13_1_1 Q w)) w

theorem b_levyref19_Disk_Trim (x0 : Option Addr) (x1 : ByteArray) (x2 : Int) (Q : Int → World → Prop) (w : World) (h : levyref19_Disk_Trim x0 x1 x2 Q w) {c : Code} (hb : Try.f20.body = some c) :
 ∀ a, Rep a 64 [(0, .pointer x0), (1, .string x1), (2, .int .i64 x2)] [] → c.wp Try.prog (bodyPost Try.prog Try.f20 (Rets fun v w => ∃ r0 : Int, v = (.int .i64 r0 : Value) ∧ Q r0 w)) a w := by
 intro a R
 obtain rfl := Option.some.inj hb
 unfold levyref19_Disk_Trim at h
 refine wp_seq ?_
 refine wp_region_lit ?_
 refine oas R rfl rfl fun a R => ?_
 refine wpList_nil ?_
 refine then_normal ?_
 refine wp_seq ?_
 refine wp_region_lit ?_
 refine omv R rfl rfl fun a R => ?_
 refine omv R rfl rfl fun a R => ?_
 refine op_call R (rn_calls R rfl cf69) rfl ?_
 refine call_mono (s_levyref19_Disk_changes _ _ _ _ h) ?_
 rintro _ w43 ⟨x13_1_0, x13_1_1, rfl, h⟩ a R
 refine omv R rfl rfl fun a R => ?_
 refine op_val R (rn_ext R rfl rfl) rfl fun a R => ?_
 refine op_val R (rn_ext R rfl rfl) rfl fun a R => ?_
 refine oas R rfl rfl fun a R => ?_
 refine oas R rfl rfl fun a R => ?_
 refine wpList_nil ?_
 refine then_normal ?_
 refine seq_join (fun a w => Rep a 64 [(8, .int .i64 x13_1_1)] [] ∧ levyref19_Disk_Trim.k2 x13_1_1 Q w) ?_ ?_
 ·refine wp_seq ?_
  refine wp_region_lit ?_
  refine omv R rfl rfl fun a R => ?_
  refine op_val R (rn_bin (v := .bool (x13_1_1 == 0)) R rfl rfl rfl) rfl fun a R => ?_
  refine wpList_nil ?_
  refine then_normal ?_
  rcases ite_cases h with ⟨g4, h⟩ | ⟨g4, h⟩
  ·refine wp_condT R (congrArg (fun b => some (Value.bool b)) g4) ?_
   refine wp_seq ?_
   refine wp_region_lit ?_
   refine omv R rfl rfl fun a R => ?_
   obtain ⟨x19_5, cx19_5, h⟩ := h
   refine onl R rfl cx19_5 rfl fun a R => ?_
   refine ofd R rfl fd100_0 rfl fun a R => ?_
   obtain ⟨x21_6, cx21_6, h⟩ := h
   refine old R rfl Try.underlying22 rfl cx21_6 rfl fun a R => ?_
   refine omv R rfl rfl fun a R => ?_
   obtain ⟨b7, x23_8, p7, i7, j7, e7, h⟩ := ix_e h
   refine op_val (v := .pointer (some x23_8)) R (by rw [e7]; exact rn_ixs (x := (.tmp 21)) (y := (.tmp 22)) R rfl p7 rfl Try.underlying22 sz74 i7 j7) rfl fun a R => ?_
   obtain ⟨x24_9_0, cx24_9_0, x24_9_1, cx24_9_1, x24_9_2, cx24_9_2, h⟩ := h
   refine op_val R (rn_ldN (cs := [.string x24_9_0, Sl.val x24_9_1, .int .i64 x24_9_2]) R rfl Try.underlying74 rfl sz74 ⟨cx24_9_0, cx24_9_1, cx24_9_2, trivial⟩) rfl fun a R => ?_
   obtain ⟨x9_10, e11, h⟩ := al_e h
   refine op_val (v := .pointer (some x9_10)) R (by rw [e11]; exact rn_al R ze74) rfl fun a R => ?_
   obtain ⟨q12, h⟩ := h
   refine op_unit R (rn_stN (vs := [.string x24_9_0, Sl.val x24_9_1, .int .i64 x24_9_2]) R rfl rfl (ao ⟨rfl, rfl, rfl, trivial⟩) sz74 q12) fun a R => ?_
   refine wpList_nil ?_
   refine then_normal ?_
   refine seq_join (fun a w => ∃ y13_2 : Int, Rep a 64 [(0, .pointer x0), (2, .int .i64 y13_2), (7, .int .i64 x13_1_0), (8, .int .i64 x13_1_1), (9, .pointer (some x9_10))] [] ∧ levyref19_Disk_Trim.k13 x0 x13_1_0 x13_1_1 x9_10 y13_2 Q w) ?_ ?_
   ·refine wp_seq ?_
    refine wp_region_lit ?_
    refine omv R rfl rfl fun a R => ?_
    refine op_val R (rn_bin (v := .bool (decide (x2 < 0))) R rfl rfl rfl) rfl fun a R => ?_
    refine wpList_nil ?_
    refine then_normal ?_
    rcases ite_cases h with ⟨g42, h⟩ | ⟨g42, h⟩
    ·refine wp_condT R (congrArg (fun b => some (Value.bool b)) g42) ?_
     refine wp_region_lit ?_
     refine oas R rfl rfl fun a R => ?_
     refine wpList_nil ?_
     refine then_normal ?_
     exact ⟨0, R.weak ⟨rfl, rfl, rfl, rfl, rfl, trivial⟩, h⟩
    ·refine wp_condF R (congrArg (fun b => some (Value.bool b)) g42) ?_
     refine wp_skip ?_
     refine then_normal ?_
     exact ⟨x2, R.weak ⟨rfl, rfl, rfl, rfl, rfl, trivial⟩, h⟩
   ·rintro a w ⟨y13_2, R, h⟩
    unfold levyref19_Disk_Trim.k13 at h
    refine seq_join (fun a w => Rep a 64 [(0, .pointer x0), (7, .int .i64 x13_1_0), (8, .int .i64 x13_1_1), (9, .pointer (some x9_10))] [] ∧ levyref19_Disk_Trim.k14 x0 x13_1_0 x13_1_1 x9_10 Q w) ?_ ?_
    ·refine wp_seq ?_
     refine wp_region_lit ?_
     refine omv R rfl rfl fun a R => ?_
     refine ofd R rfl fd74_1 rfl fun a R => ?_
     obtain ⟨x29_28, cx29_28, h⟩ := h
     refine old R rfl Try.underlying34 rfl cx29_28 rfl fun a R => ?_
     refine op_val R (rn_len R rfl Try.underlying34) rfl fun a R => ?_
     refine op_val R (rn_bin (v := .bool (decide (y13_2 < ((x29_28.len : Nat) : Int)))) R rfl rfl rfl) rfl fun a R => ?_
     refine wpList_nil ?_
     refine then_normal ?_
     rcases ite_cases h with ⟨g31, h⟩ | ⟨g31, h⟩
     ·refine wp_condT R (congrArg (fun b => some (Value.bool b)) g31) ?_
      refine region_start mo fun inv => ?_
      obtain ⟨x33_32, cx33_32, h⟩ := h
      obtain ⟨x35_33, cx35_33, h⟩ := h
      obtain ⟨x38_34, cx38_34, h⟩ := h
      obtain ⟨s35_0, s35_1, h⟩ := h
      refine seg_held (n := 10) (f := 10) (g := 3) (fun w : World => w.cell? (x33_32.add 0) = some (Sl.val x35_33) ∧ w.cell? (x9_10.add 1) = some (Sl.val x38_34) ∧ True) (by kernel_rfl) fun inv => ?_
      have hS0 : (fun w : World => w.cell? (x33_32.add 0) = some (Sl.val x35_33) ∧ w.cell? (x9_10.add 1) = some (Sl.val x38_34) ∧ True) _ := ⟨cx35_33, cx38_34, trivial⟩
      refine dr_val (i := 0) R (waits_dom (by kernel_rfl) (by kernel_rfl)) (by kernel_rfl) inv rfl (by decide) (by kernel_rfl) (by kernel_rfl) (fun _ _ _ h => h) wanted_none (fun w' hS => rn_mv R rfl) hS0 rfl fun inv a R => ?_
      refine dr_val (i := 1) R (waits_dom (by kernel_rfl) (by kernel_rfl)) (by kernel_rfl) inv rfl (by decide) (by kernel_rfl) (by kernel_rfl) (fun _ _ _ h => h) wanted_none (fun w' hS => rn_nil R rfl cx33_32) hS0 rfl fun inv a R => ?_
      refine dr_val (i := 2) R (waits_dom (by kernel_rfl) (by kernel_rfl)) (by kernel_rfl) inv rfl (by decide) (by kernel_rfl) (by kernel_rfl) (fun _ _ _ h => h) wanted_none (fun w' hS => rn_fld R rfl fd100_0) hS0 rfl fun inv a R => ?_
      refine dr_val (i := 3) R (waits_dom (by kernel_rfl) (by kernel_rfl)) (by kernel_rfl) inv rfl (by decide) (by kernel_rfl) (by kernel_rfl) (fun _ _ _ h => h) wanted_none (fun w' hS => rn_ld R rfl Try.underlying22 rfl (hS.1)) hS0 rfl fun inv a R => ?_
      refine dr_val (i := 4) R (waits_dom (by kernel_rfl) (by kernel_rfl)) (by kernel_rfl) inv rfl (by decide) (by kernel_rfl) (by kernel_rfl) (fun _ _ _ h => h) wanted_none (fun w' hS => rn_mv R rfl) hS0 rfl fun inv a R => ?_
      refine dr_val (i := 5) R (waits_dom (by kernel_rfl) (by kernel_rfl)) (by kernel_rfl) inv rfl (by decide) (by kernel_rfl) (by kernel_rfl) (fun _ _ _ h => h) wanted_none (fun w' hS => rn_fld R rfl fd74_1) hS0 rfl fun inv a R => ?_
      refine dr_val (i := 6) R (waits_dom (by kernel_rfl) (by kernel_rfl)) (by kernel_rfl) inv rfl (by decide) (by kernel_rfl) (by kernel_rfl) (fun _ _ _ h => h) wanted_none (fun w' hS => rn_ld R rfl Try.underlying34 rfl (hS.2.1)) hS0 rfl fun inv a R => ?_
      refine dr_val (i := 7) R (waits_dom (by kernel_rfl) (by kernel_rfl)) (by kernel_rfl) inv rfl (by decide) (by kernel_rfl) (by kernel_rfl) (fun _ _ _ h => h) wanted_none (fun w' hS => rn_mv R rfl) hS0 rfl fun inv a R => ?_
      refine dr_val (i := 8) R (waits_dom (by kernel_rfl) (by kernel_rfl)) (by kernel_rfl) inv rfl (by decide) (by kernel_rfl) (by kernel_rfl) (fun _ _ _ h => h) wanted_none (fun w' hS => rn_sl R rfl rfl (evo R rfl) rfl (fun w => bounds2 (lo := none) (hi := (some (.i64, y13_2))) 0 (Int.toNat y13_2) ⟨s35_0, s35_1, rfl⟩ rfl w) Try.underlying34 sz5) hS0 rfl fun inv a R => ?_
      refine dr_call (i := 9) R inv rfl (by decide) (by kernel_rfl) wanted_none (rn_calls R rfl cf36) rfl ?_
      refine call_mono (s_levyref19_copied _ _ _ h) ?_
      rintro _ w40 ⟨x41_36_0, rfl, hS0, h⟩
      refine ⟨hS0, fun a inv R => ?_⟩
      refine seg_end (by kernel_rfl) ?_
      refine any_tail 10 (by kernel_rfl) ?_
      obtain ⟨b37, x42_38, p37, i37, j37, e37, h⟩ := ix_e h
      refine op_val (v := .pointer (some x42_38)) R (by rw [e37]; exact rn_ixs (x := (.tmp 35)) (y := (.tmp 36)) R rfl p37 rfl Try.underlying22 sz74 i37 j37) rfl fun a R => ?_
      refine ofd R rfl fd74_1 rfl fun a R => ?_
      obtain ⟨q39, f39, h⟩ := h
      refine op_unit R (rn_st R rfl rfl rfl sz34 q39 f39) fun a R => ?_
      refine wpList_nil ?_
      refine then_normal ?_
      exact ⟨R.weak ⟨rfl, rfl, rfl, rfl, trivial⟩, h⟩
     ·refine wp_condF R (congrArg (fun b => some (Value.bool b)) g31) ?_
      refine wp_skip ?_
      refine then_normal ?_
      exact ⟨R.weak ⟨rfl, rfl, rfl, rfl, trivial⟩, h⟩
    ·rintro a w ⟨R, h⟩
     unfold levyref19_Disk_Trim.k14 at h
     refine region_start mo fun inv => ?_
     refine seg_same (n := 17) (f := 17) (g := 3) (by kernel_rfl) fun inv => ?_
     refine dr_val (i := 0) R (waits_dom (by kernel_rfl) (by kernel_rfl)) (by kernel_rfl) inv rfl (by decide) (by kernel_rfl) (by kernel_rfl) (fun _ _ _ h => h) wanted_none (fun w' hS => rn_mv R rfl) rfl (by decide) fun inv a R => ?_
     obtain ⟨x45_15, cx45_15, h⟩ := h
     refine dr_val (i := 1) R (waits_dom (by kernel_rfl) (by kernel_rfl)) (by kernel_rfl) inv rfl (by decide) (by kernel_rfl) (by kernel_rfl) (fun _ _ _ h => h) wanted_none (fun w' hS => rn_nil R rfl cx45_15) rfl (by decide) fun inv a R => ?_
     refine dr_val (i := 2) R (waits_dom (by kernel_rfl) (by kernel_rfl)) (by kernel_rfl) inv rfl (by decide) (by kernel_rfl) (by kernel_rfl) (fun _ _ _ h => h) wanted_none (fun w' hS => rn_fld R rfl fd100_0) rfl (by decide) fun inv a R => ?_
     obtain ⟨x47_16, cx47_16, h⟩ := h
     refine dr_val (i := 3) R (waits_dom (by kernel_rfl) (by kernel_rfl)) (by kernel_rfl) inv rfl (by decide) (by kernel_rfl) (by kernel_rfl) (fun _ _ _ h => h) wanted_none (fun w' hS => rn_ld R rfl Try.underlying22 rfl (cell_heap' hS cx47_16)) rfl (by decide) fun inv a R => ?_
     refine dr_val (i := 4) R (waits_dom (by kernel_rfl) (by kernel_rfl)) (by kernel_rfl) inv rfl (by decide) (by kernel_rfl) (by kernel_rfl) (fun _ _ _ h => h) wanted_none (fun w' hS => rn_mv R rfl) rfl (by decide) fun inv a R => ?_
     refine dr_val (i := 5) R (waits_dom (by kernel_rfl) (by kernel_rfl)) (by kernel_rfl) inv rfl (by decide) (by kernel_rfl) (by kernel_rfl) (fun _ _ _ h => h) wanted_none (fun w' hS => rn_fld R rfl fd74_2) rfl (by decide) fun inv a R => ?_
     obtain ⟨x50_17, cx50_17, h⟩ := h
     refine dr_val (i := 6) R (waits_dom (by kernel_rfl) (by kernel_rfl)) (by kernel_rfl) inv rfl (by decide) (by kernel_rfl) (by kernel_rfl) (fun _ _ _ h => h) wanted_none (fun w' hS => rn_ld R rfl Try.underlying3 rfl (cell_heap' hS cx50_17)) rfl (by decide) fun inv a R => ?_
     refine dr_val (i := 7) R (waits_dom (by kernel_rfl) (by kernel_rfl)) (by kernel_rfl) inv rfl (by decide) (by kernel_rfl) (by kernel_rfl) (fun _ _ _ h => h) wanted_none (fun w' hS => rn_mv R rfl) rfl (by decide) fun inv a R => ?_
     obtain ⟨x52_18, cx52_18, h⟩ := h
     refine dr_val (i := 8) R (waits_dom (by kernel_rfl) (by kernel_rfl)) (by kernel_rfl) inv rfl (by decide) (by kernel_rfl) (by kernel_rfl) (fun _ _ _ h => h) wanted_none (fun w' hS => rn_nil R rfl cx52_18) rfl (by decide) fun inv a R => ?_
     refine dr_val (i := 9) R (waits_dom (by kernel_rfl) (by kernel_rfl)) (by kernel_rfl) inv rfl (by decide) (by kernel_rfl) (by kernel_rfl) (fun _ _ _ h => h) wanted_none (fun w' hS => rn_fld R rfl fd100_0) rfl (by decide) fun inv a R => ?_
     obtain ⟨x54_19, cx54_19, h⟩ := h
     refine dr_val (i := 10) R (waits_dom (by kernel_rfl) (by kernel_rfl)) (by kernel_rfl) inv rfl (by decide) (by kernel_rfl) (by kernel_rfl) (fun _ _ _ h => h) wanted_none (fun w' hS => rn_ld R rfl Try.underlying22 rfl (cell_heap' hS cx54_19)) rfl (by decide) fun inv a R => ?_
     refine dr_val (i := 11) R (waits_dom (by kernel_rfl) (by kernel_rfl)) (by kernel_rfl) inv rfl (by decide) (by kernel_rfl) (by kernel_rfl) (fun _ _ _ h => h) wanted_none (fun w' hS => rn_mv R rfl) rfl (by decide) fun inv a R => ?_
     obtain ⟨b20, x56_21, p20, i20, j20, e20, h⟩ := ix_e h
     refine dr_val (v := .pointer (some x56_21)) (i := 12) R (waits_dom (by kernel_rfl) (by kernel_rfl)) (by kernel_rfl) inv rfl (by decide) (by kernel_rfl) (by kernel_rfl) (fun _ _ _ h => h) wanted_none (fun w' hS => by rw [e20]; exact rn_ixs (x := (.tmp 54)) (y := (.tmp 55)) R rfl p20 rfl Try.underlying22 sz74 i20 j20) rfl (by decide) fun inv a R => ?_
     refine dr_val (i := 13) R (waits_dom (by kernel_rfl) (by kernel_rfl)) (by kernel_rfl) inv rfl (by decide) (by kernel_rfl) (by kernel_rfl) (fun _ _ _ h => h) wanted_none (fun w' hS => rn_fld R rfl fd74_1) rfl (by decide) fun inv a R => ?_
     obtain ⟨x58_22, cx58_22, h⟩ := h
     refine dr_val (i := 14) R (waits_dom (by kernel_rfl) (by kernel_rfl)) (by kernel_rfl) inv rfl (by decide) (by kernel_rfl) (by kernel_rfl) (fun _ _ _ h => h) wanted_none (fun w' hS => rn_ld R rfl Try.underlying34 rfl (cell_heap' hS cx58_22)) rfl (by decide) fun inv a R => ?_
     refine dr_val (i := 15) R (waits_dom (by kernel_rfl) (by kernel_rfl)) (by kernel_rfl) inv rfl (by decide) (by kernel_rfl) (by kernel_rfl) (fun _ _ _ h => h) wanted_none (fun w' hS => rn_len R rfl Try.underlying34) rfl (by decide) fun inv a R => ?_
     refine dr_val (i := 16) R (waits_dom (by kernel_rfl) (by kernel_rfl)) (by kernel_rfl) inv rfl (by decide) (by kernel_rfl) (by kernel_rfl) (fun _ _ _ h => h) wanted_none (fun w' hS => rn_min R rfl rfl) rfl (by decide) fun inv a R => ?_
     refine seg_end (by kernel_rfl) ?_
     refine any_tail 17 (by kernel_rfl) ?_
     obtain ⟨b25, x61_26, p25, i25, j25, e25, h⟩ := ix_e h
     refine op_val (v := .pointer (some x61_26)) R (by rw [e25]; exact rn_ixs (x := (.tmp 47)) (y := (.tmp 48)) R rfl p25 rfl Try.underlying22 sz74 i25 j25) rfl fun a R => ?_
     refine ofd R rfl fd74_2 rfl fun a R => ?_
     obtain ⟨q27, f27, h⟩ := h
     refine op_unit R (rn_st R rfl rfl rfl sz3 q27 f27) fun a R => ?_
     refine wpList_nil ?_
     refine then_normal ?_
     exact ⟨R.weak ⟨rfl, trivial⟩, h⟩
  ·refine wp_condF R (congrArg (fun b => some (Value.bool b)) g4) ?_
   refine wp_skip ?_
   refine then_normal ?_
   exact ⟨R.weak ⟨rfl, trivial⟩, h⟩
 ·rintro a w ⟨R, h⟩
  unfold levyref19_Disk_Trim.k2 at h
  refine wp_seq ?_
  refine wp_region_lit ?_
  refine omv R rfl rfl fun a R => ?_
  refine oas R rfl rfl fun a R => ?_
  refine wpList_nil ?_
  refine then_normal ?_
  refine wp_ret ?_
  exact post_ret R rfl rfl ⟨x13_1_1, rfl, h⟩
theorem s_levyref19_Disk_Trim (x0 : Option Addr) (x1 : ByteArray) (x2 : Int) (Q : Int → World → Prop) (w : World) (h : levyref19_Disk_Trim x0 x1 x2 Q w) :
    Calls Try.prog 20 #[.pointer x0, .string x1, .int .i64 x2] w (Rets fun v w => ∃ r0 : Int, v = (.int .i64 r0 : Value) ∧ Q r0 w) :=
  calls_body (args := [.pointer x0, .string x1, .int .i64 x2]) Try.func20 rfl rfl (Nat.le_of_ble_eq_true rfl) (L := [(0, .pointer x0), (1, .string x1), (2, .int .i64 x2)]) (by simp [starts]) (b_levyref19_Disk_Trim x0 x1 x2 Q w h rfl)

/-! (drawer.Disk).Remove$1 -/

def drawer_Disk_Remove_1 (x0 : Option Addr) (x1 : Addr) (x2 : Addr) (Q : World → Prop) (w : World) : Prop :=
  ld Value.pointer (World.drew w) x1 fun x4_1 => nn x4_1 fun x5_2 => ld Value.map (World.drew w) (x5_2.add 0) fun x7_3 => ld Value.string (World.drew w) x2 fun x8_4 => rn Try.prog id (Builtin.delete_ #[94, 9] 0 [.map x7_3, .string x8_4].toArray) (World.drew w) fun _ w => Q  w

theorem b_drawer_Disk_Remove_1 (x0 : Option Addr) (x1 : Addr) (x2 : Addr) (Q : World → Prop) (w : World) (h : drawer_Disk_Remove_1 x0 x1 x2 Q w) {c : Code} (hb : Try.f71.body = some c) :
 ∀ a, Rep a 9 [(0, .pointer x0), (1, .pointer (some x1)), (2, .pointer (some x2))] [] → c.wp Try.prog (bodyPost Try.prog Try.f71 (Rets fun v w => v = (.tuple #[] : Value) ∧ Q w)) a w := by
 intro a R
 obtain rfl := Option.some.inj hb
 unfold drawer_Disk_Remove_1 at h
 refine region_start mo fun inv => ?_
 refine seg_same (n := 5) (f := 5) (g := 1) (by kernel_rfl) fun inv => ?_
 obtain ⟨x4_1, cx4_1, h⟩ := h
 refine dr_val (i := 0) R (waits_dom (by kernel_rfl) (by kernel_rfl)) (by kernel_rfl) inv rfl (by decide) (by kernel_rfl) (by kernel_rfl) (fun _ _ _ h => h) wanted_none (fun w' hS => rn_ld R rfl Try.underlying27 rfl (cell_heap' hS cx4_1)) rfl (by decide) fun inv a R => ?_
 obtain ⟨x5_2, cx5_2, h⟩ := h
 refine dr_val (i := 1) R (waits_dom (by kernel_rfl) (by kernel_rfl)) (by kernel_rfl) inv rfl (by decide) (by kernel_rfl) (by kernel_rfl) (fun _ _ _ h => h) wanted_none (fun w' hS => rn_nil R rfl cx5_2) rfl (by decide) fun inv a R => ?_
 refine dr_val (i := 2) R (waits_dom (by kernel_rfl) (by kernel_rfl)) (by kernel_rfl) inv rfl (by decide) (by kernel_rfl) (by kernel_rfl) (fun _ _ _ h => h) wanted_none (fun w' hS => rn_fld R rfl fd96_0) rfl (by decide) fun inv a R => ?_
 obtain ⟨x7_3, cx7_3, h⟩ := h
 refine dr_val (i := 3) R (waits_dom (by kernel_rfl) (by kernel_rfl)) (by kernel_rfl) inv rfl (by decide) (by kernel_rfl) (by kernel_rfl) (fun _ _ _ h => h) wanted_none (fun w' hS => rn_ld R rfl Try.underlying94 rfl (cell_heap' hS cx7_3)) rfl (by decide) fun inv a R => ?_
 obtain ⟨x8_4, cx8_4, h⟩ := h
 refine dr_val (i := 4) R (waits_dom (by kernel_rfl) (by kernel_rfl)) (by kernel_rfl) inv rfl (by decide) (by kernel_rfl) (by kernel_rfl) (fun _ _ _ h => h) wanted_none (fun w' hS => rn_ld R rfl Try.underlying9 rfl (cell_heap' hS cx8_4)) rfl (by decide) fun inv a R => ?_
 refine seg_end (by kernel_rfl) ?_
 refine any_tail 5 (by kernel_rfl) ?_
 obtain ⟨x_5, w5, c5, h⟩ := h
 refine op_drop R (rn_bi (vs := [.map x7_3, .string x8_4]) R rfl (fun _ => rfl) c5) fun a R => ?_
 refine wpList_nil ?_
 exact post_end R rfl rfl ⟨rfl, h⟩
theorem s_drawer_Disk_Remove_1 (x0 : Option Addr) (x1 : Addr) (x2 : Addr) (Q : World → Prop) (w : World) (h : drawer_Disk_Remove_1 x0 x1 x2 Q w) :
    Calls Try.prog 71 #[.pointer x0, .pointer (some x1), .pointer (some x2)] w (Rets fun v w => v = (.tuple #[] : Value) ∧ Q w) :=
  calls_body (args := [.pointer x0, .pointer (some x1), .pointer (some x2)]) Try.func71 rfl rfl (Nat.le_of_ble_eq_true rfl) (L := [(0, .pointer x0), (1, .pointer (some x1)), (2, .pointer (some x2))]) (by simp [starts]) (b_drawer_Disk_Remove_1 x0 x1 x2 Q w h rfl)

/-! (drawer.Disk).Remove -/

def drawer_Disk_Remove (x0 : Option Addr) (x1 : ByteArray) (Q : Int → World → Prop) (w : World) : Prop :=
  al w (.cells #[.pointer x0] 27) fun x2_1 w => al w (.cells #[.string x1] 9) fun x3_3 w => ld Value.pointer w x2_1 fun x5_5 => ld Value.string w x3_3 fun x6_6 => drawer_Disk_change x5_5 x6_6 (.func (.func 71) #[] [.pointer (some x2_1), .pointer (some x3_3)].toArray : Value) (fun x8_7_0 w => Q x8_7_0 w) w

theorem b_drawer_Disk_Remove (x0 : Option Addr) (x1 : ByteArray) (Q : Int → World → Prop) (w : World) (h : drawer_Disk_Remove x0 x1 Q w) {c : Code} (hb : Try.f21.body = some c) :
 ∀ a, Rep a 9 [(0, .pointer x0), (1, .string x1)] [] → c.wp Try.prog (bodyPost Try.prog Try.f21 (Rets fun v w => ∃ r0 : Int, v = (.int .i64 r0 : Value) ∧ Q r0 w)) a w := by
 intro a R
 obtain rfl := Option.some.inj hb
 unfold drawer_Disk_Remove at h
 refine wp_seq ?_
 refine wp_region_lit ?_
 obtain ⟨x2_1, e2, h⟩ := al_e h
 refine op_val (v := .pointer (some x2_1)) R (by rw [e2]; exact rn_bx (x := (.tmp 0)) (t := 27) R rfl) rfl fun a R => ?_
 obtain ⟨x3_3, e4, h⟩ := al_e h
 refine op_val (v := .pointer (some x3_3)) R (by rw [e4]; exact rn_bx (x := (.tmp 1)) (t := 9) R rfl) rfl fun a R => ?_
 refine oas R rfl rfl fun a R => ?_
 refine wpList_nil ?_
 refine then_normal ?_
 refine wp_seq ?_
 refine wp_region_lit ?_
 obtain ⟨x5_5, cx5_5, h⟩ := h
 refine old R rfl Try.underlying27 rfl cx5_5 rfl fun a R => ?_
 obtain ⟨x6_6, cx6_6, h⟩ := h
 refine old R rfl Try.underlying9 rfl cx6_6 rfl fun a R => ?_
 refine op_val R (rn_fn (us := []) R rfl rfl) rfl fun a R => ?_
 refine op_call R (rn_calls R rfl cf67) rfl ?_
 refine call_mono (s_drawer_Disk_change _ _ _ _ _ h) ?_
 rintro _ w8 ⟨x8_7_0, rfl, h⟩ a R
 refine oas R rfl rfl fun a R => ?_
 refine wpList_nil ?_
 refine then_normal ?_
 refine wp_ret ?_
 exact post_ret R rfl rfl ⟨x8_7_0, rfl, h⟩
theorem s_drawer_Disk_Remove (x0 : Option Addr) (x1 : ByteArray) (Q : Int → World → Prop) (w : World) (h : drawer_Disk_Remove x0 x1 Q w) :
    Calls Try.prog 21 #[.pointer x0, .string x1] w (Rets fun v w => ∃ r0 : Int, v = (.int .i64 r0 : Value) ∧ Q r0 w) :=
  calls_body (args := [.pointer x0, .string x1]) Try.func21 rfl rfl (Nat.le_of_ble_eq_true rfl) (L := [(0, .pointer x0), (1, .string x1)]) (by simp [starts]) (b_drawer_Disk_Remove x0 x1 Q w h rfl)

/-! (levyref19.Disk).Remove -/

def levyref19_Disk_Remove.k2 (x11_1_1 : Int) (Q : Int → World → Prop) (w : World) : Prop :=
  Q x11_1_1 w

def levyref19_Disk_Remove (x0 : Option Addr) (x1 : ByteArray) (Q : Int → World → Prop) (w : World) : Prop :=
  levyref19_Disk_changes x0 x1 (fun x11_1_0 x11_1_1 w => (if (x11_1_1 == 0) = true then nn x0 fun x18_5 => ld Sl.val w (x18_5.add 0) fun x20_6 => (0 ≤ x11_1_0 ∧ x11_1_0 ≤ ((x20_6.cap : Nat) : Int) ∧ rn Try.prog Sl.val (Builtin.append_ #[22, 22] 22 [.slice none 0 0, Sl.val (cutSl ⟨x20_6.p, x20_6.len, x20_6.cap⟩ 3 0 (Int.toNat x11_1_0) x20_6.cap)].toArray) w fun x23_9 w => nn x0 fun x26_10 => ld Sl.val w (x26_10.add 0) fun x28_11 => (0 ≤ (IntKind.i64.wrap (x11_1_0 + 1)) ∧ (IntKind.i64.wrap (x11_1_0 + 1)) ≤ ((x28_11.len : Nat) : Int) ∧ rn Try.prog Sl.val (Builtin.append_ #[22, 22] 22 [Sl.val x23_9, Sl.val (cutSl ⟨x28_11.p, x28_11.len, x28_11.cap⟩ 3 (Int.toNat (IntKind.i64.wrap (x11_1_0 + 1))) x28_11.len x28_11.cap)].toArray) w fun x32_15 w => nn x0 fun x35_16 => st w (x35_16.add 0) (Sl.val x32_15) fun w => levyref19_Disk_Remove.k2 x11_1_1 Q w)) else levyref19_Disk_Remove.k2 x11_1_1 Q w)) w

theorem b_levyref19_Disk_Remove (x0 : Option Addr) (x1 : ByteArray) (Q : Int → World → Prop) (w : World) (h : levyref19_Disk_Remove x0 x1 Q w) {c : Code} (hb : Try.f22.body = some c) :
 ∀ a, Rep a 38 [(0, .pointer x0), (1, .string x1)] [] → c.wp Try.prog (bodyPost Try.prog Try.f22 (Rets fun v w => ∃ r0 : Int, v = (.int .i64 r0 : Value) ∧ Q r0 w)) a w := by
 intro a R
 obtain rfl := Option.some.inj hb
 unfold levyref19_Disk_Remove at h
 refine wp_seq ?_
 refine wp_region_lit ?_
 refine oas R rfl rfl fun a R => ?_
 refine wpList_nil ?_
 refine then_normal ?_
 refine wp_seq ?_
 refine wp_region_lit ?_
 refine omv R rfl rfl fun a R => ?_
 refine omv R rfl rfl fun a R => ?_
 refine op_call R (rn_calls R rfl cf69) rfl ?_
 refine call_mono (s_levyref19_Disk_changes _ _ _ _ h) ?_
 rintro _ w18 ⟨x11_1_0, x11_1_1, rfl, h⟩ a R
 refine omv R rfl rfl fun a R => ?_
 refine op_val R (rn_ext R rfl rfl) rfl fun a R => ?_
 refine op_val R (rn_ext R rfl rfl) rfl fun a R => ?_
 refine oas R rfl rfl fun a R => ?_
 refine oas R rfl rfl fun a R => ?_
 refine wpList_nil ?_
 refine then_normal ?_
 refine seq_join (fun a w => Rep a 38 [(6, .int .i64 x11_1_1)] [] ∧ levyref19_Disk_Remove.k2 x11_1_1 Q w) ?_ ?_
 ·refine wp_seq ?_
  refine wp_region_lit ?_
  refine omv R rfl rfl fun a R => ?_
  refine op_val R (rn_bin (v := .bool (x11_1_1 == 0)) R rfl rfl rfl) rfl fun a R => ?_
  refine wpList_nil ?_
  refine then_normal ?_
  rcases ite_cases h with ⟨g4, h⟩ | ⟨g4, h⟩
  ·refine wp_condT R (congrArg (fun b => some (Value.bool b)) g4) ?_
   refine wp_seq ?_
   refine wp_region_lit ?_
   refine oas R rfl rfl fun a R => ?_
   refine wpList_nil ?_
   refine then_normal ?_
   refine wp_seq ?_
   refine wp_region_lit ?_
   refine omv R rfl rfl fun a R => ?_
   refine omv R rfl rfl fun a R => ?_
   obtain ⟨x18_5, cx18_5, h⟩ := h
   refine onl R rfl cx18_5 rfl fun a R => ?_
   refine ofd R rfl fd100_0 rfl fun a R => ?_
   obtain ⟨x20_6, cx20_6, h⟩ := h
   refine old R rfl Try.underlying22 rfl cx20_6 rfl fun a R => ?_
   refine omv R rfl rfl fun a R => ?_
   obtain ⟨s7_0, s7_1, h⟩ := h
   refine op_val R (rn_sl R rfl rfl (evo R rfl) rfl (fun w => bounds2 (lo := none) (hi := (some (.i64, x11_1_0))) 0 (Int.toNat x11_1_0) ⟨s7_0, s7_1, rfl⟩ rfl w) Try.underlying22 sz74) rfl fun a R => ?_
   obtain ⟨x23_9, w8, cx23_9, h⟩ := h
   refine op_val R (rn_bi (vs := [.slice none 0 0, Sl.val (cutSl ⟨x20_6.p, x20_6.len, x20_6.cap⟩ 3 0 (Int.toNat x11_1_0) x20_6.cap)]) R rfl (fun _ => rfl) cx23_9) rfl fun a R => ?_
   refine oas R rfl rfl fun a R => ?_
   refine wpList_nil ?_
   refine then_normal ?_
   refine wp_seq ?_
   refine wp_region_lit ?_
   refine omv R rfl rfl fun a R => ?_
   refine omv R rfl rfl fun a R => ?_
   obtain ⟨x26_10, cx26_10, h⟩ := h
   refine onl R rfl cx26_10 rfl fun a R => ?_
   refine ofd R rfl fd100_0 rfl fun a R => ?_
   obtain ⟨x28_11, cx28_11, h⟩ := h
   refine old R rfl Try.underlying22 rfl cx28_11 rfl fun a R => ?_
   refine omv R rfl rfl fun a R => ?_
   refine op_val R (rn_bin (v := .int .i64 (IntKind.i64.wrap (x11_1_0 + 1))) R rfl rfl rfl) rfl fun a R => ?_
   obtain ⟨s13_0, s13_1, h⟩ := h
   refine op_val R (rn_sl R rfl (evo R rfl) rfl rfl (fun w => bounds2 (lo := (some (.i64, (IntKind.i64.wrap (x11_1_0 + 1))))) (hi := none) (Int.toNat (IntKind.i64.wrap (x11_1_0 + 1))) x28_11.len rfl ⟨s13_0, s13_1, rfl⟩ w) Try.underlying22 sz74) rfl fun a R => ?_
   obtain ⟨x32_15, w14, cx32_15, h⟩ := h
   refine op_val R (rn_bi (vs := [Sl.val x23_9, Sl.val (cutSl ⟨x28_11.p, x28_11.len, x28_11.cap⟩ 3 (Int.toNat (IntKind.i64.wrap (x11_1_0 + 1))) x28_11.len x28_11.cap)]) R rfl (fun _ => rfl) cx32_15) rfl fun a R => ?_
   refine oas R rfl rfl fun a R => ?_
   refine wpList_nil ?_
   refine then_normal ?_
   refine wp_region_lit ?_
   refine omv R rfl rfl fun a R => ?_
   refine omv R rfl rfl fun a R => ?_
   obtain ⟨x35_16, cx35_16, h⟩ := h
   refine onl R rfl cx35_16 rfl fun a R => ?_
   refine ofd R rfl fd100_0 rfl fun a R => ?_
   obtain ⟨q17, f17, h⟩ := h
   refine op_unit R (rn_st R rfl rfl rfl sz22 q17 f17) fun a R => ?_
   refine wpList_nil ?_
   refine then_normal ?_
   exact ⟨R.weak ⟨rfl, trivial⟩, h⟩
  ·refine wp_condF R (congrArg (fun b => some (Value.bool b)) g4) ?_
   refine wp_skip ?_
   refine then_normal ?_
   exact ⟨R.weak ⟨rfl, trivial⟩, h⟩
 ·rintro a w ⟨R, h⟩
  unfold levyref19_Disk_Remove.k2 at h
  refine wp_seq ?_
  refine wp_region_lit ?_
  refine omv R rfl rfl fun a R => ?_
  refine oas R rfl rfl fun a R => ?_
  refine wpList_nil ?_
  refine then_normal ?_
  refine wp_ret ?_
  exact post_ret R rfl rfl ⟨x11_1_1, rfl, h⟩
theorem s_levyref19_Disk_Remove (x0 : Option Addr) (x1 : ByteArray) (Q : Int → World → Prop) (w : World) (h : levyref19_Disk_Remove x0 x1 Q w) :
    Calls Try.prog 22 #[.pointer x0, .string x1] w (Rets fun v w => ∃ r0 : Int, v = (.int .i64 r0 : Value) ∧ Q r0 w) :=
  calls_body (args := [.pointer x0, .string x1]) Try.func22 rfl rfl (Nat.le_of_ble_eq_true rfl) (L := [(0, .pointer x0), (1, .string x1)]) (by simp [starts]) (b_levyref19_Disk_Remove x0 x1 Q w h rfl)

/-! (drawer.Disk).Read -/

def drawer_Disk_Read (x0 : Option Addr) (x1 : ByteArray) (Q : Sl → Int → World → Prop) (w : World) : Prop :=
  drawer_named x1 (fun x9_1_0 w => (if x9_1_0 = true then nn x0 fun x13_3 => ld Value.bool w (x13_3.add 1) fun x15_4 => (if x15_4 = true then Q (Sl.mk none 0 0) 190 w else nn x0 fun x18_6 => ld Value.map w (x18_6.add 0) fun x20_7 => rn Try.prog Value.pointer (Instr.lookup 94 (.map x20_7) (.string x1) false) w fun x22_8 w => (if (Option.isNone x22_8) = true then Q (Sl.mk none 0 0) 193 w else nn x0 fun x25_11 => ld Value.map w (x25_11.add 0) fun x27_12 => rn Try.prog Value.pointer (Instr.lookup 94 (.map x27_12) (.string x1) false) w fun x29_13 w => nn x29_13 fun x30_15 => ld Sl.val w (x30_15.add 0) fun x32_16 => rn Try.prog Sl.val (Instr.makeSlice 34 (.int .i64 ((x32_16.len : Nat) : Int)) (.int .i64 ((x32_16.len : Nat) : Int))) w fun x34_18 w => nn x0 fun x37_20 => ld Value.map w (x37_20.add 0) fun x39_21 => rn Try.prog Value.pointer (Instr.lookup 94 (.map x39_21) (.string x1) false) w fun x41_22 w => nn x41_22 fun x42_24 => ld Sl.val w (x42_24.add 0) fun x44_25 => rn Try.prog (Value.int .i64) (Builtin.copy_ #[34, 34] 3 [Sl.val x34_18, Sl.val x44_25].toArray) w fun x45_27 w => Q x34_18 0 w)) else Q (Sl.mk none 0 0) 192 w)) w

theorem b_drawer_Disk_Read (x0 : Option Addr) (x1 : ByteArray) (Q : Sl → Int → World → Prop) (w : World) (h : drawer_Disk_Read x0 x1 Q w) {c : Code} (hb : Try.f23.body = some c) :
 ∀ a, Rep a 47 [(0, .pointer x0), (1, .string x1)] [] → c.wp Try.prog (bodyPost Try.prog Try.f23 (Rets fun v w => ∃ r0 : Sl, ∃ r1 : Int, v = (.tuple #[Sl.val r0, .int .i64 r1] : Value) ∧ Q r0 r1 w)) a w := by
 intro a R
 obtain rfl := Option.some.inj hb
 unfold drawer_Disk_Read at h
 refine wp_seq ?_
 refine wp_region_lit ?_
 refine oas R rfl rfl fun a R => ?_
 refine oas R rfl rfl fun a R => ?_
 refine wpList_nil ?_
 refine then_normal ?_
 refine wp_seq ?_
 refine wp_block ?_
 refine wp_seq ?_
 refine wp_region_lit ?_
 refine omv R rfl rfl fun a R => ?_
 refine op_call R (rn_calls R rfl cf40) rfl ?_
 refine call_mono (s_drawer_named _ _ _ h) ?_
 rintro _ w28 ⟨x9_1_0, rfl, h⟩ a R
 refine op_val R (rn_un (v := .bool (!x9_1_0)) R rfl rfl) rfl fun a R => ?_
 refine oas R rfl rfl fun a R => ?_
 refine wpList_nil ?_
 refine then_normal ?_
 rcases ite_cases h with ⟨g2, h⟩ | ⟨g2, h⟩
 ·refine wp_condF R (congrArg (fun b => some (Value.bool b)) (nf g2)) ?_
  refine wp_seq ?_
  refine wp_region_lit ?_
  refine omv R rfl rfl fun a R => ?_
  obtain ⟨x13_3, cx13_3, h⟩ := h
  refine onl R rfl cx13_3 rfl fun a R => ?_
  refine ofd R rfl fd96_1 rfl fun a R => ?_
  obtain ⟨x15_4, cx15_4, h⟩ := h
  refine old R rfl Try.underlying4 rfl cx15_4 rfl fun a R => ?_
  refine oas R rfl rfl fun a R => ?_
  refine wpList_nil ?_
  refine then_normal ?_
  rcases ite_cases h with ⟨g5, h⟩ | ⟨g5, h⟩
  ·refine wp_condT R (congrArg (fun b => some (Value.bool b)) g5) ?_
   refine wp_seq ?_
   refine wp_region_lit ?_
   refine oas R rfl rfl fun a R => ?_
   refine oas R rfl rfl fun a R => ?_
   refine wpList_nil ?_
   refine then_normal ?_
   refine wp_ret ?_
   refine block_ret ?_
   refine then_ret ?_
   exact post_ret R rfl rfl ⟨(Sl.mk none 0 0), 190, rfl, h⟩
  ·refine wp_condF R (congrArg (fun b => some (Value.bool b)) g5) ?_
   refine wp_seq ?_
   refine wp_region_lit ?_
   refine omv R rfl rfl fun a R => ?_
   obtain ⟨x18_6, cx18_6, h⟩ := h
   refine onl R rfl cx18_6 rfl fun a R => ?_
   refine ofd R rfl fd96_0 rfl fun a R => ?_
   obtain ⟨x20_7, cx20_7, h⟩ := h
   refine old R rfl Try.underlying94 rfl cx20_7 rfl fun a R => ?_
   refine omv R rfl rfl fun a R => ?_
   obtain ⟨x22_8, w9, cx22_8, h⟩ := h
   refine op_val R (rn_lookup R rfl rfl cx22_8) rfl fun a R => ?_
   refine op_val R (rn_nilPE R rfl rfl Try.underlying93) rfl fun a R => ?_
   refine oas R rfl rfl fun a R => ?_
   refine wpList_nil ?_
   refine then_normal ?_
   rcases ite_cases h with ⟨g10, h⟩ | ⟨g10, h⟩
   ·refine wp_condT R (congrArg (fun b => some (Value.bool b)) g10) ?_
    refine wp_seq ?_
    refine wp_region_lit ?_
    refine oas R rfl rfl fun a R => ?_
    refine oas R rfl rfl fun a R => ?_
    refine wpList_nil ?_
    refine then_normal ?_
    refine wp_ret ?_
    refine block_ret ?_
    refine then_ret ?_
    exact post_ret R rfl rfl ⟨(Sl.mk none 0 0), 193, rfl, h⟩
   ·refine wp_condF R (congrArg (fun b => some (Value.bool b)) g10) ?_
    refine wp_skip ?_
    refine block_normal ?_
    refine then_normal ?_
    refine wp_seq ?_
    refine wp_region_lit ?_
    refine omv R rfl rfl fun a R => ?_
    obtain ⟨x25_11, cx25_11, h⟩ := h
    refine onl R rfl cx25_11 rfl fun a R => ?_
    refine ofd R rfl fd96_0 rfl fun a R => ?_
    obtain ⟨x27_12, cx27_12, h⟩ := h
    refine old R rfl Try.underlying94 rfl cx27_12 rfl fun a R => ?_
    refine omv R rfl rfl fun a R => ?_
    obtain ⟨x29_13, w14, cx29_13, h⟩ := h
    refine op_val R (rn_lookup R rfl rfl cx29_13) rfl fun a R => ?_
    obtain ⟨x30_15, cx30_15, h⟩ := h
    refine onl R rfl cx30_15 rfl fun a R => ?_
    refine ofd R rfl fd98_0 rfl fun a R => ?_
    obtain ⟨x32_16, cx32_16, h⟩ := h
    refine old R rfl Try.underlying34 rfl cx32_16 rfl fun a R => ?_
    refine op_val R (rn_len R rfl Try.underlying34) rfl fun a R => ?_
    obtain ⟨x34_18, w19, cx34_18, h⟩ := h
    refine op_val R (rn_makeSlice R rfl rfl cx34_18) rfl fun a R => ?_
    refine oas R rfl rfl fun a R => ?_
    refine wpList_nil ?_
    refine then_normal ?_
    refine wp_seq ?_
    refine wp_region_lit ?_
    refine omv R rfl rfl fun a R => ?_
    refine omv R rfl rfl fun a R => ?_
    obtain ⟨x37_20, cx37_20, h⟩ := h
    refine onl R rfl cx37_20 rfl fun a R => ?_
    refine ofd R rfl fd96_0 rfl fun a R => ?_
    obtain ⟨x39_21, cx39_21, h⟩ := h
    refine old R rfl Try.underlying94 rfl cx39_21 rfl fun a R => ?_
    refine omv R rfl rfl fun a R => ?_
    obtain ⟨x41_22, w23, cx41_22, h⟩ := h
    refine op_val R (rn_lookup R rfl rfl cx41_22) rfl fun a R => ?_
    obtain ⟨x42_24, cx42_24, h⟩ := h
    refine onl R rfl cx42_24 rfl fun a R => ?_
    refine ofd R rfl fd98_0 rfl fun a R => ?_
    obtain ⟨x44_25, cx44_25, h⟩ := h
    refine old R rfl Try.underlying34 rfl cx44_25 rfl fun a R => ?_
    obtain ⟨x45_27, w26, cx45_27, h⟩ := h
    refine op_val R (rn_bi (vs := [Sl.val x34_18, Sl.val x44_25]) R rfl (fun _ => rfl) cx45_27) rfl fun a R => ?_
    refine wpList_nil ?_
    refine then_normal ?_
    refine wp_seq ?_
    refine wp_region_lit ?_
    refine omv R rfl rfl fun a R => ?_
    refine oas R rfl rfl fun a R => ?_
    refine oas R rfl rfl fun a R => ?_
    refine wpList_nil ?_
    refine then_normal ?_
    refine wp_ret ?_
    exact post_ret R rfl rfl ⟨x34_18, 0, rfl, h⟩
 ·refine wp_condT R (congrArg (fun b => some (Value.bool b)) (nt g2)) ?_
  refine wp_seq ?_
  refine wp_region_lit ?_
  refine oas R rfl rfl fun a R => ?_
  refine oas R rfl rfl fun a R => ?_
  refine wpList_nil ?_
  refine then_normal ?_
  refine wp_ret ?_
  refine block_ret ?_
  refine then_ret ?_
  exact post_ret R rfl rfl ⟨(Sl.mk none 0 0), 192, rfl, h⟩
theorem s_drawer_Disk_Read (x0 : Option Addr) (x1 : ByteArray) (Q : Sl → Int → World → Prop) (w : World) (h : drawer_Disk_Read x0 x1 Q w) :
    Calls Try.prog 23 #[.pointer x0, .string x1] w (Rets fun v w => ∃ r0 : Sl, ∃ r1 : Int, v = (.tuple #[Sl.val r0, .int .i64 r1] : Value) ∧ Q r0 r1 w) :=
  calls_body (args := [.pointer x0, .string x1]) Try.func23 rfl rfl (Nat.le_of_ble_eq_true rfl) (L := [(0, .pointer x0), (1, .string x1)]) (by simp [starts]) (b_drawer_Disk_Read x0 x1 Q w h rfl)

end Go.Proofs.Ytjnifnlkicajhaa.Fs
