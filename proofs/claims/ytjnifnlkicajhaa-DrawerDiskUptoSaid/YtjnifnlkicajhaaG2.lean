/-
  Written by a program of this claim (wip/gen/gen.py): what each Go function asks of the world, as a plain predicate, and that it is enough. No condition is put on any statement here.
-/
import Derived.Test.YtjnifnlkicajhaaVcDraw
import Derived.Test.YtjnifnlkicajhaaFacts
import Derived.Test.YtjnifnlkicajhaaG1
set_option linter.unusedVariables false
set_option maxRecDepth 100000
set_option maxHeartbeats 2000000
namespace Go.Proofs.Ytjnifnlkicajhaa.Fs
open Go Vc

/-! (levyroom.Room).holdConflicts -/

def levyroom_Room_holdConflicts.k3  (Q : Bool → World → Prop) (w : World) : Prop :=
  Q true w

def levyroom_Room_holdConflicts.k10 (x0 : Option Addr) (x13_1 : Addr) (z4_4 : Int) (K4 : Int → World → Prop) (Q : Bool → World → Prop) (w : World) : Prop :=
  K4 (IntKind.i64.wrap (z4_4 + 1)) w

def levyroom_Room_holdConflicts.l18 (x0 : Option Addr) (x13_1 : Addr) (z4_4 : Int) (K4 : Int → World → Prop) (x29_16 : Sl) (z18_6 : Int) (Q : Bool → World → Prop) (K18 : Int → World → Prop) (w : World) : Prop :=
  (if (decide (z18_6 < 40)) = true then nn x0 fun x36_21 => ld Sl.val w (x36_21.add 9) fun x38_22 => ix x38_22.p x38_22.len z4_4 1 fun x40_24 => ld Sl.val w x40_24 fun x41_25 => ix x41_25.p x41_25.len (IntKind.i64.wrap ((IntKind.i64.wrap (((x29_16.len : Nat) : Int) - 40)) + z18_6)) 21 fun x46_29 => ld (Value.int .u32) w (x46_29.add 0) fun x47_30_0 => ld Value.bool w (x46_29.add 1) fun x47_30_1 => ld Value.bool w (x46_29.add 2) fun x47_30_2 => ld (Value.int .i64) w (x46_29.add 3) fun x47_30_3 => ld (Value.int .i64) w (x46_29.add 4) fun x47_30_4 => ld (Value.int .i64) w (x46_29.add 5) fun x47_30_5 => ld (Value.int .i64) w (x46_29.add 6) fun x47_30_6 => ld (Value.int .u32) w (x46_29.add 7) fun x47_30_7 => ld Value.bool w (x46_29.add 8) fun x47_30_8 => ld Value.bool w (x46_29.add 9) fun x47_30_9 => ld (Value.int .i64) w (x46_29.add 10) fun x47_30_10 => ld (Value.int .i64) w (x46_29.add 11) fun x47_30_11 => ld (Value.int .i64) w (x46_29.add 12) fun x47_30_12 => ld (Value.int .i64) w (x46_29.add 13) fun x47_30_13 => ld (Value.int .u32) w (x46_29.add 14) fun x47_30_14 => ld Value.bool w (x46_29.add 15) fun x47_30_15 => ld Value.bool w (x46_29.add 16) fun x47_30_16 => ld (Value.int .i64) w (x46_29.add 17) fun x47_30_17 => ld (Value.int .i64) w (x46_29.add 18) fun x47_30_18 => ld (Value.int .i64) w (x46_29.add 19) fun x47_30_19 => ld (Value.int .i64) w (x46_29.add 20) fun x47_30_20 => al w (.cells #[.int .u32 0, .bool false, .bool false, .int .i64 0, .int .i64 0, .int .i64 0, .int .i64 0, .int .u32 0, .bool false, .bool false, .int .i64 0, .int .i64 0, .int .i64 0, .int .i64 0, .int .u32 0, .bool false, .bool false, .int .i64 0, .int .i64 0, .int .i64 0, .int .i64 0] 130) fun x7_31 w => stN w x7_31 [.int .u32 x47_30_0, .bool x47_30_1, .bool x47_30_2, .int .i64 x47_30_3, .int .i64 x47_30_4, .int .i64 x47_30_5, .int .i64 x47_30_6, .int .u32 x47_30_7, .bool x47_30_8, .bool x47_30_9, .int .i64 x47_30_10, .int .i64 x47_30_11, .int .i64 x47_30_12, .int .i64 x47_30_13, .int .u32 x47_30_14, .bool x47_30_15, .bool x47_30_16, .int .i64 x47_30_17, .int .i64 x47_30_18, .int .i64 x47_30_19, .int .i64 x47_30_20] fun w => ix (some x13_1) 2 (Int.tmod z18_6 2) 21 fun x51_36 => ld (Value.int .u32) w (x51_36.add 0) fun x52_37_0 => ld Value.bool w (x51_36.add 1) fun x52_37_1 => ld Value.bool w (x51_36.add 2) fun x52_37_2 => ld (Value.int .i64) w (x51_36.add 3) fun x52_37_3 => ld (Value.int .i64) w (x51_36.add 4) fun x52_37_4 => ld (Value.int .i64) w (x51_36.add 5) fun x52_37_5 => ld (Value.int .i64) w (x51_36.add 6) fun x52_37_6 => ld (Value.int .u32) w (x51_36.add 7) fun x52_37_7 => ld Value.bool w (x51_36.add 8) fun x52_37_8 => ld Value.bool w (x51_36.add 9) fun x52_37_9 => ld (Value.int .i64) w (x51_36.add 10) fun x52_37_10 => ld (Value.int .i64) w (x51_36.add 11) fun x52_37_11 => ld (Value.int .i64) w (x51_36.add 12) fun x52_37_12 => ld (Value.int .i64) w (x51_36.add 13) fun x52_37_13 => ld (Value.int .u32) w (x51_36.add 14) fun x52_37_14 => ld Value.bool w (x51_36.add 15) fun x52_37_15 => ld Value.bool w (x51_36.add 16) fun x52_37_16 => ld (Value.int .i64) w (x51_36.add 17) fun x52_37_17 => ld (Value.int .i64) w (x51_36.add 18) fun x52_37_18 => ld (Value.int .i64) w (x51_36.add 19) fun x52_37_19 => ld (Value.int .i64) w (x51_36.add 20) fun x52_37_20 => al w (.cells #[.int .u32 0, .bool false, .bool false, .int .i64 0, .int .i64 0, .int .i64 0, .int .i64 0, .int .u32 0, .bool false, .bool false, .int .i64 0, .int .i64 0, .int .i64 0, .int .i64 0, .int .u32 0, .bool false, .bool false, .int .i64 0, .int .i64 0, .int .i64 0, .int .i64 0] 130) fun x8_38 w => stN w x8_38 [.int .u32 x52_37_0, .bool x52_37_1, .bool x52_37_2, .int .i64 x52_37_3, .int .i64 x52_37_4, .int .i64 x52_37_5, .int .i64 x52_37_6, .int .u32 x52_37_7, .bool x52_37_8, .bool x52_37_9, .int .i64 x52_37_10, .int .i64 x52_37_11, .int .i64 x52_37_12, .int .i64 x52_37_13, .int .u32 x52_37_14, .bool x52_37_15, .bool x52_37_16, .int .i64 x52_37_17, .int .i64 x52_37_18, .int .i64 x52_37_19, .int .i64 x52_37_20] fun w => ld (Value.int .u32) w (x7_31.add 0) fun x53_41_0 => ld Value.bool w (x7_31.add 1) fun x53_41_1 => ld Value.bool w (x7_31.add 2) fun x53_41_2 => ld (Value.int .i64) w (x7_31.add 3) fun x53_41_3 => ld (Value.int .i64) w (x7_31.add 4) fun x53_41_4 => ld (Value.int .i64) w (x7_31.add 5) fun x53_41_5 => ld (Value.int .i64) w (x7_31.add 6) fun x53_41_6 => ld (Value.int .u32) w (x7_31.add 7) fun x53_41_7 => ld Value.bool w (x7_31.add 8) fun x53_41_8 => ld Value.bool w (x7_31.add 9) fun x53_41_9 => ld (Value.int .i64) w (x7_31.add 10) fun x53_41_10 => ld (Value.int .i64) w (x7_31.add 11) fun x53_41_11 => ld (Value.int .i64) w (x7_31.add 12) fun x53_41_12 => ld (Value.int .i64) w (x7_31.add 13) fun x53_41_13 => ld (Value.int .u32) w (x7_31.add 14) fun x53_41_14 => ld Value.bool w (x7_31.add 15) fun x53_41_15 => ld Value.bool w (x7_31.add 16) fun x53_41_16 => ld (Value.int .i64) w (x7_31.add 17) fun x53_41_17 => ld (Value.int .i64) w (x7_31.add 18) fun x53_41_18 => ld (Value.int .i64) w (x7_31.add 19) fun x53_41_19 => ld (Value.int .i64) w (x7_31.add 20) fun x53_41_20 => ld (Value.int .u32) w (x8_38.add 0) fun x54_42_0 => ld Value.bool w (x8_38.add 1) fun x54_42_1 => ld Value.bool w (x8_38.add 2) fun x54_42_2 => ld (Value.int .i64) w (x8_38.add 3) fun x54_42_3 => ld (Value.int .i64) w (x8_38.add 4) fun x54_42_4 => ld (Value.int .i64) w (x8_38.add 5) fun x54_42_5 => ld (Value.int .i64) w (x8_38.add 6) fun x54_42_6 => ld (Value.int .u32) w (x8_38.add 7) fun x54_42_7 => ld Value.bool w (x8_38.add 8) fun x54_42_8 => ld Value.bool w (x8_38.add 9) fun x54_42_9 => ld (Value.int .i64) w (x8_38.add 10) fun x54_42_10 => ld (Value.int .i64) w (x8_38.add 11) fun x54_42_11 => ld (Value.int .i64) w (x8_38.add 12) fun x54_42_12 => ld (Value.int .i64) w (x8_38.add 13) fun x54_42_13 => ld (Value.int .u32) w (x8_38.add 14) fun x54_42_14 => ld Value.bool w (x8_38.add 15) fun x54_42_15 => ld Value.bool w (x8_38.add 16) fun x54_42_16 => ld (Value.int .i64) w (x8_38.add 17) fun x54_42_17 => ld (Value.int .i64) w (x8_38.add 18) fun x54_42_18 => ld (Value.int .i64) w (x8_38.add 19) fun x54_42_19 => ld (Value.int .i64) w (x8_38.add 20) fun x54_42_20 => rnb Try.prog (eqGuard .neq 130 (.tmp 53) (.tmp 54) (.agg #[.int .u32 x53_41_0, .bool x53_41_1, .bool x53_41_2, .int .i64 x53_41_3, .int .i64 x53_41_4, .int .i64 x53_41_5, .int .i64 x53_41_6, .int .u32 x53_41_7, .bool x53_41_8, .bool x53_41_9, .int .i64 x53_41_10, .int .i64 x53_41_11, .int .i64 x53_41_12, .int .i64 x53_41_13, .int .u32 x53_41_14, .bool x53_41_15, .bool x53_41_16, .int .i64 x53_41_17, .int .i64 x53_41_18, .int .i64 x53_41_19, .int .i64 x53_41_20]) (.agg #[.int .u32 x54_42_0, .bool x54_42_1, .bool x54_42_2, .int .i64 x54_42_3, .int .i64 x54_42_4, .int .i64 x54_42_5, .int .i64 x54_42_6, .int .u32 x54_42_7, .bool x54_42_8, .bool x54_42_9, .int .i64 x54_42_10, .int .i64 x54_42_11, .int .i64 x54_42_12, .int .i64 x54_42_13, .int .u32 x54_42_14, .bool x54_42_15, .bool x54_42_16, .int .i64 x54_42_17, .int .i64 x54_42_18, .int .i64 x54_42_19, .int .i64 x54_42_20])) (binOp .neq 130 (.agg #[.int .u32 x53_41_0, .bool x53_41_1, .bool x53_41_2, .int .i64 x53_41_3, .int .i64 x53_41_4, .int .i64 x53_41_5, .int .i64 x53_41_6, .int .u32 x53_41_7, .bool x53_41_8, .bool x53_41_9, .int .i64 x53_41_10, .int .i64 x53_41_11, .int .i64 x53_41_12, .int .i64 x53_41_13, .int .u32 x53_41_14, .bool x53_41_15, .bool x53_41_16, .int .i64 x53_41_17, .int .i64 x53_41_18, .int .i64 x53_41_19, .int .i64 x53_41_20]) (.agg #[.int .u32 x54_42_0, .bool x54_42_1, .bool x54_42_2, .int .i64 x54_42_3, .int .i64 x54_42_4, .int .i64 x54_42_5, .int .i64 x54_42_6, .int .u32 x54_42_7, .bool x54_42_8, .bool x54_42_9, .int .i64 x54_42_10, .int .i64 x54_42_11, .int .i64 x54_42_12, .int .i64 x54_42_13, .int .u32 x54_42_14, .bool x54_42_15, .bool x54_42_16, .int .i64 x54_42_17, .int .i64 x54_42_18, .int .i64 x54_42_19, .int .i64 x54_42_20])) w fun x55_43 w => (if x55_43 = true then Q false w else K18 (IntKind.i64.wrap (z18_6 + 1)) w) else levyroom_Room_holdConflicts.k10 x0 x13_1 z4_4 K4 Q w)

def levyroom_Room_holdConflicts.l4 (x0 : Option Addr) (x13_1 : Addr) (z4_4 : Int) (Q : Bool → World → Prop) (K4 : Int → World → Prop) (w : World) : Prop :=
  nn x0 fun x16_5 => ld Sl.val w (x16_5.add 9) fun x18_6 => (if (decide (z4_4 < ((x18_6.len : Nat) : Int))) = true then nn x0 fun x24_12 => ld Sl.val w (x24_12.add 9) fun x26_13 => ix x26_13.p x26_13.len z4_4 1 fun x28_15 => ld Sl.val w x28_15 fun x29_16 => (Fix (σ := Int) (fun Ks s w => levyroom_Room_holdConflicts.l18 x0 x13_1 z4_4 K4 x29_16 s Q (fun z18_6 w => Ks z18_6 w) w) 0 w) else levyroom_Room_holdConflicts.k3  Q w)

def levyroom_Room_holdConflicts (x0 : Option Addr) (Q : Bool → World → Prop) (w : World) : Prop :=
  al w (.cells #[.int .u32 7701, .bool false, .bool false, .int .i64 0, .int .i64 0, .int .i64 0, .int .i64 0, .int .u32 0, .bool false, .bool false, .int .i64 0, .int .i64 0, .int .i64 0, .int .i64 0, .int .u32 0, .bool false, .bool false, .int .i64 0, .int .i64 0, .int .i64 0, .int .i64 0, .int .u32 7702, .bool false, .bool false, .int .i64 0, .int .i64 0, .int .i64 0, .int .i64 0, .int .u32 0, .bool false, .bool false, .int .i64 0, .int .i64 0, .int .i64 0, .int .i64 0, .int .u32 0, .bool false, .bool false, .int .i64 0, .int .i64 0, .int .i64 0, .int .i64 0] 130) fun x13_1 w => (Fix (σ := Int) (fun Ks s w => levyroom_Room_holdConflicts.l4 x0 x13_1 s Q (fun z4_4 w => Ks z4_4 w) w) 0 w)

theorem b_levyroom_Room_holdConflicts (x0 : Option Addr) (Q : Bool → World → Prop) (w : World) (h : levyroom_Room_holdConflicts x0 Q w) {c : Code} (hb : Try.f50.body = some c) :
 ∀ a, Rep a 56 [(0, .pointer x0)] [] → c.wp Try.prog (bodyPost Try.prog Try.f50 (Rets fun v w => ∃ r0 : Bool, v = (.bool r0 : Value) ∧ Q r0 w)) a w := by
 intro a R
 obtain rfl := Option.some.inj hb
 unfold levyroom_Room_holdConflicts at h
 refine wp_seq ?_
 refine wp_region_lit ?_
 refine oas R rfl rfl fun a R => ?_
 refine wpList_nil ?_
 refine then_normal ?_
 refine wp_seq ?_
 refine wp_region_lit ?_
 refine op_val R (rn_build (r := .agg #[.int .u32 7701, .bool false, .bool false, .int .i64 0, .int .i64 0, .int .i64 0, .int .i64 0]) R rfl (fun w => by kernel_rfl)) rfl fun a R => ?_
 refine op_val R (rn_build (r := .agg #[.int .u32 7701, .bool false, .bool false, .int .i64 0, .int .i64 0, .int .i64 0, .int .i64 0, .int .u32 0, .bool false, .bool false, .int .i64 0, .int .i64 0, .int .i64 0, .int .i64 0, .int .u32 0, .bool false, .bool false, .int .i64 0, .int .i64 0, .int .i64 0, .int .i64 0]) R rfl (fun w => by kernel_rfl)) rfl fun a R => ?_
 refine op_val R (rn_build (r := .agg #[.int .u32 7702, .bool false, .bool false, .int .i64 0, .int .i64 0, .int .i64 0, .int .i64 0]) R rfl (fun w => by kernel_rfl)) rfl fun a R => ?_
 refine op_val R (rn_build (r := .agg #[.int .u32 7702, .bool false, .bool false, .int .i64 0, .int .i64 0, .int .i64 0, .int .i64 0, .int .u32 0, .bool false, .bool false, .int .i64 0, .int .i64 0, .int .i64 0, .int .i64 0, .int .u32 0, .bool false, .bool false, .int .i64 0, .int .i64 0, .int .i64 0, .int .i64 0]) R rfl (fun w => by kernel_rfl)) rfl fun a R => ?_
 obtain ⟨x13_1, e2, h⟩ := al_e h
 refine op_val (v := .slice (some x13_1) 2 2) R (by rw [e2]; exact rn_buildSlice (t := 131) (len := 2) (xs := [(0, (.tmp 10)), (1, (.tmp 12))]) (cells := #[.int .u32 7701, .bool false, .bool false, .int .i64 0, .int .i64 0, .int .i64 0, .int .i64 0, .int .u32 0, .bool false, .bool false, .int .i64 0, .int .i64 0, .int .i64 0, .int .i64 0, .int .u32 0, .bool false, .bool false, .int .i64 0, .int .i64 0, .int .i64 0, .int .i64 0, .int .u32 7702, .bool false, .bool false, .int .i64 0, .int .i64 0, .int .i64 0, .int .i64 0, .int .u32 0, .bool false, .bool false, .int .i64 0, .int .i64 0, .int .i64 0, .int .i64 0, .int .u32 0, .bool false, .bool false, .int .i64 0, .int .i64 0, .int .i64 0, .int .i64 0]) (e := 130) R rfl (fun w => by kernel_rfl)) rfl fun a R => ?_
 refine oas R rfl rfl fun a R => ?_
 refine wpList_nil ?_
 refine then_normal ?_
 refine seq_join (fun a w => Rep a 56 [] [] ∧ levyroom_Room_holdConflicts.k3  Q w) ?_ ?_
 ·refine wp_seq ?_
  refine wp_region_lit ?_
  refine oas R rfl rfl fun a R => ?_
  refine wpList_nil ?_
  refine then_normal ?_
  refine wp_block ?_
  refine wp_fix (σ := Int) (fun s a => Rep a 56 [(0, .pointer x0), (3, .slice (some x13_1) 2 2), (4, .int .i64 s)] []) h (R.weak ⟨rfl, rfl, rfl, trivial⟩) ?_
  rintro Ks C z4_4 a w hC R h
  have R : Rep a 56 [(0, .pointer x0), (3, .slice (some x13_1) 2 2), (4, .int .i64 z4_4)] [] := R
  have h : levyroom_Room_holdConflicts.l4 x0 x13_1 z4_4 Q (fun z4_4 w => Ks z4_4 w) w := h
  generalize hK4 : (fun z4_4 w => Ks z4_4 w) = K4 at h
  unfold levyroom_Room_holdConflicts.l4 at h
  refine wp_seq ?_
  refine wp_seq ?_
  refine wp_region_lit ?_
  refine omv R rfl rfl fun a R => ?_
  refine omv R rfl rfl fun a R => ?_
  obtain ⟨x16_5, cx16_5, h⟩ := h
  refine onl R rfl cx16_5 rfl fun a R => ?_
  refine ofd R rfl fd65_9 rfl fun a R => ?_
  obtain ⟨x18_6, cx18_6, h⟩ := h
  refine old R rfl Try.underlying52 rfl cx18_6 rfl fun a R => ?_
  refine op_val R (rn_len R rfl Try.underlying52) rfl fun a R => ?_
  refine op_val R (rn_bin (v := .bool (decide (z4_4 < ((x18_6.len : Nat) : Int)))) R rfl rfl rfl) rfl fun a R => ?_
  refine wpList_nil ?_
  refine then_normal ?_
  rcases ite_cases h with ⟨g9, h⟩ | ⟨g9, h⟩
  ·refine wp_condT R (congrArg (fun b => some (Value.bool b)) g9) ?_
   refine wp_skip ?_
   refine then_normal ?_
   refine seq_join (fun a w => Rep a 56 [(0, .pointer x0), (3, .slice (some x13_1) 2 2), (4, .int .i64 z4_4)] [] ∧ levyroom_Room_holdConflicts.k10 x0 x13_1 z4_4 K4 Q w) ?_ ?_
   ·refine wp_block ?_
    refine wp_seq ?_
    refine wp_region_lit ?_
    refine omv R rfl rfl fun a R => ?_
    obtain ⟨x24_12, cx24_12, h⟩ := h
    refine onl R rfl cx24_12 rfl fun a R => ?_
    refine ofd R rfl fd65_9 rfl fun a R => ?_
    obtain ⟨x26_13, cx26_13, h⟩ := h
    refine old R rfl Try.underlying52 rfl cx26_13 rfl fun a R => ?_
    refine omv R rfl rfl fun a R => ?_
    obtain ⟨b14, x28_15, p14, i14, j14, e14, h⟩ := ix_e h
    refine op_val (v := .pointer (some x28_15)) R (by rw [e14]; exact rn_ixs (x := (.tmp 26)) (y := (.tmp 27)) R rfl p14 rfl Try.underlying52 sz131 i14 j14) rfl fun a R => ?_
    obtain ⟨x29_16, cx29_16, h⟩ := h
    refine old R rfl Try.underlying131 rfl cx29_16 rfl fun a R => ?_
    refine op_val R (rn_len R rfl Try.underlying131) rfl fun a R => ?_
    refine oas R rfl rfl fun a R => ?_
    refine wpList_nil ?_
    refine then_normal ?_
    refine wp_seq ?_
    refine wp_region_lit ?_
    refine oas R rfl rfl fun a R => ?_
    refine wpList_nil ?_
    refine then_normal ?_
    refine wp_block ?_
    refine wp_fix (σ := Int) (fun s a => Rep a 56 [(0, .pointer x0), (3, .slice (some x13_1) 2 2), (4, .int .i64 z4_4), (5, .int .i64 ((x29_16.len : Nat) : Int)), (6, .int .i64 s)] []) h (R.weak ⟨rfl, rfl, rfl, rfl, rfl, trivial⟩) ?_
    rintro Ks C z18_6 a w hC R h
    have R : Rep a 56 [(0, .pointer x0), (3, .slice (some x13_1) 2 2), (4, .int .i64 z4_4), (5, .int .i64 ((x29_16.len : Nat) : Int)), (6, .int .i64 z18_6)] [] := R
    have h : levyroom_Room_holdConflicts.l18 x0 x13_1 z4_4 K4 x29_16 z18_6 Q (fun z18_6 w => Ks z18_6 w) w := h
    generalize hK18 : (fun z18_6 w => Ks z18_6 w) = K18 at h
    unfold levyroom_Room_holdConflicts.l18 at h
    refine wp_seq ?_
    refine wp_seq ?_
    refine wp_region_lit ?_
    refine omv R rfl rfl fun a R => ?_
    refine op_val R (rn_bin (v := .bool (decide (z18_6 < 40))) R rfl rfl rfl) rfl fun a R => ?_
    refine wpList_nil ?_
    refine then_normal ?_
    rcases ite_cases h with ⟨g20, h⟩ | ⟨g20, h⟩
    ·refine wp_condT R (congrArg (fun b => some (Value.bool b)) g20) ?_
     refine wp_skip ?_
     refine then_normal ?_
     refine wp_seq ?_
     refine wp_block ?_
     refine wp_seq ?_
     refine wp_region_lit ?_
     refine omv R rfl rfl fun a R => ?_
     obtain ⟨x36_21, cx36_21, h⟩ := h
     refine onl R rfl cx36_21 rfl fun a R => ?_
     refine ofd R rfl fd65_9 rfl fun a R => ?_
     obtain ⟨x38_22, cx38_22, h⟩ := h
     refine old R rfl Try.underlying52 rfl cx38_22 rfl fun a R => ?_
     refine omv R rfl rfl fun a R => ?_
     obtain ⟨b23, x40_24, p23, i23, j23, e23, h⟩ := ix_e h
     refine op_val (v := .pointer (some x40_24)) R (by rw [e23]; exact rn_ixs (x := (.tmp 38)) (y := (.tmp 39)) R rfl p23 rfl Try.underlying52 sz131 i23 j23) rfl fun a R => ?_
     obtain ⟨x41_25, cx41_25, h⟩ := h
     refine old R rfl Try.underlying131 rfl cx41_25 rfl fun a R => ?_
     refine omv R rfl rfl fun a R => ?_
     refine op_val R (rn_bin (v := .int .i64 (IntKind.i64.wrap (((x29_16.len : Nat) : Int) - 40))) R rfl rfl rfl) rfl fun a R => ?_
     refine omv R rfl rfl fun a R => ?_
     refine op_val R (rn_bin (v := .int .i64 (IntKind.i64.wrap ((IntKind.i64.wrap (((x29_16.len : Nat) : Int) - 40)) + z18_6))) R rfl rfl rfl) rfl fun a R => ?_
     obtain ⟨b28, x46_29, p28, i28, j28, e28, h⟩ := ix_e h
     refine op_val (v := .pointer (some x46_29)) R (by rw [e28]; exact rn_ixs (x := (.tmp 41)) (y := (.tmp 45)) R rfl p28 rfl Try.underlying131 sz130 i28 j28) rfl fun a R => ?_
     obtain ⟨x47_30_0, cx47_30_0, x47_30_1, cx47_30_1, x47_30_2, cx47_30_2, x47_30_3, cx47_30_3, x47_30_4, cx47_30_4, x47_30_5, cx47_30_5, x47_30_6, cx47_30_6, x47_30_7, cx47_30_7, x47_30_8, cx47_30_8, x47_30_9, cx47_30_9, x47_30_10, cx47_30_10, x47_30_11, cx47_30_11, x47_30_12, cx47_30_12, x47_30_13, cx47_30_13, x47_30_14, cx47_30_14, x47_30_15, cx47_30_15, x47_30_16, cx47_30_16, x47_30_17, cx47_30_17, x47_30_18, cx47_30_18, x47_30_19, cx47_30_19, x47_30_20, cx47_30_20, h⟩ := h
     refine op_val R (rn_ldN (cs := [.int .u32 x47_30_0, .bool x47_30_1, .bool x47_30_2, .int .i64 x47_30_3, .int .i64 x47_30_4, .int .i64 x47_30_5, .int .i64 x47_30_6, .int .u32 x47_30_7, .bool x47_30_8, .bool x47_30_9, .int .i64 x47_30_10, .int .i64 x47_30_11, .int .i64 x47_30_12, .int .i64 x47_30_13, .int .u32 x47_30_14, .bool x47_30_15, .bool x47_30_16, .int .i64 x47_30_17, .int .i64 x47_30_18, .int .i64 x47_30_19, .int .i64 x47_30_20]) R rfl Try.underlying130 rfl sz130 ⟨cx47_30_0, cx47_30_1, cx47_30_2, cx47_30_3, cx47_30_4, cx47_30_5, cx47_30_6, cx47_30_7, cx47_30_8, cx47_30_9, cx47_30_10, cx47_30_11, cx47_30_12, cx47_30_13, cx47_30_14, cx47_30_15, cx47_30_16, cx47_30_17, cx47_30_18, cx47_30_19, cx47_30_20, trivial⟩) rfl fun a R => ?_
     obtain ⟨x7_31, e32, h⟩ := al_e h
     refine op_val (v := .pointer (some x7_31)) R (by rw [e32]; exact rn_al R ze130) rfl fun a R => ?_
     obtain ⟨q33, h⟩ := h
     refine op_unit R (rn_stN (vs := [.int .u32 x47_30_0, .bool x47_30_1, .bool x47_30_2, .int .i64 x47_30_3, .int .i64 x47_30_4, .int .i64 x47_30_5, .int .i64 x47_30_6, .int .u32 x47_30_7, .bool x47_30_8, .bool x47_30_9, .int .i64 x47_30_10, .int .i64 x47_30_11, .int .i64 x47_30_12, .int .i64 x47_30_13, .int .u32 x47_30_14, .bool x47_30_15, .bool x47_30_16, .int .i64 x47_30_17, .int .i64 x47_30_18, .int .i64 x47_30_19, .int .i64 x47_30_20]) R rfl rfl (ao ⟨rfl, rfl, rfl, rfl, rfl, rfl, rfl, rfl, rfl, rfl, rfl, rfl, rfl, rfl, rfl, rfl, rfl, rfl, rfl, rfl, rfl, trivial⟩) sz130 q33) fun a R => ?_
     refine wpList_nil ?_
     refine then_normal ?_
     refine wp_seq ?_
     refine wp_region_lit ?_
     refine omv R rfl rfl fun a R => ?_
     refine omv R rfl rfl fun a R => ?_
     refine op_val R (rn_bin (v := .int .i64 (Int.tmod z18_6 2)) R rfl rfl rfl) rfl fun a R => ?_
     obtain ⟨b35, x51_36, p35, i35, j35, e35, h⟩ := ix_e h
     refine op_val (v := .pointer (some x51_36)) R (by rw [e35]; exact rn_ixs (x := (.tmp 48)) (y := (.tmp 50)) R rfl p35 rfl Try.underlying131 sz130 i35 j35) rfl fun a R => ?_
     obtain ⟨x52_37_0, cx52_37_0, x52_37_1, cx52_37_1, x52_37_2, cx52_37_2, x52_37_3, cx52_37_3, x52_37_4, cx52_37_4, x52_37_5, cx52_37_5, x52_37_6, cx52_37_6, x52_37_7, cx52_37_7, x52_37_8, cx52_37_8, x52_37_9, cx52_37_9, x52_37_10, cx52_37_10, x52_37_11, cx52_37_11, x52_37_12, cx52_37_12, x52_37_13, cx52_37_13, x52_37_14, cx52_37_14, x52_37_15, cx52_37_15, x52_37_16, cx52_37_16, x52_37_17, cx52_37_17, x52_37_18, cx52_37_18, x52_37_19, cx52_37_19, x52_37_20, cx52_37_20, h⟩ := h
     refine op_val R (rn_ldN (cs := [.int .u32 x52_37_0, .bool x52_37_1, .bool x52_37_2, .int .i64 x52_37_3, .int .i64 x52_37_4, .int .i64 x52_37_5, .int .i64 x52_37_6, .int .u32 x52_37_7, .bool x52_37_8, .bool x52_37_9, .int .i64 x52_37_10, .int .i64 x52_37_11, .int .i64 x52_37_12, .int .i64 x52_37_13, .int .u32 x52_37_14, .bool x52_37_15, .bool x52_37_16, .int .i64 x52_37_17, .int .i64 x52_37_18, .int .i64 x52_37_19, .int .i64 x52_37_20]) R rfl Try.underlying130 rfl sz130 ⟨cx52_37_0, cx52_37_1, cx52_37_2, cx52_37_3, cx52_37_4, cx52_37_5, cx52_37_6, cx52_37_7, cx52_37_8, cx52_37_9, cx52_37_10, cx52_37_11, cx52_37_12, cx52_37_13, cx52_37_14, cx52_37_15, cx52_37_16, cx52_37_17, cx52_37_18, cx52_37_19, cx52_37_20, trivial⟩) rfl fun a R => ?_
     obtain ⟨x8_38, e39, h⟩ := al_e h
     refine op_val (v := .pointer (some x8_38)) R (by rw [e39]; exact rn_al R ze130) rfl fun a R => ?_
     obtain ⟨q40, h⟩ := h
     refine op_unit R (rn_stN (vs := [.int .u32 x52_37_0, .bool x52_37_1, .bool x52_37_2, .int .i64 x52_37_3, .int .i64 x52_37_4, .int .i64 x52_37_5, .int .i64 x52_37_6, .int .u32 x52_37_7, .bool x52_37_8, .bool x52_37_9, .int .i64 x52_37_10, .int .i64 x52_37_11, .int .i64 x52_37_12, .int .i64 x52_37_13, .int .u32 x52_37_14, .bool x52_37_15, .bool x52_37_16, .int .i64 x52_37_17, .int .i64 x52_37_18, .int .i64 x52_37_19, .int .i64 x52_37_20]) R rfl rfl (ao ⟨rfl, rfl, rfl, rfl, rfl, rfl, rfl, rfl, rfl, rfl, rfl, rfl, rfl, rfl, rfl, rfl, rfl, rfl, rfl, rfl, rfl, trivial⟩) sz130 q40) fun a R => ?_
     refine wpList_nil ?_
     refine then_normal ?_
     refine wp_seq ?_
     refine wp_region_lit ?_
     obtain ⟨x53_41_0, cx53_41_0, x53_41_1, cx53_41_1, x53_41_2, cx53_41_2, x53_41_3, cx53_41_3, x53_41_4, cx53_41_4, x53_41_5, cx53_41_5, x53_41_6, cx53_41_6, x53_41_7, cx53_41_7, x53_41_8, cx53_41_8, x53_41_9, cx53_41_9, x53_41_10, cx53_41_10, x53_41_11, cx53_41_11, x53_41_12, cx53_41_12, x53_41_13, cx53_41_13, x53_41_14, cx53_41_14, x53_41_15, cx53_41_15, x53_41_16, cx53_41_16, x53_41_17, cx53_41_17, x53_41_18, cx53_41_18, x53_41_19, cx53_41_19, x53_41_20, cx53_41_20, h⟩ := h
     refine op_val R (rn_ldN (cs := [.int .u32 x53_41_0, .bool x53_41_1, .bool x53_41_2, .int .i64 x53_41_3, .int .i64 x53_41_4, .int .i64 x53_41_5, .int .i64 x53_41_6, .int .u32 x53_41_7, .bool x53_41_8, .bool x53_41_9, .int .i64 x53_41_10, .int .i64 x53_41_11, .int .i64 x53_41_12, .int .i64 x53_41_13, .int .u32 x53_41_14, .bool x53_41_15, .bool x53_41_16, .int .i64 x53_41_17, .int .i64 x53_41_18, .int .i64 x53_41_19, .int .i64 x53_41_20]) R rfl Try.underlying130 rfl sz130 ⟨cx53_41_0, cx53_41_1, cx53_41_2, cx53_41_3, cx53_41_4, cx53_41_5, cx53_41_6, cx53_41_7, cx53_41_8, cx53_41_9, cx53_41_10, cx53_41_11, cx53_41_12, cx53_41_13, cx53_41_14, cx53_41_15, cx53_41_16, cx53_41_17, cx53_41_18, cx53_41_19, cx53_41_20, trivial⟩) rfl fun a R => ?_
     obtain ⟨x54_42_0, cx54_42_0, x54_42_1, cx54_42_1, x54_42_2, cx54_42_2, x54_42_3, cx54_42_3, x54_42_4, cx54_42_4, x54_42_5, cx54_42_5, x54_42_6, cx54_42_6, x54_42_7, cx54_42_7, x54_42_8, cx54_42_8, x54_42_9, cx54_42_9, x54_42_10, cx54_42_10, x54_42_11, cx54_42_11, x54_42_12, cx54_42_12, x54_42_13, cx54_42_13, x54_42_14, cx54_42_14, x54_42_15, cx54_42_15, x54_42_16, cx54_42_16, x54_42_17, cx54_42_17, x54_42_18, cx54_42_18, x54_42_19, cx54_42_19, x54_42_20, cx54_42_20, h⟩ := h
     refine op_val R (rn_ldN (cs := [.int .u32 x54_42_0, .bool x54_42_1, .bool x54_42_2, .int .i64 x54_42_3, .int .i64 x54_42_4, .int .i64 x54_42_5, .int .i64 x54_42_6, .int .u32 x54_42_7, .bool x54_42_8, .bool x54_42_9, .int .i64 x54_42_10, .int .i64 x54_42_11, .int .i64 x54_42_12, .int .i64 x54_42_13, .int .u32 x54_42_14, .bool x54_42_15, .bool x54_42_16, .int .i64 x54_42_17, .int .i64 x54_42_18, .int .i64 x54_42_19, .int .i64 x54_42_20]) R rfl Try.underlying130 rfl sz130 ⟨cx54_42_0, cx54_42_1, cx54_42_2, cx54_42_3, cx54_42_4, cx54_42_5, cx54_42_6, cx54_42_7, cx54_42_8, cx54_42_9, cx54_42_10, cx54_42_11, cx54_42_12, cx54_42_13, cx54_42_14, cx54_42_15, cx54_42_16, cx54_42_17, cx54_42_18, cx54_42_19, cx54_42_20, trivial⟩) rfl fun a R => ?_
     obtain ⟨x55_43, w44, kx55_43, cx55_43, h⟩ := h
     refine op_val R (rn_binR R rfl rfl kx55_43 cx55_43) rfl fun a R => ?_
     refine wpList_nil ?_
     refine then_normal ?_
     rcases ite_cases h with ⟨g45, h⟩ | ⟨g45, h⟩
     ·refine wp_condT R (congrArg (fun b => some (Value.bool b)) g45) ?_
      refine wp_seq ?_
      refine wp_region_lit ?_
      refine oas R rfl rfl fun a R => ?_
      refine wpList_nil ?_
      refine then_normal ?_
      refine wp_ret ?_
      refine block_ret ?_
      refine then_ret ?_
      refine then_ret ?_
      refine block_ret ?_
      refine block_ret ?_
      refine then_ret ?_
      refine then_ret ?_
      refine block_ret ?_
      refine then_ret ?_
      exact post_ret R rfl rfl ⟨false, rfl, h⟩
     ·refine wp_condF R (congrArg (fun b => some (Value.bool b)) g45) ?_
      refine wp_skip ?_
      refine block_normal ?_
      refine then_normal ?_
      refine wp_region_lit ?_
      refine omv R rfl rfl fun a R => ?_
      refine op_val R (rn_bin (v := .int .i64 (IntKind.i64.wrap (z18_6 + 1))) R rfl rfl rfl) rfl fun a R => ?_
      refine oas R rfl rfl fun a R => ?_
      refine wpList_nil ?_
      refine then_normal ?_
      exact hC (IntKind.i64.wrap (z18_6 + 1)) _ _ (R.weak ⟨rfl, rfl, rfl, rfl, rfl, trivial⟩) (by rw [← hK18] at h; exact h)
    ·refine wp_condF R (congrArg (fun b => some (Value.bool b)) g20) ?_
     refine wp_exit ?_
     refine then_exit ?_
     refine then_exit ?_
     refine block_eq ?_
     refine block_normal ?_
     refine then_normal ?_
     exact ⟨R.weak ⟨rfl, rfl, rfl, trivial⟩, h⟩
   ·rintro a w ⟨R, h⟩
    unfold levyroom_Room_holdConflicts.k10 at h
    refine wp_region_lit ?_
    refine omv R rfl rfl fun a R => ?_
    refine op_val R (rn_bin (v := .int .i64 (IntKind.i64.wrap (z4_4 + 1))) R rfl rfl rfl) rfl fun a R => ?_
    refine oas R rfl rfl fun a R => ?_
    refine wpList_nil ?_
    refine then_normal ?_
    exact hC (IntKind.i64.wrap (z4_4 + 1)) _ _ (R.weak ⟨rfl, rfl, rfl, trivial⟩) (by rw [← hK4] at h; exact h)
  ·refine wp_condF R (congrArg (fun b => some (Value.bool b)) g9) ?_
   refine wp_exit ?_
   refine then_exit ?_
   refine then_exit ?_
   refine block_eq ?_
   refine then_normal ?_
   exact ⟨R.weak trivial, h⟩
 ·rintro a w ⟨R, h⟩
  unfold levyroom_Room_holdConflicts.k3 at h
  refine wp_seq ?_
  refine wp_region_lit ?_
  refine oas R rfl rfl fun a R => ?_
  refine wpList_nil ?_
  refine then_normal ?_
  refine wp_ret ?_
  exact post_ret R rfl rfl ⟨true, rfl, h⟩
theorem s_levyroom_Room_holdConflicts (x0 : Option Addr) (Q : Bool → World → Prop) (w : World) (h : levyroom_Room_holdConflicts x0 Q w) :
    Calls Try.prog 50 #[.pointer x0] w (Rets fun v w => ∃ r0 : Bool, v = (.bool r0 : Value) ∧ Q r0 w) :=
  calls_body (args := [.pointer x0]) Try.func50 rfl rfl (Nat.le_of_ble_eq_true rfl) (L := [(0, .pointer x0)]) (by simp [starts]) (b_levyroom_Room_holdConflicts x0 Q w h rfl)

/-! (levyroom.Room).holdPoints -/

def levyroom_Room_holdPoints.k3  (Q : Bool → World → Prop) (w : World) : Prop :=
  Q true w

def levyroom_Room_holdPoints.k10 (x0 : Option Addr) (x11_1 : Addr) (z4_4 : Int) (K4 : Int → World → Prop) (Q : Bool → World → Prop) (w : World) : Prop :=
  K4 (IntKind.i64.wrap (z4_4 + 1)) w

def levyroom_Room_holdPoints.l18 (x0 : Option Addr) (x11_1 : Addr) (z4_4 : Int) (K4 : Int → World → Prop) (x27_16 : Sl) (z18_6 : Int) (Q : Bool → World → Prop) (K18 : Int → World → Prop) (w : World) : Prop :=
  (if (decide (z18_6 < 40)) = true then nn x0 fun x34_21 => ld Sl.val w (x34_21.add 10) fun x36_22 => ix x36_22.p x36_22.len z4_4 1 fun x38_24 => ld Sl.val w x38_24 fun x39_25 => ix x39_25.p x39_25.len (IntKind.i64.wrap ((IntKind.i64.wrap (((x27_16.len : Nat) : Int) - 40)) + z18_6)) 2 fun x44_29 => ld (Value.int .i64) w (x44_29.add 0) fun x45_30_0 => ld id w (x44_29.add 1) fun x45_30_1 => al w (.cells #[.int .i64 0, (.float .f32 0)] 134) fun x7_31 w => (Value.oneCell' x45_30_1 = true ∧ stN w x7_31 [.int .i64 x45_30_0, x45_30_1] fun w => ix (some x11_1) 2 (Int.tmod z18_6 2) 2 fun x49_36 => ld (Value.int .i64) w (x49_36.add 0) fun x50_37_0 => ld id w (x49_36.add 1) fun x50_37_1 => al w (.cells #[.int .i64 0, (.float .f32 0)] 134) fun x8_38 w => (Value.oneCell' x50_37_1 = true ∧ stN w x8_38 [.int .i64 x50_37_0, x50_37_1] fun w => ld (Value.int .i64) w (x7_31.add 0) fun x51_41_0 => ld id w (x7_31.add 1) fun x51_41_1 => ld (Value.int .i64) w (x8_38.add 0) fun x52_42_0 => ld id w (x8_38.add 1) fun x52_42_1 => rnb Try.prog (eqGuard .neq 134 (.tmp 51) (.tmp 52) (.agg #[.int .i64 x51_41_0, x51_41_1]) (.agg #[.int .i64 x52_42_0, x52_42_1])) (binOp .neq 134 (.agg #[.int .i64 x51_41_0, x51_41_1]) (.agg #[.int .i64 x52_42_0, x52_42_1])) w fun x53_43 w => (if x53_43 = true then Q false w else K18 (IntKind.i64.wrap (z18_6 + 1)) w))) else levyroom_Room_holdPoints.k10 x0 x11_1 z4_4 K4 Q w)

def levyroom_Room_holdPoints.l4 (x0 : Option Addr) (x11_1 : Addr) (z4_4 : Int) (Q : Bool → World → Prop) (K4 : Int → World → Prop) (w : World) : Prop :=
  nn x0 fun x14_5 => ld Sl.val w (x14_5.add 10) fun x16_6 => (if (decide (z4_4 < ((x16_6.len : Nat) : Int))) = true then nn x0 fun x22_12 => ld Sl.val w (x22_12.add 10) fun x24_13 => ix x24_13.p x24_13.len z4_4 1 fun x26_15 => ld Sl.val w x26_15 fun x27_16 => (Fix (σ := Int) (fun Ks s w => levyroom_Room_holdPoints.l18 x0 x11_1 z4_4 K4 x27_16 s Q (fun z18_6 w => Ks z18_6 w) w) 0 w) else levyroom_Room_holdPoints.k3  Q w)

def levyroom_Room_holdPoints (x0 : Option Addr) (Q : Bool → World → Prop) (w : World) : Prop :=
  al w (.cells #[.int .i64 (-7701), (.float .f32 0), .int .i64 (-7702), (.float .f32 0)] 134) fun x11_1 w => (Fix (σ := Int) (fun Ks s w => levyroom_Room_holdPoints.l4 x0 x11_1 s Q (fun z4_4 w => Ks z4_4 w) w) 0 w)

theorem b_levyroom_Room_holdPoints (x0 : Option Addr) (Q : Bool → World → Prop) (w : World) (h : levyroom_Room_holdPoints x0 Q w) {c : Code} (hb : Try.f51.body = some c) :
 ∀ a, Rep a 54 [(0, .pointer x0)] [] → c.wp Try.prog (bodyPost Try.prog Try.f51 (Rets fun v w => ∃ r0 : Bool, v = (.bool r0 : Value) ∧ Q r0 w)) a w := by
 intro a R
 obtain rfl := Option.some.inj hb
 unfold levyroom_Room_holdPoints at h
 refine wp_seq ?_
 refine wp_region_lit ?_
 refine oas R rfl rfl fun a R => ?_
 refine wpList_nil ?_
 refine then_normal ?_
 refine wp_seq ?_
 refine wp_region_lit ?_
 refine op_val R (rn_build (r := .agg #[.int .i64 (-7701), (.float .f32 0)]) R rfl (fun w => by kernel_rfl)) rfl fun a R => ?_
 refine op_val R (rn_build (r := .agg #[.int .i64 (-7702), (.float .f32 0)]) R rfl (fun w => by kernel_rfl)) rfl fun a R => ?_
 obtain ⟨x11_1, e2, h⟩ := al_e h
 refine op_val (v := .slice (some x11_1) 2 2) R (by rw [e2]; exact rn_buildSlice (t := 135) (len := 2) (xs := [(0, (.tmp 9)), (1, (.tmp 10))]) (cells := #[.int .i64 (-7701), (.float .f32 0), .int .i64 (-7702), (.float .f32 0)]) (e := 134) R rfl (fun w => by kernel_rfl)) rfl fun a R => ?_
 refine oas R rfl rfl fun a R => ?_
 refine wpList_nil ?_
 refine then_normal ?_
 refine seq_join (fun a w => Rep a 54 [] [] ∧ levyroom_Room_holdPoints.k3  Q w) ?_ ?_
 ·refine wp_seq ?_
  refine wp_region_lit ?_
  refine oas R rfl rfl fun a R => ?_
  refine wpList_nil ?_
  refine then_normal ?_
  refine wp_block ?_
  refine wp_fix (σ := Int) (fun s a => Rep a 54 [(0, .pointer x0), (3, .slice (some x11_1) 2 2), (4, .int .i64 s)] []) h (R.weak ⟨rfl, rfl, rfl, trivial⟩) ?_
  rintro Ks C z4_4 a w hC R h
  have R : Rep a 54 [(0, .pointer x0), (3, .slice (some x11_1) 2 2), (4, .int .i64 z4_4)] [] := R
  have h : levyroom_Room_holdPoints.l4 x0 x11_1 z4_4 Q (fun z4_4 w => Ks z4_4 w) w := h
  generalize hK4 : (fun z4_4 w => Ks z4_4 w) = K4 at h
  unfold levyroom_Room_holdPoints.l4 at h
  refine wp_seq ?_
  refine wp_seq ?_
  refine wp_region_lit ?_
  refine omv R rfl rfl fun a R => ?_
  refine omv R rfl rfl fun a R => ?_
  obtain ⟨x14_5, cx14_5, h⟩ := h
  refine onl R rfl cx14_5 rfl fun a R => ?_
  refine ofd R rfl fd65_10 rfl fun a R => ?_
  obtain ⟨x16_6, cx16_6, h⟩ := h
  refine old R rfl Try.underlying53 rfl cx16_6 rfl fun a R => ?_
  refine op_val R (rn_len R rfl Try.underlying53) rfl fun a R => ?_
  refine op_val R (rn_bin (v := .bool (decide (z4_4 < ((x16_6.len : Nat) : Int)))) R rfl rfl rfl) rfl fun a R => ?_
  refine wpList_nil ?_
  refine then_normal ?_
  rcases ite_cases h with ⟨g9, h⟩ | ⟨g9, h⟩
  ·refine wp_condT R (congrArg (fun b => some (Value.bool b)) g9) ?_
   refine wp_skip ?_
   refine then_normal ?_
   refine seq_join (fun a w => Rep a 54 [(0, .pointer x0), (3, .slice (some x11_1) 2 2), (4, .int .i64 z4_4)] [] ∧ levyroom_Room_holdPoints.k10 x0 x11_1 z4_4 K4 Q w) ?_ ?_
   ·refine wp_block ?_
    refine wp_seq ?_
    refine wp_region_lit ?_
    refine omv R rfl rfl fun a R => ?_
    obtain ⟨x22_12, cx22_12, h⟩ := h
    refine onl R rfl cx22_12 rfl fun a R => ?_
    refine ofd R rfl fd65_10 rfl fun a R => ?_
    obtain ⟨x24_13, cx24_13, h⟩ := h
    refine old R rfl Try.underlying53 rfl cx24_13 rfl fun a R => ?_
    refine omv R rfl rfl fun a R => ?_
    obtain ⟨b14, x26_15, p14, i14, j14, e14, h⟩ := ix_e h
    refine op_val (v := .pointer (some x26_15)) R (by rw [e14]; exact rn_ixs (x := (.tmp 24)) (y := (.tmp 25)) R rfl p14 rfl Try.underlying53 sz135 i14 j14) rfl fun a R => ?_
    obtain ⟨x27_16, cx27_16, h⟩ := h
    refine old R rfl Try.underlying135 rfl cx27_16 rfl fun a R => ?_
    refine op_val R (rn_len R rfl Try.underlying135) rfl fun a R => ?_
    refine oas R rfl rfl fun a R => ?_
    refine wpList_nil ?_
    refine then_normal ?_
    refine wp_seq ?_
    refine wp_region_lit ?_
    refine oas R rfl rfl fun a R => ?_
    refine wpList_nil ?_
    refine then_normal ?_
    refine wp_block ?_
    refine wp_fix (σ := Int) (fun s a => Rep a 54 [(0, .pointer x0), (3, .slice (some x11_1) 2 2), (4, .int .i64 z4_4), (5, .int .i64 ((x27_16.len : Nat) : Int)), (6, .int .i64 s)] []) h (R.weak ⟨rfl, rfl, rfl, rfl, rfl, trivial⟩) ?_
    rintro Ks C z18_6 a w hC R h
    have R : Rep a 54 [(0, .pointer x0), (3, .slice (some x11_1) 2 2), (4, .int .i64 z4_4), (5, .int .i64 ((x27_16.len : Nat) : Int)), (6, .int .i64 z18_6)] [] := R
    have h : levyroom_Room_holdPoints.l18 x0 x11_1 z4_4 K4 x27_16 z18_6 Q (fun z18_6 w => Ks z18_6 w) w := h
    generalize hK18 : (fun z18_6 w => Ks z18_6 w) = K18 at h
    unfold levyroom_Room_holdPoints.l18 at h
    refine wp_seq ?_
    refine wp_seq ?_
    refine wp_region_lit ?_
    refine omv R rfl rfl fun a R => ?_
    refine op_val R (rn_bin (v := .bool (decide (z18_6 < 40))) R rfl rfl rfl) rfl fun a R => ?_
    refine wpList_nil ?_
    refine then_normal ?_
    rcases ite_cases h with ⟨g20, h⟩ | ⟨g20, h⟩
    ·refine wp_condT R (congrArg (fun b => some (Value.bool b)) g20) ?_
     refine wp_skip ?_
     refine then_normal ?_
     refine wp_seq ?_
     refine wp_block ?_
     refine wp_seq ?_
     refine wp_region_lit ?_
     refine omv R rfl rfl fun a R => ?_
     obtain ⟨x34_21, cx34_21, h⟩ := h
     refine onl R rfl cx34_21 rfl fun a R => ?_
     refine ofd R rfl fd65_10 rfl fun a R => ?_
     obtain ⟨x36_22, cx36_22, h⟩ := h
     refine old R rfl Try.underlying53 rfl cx36_22 rfl fun a R => ?_
     refine omv R rfl rfl fun a R => ?_
     obtain ⟨b23, x38_24, p23, i23, j23, e23, h⟩ := ix_e h
     refine op_val (v := .pointer (some x38_24)) R (by rw [e23]; exact rn_ixs (x := (.tmp 36)) (y := (.tmp 37)) R rfl p23 rfl Try.underlying53 sz135 i23 j23) rfl fun a R => ?_
     obtain ⟨x39_25, cx39_25, h⟩ := h
     refine old R rfl Try.underlying135 rfl cx39_25 rfl fun a R => ?_
     refine omv R rfl rfl fun a R => ?_
     refine op_val R (rn_bin (v := .int .i64 (IntKind.i64.wrap (((x27_16.len : Nat) : Int) - 40))) R rfl rfl rfl) rfl fun a R => ?_
     refine omv R rfl rfl fun a R => ?_
     refine op_val R (rn_bin (v := .int .i64 (IntKind.i64.wrap ((IntKind.i64.wrap (((x27_16.len : Nat) : Int) - 40)) + z18_6))) R rfl rfl rfl) rfl fun a R => ?_
     obtain ⟨b28, x44_29, p28, i28, j28, e28, h⟩ := ix_e h
     refine op_val (v := .pointer (some x44_29)) R (by rw [e28]; exact rn_ixs (x := (.tmp 39)) (y := (.tmp 43)) R rfl p28 rfl Try.underlying135 sz134 i28 j28) rfl fun a R => ?_
     obtain ⟨x45_30_0, cx45_30_0, x45_30_1, cx45_30_1, h⟩ := h
     refine op_val R (rn_ldN (cs := [.int .i64 x45_30_0, x45_30_1]) R rfl Try.underlying134 rfl sz134 ⟨cx45_30_0, cx45_30_1, trivial⟩) rfl fun a R => ?_
     obtain ⟨x7_31, e32, h⟩ := al_e h
     refine op_val (v := .pointer (some x7_31)) R (by rw [e32]; exact rn_al R ze134) rfl fun a R => ?_
     obtain ⟨o33_0, q33, h⟩ := h
     refine op_unit R (rn_stN (vs := [.int .i64 x45_30_0, x45_30_1]) R rfl rfl (ao ⟨rfl, o33_0, trivial⟩) sz134 q33) fun a R => ?_
     refine wpList_nil ?_
     refine then_normal ?_
     refine wp_seq ?_
     refine wp_region_lit ?_
     refine omv R rfl rfl fun a R => ?_
     refine omv R rfl rfl fun a R => ?_
     refine op_val R (rn_bin (v := .int .i64 (Int.tmod z18_6 2)) R rfl rfl rfl) rfl fun a R => ?_
     obtain ⟨b35, x49_36, p35, i35, j35, e35, h⟩ := ix_e h
     refine op_val (v := .pointer (some x49_36)) R (by rw [e35]; exact rn_ixs (x := (.tmp 46)) (y := (.tmp 48)) R rfl p35 rfl Try.underlying135 sz134 i35 j35) rfl fun a R => ?_
     obtain ⟨x50_37_0, cx50_37_0, x50_37_1, cx50_37_1, h⟩ := h
     refine op_val R (rn_ldN (cs := [.int .i64 x50_37_0, x50_37_1]) R rfl Try.underlying134 rfl sz134 ⟨cx50_37_0, cx50_37_1, trivial⟩) rfl fun a R => ?_
     obtain ⟨x8_38, e39, h⟩ := al_e h
     refine op_val (v := .pointer (some x8_38)) R (by rw [e39]; exact rn_al R ze134) rfl fun a R => ?_
     obtain ⟨o40_0, q40, h⟩ := h
     refine op_unit R (rn_stN (vs := [.int .i64 x50_37_0, x50_37_1]) R rfl rfl (ao ⟨rfl, o40_0, trivial⟩) sz134 q40) fun a R => ?_
     refine wpList_nil ?_
     refine then_normal ?_
     refine wp_seq ?_
     refine wp_region_lit ?_
     obtain ⟨x51_41_0, cx51_41_0, x51_41_1, cx51_41_1, h⟩ := h
     refine op_val R (rn_ldN (cs := [.int .i64 x51_41_0, x51_41_1]) R rfl Try.underlying134 rfl sz134 ⟨cx51_41_0, cx51_41_1, trivial⟩) rfl fun a R => ?_
     obtain ⟨x52_42_0, cx52_42_0, x52_42_1, cx52_42_1, h⟩ := h
     refine op_val R (rn_ldN (cs := [.int .i64 x52_42_0, x52_42_1]) R rfl Try.underlying134 rfl sz134 ⟨cx52_42_0, cx52_42_1, trivial⟩) rfl fun a R => ?_
     obtain ⟨x53_43, w44, kx53_43, cx53_43, h⟩ := h
     refine op_val R (rn_binR R rfl rfl kx53_43 cx53_43) rfl fun a R => ?_
     refine wpList_nil ?_
     refine then_normal ?_
     rcases ite_cases h with ⟨g45, h⟩ | ⟨g45, h⟩
     ·refine wp_condT R (congrArg (fun b => some (Value.bool b)) g45) ?_
      refine wp_seq ?_
      refine wp_region_lit ?_
      refine oas R rfl rfl fun a R => ?_
      refine wpList_nil ?_
      refine then_normal ?_
      refine wp_ret ?_
      refine block_ret ?_
      refine then_ret ?_
      refine then_ret ?_
      refine block_ret ?_
      refine block_ret ?_
      refine then_ret ?_
      refine then_ret ?_
      refine block_ret ?_
      refine then_ret ?_
      exact post_ret R rfl rfl ⟨false, rfl, h⟩
     ·refine wp_condF R (congrArg (fun b => some (Value.bool b)) g45) ?_
      refine wp_skip ?_
      refine block_normal ?_
      refine then_normal ?_
      refine wp_region_lit ?_
      refine omv R rfl rfl fun a R => ?_
      refine op_val R (rn_bin (v := .int .i64 (IntKind.i64.wrap (z18_6 + 1))) R rfl rfl rfl) rfl fun a R => ?_
      refine oas R rfl rfl fun a R => ?_
      refine wpList_nil ?_
      refine then_normal ?_
      exact hC (IntKind.i64.wrap (z18_6 + 1)) _ _ (R.weak ⟨rfl, rfl, rfl, rfl, rfl, trivial⟩) (by rw [← hK18] at h; exact h)
    ·refine wp_condF R (congrArg (fun b => some (Value.bool b)) g20) ?_
     refine wp_exit ?_
     refine then_exit ?_
     refine then_exit ?_
     refine block_eq ?_
     refine block_normal ?_
     refine then_normal ?_
     exact ⟨R.weak ⟨rfl, rfl, rfl, trivial⟩, h⟩
   ·rintro a w ⟨R, h⟩
    unfold levyroom_Room_holdPoints.k10 at h
    refine wp_region_lit ?_
    refine omv R rfl rfl fun a R => ?_
    refine op_val R (rn_bin (v := .int .i64 (IntKind.i64.wrap (z4_4 + 1))) R rfl rfl rfl) rfl fun a R => ?_
    refine oas R rfl rfl fun a R => ?_
    refine wpList_nil ?_
    refine then_normal ?_
    exact hC (IntKind.i64.wrap (z4_4 + 1)) _ _ (R.weak ⟨rfl, rfl, rfl, trivial⟩) (by rw [← hK4] at h; exact h)
  ·refine wp_condF R (congrArg (fun b => some (Value.bool b)) g9) ?_
   refine wp_exit ?_
   refine then_exit ?_
   refine then_exit ?_
   refine block_eq ?_
   refine then_normal ?_
   exact ⟨R.weak trivial, h⟩
 ·rintro a w ⟨R, h⟩
  unfold levyroom_Room_holdPoints.k3 at h
  refine wp_seq ?_
  refine wp_region_lit ?_
  refine oas R rfl rfl fun a R => ?_
  refine wpList_nil ?_
  refine then_normal ?_
  refine wp_ret ?_
  exact post_ret R rfl rfl ⟨true, rfl, h⟩
theorem s_levyroom_Room_holdPoints (x0 : Option Addr) (Q : Bool → World → Prop) (w : World) (h : levyroom_Room_holdPoints x0 Q w) :
    Calls Try.prog 51 #[.pointer x0] w (Rets fun v w => ∃ r0 : Bool, v = (.bool r0 : Value) ∧ Q r0 w) :=
  calls_body (args := [.pointer x0]) Try.func51 rfl rfl (Nat.le_of_ble_eq_true rfl) (L := [(0, .pointer x0)]) (by simp [starts]) (b_levyroom_Room_holdPoints x0 Q w h rfl)

/-! (levyroom.Room).holdNodes -/

def levyroom_Room_holdNodes.k3  (Q : Bool → World → Prop) (w : World) : Prop :=
  Q true w

def levyroom_Room_holdNodes.k10 (x0 : Option Addr) (x11_1 : Addr) (z4_4 : Int) (K4 : Int → World → Prop) (Q : Bool → World → Prop) (w : World) : Prop :=
  K4 (IntKind.i64.wrap (z4_4 + 1)) w

def levyroom_Room_holdNodes.k41 (x0 : Option Addr) (x11_1 : Addr) (z4_4 : Int) (x27_16 : Sl) (z18_6 : Int) (K18 : Int → World → Prop) (y41_61 : Bool) (Q : Bool → World → Prop) (w : World) : Prop :=
  (if y41_61 = true then Q false w else K18 (IntKind.i64.wrap (z18_6 + 1)) w)

def levyroom_Room_holdNodes.l18 (x0 : Option Addr) (x11_1 : Addr) (z4_4 : Int) (K4 : Int → World → Prop) (x27_16 : Sl) (z18_6 : Int) (Q : Bool → World → Prop) (K18 : Int → World → Prop) (w : World) : Prop :=
  (if (decide (z18_6 < 40)) = true then nn x0 fun x34_21 => ld Sl.val w (x34_21.add 11) fun x36_22 => ix x36_22.p x36_22.len z4_4 1 fun x38_24 => ld Sl.val w x38_24 fun x39_25 => ix x39_25.p x39_25.len (IntKind.i64.wrap ((IntKind.i64.wrap (((x27_16.len : Nat) : Int) - 40)) + z18_6)) 6 fun x44_29 => ld (Value.int .u32) w (x44_29.add 0) fun x45_30_0 => ld (Value.int .i64) w (x44_29.add 1) fun x45_30_1 => ld (Value.int .i64) w (x44_29.add 2) fun x45_30_2 => ld (Value.int .i64) w (x44_29.add 3) fun x45_30_3 => ld Sl.val w (x44_29.add 4) fun x45_30_4 => ld Sl.val w (x44_29.add 5) fun x45_30_5 => al w (.cells #[.int .u32 0, .int .i64 0, .int .i64 0, .int .i64 0, .slice none 0 0, .slice none 0 0] 137) fun x7_31 w => stN w x7_31 [.int .u32 x45_30_0, .int .i64 x45_30_1, .int .i64 x45_30_2, .int .i64 x45_30_3, Sl.val x45_30_4, Sl.val x45_30_5] fun w => ix (some x11_1) 2 (Int.tmod z18_6 2) 6 fun x49_36 => ld (Value.int .u32) w (x49_36.add 0) fun x50_37_0 => ld (Value.int .i64) w (x49_36.add 1) fun x50_37_1 => ld (Value.int .i64) w (x49_36.add 2) fun x50_37_2 => ld (Value.int .i64) w (x49_36.add 3) fun x50_37_3 => ld Sl.val w (x49_36.add 4) fun x50_37_4 => ld Sl.val w (x49_36.add 5) fun x50_37_5 => al w (.cells #[.int .u32 0, .int .i64 0, .int .i64 0, .int .i64 0, .slice none 0 0, .slice none 0 0] 137) fun x8_38 w => stN w x8_38 [.int .u32 x50_37_0, .int .i64 x50_37_1, .int .i64 x50_37_2, .int .i64 x50_37_3, Sl.val x50_37_4, Sl.val x50_37_5] fun w => ld (Value.int .i64) w (x7_31.add 3) fun x52_44 => ld (Value.int .i64) w (x8_38.add 3) fun x54_45 => (if (x52_44 != x54_45) = true then levyroom_Room_holdNodes.k41 x0 x11_1 z4_4 x27_16 z18_6 K18 true Q w else ld Sl.val w (x7_31.add 5) fun x58_48 => levyroom_Room_holdNodes.k41 x0 x11_1 z4_4 x27_16 z18_6 K18 (((x58_48.len : Nat) : Int) != 0) Q w) else levyroom_Room_holdNodes.k10 x0 x11_1 z4_4 K4 Q w)

def levyroom_Room_holdNodes.l4 (x0 : Option Addr) (x11_1 : Addr) (z4_4 : Int) (Q : Bool → World → Prop) (K4 : Int → World → Prop) (w : World) : Prop :=
  nn x0 fun x14_5 => ld Sl.val w (x14_5.add 11) fun x16_6 => (if (decide (z4_4 < ((x16_6.len : Nat) : Int))) = true then nn x0 fun x22_12 => ld Sl.val w (x22_12.add 11) fun x24_13 => ix x24_13.p x24_13.len z4_4 1 fun x26_15 => ld Sl.val w x26_15 fun x27_16 => (Fix (σ := Int) (fun Ks s w => levyroom_Room_holdNodes.l18 x0 x11_1 z4_4 K4 x27_16 s Q (fun z18_6 w => Ks z18_6 w) w) 0 w) else levyroom_Room_holdNodes.k3  Q w)

def levyroom_Room_holdNodes (x0 : Option Addr) (Q : Bool → World → Prop) (w : World) : Prop :=
  al w (.cells #[.int .u32 0, .int .i64 0, .int .i64 0, .int .i64 (-7701), .slice none 0 0, .slice none 0 0, .int .u32 0, .int .i64 0, .int .i64 0, .int .i64 (-7702), .slice none 0 0, .slice none 0 0] 137) fun x11_1 w => (Fix (σ := Int) (fun Ks s w => levyroom_Room_holdNodes.l4 x0 x11_1 s Q (fun z4_4 w => Ks z4_4 w) w) 0 w)

theorem b_levyroom_Room_holdNodes (x0 : Option Addr) (Q : Bool → World → Prop) (w : World) (h : levyroom_Room_holdNodes x0 Q w) {c : Code} (hb : Try.f52.body = some c) :
 ∀ a, Rep a 62 [(0, .pointer x0)] [] → c.wp Try.prog (bodyPost Try.prog Try.f52 (Rets fun v w => ∃ r0 : Bool, v = (.bool r0 : Value) ∧ Q r0 w)) a w := by
 intro a R
 obtain rfl := Option.some.inj hb
 unfold levyroom_Room_holdNodes at h
 refine wp_seq ?_
 refine wp_region_lit ?_
 refine oas R rfl rfl fun a R => ?_
 refine wpList_nil ?_
 refine then_normal ?_
 refine wp_seq ?_
 refine wp_region_lit ?_
 refine op_val R (rn_build (r := .agg #[.int .u32 0, .int .i64 0, .int .i64 0, .int .i64 (-7701), .slice none 0 0, .slice none 0 0]) R rfl (fun w => by kernel_rfl)) rfl fun a R => ?_
 refine op_val R (rn_build (r := .agg #[.int .u32 0, .int .i64 0, .int .i64 0, .int .i64 (-7702), .slice none 0 0, .slice none 0 0]) R rfl (fun w => by kernel_rfl)) rfl fun a R => ?_
 obtain ⟨x11_1, e2, h⟩ := al_e h
 refine op_val (v := .slice (some x11_1) 2 2) R (by rw [e2]; exact rn_buildSlice (t := 138) (len := 2) (xs := [(0, (.tmp 9)), (1, (.tmp 10))]) (cells := #[.int .u32 0, .int .i64 0, .int .i64 0, .int .i64 (-7701), .slice none 0 0, .slice none 0 0, .int .u32 0, .int .i64 0, .int .i64 0, .int .i64 (-7702), .slice none 0 0, .slice none 0 0]) (e := 137) R rfl (fun w => by kernel_rfl)) rfl fun a R => ?_
 refine oas R rfl rfl fun a R => ?_
 refine wpList_nil ?_
 refine then_normal ?_
 refine seq_join (fun a w => Rep a 62 [] [] ∧ levyroom_Room_holdNodes.k3  Q w) ?_ ?_
 ·refine wp_seq ?_
  refine wp_region_lit ?_
  refine oas R rfl rfl fun a R => ?_
  refine wpList_nil ?_
  refine then_normal ?_
  refine wp_block ?_
  refine wp_fix (σ := Int) (fun s a => Rep a 62 [(0, .pointer x0), (3, .slice (some x11_1) 2 2), (4, .int .i64 s)] []) h (R.weak ⟨rfl, rfl, rfl, trivial⟩) ?_
  rintro Ks C z4_4 a w hC R h
  have R : Rep a 62 [(0, .pointer x0), (3, .slice (some x11_1) 2 2), (4, .int .i64 z4_4)] [] := R
  have h : levyroom_Room_holdNodes.l4 x0 x11_1 z4_4 Q (fun z4_4 w => Ks z4_4 w) w := h
  generalize hK4 : (fun z4_4 w => Ks z4_4 w) = K4 at h
  unfold levyroom_Room_holdNodes.l4 at h
  refine wp_seq ?_
  refine wp_seq ?_
  refine wp_region_lit ?_
  refine omv R rfl rfl fun a R => ?_
  refine omv R rfl rfl fun a R => ?_
  obtain ⟨x14_5, cx14_5, h⟩ := h
  refine onl R rfl cx14_5 rfl fun a R => ?_
  refine ofd R rfl fd65_11 rfl fun a R => ?_
  obtain ⟨x16_6, cx16_6, h⟩ := h
  refine old R rfl Try.underlying54 rfl cx16_6 rfl fun a R => ?_
  refine op_val R (rn_len R rfl Try.underlying54) rfl fun a R => ?_
  refine op_val R (rn_bin (v := .bool (decide (z4_4 < ((x16_6.len : Nat) : Int)))) R rfl rfl rfl) rfl fun a R => ?_
  refine wpList_nil ?_
  refine then_normal ?_
  rcases ite_cases h with ⟨g9, h⟩ | ⟨g9, h⟩
  ·refine wp_condT R (congrArg (fun b => some (Value.bool b)) g9) ?_
   refine wp_skip ?_
   refine then_normal ?_
   refine seq_join (fun a w => Rep a 62 [(0, .pointer x0), (3, .slice (some x11_1) 2 2), (4, .int .i64 z4_4)] [] ∧ levyroom_Room_holdNodes.k10 x0 x11_1 z4_4 K4 Q w) ?_ ?_
   ·refine wp_block ?_
    refine wp_seq ?_
    refine wp_region_lit ?_
    refine omv R rfl rfl fun a R => ?_
    obtain ⟨x22_12, cx22_12, h⟩ := h
    refine onl R rfl cx22_12 rfl fun a R => ?_
    refine ofd R rfl fd65_11 rfl fun a R => ?_
    obtain ⟨x24_13, cx24_13, h⟩ := h
    refine old R rfl Try.underlying54 rfl cx24_13 rfl fun a R => ?_
    refine omv R rfl rfl fun a R => ?_
    obtain ⟨b14, x26_15, p14, i14, j14, e14, h⟩ := ix_e h
    refine op_val (v := .pointer (some x26_15)) R (by rw [e14]; exact rn_ixs (x := (.tmp 24)) (y := (.tmp 25)) R rfl p14 rfl Try.underlying54 sz138 i14 j14) rfl fun a R => ?_
    obtain ⟨x27_16, cx27_16, h⟩ := h
    refine old R rfl Try.underlying138 rfl cx27_16 rfl fun a R => ?_
    refine op_val R (rn_len R rfl Try.underlying138) rfl fun a R => ?_
    refine oas R rfl rfl fun a R => ?_
    refine wpList_nil ?_
    refine then_normal ?_
    refine wp_seq ?_
    refine wp_region_lit ?_
    refine oas R rfl rfl fun a R => ?_
    refine wpList_nil ?_
    refine then_normal ?_
    refine wp_block ?_
    refine wp_fix (σ := Int) (fun s a => Rep a 62 [(0, .pointer x0), (3, .slice (some x11_1) 2 2), (4, .int .i64 z4_4), (5, .int .i64 ((x27_16.len : Nat) : Int)), (6, .int .i64 s)] []) h (R.weak ⟨rfl, rfl, rfl, rfl, rfl, trivial⟩) ?_
    rintro Ks C z18_6 a w hC R h
    have R : Rep a 62 [(0, .pointer x0), (3, .slice (some x11_1) 2 2), (4, .int .i64 z4_4), (5, .int .i64 ((x27_16.len : Nat) : Int)), (6, .int .i64 z18_6)] [] := R
    have h : levyroom_Room_holdNodes.l18 x0 x11_1 z4_4 K4 x27_16 z18_6 Q (fun z18_6 w => Ks z18_6 w) w := h
    generalize hK18 : (fun z18_6 w => Ks z18_6 w) = K18 at h
    unfold levyroom_Room_holdNodes.l18 at h
    refine wp_seq ?_
    refine wp_seq ?_
    refine wp_region_lit ?_
    refine omv R rfl rfl fun a R => ?_
    refine op_val R (rn_bin (v := .bool (decide (z18_6 < 40))) R rfl rfl rfl) rfl fun a R => ?_
    refine wpList_nil ?_
    refine then_normal ?_
    rcases ite_cases h with ⟨g20, h⟩ | ⟨g20, h⟩
    ·refine wp_condT R (congrArg (fun b => some (Value.bool b)) g20) ?_
     refine wp_skip ?_
     refine then_normal ?_
     refine wp_seq ?_
     refine wp_block ?_
     refine wp_seq ?_
     refine wp_region_lit ?_
     refine omv R rfl rfl fun a R => ?_
     obtain ⟨x34_21, cx34_21, h⟩ := h
     refine onl R rfl cx34_21 rfl fun a R => ?_
     refine ofd R rfl fd65_11 rfl fun a R => ?_
     obtain ⟨x36_22, cx36_22, h⟩ := h
     refine old R rfl Try.underlying54 rfl cx36_22 rfl fun a R => ?_
     refine omv R rfl rfl fun a R => ?_
     obtain ⟨b23, x38_24, p23, i23, j23, e23, h⟩ := ix_e h
     refine op_val (v := .pointer (some x38_24)) R (by rw [e23]; exact rn_ixs (x := (.tmp 36)) (y := (.tmp 37)) R rfl p23 rfl Try.underlying54 sz138 i23 j23) rfl fun a R => ?_
     obtain ⟨x39_25, cx39_25, h⟩ := h
     refine old R rfl Try.underlying138 rfl cx39_25 rfl fun a R => ?_
     refine omv R rfl rfl fun a R => ?_
     refine op_val R (rn_bin (v := .int .i64 (IntKind.i64.wrap (((x27_16.len : Nat) : Int) - 40))) R rfl rfl rfl) rfl fun a R => ?_
     refine omv R rfl rfl fun a R => ?_
     refine op_val R (rn_bin (v := .int .i64 (IntKind.i64.wrap ((IntKind.i64.wrap (((x27_16.len : Nat) : Int) - 40)) + z18_6))) R rfl rfl rfl) rfl fun a R => ?_
     obtain ⟨b28, x44_29, p28, i28, j28, e28, h⟩ := ix_e h
     refine op_val (v := .pointer (some x44_29)) R (by rw [e28]; exact rn_ixs (x := (.tmp 39)) (y := (.tmp 43)) R rfl p28 rfl Try.underlying138 sz137 i28 j28) rfl fun a R => ?_
     obtain ⟨x45_30_0, cx45_30_0, x45_30_1, cx45_30_1, x45_30_2, cx45_30_2, x45_30_3, cx45_30_3, x45_30_4, cx45_30_4, x45_30_5, cx45_30_5, h⟩ := h
     refine op_val R (rn_ldN (cs := [.int .u32 x45_30_0, .int .i64 x45_30_1, .int .i64 x45_30_2, .int .i64 x45_30_3, Sl.val x45_30_4, Sl.val x45_30_5]) R rfl Try.underlying137 rfl sz137 ⟨cx45_30_0, cx45_30_1, cx45_30_2, cx45_30_3, cx45_30_4, cx45_30_5, trivial⟩) rfl fun a R => ?_
     obtain ⟨x7_31, e32, h⟩ := al_e h
     refine op_val (v := .pointer (some x7_31)) R (by rw [e32]; exact rn_al R ze137) rfl fun a R => ?_
     obtain ⟨q33, h⟩ := h
     refine op_unit R (rn_stN (vs := [.int .u32 x45_30_0, .int .i64 x45_30_1, .int .i64 x45_30_2, .int .i64 x45_30_3, Sl.val x45_30_4, Sl.val x45_30_5]) R rfl rfl (ao ⟨rfl, rfl, rfl, rfl, rfl, rfl, trivial⟩) sz137 q33) fun a R => ?_
     refine wpList_nil ?_
     refine then_normal ?_
     refine wp_seq ?_
     refine wp_region_lit ?_
     refine omv R rfl rfl fun a R => ?_
     refine omv R rfl rfl fun a R => ?_
     refine op_val R (rn_bin (v := .int .i64 (Int.tmod z18_6 2)) R rfl rfl rfl) rfl fun a R => ?_
     obtain ⟨b35, x49_36, p35, i35, j35, e35, h⟩ := ix_e h
     refine op_val (v := .pointer (some x49_36)) R (by rw [e35]; exact rn_ixs (x := (.tmp 46)) (y := (.tmp 48)) R rfl p35 rfl Try.underlying138 sz137 i35 j35) rfl fun a R => ?_
     obtain ⟨x50_37_0, cx50_37_0, x50_37_1, cx50_37_1, x50_37_2, cx50_37_2, x50_37_3, cx50_37_3, x50_37_4, cx50_37_4, x50_37_5, cx50_37_5, h⟩ := h
     refine op_val R (rn_ldN (cs := [.int .u32 x50_37_0, .int .i64 x50_37_1, .int .i64 x50_37_2, .int .i64 x50_37_3, Sl.val x50_37_4, Sl.val x50_37_5]) R rfl Try.underlying137 rfl sz137 ⟨cx50_37_0, cx50_37_1, cx50_37_2, cx50_37_3, cx50_37_4, cx50_37_5, trivial⟩) rfl fun a R => ?_
     obtain ⟨x8_38, e39, h⟩ := al_e h
     refine op_val (v := .pointer (some x8_38)) R (by rw [e39]; exact rn_al R ze137) rfl fun a R => ?_
     obtain ⟨q40, h⟩ := h
     refine op_unit R (rn_stN (vs := [.int .u32 x50_37_0, .int .i64 x50_37_1, .int .i64 x50_37_2, .int .i64 x50_37_3, Sl.val x50_37_4, Sl.val x50_37_5]) R rfl rfl (ao ⟨rfl, rfl, rfl, rfl, rfl, rfl, trivial⟩) sz137 q40) fun a R => ?_
     refine wpList_nil ?_
     refine then_normal ?_
     refine seq_join (fun a w => ∃ y41_61 : Bool, Rep a 62 [(0, .pointer x0), (3, .slice (some x11_1) 2 2), (4, .int .i64 z4_4), (5, .int .i64 ((x27_16.len : Nat) : Int)), (6, .int .i64 z18_6), (61, .bool y41_61)] [] ∧ levyroom_Room_holdNodes.k41 x0 x11_1 z4_4 x27_16 z18_6 K18 y41_61 Q w) ?_ ?_
     ·refine wp_region_lit ?_
      refine ofd R rfl fd137_2 rfl fun a R => ?_
      obtain ⟨x52_44, cx52_44, h⟩ := h
      refine old R rfl Try.underlying3 rfl cx52_44 rfl fun a R => ?_
      refine ofd R rfl fd137_2 rfl fun a R => ?_
      obtain ⟨x54_45, cx54_45, h⟩ := h
      refine old R rfl Try.underlying3 rfl cx54_45 rfl fun a R => ?_
      refine op_val R (rn_bin (v := .bool (x52_44 != x54_45)) R rfl rfl rfl) rfl fun a R => ?_
      refine omv R rfl rfl fun a R => ?_
      rcases ite_cases h with ⟨g47, h⟩ | ⟨g47, h⟩
      ·refine op_pass R rfl rfl rfl (nft g47) (fun a R => ?_) (by intro s hs; cases hs; rfl)
       refine op_pass R rfl rfl rfl (nft g47) (fun a R => ?_) (by intro s hs; cases hs; rfl)
       refine op_pass R rfl rfl rfl (nft g47) (fun a R => ?_) (by intro s hs; cases hs; rfl)
       refine op_pass R rfl rfl rfl (nft g47) (fun a R => ?_) (by intro s hs; cases hs; rfl)
       refine op_val R (rn_pickT R rfl g47 rfl) rfl fun a R => ?_
       refine wpList_nil ?_
       refine then_normal ?_
       exact ⟨true, R.weak ⟨rfl, rfl, rfl, rfl, rfl, rfl, trivial⟩, h⟩
      ·refine op_guard R rfl rfl rfl g47 ?_
       refine ofd R rfl fd137_4 rfl fun a R => ?_
       refine op_guard R rfl rfl rfl g47 ?_
       obtain ⟨x58_48, cx58_48, h⟩ := h
       refine old R rfl Try.underlying126 rfl cx58_48 rfl fun a R => ?_
       refine op_guard R rfl rfl rfl g47 ?_
       refine op_val R (rn_len R rfl Try.underlying126) rfl fun a R => ?_
       refine op_guard R rfl rfl rfl g47 ?_
       refine op_val R (rn_bin (v := .bool (((x58_48.len : Nat) : Int) != 0)) R rfl rfl rfl) rfl fun a R => ?_
       refine op_val R (rn_pickF R rfl g47 rfl) rfl fun a R => ?_
       refine wpList_nil ?_
       refine then_normal ?_
       exact ⟨(((x58_48.len : Nat) : Int) != 0), R.weak ⟨rfl, rfl, rfl, rfl, rfl, rfl, trivial⟩, h⟩
     ·rintro a w ⟨y41_61, R, h⟩
      unfold levyroom_Room_holdNodes.k41 at h
      rcases ite_cases h with ⟨g42, h⟩ | ⟨g42, h⟩
      ·refine wp_condT R (congrArg (fun b => some (Value.bool b)) g42) ?_
       refine wp_seq ?_
       refine wp_region_lit ?_
       refine oas R rfl rfl fun a R => ?_
       refine wpList_nil ?_
       refine then_normal ?_
       refine wp_ret ?_
       refine block_ret ?_
       refine then_ret ?_
       refine then_ret ?_
       refine block_ret ?_
       refine block_ret ?_
       refine then_ret ?_
       refine then_ret ?_
       refine block_ret ?_
       refine then_ret ?_
       exact post_ret R rfl rfl ⟨false, rfl, h⟩
      ·refine wp_condF R (congrArg (fun b => some (Value.bool b)) g42) ?_
       refine wp_skip ?_
       refine block_normal ?_
       refine then_normal ?_
       refine wp_region_lit ?_
       refine omv R rfl rfl fun a R => ?_
       refine op_val R (rn_bin (v := .int .i64 (IntKind.i64.wrap (z18_6 + 1))) R rfl rfl rfl) rfl fun a R => ?_
       refine oas R rfl rfl fun a R => ?_
       refine wpList_nil ?_
       refine then_normal ?_
       exact hC (IntKind.i64.wrap (z18_6 + 1)) _ _ (R.weak ⟨rfl, rfl, rfl, rfl, rfl, trivial⟩) (by rw [← hK18] at h; exact h)
    ·refine wp_condF R (congrArg (fun b => some (Value.bool b)) g20) ?_
     refine wp_exit ?_
     refine then_exit ?_
     refine then_exit ?_
     refine block_eq ?_
     refine block_normal ?_
     refine then_normal ?_
     exact ⟨R.weak ⟨rfl, rfl, rfl, trivial⟩, h⟩
   ·rintro a w ⟨R, h⟩
    unfold levyroom_Room_holdNodes.k10 at h
    refine wp_region_lit ?_
    refine omv R rfl rfl fun a R => ?_
    refine op_val R (rn_bin (v := .int .i64 (IntKind.i64.wrap (z4_4 + 1))) R rfl rfl rfl) rfl fun a R => ?_
    refine oas R rfl rfl fun a R => ?_
    refine wpList_nil ?_
    refine then_normal ?_
    exact hC (IntKind.i64.wrap (z4_4 + 1)) _ _ (R.weak ⟨rfl, rfl, rfl, trivial⟩) (by rw [← hK4] at h; exact h)
  ·refine wp_condF R (congrArg (fun b => some (Value.bool b)) g9) ?_
   refine wp_exit ?_
   refine then_exit ?_
   refine then_exit ?_
   refine block_eq ?_
   refine then_normal ?_
   exact ⟨R.weak trivial, h⟩
 ·rintro a w ⟨R, h⟩
  unfold levyroom_Room_holdNodes.k3 at h
  refine wp_seq ?_
  refine wp_region_lit ?_
  refine oas R rfl rfl fun a R => ?_
  refine wpList_nil ?_
  refine then_normal ?_
  refine wp_ret ?_
  exact post_ret R rfl rfl ⟨true, rfl, h⟩
theorem s_levyroom_Room_holdNodes (x0 : Option Addr) (Q : Bool → World → Prop) (w : World) (h : levyroom_Room_holdNodes x0 Q w) :
    Calls Try.prog 52 #[.pointer x0] w (Rets fun v w => ∃ r0 : Bool, v = (.bool r0 : Value) ∧ Q r0 w) :=
  calls_body (args := [.pointer x0]) Try.func52 rfl rfl (Nat.le_of_ble_eq_true rfl) (L := [(0, .pointer x0)]) (by simp [starts]) (b_levyroom_Room_holdNodes x0 Q w h rfl)

/-! (levyroom.Room).holdRecords -/

def levyroom_Room_holdRecords.k3  (Q : Bool → World → Prop) (w : World) : Prop :=
  Q true w

def levyroom_Room_holdRecords.k10 (x0 : Option Addr) (x11_1 : Addr) (z4_4 : Int) (K4 : Int → World → Prop) (Q : Bool → World → Prop) (w : World) : Prop :=
  K4 (IntKind.i64.wrap (z4_4 + 1)) w

def levyroom_Room_holdRecords.k41 (x0 : Option Addr) (x11_1 : Addr) (z4_4 : Int) (x27_16 : Sl) (z18_6 : Int) (K18 : Int → World → Prop) (y41_61 : Bool) (Q : Bool → World → Prop) (w : World) : Prop :=
  (if y41_61 = true then Q false w else K18 (IntKind.i64.wrap (z18_6 + 1)) w)

def levyroom_Room_holdRecords.l18 (x0 : Option Addr) (x11_1 : Addr) (z4_4 : Int) (K4 : Int → World → Prop) (x27_16 : Sl) (z18_6 : Int) (Q : Bool → World → Prop) (K18 : Int → World → Prop) (w : World) : Prop :=
  (if (decide (z18_6 < 40)) = true then nn x0 fun x34_21 => ld Sl.val w (x34_21.add 12) fun x36_22 => ix x36_22.p x36_22.len z4_4 1 fun x38_24 => ld Sl.val w x38_24 fun x39_25 => ix x39_25.p x39_25.len (IntKind.i64.wrap ((IntKind.i64.wrap (((x27_16.len : Nat) : Int) - 40)) + z18_6)) 2 fun x44_29 => ld (Value.int .u8) w (x44_29.add 0) fun x45_30_0 => ld Sl.val w (x44_29.add 1) fun x45_30_1 => al w (.cells #[.int .u8 0, .slice none 0 0] 140) fun x7_31 w => stN w x7_31 [.int .u8 x45_30_0, Sl.val x45_30_1] fun w => ix (some x11_1) 2 (Int.tmod z18_6 2) 2 fun x49_36 => ld (Value.int .u8) w (x49_36.add 0) fun x50_37_0 => ld Sl.val w (x49_36.add 1) fun x50_37_1 => al w (.cells #[.int .u8 0, .slice none 0 0] 140) fun x8_38 w => stN w x8_38 [.int .u8 x50_37_0, Sl.val x50_37_1] fun w => ld (Value.int .u8) w (x7_31.add 0) fun x52_44 => ld (Value.int .u8) w (x8_38.add 0) fun x54_45 => (if (x52_44 != x54_45) = true then levyroom_Room_holdRecords.k41 x0 x11_1 z4_4 x27_16 z18_6 K18 true Q w else ld Sl.val w (x7_31.add 1) fun x58_48 => levyroom_Room_holdRecords.k41 x0 x11_1 z4_4 x27_16 z18_6 K18 (((x58_48.len : Nat) : Int) != 0) Q w) else levyroom_Room_holdRecords.k10 x0 x11_1 z4_4 K4 Q w)

def levyroom_Room_holdRecords.l4 (x0 : Option Addr) (x11_1 : Addr) (z4_4 : Int) (Q : Bool → World → Prop) (K4 : Int → World → Prop) (w : World) : Prop :=
  nn x0 fun x14_5 => ld Sl.val w (x14_5.add 12) fun x16_6 => (if (decide (z4_4 < ((x16_6.len : Nat) : Int))) = true then nn x0 fun x22_12 => ld Sl.val w (x22_12.add 12) fun x24_13 => ix x24_13.p x24_13.len z4_4 1 fun x26_15 => ld Sl.val w x26_15 fun x27_16 => (Fix (σ := Int) (fun Ks s w => levyroom_Room_holdRecords.l18 x0 x11_1 z4_4 K4 x27_16 s Q (fun z18_6 w => Ks z18_6 w) w) 0 w) else levyroom_Room_holdRecords.k3  Q w)

def levyroom_Room_holdRecords (x0 : Option Addr) (Q : Bool → World → Prop) (w : World) : Prop :=
  al w (.cells #[.int .u8 201, .slice none 0 0, .int .u8 202, .slice none 0 0] 140) fun x11_1 w => (Fix (σ := Int) (fun Ks s w => levyroom_Room_holdRecords.l4 x0 x11_1 s Q (fun z4_4 w => Ks z4_4 w) w) 0 w)

theorem b_levyroom_Room_holdRecords (x0 : Option Addr) (Q : Bool → World → Prop) (w : World) (h : levyroom_Room_holdRecords x0 Q w) {c : Code} (hb : Try.f53.body = some c) :
 ∀ a, Rep a 62 [(0, .pointer x0)] [] → c.wp Try.prog (bodyPost Try.prog Try.f53 (Rets fun v w => ∃ r0 : Bool, v = (.bool r0 : Value) ∧ Q r0 w)) a w := by
 intro a R
 obtain rfl := Option.some.inj hb
 unfold levyroom_Room_holdRecords at h
 refine wp_seq ?_
 refine wp_region_lit ?_
 refine oas R rfl rfl fun a R => ?_
 refine wpList_nil ?_
 refine then_normal ?_
 refine wp_seq ?_
 refine wp_region_lit ?_
 refine op_val R (rn_build (r := .agg #[.int .u8 201, .slice none 0 0]) R rfl (fun w => by kernel_rfl)) rfl fun a R => ?_
 refine op_val R (rn_build (r := .agg #[.int .u8 202, .slice none 0 0]) R rfl (fun w => by kernel_rfl)) rfl fun a R => ?_
 obtain ⟨x11_1, e2, h⟩ := al_e h
 refine op_val (v := .slice (some x11_1) 2 2) R (by rw [e2]; exact rn_buildSlice (t := 141) (len := 2) (xs := [(0, (.tmp 9)), (1, (.tmp 10))]) (cells := #[.int .u8 201, .slice none 0 0, .int .u8 202, .slice none 0 0]) (e := 140) R rfl (fun w => by kernel_rfl)) rfl fun a R => ?_
 refine oas R rfl rfl fun a R => ?_
 refine wpList_nil ?_
 refine then_normal ?_
 refine seq_join (fun a w => Rep a 62 [] [] ∧ levyroom_Room_holdRecords.k3  Q w) ?_ ?_
 ·refine wp_seq ?_
  refine wp_region_lit ?_
  refine oas R rfl rfl fun a R => ?_
  refine wpList_nil ?_
  refine then_normal ?_
  refine wp_block ?_
  refine wp_fix (σ := Int) (fun s a => Rep a 62 [(0, .pointer x0), (3, .slice (some x11_1) 2 2), (4, .int .i64 s)] []) h (R.weak ⟨rfl, rfl, rfl, trivial⟩) ?_
  rintro Ks C z4_4 a w hC R h
  have R : Rep a 62 [(0, .pointer x0), (3, .slice (some x11_1) 2 2), (4, .int .i64 z4_4)] [] := R
  have h : levyroom_Room_holdRecords.l4 x0 x11_1 z4_4 Q (fun z4_4 w => Ks z4_4 w) w := h
  generalize hK4 : (fun z4_4 w => Ks z4_4 w) = K4 at h
  unfold levyroom_Room_holdRecords.l4 at h
  refine wp_seq ?_
  refine wp_seq ?_
  refine wp_region_lit ?_
  refine omv R rfl rfl fun a R => ?_
  refine omv R rfl rfl fun a R => ?_
  obtain ⟨x14_5, cx14_5, h⟩ := h
  refine onl R rfl cx14_5 rfl fun a R => ?_
  refine ofd R rfl fd65_12 rfl fun a R => ?_
  obtain ⟨x16_6, cx16_6, h⟩ := h
  refine old R rfl Try.underlying55 rfl cx16_6 rfl fun a R => ?_
  refine op_val R (rn_len R rfl Try.underlying55) rfl fun a R => ?_
  refine op_val R (rn_bin (v := .bool (decide (z4_4 < ((x16_6.len : Nat) : Int)))) R rfl rfl rfl) rfl fun a R => ?_
  refine wpList_nil ?_
  refine then_normal ?_
  rcases ite_cases h with ⟨g9, h⟩ | ⟨g9, h⟩
  ·refine wp_condT R (congrArg (fun b => some (Value.bool b)) g9) ?_
   refine wp_skip ?_
   refine then_normal ?_
   refine seq_join (fun a w => Rep a 62 [(0, .pointer x0), (3, .slice (some x11_1) 2 2), (4, .int .i64 z4_4)] [] ∧ levyroom_Room_holdRecords.k10 x0 x11_1 z4_4 K4 Q w) ?_ ?_
   ·refine wp_block ?_
    refine wp_seq ?_
    refine wp_region_lit ?_
    refine omv R rfl rfl fun a R => ?_
    obtain ⟨x22_12, cx22_12, h⟩ := h
    refine onl R rfl cx22_12 rfl fun a R => ?_
    refine ofd R rfl fd65_12 rfl fun a R => ?_
    obtain ⟨x24_13, cx24_13, h⟩ := h
    refine old R rfl Try.underlying55 rfl cx24_13 rfl fun a R => ?_
    refine omv R rfl rfl fun a R => ?_
    obtain ⟨b14, x26_15, p14, i14, j14, e14, h⟩ := ix_e h
    refine op_val (v := .pointer (some x26_15)) R (by rw [e14]; exact rn_ixs (x := (.tmp 24)) (y := (.tmp 25)) R rfl p14 rfl Try.underlying55 sz141 i14 j14) rfl fun a R => ?_
    obtain ⟨x27_16, cx27_16, h⟩ := h
    refine old R rfl Try.underlying141 rfl cx27_16 rfl fun a R => ?_
    refine op_val R (rn_len R rfl Try.underlying141) rfl fun a R => ?_
    refine oas R rfl rfl fun a R => ?_
    refine wpList_nil ?_
    refine then_normal ?_
    refine wp_seq ?_
    refine wp_region_lit ?_
    refine oas R rfl rfl fun a R => ?_
    refine wpList_nil ?_
    refine then_normal ?_
    refine wp_block ?_
    refine wp_fix (σ := Int) (fun s a => Rep a 62 [(0, .pointer x0), (3, .slice (some x11_1) 2 2), (4, .int .i64 z4_4), (5, .int .i64 ((x27_16.len : Nat) : Int)), (6, .int .i64 s)] []) h (R.weak ⟨rfl, rfl, rfl, rfl, rfl, trivial⟩) ?_
    rintro Ks C z18_6 a w hC R h
    have R : Rep a 62 [(0, .pointer x0), (3, .slice (some x11_1) 2 2), (4, .int .i64 z4_4), (5, .int .i64 ((x27_16.len : Nat) : Int)), (6, .int .i64 z18_6)] [] := R
    have h : levyroom_Room_holdRecords.l18 x0 x11_1 z4_4 K4 x27_16 z18_6 Q (fun z18_6 w => Ks z18_6 w) w := h
    generalize hK18 : (fun z18_6 w => Ks z18_6 w) = K18 at h
    unfold levyroom_Room_holdRecords.l18 at h
    refine wp_seq ?_
    refine wp_seq ?_
    refine wp_region_lit ?_
    refine omv R rfl rfl fun a R => ?_
    refine op_val R (rn_bin (v := .bool (decide (z18_6 < 40))) R rfl rfl rfl) rfl fun a R => ?_
    refine wpList_nil ?_
    refine then_normal ?_
    rcases ite_cases h with ⟨g20, h⟩ | ⟨g20, h⟩
    ·refine wp_condT R (congrArg (fun b => some (Value.bool b)) g20) ?_
     refine wp_skip ?_
     refine then_normal ?_
     refine wp_seq ?_
     refine wp_block ?_
     refine wp_seq ?_
     refine wp_region_lit ?_
     refine omv R rfl rfl fun a R => ?_
     obtain ⟨x34_21, cx34_21, h⟩ := h
     refine onl R rfl cx34_21 rfl fun a R => ?_
     refine ofd R rfl fd65_12 rfl fun a R => ?_
     obtain ⟨x36_22, cx36_22, h⟩ := h
     refine old R rfl Try.underlying55 rfl cx36_22 rfl fun a R => ?_
     refine omv R rfl rfl fun a R => ?_
     obtain ⟨b23, x38_24, p23, i23, j23, e23, h⟩ := ix_e h
     refine op_val (v := .pointer (some x38_24)) R (by rw [e23]; exact rn_ixs (x := (.tmp 36)) (y := (.tmp 37)) R rfl p23 rfl Try.underlying55 sz141 i23 j23) rfl fun a R => ?_
     obtain ⟨x39_25, cx39_25, h⟩ := h
     refine old R rfl Try.underlying141 rfl cx39_25 rfl fun a R => ?_
     refine omv R rfl rfl fun a R => ?_
     refine op_val R (rn_bin (v := .int .i64 (IntKind.i64.wrap (((x27_16.len : Nat) : Int) - 40))) R rfl rfl rfl) rfl fun a R => ?_
     refine omv R rfl rfl fun a R => ?_
     refine op_val R (rn_bin (v := .int .i64 (IntKind.i64.wrap ((IntKind.i64.wrap (((x27_16.len : Nat) : Int) - 40)) + z18_6))) R rfl rfl rfl) rfl fun a R => ?_
     obtain ⟨b28, x44_29, p28, i28, j28, e28, h⟩ := ix_e h
     refine op_val (v := .pointer (some x44_29)) R (by rw [e28]; exact rn_ixs (x := (.tmp 39)) (y := (.tmp 43)) R rfl p28 rfl Try.underlying141 sz140 i28 j28) rfl fun a R => ?_
     obtain ⟨x45_30_0, cx45_30_0, x45_30_1, cx45_30_1, h⟩ := h
     refine op_val R (rn_ldN (cs := [.int .u8 x45_30_0, Sl.val x45_30_1]) R rfl Try.underlying140 rfl sz140 ⟨cx45_30_0, cx45_30_1, trivial⟩) rfl fun a R => ?_
     obtain ⟨x7_31, e32, h⟩ := al_e h
     refine op_val (v := .pointer (some x7_31)) R (by rw [e32]; exact rn_al R ze140) rfl fun a R => ?_
     obtain ⟨q33, h⟩ := h
     refine op_unit R (rn_stN (vs := [.int .u8 x45_30_0, Sl.val x45_30_1]) R rfl rfl (ao ⟨rfl, rfl, trivial⟩) sz140 q33) fun a R => ?_
     refine wpList_nil ?_
     refine then_normal ?_
     refine wp_seq ?_
     refine wp_region_lit ?_
     refine omv R rfl rfl fun a R => ?_
     refine omv R rfl rfl fun a R => ?_
     refine op_val R (rn_bin (v := .int .i64 (Int.tmod z18_6 2)) R rfl rfl rfl) rfl fun a R => ?_
     obtain ⟨b35, x49_36, p35, i35, j35, e35, h⟩ := ix_e h
     refine op_val (v := .pointer (some x49_36)) R (by rw [e35]; exact rn_ixs (x := (.tmp 46)) (y := (.tmp 48)) R rfl p35 rfl Try.underlying141 sz140 i35 j35) rfl fun a R => ?_
     obtain ⟨x50_37_0, cx50_37_0, x50_37_1, cx50_37_1, h⟩ := h
     refine op_val R (rn_ldN (cs := [.int .u8 x50_37_0, Sl.val x50_37_1]) R rfl Try.underlying140 rfl sz140 ⟨cx50_37_0, cx50_37_1, trivial⟩) rfl fun a R => ?_
     obtain ⟨x8_38, e39, h⟩ := al_e h
     refine op_val (v := .pointer (some x8_38)) R (by rw [e39]; exact rn_al R ze140) rfl fun a R => ?_
     obtain ⟨q40, h⟩ := h
     refine op_unit R (rn_stN (vs := [.int .u8 x50_37_0, Sl.val x50_37_1]) R rfl rfl (ao ⟨rfl, rfl, trivial⟩) sz140 q40) fun a R => ?_
     refine wpList_nil ?_
     refine then_normal ?_
     refine seq_join (fun a w => ∃ y41_61 : Bool, Rep a 62 [(0, .pointer x0), (3, .slice (some x11_1) 2 2), (4, .int .i64 z4_4), (5, .int .i64 ((x27_16.len : Nat) : Int)), (6, .int .i64 z18_6), (61, .bool y41_61)] [] ∧ levyroom_Room_holdRecords.k41 x0 x11_1 z4_4 x27_16 z18_6 K18 y41_61 Q w) ?_ ?_
     ·refine wp_region_lit ?_
      refine ofd R rfl fd140_0 rfl fun a R => ?_
      obtain ⟨x52_44, cx52_44, h⟩ := h
      refine old R rfl Try.underlying5 rfl cx52_44 rfl fun a R => ?_
      refine ofd R rfl fd140_0 rfl fun a R => ?_
      obtain ⟨x54_45, cx54_45, h⟩ := h
      refine old R rfl Try.underlying5 rfl cx54_45 rfl fun a R => ?_
      refine op_val R (rn_bin (v := .bool (x52_44 != x54_45)) R rfl rfl rfl) rfl fun a R => ?_
      refine omv R rfl rfl fun a R => ?_
      rcases ite_cases h with ⟨g47, h⟩ | ⟨g47, h⟩
      ·refine op_pass R rfl rfl rfl (nft g47) (fun a R => ?_) (by intro s hs; cases hs; rfl)
       refine op_pass R rfl rfl rfl (nft g47) (fun a R => ?_) (by intro s hs; cases hs; rfl)
       refine op_pass R rfl rfl rfl (nft g47) (fun a R => ?_) (by intro s hs; cases hs; rfl)
       refine op_pass R rfl rfl rfl (nft g47) (fun a R => ?_) (by intro s hs; cases hs; rfl)
       refine op_val R (rn_pickT R rfl g47 rfl) rfl fun a R => ?_
       refine wpList_nil ?_
       refine then_normal ?_
       exact ⟨true, R.weak ⟨rfl, rfl, rfl, rfl, rfl, rfl, trivial⟩, h⟩
      ·refine op_guard R rfl rfl rfl g47 ?_
       refine ofd R rfl fd140_1 rfl fun a R => ?_
       refine op_guard R rfl rfl rfl g47 ?_
       obtain ⟨x58_48, cx58_48, h⟩ := h
       refine old R rfl Try.underlying34 rfl cx58_48 rfl fun a R => ?_
       refine op_guard R rfl rfl rfl g47 ?_
       refine op_val R (rn_len R rfl Try.underlying34) rfl fun a R => ?_
       refine op_guard R rfl rfl rfl g47 ?_
       refine op_val R (rn_bin (v := .bool (((x58_48.len : Nat) : Int) != 0)) R rfl rfl rfl) rfl fun a R => ?_
       refine op_val R (rn_pickF R rfl g47 rfl) rfl fun a R => ?_
       refine wpList_nil ?_
       refine then_normal ?_
       exact ⟨(((x58_48.len : Nat) : Int) != 0), R.weak ⟨rfl, rfl, rfl, rfl, rfl, rfl, trivial⟩, h⟩
     ·rintro a w ⟨y41_61, R, h⟩
      unfold levyroom_Room_holdRecords.k41 at h
      rcases ite_cases h with ⟨g42, h⟩ | ⟨g42, h⟩
      ·refine wp_condT R (congrArg (fun b => some (Value.bool b)) g42) ?_
       refine wp_seq ?_
       refine wp_region_lit ?_
       refine oas R rfl rfl fun a R => ?_
       refine wpList_nil ?_
       refine then_normal ?_
       refine wp_ret ?_
       refine block_ret ?_
       refine then_ret ?_
       refine then_ret ?_
       refine block_ret ?_
       refine block_ret ?_
       refine then_ret ?_
       refine then_ret ?_
       refine block_ret ?_
       refine then_ret ?_
       exact post_ret R rfl rfl ⟨false, rfl, h⟩
      ·refine wp_condF R (congrArg (fun b => some (Value.bool b)) g42) ?_
       refine wp_skip ?_
       refine block_normal ?_
       refine then_normal ?_
       refine wp_region_lit ?_
       refine omv R rfl rfl fun a R => ?_
       refine op_val R (rn_bin (v := .int .i64 (IntKind.i64.wrap (z18_6 + 1))) R rfl rfl rfl) rfl fun a R => ?_
       refine oas R rfl rfl fun a R => ?_
       refine wpList_nil ?_
       refine then_normal ?_
       exact hC (IntKind.i64.wrap (z18_6 + 1)) _ _ (R.weak ⟨rfl, rfl, rfl, rfl, rfl, trivial⟩) (by rw [← hK18] at h; exact h)
    ·refine wp_condF R (congrArg (fun b => some (Value.bool b)) g20) ?_
     refine wp_exit ?_
     refine then_exit ?_
     refine then_exit ?_
     refine block_eq ?_
     refine block_normal ?_
     refine then_normal ?_
     exact ⟨R.weak ⟨rfl, rfl, rfl, trivial⟩, h⟩
   ·rintro a w ⟨R, h⟩
    unfold levyroom_Room_holdRecords.k10 at h
    refine wp_region_lit ?_
    refine omv R rfl rfl fun a R => ?_
    refine op_val R (rn_bin (v := .int .i64 (IntKind.i64.wrap (z4_4 + 1))) R rfl rfl rfl) rfl fun a R => ?_
    refine oas R rfl rfl fun a R => ?_
    refine wpList_nil ?_
    refine then_normal ?_
    exact hC (IntKind.i64.wrap (z4_4 + 1)) _ _ (R.weak ⟨rfl, rfl, rfl, trivial⟩) (by rw [← hK4] at h; exact h)
  ·refine wp_condF R (congrArg (fun b => some (Value.bool b)) g9) ?_
   refine wp_exit ?_
   refine then_exit ?_
   refine then_exit ?_
   refine block_eq ?_
   refine then_normal ?_
   exact ⟨R.weak trivial, h⟩
 ·rintro a w ⟨R, h⟩
  unfold levyroom_Room_holdRecords.k3 at h
  refine wp_seq ?_
  refine wp_region_lit ?_
  refine oas R rfl rfl fun a R => ?_
  refine wpList_nil ?_
  refine then_normal ?_
  refine wp_ret ?_
  exact post_ret R rfl rfl ⟨true, rfl, h⟩
theorem s_levyroom_Room_holdRecords (x0 : Option Addr) (Q : Bool → World → Prop) (w : World) (h : levyroom_Room_holdRecords x0 Q w) :
    Calls Try.prog 53 #[.pointer x0] w (Rets fun v w => ∃ r0 : Bool, v = (.bool r0 : Value) ∧ Q r0 w) :=
  calls_body (args := [.pointer x0]) Try.func53 rfl rfl (Nat.le_of_ble_eq_true rfl) (L := [(0, .pointer x0)]) (by simp [starts]) (b_levyroom_Room_holdRecords x0 Q w h rfl)

/-! (levyroom.Room).holdFiles -/

def levyroom_Room_holdFiles.k3  (Q : Bool → World → Prop) (w : World) : Prop :=
  Q true w

def levyroom_Room_holdFiles.k10 (x0 : Option Addr) (x11_1 : Addr) (z4_4 : Int) (K4 : Int → World → Prop) (Q : Bool → World → Prop) (w : World) : Prop :=
  K4 (IntKind.i64.wrap (z4_4 + 1)) w

def levyroom_Room_holdFiles.k41 (x0 : Option Addr) (x11_1 : Addr) (z4_4 : Int) (x27_16 : Sl) (z18_6 : Int) (K18 : Int → World → Prop) (y41_61 : Bool) (Q : Bool → World → Prop) (w : World) : Prop :=
  (if y41_61 = true then Q false w else K18 (IntKind.i64.wrap (z18_6 + 1)) w)

def levyroom_Room_holdFiles.l18 (x0 : Option Addr) (x11_1 : Addr) (z4_4 : Int) (K4 : Int → World → Prop) (x27_16 : Sl) (z18_6 : Int) (Q : Bool → World → Prop) (K18 : Int → World → Prop) (w : World) : Prop :=
  (if (decide (z18_6 < 40)) = true then nn x0 fun x34_21 => ld Sl.val w (x34_21.add 13) fun x36_22 => ix x36_22.p x36_22.len z4_4 1 fun x38_24 => ld Sl.val w x38_24 fun x39_25 => ix x39_25.p x39_25.len (IntKind.i64.wrap ((IntKind.i64.wrap (((x27_16.len : Nat) : Int) - 40)) + z18_6)) 3 fun x44_29 => ld Value.string w (x44_29.add 0) fun x45_30_0 => ld Sl.val w (x44_29.add 1) fun x45_30_1 => ld (Value.int .i64) w (x44_29.add 2) fun x45_30_2 => al w (.cells #[.string ⟨#[]⟩, .slice none 0 0, .int .i64 0] 74) fun x7_31 w => stN w x7_31 [.string x45_30_0, Sl.val x45_30_1, .int .i64 x45_30_2] fun w => ix (some x11_1) 2 (Int.tmod z18_6 2) 3 fun x49_36 => ld Value.string w (x49_36.add 0) fun x50_37_0 => ld Sl.val w (x49_36.add 1) fun x50_37_1 => ld (Value.int .i64) w (x49_36.add 2) fun x50_37_2 => al w (.cells #[.string ⟨#[]⟩, .slice none 0 0, .int .i64 0] 74) fun x8_38 w => stN w x8_38 [.string x50_37_0, Sl.val x50_37_1, .int .i64 x50_37_2] fun w => ld (Value.int .i64) w (x7_31.add 2) fun x52_44 => ld (Value.int .i64) w (x8_38.add 2) fun x54_45 => (if (x52_44 != x54_45) = true then levyroom_Room_holdFiles.k41 x0 x11_1 z4_4 x27_16 z18_6 K18 true Q w else ld Sl.val w (x7_31.add 1) fun x58_48 => levyroom_Room_holdFiles.k41 x0 x11_1 z4_4 x27_16 z18_6 K18 (((x58_48.len : Nat) : Int) != 0) Q w) else levyroom_Room_holdFiles.k10 x0 x11_1 z4_4 K4 Q w)

def levyroom_Room_holdFiles.l4 (x0 : Option Addr) (x11_1 : Addr) (z4_4 : Int) (Q : Bool → World → Prop) (K4 : Int → World → Prop) (w : World) : Prop :=
  nn x0 fun x14_5 => ld Sl.val w (x14_5.add 13) fun x16_6 => (if (decide (z4_4 < ((x16_6.len : Nat) : Int))) = true then nn x0 fun x22_12 => ld Sl.val w (x22_12.add 13) fun x24_13 => ix x24_13.p x24_13.len z4_4 1 fun x26_15 => ld Sl.val w x26_15 fun x27_16 => (Fix (σ := Int) (fun Ks s w => levyroom_Room_holdFiles.l18 x0 x11_1 z4_4 K4 x27_16 s Q (fun z18_6 w => Ks z18_6 w) w) 0 w) else levyroom_Room_holdFiles.k3  Q w)

def levyroom_Room_holdFiles (x0 : Option Addr) (Q : Bool → World → Prop) (w : World) : Prop :=
  al w (.cells #[.string ⟨#[]⟩, .slice none 0 0, .int .i64 (-7701), .string ⟨#[]⟩, .slice none 0 0, .int .i64 (-7702)] 74) fun x11_1 w => (Fix (σ := Int) (fun Ks s w => levyroom_Room_holdFiles.l4 x0 x11_1 s Q (fun z4_4 w => Ks z4_4 w) w) 0 w)

theorem b_levyroom_Room_holdFiles (x0 : Option Addr) (Q : Bool → World → Prop) (w : World) (h : levyroom_Room_holdFiles x0 Q w) {c : Code} (hb : Try.f54.body = some c) :
 ∀ a, Rep a 62 [(0, .pointer x0)] [] → c.wp Try.prog (bodyPost Try.prog Try.f54 (Rets fun v w => ∃ r0 : Bool, v = (.bool r0 : Value) ∧ Q r0 w)) a w := by
 intro a R
 obtain rfl := Option.some.inj hb
 unfold levyroom_Room_holdFiles at h
 refine wp_seq ?_
 refine wp_region_lit ?_
 refine oas R rfl rfl fun a R => ?_
 refine wpList_nil ?_
 refine then_normal ?_
 refine wp_seq ?_
 refine wp_region_lit ?_
 refine op_val R (rn_build (r := .agg #[.string ⟨#[]⟩, .slice none 0 0, .int .i64 (-7701)]) R rfl (fun w => by kernel_rfl)) rfl fun a R => ?_
 refine op_val R (rn_build (r := .agg #[.string ⟨#[]⟩, .slice none 0 0, .int .i64 (-7702)]) R rfl (fun w => by kernel_rfl)) rfl fun a R => ?_
 obtain ⟨x11_1, e2, h⟩ := al_e h
 refine op_val (v := .slice (some x11_1) 2 2) R (by rw [e2]; exact rn_buildSlice (t := 22) (len := 2) (xs := [(0, (.tmp 9)), (1, (.tmp 10))]) (cells := #[.string ⟨#[]⟩, .slice none 0 0, .int .i64 (-7701), .string ⟨#[]⟩, .slice none 0 0, .int .i64 (-7702)]) (e := 74) R rfl (fun w => by kernel_rfl)) rfl fun a R => ?_
 refine oas R rfl rfl fun a R => ?_
 refine wpList_nil ?_
 refine then_normal ?_
 refine seq_join (fun a w => Rep a 62 [] [] ∧ levyroom_Room_holdFiles.k3  Q w) ?_ ?_
 ·refine wp_seq ?_
  refine wp_region_lit ?_
  refine oas R rfl rfl fun a R => ?_
  refine wpList_nil ?_
  refine then_normal ?_
  refine wp_block ?_
  refine wp_fix (σ := Int) (fun s a => Rep a 62 [(0, .pointer x0), (3, .slice (some x11_1) 2 2), (4, .int .i64 s)] []) h (R.weak ⟨rfl, rfl, rfl, trivial⟩) ?_
  rintro Ks C z4_4 a w hC R h
  have R : Rep a 62 [(0, .pointer x0), (3, .slice (some x11_1) 2 2), (4, .int .i64 z4_4)] [] := R
  have h : levyroom_Room_holdFiles.l4 x0 x11_1 z4_4 Q (fun z4_4 w => Ks z4_4 w) w := h
  generalize hK4 : (fun z4_4 w => Ks z4_4 w) = K4 at h
  unfold levyroom_Room_holdFiles.l4 at h
  refine wp_seq ?_
  refine wp_seq ?_
  refine wp_region_lit ?_
  refine omv R rfl rfl fun a R => ?_
  refine omv R rfl rfl fun a R => ?_
  obtain ⟨x14_5, cx14_5, h⟩ := h
  refine onl R rfl cx14_5 rfl fun a R => ?_
  refine ofd R rfl fd65_13 rfl fun a R => ?_
  obtain ⟨x16_6, cx16_6, h⟩ := h
  refine old R rfl Try.underlying56 rfl cx16_6 rfl fun a R => ?_
  refine op_val R (rn_len R rfl Try.underlying56) rfl fun a R => ?_
  refine op_val R (rn_bin (v := .bool (decide (z4_4 < ((x16_6.len : Nat) : Int)))) R rfl rfl rfl) rfl fun a R => ?_
  refine wpList_nil ?_
  refine then_normal ?_
  rcases ite_cases h with ⟨g9, h⟩ | ⟨g9, h⟩
  ·refine wp_condT R (congrArg (fun b => some (Value.bool b)) g9) ?_
   refine wp_skip ?_
   refine then_normal ?_
   refine seq_join (fun a w => Rep a 62 [(0, .pointer x0), (3, .slice (some x11_1) 2 2), (4, .int .i64 z4_4)] [] ∧ levyroom_Room_holdFiles.k10 x0 x11_1 z4_4 K4 Q w) ?_ ?_
   ·refine wp_block ?_
    refine wp_seq ?_
    refine wp_region_lit ?_
    refine omv R rfl rfl fun a R => ?_
    obtain ⟨x22_12, cx22_12, h⟩ := h
    refine onl R rfl cx22_12 rfl fun a R => ?_
    refine ofd R rfl fd65_13 rfl fun a R => ?_
    obtain ⟨x24_13, cx24_13, h⟩ := h
    refine old R rfl Try.underlying56 rfl cx24_13 rfl fun a R => ?_
    refine omv R rfl rfl fun a R => ?_
    obtain ⟨b14, x26_15, p14, i14, j14, e14, h⟩ := ix_e h
    refine op_val (v := .pointer (some x26_15)) R (by rw [e14]; exact rn_ixs (x := (.tmp 24)) (y := (.tmp 25)) R rfl p14 rfl Try.underlying56 sz22 i14 j14) rfl fun a R => ?_
    obtain ⟨x27_16, cx27_16, h⟩ := h
    refine old R rfl Try.underlying22 rfl cx27_16 rfl fun a R => ?_
    refine op_val R (rn_len R rfl Try.underlying22) rfl fun a R => ?_
    refine oas R rfl rfl fun a R => ?_
    refine wpList_nil ?_
    refine then_normal ?_
    refine wp_seq ?_
    refine wp_region_lit ?_
    refine oas R rfl rfl fun a R => ?_
    refine wpList_nil ?_
    refine then_normal ?_
    refine wp_block ?_
    refine wp_fix (σ := Int) (fun s a => Rep a 62 [(0, .pointer x0), (3, .slice (some x11_1) 2 2), (4, .int .i64 z4_4), (5, .int .i64 ((x27_16.len : Nat) : Int)), (6, .int .i64 s)] []) h (R.weak ⟨rfl, rfl, rfl, rfl, rfl, trivial⟩) ?_
    rintro Ks C z18_6 a w hC R h
    have R : Rep a 62 [(0, .pointer x0), (3, .slice (some x11_1) 2 2), (4, .int .i64 z4_4), (5, .int .i64 ((x27_16.len : Nat) : Int)), (6, .int .i64 z18_6)] [] := R
    have h : levyroom_Room_holdFiles.l18 x0 x11_1 z4_4 K4 x27_16 z18_6 Q (fun z18_6 w => Ks z18_6 w) w := h
    generalize hK18 : (fun z18_6 w => Ks z18_6 w) = K18 at h
    unfold levyroom_Room_holdFiles.l18 at h
    refine wp_seq ?_
    refine wp_seq ?_
    refine wp_region_lit ?_
    refine omv R rfl rfl fun a R => ?_
    refine op_val R (rn_bin (v := .bool (decide (z18_6 < 40))) R rfl rfl rfl) rfl fun a R => ?_
    refine wpList_nil ?_
    refine then_normal ?_
    rcases ite_cases h with ⟨g20, h⟩ | ⟨g20, h⟩
    ·refine wp_condT R (congrArg (fun b => some (Value.bool b)) g20) ?_
     refine wp_skip ?_
     refine then_normal ?_
     refine wp_seq ?_
     refine wp_block ?_
     refine wp_seq ?_
     refine wp_region_lit ?_
     refine omv R rfl rfl fun a R => ?_
     obtain ⟨x34_21, cx34_21, h⟩ := h
     refine onl R rfl cx34_21 rfl fun a R => ?_
     refine ofd R rfl fd65_13 rfl fun a R => ?_
     obtain ⟨x36_22, cx36_22, h⟩ := h
     refine old R rfl Try.underlying56 rfl cx36_22 rfl fun a R => ?_
     refine omv R rfl rfl fun a R => ?_
     obtain ⟨b23, x38_24, p23, i23, j23, e23, h⟩ := ix_e h
     refine op_val (v := .pointer (some x38_24)) R (by rw [e23]; exact rn_ixs (x := (.tmp 36)) (y := (.tmp 37)) R rfl p23 rfl Try.underlying56 sz22 i23 j23) rfl fun a R => ?_
     obtain ⟨x39_25, cx39_25, h⟩ := h
     refine old R rfl Try.underlying22 rfl cx39_25 rfl fun a R => ?_
     refine omv R rfl rfl fun a R => ?_
     refine op_val R (rn_bin (v := .int .i64 (IntKind.i64.wrap (((x27_16.len : Nat) : Int) - 40))) R rfl rfl rfl) rfl fun a R => ?_
     refine omv R rfl rfl fun a R => ?_
     refine op_val R (rn_bin (v := .int .i64 (IntKind.i64.wrap ((IntKind.i64.wrap (((x27_16.len : Nat) : Int) - 40)) + z18_6))) R rfl rfl rfl) rfl fun a R => ?_
     obtain ⟨b28, x44_29, p28, i28, j28, e28, h⟩ := ix_e h
     refine op_val (v := .pointer (some x44_29)) R (by rw [e28]; exact rn_ixs (x := (.tmp 39)) (y := (.tmp 43)) R rfl p28 rfl Try.underlying22 sz74 i28 j28) rfl fun a R => ?_
     obtain ⟨x45_30_0, cx45_30_0, x45_30_1, cx45_30_1, x45_30_2, cx45_30_2, h⟩ := h
     refine op_val R (rn_ldN (cs := [.string x45_30_0, Sl.val x45_30_1, .int .i64 x45_30_2]) R rfl Try.underlying74 rfl sz74 ⟨cx45_30_0, cx45_30_1, cx45_30_2, trivial⟩) rfl fun a R => ?_
     obtain ⟨x7_31, e32, h⟩ := al_e h
     refine op_val (v := .pointer (some x7_31)) R (by rw [e32]; exact rn_al R ze74) rfl fun a R => ?_
     obtain ⟨q33, h⟩ := h
     refine op_unit R (rn_stN (vs := [.string x45_30_0, Sl.val x45_30_1, .int .i64 x45_30_2]) R rfl rfl (ao ⟨rfl, rfl, rfl, trivial⟩) sz74 q33) fun a R => ?_
     refine wpList_nil ?_
     refine then_normal ?_
     refine wp_seq ?_
     refine wp_region_lit ?_
     refine omv R rfl rfl fun a R => ?_
     refine omv R rfl rfl fun a R => ?_
     refine op_val R (rn_bin (v := .int .i64 (Int.tmod z18_6 2)) R rfl rfl rfl) rfl fun a R => ?_
     obtain ⟨b35, x49_36, p35, i35, j35, e35, h⟩ := ix_e h
     refine op_val (v := .pointer (some x49_36)) R (by rw [e35]; exact rn_ixs (x := (.tmp 46)) (y := (.tmp 48)) R rfl p35 rfl Try.underlying22 sz74 i35 j35) rfl fun a R => ?_
     obtain ⟨x50_37_0, cx50_37_0, x50_37_1, cx50_37_1, x50_37_2, cx50_37_2, h⟩ := h
     refine op_val R (rn_ldN (cs := [.string x50_37_0, Sl.val x50_37_1, .int .i64 x50_37_2]) R rfl Try.underlying74 rfl sz74 ⟨cx50_37_0, cx50_37_1, cx50_37_2, trivial⟩) rfl fun a R => ?_
     obtain ⟨x8_38, e39, h⟩ := al_e h
     refine op_val (v := .pointer (some x8_38)) R (by rw [e39]; exact rn_al R ze74) rfl fun a R => ?_
     obtain ⟨q40, h⟩ := h
     refine op_unit R (rn_stN (vs := [.string x50_37_0, Sl.val x50_37_1, .int .i64 x50_37_2]) R rfl rfl (ao ⟨rfl, rfl, rfl, trivial⟩) sz74 q40) fun a R => ?_
     refine wpList_nil ?_
     refine then_normal ?_
     refine seq_join (fun a w => ∃ y41_61 : Bool, Rep a 62 [(0, .pointer x0), (3, .slice (some x11_1) 2 2), (4, .int .i64 z4_4), (5, .int .i64 ((x27_16.len : Nat) : Int)), (6, .int .i64 z18_6), (61, .bool y41_61)] [] ∧ levyroom_Room_holdFiles.k41 x0 x11_1 z4_4 x27_16 z18_6 K18 y41_61 Q w) ?_ ?_
     ·refine wp_region_lit ?_
      refine ofd R rfl fd74_2 rfl fun a R => ?_
      obtain ⟨x52_44, cx52_44, h⟩ := h
      refine old R rfl Try.underlying3 rfl cx52_44 rfl fun a R => ?_
      refine ofd R rfl fd74_2 rfl fun a R => ?_
      obtain ⟨x54_45, cx54_45, h⟩ := h
      refine old R rfl Try.underlying3 rfl cx54_45 rfl fun a R => ?_
      refine op_val R (rn_bin (v := .bool (x52_44 != x54_45)) R rfl rfl rfl) rfl fun a R => ?_
      refine omv R rfl rfl fun a R => ?_
      rcases ite_cases h with ⟨g47, h⟩ | ⟨g47, h⟩
      ·refine op_pass R rfl rfl rfl (nft g47) (fun a R => ?_) (by intro s hs; cases hs; rfl)
       refine op_pass R rfl rfl rfl (nft g47) (fun a R => ?_) (by intro s hs; cases hs; rfl)
       refine op_pass R rfl rfl rfl (nft g47) (fun a R => ?_) (by intro s hs; cases hs; rfl)
       refine op_pass R rfl rfl rfl (nft g47) (fun a R => ?_) (by intro s hs; cases hs; rfl)
       refine op_val R (rn_pickT R rfl g47 rfl) rfl fun a R => ?_
       refine wpList_nil ?_
       refine then_normal ?_
       exact ⟨true, R.weak ⟨rfl, rfl, rfl, rfl, rfl, rfl, trivial⟩, h⟩
      ·refine op_guard R rfl rfl rfl g47 ?_
       refine ofd R rfl fd74_1 rfl fun a R => ?_
       refine op_guard R rfl rfl rfl g47 ?_
       obtain ⟨x58_48, cx58_48, h⟩ := h
       refine old R rfl Try.underlying34 rfl cx58_48 rfl fun a R => ?_
       refine op_guard R rfl rfl rfl g47 ?_
       refine op_val R (rn_len R rfl Try.underlying34) rfl fun a R => ?_
       refine op_guard R rfl rfl rfl g47 ?_
       refine op_val R (rn_bin (v := .bool (((x58_48.len : Nat) : Int) != 0)) R rfl rfl rfl) rfl fun a R => ?_
       refine op_val R (rn_pickF R rfl g47 rfl) rfl fun a R => ?_
       refine wpList_nil ?_
       refine then_normal ?_
       exact ⟨(((x58_48.len : Nat) : Int) != 0), R.weak ⟨rfl, rfl, rfl, rfl, rfl, rfl, trivial⟩, h⟩
     ·rintro a w ⟨y41_61, R, h⟩
      unfold levyroom_Room_holdFiles.k41 at h
      rcases ite_cases h with ⟨g42, h⟩ | ⟨g42, h⟩
      ·refine wp_condT R (congrArg (fun b => some (Value.bool b)) g42) ?_
       refine wp_seq ?_
       refine wp_region_lit ?_
       refine oas R rfl rfl fun a R => ?_
       refine wpList_nil ?_
       refine then_normal ?_
       refine wp_ret ?_
       refine block_ret ?_
       refine then_ret ?_
       refine then_ret ?_
       refine block_ret ?_
       refine block_ret ?_
       refine then_ret ?_
       refine then_ret ?_
       refine block_ret ?_
       refine then_ret ?_
       exact post_ret R rfl rfl ⟨false, rfl, h⟩
      ·refine wp_condF R (congrArg (fun b => some (Value.bool b)) g42) ?_
       refine wp_skip ?_
       refine block_normal ?_
       refine then_normal ?_
       refine wp_region_lit ?_
       refine omv R rfl rfl fun a R => ?_
       refine op_val R (rn_bin (v := .int .i64 (IntKind.i64.wrap (z18_6 + 1))) R rfl rfl rfl) rfl fun a R => ?_
       refine oas R rfl rfl fun a R => ?_
       refine wpList_nil ?_
       refine then_normal ?_
       exact hC (IntKind.i64.wrap (z18_6 + 1)) _ _ (R.weak ⟨rfl, rfl, rfl, rfl, rfl, trivial⟩) (by rw [← hK18] at h; exact h)
    ·refine wp_condF R (congrArg (fun b => some (Value.bool b)) g20) ?_
     refine wp_exit ?_
     refine then_exit ?_
     refine then_exit ?_
     refine block_eq ?_
     refine block_normal ?_
     refine then_normal ?_
     exact ⟨R.weak ⟨rfl, rfl, rfl, trivial⟩, h⟩
   ·rintro a w ⟨R, h⟩
    unfold levyroom_Room_holdFiles.k10 at h
    refine wp_region_lit ?_
    refine omv R rfl rfl fun a R => ?_
    refine op_val R (rn_bin (v := .int .i64 (IntKind.i64.wrap (z4_4 + 1))) R rfl rfl rfl) rfl fun a R => ?_
    refine oas R rfl rfl fun a R => ?_
    refine wpList_nil ?_
    refine then_normal ?_
    exact hC (IntKind.i64.wrap (z4_4 + 1)) _ _ (R.weak ⟨rfl, rfl, rfl, trivial⟩) (by rw [← hK4] at h; exact h)
  ·refine wp_condF R (congrArg (fun b => some (Value.bool b)) g9) ?_
   refine wp_exit ?_
   refine then_exit ?_
   refine then_exit ?_
   refine block_eq ?_
   refine then_normal ?_
   exact ⟨R.weak trivial, h⟩
 ·rintro a w ⟨R, h⟩
  unfold levyroom_Room_holdFiles.k3 at h
  refine wp_seq ?_
  refine wp_region_lit ?_
  refine oas R rfl rfl fun a R => ?_
  refine wpList_nil ?_
  refine then_normal ?_
  refine wp_ret ?_
  exact post_ret R rfl rfl ⟨true, rfl, h⟩
theorem s_levyroom_Room_holdFiles (x0 : Option Addr) (Q : Bool → World → Prop) (w : World) (h : levyroom_Room_holdFiles x0 Q w) :
    Calls Try.prog 54 #[.pointer x0] w (Rets fun v w => ∃ r0 : Bool, v = (.bool r0 : Value) ∧ Q r0 w) :=
  calls_body (args := [.pointer x0]) Try.func54 rfl rfl (Nat.le_of_ble_eq_true rfl) (L := [(0, .pointer x0)]) (by simp [starts]) (b_levyroom_Room_holdFiles x0 Q w h rfl)

/-! (levyroom.Room).holdExprs -/

def levyroom_Room_holdExprs.k3  (Q : Bool → World → Prop) (w : World) : Prop :=
  Q true w

def levyroom_Room_holdExprs.k10 (x0 : Option Addr) (x11_1 : Addr) (z4_4 : Int) (K4 : Int → World → Prop) (Q : Bool → World → Prop) (w : World) : Prop :=
  K4 (IntKind.i64.wrap (z4_4 + 1)) w

def levyroom_Room_holdExprs.k41 (x0 : Option Addr) (x11_1 : Addr) (z4_4 : Int) (x27_16 : Sl) (z18_6 : Int) (K18 : Int → World → Prop) (y41_61 : Bool) (Q : Bool → World → Prop) (w : World) : Prop :=
  (if y41_61 = true then Q false w else K18 (IntKind.i64.wrap (z18_6 + 1)) w)

def levyroom_Room_holdExprs.l18 (x0 : Option Addr) (x11_1 : Addr) (z4_4 : Int) (K4 : Int → World → Prop) (x27_16 : Sl) (z18_6 : Int) (Q : Bool → World → Prop) (K18 : Int → World → Prop) (w : World) : Prop :=
  (if (decide (z18_6 < 8)) = true then nn x0 fun x34_21 => ld Sl.val w (x34_21.add 14) fun x36_22 => ix x36_22.p x36_22.len z4_4 1 fun x38_24 => ld Sl.val w x38_24 fun x39_25 => ix x39_25.p x39_25.len (IntKind.i64.wrap ((IntKind.i64.wrap (((x27_16.len : Nat) : Int) - 8)) + z18_6)) 5 fun x44_29 => ld (Value.int .i64) w (x44_29.add 0) fun x45_30_0 => ld (Value.int .i64) w (x44_29.add 1) fun x45_30_1 => ld (Value.int .i64) w (x44_29.add 2) fun x45_30_2 => ld (Value.int .i64) w (x44_29.add 3) fun x45_30_3 => ld Sl.val w (x44_29.add 4) fun x45_30_4 => al w (.cells #[.int .i64 0, .int .i64 0, .int .i64 0, .int .i64 0, .slice none 0 0] 144) fun x7_31 w => stN w x7_31 [.int .i64 x45_30_0, .int .i64 x45_30_1, .int .i64 x45_30_2, .int .i64 x45_30_3, Sl.val x45_30_4] fun w => ix (some x11_1) 2 (Int.tmod z18_6 2) 5 fun x49_36 => ld (Value.int .i64) w (x49_36.add 0) fun x50_37_0 => ld (Value.int .i64) w (x49_36.add 1) fun x50_37_1 => ld (Value.int .i64) w (x49_36.add 2) fun x50_37_2 => ld (Value.int .i64) w (x49_36.add 3) fun x50_37_3 => ld Sl.val w (x49_36.add 4) fun x50_37_4 => al w (.cells #[.int .i64 0, .int .i64 0, .int .i64 0, .int .i64 0, .slice none 0 0] 144) fun x8_38 w => stN w x8_38 [.int .i64 x50_37_0, .int .i64 x50_37_1, .int .i64 x50_37_2, .int .i64 x50_37_3, Sl.val x50_37_4] fun w => ld (Value.int .i64) w (x7_31.add 0) fun x52_44 => ld (Value.int .i64) w (x8_38.add 0) fun x54_45 => (if (x52_44 != x54_45) = true then levyroom_Room_holdExprs.k41 x0 x11_1 z4_4 x27_16 z18_6 K18 true Q w else ld Sl.val w (x7_31.add 4) fun x58_48 => levyroom_Room_holdExprs.k41 x0 x11_1 z4_4 x27_16 z18_6 K18 (((x58_48.len : Nat) : Int) != 0) Q w) else levyroom_Room_holdExprs.k10 x0 x11_1 z4_4 K4 Q w)

def levyroom_Room_holdExprs.l4 (x0 : Option Addr) (x11_1 : Addr) (z4_4 : Int) (Q : Bool → World → Prop) (K4 : Int → World → Prop) (w : World) : Prop :=
  nn x0 fun x14_5 => ld Sl.val w (x14_5.add 14) fun x16_6 => (if (decide (z4_4 < ((x16_6.len : Nat) : Int))) = true then nn x0 fun x22_12 => ld Sl.val w (x22_12.add 14) fun x24_13 => ix x24_13.p x24_13.len z4_4 1 fun x26_15 => ld Sl.val w x26_15 fun x27_16 => (Fix (σ := Int) (fun Ks s w => levyroom_Room_holdExprs.l18 x0 x11_1 z4_4 K4 x27_16 s Q (fun z18_6 w => Ks z18_6 w) w) 0 w) else levyroom_Room_holdExprs.k3  Q w)

def levyroom_Room_holdExprs (x0 : Option Addr) (Q : Bool → World → Prop) (w : World) : Prop :=
  al w (.cells #[.int .i64 (-7701), .int .i64 0, .int .i64 0, .int .i64 0, .slice none 0 0, .int .i64 (-7702), .int .i64 0, .int .i64 0, .int .i64 0, .slice none 0 0] 144) fun x11_1 w => (Fix (σ := Int) (fun Ks s w => levyroom_Room_holdExprs.l4 x0 x11_1 s Q (fun z4_4 w => Ks z4_4 w) w) 0 w)

theorem b_levyroom_Room_holdExprs (x0 : Option Addr) (Q : Bool → World → Prop) (w : World) (h : levyroom_Room_holdExprs x0 Q w) {c : Code} (hb : Try.f55.body = some c) :
 ∀ a, Rep a 62 [(0, .pointer x0)] [] → c.wp Try.prog (bodyPost Try.prog Try.f55 (Rets fun v w => ∃ r0 : Bool, v = (.bool r0 : Value) ∧ Q r0 w)) a w := by
 intro a R
 obtain rfl := Option.some.inj hb
 unfold levyroom_Room_holdExprs at h
 refine wp_seq ?_
 refine wp_region_lit ?_
 refine oas R rfl rfl fun a R => ?_
 refine wpList_nil ?_
 refine then_normal ?_
 refine wp_seq ?_
 refine wp_region_lit ?_
 refine op_val R (rn_build (r := .agg #[.int .i64 (-7701), .int .i64 0, .int .i64 0, .int .i64 0, .slice none 0 0]) R rfl (fun w => by kernel_rfl)) rfl fun a R => ?_
 refine op_val R (rn_build (r := .agg #[.int .i64 (-7702), .int .i64 0, .int .i64 0, .int .i64 0, .slice none 0 0]) R rfl (fun w => by kernel_rfl)) rfl fun a R => ?_
 obtain ⟨x11_1, e2, h⟩ := al_e h
 refine op_val (v := .slice (some x11_1) 2 2) R (by rw [e2]; exact rn_buildSlice (t := 142) (len := 2) (xs := [(0, (.tmp 9)), (1, (.tmp 10))]) (cells := #[.int .i64 (-7701), .int .i64 0, .int .i64 0, .int .i64 0, .slice none 0 0, .int .i64 (-7702), .int .i64 0, .int .i64 0, .int .i64 0, .slice none 0 0]) (e := 144) R rfl (fun w => by kernel_rfl)) rfl fun a R => ?_
 refine oas R rfl rfl fun a R => ?_
 refine wpList_nil ?_
 refine then_normal ?_
 refine seq_join (fun a w => Rep a 62 [] [] ∧ levyroom_Room_holdExprs.k3  Q w) ?_ ?_
 ·refine wp_seq ?_
  refine wp_region_lit ?_
  refine oas R rfl rfl fun a R => ?_
  refine wpList_nil ?_
  refine then_normal ?_
  refine wp_block ?_
  refine wp_fix (σ := Int) (fun s a => Rep a 62 [(0, .pointer x0), (3, .slice (some x11_1) 2 2), (4, .int .i64 s)] []) h (R.weak ⟨rfl, rfl, rfl, trivial⟩) ?_
  rintro Ks C z4_4 a w hC R h
  have R : Rep a 62 [(0, .pointer x0), (3, .slice (some x11_1) 2 2), (4, .int .i64 z4_4)] [] := R
  have h : levyroom_Room_holdExprs.l4 x0 x11_1 z4_4 Q (fun z4_4 w => Ks z4_4 w) w := h
  generalize hK4 : (fun z4_4 w => Ks z4_4 w) = K4 at h
  unfold levyroom_Room_holdExprs.l4 at h
  refine wp_seq ?_
  refine wp_seq ?_
  refine wp_region_lit ?_
  refine omv R rfl rfl fun a R => ?_
  refine omv R rfl rfl fun a R => ?_
  obtain ⟨x14_5, cx14_5, h⟩ := h
  refine onl R rfl cx14_5 rfl fun a R => ?_
  refine ofd R rfl fd65_14 rfl fun a R => ?_
  obtain ⟨x16_6, cx16_6, h⟩ := h
  refine old R rfl Try.underlying57 rfl cx16_6 rfl fun a R => ?_
  refine op_val R (rn_len R rfl Try.underlying57) rfl fun a R => ?_
  refine op_val R (rn_bin (v := .bool (decide (z4_4 < ((x16_6.len : Nat) : Int)))) R rfl rfl rfl) rfl fun a R => ?_
  refine wpList_nil ?_
  refine then_normal ?_
  rcases ite_cases h with ⟨g9, h⟩ | ⟨g9, h⟩
  ·refine wp_condT R (congrArg (fun b => some (Value.bool b)) g9) ?_
   refine wp_skip ?_
   refine then_normal ?_
   refine seq_join (fun a w => Rep a 62 [(0, .pointer x0), (3, .slice (some x11_1) 2 2), (4, .int .i64 z4_4)] [] ∧ levyroom_Room_holdExprs.k10 x0 x11_1 z4_4 K4 Q w) ?_ ?_
   ·refine wp_block ?_
    refine wp_seq ?_
    refine wp_region_lit ?_
    refine omv R rfl rfl fun a R => ?_
    obtain ⟨x22_12, cx22_12, h⟩ := h
    refine onl R rfl cx22_12 rfl fun a R => ?_
    refine ofd R rfl fd65_14 rfl fun a R => ?_
    obtain ⟨x24_13, cx24_13, h⟩ := h
    refine old R rfl Try.underlying57 rfl cx24_13 rfl fun a R => ?_
    refine omv R rfl rfl fun a R => ?_
    obtain ⟨b14, x26_15, p14, i14, j14, e14, h⟩ := ix_e h
    refine op_val (v := .pointer (some x26_15)) R (by rw [e14]; exact rn_ixs (x := (.tmp 24)) (y := (.tmp 25)) R rfl p14 rfl Try.underlying57 sz142 i14 j14) rfl fun a R => ?_
    obtain ⟨x27_16, cx27_16, h⟩ := h
    refine old R rfl Try.underlying142 rfl cx27_16 rfl fun a R => ?_
    refine op_val R (rn_len R rfl Try.underlying142) rfl fun a R => ?_
    refine oas R rfl rfl fun a R => ?_
    refine wpList_nil ?_
    refine then_normal ?_
    refine wp_seq ?_
    refine wp_region_lit ?_
    refine oas R rfl rfl fun a R => ?_
    refine wpList_nil ?_
    refine then_normal ?_
    refine wp_block ?_
    refine wp_fix (σ := Int) (fun s a => Rep a 62 [(0, .pointer x0), (3, .slice (some x11_1) 2 2), (4, .int .i64 z4_4), (5, .int .i64 ((x27_16.len : Nat) : Int)), (6, .int .i64 s)] []) h (R.weak ⟨rfl, rfl, rfl, rfl, rfl, trivial⟩) ?_
    rintro Ks C z18_6 a w hC R h
    have R : Rep a 62 [(0, .pointer x0), (3, .slice (some x11_1) 2 2), (4, .int .i64 z4_4), (5, .int .i64 ((x27_16.len : Nat) : Int)), (6, .int .i64 z18_6)] [] := R
    have h : levyroom_Room_holdExprs.l18 x0 x11_1 z4_4 K4 x27_16 z18_6 Q (fun z18_6 w => Ks z18_6 w) w := h
    generalize hK18 : (fun z18_6 w => Ks z18_6 w) = K18 at h
    unfold levyroom_Room_holdExprs.l18 at h
    refine wp_seq ?_
    refine wp_seq ?_
    refine wp_region_lit ?_
    refine omv R rfl rfl fun a R => ?_
    refine op_val R (rn_bin (v := .bool (decide (z18_6 < 8))) R rfl rfl rfl) rfl fun a R => ?_
    refine wpList_nil ?_
    refine then_normal ?_
    rcases ite_cases h with ⟨g20, h⟩ | ⟨g20, h⟩
    ·refine wp_condT R (congrArg (fun b => some (Value.bool b)) g20) ?_
     refine wp_skip ?_
     refine then_normal ?_
     refine wp_seq ?_
     refine wp_block ?_
     refine wp_seq ?_
     refine wp_region_lit ?_
     refine omv R rfl rfl fun a R => ?_
     obtain ⟨x34_21, cx34_21, h⟩ := h
     refine onl R rfl cx34_21 rfl fun a R => ?_
     refine ofd R rfl fd65_14 rfl fun a R => ?_
     obtain ⟨x36_22, cx36_22, h⟩ := h
     refine old R rfl Try.underlying57 rfl cx36_22 rfl fun a R => ?_
     refine omv R rfl rfl fun a R => ?_
     obtain ⟨b23, x38_24, p23, i23, j23, e23, h⟩ := ix_e h
     refine op_val (v := .pointer (some x38_24)) R (by rw [e23]; exact rn_ixs (x := (.tmp 36)) (y := (.tmp 37)) R rfl p23 rfl Try.underlying57 sz142 i23 j23) rfl fun a R => ?_
     obtain ⟨x39_25, cx39_25, h⟩ := h
     refine old R rfl Try.underlying142 rfl cx39_25 rfl fun a R => ?_
     refine omv R rfl rfl fun a R => ?_
     refine op_val R (rn_bin (v := .int .i64 (IntKind.i64.wrap (((x27_16.len : Nat) : Int) - 8))) R rfl rfl rfl) rfl fun a R => ?_
     refine omv R rfl rfl fun a R => ?_
     refine op_val R (rn_bin (v := .int .i64 (IntKind.i64.wrap ((IntKind.i64.wrap (((x27_16.len : Nat) : Int) - 8)) + z18_6))) R rfl rfl rfl) rfl fun a R => ?_
     obtain ⟨b28, x44_29, p28, i28, j28, e28, h⟩ := ix_e h
     refine op_val (v := .pointer (some x44_29)) R (by rw [e28]; exact rn_ixs (x := (.tmp 39)) (y := (.tmp 43)) R rfl p28 rfl Try.underlying142 sz144 i28 j28) rfl fun a R => ?_
     obtain ⟨x45_30_0, cx45_30_0, x45_30_1, cx45_30_1, x45_30_2, cx45_30_2, x45_30_3, cx45_30_3, x45_30_4, cx45_30_4, h⟩ := h
     refine op_val R (rn_ldN (cs := [.int .i64 x45_30_0, .int .i64 x45_30_1, .int .i64 x45_30_2, .int .i64 x45_30_3, Sl.val x45_30_4]) R rfl Try.underlying144 rfl sz144 ⟨cx45_30_0, cx45_30_1, cx45_30_2, cx45_30_3, cx45_30_4, trivial⟩) rfl fun a R => ?_
     obtain ⟨x7_31, e32, h⟩ := al_e h
     refine op_val (v := .pointer (some x7_31)) R (by rw [e32]; exact rn_al R ze144) rfl fun a R => ?_
     obtain ⟨q33, h⟩ := h
     refine op_unit R (rn_stN (vs := [.int .i64 x45_30_0, .int .i64 x45_30_1, .int .i64 x45_30_2, .int .i64 x45_30_3, Sl.val x45_30_4]) R rfl rfl (ao ⟨rfl, rfl, rfl, rfl, rfl, trivial⟩) sz144 q33) fun a R => ?_
     refine wpList_nil ?_
     refine then_normal ?_
     refine wp_seq ?_
     refine wp_region_lit ?_
     refine omv R rfl rfl fun a R => ?_
     refine omv R rfl rfl fun a R => ?_
     refine op_val R (rn_bin (v := .int .i64 (Int.tmod z18_6 2)) R rfl rfl rfl) rfl fun a R => ?_
     obtain ⟨b35, x49_36, p35, i35, j35, e35, h⟩ := ix_e h
     refine op_val (v := .pointer (some x49_36)) R (by rw [e35]; exact rn_ixs (x := (.tmp 46)) (y := (.tmp 48)) R rfl p35 rfl Try.underlying142 sz144 i35 j35) rfl fun a R => ?_
     obtain ⟨x50_37_0, cx50_37_0, x50_37_1, cx50_37_1, x50_37_2, cx50_37_2, x50_37_3, cx50_37_3, x50_37_4, cx50_37_4, h⟩ := h
     refine op_val R (rn_ldN (cs := [.int .i64 x50_37_0, .int .i64 x50_37_1, .int .i64 x50_37_2, .int .i64 x50_37_3, Sl.val x50_37_4]) R rfl Try.underlying144 rfl sz144 ⟨cx50_37_0, cx50_37_1, cx50_37_2, cx50_37_3, cx50_37_4, trivial⟩) rfl fun a R => ?_
     obtain ⟨x8_38, e39, h⟩ := al_e h
     refine op_val (v := .pointer (some x8_38)) R (by rw [e39]; exact rn_al R ze144) rfl fun a R => ?_
     obtain ⟨q40, h⟩ := h
     refine op_unit R (rn_stN (vs := [.int .i64 x50_37_0, .int .i64 x50_37_1, .int .i64 x50_37_2, .int .i64 x50_37_3, Sl.val x50_37_4]) R rfl rfl (ao ⟨rfl, rfl, rfl, rfl, rfl, trivial⟩) sz144 q40) fun a R => ?_
     refine wpList_nil ?_
     refine then_normal ?_
     refine seq_join (fun a w => ∃ y41_61 : Bool, Rep a 62 [(0, .pointer x0), (3, .slice (some x11_1) 2 2), (4, .int .i64 z4_4), (5, .int .i64 ((x27_16.len : Nat) : Int)), (6, .int .i64 z18_6), (61, .bool y41_61)] [] ∧ levyroom_Room_holdExprs.k41 x0 x11_1 z4_4 x27_16 z18_6 K18 y41_61 Q w) ?_ ?_
     ·refine wp_region_lit ?_
      refine ofd R rfl fd144_0 rfl fun a R => ?_
      obtain ⟨x52_44, cx52_44, h⟩ := h
      refine old R rfl Try.underlying3 rfl cx52_44 rfl fun a R => ?_
      refine ofd R rfl fd144_0 rfl fun a R => ?_
      obtain ⟨x54_45, cx54_45, h⟩ := h
      refine old R rfl Try.underlying3 rfl cx54_45 rfl fun a R => ?_
      refine op_val R (rn_bin (v := .bool (x52_44 != x54_45)) R rfl rfl rfl) rfl fun a R => ?_
      refine omv R rfl rfl fun a R => ?_
      rcases ite_cases h with ⟨g47, h⟩ | ⟨g47, h⟩
      ·refine op_pass R rfl rfl rfl (nft g47) (fun a R => ?_) (by intro s hs; cases hs; rfl)
       refine op_pass R rfl rfl rfl (nft g47) (fun a R => ?_) (by intro s hs; cases hs; rfl)
       refine op_pass R rfl rfl rfl (nft g47) (fun a R => ?_) (by intro s hs; cases hs; rfl)
       refine op_pass R rfl rfl rfl (nft g47) (fun a R => ?_) (by intro s hs; cases hs; rfl)
       refine op_val R (rn_pickT R rfl g47 rfl) rfl fun a R => ?_
       refine wpList_nil ?_
       refine then_normal ?_
       exact ⟨true, R.weak ⟨rfl, rfl, rfl, rfl, rfl, rfl, trivial⟩, h⟩
      ·refine op_guard R rfl rfl rfl g47 ?_
       refine ofd R rfl fd144_4 rfl fun a R => ?_
       refine op_guard R rfl rfl rfl g47 ?_
       obtain ⟨x58_48, cx58_48, h⟩ := h
       refine old R rfl Try.underlying142 rfl cx58_48 rfl fun a R => ?_
       refine op_guard R rfl rfl rfl g47 ?_
       refine op_val R (rn_len R rfl Try.underlying142) rfl fun a R => ?_
       refine op_guard R rfl rfl rfl g47 ?_
       refine op_val R (rn_bin (v := .bool (((x58_48.len : Nat) : Int) != 0)) R rfl rfl rfl) rfl fun a R => ?_
       refine op_val R (rn_pickF R rfl g47 rfl) rfl fun a R => ?_
       refine wpList_nil ?_
       refine then_normal ?_
       exact ⟨(((x58_48.len : Nat) : Int) != 0), R.weak ⟨rfl, rfl, rfl, rfl, rfl, rfl, trivial⟩, h⟩
     ·rintro a w ⟨y41_61, R, h⟩
      unfold levyroom_Room_holdExprs.k41 at h
      rcases ite_cases h with ⟨g42, h⟩ | ⟨g42, h⟩
      ·refine wp_condT R (congrArg (fun b => some (Value.bool b)) g42) ?_
       refine wp_seq ?_
       refine wp_region_lit ?_
       refine oas R rfl rfl fun a R => ?_
       refine wpList_nil ?_
       refine then_normal ?_
       refine wp_ret ?_
       refine block_ret ?_
       refine then_ret ?_
       refine then_ret ?_
       refine block_ret ?_
       refine block_ret ?_
       refine then_ret ?_
       refine then_ret ?_
       refine block_ret ?_
       refine then_ret ?_
       exact post_ret R rfl rfl ⟨false, rfl, h⟩
      ·refine wp_condF R (congrArg (fun b => some (Value.bool b)) g42) ?_
       refine wp_skip ?_
       refine block_normal ?_
       refine then_normal ?_
       refine wp_region_lit ?_
       refine omv R rfl rfl fun a R => ?_
       refine op_val R (rn_bin (v := .int .i64 (IntKind.i64.wrap (z18_6 + 1))) R rfl rfl rfl) rfl fun a R => ?_
       refine oas R rfl rfl fun a R => ?_
       refine wpList_nil ?_
       refine then_normal ?_
       exact hC (IntKind.i64.wrap (z18_6 + 1)) _ _ (R.weak ⟨rfl, rfl, rfl, rfl, rfl, trivial⟩) (by rw [← hK18] at h; exact h)
    ·refine wp_condF R (congrArg (fun b => some (Value.bool b)) g20) ?_
     refine wp_exit ?_
     refine then_exit ?_
     refine then_exit ?_
     refine block_eq ?_
     refine block_normal ?_
     refine then_normal ?_
     exact ⟨R.weak ⟨rfl, rfl, rfl, trivial⟩, h⟩
   ·rintro a w ⟨R, h⟩
    unfold levyroom_Room_holdExprs.k10 at h
    refine wp_region_lit ?_
    refine omv R rfl rfl fun a R => ?_
    refine op_val R (rn_bin (v := .int .i64 (IntKind.i64.wrap (z4_4 + 1))) R rfl rfl rfl) rfl fun a R => ?_
    refine oas R rfl rfl fun a R => ?_
    refine wpList_nil ?_
    refine then_normal ?_
    exact hC (IntKind.i64.wrap (z4_4 + 1)) _ _ (R.weak ⟨rfl, rfl, rfl, trivial⟩) (by rw [← hK4] at h; exact h)
  ·refine wp_condF R (congrArg (fun b => some (Value.bool b)) g9) ?_
   refine wp_exit ?_
   refine then_exit ?_
   refine then_exit ?_
   refine block_eq ?_
   refine then_normal ?_
   exact ⟨R.weak trivial, h⟩
 ·rintro a w ⟨R, h⟩
  unfold levyroom_Room_holdExprs.k3 at h
  refine wp_seq ?_
  refine wp_region_lit ?_
  refine oas R rfl rfl fun a R => ?_
  refine wpList_nil ?_
  refine then_normal ?_
  refine wp_ret ?_
  exact post_ret R rfl rfl ⟨true, rfl, h⟩
theorem s_levyroom_Room_holdExprs (x0 : Option Addr) (Q : Bool → World → Prop) (w : World) (h : levyroom_Room_holdExprs x0 Q w) :
    Calls Try.prog 55 #[.pointer x0] w (Rets fun v w => ∃ r0 : Bool, v = (.bool r0 : Value) ∧ Q r0 w) :=
  calls_body (args := [.pointer x0]) Try.func55 rfl rfl (Nat.le_of_ble_eq_true rfl) (L := [(0, .pointer x0)]) (by simp [starts]) (b_levyroom_Room_holdExprs x0 Q w h rfl)

/-! (levyroom.Room).holdClauses -/

def levyroom_Room_holdClauses.k3  (Q : Bool → World → Prop) (w : World) : Prop :=
  Q true w

def levyroom_Room_holdClauses.k10 (x0 : Option Addr) (x11_1 : Addr) (z4_4 : Int) (K4 : Int → World → Prop) (Q : Bool → World → Prop) (w : World) : Prop :=
  K4 (IntKind.i64.wrap (z4_4 + 1)) w

def levyroom_Room_holdClauses.k41 (x0 : Option Addr) (x11_1 : Addr) (z4_4 : Int) (x27_16 : Sl) (z18_6 : Int) (K18 : Int → World → Prop) (y41_59 : Bool) (Q : Bool → World → Prop) (w : World) : Prop :=
  (if y41_59 = true then Q false w else K18 (IntKind.i64.wrap (z18_6 + 1)) w)

def levyroom_Room_holdClauses.l18 (x0 : Option Addr) (x11_1 : Addr) (z4_4 : Int) (K4 : Int → World → Prop) (x27_16 : Sl) (z18_6 : Int) (Q : Bool → World → Prop) (K18 : Int → World → Prop) (w : World) : Prop :=
  (if (decide (z18_6 < 40)) = true then nn x0 fun x34_21 => ld Sl.val w (x34_21.add 15) fun x36_22 => ix x36_22.p x36_22.len z4_4 1 fun x38_24 => ld Sl.val w x38_24 fun x39_25 => ix x39_25.p x39_25.len (IntKind.i64.wrap ((IntKind.i64.wrap (((x27_16.len : Nat) : Int) - 40)) + z18_6)) 12 fun x44_29 => ld (Value.int .i64) w (x44_29.add 0) fun x45_30_0 => ld Value.bool w (x44_29.add 1) fun x45_30_1 => ld (Value.int .i64) w (x44_29.add 2) fun x45_30_2 => ld (Value.int .i64) w (x44_29.add 3) fun x45_30_3 => ld (Value.int .i64) w (x44_29.add 4) fun x45_30_4 => ld (Value.int .i64) w (x44_29.add 5) fun x45_30_5 => ld Sl.val w (x44_29.add 6) fun x45_30_6 => ld (Value.int .i64) w (x44_29.add 7) fun x45_30_7 => ld (Value.int .i64) w (x44_29.add 8) fun x45_30_8 => ld (Value.int .i64) w (x44_29.add 9) fun x45_30_9 => ld (Value.int .i64) w (x44_29.add 10) fun x45_30_10 => ld Sl.val w (x44_29.add 11) fun x45_30_11 => al w (.cells #[.int .i64 0, .bool false, .int .i64 0, .int .i64 0, .int .i64 0, .int .i64 0, .slice none 0 0, .int .i64 0, .int .i64 0, .int .i64 0, .int .i64 0, .slice none 0 0] 146) fun x7_31 w => stN w x7_31 [.int .i64 x45_30_0, .bool x45_30_1, .int .i64 x45_30_2, .int .i64 x45_30_3, .int .i64 x45_30_4, .int .i64 x45_30_5, Sl.val x45_30_6, .int .i64 x45_30_7, .int .i64 x45_30_8, .int .i64 x45_30_9, .int .i64 x45_30_10, Sl.val x45_30_11] fun w => ix (some x11_1) 2 (Int.tmod z18_6 2) 12 fun x49_36 => ld (Value.int .i64) w (x49_36.add 0) fun x50_37_0 => ld Value.bool w (x49_36.add 1) fun x50_37_1 => ld (Value.int .i64) w (x49_36.add 2) fun x50_37_2 => ld (Value.int .i64) w (x49_36.add 3) fun x50_37_3 => ld (Value.int .i64) w (x49_36.add 4) fun x50_37_4 => ld (Value.int .i64) w (x49_36.add 5) fun x50_37_5 => ld Sl.val w (x49_36.add 6) fun x50_37_6 => ld (Value.int .i64) w (x49_36.add 7) fun x50_37_7 => ld (Value.int .i64) w (x49_36.add 8) fun x50_37_8 => ld (Value.int .i64) w (x49_36.add 9) fun x50_37_9 => ld (Value.int .i64) w (x49_36.add 10) fun x50_37_10 => ld Sl.val w (x49_36.add 11) fun x50_37_11 => al w (.cells #[.int .i64 0, .bool false, .int .i64 0, .int .i64 0, .int .i64 0, .int .i64 0, .slice none 0 0, .int .i64 0, .int .i64 0, .int .i64 0, .int .i64 0, .slice none 0 0] 146) fun x8_38 w => stN w x8_38 [.int .i64 x50_37_0, .bool x50_37_1, .int .i64 x50_37_2, .int .i64 x50_37_3, .int .i64 x50_37_4, .int .i64 x50_37_5, Sl.val x50_37_6, .int .i64 x50_37_7, .int .i64 x50_37_8, .int .i64 x50_37_9, .int .i64 x50_37_10, Sl.val x50_37_11] fun w => ld (Value.int .i64) w (x7_31.add 0) fun x52_44 => ld (Value.int .i64) w (x8_38.add 0) fun x54_45 => (if (x52_44 != x54_45) = true then levyroom_Room_holdClauses.k41 x0 x11_1 z4_4 x27_16 z18_6 K18 true Q w else ld Value.bool w (x7_31.add 1) fun x58_48 => levyroom_Room_holdClauses.k41 x0 x11_1 z4_4 x27_16 z18_6 K18 x58_48 Q w) else levyroom_Room_holdClauses.k10 x0 x11_1 z4_4 K4 Q w)

def levyroom_Room_holdClauses.l4 (x0 : Option Addr) (x11_1 : Addr) (z4_4 : Int) (Q : Bool → World → Prop) (K4 : Int → World → Prop) (w : World) : Prop :=
  nn x0 fun x14_5 => ld Sl.val w (x14_5.add 15) fun x16_6 => (if (decide (z4_4 < ((x16_6.len : Nat) : Int))) = true then nn x0 fun x22_12 => ld Sl.val w (x22_12.add 15) fun x24_13 => ix x24_13.p x24_13.len z4_4 1 fun x26_15 => ld Sl.val w x26_15 fun x27_16 => (Fix (σ := Int) (fun Ks s w => levyroom_Room_holdClauses.l18 x0 x11_1 z4_4 K4 x27_16 s Q (fun z18_6 w => Ks z18_6 w) w) 0 w) else levyroom_Room_holdClauses.k3  Q w)

def levyroom_Room_holdClauses (x0 : Option Addr) (Q : Bool → World → Prop) (w : World) : Prop :=
  al w (.cells #[.int .i64 (-7701), .bool false, .int .i64 0, .int .i64 0, .int .i64 0, .int .i64 0, .slice none 0 0, .int .i64 0, .int .i64 0, .int .i64 0, .int .i64 0, .slice none 0 0, .int .i64 (-7702), .bool false, .int .i64 0, .int .i64 0, .int .i64 0, .int .i64 0, .slice none 0 0, .int .i64 0, .int .i64 0, .int .i64 0, .int .i64 0, .slice none 0 0] 146) fun x11_1 w => (Fix (σ := Int) (fun Ks s w => levyroom_Room_holdClauses.l4 x0 x11_1 s Q (fun z4_4 w => Ks z4_4 w) w) 0 w)

theorem b_levyroom_Room_holdClauses (x0 : Option Addr) (Q : Bool → World → Prop) (w : World) (h : levyroom_Room_holdClauses x0 Q w) {c : Code} (hb : Try.f56.body = some c) :
 ∀ a, Rep a 60 [(0, .pointer x0)] [] → c.wp Try.prog (bodyPost Try.prog Try.f56 (Rets fun v w => ∃ r0 : Bool, v = (.bool r0 : Value) ∧ Q r0 w)) a w := by
 intro a R
 obtain rfl := Option.some.inj hb
 unfold levyroom_Room_holdClauses at h
 refine wp_seq ?_
 refine wp_region_lit ?_
 refine oas R rfl rfl fun a R => ?_
 refine wpList_nil ?_
 refine then_normal ?_
 refine wp_seq ?_
 refine wp_region_lit ?_
 refine op_val R (rn_build (r := .agg #[.int .i64 (-7701), .bool false, .int .i64 0, .int .i64 0, .int .i64 0, .int .i64 0, .slice none 0 0, .int .i64 0, .int .i64 0, .int .i64 0, .int .i64 0, .slice none 0 0]) R rfl (fun w => by kernel_rfl)) rfl fun a R => ?_
 refine op_val R (rn_build (r := .agg #[.int .i64 (-7702), .bool false, .int .i64 0, .int .i64 0, .int .i64 0, .int .i64 0, .slice none 0 0, .int .i64 0, .int .i64 0, .int .i64 0, .int .i64 0, .slice none 0 0]) R rfl (fun w => by kernel_rfl)) rfl fun a R => ?_
 obtain ⟨x11_1, e2, h⟩ := al_e h
 refine op_val (v := .slice (some x11_1) 2 2) R (by rw [e2]; exact rn_buildSlice (t := 147) (len := 2) (xs := [(0, (.tmp 9)), (1, (.tmp 10))]) (cells := #[.int .i64 (-7701), .bool false, .int .i64 0, .int .i64 0, .int .i64 0, .int .i64 0, .slice none 0 0, .int .i64 0, .int .i64 0, .int .i64 0, .int .i64 0, .slice none 0 0, .int .i64 (-7702), .bool false, .int .i64 0, .int .i64 0, .int .i64 0, .int .i64 0, .slice none 0 0, .int .i64 0, .int .i64 0, .int .i64 0, .int .i64 0, .slice none 0 0]) (e := 146) R rfl (fun w => by kernel_rfl)) rfl fun a R => ?_
 refine oas R rfl rfl fun a R => ?_
 refine wpList_nil ?_
 refine then_normal ?_
 refine seq_join (fun a w => Rep a 60 [] [] ∧ levyroom_Room_holdClauses.k3  Q w) ?_ ?_
 ·refine wp_seq ?_
  refine wp_region_lit ?_
  refine oas R rfl rfl fun a R => ?_
  refine wpList_nil ?_
  refine then_normal ?_
  refine wp_block ?_
  refine wp_fix (σ := Int) (fun s a => Rep a 60 [(0, .pointer x0), (3, .slice (some x11_1) 2 2), (4, .int .i64 s)] []) h (R.weak ⟨rfl, rfl, rfl, trivial⟩) ?_
  rintro Ks C z4_4 a w hC R h
  have R : Rep a 60 [(0, .pointer x0), (3, .slice (some x11_1) 2 2), (4, .int .i64 z4_4)] [] := R
  have h : levyroom_Room_holdClauses.l4 x0 x11_1 z4_4 Q (fun z4_4 w => Ks z4_4 w) w := h
  generalize hK4 : (fun z4_4 w => Ks z4_4 w) = K4 at h
  unfold levyroom_Room_holdClauses.l4 at h
  refine wp_seq ?_
  refine wp_seq ?_
  refine wp_region_lit ?_
  refine omv R rfl rfl fun a R => ?_
  refine omv R rfl rfl fun a R => ?_
  obtain ⟨x14_5, cx14_5, h⟩ := h
  refine onl R rfl cx14_5 rfl fun a R => ?_
  refine ofd R rfl fd65_15 rfl fun a R => ?_
  obtain ⟨x16_6, cx16_6, h⟩ := h
  refine old R rfl Try.underlying58 rfl cx16_6 rfl fun a R => ?_
  refine op_val R (rn_len R rfl Try.underlying58) rfl fun a R => ?_
  refine op_val R (rn_bin (v := .bool (decide (z4_4 < ((x16_6.len : Nat) : Int)))) R rfl rfl rfl) rfl fun a R => ?_
  refine wpList_nil ?_
  refine then_normal ?_
  rcases ite_cases h with ⟨g9, h⟩ | ⟨g9, h⟩
  ·refine wp_condT R (congrArg (fun b => some (Value.bool b)) g9) ?_
   refine wp_skip ?_
   refine then_normal ?_
   refine seq_join (fun a w => Rep a 60 [(0, .pointer x0), (3, .slice (some x11_1) 2 2), (4, .int .i64 z4_4)] [] ∧ levyroom_Room_holdClauses.k10 x0 x11_1 z4_4 K4 Q w) ?_ ?_
   ·refine wp_block ?_
    refine wp_seq ?_
    refine wp_region_lit ?_
    refine omv R rfl rfl fun a R => ?_
    obtain ⟨x22_12, cx22_12, h⟩ := h
    refine onl R rfl cx22_12 rfl fun a R => ?_
    refine ofd R rfl fd65_15 rfl fun a R => ?_
    obtain ⟨x24_13, cx24_13, h⟩ := h
    refine old R rfl Try.underlying58 rfl cx24_13 rfl fun a R => ?_
    refine omv R rfl rfl fun a R => ?_
    obtain ⟨b14, x26_15, p14, i14, j14, e14, h⟩ := ix_e h
    refine op_val (v := .pointer (some x26_15)) R (by rw [e14]; exact rn_ixs (x := (.tmp 24)) (y := (.tmp 25)) R rfl p14 rfl Try.underlying58 sz147 i14 j14) rfl fun a R => ?_
    obtain ⟨x27_16, cx27_16, h⟩ := h
    refine old R rfl Try.underlying147 rfl cx27_16 rfl fun a R => ?_
    refine op_val R (rn_len R rfl Try.underlying147) rfl fun a R => ?_
    refine oas R rfl rfl fun a R => ?_
    refine wpList_nil ?_
    refine then_normal ?_
    refine wp_seq ?_
    refine wp_region_lit ?_
    refine oas R rfl rfl fun a R => ?_
    refine wpList_nil ?_
    refine then_normal ?_
    refine wp_block ?_
    refine wp_fix (σ := Int) (fun s a => Rep a 60 [(0, .pointer x0), (3, .slice (some x11_1) 2 2), (4, .int .i64 z4_4), (5, .int .i64 ((x27_16.len : Nat) : Int)), (6, .int .i64 s)] []) h (R.weak ⟨rfl, rfl, rfl, rfl, rfl, trivial⟩) ?_
    rintro Ks C z18_6 a w hC R h
    have R : Rep a 60 [(0, .pointer x0), (3, .slice (some x11_1) 2 2), (4, .int .i64 z4_4), (5, .int .i64 ((x27_16.len : Nat) : Int)), (6, .int .i64 z18_6)] [] := R
    have h : levyroom_Room_holdClauses.l18 x0 x11_1 z4_4 K4 x27_16 z18_6 Q (fun z18_6 w => Ks z18_6 w) w := h
    generalize hK18 : (fun z18_6 w => Ks z18_6 w) = K18 at h
    unfold levyroom_Room_holdClauses.l18 at h
    refine wp_seq ?_
    refine wp_seq ?_
    refine wp_region_lit ?_
    refine omv R rfl rfl fun a R => ?_
    refine op_val R (rn_bin (v := .bool (decide (z18_6 < 40))) R rfl rfl rfl) rfl fun a R => ?_
    refine wpList_nil ?_
    refine then_normal ?_
    rcases ite_cases h with ⟨g20, h⟩ | ⟨g20, h⟩
    ·refine wp_condT R (congrArg (fun b => some (Value.bool b)) g20) ?_
     refine wp_skip ?_
     refine then_normal ?_
     refine wp_seq ?_
     refine wp_block ?_
     refine wp_seq ?_
     refine wp_region_lit ?_
     refine omv R rfl rfl fun a R => ?_
     obtain ⟨x34_21, cx34_21, h⟩ := h
     refine onl R rfl cx34_21 rfl fun a R => ?_
     refine ofd R rfl fd65_15 rfl fun a R => ?_
     obtain ⟨x36_22, cx36_22, h⟩ := h
     refine old R rfl Try.underlying58 rfl cx36_22 rfl fun a R => ?_
     refine omv R rfl rfl fun a R => ?_
     obtain ⟨b23, x38_24, p23, i23, j23, e23, h⟩ := ix_e h
     refine op_val (v := .pointer (some x38_24)) R (by rw [e23]; exact rn_ixs (x := (.tmp 36)) (y := (.tmp 37)) R rfl p23 rfl Try.underlying58 sz147 i23 j23) rfl fun a R => ?_
     obtain ⟨x39_25, cx39_25, h⟩ := h
     refine old R rfl Try.underlying147 rfl cx39_25 rfl fun a R => ?_
     refine omv R rfl rfl fun a R => ?_
     refine op_val R (rn_bin (v := .int .i64 (IntKind.i64.wrap (((x27_16.len : Nat) : Int) - 40))) R rfl rfl rfl) rfl fun a R => ?_
     refine omv R rfl rfl fun a R => ?_
     refine op_val R (rn_bin (v := .int .i64 (IntKind.i64.wrap ((IntKind.i64.wrap (((x27_16.len : Nat) : Int) - 40)) + z18_6))) R rfl rfl rfl) rfl fun a R => ?_
     obtain ⟨b28, x44_29, p28, i28, j28, e28, h⟩ := ix_e h
     refine op_val (v := .pointer (some x44_29)) R (by rw [e28]; exact rn_ixs (x := (.tmp 39)) (y := (.tmp 43)) R rfl p28 rfl Try.underlying147 sz146 i28 j28) rfl fun a R => ?_
     obtain ⟨x45_30_0, cx45_30_0, x45_30_1, cx45_30_1, x45_30_2, cx45_30_2, x45_30_3, cx45_30_3, x45_30_4, cx45_30_4, x45_30_5, cx45_30_5, x45_30_6, cx45_30_6, x45_30_7, cx45_30_7, x45_30_8, cx45_30_8, x45_30_9, cx45_30_9, x45_30_10, cx45_30_10, x45_30_11, cx45_30_11, h⟩ := h
     refine op_val R (rn_ldN (cs := [.int .i64 x45_30_0, .bool x45_30_1, .int .i64 x45_30_2, .int .i64 x45_30_3, .int .i64 x45_30_4, .int .i64 x45_30_5, Sl.val x45_30_6, .int .i64 x45_30_7, .int .i64 x45_30_8, .int .i64 x45_30_9, .int .i64 x45_30_10, Sl.val x45_30_11]) R rfl Try.underlying146 rfl sz146 ⟨cx45_30_0, cx45_30_1, cx45_30_2, cx45_30_3, cx45_30_4, cx45_30_5, cx45_30_6, cx45_30_7, cx45_30_8, cx45_30_9, cx45_30_10, cx45_30_11, trivial⟩) rfl fun a R => ?_
     obtain ⟨x7_31, e32, h⟩ := al_e h
     refine op_val (v := .pointer (some x7_31)) R (by rw [e32]; exact rn_al R ze146) rfl fun a R => ?_
     obtain ⟨q33, h⟩ := h
     refine op_unit R (rn_stN (vs := [.int .i64 x45_30_0, .bool x45_30_1, .int .i64 x45_30_2, .int .i64 x45_30_3, .int .i64 x45_30_4, .int .i64 x45_30_5, Sl.val x45_30_6, .int .i64 x45_30_7, .int .i64 x45_30_8, .int .i64 x45_30_9, .int .i64 x45_30_10, Sl.val x45_30_11]) R rfl rfl (ao ⟨rfl, rfl, rfl, rfl, rfl, rfl, rfl, rfl, rfl, rfl, rfl, rfl, trivial⟩) sz146 q33) fun a R => ?_
     refine wpList_nil ?_
     refine then_normal ?_
     refine wp_seq ?_
     refine wp_region_lit ?_
     refine omv R rfl rfl fun a R => ?_
     refine omv R rfl rfl fun a R => ?_
     refine op_val R (rn_bin (v := .int .i64 (Int.tmod z18_6 2)) R rfl rfl rfl) rfl fun a R => ?_
     obtain ⟨b35, x49_36, p35, i35, j35, e35, h⟩ := ix_e h
     refine op_val (v := .pointer (some x49_36)) R (by rw [e35]; exact rn_ixs (x := (.tmp 46)) (y := (.tmp 48)) R rfl p35 rfl Try.underlying147 sz146 i35 j35) rfl fun a R => ?_
     obtain ⟨x50_37_0, cx50_37_0, x50_37_1, cx50_37_1, x50_37_2, cx50_37_2, x50_37_3, cx50_37_3, x50_37_4, cx50_37_4, x50_37_5, cx50_37_5, x50_37_6, cx50_37_6, x50_37_7, cx50_37_7, x50_37_8, cx50_37_8, x50_37_9, cx50_37_9, x50_37_10, cx50_37_10, x50_37_11, cx50_37_11, h⟩ := h
     refine op_val R (rn_ldN (cs := [.int .i64 x50_37_0, .bool x50_37_1, .int .i64 x50_37_2, .int .i64 x50_37_3, .int .i64 x50_37_4, .int .i64 x50_37_5, Sl.val x50_37_6, .int .i64 x50_37_7, .int .i64 x50_37_8, .int .i64 x50_37_9, .int .i64 x50_37_10, Sl.val x50_37_11]) R rfl Try.underlying146 rfl sz146 ⟨cx50_37_0, cx50_37_1, cx50_37_2, cx50_37_3, cx50_37_4, cx50_37_5, cx50_37_6, cx50_37_7, cx50_37_8, cx50_37_9, cx50_37_10, cx50_37_11, trivial⟩) rfl fun a R => ?_
     obtain ⟨x8_38, e39, h⟩ := al_e h
     refine op_val (v := .pointer (some x8_38)) R (by rw [e39]; exact rn_al R ze146) rfl fun a R => ?_
     obtain ⟨q40, h⟩ := h
     refine op_unit R (rn_stN (vs := [.int .i64 x50_37_0, .bool x50_37_1, .int .i64 x50_37_2, .int .i64 x50_37_3, .int .i64 x50_37_4, .int .i64 x50_37_5, Sl.val x50_37_6, .int .i64 x50_37_7, .int .i64 x50_37_8, .int .i64 x50_37_9, .int .i64 x50_37_10, Sl.val x50_37_11]) R rfl rfl (ao ⟨rfl, rfl, rfl, rfl, rfl, rfl, rfl, rfl, rfl, rfl, rfl, rfl, trivial⟩) sz146 q40) fun a R => ?_
     refine wpList_nil ?_
     refine then_normal ?_
     refine seq_join (fun a w => ∃ y41_59 : Bool, Rep a 60 [(0, .pointer x0), (3, .slice (some x11_1) 2 2), (4, .int .i64 z4_4), (5, .int .i64 ((x27_16.len : Nat) : Int)), (6, .int .i64 z18_6), (59, .bool y41_59)] [] ∧ levyroom_Room_holdClauses.k41 x0 x11_1 z4_4 x27_16 z18_6 K18 y41_59 Q w) ?_ ?_
     ·refine wp_region_lit ?_
      refine ofd R rfl fd146_0 rfl fun a R => ?_
      obtain ⟨x52_44, cx52_44, h⟩ := h
      refine old R rfl Try.underlying3 rfl cx52_44 rfl fun a R => ?_
      refine ofd R rfl fd146_0 rfl fun a R => ?_
      obtain ⟨x54_45, cx54_45, h⟩ := h
      refine old R rfl Try.underlying3 rfl cx54_45 rfl fun a R => ?_
      refine op_val R (rn_bin (v := .bool (x52_44 != x54_45)) R rfl rfl rfl) rfl fun a R => ?_
      refine omv R rfl rfl fun a R => ?_
      rcases ite_cases h with ⟨g47, h⟩ | ⟨g47, h⟩
      ·refine op_pass R rfl rfl rfl (nft g47) (fun a R => ?_) (by intro s hs; cases hs; rfl)
       refine op_pass R rfl rfl rfl (nft g47) (fun a R => ?_) (by intro s hs; cases hs; rfl)
       refine op_val R (rn_pickT R rfl g47 rfl) rfl fun a R => ?_
       refine wpList_nil ?_
       refine then_normal ?_
       exact ⟨true, R.weak ⟨rfl, rfl, rfl, rfl, rfl, rfl, trivial⟩, h⟩
      ·refine op_guard R rfl rfl rfl g47 ?_
       refine ofd R rfl fd146_1 rfl fun a R => ?_
       refine op_guard R rfl rfl rfl g47 ?_
       obtain ⟨x58_48, cx58_48, h⟩ := h
       refine old R rfl Try.underlying4 rfl cx58_48 rfl fun a R => ?_
       refine op_val R (rn_pickF R rfl g47 rfl) rfl fun a R => ?_
       refine wpList_nil ?_
       refine then_normal ?_
       exact ⟨x58_48, R.weak ⟨rfl, rfl, rfl, rfl, rfl, rfl, trivial⟩, h⟩
     ·rintro a w ⟨y41_59, R, h⟩
      unfold levyroom_Room_holdClauses.k41 at h
      rcases ite_cases h with ⟨g42, h⟩ | ⟨g42, h⟩
      ·refine wp_condT R (congrArg (fun b => some (Value.bool b)) g42) ?_
       refine wp_seq ?_
       refine wp_region_lit ?_
       refine oas R rfl rfl fun a R => ?_
       refine wpList_nil ?_
       refine then_normal ?_
       refine wp_ret ?_
       refine block_ret ?_
       refine then_ret ?_
       refine then_ret ?_
       refine block_ret ?_
       refine block_ret ?_
       refine then_ret ?_
       refine then_ret ?_
       refine block_ret ?_
       refine then_ret ?_
       exact post_ret R rfl rfl ⟨false, rfl, h⟩
      ·refine wp_condF R (congrArg (fun b => some (Value.bool b)) g42) ?_
       refine wp_skip ?_
       refine block_normal ?_
       refine then_normal ?_
       refine wp_region_lit ?_
       refine omv R rfl rfl fun a R => ?_
       refine op_val R (rn_bin (v := .int .i64 (IntKind.i64.wrap (z18_6 + 1))) R rfl rfl rfl) rfl fun a R => ?_
       refine oas R rfl rfl fun a R => ?_
       refine wpList_nil ?_
       refine then_normal ?_
       exact hC (IntKind.i64.wrap (z18_6 + 1)) _ _ (R.weak ⟨rfl, rfl, rfl, rfl, rfl, trivial⟩) (by rw [← hK18] at h; exact h)
    ·refine wp_condF R (congrArg (fun b => some (Value.bool b)) g20) ?_
     refine wp_exit ?_
     refine then_exit ?_
     refine then_exit ?_
     refine block_eq ?_
     refine block_normal ?_
     refine then_normal ?_
     exact ⟨R.weak ⟨rfl, rfl, rfl, trivial⟩, h⟩
   ·rintro a w ⟨R, h⟩
    unfold levyroom_Room_holdClauses.k10 at h
    refine wp_region_lit ?_
    refine omv R rfl rfl fun a R => ?_
    refine op_val R (rn_bin (v := .int .i64 (IntKind.i64.wrap (z4_4 + 1))) R rfl rfl rfl) rfl fun a R => ?_
    refine oas R rfl rfl fun a R => ?_
    refine wpList_nil ?_
    refine then_normal ?_
    exact hC (IntKind.i64.wrap (z4_4 + 1)) _ _ (R.weak ⟨rfl, rfl, rfl, trivial⟩) (by rw [← hK4] at h; exact h)
  ·refine wp_condF R (congrArg (fun b => some (Value.bool b)) g9) ?_
   refine wp_exit ?_
   refine then_exit ?_
   refine then_exit ?_
   refine block_eq ?_
   refine then_normal ?_
   exact ⟨R.weak trivial, h⟩
 ·rintro a w ⟨R, h⟩
  unfold levyroom_Room_holdClauses.k3 at h
  refine wp_seq ?_
  refine wp_region_lit ?_
  refine oas R rfl rfl fun a R => ?_
  refine wpList_nil ?_
  refine then_normal ?_
  refine wp_ret ?_
  exact post_ret R rfl rfl ⟨true, rfl, h⟩
theorem s_levyroom_Room_holdClauses (x0 : Option Addr) (Q : Bool → World → Prop) (w : World) (h : levyroom_Room_holdClauses x0 Q w) :
    Calls Try.prog 56 #[.pointer x0] w (Rets fun v w => ∃ r0 : Bool, v = (.bool r0 : Value) ∧ Q r0 w) :=
  calls_body (args := [.pointer x0]) Try.func56 rfl rfl (Nat.le_of_ble_eq_true rfl) (L := [(0, .pointer x0)]) (by simp [starts]) (b_levyroom_Room_holdClauses x0 Q w h rfl)

/-! (levyroom.Room).holdLines -/

def levyroom_Room_holdLines.k3  (Q : Bool → World → Prop) (w : World) : Prop :=
  Q true w

def levyroom_Room_holdLines.k10 (x0 : Option Addr) (x11_1 : Addr) (z4_4 : Int) (K4 : Int → World → Prop) (Q : Bool → World → Prop) (w : World) : Prop :=
  K4 (IntKind.i64.wrap (z4_4 + 1)) w

def levyroom_Room_holdLines.k41 (x0 : Option Addr) (x11_1 : Addr) (z4_4 : Int) (x27_16 : Sl) (z18_6 : Int) (K18 : Int → World → Prop) (y41_61 : Bool) (Q : Bool → World → Prop) (w : World) : Prop :=
  (if y41_61 = true then Q false w else K18 (IntKind.i64.wrap (z18_6 + 1)) w)

def levyroom_Room_holdLines.l18 (x0 : Option Addr) (x11_1 : Addr) (z4_4 : Int) (K4 : Int → World → Prop) (x27_16 : Sl) (z18_6 : Int) (Q : Bool → World → Prop) (K18 : Int → World → Prop) (w : World) : Prop :=
  (if (decide (z18_6 < 40)) = true then nn x0 fun x34_21 => ld Sl.val w (x34_21.add 16) fun x36_22 => ix x36_22.p x36_22.len z4_4 1 fun x38_24 => ld Sl.val w x38_24 fun x39_25 => ix x39_25.p x39_25.len (IntKind.i64.wrap ((IntKind.i64.wrap (((x27_16.len : Nat) : Int) - 40)) + z18_6)) 7 fun x44_29 => ld Value.string w (x44_29.add 0) fun x45_30_0 => ld Value.bool w (x44_29.add 1) fun x45_30_1 => ld Value.bool w (x44_29.add 2) fun x45_30_2 => ld (Value.int .i64) w (x44_29.add 3) fun x45_30_3 => ld (Value.int .i64) w (x44_29.add 4) fun x45_30_4 => ld (Value.int .i64) w (x44_29.add 5) fun x45_30_5 => ld Sl.val w (x44_29.add 6) fun x45_30_6 => al w (.cells #[.string ⟨#[]⟩, .bool false, .bool false, .int .i64 0, .int .i64 0, .int .i64 0, .slice none 0 0] 149) fun x7_31 w => stN w x7_31 [.string x45_30_0, .bool x45_30_1, .bool x45_30_2, .int .i64 x45_30_3, .int .i64 x45_30_4, .int .i64 x45_30_5, Sl.val x45_30_6] fun w => ix (some x11_1) 2 (Int.tmod z18_6 2) 7 fun x49_36 => ld Value.string w (x49_36.add 0) fun x50_37_0 => ld Value.bool w (x49_36.add 1) fun x50_37_1 => ld Value.bool w (x49_36.add 2) fun x50_37_2 => ld (Value.int .i64) w (x49_36.add 3) fun x50_37_3 => ld (Value.int .i64) w (x49_36.add 4) fun x50_37_4 => ld (Value.int .i64) w (x49_36.add 5) fun x50_37_5 => ld Sl.val w (x49_36.add 6) fun x50_37_6 => al w (.cells #[.string ⟨#[]⟩, .bool false, .bool false, .int .i64 0, .int .i64 0, .int .i64 0, .slice none 0 0] 149) fun x8_38 w => stN w x8_38 [.string x50_37_0, .bool x50_37_1, .bool x50_37_2, .int .i64 x50_37_3, .int .i64 x50_37_4, .int .i64 x50_37_5, Sl.val x50_37_6] fun w => ld (Value.int .i64) w (x7_31.add 3) fun x52_44 => ld (Value.int .i64) w (x8_38.add 3) fun x54_45 => (if (x52_44 != x54_45) = true then levyroom_Room_holdLines.k41 x0 x11_1 z4_4 x27_16 z18_6 K18 true Q w else ld Sl.val w (x7_31.add 6) fun x58_48 => levyroom_Room_holdLines.k41 x0 x11_1 z4_4 x27_16 z18_6 K18 (((x58_48.len : Nat) : Int) != 0) Q w) else levyroom_Room_holdLines.k10 x0 x11_1 z4_4 K4 Q w)

def levyroom_Room_holdLines.l4 (x0 : Option Addr) (x11_1 : Addr) (z4_4 : Int) (Q : Bool → World → Prop) (K4 : Int → World → Prop) (w : World) : Prop :=
  nn x0 fun x14_5 => ld Sl.val w (x14_5.add 16) fun x16_6 => (if (decide (z4_4 < ((x16_6.len : Nat) : Int))) = true then nn x0 fun x22_12 => ld Sl.val w (x22_12.add 16) fun x24_13 => ix x24_13.p x24_13.len z4_4 1 fun x26_15 => ld Sl.val w x26_15 fun x27_16 => (Fix (σ := Int) (fun Ks s w => levyroom_Room_holdLines.l18 x0 x11_1 z4_4 K4 x27_16 s Q (fun z18_6 w => Ks z18_6 w) w) 0 w) else levyroom_Room_holdLines.k3  Q w)

def levyroom_Room_holdLines (x0 : Option Addr) (Q : Bool → World → Prop) (w : World) : Prop :=
  al w (.cells #[.string ⟨#[]⟩, .bool false, .bool false, .int .i64 (-7701), .int .i64 0, .int .i64 0, .slice none 0 0, .string ⟨#[]⟩, .bool false, .bool false, .int .i64 (-7702), .int .i64 0, .int .i64 0, .slice none 0 0] 149) fun x11_1 w => (Fix (σ := Int) (fun Ks s w => levyroom_Room_holdLines.l4 x0 x11_1 s Q (fun z4_4 w => Ks z4_4 w) w) 0 w)

theorem b_levyroom_Room_holdLines (x0 : Option Addr) (Q : Bool → World → Prop) (w : World) (h : levyroom_Room_holdLines x0 Q w) {c : Code} (hb : Try.f57.body = some c) :
 ∀ a, Rep a 62 [(0, .pointer x0)] [] → c.wp Try.prog (bodyPost Try.prog Try.f57 (Rets fun v w => ∃ r0 : Bool, v = (.bool r0 : Value) ∧ Q r0 w)) a w := by
 intro a R
 obtain rfl := Option.some.inj hb
 unfold levyroom_Room_holdLines at h
 refine wp_seq ?_
 refine wp_region_lit ?_
 refine oas R rfl rfl fun a R => ?_
 refine wpList_nil ?_
 refine then_normal ?_
 refine wp_seq ?_
 refine wp_region_lit ?_
 refine op_val R (rn_build (r := .agg #[.string ⟨#[]⟩, .bool false, .bool false, .int .i64 (-7701), .int .i64 0, .int .i64 0, .slice none 0 0]) R rfl (fun w => by kernel_rfl)) rfl fun a R => ?_
 refine op_val R (rn_build (r := .agg #[.string ⟨#[]⟩, .bool false, .bool false, .int .i64 (-7702), .int .i64 0, .int .i64 0, .slice none 0 0]) R rfl (fun w => by kernel_rfl)) rfl fun a R => ?_
 obtain ⟨x11_1, e2, h⟩ := al_e h
 refine op_val (v := .slice (some x11_1) 2 2) R (by rw [e2]; exact rn_buildSlice (t := 150) (len := 2) (xs := [(0, (.tmp 9)), (1, (.tmp 10))]) (cells := #[.string ⟨#[]⟩, .bool false, .bool false, .int .i64 (-7701), .int .i64 0, .int .i64 0, .slice none 0 0, .string ⟨#[]⟩, .bool false, .bool false, .int .i64 (-7702), .int .i64 0, .int .i64 0, .slice none 0 0]) (e := 149) R rfl (fun w => by kernel_rfl)) rfl fun a R => ?_
 refine oas R rfl rfl fun a R => ?_
 refine wpList_nil ?_
 refine then_normal ?_
 refine seq_join (fun a w => Rep a 62 [] [] ∧ levyroom_Room_holdLines.k3  Q w) ?_ ?_
 ·refine wp_seq ?_
  refine wp_region_lit ?_
  refine oas R rfl rfl fun a R => ?_
  refine wpList_nil ?_
  refine then_normal ?_
  refine wp_block ?_
  refine wp_fix (σ := Int) (fun s a => Rep a 62 [(0, .pointer x0), (3, .slice (some x11_1) 2 2), (4, .int .i64 s)] []) h (R.weak ⟨rfl, rfl, rfl, trivial⟩) ?_
  rintro Ks C z4_4 a w hC R h
  have R : Rep a 62 [(0, .pointer x0), (3, .slice (some x11_1) 2 2), (4, .int .i64 z4_4)] [] := R
  have h : levyroom_Room_holdLines.l4 x0 x11_1 z4_4 Q (fun z4_4 w => Ks z4_4 w) w := h
  generalize hK4 : (fun z4_4 w => Ks z4_4 w) = K4 at h
  unfold levyroom_Room_holdLines.l4 at h
  refine wp_seq ?_
  refine wp_seq ?_
  refine wp_region_lit ?_
  refine omv R rfl rfl fun a R => ?_
  refine omv R rfl rfl fun a R => ?_
  obtain ⟨x14_5, cx14_5, h⟩ := h
  refine onl R rfl cx14_5 rfl fun a R => ?_
  refine ofd R rfl fd65_16 rfl fun a R => ?_
  obtain ⟨x16_6, cx16_6, h⟩ := h
  refine old R rfl Try.underlying59 rfl cx16_6 rfl fun a R => ?_
  refine op_val R (rn_len R rfl Try.underlying59) rfl fun a R => ?_
  refine op_val R (rn_bin (v := .bool (decide (z4_4 < ((x16_6.len : Nat) : Int)))) R rfl rfl rfl) rfl fun a R => ?_
  refine wpList_nil ?_
  refine then_normal ?_
  rcases ite_cases h with ⟨g9, h⟩ | ⟨g9, h⟩
  ·refine wp_condT R (congrArg (fun b => some (Value.bool b)) g9) ?_
   refine wp_skip ?_
   refine then_normal ?_
   refine seq_join (fun a w => Rep a 62 [(0, .pointer x0), (3, .slice (some x11_1) 2 2), (4, .int .i64 z4_4)] [] ∧ levyroom_Room_holdLines.k10 x0 x11_1 z4_4 K4 Q w) ?_ ?_
   ·refine wp_block ?_
    refine wp_seq ?_
    refine wp_region_lit ?_
    refine omv R rfl rfl fun a R => ?_
    obtain ⟨x22_12, cx22_12, h⟩ := h
    refine onl R rfl cx22_12 rfl fun a R => ?_
    refine ofd R rfl fd65_16 rfl fun a R => ?_
    obtain ⟨x24_13, cx24_13, h⟩ := h
    refine old R rfl Try.underlying59 rfl cx24_13 rfl fun a R => ?_
    refine omv R rfl rfl fun a R => ?_
    obtain ⟨b14, x26_15, p14, i14, j14, e14, h⟩ := ix_e h
    refine op_val (v := .pointer (some x26_15)) R (by rw [e14]; exact rn_ixs (x := (.tmp 24)) (y := (.tmp 25)) R rfl p14 rfl Try.underlying59 sz150 i14 j14) rfl fun a R => ?_
    obtain ⟨x27_16, cx27_16, h⟩ := h
    refine old R rfl Try.underlying150 rfl cx27_16 rfl fun a R => ?_
    refine op_val R (rn_len R rfl Try.underlying150) rfl fun a R => ?_
    refine oas R rfl rfl fun a R => ?_
    refine wpList_nil ?_
    refine then_normal ?_
    refine wp_seq ?_
    refine wp_region_lit ?_
    refine oas R rfl rfl fun a R => ?_
    refine wpList_nil ?_
    refine then_normal ?_
    refine wp_block ?_
    refine wp_fix (σ := Int) (fun s a => Rep a 62 [(0, .pointer x0), (3, .slice (some x11_1) 2 2), (4, .int .i64 z4_4), (5, .int .i64 ((x27_16.len : Nat) : Int)), (6, .int .i64 s)] []) h (R.weak ⟨rfl, rfl, rfl, rfl, rfl, trivial⟩) ?_
    rintro Ks C z18_6 a w hC R h
    have R : Rep a 62 [(0, .pointer x0), (3, .slice (some x11_1) 2 2), (4, .int .i64 z4_4), (5, .int .i64 ((x27_16.len : Nat) : Int)), (6, .int .i64 z18_6)] [] := R
    have h : levyroom_Room_holdLines.l18 x0 x11_1 z4_4 K4 x27_16 z18_6 Q (fun z18_6 w => Ks z18_6 w) w := h
    generalize hK18 : (fun z18_6 w => Ks z18_6 w) = K18 at h
    unfold levyroom_Room_holdLines.l18 at h
    refine wp_seq ?_
    refine wp_seq ?_
    refine wp_region_lit ?_
    refine omv R rfl rfl fun a R => ?_
    refine op_val R (rn_bin (v := .bool (decide (z18_6 < 40))) R rfl rfl rfl) rfl fun a R => ?_
    refine wpList_nil ?_
    refine then_normal ?_
    rcases ite_cases h with ⟨g20, h⟩ | ⟨g20, h⟩
    ·refine wp_condT R (congrArg (fun b => some (Value.bool b)) g20) ?_
     refine wp_skip ?_
     refine then_normal ?_
     refine wp_seq ?_
     refine wp_block ?_
     refine wp_seq ?_
     refine wp_region_lit ?_
     refine omv R rfl rfl fun a R => ?_
     obtain ⟨x34_21, cx34_21, h⟩ := h
     refine onl R rfl cx34_21 rfl fun a R => ?_
     refine ofd R rfl fd65_16 rfl fun a R => ?_
     obtain ⟨x36_22, cx36_22, h⟩ := h
     refine old R rfl Try.underlying59 rfl cx36_22 rfl fun a R => ?_
     refine omv R rfl rfl fun a R => ?_
     obtain ⟨b23, x38_24, p23, i23, j23, e23, h⟩ := ix_e h
     refine op_val (v := .pointer (some x38_24)) R (by rw [e23]; exact rn_ixs (x := (.tmp 36)) (y := (.tmp 37)) R rfl p23 rfl Try.underlying59 sz150 i23 j23) rfl fun a R => ?_
     obtain ⟨x39_25, cx39_25, h⟩ := h
     refine old R rfl Try.underlying150 rfl cx39_25 rfl fun a R => ?_
     refine omv R rfl rfl fun a R => ?_
     refine op_val R (rn_bin (v := .int .i64 (IntKind.i64.wrap (((x27_16.len : Nat) : Int) - 40))) R rfl rfl rfl) rfl fun a R => ?_
     refine omv R rfl rfl fun a R => ?_
     refine op_val R (rn_bin (v := .int .i64 (IntKind.i64.wrap ((IntKind.i64.wrap (((x27_16.len : Nat) : Int) - 40)) + z18_6))) R rfl rfl rfl) rfl fun a R => ?_
     obtain ⟨b28, x44_29, p28, i28, j28, e28, h⟩ := ix_e h
     refine op_val (v := .pointer (some x44_29)) R (by rw [e28]; exact rn_ixs (x := (.tmp 39)) (y := (.tmp 43)) R rfl p28 rfl Try.underlying150 sz149 i28 j28) rfl fun a R => ?_
     obtain ⟨x45_30_0, cx45_30_0, x45_30_1, cx45_30_1, x45_30_2, cx45_30_2, x45_30_3, cx45_30_3, x45_30_4, cx45_30_4, x45_30_5, cx45_30_5, x45_30_6, cx45_30_6, h⟩ := h
     refine op_val R (rn_ldN (cs := [.string x45_30_0, .bool x45_30_1, .bool x45_30_2, .int .i64 x45_30_3, .int .i64 x45_30_4, .int .i64 x45_30_5, Sl.val x45_30_6]) R rfl Try.underlying149 rfl sz149 ⟨cx45_30_0, cx45_30_1, cx45_30_2, cx45_30_3, cx45_30_4, cx45_30_5, cx45_30_6, trivial⟩) rfl fun a R => ?_
     obtain ⟨x7_31, e32, h⟩ := al_e h
     refine op_val (v := .pointer (some x7_31)) R (by rw [e32]; exact rn_al R ze149) rfl fun a R => ?_
     obtain ⟨q33, h⟩ := h
     refine op_unit R (rn_stN (vs := [.string x45_30_0, .bool x45_30_1, .bool x45_30_2, .int .i64 x45_30_3, .int .i64 x45_30_4, .int .i64 x45_30_5, Sl.val x45_30_6]) R rfl rfl (ao ⟨rfl, rfl, rfl, rfl, rfl, rfl, rfl, trivial⟩) sz149 q33) fun a R => ?_
     refine wpList_nil ?_
     refine then_normal ?_
     refine wp_seq ?_
     refine wp_region_lit ?_
     refine omv R rfl rfl fun a R => ?_
     refine omv R rfl rfl fun a R => ?_
     refine op_val R (rn_bin (v := .int .i64 (Int.tmod z18_6 2)) R rfl rfl rfl) rfl fun a R => ?_
     obtain ⟨b35, x49_36, p35, i35, j35, e35, h⟩ := ix_e h
     refine op_val (v := .pointer (some x49_36)) R (by rw [e35]; exact rn_ixs (x := (.tmp 46)) (y := (.tmp 48)) R rfl p35 rfl Try.underlying150 sz149 i35 j35) rfl fun a R => ?_
     obtain ⟨x50_37_0, cx50_37_0, x50_37_1, cx50_37_1, x50_37_2, cx50_37_2, x50_37_3, cx50_37_3, x50_37_4, cx50_37_4, x50_37_5, cx50_37_5, x50_37_6, cx50_37_6, h⟩ := h
     refine op_val R (rn_ldN (cs := [.string x50_37_0, .bool x50_37_1, .bool x50_37_2, .int .i64 x50_37_3, .int .i64 x50_37_4, .int .i64 x50_37_5, Sl.val x50_37_6]) R rfl Try.underlying149 rfl sz149 ⟨cx50_37_0, cx50_37_1, cx50_37_2, cx50_37_3, cx50_37_4, cx50_37_5, cx50_37_6, trivial⟩) rfl fun a R => ?_
     obtain ⟨x8_38, e39, h⟩ := al_e h
     refine op_val (v := .pointer (some x8_38)) R (by rw [e39]; exact rn_al R ze149) rfl fun a R => ?_
     obtain ⟨q40, h⟩ := h
     refine op_unit R (rn_stN (vs := [.string x50_37_0, .bool x50_37_1, .bool x50_37_2, .int .i64 x50_37_3, .int .i64 x50_37_4, .int .i64 x50_37_5, Sl.val x50_37_6]) R rfl rfl (ao ⟨rfl, rfl, rfl, rfl, rfl, rfl, rfl, trivial⟩) sz149 q40) fun a R => ?_
     refine wpList_nil ?_
     refine then_normal ?_
     refine seq_join (fun a w => ∃ y41_61 : Bool, Rep a 62 [(0, .pointer x0), (3, .slice (some x11_1) 2 2), (4, .int .i64 z4_4), (5, .int .i64 ((x27_16.len : Nat) : Int)), (6, .int .i64 z18_6), (61, .bool y41_61)] [] ∧ levyroom_Room_holdLines.k41 x0 x11_1 z4_4 x27_16 z18_6 K18 y41_61 Q w) ?_ ?_
     ·refine wp_region_lit ?_
      refine ofd R rfl fd149_3 rfl fun a R => ?_
      obtain ⟨x52_44, cx52_44, h⟩ := h
      refine old R rfl Try.underlying3 rfl cx52_44 rfl fun a R => ?_
      refine ofd R rfl fd149_3 rfl fun a R => ?_
      obtain ⟨x54_45, cx54_45, h⟩ := h
      refine old R rfl Try.underlying3 rfl cx54_45 rfl fun a R => ?_
      refine op_val R (rn_bin (v := .bool (x52_44 != x54_45)) R rfl rfl rfl) rfl fun a R => ?_
      refine omv R rfl rfl fun a R => ?_
      rcases ite_cases h with ⟨g47, h⟩ | ⟨g47, h⟩
      ·refine op_pass R rfl rfl rfl (nft g47) (fun a R => ?_) (by intro s hs; cases hs; rfl)
       refine op_pass R rfl rfl rfl (nft g47) (fun a R => ?_) (by intro s hs; cases hs; rfl)
       refine op_pass R rfl rfl rfl (nft g47) (fun a R => ?_) (by intro s hs; cases hs; rfl)
       refine op_pass R rfl rfl rfl (nft g47) (fun a R => ?_) (by intro s hs; cases hs; rfl)
       refine op_val R (rn_pickT R rfl g47 rfl) rfl fun a R => ?_
       refine wpList_nil ?_
       refine then_normal ?_
       exact ⟨true, R.weak ⟨rfl, rfl, rfl, rfl, rfl, rfl, trivial⟩, h⟩
      ·refine op_guard R rfl rfl rfl g47 ?_
       refine ofd R rfl fd149_6 rfl fun a R => ?_
       refine op_guard R rfl rfl rfl g47 ?_
       obtain ⟨x58_48, cx58_48, h⟩ := h
       refine old R rfl Try.underlying147 rfl cx58_48 rfl fun a R => ?_
       refine op_guard R rfl rfl rfl g47 ?_
       refine op_val R (rn_len R rfl Try.underlying147) rfl fun a R => ?_
       refine op_guard R rfl rfl rfl g47 ?_
       refine op_val R (rn_bin (v := .bool (((x58_48.len : Nat) : Int) != 0)) R rfl rfl rfl) rfl fun a R => ?_
       refine op_val R (rn_pickF R rfl g47 rfl) rfl fun a R => ?_
       refine wpList_nil ?_
       refine then_normal ?_
       exact ⟨(((x58_48.len : Nat) : Int) != 0), R.weak ⟨rfl, rfl, rfl, rfl, rfl, rfl, trivial⟩, h⟩
     ·rintro a w ⟨y41_61, R, h⟩
      unfold levyroom_Room_holdLines.k41 at h
      rcases ite_cases h with ⟨g42, h⟩ | ⟨g42, h⟩
      ·refine wp_condT R (congrArg (fun b => some (Value.bool b)) g42) ?_
       refine wp_seq ?_
       refine wp_region_lit ?_
       refine oas R rfl rfl fun a R => ?_
       refine wpList_nil ?_
       refine then_normal ?_
       refine wp_ret ?_
       refine block_ret ?_
       refine then_ret ?_
       refine then_ret ?_
       refine block_ret ?_
       refine block_ret ?_
       refine then_ret ?_
       refine then_ret ?_
       refine block_ret ?_
       refine then_ret ?_
       exact post_ret R rfl rfl ⟨false, rfl, h⟩
      ·refine wp_condF R (congrArg (fun b => some (Value.bool b)) g42) ?_
       refine wp_skip ?_
       refine block_normal ?_
       refine then_normal ?_
       refine wp_region_lit ?_
       refine omv R rfl rfl fun a R => ?_
       refine op_val R (rn_bin (v := .int .i64 (IntKind.i64.wrap (z18_6 + 1))) R rfl rfl rfl) rfl fun a R => ?_
       refine oas R rfl rfl fun a R => ?_
       refine wpList_nil ?_
       refine then_normal ?_
       exact hC (IntKind.i64.wrap (z18_6 + 1)) _ _ (R.weak ⟨rfl, rfl, rfl, rfl, rfl, trivial⟩) (by rw [← hK18] at h; exact h)
    ·refine wp_condF R (congrArg (fun b => some (Value.bool b)) g20) ?_
     refine wp_exit ?_
     refine then_exit ?_
     refine then_exit ?_
     refine block_eq ?_
     refine block_normal ?_
     refine then_normal ?_
     exact ⟨R.weak ⟨rfl, rfl, rfl, trivial⟩, h⟩
   ·rintro a w ⟨R, h⟩
    unfold levyroom_Room_holdLines.k10 at h
    refine wp_region_lit ?_
    refine omv R rfl rfl fun a R => ?_
    refine op_val R (rn_bin (v := .int .i64 (IntKind.i64.wrap (z4_4 + 1))) R rfl rfl rfl) rfl fun a R => ?_
    refine oas R rfl rfl fun a R => ?_
    refine wpList_nil ?_
    refine then_normal ?_
    exact hC (IntKind.i64.wrap (z4_4 + 1)) _ _ (R.weak ⟨rfl, rfl, rfl, trivial⟩) (by rw [← hK4] at h; exact h)
  ·refine wp_condF R (congrArg (fun b => some (Value.bool b)) g9) ?_
   refine wp_exit ?_
   refine then_exit ?_
   refine then_exit ?_
   refine block_eq ?_
   refine then_normal ?_
   exact ⟨R.weak trivial, h⟩
 ·rintro a w ⟨R, h⟩
  unfold levyroom_Room_holdLines.k3 at h
  refine wp_seq ?_
  refine wp_region_lit ?_
  refine oas R rfl rfl fun a R => ?_
  refine wpList_nil ?_
  refine then_normal ?_
  refine wp_ret ?_
  exact post_ret R rfl rfl ⟨true, rfl, h⟩
theorem s_levyroom_Room_holdLines (x0 : Option Addr) (Q : Bool → World → Prop) (w : World) (h : levyroom_Room_holdLines x0 Q w) :
    Calls Try.prog 57 #[.pointer x0] w (Rets fun v w => ∃ r0 : Bool, v = (.bool r0 : Value) ∧ Q r0 w) :=
  calls_body (args := [.pointer x0]) Try.func57 rfl rfl (Nat.le_of_ble_eq_true rfl) (L := [(0, .pointer x0)]) (by simp [starts]) (b_levyroom_Room_holdLines x0 Q w h rfl)

/-! (levyroom.Room).holdChecks -/

def levyroom_Room_holdChecks.k3  (Q : Bool → World → Prop) (w : World) : Prop :=
  Q true w

def levyroom_Room_holdChecks.k10 (x0 : Option Addr) (x11_1 : Addr) (z4_4 : Int) (K4 : Int → World → Prop) (Q : Bool → World → Prop) (w : World) : Prop :=
  K4 (IntKind.i64.wrap (z4_4 + 1)) w

def levyroom_Room_holdChecks.k41 (x0 : Option Addr) (x11_1 : Addr) (z4_4 : Int) (x27_16 : Sl) (z18_6 : Int) (K18 : Int → World → Prop) (y41_60 : Bool) (Q : Bool → World → Prop) (w : World) : Prop :=
  (if y41_60 = true then Q false w else K18 (IntKind.i64.wrap (z18_6 + 1)) w)

def levyroom_Room_holdChecks.l18 (x0 : Option Addr) (x11_1 : Addr) (z4_4 : Int) (K4 : Int → World → Prop) (x27_16 : Sl) (z18_6 : Int) (Q : Bool → World → Prop) (K18 : Int → World → Prop) (w : World) : Prop :=
  (if (decide (z18_6 < 40)) = true then nn x0 fun x34_21 => ld Sl.val w (x34_21.add 17) fun x36_22 => ix x36_22.p x36_22.len z4_4 1 fun x38_24 => ld Sl.val w x38_24 fun x39_25 => ix x39_25.p x39_25.len (IntKind.i64.wrap ((IntKind.i64.wrap (((x27_16.len : Nat) : Int) - 40)) + z18_6)) 9 fun x44_29 => ld Value.string w (x44_29.add 0) fun x45_30_0 => ld Value.bool w (x44_29.add 1) fun x45_30_1 => ld (Value.int .i64) w (x44_29.add 2) fun x45_30_2 => ld (Value.int .i64) w (x44_29.add 3) fun x45_30_3 => ld (Value.int .i64) w (x44_29.add 4) fun x45_30_4 => ld (Value.int .i64) w (x44_29.add 5) fun x45_30_5 => ld (Value.int .i64) w (x44_29.add 6) fun x45_30_6 => ld Sl.val w (x44_29.add 7) fun x45_30_7 => ld Value.string w (x44_29.add 8) fun x45_30_8 => al w (.cells #[.string ⟨#[]⟩, .bool false, .int .i64 0, .int .i64 0, .int .i64 0, .int .i64 0, .int .i64 0, .slice none 0 0, .string ⟨#[]⟩] 152) fun x7_31 w => stN w x7_31 [.string x45_30_0, .bool x45_30_1, .int .i64 x45_30_2, .int .i64 x45_30_3, .int .i64 x45_30_4, .int .i64 x45_30_5, .int .i64 x45_30_6, Sl.val x45_30_7, .string x45_30_8] fun w => ix (some x11_1) 2 (Int.tmod z18_6 2) 9 fun x49_36 => ld Value.string w (x49_36.add 0) fun x50_37_0 => ld Value.bool w (x49_36.add 1) fun x50_37_1 => ld (Value.int .i64) w (x49_36.add 2) fun x50_37_2 => ld (Value.int .i64) w (x49_36.add 3) fun x50_37_3 => ld (Value.int .i64) w (x49_36.add 4) fun x50_37_4 => ld (Value.int .i64) w (x49_36.add 5) fun x50_37_5 => ld (Value.int .i64) w (x49_36.add 6) fun x50_37_6 => ld Sl.val w (x49_36.add 7) fun x50_37_7 => ld Value.string w (x49_36.add 8) fun x50_37_8 => al w (.cells #[.string ⟨#[]⟩, .bool false, .int .i64 0, .int .i64 0, .int .i64 0, .int .i64 0, .int .i64 0, .slice none 0 0, .string ⟨#[]⟩] 152) fun x8_38 w => stN w x8_38 [.string x50_37_0, .bool x50_37_1, .int .i64 x50_37_2, .int .i64 x50_37_3, .int .i64 x50_37_4, .int .i64 x50_37_5, .int .i64 x50_37_6, Sl.val x50_37_7, .string x50_37_8] fun w => ld (Value.int .i64) w (x7_31.add 2) fun x52_44 => ld (Value.int .i64) w (x8_38.add 2) fun x54_45 => (if (x52_44 != x54_45) = true then levyroom_Room_holdChecks.k41 x0 x11_1 z4_4 x27_16 z18_6 K18 true Q w else ld Value.string w (x7_31.add 0) fun x58_48 => levyroom_Room_holdChecks.k41 x0 x11_1 z4_4 x27_16 z18_6 K18 (!(sEq x58_48 ⟨#[]⟩)) Q w) else levyroom_Room_holdChecks.k10 x0 x11_1 z4_4 K4 Q w)

def levyroom_Room_holdChecks.l4 (x0 : Option Addr) (x11_1 : Addr) (z4_4 : Int) (Q : Bool → World → Prop) (K4 : Int → World → Prop) (w : World) : Prop :=
  nn x0 fun x14_5 => ld Sl.val w (x14_5.add 17) fun x16_6 => (if (decide (z4_4 < ((x16_6.len : Nat) : Int))) = true then nn x0 fun x22_12 => ld Sl.val w (x22_12.add 17) fun x24_13 => ix x24_13.p x24_13.len z4_4 1 fun x26_15 => ld Sl.val w x26_15 fun x27_16 => (Fix (σ := Int) (fun Ks s w => levyroom_Room_holdChecks.l18 x0 x11_1 z4_4 K4 x27_16 s Q (fun z18_6 w => Ks z18_6 w) w) 0 w) else levyroom_Room_holdChecks.k3  Q w)

def levyroom_Room_holdChecks (x0 : Option Addr) (Q : Bool → World → Prop) (w : World) : Prop :=
  al w (.cells #[.string ⟨#[]⟩, .bool false, .int .i64 (-7701), .int .i64 0, .int .i64 0, .int .i64 0, .int .i64 0, .slice none 0 0, .string ⟨#[]⟩, .string ⟨#[]⟩, .bool false, .int .i64 (-7702), .int .i64 0, .int .i64 0, .int .i64 0, .int .i64 0, .slice none 0 0, .string ⟨#[]⟩] 152) fun x11_1 w => (Fix (σ := Int) (fun Ks s w => levyroom_Room_holdChecks.l4 x0 x11_1 s Q (fun z4_4 w => Ks z4_4 w) w) 0 w)

theorem b_levyroom_Room_holdChecks (x0 : Option Addr) (Q : Bool → World → Prop) (w : World) (h : levyroom_Room_holdChecks x0 Q w) {c : Code} (hb : Try.f58.body = some c) :
 ∀ a, Rep a 61 [(0, .pointer x0)] [] → c.wp Try.prog (bodyPost Try.prog Try.f58 (Rets fun v w => ∃ r0 : Bool, v = (.bool r0 : Value) ∧ Q r0 w)) a w := by
 intro a R
 obtain rfl := Option.some.inj hb
 unfold levyroom_Room_holdChecks at h
 refine wp_seq ?_
 refine wp_region_lit ?_
 refine oas R rfl rfl fun a R => ?_
 refine wpList_nil ?_
 refine then_normal ?_
 refine wp_seq ?_
 refine wp_region_lit ?_
 refine op_val R (rn_build (r := .agg #[.string ⟨#[]⟩, .bool false, .int .i64 (-7701), .int .i64 0, .int .i64 0, .int .i64 0, .int .i64 0, .slice none 0 0, .string ⟨#[]⟩]) R rfl (fun w => by kernel_rfl)) rfl fun a R => ?_
 refine op_val R (rn_build (r := .agg #[.string ⟨#[]⟩, .bool false, .int .i64 (-7702), .int .i64 0, .int .i64 0, .int .i64 0, .int .i64 0, .slice none 0 0, .string ⟨#[]⟩]) R rfl (fun w => by kernel_rfl)) rfl fun a R => ?_
 obtain ⟨x11_1, e2, h⟩ := al_e h
 refine op_val (v := .slice (some x11_1) 2 2) R (by rw [e2]; exact rn_buildSlice (t := 153) (len := 2) (xs := [(0, (.tmp 9)), (1, (.tmp 10))]) (cells := #[.string ⟨#[]⟩, .bool false, .int .i64 (-7701), .int .i64 0, .int .i64 0, .int .i64 0, .int .i64 0, .slice none 0 0, .string ⟨#[]⟩, .string ⟨#[]⟩, .bool false, .int .i64 (-7702), .int .i64 0, .int .i64 0, .int .i64 0, .int .i64 0, .slice none 0 0, .string ⟨#[]⟩]) (e := 152) R rfl (fun w => by kernel_rfl)) rfl fun a R => ?_
 refine oas R rfl rfl fun a R => ?_
 refine wpList_nil ?_
 refine then_normal ?_
 refine seq_join (fun a w => Rep a 61 [] [] ∧ levyroom_Room_holdChecks.k3  Q w) ?_ ?_
 ·refine wp_seq ?_
  refine wp_region_lit ?_
  refine oas R rfl rfl fun a R => ?_
  refine wpList_nil ?_
  refine then_normal ?_
  refine wp_block ?_
  refine wp_fix (σ := Int) (fun s a => Rep a 61 [(0, .pointer x0), (3, .slice (some x11_1) 2 2), (4, .int .i64 s)] []) h (R.weak ⟨rfl, rfl, rfl, trivial⟩) ?_
  rintro Ks C z4_4 a w hC R h
  have R : Rep a 61 [(0, .pointer x0), (3, .slice (some x11_1) 2 2), (4, .int .i64 z4_4)] [] := R
  have h : levyroom_Room_holdChecks.l4 x0 x11_1 z4_4 Q (fun z4_4 w => Ks z4_4 w) w := h
  generalize hK4 : (fun z4_4 w => Ks z4_4 w) = K4 at h
  unfold levyroom_Room_holdChecks.l4 at h
  refine wp_seq ?_
  refine wp_seq ?_
  refine wp_region_lit ?_
  refine omv R rfl rfl fun a R => ?_
  refine omv R rfl rfl fun a R => ?_
  obtain ⟨x14_5, cx14_5, h⟩ := h
  refine onl R rfl cx14_5 rfl fun a R => ?_
  refine ofd R rfl fd65_17 rfl fun a R => ?_
  obtain ⟨x16_6, cx16_6, h⟩ := h
  refine old R rfl Try.underlying60 rfl cx16_6 rfl fun a R => ?_
  refine op_val R (rn_len R rfl Try.underlying60) rfl fun a R => ?_
  refine op_val R (rn_bin (v := .bool (decide (z4_4 < ((x16_6.len : Nat) : Int)))) R rfl rfl rfl) rfl fun a R => ?_
  refine wpList_nil ?_
  refine then_normal ?_
  rcases ite_cases h with ⟨g9, h⟩ | ⟨g9, h⟩
  ·refine wp_condT R (congrArg (fun b => some (Value.bool b)) g9) ?_
   refine wp_skip ?_
   refine then_normal ?_
   refine seq_join (fun a w => Rep a 61 [(0, .pointer x0), (3, .slice (some x11_1) 2 2), (4, .int .i64 z4_4)] [] ∧ levyroom_Room_holdChecks.k10 x0 x11_1 z4_4 K4 Q w) ?_ ?_
   ·refine wp_block ?_
    refine wp_seq ?_
    refine wp_region_lit ?_
    refine omv R rfl rfl fun a R => ?_
    obtain ⟨x22_12, cx22_12, h⟩ := h
    refine onl R rfl cx22_12 rfl fun a R => ?_
    refine ofd R rfl fd65_17 rfl fun a R => ?_
    obtain ⟨x24_13, cx24_13, h⟩ := h
    refine old R rfl Try.underlying60 rfl cx24_13 rfl fun a R => ?_
    refine omv R rfl rfl fun a R => ?_
    obtain ⟨b14, x26_15, p14, i14, j14, e14, h⟩ := ix_e h
    refine op_val (v := .pointer (some x26_15)) R (by rw [e14]; exact rn_ixs (x := (.tmp 24)) (y := (.tmp 25)) R rfl p14 rfl Try.underlying60 sz153 i14 j14) rfl fun a R => ?_
    obtain ⟨x27_16, cx27_16, h⟩ := h
    refine old R rfl Try.underlying153 rfl cx27_16 rfl fun a R => ?_
    refine op_val R (rn_len R rfl Try.underlying153) rfl fun a R => ?_
    refine oas R rfl rfl fun a R => ?_
    refine wpList_nil ?_
    refine then_normal ?_
    refine wp_seq ?_
    refine wp_region_lit ?_
    refine oas R rfl rfl fun a R => ?_
    refine wpList_nil ?_
    refine then_normal ?_
    refine wp_block ?_
    refine wp_fix (σ := Int) (fun s a => Rep a 61 [(0, .pointer x0), (3, .slice (some x11_1) 2 2), (4, .int .i64 z4_4), (5, .int .i64 ((x27_16.len : Nat) : Int)), (6, .int .i64 s)] []) h (R.weak ⟨rfl, rfl, rfl, rfl, rfl, trivial⟩) ?_
    rintro Ks C z18_6 a w hC R h
    have R : Rep a 61 [(0, .pointer x0), (3, .slice (some x11_1) 2 2), (4, .int .i64 z4_4), (5, .int .i64 ((x27_16.len : Nat) : Int)), (6, .int .i64 z18_6)] [] := R
    have h : levyroom_Room_holdChecks.l18 x0 x11_1 z4_4 K4 x27_16 z18_6 Q (fun z18_6 w => Ks z18_6 w) w := h
    generalize hK18 : (fun z18_6 w => Ks z18_6 w) = K18 at h
    unfold levyroom_Room_holdChecks.l18 at h
    refine wp_seq ?_
    refine wp_seq ?_
    refine wp_region_lit ?_
    refine omv R rfl rfl fun a R => ?_
    refine op_val R (rn_bin (v := .bool (decide (z18_6 < 40))) R rfl rfl rfl) rfl fun a R => ?_
    refine wpList_nil ?_
    refine then_normal ?_
    rcases ite_cases h with ⟨g20, h⟩ | ⟨g20, h⟩
    ·refine wp_condT R (congrArg (fun b => some (Value.bool b)) g20) ?_
     refine wp_skip ?_
     refine then_normal ?_
     refine wp_seq ?_
     refine wp_block ?_
     refine wp_seq ?_
     refine wp_region_lit ?_
     refine omv R rfl rfl fun a R => ?_
     obtain ⟨x34_21, cx34_21, h⟩ := h
     refine onl R rfl cx34_21 rfl fun a R => ?_
     refine ofd R rfl fd65_17 rfl fun a R => ?_
     obtain ⟨x36_22, cx36_22, h⟩ := h
     refine old R rfl Try.underlying60 rfl cx36_22 rfl fun a R => ?_
     refine omv R rfl rfl fun a R => ?_
     obtain ⟨b23, x38_24, p23, i23, j23, e23, h⟩ := ix_e h
     refine op_val (v := .pointer (some x38_24)) R (by rw [e23]; exact rn_ixs (x := (.tmp 36)) (y := (.tmp 37)) R rfl p23 rfl Try.underlying60 sz153 i23 j23) rfl fun a R => ?_
     obtain ⟨x39_25, cx39_25, h⟩ := h
     refine old R rfl Try.underlying153 rfl cx39_25 rfl fun a R => ?_
     refine omv R rfl rfl fun a R => ?_
     refine op_val R (rn_bin (v := .int .i64 (IntKind.i64.wrap (((x27_16.len : Nat) : Int) - 40))) R rfl rfl rfl) rfl fun a R => ?_
     refine omv R rfl rfl fun a R => ?_
     refine op_val R (rn_bin (v := .int .i64 (IntKind.i64.wrap ((IntKind.i64.wrap (((x27_16.len : Nat) : Int) - 40)) + z18_6))) R rfl rfl rfl) rfl fun a R => ?_
     obtain ⟨b28, x44_29, p28, i28, j28, e28, h⟩ := ix_e h
     refine op_val (v := .pointer (some x44_29)) R (by rw [e28]; exact rn_ixs (x := (.tmp 39)) (y := (.tmp 43)) R rfl p28 rfl Try.underlying153 sz152 i28 j28) rfl fun a R => ?_
     obtain ⟨x45_30_0, cx45_30_0, x45_30_1, cx45_30_1, x45_30_2, cx45_30_2, x45_30_3, cx45_30_3, x45_30_4, cx45_30_4, x45_30_5, cx45_30_5, x45_30_6, cx45_30_6, x45_30_7, cx45_30_7, x45_30_8, cx45_30_8, h⟩ := h
     refine op_val R (rn_ldN (cs := [.string x45_30_0, .bool x45_30_1, .int .i64 x45_30_2, .int .i64 x45_30_3, .int .i64 x45_30_4, .int .i64 x45_30_5, .int .i64 x45_30_6, Sl.val x45_30_7, .string x45_30_8]) R rfl Try.underlying152 rfl sz152 ⟨cx45_30_0, cx45_30_1, cx45_30_2, cx45_30_3, cx45_30_4, cx45_30_5, cx45_30_6, cx45_30_7, cx45_30_8, trivial⟩) rfl fun a R => ?_
     obtain ⟨x7_31, e32, h⟩ := al_e h
     refine op_val (v := .pointer (some x7_31)) R (by rw [e32]; exact rn_al R ze152) rfl fun a R => ?_
     obtain ⟨q33, h⟩ := h
     refine op_unit R (rn_stN (vs := [.string x45_30_0, .bool x45_30_1, .int .i64 x45_30_2, .int .i64 x45_30_3, .int .i64 x45_30_4, .int .i64 x45_30_5, .int .i64 x45_30_6, Sl.val x45_30_7, .string x45_30_8]) R rfl rfl (ao ⟨rfl, rfl, rfl, rfl, rfl, rfl, rfl, rfl, rfl, trivial⟩) sz152 q33) fun a R => ?_
     refine wpList_nil ?_
     refine then_normal ?_
     refine wp_seq ?_
     refine wp_region_lit ?_
     refine omv R rfl rfl fun a R => ?_
     refine omv R rfl rfl fun a R => ?_
     refine op_val R (rn_bin (v := .int .i64 (Int.tmod z18_6 2)) R rfl rfl rfl) rfl fun a R => ?_
     obtain ⟨b35, x49_36, p35, i35, j35, e35, h⟩ := ix_e h
     refine op_val (v := .pointer (some x49_36)) R (by rw [e35]; exact rn_ixs (x := (.tmp 46)) (y := (.tmp 48)) R rfl p35 rfl Try.underlying153 sz152 i35 j35) rfl fun a R => ?_
     obtain ⟨x50_37_0, cx50_37_0, x50_37_1, cx50_37_1, x50_37_2, cx50_37_2, x50_37_3, cx50_37_3, x50_37_4, cx50_37_4, x50_37_5, cx50_37_5, x50_37_6, cx50_37_6, x50_37_7, cx50_37_7, x50_37_8, cx50_37_8, h⟩ := h
     refine op_val R (rn_ldN (cs := [.string x50_37_0, .bool x50_37_1, .int .i64 x50_37_2, .int .i64 x50_37_3, .int .i64 x50_37_4, .int .i64 x50_37_5, .int .i64 x50_37_6, Sl.val x50_37_7, .string x50_37_8]) R rfl Try.underlying152 rfl sz152 ⟨cx50_37_0, cx50_37_1, cx50_37_2, cx50_37_3, cx50_37_4, cx50_37_5, cx50_37_6, cx50_37_7, cx50_37_8, trivial⟩) rfl fun a R => ?_
     obtain ⟨x8_38, e39, h⟩ := al_e h
     refine op_val (v := .pointer (some x8_38)) R (by rw [e39]; exact rn_al R ze152) rfl fun a R => ?_
     obtain ⟨q40, h⟩ := h
     refine op_unit R (rn_stN (vs := [.string x50_37_0, .bool x50_37_1, .int .i64 x50_37_2, .int .i64 x50_37_3, .int .i64 x50_37_4, .int .i64 x50_37_5, .int .i64 x50_37_6, Sl.val x50_37_7, .string x50_37_8]) R rfl rfl (ao ⟨rfl, rfl, rfl, rfl, rfl, rfl, rfl, rfl, rfl, trivial⟩) sz152 q40) fun a R => ?_
     refine wpList_nil ?_
     refine then_normal ?_
     refine seq_join (fun a w => ∃ y41_60 : Bool, Rep a 61 [(0, .pointer x0), (3, .slice (some x11_1) 2 2), (4, .int .i64 z4_4), (5, .int .i64 ((x27_16.len : Nat) : Int)), (6, .int .i64 z18_6), (60, .bool y41_60)] [] ∧ levyroom_Room_holdChecks.k41 x0 x11_1 z4_4 x27_16 z18_6 K18 y41_60 Q w) ?_ ?_
     ·refine wp_region_lit ?_
      refine ofd R rfl fd152_2 rfl fun a R => ?_
      obtain ⟨x52_44, cx52_44, h⟩ := h
      refine old R rfl Try.underlying3 rfl cx52_44 rfl fun a R => ?_
      refine ofd R rfl fd152_2 rfl fun a R => ?_
      obtain ⟨x54_45, cx54_45, h⟩ := h
      refine old R rfl Try.underlying3 rfl cx54_45 rfl fun a R => ?_
      refine op_val R (rn_bin (v := .bool (x52_44 != x54_45)) R rfl rfl rfl) rfl fun a R => ?_
      refine omv R rfl rfl fun a R => ?_
      rcases ite_cases h with ⟨g47, h⟩ | ⟨g47, h⟩
      ·refine op_pass R rfl rfl rfl (nft g47) (fun a R => ?_) (by intro s hs; cases hs; rfl)
       refine op_pass R rfl rfl rfl (nft g47) (fun a R => ?_) (by intro s hs; cases hs; rfl)
       refine op_pass R rfl rfl rfl (nft g47) (fun a R => ?_) (by intro s hs; cases hs; rfl)
       refine op_val R (rn_pickT R rfl g47 rfl) rfl fun a R => ?_
       refine wpList_nil ?_
       refine then_normal ?_
       exact ⟨true, R.weak ⟨rfl, rfl, rfl, rfl, rfl, rfl, trivial⟩, h⟩
      ·refine op_guard R rfl rfl rfl g47 ?_
       refine ofd R rfl fd152_0 rfl fun a R => ?_
       refine op_guard R rfl rfl rfl g47 ?_
       obtain ⟨x58_48, cx58_48, h⟩ := h
       refine old R rfl Try.underlying9 rfl cx58_48 rfl fun a R => ?_
       refine op_guard R rfl rfl rfl g47 ?_
       refine op_val R (rn_binS (v := .bool (!(sEq x58_48 ⟨#[]⟩))) R rfl rfl rfl) rfl fun a R => ?_
       refine op_val R (rn_pickF R rfl g47 rfl) rfl fun a R => ?_
       refine wpList_nil ?_
       refine then_normal ?_
       exact ⟨(!(sEq x58_48 ⟨#[]⟩)), R.weak ⟨rfl, rfl, rfl, rfl, rfl, rfl, trivial⟩, h⟩
     ·rintro a w ⟨y41_60, R, h⟩
      unfold levyroom_Room_holdChecks.k41 at h
      rcases ite_cases h with ⟨g42, h⟩ | ⟨g42, h⟩
      ·refine wp_condT R (congrArg (fun b => some (Value.bool b)) g42) ?_
       refine wp_seq ?_
       refine wp_region_lit ?_
       refine oas R rfl rfl fun a R => ?_
       refine wpList_nil ?_
       refine then_normal ?_
       refine wp_ret ?_
       refine block_ret ?_
       refine then_ret ?_
       refine then_ret ?_
       refine block_ret ?_
       refine block_ret ?_
       refine then_ret ?_
       refine then_ret ?_
       refine block_ret ?_
       refine then_ret ?_
       exact post_ret R rfl rfl ⟨false, rfl, h⟩
      ·refine wp_condF R (congrArg (fun b => some (Value.bool b)) g42) ?_
       refine wp_skip ?_
       refine block_normal ?_
       refine then_normal ?_
       refine wp_region_lit ?_
       refine omv R rfl rfl fun a R => ?_
       refine op_val R (rn_bin (v := .int .i64 (IntKind.i64.wrap (z18_6 + 1))) R rfl rfl rfl) rfl fun a R => ?_
       refine oas R rfl rfl fun a R => ?_
       refine wpList_nil ?_
       refine then_normal ?_
       exact hC (IntKind.i64.wrap (z18_6 + 1)) _ _ (R.weak ⟨rfl, rfl, rfl, rfl, rfl, trivial⟩) (by rw [← hK18] at h; exact h)
    ·refine wp_condF R (congrArg (fun b => some (Value.bool b)) g20) ?_
     refine wp_exit ?_
     refine then_exit ?_
     refine then_exit ?_
     refine block_eq ?_
     refine block_normal ?_
     refine then_normal ?_
     exact ⟨R.weak ⟨rfl, rfl, rfl, trivial⟩, h⟩
   ·rintro a w ⟨R, h⟩
    unfold levyroom_Room_holdChecks.k10 at h
    refine wp_region_lit ?_
    refine omv R rfl rfl fun a R => ?_
    refine op_val R (rn_bin (v := .int .i64 (IntKind.i64.wrap (z4_4 + 1))) R rfl rfl rfl) rfl fun a R => ?_
    refine oas R rfl rfl fun a R => ?_
    refine wpList_nil ?_
    refine then_normal ?_
    exact hC (IntKind.i64.wrap (z4_4 + 1)) _ _ (R.weak ⟨rfl, rfl, rfl, trivial⟩) (by rw [← hK4] at h; exact h)
  ·refine wp_condF R (congrArg (fun b => some (Value.bool b)) g9) ?_
   refine wp_exit ?_
   refine then_exit ?_
   refine then_exit ?_
   refine block_eq ?_
   refine then_normal ?_
   exact ⟨R.weak trivial, h⟩
 ·rintro a w ⟨R, h⟩
  unfold levyroom_Room_holdChecks.k3 at h
  refine wp_seq ?_
  refine wp_region_lit ?_
  refine oas R rfl rfl fun a R => ?_
  refine wpList_nil ?_
  refine then_normal ?_
  refine wp_ret ?_
  exact post_ret R rfl rfl ⟨true, rfl, h⟩
theorem s_levyroom_Room_holdChecks (x0 : Option Addr) (Q : Bool → World → Prop) (w : World) (h : levyroom_Room_holdChecks x0 Q w) :
    Calls Try.prog 58 #[.pointer x0] w (Rets fun v w => ∃ r0 : Bool, v = (.bool r0 : Value) ∧ Q r0 w) :=
  calls_body (args := [.pointer x0]) Try.func58 rfl rfl (Nat.le_of_ble_eq_true rfl) (L := [(0, .pointer x0)]) (by simp [starts]) (b_levyroom_Room_holdChecks x0 Q w h rfl)

/-! (levyroom.Room).holdOptions -/

def levyroom_Room_holdOptions.k3  (Q : Bool → World → Prop) (w : World) : Prop :=
  Q true w

def levyroom_Room_holdOptions.k10 (x0 : Option Addr) (x11_1 : Addr) (z4_4 : Int) (K4 : Int → World → Prop) (Q : Bool → World → Prop) (w : World) : Prop :=
  K4 (IntKind.i64.wrap (z4_4 + 1)) w

def levyroom_Room_holdOptions.k41 (x0 : Option Addr) (x11_1 : Addr) (z4_4 : Int) (x27_16 : Sl) (z18_6 : Int) (K18 : Int → World → Prop) (y41_61 : Bool) (Q : Bool → World → Prop) (w : World) : Prop :=
  (if y41_61 = true then Q false w else K18 (IntKind.i64.wrap (z18_6 + 1)) w)

def levyroom_Room_holdOptions.l18 (x0 : Option Addr) (x11_1 : Addr) (z4_4 : Int) (K4 : Int → World → Prop) (x27_16 : Sl) (z18_6 : Int) (Q : Bool → World → Prop) (K18 : Int → World → Prop) (w : World) : Prop :=
  (if (decide (z18_6 < 40)) = true then nn x0 fun x34_21 => ld Sl.val w (x34_21.add 18) fun x36_22 => ix x36_22.p x36_22.len z4_4 1 fun x38_24 => ld Sl.val w x38_24 fun x39_25 => ix x39_25.p x39_25.len (IntKind.i64.wrap ((IntKind.i64.wrap (((x27_16.len : Nat) : Int) - 40)) + z18_6)) 2 fun x44_29 => ld Value.string w (x44_29.add 0) fun x45_30_0 => ld Sl.val w (x44_29.add 1) fun x45_30_1 => al w (.cells #[.string ⟨#[]⟩, .slice none 0 0] 155) fun x7_31 w => stN w x7_31 [.string x45_30_0, Sl.val x45_30_1] fun w => ix (some x11_1) 2 (Int.tmod z18_6 2) 2 fun x49_36 => ld Value.string w (x49_36.add 0) fun x50_37_0 => ld Sl.val w (x49_36.add 1) fun x50_37_1 => al w (.cells #[.string ⟨#[]⟩, .slice none 0 0] 155) fun x8_38 w => stN w x8_38 [.string x50_37_0, Sl.val x50_37_1] fun w => ld Value.string w (x7_31.add 0) fun x52_44 => ld Value.string w (x8_38.add 0) fun x54_45 => (if (sEq x52_44 x54_45) = true then ld Sl.val w (x7_31.add 1) fun x58_47 => levyroom_Room_holdOptions.k41 x0 x11_1 z4_4 x27_16 z18_6 K18 (((x58_47.len : Nat) : Int) != 0) Q w else levyroom_Room_holdOptions.k41 x0 x11_1 z4_4 x27_16 z18_6 K18 true Q w) else levyroom_Room_holdOptions.k10 x0 x11_1 z4_4 K4 Q w)

def levyroom_Room_holdOptions.l4 (x0 : Option Addr) (x11_1 : Addr) (z4_4 : Int) (Q : Bool → World → Prop) (K4 : Int → World → Prop) (w : World) : Prop :=
  nn x0 fun x14_5 => ld Sl.val w (x14_5.add 18) fun x16_6 => (if (decide (z4_4 < ((x16_6.len : Nat) : Int))) = true then nn x0 fun x22_12 => ld Sl.val w (x22_12.add 18) fun x24_13 => ix x24_13.p x24_13.len z4_4 1 fun x26_15 => ld Sl.val w x26_15 fun x27_16 => (Fix (σ := Int) (fun Ks s w => levyroom_Room_holdOptions.l18 x0 x11_1 z4_4 K4 x27_16 s Q (fun z18_6 w => Ks z18_6 w) w) 0 w) else levyroom_Room_holdOptions.k3  Q w)

def levyroom_Room_holdOptions (x0 : Option Addr) (Q : Bool → World → Prop) (w : World) : Prop :=
  al w (.cells #[.string ⟨#[60, 111, 110, 101, 62]⟩, .slice none 0 0, .string ⟨#[60, 116, 119, 111, 62]⟩, .slice none 0 0] 155) fun x11_1 w => (Fix (σ := Int) (fun Ks s w => levyroom_Room_holdOptions.l4 x0 x11_1 s Q (fun z4_4 w => Ks z4_4 w) w) 0 w)

theorem b_levyroom_Room_holdOptions (x0 : Option Addr) (Q : Bool → World → Prop) (w : World) (h : levyroom_Room_holdOptions x0 Q w) {c : Code} (hb : Try.f59.body = some c) :
 ∀ a, Rep a 62 [(0, .pointer x0)] [] → c.wp Try.prog (bodyPost Try.prog Try.f59 (Rets fun v w => ∃ r0 : Bool, v = (.bool r0 : Value) ∧ Q r0 w)) a w := by
 intro a R
 obtain rfl := Option.some.inj hb
 unfold levyroom_Room_holdOptions at h
 refine wp_seq ?_
 refine wp_region_lit ?_
 refine oas R rfl rfl fun a R => ?_
 refine wpList_nil ?_
 refine then_normal ?_
 refine wp_seq ?_
 refine wp_region_lit ?_
 refine op_val R (rn_build (r := .agg #[.string ⟨#[60, 111, 110, 101, 62]⟩, .slice none 0 0]) R rfl (fun w => by kernel_rfl)) rfl fun a R => ?_
 refine op_val R (rn_build (r := .agg #[.string ⟨#[60, 116, 119, 111, 62]⟩, .slice none 0 0]) R rfl (fun w => by kernel_rfl)) rfl fun a R => ?_
 obtain ⟨x11_1, e2, h⟩ := al_e h
 refine op_val (v := .slice (some x11_1) 2 2) R (by rw [e2]; exact rn_buildSlice (t := 156) (len := 2) (xs := [(0, (.tmp 9)), (1, (.tmp 10))]) (cells := #[.string ⟨#[60, 111, 110, 101, 62]⟩, .slice none 0 0, .string ⟨#[60, 116, 119, 111, 62]⟩, .slice none 0 0]) (e := 155) R rfl (fun w => by kernel_rfl)) rfl fun a R => ?_
 refine oas R rfl rfl fun a R => ?_
 refine wpList_nil ?_
 refine then_normal ?_
 refine seq_join (fun a w => Rep a 62 [] [] ∧ levyroom_Room_holdOptions.k3  Q w) ?_ ?_
 ·refine wp_seq ?_
  refine wp_region_lit ?_
  refine oas R rfl rfl fun a R => ?_
  refine wpList_nil ?_
  refine then_normal ?_
  refine wp_block ?_
  refine wp_fix (σ := Int) (fun s a => Rep a 62 [(0, .pointer x0), (3, .slice (some x11_1) 2 2), (4, .int .i64 s)] []) h (R.weak ⟨rfl, rfl, rfl, trivial⟩) ?_
  rintro Ks C z4_4 a w hC R h
  have R : Rep a 62 [(0, .pointer x0), (3, .slice (some x11_1) 2 2), (4, .int .i64 z4_4)] [] := R
  have h : levyroom_Room_holdOptions.l4 x0 x11_1 z4_4 Q (fun z4_4 w => Ks z4_4 w) w := h
  generalize hK4 : (fun z4_4 w => Ks z4_4 w) = K4 at h
  unfold levyroom_Room_holdOptions.l4 at h
  refine wp_seq ?_
  refine wp_seq ?_
  refine wp_region_lit ?_
  refine omv R rfl rfl fun a R => ?_
  refine omv R rfl rfl fun a R => ?_
  obtain ⟨x14_5, cx14_5, h⟩ := h
  refine onl R rfl cx14_5 rfl fun a R => ?_
  refine ofd R rfl fd65_18 rfl fun a R => ?_
  obtain ⟨x16_6, cx16_6, h⟩ := h
  refine old R rfl Try.underlying61 rfl cx16_6 rfl fun a R => ?_
  refine op_val R (rn_len R rfl Try.underlying61) rfl fun a R => ?_
  refine op_val R (rn_bin (v := .bool (decide (z4_4 < ((x16_6.len : Nat) : Int)))) R rfl rfl rfl) rfl fun a R => ?_
  refine wpList_nil ?_
  refine then_normal ?_
  rcases ite_cases h with ⟨g9, h⟩ | ⟨g9, h⟩
  ·refine wp_condT R (congrArg (fun b => some (Value.bool b)) g9) ?_
   refine wp_skip ?_
   refine then_normal ?_
   refine seq_join (fun a w => Rep a 62 [(0, .pointer x0), (3, .slice (some x11_1) 2 2), (4, .int .i64 z4_4)] [] ∧ levyroom_Room_holdOptions.k10 x0 x11_1 z4_4 K4 Q w) ?_ ?_
   ·refine wp_block ?_
    refine wp_seq ?_
    refine wp_region_lit ?_
    refine omv R rfl rfl fun a R => ?_
    obtain ⟨x22_12, cx22_12, h⟩ := h
    refine onl R rfl cx22_12 rfl fun a R => ?_
    refine ofd R rfl fd65_18 rfl fun a R => ?_
    obtain ⟨x24_13, cx24_13, h⟩ := h
    refine old R rfl Try.underlying61 rfl cx24_13 rfl fun a R => ?_
    refine omv R rfl rfl fun a R => ?_
    obtain ⟨b14, x26_15, p14, i14, j14, e14, h⟩ := ix_e h
    refine op_val (v := .pointer (some x26_15)) R (by rw [e14]; exact rn_ixs (x := (.tmp 24)) (y := (.tmp 25)) R rfl p14 rfl Try.underlying61 sz156 i14 j14) rfl fun a R => ?_
    obtain ⟨x27_16, cx27_16, h⟩ := h
    refine old R rfl Try.underlying156 rfl cx27_16 rfl fun a R => ?_
    refine op_val R (rn_len R rfl Try.underlying156) rfl fun a R => ?_
    refine oas R rfl rfl fun a R => ?_
    refine wpList_nil ?_
    refine then_normal ?_
    refine wp_seq ?_
    refine wp_region_lit ?_
    refine oas R rfl rfl fun a R => ?_
    refine wpList_nil ?_
    refine then_normal ?_
    refine wp_block ?_
    refine wp_fix (σ := Int) (fun s a => Rep a 62 [(0, .pointer x0), (3, .slice (some x11_1) 2 2), (4, .int .i64 z4_4), (5, .int .i64 ((x27_16.len : Nat) : Int)), (6, .int .i64 s)] []) h (R.weak ⟨rfl, rfl, rfl, rfl, rfl, trivial⟩) ?_
    rintro Ks C z18_6 a w hC R h
    have R : Rep a 62 [(0, .pointer x0), (3, .slice (some x11_1) 2 2), (4, .int .i64 z4_4), (5, .int .i64 ((x27_16.len : Nat) : Int)), (6, .int .i64 z18_6)] [] := R
    have h : levyroom_Room_holdOptions.l18 x0 x11_1 z4_4 K4 x27_16 z18_6 Q (fun z18_6 w => Ks z18_6 w) w := h
    generalize hK18 : (fun z18_6 w => Ks z18_6 w) = K18 at h
    unfold levyroom_Room_holdOptions.l18 at h
    refine wp_seq ?_
    refine wp_seq ?_
    refine wp_region_lit ?_
    refine omv R rfl rfl fun a R => ?_
    refine op_val R (rn_bin (v := .bool (decide (z18_6 < 40))) R rfl rfl rfl) rfl fun a R => ?_
    refine wpList_nil ?_
    refine then_normal ?_
    rcases ite_cases h with ⟨g20, h⟩ | ⟨g20, h⟩
    ·refine wp_condT R (congrArg (fun b => some (Value.bool b)) g20) ?_
     refine wp_skip ?_
     refine then_normal ?_
     refine wp_seq ?_
     refine wp_block ?_
     refine wp_seq ?_
     refine wp_region_lit ?_
     refine omv R rfl rfl fun a R => ?_
     obtain ⟨x34_21, cx34_21, h⟩ := h
     refine onl R rfl cx34_21 rfl fun a R => ?_
     refine ofd R rfl fd65_18 rfl fun a R => ?_
     obtain ⟨x36_22, cx36_22, h⟩ := h
     refine old R rfl Try.underlying61 rfl cx36_22 rfl fun a R => ?_
     refine omv R rfl rfl fun a R => ?_
     obtain ⟨b23, x38_24, p23, i23, j23, e23, h⟩ := ix_e h
     refine op_val (v := .pointer (some x38_24)) R (by rw [e23]; exact rn_ixs (x := (.tmp 36)) (y := (.tmp 37)) R rfl p23 rfl Try.underlying61 sz156 i23 j23) rfl fun a R => ?_
     obtain ⟨x39_25, cx39_25, h⟩ := h
     refine old R rfl Try.underlying156 rfl cx39_25 rfl fun a R => ?_
     refine omv R rfl rfl fun a R => ?_
     refine op_val R (rn_bin (v := .int .i64 (IntKind.i64.wrap (((x27_16.len : Nat) : Int) - 40))) R rfl rfl rfl) rfl fun a R => ?_
     refine omv R rfl rfl fun a R => ?_
     refine op_val R (rn_bin (v := .int .i64 (IntKind.i64.wrap ((IntKind.i64.wrap (((x27_16.len : Nat) : Int) - 40)) + z18_6))) R rfl rfl rfl) rfl fun a R => ?_
     obtain ⟨b28, x44_29, p28, i28, j28, e28, h⟩ := ix_e h
     refine op_val (v := .pointer (some x44_29)) R (by rw [e28]; exact rn_ixs (x := (.tmp 39)) (y := (.tmp 43)) R rfl p28 rfl Try.underlying156 sz155 i28 j28) rfl fun a R => ?_
     obtain ⟨x45_30_0, cx45_30_0, x45_30_1, cx45_30_1, h⟩ := h
     refine op_val R (rn_ldN (cs := [.string x45_30_0, Sl.val x45_30_1]) R rfl Try.underlying155 rfl sz155 ⟨cx45_30_0, cx45_30_1, trivial⟩) rfl fun a R => ?_
     obtain ⟨x7_31, e32, h⟩ := al_e h
     refine op_val (v := .pointer (some x7_31)) R (by rw [e32]; exact rn_al R ze155) rfl fun a R => ?_
     obtain ⟨q33, h⟩ := h
     refine op_unit R (rn_stN (vs := [.string x45_30_0, Sl.val x45_30_1]) R rfl rfl (ao ⟨rfl, rfl, trivial⟩) sz155 q33) fun a R => ?_
     refine wpList_nil ?_
     refine then_normal ?_
     refine wp_seq ?_
     refine wp_region_lit ?_
     refine omv R rfl rfl fun a R => ?_
     refine omv R rfl rfl fun a R => ?_
     refine op_val R (rn_bin (v := .int .i64 (Int.tmod z18_6 2)) R rfl rfl rfl) rfl fun a R => ?_
     obtain ⟨b35, x49_36, p35, i35, j35, e35, h⟩ := ix_e h
     refine op_val (v := .pointer (some x49_36)) R (by rw [e35]; exact rn_ixs (x := (.tmp 46)) (y := (.tmp 48)) R rfl p35 rfl Try.underlying156 sz155 i35 j35) rfl fun a R => ?_
     obtain ⟨x50_37_0, cx50_37_0, x50_37_1, cx50_37_1, h⟩ := h
     refine op_val R (rn_ldN (cs := [.string x50_37_0, Sl.val x50_37_1]) R rfl Try.underlying155 rfl sz155 ⟨cx50_37_0, cx50_37_1, trivial⟩) rfl fun a R => ?_
     obtain ⟨x8_38, e39, h⟩ := al_e h
     refine op_val (v := .pointer (some x8_38)) R (by rw [e39]; exact rn_al R ze155) rfl fun a R => ?_
     obtain ⟨q40, h⟩ := h
     refine op_unit R (rn_stN (vs := [.string x50_37_0, Sl.val x50_37_1]) R rfl rfl (ao ⟨rfl, rfl, trivial⟩) sz155 q40) fun a R => ?_
     refine wpList_nil ?_
     refine then_normal ?_
     refine seq_join (fun a w => ∃ y41_61 : Bool, Rep a 62 [(0, .pointer x0), (3, .slice (some x11_1) 2 2), (4, .int .i64 z4_4), (5, .int .i64 ((x27_16.len : Nat) : Int)), (6, .int .i64 z18_6), (61, .bool y41_61)] [] ∧ levyroom_Room_holdOptions.k41 x0 x11_1 z4_4 x27_16 z18_6 K18 y41_61 Q w) ?_ ?_
     ·refine wp_region_lit ?_
      refine ofd R rfl fd155_0 rfl fun a R => ?_
      obtain ⟨x52_44, cx52_44, h⟩ := h
      refine old R rfl Try.underlying9 rfl cx52_44 rfl fun a R => ?_
      refine ofd R rfl fd155_0 rfl fun a R => ?_
      obtain ⟨x54_45, cx54_45, h⟩ := h
      refine old R rfl Try.underlying9 rfl cx54_45 rfl fun a R => ?_
      refine op_val R (rn_binS (v := .bool (!(sEq x52_44 x54_45))) R rfl rfl rfl) rfl fun a R => ?_
      refine omv R rfl rfl fun a R => ?_
      rcases ite_cases h with ⟨g46, h⟩ | ⟨g46, h⟩
      ·refine op_guard R rfl rfl rfl (nf g46) ?_
       refine ofd R rfl fd155_1 rfl fun a R => ?_
       refine op_guard R rfl rfl rfl (nf g46) ?_
       obtain ⟨x58_47, cx58_47, h⟩ := h
       refine old R rfl Try.underlying91 rfl cx58_47 rfl fun a R => ?_
       refine op_guard R rfl rfl rfl (nf g46) ?_
       refine op_val R (rn_len R rfl Try.underlying91) rfl fun a R => ?_
       refine op_guard R rfl rfl rfl (nf g46) ?_
       refine op_val R (rn_bin (v := .bool (((x58_47.len : Nat) : Int) != 0)) R rfl rfl rfl) rfl fun a R => ?_
       refine op_val R (rn_pickF R rfl (nf g46) rfl) rfl fun a R => ?_
       refine wpList_nil ?_
       refine then_normal ?_
       exact ⟨(((x58_47.len : Nat) : Int) != 0), R.weak ⟨rfl, rfl, rfl, rfl, rfl, rfl, trivial⟩, h⟩
      ·refine op_pass R rfl rfl rfl (nft (nt g46)) (fun a R => ?_) (by intro s hs; cases hs; rfl)
       refine op_pass R rfl rfl rfl (nft (nt g46)) (fun a R => ?_) (by intro s hs; cases hs; rfl)
       refine op_pass R rfl rfl rfl (nft (nt g46)) (fun a R => ?_) (by intro s hs; cases hs; rfl)
       refine op_pass R rfl rfl rfl (nft (nt g46)) (fun a R => ?_) (by intro s hs; cases hs; rfl)
       refine op_val R (rn_pickT R rfl (nt g46) rfl) rfl fun a R => ?_
       refine wpList_nil ?_
       refine then_normal ?_
       exact ⟨true, R.weak ⟨rfl, rfl, rfl, rfl, rfl, rfl, trivial⟩, h⟩
     ·rintro a w ⟨y41_61, R, h⟩
      unfold levyroom_Room_holdOptions.k41 at h
      rcases ite_cases h with ⟨g42, h⟩ | ⟨g42, h⟩
      ·refine wp_condT R (congrArg (fun b => some (Value.bool b)) g42) ?_
       refine wp_seq ?_
       refine wp_region_lit ?_
       refine oas R rfl rfl fun a R => ?_
       refine wpList_nil ?_
       refine then_normal ?_
       refine wp_ret ?_
       refine block_ret ?_
       refine then_ret ?_
       refine then_ret ?_
       refine block_ret ?_
       refine block_ret ?_
       refine then_ret ?_
       refine then_ret ?_
       refine block_ret ?_
       refine then_ret ?_
       exact post_ret R rfl rfl ⟨false, rfl, h⟩
      ·refine wp_condF R (congrArg (fun b => some (Value.bool b)) g42) ?_
       refine wp_skip ?_
       refine block_normal ?_
       refine then_normal ?_
       refine wp_region_lit ?_
       refine omv R rfl rfl fun a R => ?_
       refine op_val R (rn_bin (v := .int .i64 (IntKind.i64.wrap (z18_6 + 1))) R rfl rfl rfl) rfl fun a R => ?_
       refine oas R rfl rfl fun a R => ?_
       refine wpList_nil ?_
       refine then_normal ?_
       exact hC (IntKind.i64.wrap (z18_6 + 1)) _ _ (R.weak ⟨rfl, rfl, rfl, rfl, rfl, trivial⟩) (by rw [← hK18] at h; exact h)
    ·refine wp_condF R (congrArg (fun b => some (Value.bool b)) g20) ?_
     refine wp_exit ?_
     refine then_exit ?_
     refine then_exit ?_
     refine block_eq ?_
     refine block_normal ?_
     refine then_normal ?_
     exact ⟨R.weak ⟨rfl, rfl, rfl, trivial⟩, h⟩
   ·rintro a w ⟨R, h⟩
    unfold levyroom_Room_holdOptions.k10 at h
    refine wp_region_lit ?_
    refine omv R rfl rfl fun a R => ?_
    refine op_val R (rn_bin (v := .int .i64 (IntKind.i64.wrap (z4_4 + 1))) R rfl rfl rfl) rfl fun a R => ?_
    refine oas R rfl rfl fun a R => ?_
    refine wpList_nil ?_
    refine then_normal ?_
    exact hC (IntKind.i64.wrap (z4_4 + 1)) _ _ (R.weak ⟨rfl, rfl, rfl, trivial⟩) (by rw [← hK4] at h; exact h)
  ·refine wp_condF R (congrArg (fun b => some (Value.bool b)) g9) ?_
   refine wp_exit ?_
   refine then_exit ?_
   refine then_exit ?_
   refine block_eq ?_
   refine then_normal ?_
   exact ⟨R.weak trivial, h⟩
 ·rintro a w ⟨R, h⟩
  unfold levyroom_Room_holdOptions.k3 at h
  refine wp_seq ?_
  refine wp_region_lit ?_
  refine oas R rfl rfl fun a R => ?_
  refine wpList_nil ?_
  refine then_normal ?_
  refine wp_ret ?_
  exact post_ret R rfl rfl ⟨true, rfl, h⟩
theorem s_levyroom_Room_holdOptions (x0 : Option Addr) (Q : Bool → World → Prop) (w : World) (h : levyroom_Room_holdOptions x0 Q w) :
    Calls Try.prog 59 #[.pointer x0] w (Rets fun v w => ∃ r0 : Bool, v = (.bool r0 : Value) ∧ Q r0 w) :=
  calls_body (args := [.pointer x0]) Try.func59 rfl rfl (Nat.le_of_ble_eq_true rfl) (L := [(0, .pointer x0)]) (by simp [starts]) (b_levyroom_Room_holdOptions x0 Q w h rfl)

/-! (levyroom.Room).holdTables -/

def levyroom_Room_holdTables.k3  (Q : Bool → World → Prop) (w : World) : Prop :=
  Q true w

def levyroom_Room_holdTables.k10 (x0 : Option Addr) (x11_1 : Addr) (z4_4 : Int) (K4 : Int → World → Prop) (Q : Bool → World → Prop) (w : World) : Prop :=
  K4 (IntKind.i64.wrap (z4_4 + 1)) w

def levyroom_Room_holdTables.k41 (x0 : Option Addr) (x11_1 : Addr) (z4_4 : Int) (x27_16 : Sl) (z18_6 : Int) (K18 : Int → World → Prop) (y41_61 : Bool) (Q : Bool → World → Prop) (w : World) : Prop :=
  (if y41_61 = true then Q false w else K18 (IntKind.i64.wrap (z18_6 + 1)) w)

def levyroom_Room_holdTables.l18 (x0 : Option Addr) (x11_1 : Addr) (z4_4 : Int) (K4 : Int → World → Prop) (x27_16 : Sl) (z18_6 : Int) (Q : Bool → World → Prop) (K18 : Int → World → Prop) (w : World) : Prop :=
  (if (decide (z18_6 < 40)) = true then nn x0 fun x34_21 => ld Sl.val w (x34_21.add 19) fun x36_22 => ix x36_22.p x36_22.len z4_4 1 fun x38_24 => ld Sl.val w x38_24 fun x39_25 => ix x39_25.p x39_25.len (IntKind.i64.wrap ((IntKind.i64.wrap (((x27_16.len : Nat) : Int) - 40)) + z18_6)) 2 fun x44_29 => ld Value.string w (x44_29.add 0) fun x45_30_0 => ld Sl.val w (x44_29.add 1) fun x45_30_1 => al w (.cells #[.string ⟨#[]⟩, .slice none 0 0] 158) fun x7_31 w => stN w x7_31 [.string x45_30_0, Sl.val x45_30_1] fun w => ix (some x11_1) 2 (Int.tmod z18_6 2) 2 fun x49_36 => ld Value.string w (x49_36.add 0) fun x50_37_0 => ld Sl.val w (x49_36.add 1) fun x50_37_1 => al w (.cells #[.string ⟨#[]⟩, .slice none 0 0] 158) fun x8_38 w => stN w x8_38 [.string x50_37_0, Sl.val x50_37_1] fun w => ld Value.string w (x7_31.add 0) fun x52_44 => ld Value.string w (x8_38.add 0) fun x54_45 => (if (sEq x52_44 x54_45) = true then ld Sl.val w (x7_31.add 1) fun x58_47 => levyroom_Room_holdTables.k41 x0 x11_1 z4_4 x27_16 z18_6 K18 (((x58_47.len : Nat) : Int) != 0) Q w else levyroom_Room_holdTables.k41 x0 x11_1 z4_4 x27_16 z18_6 K18 true Q w) else levyroom_Room_holdTables.k10 x0 x11_1 z4_4 K4 Q w)

def levyroom_Room_holdTables.l4 (x0 : Option Addr) (x11_1 : Addr) (z4_4 : Int) (Q : Bool → World → Prop) (K4 : Int → World → Prop) (w : World) : Prop :=
  nn x0 fun x14_5 => ld Sl.val w (x14_5.add 19) fun x16_6 => (if (decide (z4_4 < ((x16_6.len : Nat) : Int))) = true then nn x0 fun x22_12 => ld Sl.val w (x22_12.add 19) fun x24_13 => ix x24_13.p x24_13.len z4_4 1 fun x26_15 => ld Sl.val w x26_15 fun x27_16 => (Fix (σ := Int) (fun Ks s w => levyroom_Room_holdTables.l18 x0 x11_1 z4_4 K4 x27_16 s Q (fun z18_6 w => Ks z18_6 w) w) 0 w) else levyroom_Room_holdTables.k3  Q w)

def levyroom_Room_holdTables (x0 : Option Addr) (Q : Bool → World → Prop) (w : World) : Prop :=
  al w (.cells #[.string ⟨#[60, 111, 110, 101, 62]⟩, .slice none 0 0, .string ⟨#[60, 116, 119, 111, 62]⟩, .slice none 0 0] 158) fun x11_1 w => (Fix (σ := Int) (fun Ks s w => levyroom_Room_holdTables.l4 x0 x11_1 s Q (fun z4_4 w => Ks z4_4 w) w) 0 w)

theorem b_levyroom_Room_holdTables (x0 : Option Addr) (Q : Bool → World → Prop) (w : World) (h : levyroom_Room_holdTables x0 Q w) {c : Code} (hb : Try.f60.body = some c) :
 ∀ a, Rep a 62 [(0, .pointer x0)] [] → c.wp Try.prog (bodyPost Try.prog Try.f60 (Rets fun v w => ∃ r0 : Bool, v = (.bool r0 : Value) ∧ Q r0 w)) a w := by
 intro a R
 obtain rfl := Option.some.inj hb
 unfold levyroom_Room_holdTables at h
 refine wp_seq ?_
 refine wp_region_lit ?_
 refine oas R rfl rfl fun a R => ?_
 refine wpList_nil ?_
 refine then_normal ?_
 refine wp_seq ?_
 refine wp_region_lit ?_
 refine op_val R (rn_build (r := .agg #[.string ⟨#[60, 111, 110, 101, 62]⟩, .slice none 0 0]) R rfl (fun w => by kernel_rfl)) rfl fun a R => ?_
 refine op_val R (rn_build (r := .agg #[.string ⟨#[60, 116, 119, 111, 62]⟩, .slice none 0 0]) R rfl (fun w => by kernel_rfl)) rfl fun a R => ?_
 obtain ⟨x11_1, e2, h⟩ := al_e h
 refine op_val (v := .slice (some x11_1) 2 2) R (by rw [e2]; exact rn_buildSlice (t := 159) (len := 2) (xs := [(0, (.tmp 9)), (1, (.tmp 10))]) (cells := #[.string ⟨#[60, 111, 110, 101, 62]⟩, .slice none 0 0, .string ⟨#[60, 116, 119, 111, 62]⟩, .slice none 0 0]) (e := 158) R rfl (fun w => by kernel_rfl)) rfl fun a R => ?_
 refine oas R rfl rfl fun a R => ?_
 refine wpList_nil ?_
 refine then_normal ?_
 refine seq_join (fun a w => Rep a 62 [] [] ∧ levyroom_Room_holdTables.k3  Q w) ?_ ?_
 ·refine wp_seq ?_
  refine wp_region_lit ?_
  refine oas R rfl rfl fun a R => ?_
  refine wpList_nil ?_
  refine then_normal ?_
  refine wp_block ?_
  refine wp_fix (σ := Int) (fun s a => Rep a 62 [(0, .pointer x0), (3, .slice (some x11_1) 2 2), (4, .int .i64 s)] []) h (R.weak ⟨rfl, rfl, rfl, trivial⟩) ?_
  rintro Ks C z4_4 a w hC R h
  have R : Rep a 62 [(0, .pointer x0), (3, .slice (some x11_1) 2 2), (4, .int .i64 z4_4)] [] := R
  have h : levyroom_Room_holdTables.l4 x0 x11_1 z4_4 Q (fun z4_4 w => Ks z4_4 w) w := h
  generalize hK4 : (fun z4_4 w => Ks z4_4 w) = K4 at h
  unfold levyroom_Room_holdTables.l4 at h
  refine wp_seq ?_
  refine wp_seq ?_
  refine wp_region_lit ?_
  refine omv R rfl rfl fun a R => ?_
  refine omv R rfl rfl fun a R => ?_
  obtain ⟨x14_5, cx14_5, h⟩ := h
  refine onl R rfl cx14_5 rfl fun a R => ?_
  refine ofd R rfl fd65_19 rfl fun a R => ?_
  obtain ⟨x16_6, cx16_6, h⟩ := h
  refine old R rfl Try.underlying62 rfl cx16_6 rfl fun a R => ?_
  refine op_val R (rn_len R rfl Try.underlying62) rfl fun a R => ?_
  refine op_val R (rn_bin (v := .bool (decide (z4_4 < ((x16_6.len : Nat) : Int)))) R rfl rfl rfl) rfl fun a R => ?_
  refine wpList_nil ?_
  refine then_normal ?_
  rcases ite_cases h with ⟨g9, h⟩ | ⟨g9, h⟩
  ·refine wp_condT R (congrArg (fun b => some (Value.bool b)) g9) ?_
   refine wp_skip ?_
   refine then_normal ?_
   refine seq_join (fun a w => Rep a 62 [(0, .pointer x0), (3, .slice (some x11_1) 2 2), (4, .int .i64 z4_4)] [] ∧ levyroom_Room_holdTables.k10 x0 x11_1 z4_4 K4 Q w) ?_ ?_
   ·refine wp_block ?_
    refine wp_seq ?_
    refine wp_region_lit ?_
    refine omv R rfl rfl fun a R => ?_
    obtain ⟨x22_12, cx22_12, h⟩ := h
    refine onl R rfl cx22_12 rfl fun a R => ?_
    refine ofd R rfl fd65_19 rfl fun a R => ?_
    obtain ⟨x24_13, cx24_13, h⟩ := h
    refine old R rfl Try.underlying62 rfl cx24_13 rfl fun a R => ?_
    refine omv R rfl rfl fun a R => ?_
    obtain ⟨b14, x26_15, p14, i14, j14, e14, h⟩ := ix_e h
    refine op_val (v := .pointer (some x26_15)) R (by rw [e14]; exact rn_ixs (x := (.tmp 24)) (y := (.tmp 25)) R rfl p14 rfl Try.underlying62 sz159 i14 j14) rfl fun a R => ?_
    obtain ⟨x27_16, cx27_16, h⟩ := h
    refine old R rfl Try.underlying159 rfl cx27_16 rfl fun a R => ?_
    refine op_val R (rn_len R rfl Try.underlying159) rfl fun a R => ?_
    refine oas R rfl rfl fun a R => ?_
    refine wpList_nil ?_
    refine then_normal ?_
    refine wp_seq ?_
    refine wp_region_lit ?_
    refine oas R rfl rfl fun a R => ?_
    refine wpList_nil ?_
    refine then_normal ?_
    refine wp_block ?_
    refine wp_fix (σ := Int) (fun s a => Rep a 62 [(0, .pointer x0), (3, .slice (some x11_1) 2 2), (4, .int .i64 z4_4), (5, .int .i64 ((x27_16.len : Nat) : Int)), (6, .int .i64 s)] []) h (R.weak ⟨rfl, rfl, rfl, rfl, rfl, trivial⟩) ?_
    rintro Ks C z18_6 a w hC R h
    have R : Rep a 62 [(0, .pointer x0), (3, .slice (some x11_1) 2 2), (4, .int .i64 z4_4), (5, .int .i64 ((x27_16.len : Nat) : Int)), (6, .int .i64 z18_6)] [] := R
    have h : levyroom_Room_holdTables.l18 x0 x11_1 z4_4 K4 x27_16 z18_6 Q (fun z18_6 w => Ks z18_6 w) w := h
    generalize hK18 : (fun z18_6 w => Ks z18_6 w) = K18 at h
    unfold levyroom_Room_holdTables.l18 at h
    refine wp_seq ?_
    refine wp_seq ?_
    refine wp_region_lit ?_
    refine omv R rfl rfl fun a R => ?_
    refine op_val R (rn_bin (v := .bool (decide (z18_6 < 40))) R rfl rfl rfl) rfl fun a R => ?_
    refine wpList_nil ?_
    refine then_normal ?_
    rcases ite_cases h with ⟨g20, h⟩ | ⟨g20, h⟩
    ·refine wp_condT R (congrArg (fun b => some (Value.bool b)) g20) ?_
     refine wp_skip ?_
     refine then_normal ?_
     refine wp_seq ?_
     refine wp_block ?_
     refine wp_seq ?_
     refine wp_region_lit ?_
     refine omv R rfl rfl fun a R => ?_
     obtain ⟨x34_21, cx34_21, h⟩ := h
     refine onl R rfl cx34_21 rfl fun a R => ?_
     refine ofd R rfl fd65_19 rfl fun a R => ?_
     obtain ⟨x36_22, cx36_22, h⟩ := h
     refine old R rfl Try.underlying62 rfl cx36_22 rfl fun a R => ?_
     refine omv R rfl rfl fun a R => ?_
     obtain ⟨b23, x38_24, p23, i23, j23, e23, h⟩ := ix_e h
     refine op_val (v := .pointer (some x38_24)) R (by rw [e23]; exact rn_ixs (x := (.tmp 36)) (y := (.tmp 37)) R rfl p23 rfl Try.underlying62 sz159 i23 j23) rfl fun a R => ?_
     obtain ⟨x39_25, cx39_25, h⟩ := h
     refine old R rfl Try.underlying159 rfl cx39_25 rfl fun a R => ?_
     refine omv R rfl rfl fun a R => ?_
     refine op_val R (rn_bin (v := .int .i64 (IntKind.i64.wrap (((x27_16.len : Nat) : Int) - 40))) R rfl rfl rfl) rfl fun a R => ?_
     refine omv R rfl rfl fun a R => ?_
     refine op_val R (rn_bin (v := .int .i64 (IntKind.i64.wrap ((IntKind.i64.wrap (((x27_16.len : Nat) : Int) - 40)) + z18_6))) R rfl rfl rfl) rfl fun a R => ?_
     obtain ⟨b28, x44_29, p28, i28, j28, e28, h⟩ := ix_e h
     refine op_val (v := .pointer (some x44_29)) R (by rw [e28]; exact rn_ixs (x := (.tmp 39)) (y := (.tmp 43)) R rfl p28 rfl Try.underlying159 sz158 i28 j28) rfl fun a R => ?_
     obtain ⟨x45_30_0, cx45_30_0, x45_30_1, cx45_30_1, h⟩ := h
     refine op_val R (rn_ldN (cs := [.string x45_30_0, Sl.val x45_30_1]) R rfl Try.underlying158 rfl sz158 ⟨cx45_30_0, cx45_30_1, trivial⟩) rfl fun a R => ?_
     obtain ⟨x7_31, e32, h⟩ := al_e h
     refine op_val (v := .pointer (some x7_31)) R (by rw [e32]; exact rn_al R ze158) rfl fun a R => ?_
     obtain ⟨q33, h⟩ := h
     refine op_unit R (rn_stN (vs := [.string x45_30_0, Sl.val x45_30_1]) R rfl rfl (ao ⟨rfl, rfl, trivial⟩) sz158 q33) fun a R => ?_
     refine wpList_nil ?_
     refine then_normal ?_
     refine wp_seq ?_
     refine wp_region_lit ?_
     refine omv R rfl rfl fun a R => ?_
     refine omv R rfl rfl fun a R => ?_
     refine op_val R (rn_bin (v := .int .i64 (Int.tmod z18_6 2)) R rfl rfl rfl) rfl fun a R => ?_
     obtain ⟨b35, x49_36, p35, i35, j35, e35, h⟩ := ix_e h
     refine op_val (v := .pointer (some x49_36)) R (by rw [e35]; exact rn_ixs (x := (.tmp 46)) (y := (.tmp 48)) R rfl p35 rfl Try.underlying159 sz158 i35 j35) rfl fun a R => ?_
     obtain ⟨x50_37_0, cx50_37_0, x50_37_1, cx50_37_1, h⟩ := h
     refine op_val R (rn_ldN (cs := [.string x50_37_0, Sl.val x50_37_1]) R rfl Try.underlying158 rfl sz158 ⟨cx50_37_0, cx50_37_1, trivial⟩) rfl fun a R => ?_
     obtain ⟨x8_38, e39, h⟩ := al_e h
     refine op_val (v := .pointer (some x8_38)) R (by rw [e39]; exact rn_al R ze158) rfl fun a R => ?_
     obtain ⟨q40, h⟩ := h
     refine op_unit R (rn_stN (vs := [.string x50_37_0, Sl.val x50_37_1]) R rfl rfl (ao ⟨rfl, rfl, trivial⟩) sz158 q40) fun a R => ?_
     refine wpList_nil ?_
     refine then_normal ?_
     refine seq_join (fun a w => ∃ y41_61 : Bool, Rep a 62 [(0, .pointer x0), (3, .slice (some x11_1) 2 2), (4, .int .i64 z4_4), (5, .int .i64 ((x27_16.len : Nat) : Int)), (6, .int .i64 z18_6), (61, .bool y41_61)] [] ∧ levyroom_Room_holdTables.k41 x0 x11_1 z4_4 x27_16 z18_6 K18 y41_61 Q w) ?_ ?_
     ·refine wp_region_lit ?_
      refine ofd R rfl fd158_0 rfl fun a R => ?_
      obtain ⟨x52_44, cx52_44, h⟩ := h
      refine old R rfl Try.underlying9 rfl cx52_44 rfl fun a R => ?_
      refine ofd R rfl fd158_0 rfl fun a R => ?_
      obtain ⟨x54_45, cx54_45, h⟩ := h
      refine old R rfl Try.underlying9 rfl cx54_45 rfl fun a R => ?_
      refine op_val R (rn_binS (v := .bool (!(sEq x52_44 x54_45))) R rfl rfl rfl) rfl fun a R => ?_
      refine omv R rfl rfl fun a R => ?_
      rcases ite_cases h with ⟨g46, h⟩ | ⟨g46, h⟩
      ·refine op_guard R rfl rfl rfl (nf g46) ?_
       refine ofd R rfl fd158_1 rfl fun a R => ?_
       refine op_guard R rfl rfl rfl (nf g46) ?_
       obtain ⟨x58_47, cx58_47, h⟩ := h
       refine old R rfl Try.underlying120 rfl cx58_47 rfl fun a R => ?_
       refine op_guard R rfl rfl rfl (nf g46) ?_
       refine op_val R (rn_len R rfl Try.underlying120) rfl fun a R => ?_
       refine op_guard R rfl rfl rfl (nf g46) ?_
       refine op_val R (rn_bin (v := .bool (((x58_47.len : Nat) : Int) != 0)) R rfl rfl rfl) rfl fun a R => ?_
       refine op_val R (rn_pickF R rfl (nf g46) rfl) rfl fun a R => ?_
       refine wpList_nil ?_
       refine then_normal ?_
       exact ⟨(((x58_47.len : Nat) : Int) != 0), R.weak ⟨rfl, rfl, rfl, rfl, rfl, rfl, trivial⟩, h⟩
      ·refine op_pass R rfl rfl rfl (nft (nt g46)) (fun a R => ?_) (by intro s hs; cases hs; rfl)
       refine op_pass R rfl rfl rfl (nft (nt g46)) (fun a R => ?_) (by intro s hs; cases hs; rfl)
       refine op_pass R rfl rfl rfl (nft (nt g46)) (fun a R => ?_) (by intro s hs; cases hs; rfl)
       refine op_pass R rfl rfl rfl (nft (nt g46)) (fun a R => ?_) (by intro s hs; cases hs; rfl)
       refine op_val R (rn_pickT R rfl (nt g46) rfl) rfl fun a R => ?_
       refine wpList_nil ?_
       refine then_normal ?_
       exact ⟨true, R.weak ⟨rfl, rfl, rfl, rfl, rfl, rfl, trivial⟩, h⟩
     ·rintro a w ⟨y41_61, R, h⟩
      unfold levyroom_Room_holdTables.k41 at h
      rcases ite_cases h with ⟨g42, h⟩ | ⟨g42, h⟩
      ·refine wp_condT R (congrArg (fun b => some (Value.bool b)) g42) ?_
       refine wp_seq ?_
       refine wp_region_lit ?_
       refine oas R rfl rfl fun a R => ?_
       refine wpList_nil ?_
       refine then_normal ?_
       refine wp_ret ?_
       refine block_ret ?_
       refine then_ret ?_
       refine then_ret ?_
       refine block_ret ?_
       refine block_ret ?_
       refine then_ret ?_
       refine then_ret ?_
       refine block_ret ?_
       refine then_ret ?_
       exact post_ret R rfl rfl ⟨false, rfl, h⟩
      ·refine wp_condF R (congrArg (fun b => some (Value.bool b)) g42) ?_
       refine wp_skip ?_
       refine block_normal ?_
       refine then_normal ?_
       refine wp_region_lit ?_
       refine omv R rfl rfl fun a R => ?_
       refine op_val R (rn_bin (v := .int .i64 (IntKind.i64.wrap (z18_6 + 1))) R rfl rfl rfl) rfl fun a R => ?_
       refine oas R rfl rfl fun a R => ?_
       refine wpList_nil ?_
       refine then_normal ?_
       exact hC (IntKind.i64.wrap (z18_6 + 1)) _ _ (R.weak ⟨rfl, rfl, rfl, rfl, rfl, trivial⟩) (by rw [← hK18] at h; exact h)
    ·refine wp_condF R (congrArg (fun b => some (Value.bool b)) g20) ?_
     refine wp_exit ?_
     refine then_exit ?_
     refine then_exit ?_
     refine block_eq ?_
     refine block_normal ?_
     refine then_normal ?_
     exact ⟨R.weak ⟨rfl, rfl, rfl, trivial⟩, h⟩
   ·rintro a w ⟨R, h⟩
    unfold levyroom_Room_holdTables.k10 at h
    refine wp_region_lit ?_
    refine omv R rfl rfl fun a R => ?_
    refine op_val R (rn_bin (v := .int .i64 (IntKind.i64.wrap (z4_4 + 1))) R rfl rfl rfl) rfl fun a R => ?_
    refine oas R rfl rfl fun a R => ?_
    refine wpList_nil ?_
    refine then_normal ?_
    exact hC (IntKind.i64.wrap (z4_4 + 1)) _ _ (R.weak ⟨rfl, rfl, rfl, trivial⟩) (by rw [← hK4] at h; exact h)
  ·refine wp_condF R (congrArg (fun b => some (Value.bool b)) g9) ?_
   refine wp_exit ?_
   refine then_exit ?_
   refine then_exit ?_
   refine block_eq ?_
   refine then_normal ?_
   exact ⟨R.weak trivial, h⟩
 ·rintro a w ⟨R, h⟩
  unfold levyroom_Room_holdTables.k3 at h
  refine wp_seq ?_
  refine wp_region_lit ?_
  refine oas R rfl rfl fun a R => ?_
  refine wpList_nil ?_
  refine then_normal ?_
  refine wp_ret ?_
  exact post_ret R rfl rfl ⟨true, rfl, h⟩
theorem s_levyroom_Room_holdTables (x0 : Option Addr) (Q : Bool → World → Prop) (w : World) (h : levyroom_Room_holdTables x0 Q w) :
    Calls Try.prog 60 #[.pointer x0] w (Rets fun v w => ∃ r0 : Bool, v = (.bool r0 : Value) ∧ Q r0 w) :=
  calls_body (args := [.pointer x0]) Try.func60 rfl rfl (Nat.le_of_ble_eq_true rfl) (L := [(0, .pointer x0)]) (by simp [starts]) (b_levyroom_Room_holdTables x0 Q w h rfl)

/-! (levyroom.Room).holdGroups -/

def levyroom_Room_holdGroups.k3  (Q : Bool → World → Prop) (w : World) : Prop :=
  Q true w

def levyroom_Room_holdGroups.k10 (x0 : Option Addr) (x11_1 : Addr) (z4_4 : Int) (K4 : Int → World → Prop) (Q : Bool → World → Prop) (w : World) : Prop :=
  K4 (IntKind.i64.wrap (z4_4 + 1)) w

def levyroom_Room_holdGroups.l18 (x0 : Option Addr) (x11_1 : Addr) (z4_4 : Int) (K4 : Int → World → Prop) (x27_16 : Sl) (z18_6 : Int) (Q : Bool → World → Prop) (K18 : Int → World → Prop) (w : World) : Prop :=
  (if (decide (z18_6 < 40)) = true then nn x0 fun x34_21 => ld Sl.val w (x34_21.add 20) fun x36_22 => ix x36_22.p x36_22.len z4_4 1 fun x38_24 => ld Sl.val w x38_24 fun x39_25 => ix x39_25.p x39_25.len (IntKind.i64.wrap ((IntKind.i64.wrap (((x27_16.len : Nat) : Int) - 40)) + z18_6)) 2 fun x44_29 => ld Value.string w (x44_29.add 0) fun x45_30_0 => ld (Value.int .i64) w (x44_29.add 1) fun x45_30_1 => al w (.cells #[.string ⟨#[]⟩, .int .i64 0] 161) fun x7_31 w => stN w x7_31 [.string x45_30_0, .int .i64 x45_30_1] fun w => ix (some x11_1) 2 (Int.tmod z18_6 2) 2 fun x49_36 => ld Value.string w (x49_36.add 0) fun x50_37_0 => ld (Value.int .i64) w (x49_36.add 1) fun x50_37_1 => al w (.cells #[.string ⟨#[]⟩, .int .i64 0] 161) fun x8_38 w => stN w x8_38 [.string x50_37_0, .int .i64 x50_37_1] fun w => ld Value.string w (x7_31.add 0) fun x51_41_0 => ld (Value.int .i64) w (x7_31.add 1) fun x51_41_1 => ld Value.string w (x8_38.add 0) fun x52_42_0 => ld (Value.int .i64) w (x8_38.add 1) fun x52_42_1 => rnb Try.prog (eqGuard .neq 161 (.tmp 51) (.tmp 52) (.agg #[.string x51_41_0, .int .i64 x51_41_1]) (.agg #[.string x52_42_0, .int .i64 x52_42_1])) (binOp .neq 161 (.agg #[.string x51_41_0, .int .i64 x51_41_1]) (.agg #[.string x52_42_0, .int .i64 x52_42_1])) w fun x53_43 w => (if x53_43 = true then Q false w else K18 (IntKind.i64.wrap (z18_6 + 1)) w) else levyroom_Room_holdGroups.k10 x0 x11_1 z4_4 K4 Q w)

def levyroom_Room_holdGroups.l4 (x0 : Option Addr) (x11_1 : Addr) (z4_4 : Int) (Q : Bool → World → Prop) (K4 : Int → World → Prop) (w : World) : Prop :=
  nn x0 fun x14_5 => ld Sl.val w (x14_5.add 20) fun x16_6 => (if (decide (z4_4 < ((x16_6.len : Nat) : Int))) = true then nn x0 fun x22_12 => ld Sl.val w (x22_12.add 20) fun x24_13 => ix x24_13.p x24_13.len z4_4 1 fun x26_15 => ld Sl.val w x26_15 fun x27_16 => (Fix (σ := Int) (fun Ks s w => levyroom_Room_holdGroups.l18 x0 x11_1 z4_4 K4 x27_16 s Q (fun z18_6 w => Ks z18_6 w) w) 0 w) else levyroom_Room_holdGroups.k3  Q w)

def levyroom_Room_holdGroups (x0 : Option Addr) (Q : Bool → World → Prop) (w : World) : Prop :=
  al w (.cells #[.string ⟨#[]⟩, .int .i64 (-7701), .string ⟨#[]⟩, .int .i64 (-7702)] 161) fun x11_1 w => (Fix (σ := Int) (fun Ks s w => levyroom_Room_holdGroups.l4 x0 x11_1 s Q (fun z4_4 w => Ks z4_4 w) w) 0 w)

theorem b_levyroom_Room_holdGroups (x0 : Option Addr) (Q : Bool → World → Prop) (w : World) (h : levyroom_Room_holdGroups x0 Q w) {c : Code} (hb : Try.f61.body = some c) :
 ∀ a, Rep a 54 [(0, .pointer x0)] [] → c.wp Try.prog (bodyPost Try.prog Try.f61 (Rets fun v w => ∃ r0 : Bool, v = (.bool r0 : Value) ∧ Q r0 w)) a w := by
 intro a R
 obtain rfl := Option.some.inj hb
 unfold levyroom_Room_holdGroups at h
 refine wp_seq ?_
 refine wp_region_lit ?_
 refine oas R rfl rfl fun a R => ?_
 refine wpList_nil ?_
 refine then_normal ?_
 refine wp_seq ?_
 refine wp_region_lit ?_
 refine op_val R (rn_build (r := .agg #[.string ⟨#[]⟩, .int .i64 (-7701)]) R rfl (fun w => by kernel_rfl)) rfl fun a R => ?_
 refine op_val R (rn_build (r := .agg #[.string ⟨#[]⟩, .int .i64 (-7702)]) R rfl (fun w => by kernel_rfl)) rfl fun a R => ?_
 obtain ⟨x11_1, e2, h⟩ := al_e h
 refine op_val (v := .slice (some x11_1) 2 2) R (by rw [e2]; exact rn_buildSlice (t := 162) (len := 2) (xs := [(0, (.tmp 9)), (1, (.tmp 10))]) (cells := #[.string ⟨#[]⟩, .int .i64 (-7701), .string ⟨#[]⟩, .int .i64 (-7702)]) (e := 161) R rfl (fun w => by kernel_rfl)) rfl fun a R => ?_
 refine oas R rfl rfl fun a R => ?_
 refine wpList_nil ?_
 refine then_normal ?_
 refine seq_join (fun a w => Rep a 54 [] [] ∧ levyroom_Room_holdGroups.k3  Q w) ?_ ?_
 ·refine wp_seq ?_
  refine wp_region_lit ?_
  refine oas R rfl rfl fun a R => ?_
  refine wpList_nil ?_
  refine then_normal ?_
  refine wp_block ?_
  refine wp_fix (σ := Int) (fun s a => Rep a 54 [(0, .pointer x0), (3, .slice (some x11_1) 2 2), (4, .int .i64 s)] []) h (R.weak ⟨rfl, rfl, rfl, trivial⟩) ?_
  rintro Ks C z4_4 a w hC R h
  have R : Rep a 54 [(0, .pointer x0), (3, .slice (some x11_1) 2 2), (4, .int .i64 z4_4)] [] := R
  have h : levyroom_Room_holdGroups.l4 x0 x11_1 z4_4 Q (fun z4_4 w => Ks z4_4 w) w := h
  generalize hK4 : (fun z4_4 w => Ks z4_4 w) = K4 at h
  unfold levyroom_Room_holdGroups.l4 at h
  refine wp_seq ?_
  refine wp_seq ?_
  refine wp_region_lit ?_
  refine omv R rfl rfl fun a R => ?_
  refine omv R rfl rfl fun a R => ?_
  obtain ⟨x14_5, cx14_5, h⟩ := h
  refine onl R rfl cx14_5 rfl fun a R => ?_
  refine ofd R rfl fd65_20 rfl fun a R => ?_
  obtain ⟨x16_6, cx16_6, h⟩ := h
  refine old R rfl Try.underlying63 rfl cx16_6 rfl fun a R => ?_
  refine op_val R (rn_len R rfl Try.underlying63) rfl fun a R => ?_
  refine op_val R (rn_bin (v := .bool (decide (z4_4 < ((x16_6.len : Nat) : Int)))) R rfl rfl rfl) rfl fun a R => ?_
  refine wpList_nil ?_
  refine then_normal ?_
  rcases ite_cases h with ⟨g9, h⟩ | ⟨g9, h⟩
  ·refine wp_condT R (congrArg (fun b => some (Value.bool b)) g9) ?_
   refine wp_skip ?_
   refine then_normal ?_
   refine seq_join (fun a w => Rep a 54 [(0, .pointer x0), (3, .slice (some x11_1) 2 2), (4, .int .i64 z4_4)] [] ∧ levyroom_Room_holdGroups.k10 x0 x11_1 z4_4 K4 Q w) ?_ ?_
   ·refine wp_block ?_
    refine wp_seq ?_
    refine wp_region_lit ?_
    refine omv R rfl rfl fun a R => ?_
    obtain ⟨x22_12, cx22_12, h⟩ := h
    refine onl R rfl cx22_12 rfl fun a R => ?_
    refine ofd R rfl fd65_20 rfl fun a R => ?_
    obtain ⟨x24_13, cx24_13, h⟩ := h
    refine old R rfl Try.underlying63 rfl cx24_13 rfl fun a R => ?_
    refine omv R rfl rfl fun a R => ?_
    obtain ⟨b14, x26_15, p14, i14, j14, e14, h⟩ := ix_e h
    refine op_val (v := .pointer (some x26_15)) R (by rw [e14]; exact rn_ixs (x := (.tmp 24)) (y := (.tmp 25)) R rfl p14 rfl Try.underlying63 sz162 i14 j14) rfl fun a R => ?_
    obtain ⟨x27_16, cx27_16, h⟩ := h
    refine old R rfl Try.underlying162 rfl cx27_16 rfl fun a R => ?_
    refine op_val R (rn_len R rfl Try.underlying162) rfl fun a R => ?_
    refine oas R rfl rfl fun a R => ?_
    refine wpList_nil ?_
    refine then_normal ?_
    refine wp_seq ?_
    refine wp_region_lit ?_
    refine oas R rfl rfl fun a R => ?_
    refine wpList_nil ?_
    refine then_normal ?_
    refine wp_block ?_
    refine wp_fix (σ := Int) (fun s a => Rep a 54 [(0, .pointer x0), (3, .slice (some x11_1) 2 2), (4, .int .i64 z4_4), (5, .int .i64 ((x27_16.len : Nat) : Int)), (6, .int .i64 s)] []) h (R.weak ⟨rfl, rfl, rfl, rfl, rfl, trivial⟩) ?_
    rintro Ks C z18_6 a w hC R h
    have R : Rep a 54 [(0, .pointer x0), (3, .slice (some x11_1) 2 2), (4, .int .i64 z4_4), (5, .int .i64 ((x27_16.len : Nat) : Int)), (6, .int .i64 z18_6)] [] := R
    have h : levyroom_Room_holdGroups.l18 x0 x11_1 z4_4 K4 x27_16 z18_6 Q (fun z18_6 w => Ks z18_6 w) w := h
    generalize hK18 : (fun z18_6 w => Ks z18_6 w) = K18 at h
    unfold levyroom_Room_holdGroups.l18 at h
    refine wp_seq ?_
    refine wp_seq ?_
    refine wp_region_lit ?_
    refine omv R rfl rfl fun a R => ?_
    refine op_val R (rn_bin (v := .bool (decide (z18_6 < 40))) R rfl rfl rfl) rfl fun a R => ?_
    refine wpList_nil ?_
    refine then_normal ?_
    rcases ite_cases h with ⟨g20, h⟩ | ⟨g20, h⟩
    ·refine wp_condT R (congrArg (fun b => some (Value.bool b)) g20) ?_
     refine wp_skip ?_
     refine then_normal ?_
     refine wp_seq ?_
     refine wp_block ?_
     refine wp_seq ?_
     refine wp_region_lit ?_
     refine omv R rfl rfl fun a R => ?_
     obtain ⟨x34_21, cx34_21, h⟩ := h
     refine onl R rfl cx34_21 rfl fun a R => ?_
     refine ofd R rfl fd65_20 rfl fun a R => ?_
     obtain ⟨x36_22, cx36_22, h⟩ := h
     refine old R rfl Try.underlying63 rfl cx36_22 rfl fun a R => ?_
     refine omv R rfl rfl fun a R => ?_
     obtain ⟨b23, x38_24, p23, i23, j23, e23, h⟩ := ix_e h
     refine op_val (v := .pointer (some x38_24)) R (by rw [e23]; exact rn_ixs (x := (.tmp 36)) (y := (.tmp 37)) R rfl p23 rfl Try.underlying63 sz162 i23 j23) rfl fun a R => ?_
     obtain ⟨x39_25, cx39_25, h⟩ := h
     refine old R rfl Try.underlying162 rfl cx39_25 rfl fun a R => ?_
     refine omv R rfl rfl fun a R => ?_
     refine op_val R (rn_bin (v := .int .i64 (IntKind.i64.wrap (((x27_16.len : Nat) : Int) - 40))) R rfl rfl rfl) rfl fun a R => ?_
     refine omv R rfl rfl fun a R => ?_
     refine op_val R (rn_bin (v := .int .i64 (IntKind.i64.wrap ((IntKind.i64.wrap (((x27_16.len : Nat) : Int) - 40)) + z18_6))) R rfl rfl rfl) rfl fun a R => ?_
     obtain ⟨b28, x44_29, p28, i28, j28, e28, h⟩ := ix_e h
     refine op_val (v := .pointer (some x44_29)) R (by rw [e28]; exact rn_ixs (x := (.tmp 39)) (y := (.tmp 43)) R rfl p28 rfl Try.underlying162 sz161 i28 j28) rfl fun a R => ?_
     obtain ⟨x45_30_0, cx45_30_0, x45_30_1, cx45_30_1, h⟩ := h
     refine op_val R (rn_ldN (cs := [.string x45_30_0, .int .i64 x45_30_1]) R rfl Try.underlying161 rfl sz161 ⟨cx45_30_0, cx45_30_1, trivial⟩) rfl fun a R => ?_
     obtain ⟨x7_31, e32, h⟩ := al_e h
     refine op_val (v := .pointer (some x7_31)) R (by rw [e32]; exact rn_al R ze161) rfl fun a R => ?_
     obtain ⟨q33, h⟩ := h
     refine op_unit R (rn_stN (vs := [.string x45_30_0, .int .i64 x45_30_1]) R rfl rfl (ao ⟨rfl, rfl, trivial⟩) sz161 q33) fun a R => ?_
     refine wpList_nil ?_
     refine then_normal ?_
     refine wp_seq ?_
     refine wp_region_lit ?_
     refine omv R rfl rfl fun a R => ?_
     refine omv R rfl rfl fun a R => ?_
     refine op_val R (rn_bin (v := .int .i64 (Int.tmod z18_6 2)) R rfl rfl rfl) rfl fun a R => ?_
     obtain ⟨b35, x49_36, p35, i35, j35, e35, h⟩ := ix_e h
     refine op_val (v := .pointer (some x49_36)) R (by rw [e35]; exact rn_ixs (x := (.tmp 46)) (y := (.tmp 48)) R rfl p35 rfl Try.underlying162 sz161 i35 j35) rfl fun a R => ?_
     obtain ⟨x50_37_0, cx50_37_0, x50_37_1, cx50_37_1, h⟩ := h
     refine op_val R (rn_ldN (cs := [.string x50_37_0, .int .i64 x50_37_1]) R rfl Try.underlying161 rfl sz161 ⟨cx50_37_0, cx50_37_1, trivial⟩) rfl fun a R => ?_
     obtain ⟨x8_38, e39, h⟩ := al_e h
     refine op_val (v := .pointer (some x8_38)) R (by rw [e39]; exact rn_al R ze161) rfl fun a R => ?_
     obtain ⟨q40, h⟩ := h
     refine op_unit R (rn_stN (vs := [.string x50_37_0, .int .i64 x50_37_1]) R rfl rfl (ao ⟨rfl, rfl, trivial⟩) sz161 q40) fun a R => ?_
     refine wpList_nil ?_
     refine then_normal ?_
     refine wp_seq ?_
     refine wp_region_lit ?_
     obtain ⟨x51_41_0, cx51_41_0, x51_41_1, cx51_41_1, h⟩ := h
     refine op_val R (rn_ldN (cs := [.string x51_41_0, .int .i64 x51_41_1]) R rfl Try.underlying161 rfl sz161 ⟨cx51_41_0, cx51_41_1, trivial⟩) rfl fun a R => ?_
     obtain ⟨x52_42_0, cx52_42_0, x52_42_1, cx52_42_1, h⟩ := h
     refine op_val R (rn_ldN (cs := [.string x52_42_0, .int .i64 x52_42_1]) R rfl Try.underlying161 rfl sz161 ⟨cx52_42_0, cx52_42_1, trivial⟩) rfl fun a R => ?_
     obtain ⟨x53_43, w44, kx53_43, cx53_43, h⟩ := h
     refine op_val R (rn_binR R rfl rfl kx53_43 cx53_43) rfl fun a R => ?_
     refine wpList_nil ?_
     refine then_normal ?_
     rcases ite_cases h with ⟨g45, h⟩ | ⟨g45, h⟩
     ·refine wp_condT R (congrArg (fun b => some (Value.bool b)) g45) ?_
      refine wp_seq ?_
      refine wp_region_lit ?_
      refine oas R rfl rfl fun a R => ?_
      refine wpList_nil ?_
      refine then_normal ?_
      refine wp_ret ?_
      refine block_ret ?_
      refine then_ret ?_
      refine then_ret ?_
      refine block_ret ?_
      refine block_ret ?_
      refine then_ret ?_
      refine then_ret ?_
      refine block_ret ?_
      refine then_ret ?_
      exact post_ret R rfl rfl ⟨false, rfl, h⟩
     ·refine wp_condF R (congrArg (fun b => some (Value.bool b)) g45) ?_
      refine wp_skip ?_
      refine block_normal ?_
      refine then_normal ?_
      refine wp_region_lit ?_
      refine omv R rfl rfl fun a R => ?_
      refine op_val R (rn_bin (v := .int .i64 (IntKind.i64.wrap (z18_6 + 1))) R rfl rfl rfl) rfl fun a R => ?_
      refine oas R rfl rfl fun a R => ?_
      refine wpList_nil ?_
      refine then_normal ?_
      exact hC (IntKind.i64.wrap (z18_6 + 1)) _ _ (R.weak ⟨rfl, rfl, rfl, rfl, rfl, trivial⟩) (by rw [← hK18] at h; exact h)
    ·refine wp_condF R (congrArg (fun b => some (Value.bool b)) g20) ?_
     refine wp_exit ?_
     refine then_exit ?_
     refine then_exit ?_
     refine block_eq ?_
     refine block_normal ?_
     refine then_normal ?_
     exact ⟨R.weak ⟨rfl, rfl, rfl, trivial⟩, h⟩
   ·rintro a w ⟨R, h⟩
    unfold levyroom_Room_holdGroups.k10 at h
    refine wp_region_lit ?_
    refine omv R rfl rfl fun a R => ?_
    refine op_val R (rn_bin (v := .int .i64 (IntKind.i64.wrap (z4_4 + 1))) R rfl rfl rfl) rfl fun a R => ?_
    refine oas R rfl rfl fun a R => ?_
    refine wpList_nil ?_
    refine then_normal ?_
    exact hC (IntKind.i64.wrap (z4_4 + 1)) _ _ (R.weak ⟨rfl, rfl, rfl, trivial⟩) (by rw [← hK4] at h; exact h)
  ·refine wp_condF R (congrArg (fun b => some (Value.bool b)) g9) ?_
   refine wp_exit ?_
   refine then_exit ?_
   refine then_exit ?_
   refine block_eq ?_
   refine then_normal ?_
   exact ⟨R.weak trivial, h⟩
 ·rintro a w ⟨R, h⟩
  unfold levyroom_Room_holdGroups.k3 at h
  refine wp_seq ?_
  refine wp_region_lit ?_
  refine oas R rfl rfl fun a R => ?_
  refine wpList_nil ?_
  refine then_normal ?_
  refine wp_ret ?_
  exact post_ret R rfl rfl ⟨true, rfl, h⟩
theorem s_levyroom_Room_holdGroups (x0 : Option Addr) (Q : Bool → World → Prop) (w : World) (h : levyroom_Room_holdGroups x0 Q w) :
    Calls Try.prog 61 #[.pointer x0] w (Rets fun v w => ∃ r0 : Bool, v = (.bool r0 : Value) ∧ Q r0 w) :=
  calls_body (args := [.pointer x0]) Try.func61 rfl rfl (Nat.le_of_ble_eq_true rfl) (L := [(0, .pointer x0)]) (by simp [starts]) (b_levyroom_Room_holdGroups x0 Q w h rfl)

end Go.Proofs.Ytjnifnlkicajhaa.Fs
