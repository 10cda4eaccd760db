/-
  Written by a program of this claim (wip/gen/gen.py): what each Go function asks of the world, as a plain predicate, and that it is enough. No condition is put on any statement here.
-/
import Derived.Test.YtjnifnlkicajhaaDoorVcDraw
import Derived.Test.YtjnifnlkicajhaaDoorFacts
import Derived.Test.YtjnifnlkicajhaaDoorG3
set_option linter.unusedVariables false
set_option maxRecDepth 100000
set_option maxHeartbeats 2000000
namespace Go.Proofs.YtjnifnlkicajhaaDoor.Fs
open Go Vc

/-! (levylaw19.world).step -/

def levylaw19_world_step.k3  (Q : Bool → World → Prop) (w : World) : Prop :=
  Q true w

def levylaw19_world_step.k71 (y71_4 : Bool) (Q : Bool → World → Prop) (w : World) : Prop :=
  Q y71_4 w

def levylaw19_world_step.k59 (x0 : Option Addr) (x3_1 : Addr) (Q : Bool → World → Prop) (w : World) : Prop :=
  nn x0 fun x89_60 => ld Sl.val (World.drew w) (x89_60.add 4) fun x91_61 => ld (Value.int .i64) (World.drew w) (x3_1.add 1) fun x93_62 => ld Sl.val (World.drew w) (x3_1.add 5) fun x95_63 => levylaw19_record x93_62 x95_63 (fun x96_64_0_0 x96_64_0_1 w => ((World.cell? w (x89_60.add 4) = some (Sl.val x91_61) ∧ World.cell? w (x3_1.add 1) = some (.int .i64 x93_62) ∧ World.cell? w (x3_1.add 5) = some (Sl.val x95_63) ∧ True) ∧ al w (.cells #[.int .u8 x96_64_0_0, Sl.val x96_64_0_1] 37) fun x97_65 w => ((World.cell? w (x89_60.add 4) = some (Sl.val x91_61) ∧ World.cell? w (x3_1.add 1) = some (.int .i64 x93_62) ∧ World.cell? w (x3_1.add 5) = some (Sl.val x95_63) ∧ True) ∧ rn Tryd.prog Sl.val (Builtin.append_ #[30, 30] 30 [Sl.val x91_61, .slice (some x97_65) 1 1].toArray) w fun x98_68 w => ((World.cell? w (x89_60.add 4) = some (Sl.val x91_61) ∧ World.cell? w (x3_1.add 1) = some (.int .i64 x93_62) ∧ World.cell? w (x3_1.add 5) = some (Sl.val x95_63) ∧ True) ∧ nn x0 fun x99_69 => st w (x99_69.add 4) (Sl.val x98_68) fun w => nn x0 fun x102_72 => ld Sl.val (World.drew w) (x102_72.add 5) fun x104_73 => (if (((x104_73.len : Nat) : Int) == 0) = true then nn x0 fun x109_77 => ld Sl.val (World.drew w) (x109_77.add 6) fun x111_78 => (if (((x111_78.len : Nat) : Int) == 0) = true then nn x0 fun x117_82 => ld Value.pointer (World.drew w) (x117_82.add 1) fun x119_83 => nn x0 fun x122_84 => ld Sl.val (World.drew w) (x122_84.add 4) fun x124_85 => drawer_Drawer_Len x119_83 (fun x120_87_0 w => ((World.cell? w (x117_82.add 1) = some (.pointer x119_83) ∧ World.cell? w (x122_84.add 4) = some (Sl.val x124_85) ∧ True) ∧ levylaw19_world_step.k71 (x120_87_0 == ((x124_85.len : Nat) : Int)) Q w)) (World.drew w) else levylaw19_world_step.k71 false Q (World.drew w)) else levylaw19_world_step.k71 false Q (World.drew w)))))) (World.drew w)

def levylaw19_world_step.k100 (y100_4 : Bool) (Q : Bool → World → Prop) (w : World) : Prop :=
  Q y100_4 w

def levylaw19_world_step.k122 (y122_4 : Bool) (Q : Bool → World → Prop) (w : World) : Prop :=
  Q y122_4 w

def levylaw19_world_step.k149 (y149_4 : Bool) (Q : Bool → World → Prop) (w : World) : Prop :=
  Q y149_4 w

def levylaw19_world_step.k167 (y167_4 : Bool) (Q : Bool → World → Prop) (w : World) : Prop :=
  Q y167_4 w

def levylaw19_world_step.k192 (y192_4 : Bool) (Q : Bool → World → Prop) (w : World) : Prop :=
  Q y192_4 w

def levylaw19_world_step (x0 : Option Addr) (x1_0 : Int) (x1_1 : Int) (x1_2 : Int) (x1_3 : Bool) (x1_4 : ByteArray) (x1_5 : Sl) (x1_6 : Sl) (x1_7 : Int) (Q : Bool → World → Prop) (w : World) : Prop :=
  al w (.cells #[.int .i64 x1_0, .int .i64 x1_1, .int .i64 x1_2, .bool x1_3, .string x1_4, Sl.val x1_5, Sl.val x1_6, .int .u32 x1_7] 52) fun x3_1 w => ld (Value.int .i64) w (x3_1.add 0) fun x9_4 => (if (x9_4 == 6) = true then nn x0 fun x13_7 => ld Value.pointer (World.drew w) (x13_7.add 0) fun x15_8 => ld (Value.int .i64) (World.drew w) (x3_1.add 1) fun x17_9 => drawer_Disk_Arm x15_8 x17_9 (fun  w => levylaw19_world_step.k3  Q w) (World.drew w) else (if (x9_4 == 7) = true then nn x0 fun x22_14 => ld Value.pointer (World.drew w) (x22_14.add 0) fun x24_15 => ld (Value.int .i64) (World.drew w) (x3_1.add 1) fun x26_16 => ld (Value.int .i64) (World.drew w) (x3_1.add 2) fun x28_17 => drawer_Disk_Fail x24_15 x26_16 x28_17 (fun  w => levylaw19_world_step.k3  Q w) (World.drew w) else (if (x9_4 == 8) = true then nn x0 fun x33_22 => ld Value.pointer w (x33_22.add 0) fun x35_23 => drawer_Disk_Crash x35_23 (fun  w => levylaw19_world_step.k3  Q w) w else (if (x9_4 == 9) = true then nn x0 fun x40_28 => ld Value.pointer (World.drew w) (x40_28.add 0) fun x42_29 => ld Sl.val (World.drew w) (x3_1.add 6) fun x44_30 => drawer_Disk_Restart x42_29 x44_30 (fun  w => levylaw19_world_step.k3  Q w) (World.drew w) else (if (x9_4 == 11) = true then levylaw19_world_open x0 (fun x49_35_0 w => Q x49_35_0 w) w else (if (x9_4 == 10) = true then ld Sl.val w (x3_1.add 6) fun x54_39 => levylaw19_world_other x0 x54_39 (fun x55_40_0 w => Q x55_40_0 w) w else (if (x9_4 == 12) = true then nn x0 fun x59_44 => ld Value.pointer w (x59_44.add 1) fun x61_45 => (if (Option.isNone x61_45) = true then Q true w else ld (Value.int .i64) w (x3_1.add 1) fun x64_47 => ld Sl.val w (x3_1.add 5) fun x66_48 => levylaw19_record x64_47 x66_48 (fun x67_49_0_0 x67_49_0_1 w => al w (.cells #[.int .u8 0, .slice none 0 0] 37) fun x5_50 w => stN w x5_50 [.int .u8 x67_49_0_0, Sl.val x67_49_0_1] fun w => nn x0 fun x69_53 => ld Value.pointer (World.drew w) (x69_53.add 1) fun x71_54 => ld (Value.int .u8) (World.drew w) (x5_50.add 0) fun x72_55_0 => ld Sl.val (World.drew w) (x5_50.add 1) fun x72_55_1 => drawer_Drawer_Put x71_54 x72_55_0 x72_55_1 (fun x73_56_0 w => (if (x73_56_0 == 0) = true then nn x0 fun x78_91 => ld Value.bool w (x78_91.add 7) fun x80_92 => (if x80_92 = true then nn x0 fun x83_94 => st w (x83_94.add 6) (.slice none 0 0) fun w => nn x0 fun x85_96 => st w (x85_96.add 7) (.bool false) fun w => levylaw19_world_step.k59 x0 x3_1 Q w else levylaw19_world_step.k59 x0 x3_1 Q w) else (if (x73_56_0 == 196) = true then nn x0 fun x132_101 => ld Sl.val w (x132_101.add 5) fun x134_102 => (if (((x134_102.len : Nat) : Int) == 1) = true then levylaw19_world_step.k100 true Q w else nn x0 fun x139_106 => ld Sl.val w (x139_106.add 6) fun x141_107 => levylaw19_world_step.k100 (((x141_107.len : Nat) : Int) == 1) Q w) else (if (x73_56_0 == 197) = true then ld Sl.val w (x3_1.add 5) fun x149_112 => Q (decide (((x149_112.len : Nat) : Int) > 1048576)) w else ld (Value.int .i64) w (x3_1.add 1) fun x154_115 => ld Sl.val w (x3_1.add 5) fun x156_116 => levylaw19_record x154_115 x156_116 (fun x157_117_0_0 x157_117_0_1 w => al w (.cells #[.int .u8 x157_117_0_0, Sl.val x157_117_0_1] 37) fun x158_118 w => nn x0 fun x159_120 => st w (x159_120.add 5) (.slice (some x158_118) 1 1) fun w => (if (x73_56_0 == 190) = true then levylaw19_world_step.k122 true Q w else (if (x73_56_0 == 191) = true then levylaw19_world_step.k122 true Q w else levylaw19_world_step.k122 (x73_56_0 == 194) Q w))) w)))) (World.drew w)) w) else (if (x9_4 == 13) = true then nn x0 fun x174_133 => ld Value.pointer w (x174_133.add 1) fun x176_134 => (if (Option.isNone x176_134) = true then Q true w else nn x0 fun x179_136 => ld Value.pointer (World.drew w) (x179_136.add 1) fun x181_137 => ld Sl.val (World.drew w) (x3_1.add 5) fun x183_138 => drawer_Drawer_Fold x181_137 x183_138 (fun x184_139_0 w => (if (x184_139_0 == 0) = true then ld Sl.val w (x3_1.add 5) fun x190_142 => rn Tryd.prog Sl.val (Builtin.append_ #[29, 29] 29 [.slice none 0 0, Sl.val x190_142].toArray) w fun x191_144 w => nn x0 fun x192_145 => st w (x192_145.add 3) (Sl.val x191_144) fun w => nn x0 fun x195_147 => st w (x195_147.add 4) (.slice none 0 0) fun w => nn x0 fun x198_150 => ld Sl.val w (x198_150.add 5) fun x200_151 => (if (((x200_151.len : Nat) : Int) == 0) = true then nn x0 fun x205_155 => ld Sl.val w (x205_155.add 6) fun x207_156 => (if (((x207_156.len : Nat) : Int) == 0) = true then nn x0 fun x213_160 => ld Value.pointer w (x213_160.add 1) fun x215_161 => drawer_Drawer_Len x215_161 (fun x216_162_0 w => levylaw19_world_step.k149 (x216_162_0 == 0) Q w) w else levylaw19_world_step.k149 false Q w) else levylaw19_world_step.k149 false Q w) else (if (x184_139_0 == 196) = true then nn x0 fun x223_168 => ld Sl.val w (x223_168.add 5) fun x225_169 => (if (((x225_169.len : Nat) : Int) == 1) = true then levylaw19_world_step.k167 true Q w else nn x0 fun x230_173 => ld Sl.val w (x230_173.add 6) fun x232_174 => levylaw19_world_step.k167 (((x232_174.len : Nat) : Int) == 1) Q w) else (if (x184_139_0 == 197) = true then ld Sl.val w (x3_1.add 5) fun x240_179 => Q (decide (((x240_179.len : Nat) : Int) > 1048576)) w else ld Sl.val w (x3_1.add 5) fun x245_182 => rn Tryd.prog Sl.val (Builtin.append_ #[29, 29] 29 [.slice none 0 0, Sl.val x245_182].toArray) w fun x246_184 w => al w (.cells #[Sl.val x246_184] 29) fun x247_185 w => nn x0 fun x248_187 => st w (x248_187.add 6) (.slice (some x247_185) 1 1) fun w => nn x0 fun x253_190 => st w (x253_190.add 7) (.bool (x184_139_0 == 194)) fun w => (if (x184_139_0 == 190) = true then levylaw19_world_step.k192 true Q w else (if (x184_139_0 == 191) = true then levylaw19_world_step.k192 true Q w else levylaw19_world_step.k192 (x184_139_0 == 194) Q w)))))) (World.drew w)) else levylaw19_world_step.k3  Q w))))))))

theorem b_levylaw19_world_step (x0 : Option Addr) (x1_0 : Int) (x1_1 : Int) (x1_2 : Int) (x1_3 : Bool) (x1_4 : ByteArray) (x1_5 : Sl) (x1_6 : Sl) (x1_7 : Int) (Q : Bool → World → Prop) (w : World) (h : levylaw19_world_step x0 x1_0 x1_1 x1_2 x1_3 x1_4 x1_5 x1_6 x1_7 Q w) {c : Code} (hb : Tryd.f16.body = some c) :
 ∀ a, Rep a 265 [(0, .pointer x0), (1, .agg #[.int .i64 x1_0, .int .i64 x1_1, .int .i64 x1_2, .bool x1_3, .string x1_4, Sl.val x1_5, Sl.val x1_6, .int .u32 x1_7])] [] → c.wp Tryd.prog (bodyPost Tryd.prog Tryd.f16 (Rets fun v w => ∃ r0 : Bool, v = (.bool r0 : Value) ∧ Q r0 w)) a w := by
 intro a R
 obtain rfl := Option.some.inj hb
 unfold levylaw19_world_step at h
 refine wp_seq ?_
 refine wp_region_lit ?_
 obtain ⟨x3_1, e2, h⟩ := al_e h
 refine op_val (v := .pointer (some x3_1)) R (by rw [e2]; exact rn_bx (x := (.tmp 1)) (t := 52) R rfl) rfl fun a R => ?_
 refine oas R rfl rfl fun a R => ?_
 refine wpList_nil ?_
 refine then_normal ?_
 refine seq_join (fun a w => Rep a 265 [] [] ∧ levylaw19_world_step.k3  Q w) ?_ ?_
 ·refine wp_seq ?_
  refine wp_region_lit ?_
  refine ofd R rfl fd52_0 rfl fun a R => ?_
  obtain ⟨x9_4, cx9_4, h⟩ := h
  refine old R rfl Tryd.underlying3 rfl cx9_4 rfl fun a R => ?_
  refine wpList_nil ?_
  refine then_normal ?_
  refine wp_block ?_
  refine wp_seq ?_
  refine wp_region_lit ?_
  refine op_val R (rn_bin (v := .bool (x9_4 == 6)) R rfl rfl rfl) rfl fun a R => ?_
  refine oas R rfl rfl fun a R => ?_
  refine wpList_nil ?_
  refine then_normal ?_
  rcases ite_cases h with ⟨g6, h⟩ | ⟨g6, h⟩
  ·refine wp_condT R (congrArg (fun b => some (Value.bool b)) g6) ?_
   refine region_start mo fun inv => ?_
   refine seg_same (n := 6) (f := 6) (g := 1) (by kernel_rfl) fun inv => ?_
   refine dr_val (i := 0) R (waits_dom (by kernel_rfl) (by kernel_rfl)) (by kernel_rfl) inv rfl (by decide) (by kernel_rfl) (by kernel_rfl) (fun _ _ _ h => h) wanted_none (fun w' hS => rn_mv R rfl) rfl (by decide) fun inv a R => ?_
   obtain ⟨x13_7, cx13_7, h⟩ := h
   refine dr_val (i := 1) R (waits_dom (by kernel_rfl) (by kernel_rfl)) (by kernel_rfl) inv rfl (by decide) (by kernel_rfl) (by kernel_rfl) (fun _ _ _ h => h) wanted_none (fun w' hS => rn_nil R rfl cx13_7) rfl (by decide) fun inv a R => ?_
   refine dr_val (i := 2) R (waits_dom (by kernel_rfl) (by kernel_rfl)) (by kernel_rfl) inv rfl (by decide) (by kernel_rfl) (by kernel_rfl) (fun _ _ _ h => h) wanted_none (fun w' hS => rn_fld R rfl fd32_0) rfl (by decide) fun inv a R => ?_
   obtain ⟨x15_8, cx15_8, h⟩ := h
   refine dr_val (i := 3) R (waits_dom (by kernel_rfl) (by kernel_rfl)) (by kernel_rfl) inv rfl (by decide) (by kernel_rfl) (by kernel_rfl) (fun _ _ _ h => h) wanted_none (fun w' hS => rn_ld R rfl Tryd.underlying27 rfl (cell_heap' hS cx15_8)) rfl (by decide) fun inv a R => ?_
   refine dr_val (i := 4) R (waits_dom (by kernel_rfl) (by kernel_rfl)) (by kernel_rfl) inv rfl (by decide) (by kernel_rfl) (by kernel_rfl) (fun _ _ _ h => h) wanted_none (fun w' hS => rn_fld R rfl fd52_1) rfl (by decide) fun inv a R => ?_
   obtain ⟨x17_9, cx17_9, h⟩ := h
   refine dr_val (i := 5) R (waits_dom (by kernel_rfl) (by kernel_rfl)) (by kernel_rfl) inv rfl (by decide) (by kernel_rfl) (by kernel_rfl) (fun _ _ _ h => h) wanted_none (fun w' hS => rn_ld R rfl Tryd.underlying3 rfl (cell_heap' hS cx17_9)) rfl (by decide) fun inv a R => ?_
   refine seg_end (by kernel_rfl) ?_
   refine any_tail 6 (by kernel_rfl) ?_
   refine op_call R (rn_calls R rfl cf14) rfl ?_
   refine call_mono (s_drawer_Disk_Arm _ _ _ _ h) ?_
   rintro _ w11 ⟨rfl, h⟩ a R
   refine wpList_nil ?_
   refine block_normal ?_
   refine then_normal ?_
   exact ⟨R.weak trivial, h⟩
  ·refine wp_condF R (congrArg (fun b => some (Value.bool b)) g6) ?_
   refine wp_seq ?_
   refine wp_region_lit ?_
   refine op_val R (rn_bin (v := .bool (x9_4 == 7)) R rfl rfl rfl) rfl fun a R => ?_
   refine oas R rfl rfl fun a R => ?_
   refine wpList_nil ?_
   refine then_normal ?_
   rcases ite_cases h with ⟨g13, h⟩ | ⟨g13, h⟩
   ·refine wp_condT R (congrArg (fun b => some (Value.bool b)) g13) ?_
    refine region_start mo fun inv => ?_
    refine seg_same (n := 8) (f := 8) (g := 1) (by kernel_rfl) fun inv => ?_
    refine dr_val (i := 0) R (waits_dom (by kernel_rfl) (by kernel_rfl)) (by kernel_rfl) inv rfl (by decide) (by kernel_rfl) (by kernel_rfl) (fun _ _ _ h => h) wanted_none (fun w' hS => rn_mv R rfl) rfl (by decide) fun inv a R => ?_
    obtain ⟨x22_14, cx22_14, h⟩ := h
    refine dr_val (i := 1) R (waits_dom (by kernel_rfl) (by kernel_rfl)) (by kernel_rfl) inv rfl (by decide) (by kernel_rfl) (by kernel_rfl) (fun _ _ _ h => h) wanted_none (fun w' hS => rn_nil R rfl cx22_14) rfl (by decide) fun inv a R => ?_
    refine dr_val (i := 2) R (waits_dom (by kernel_rfl) (by kernel_rfl)) (by kernel_rfl) inv rfl (by decide) (by kernel_rfl) (by kernel_rfl) (fun _ _ _ h => h) wanted_none (fun w' hS => rn_fld R rfl fd32_0) rfl (by decide) fun inv a R => ?_
    obtain ⟨x24_15, cx24_15, h⟩ := h
    refine dr_val (i := 3) R (waits_dom (by kernel_rfl) (by kernel_rfl)) (by kernel_rfl) inv rfl (by decide) (by kernel_rfl) (by kernel_rfl) (fun _ _ _ h => h) wanted_none (fun w' hS => rn_ld R rfl Tryd.underlying27 rfl (cell_heap' hS cx24_15)) rfl (by decide) fun inv a R => ?_
    refine dr_val (i := 4) R (waits_dom (by kernel_rfl) (by kernel_rfl)) (by kernel_rfl) inv rfl (by decide) (by kernel_rfl) (by kernel_rfl) (fun _ _ _ h => h) wanted_none (fun w' hS => rn_fld R rfl fd52_1) rfl (by decide) fun inv a R => ?_
    obtain ⟨x26_16, cx26_16, h⟩ := h
    refine dr_val (i := 5) R (waits_dom (by kernel_rfl) (by kernel_rfl)) (by kernel_rfl) inv rfl (by decide) (by kernel_rfl) (by kernel_rfl) (fun _ _ _ h => h) wanted_none (fun w' hS => rn_ld R rfl Tryd.underlying3 rfl (cell_heap' hS cx26_16)) rfl (by decide) fun inv a R => ?_
    refine dr_val (i := 6) R (waits_dom (by kernel_rfl) (by kernel_rfl)) (by kernel_rfl) inv rfl (by decide) (by kernel_rfl) (by kernel_rfl) (fun _ _ _ h => h) wanted_none (fun w' hS => rn_fld R rfl fd52_2) rfl (by decide) fun inv a R => ?_
    obtain ⟨x28_17, cx28_17, h⟩ := h
    refine dr_val (i := 7) R (waits_dom (by kernel_rfl) (by kernel_rfl)) (by kernel_rfl) inv rfl (by decide) (by kernel_rfl) (by kernel_rfl) (fun _ _ _ h => h) wanted_none (fun w' hS => rn_ld R rfl Tryd.underlying3 rfl (cell_heap' hS cx28_17)) rfl (by decide) fun inv a R => ?_
    refine seg_end (by kernel_rfl) ?_
    refine any_tail 8 (by kernel_rfl) ?_
    refine op_call R (rn_calls R rfl cf15) rfl ?_
    refine call_mono (s_drawer_Disk_Fail _ _ _ _ _ h) ?_
    rintro _ w19 ⟨rfl, h⟩ a R
    refine wpList_nil ?_
    refine block_normal ?_
    refine then_normal ?_
    exact ⟨R.weak trivial, h⟩
   ·refine wp_condF R (congrArg (fun b => some (Value.bool b)) g13) ?_
    refine wp_seq ?_
    refine wp_region_lit ?_
    refine op_val R (rn_bin (v := .bool (x9_4 == 8)) R rfl rfl rfl) rfl fun a R => ?_
    refine oas R rfl rfl fun a R => ?_
    refine wpList_nil ?_
    refine then_normal ?_
    rcases ite_cases h with ⟨g21, h⟩ | ⟨g21, h⟩
    ·refine wp_condT R (congrArg (fun b => some (Value.bool b)) g21) ?_
     refine wp_region_lit ?_
     refine omv R rfl rfl fun a R => ?_
     obtain ⟨x33_22, cx33_22, h⟩ := h
     refine onl R rfl cx33_22 rfl fun a R => ?_
     refine ofd R rfl fd32_0 rfl fun a R => ?_
     obtain ⟨x35_23, cx35_23, h⟩ := h
     refine old R rfl Tryd.underlying27 rfl cx35_23 rfl fun a R => ?_
     refine op_call R (rn_calls R rfl cf31) rfl ?_
     refine call_mono (s_drawer_Disk_Crash _ _ _ h) ?_
     rintro _ w25 ⟨rfl, h⟩ a R
     refine wpList_nil ?_
     refine block_normal ?_
     refine then_normal ?_
     exact ⟨R.weak trivial, h⟩
    ·refine wp_condF R (congrArg (fun b => some (Value.bool b)) g21) ?_
     refine wp_seq ?_
     refine wp_region_lit ?_
     refine op_val R (rn_bin (v := .bool (x9_4 == 9)) R rfl rfl rfl) rfl fun a R => ?_
     refine oas R rfl rfl fun a R => ?_
     refine wpList_nil ?_
     refine then_normal ?_
     rcases ite_cases h with ⟨g27, h⟩ | ⟨g27, h⟩
     ·refine wp_condT R (congrArg (fun b => some (Value.bool b)) g27) ?_
      refine region_start mo fun inv => ?_
      refine seg_same (n := 6) (f := 6) (g := 1) (by kernel_rfl) fun inv => ?_
      refine dr_val (i := 0) R (waits_dom (by kernel_rfl) (by kernel_rfl)) (by kernel_rfl) inv rfl (by decide) (by kernel_rfl) (by kernel_rfl) (fun _ _ _ h => h) wanted_none (fun w' hS => rn_mv R rfl) rfl (by decide) fun inv a R => ?_
      obtain ⟨x40_28, cx40_28, h⟩ := h
      refine dr_val (i := 1) R (waits_dom (by kernel_rfl) (by kernel_rfl)) (by kernel_rfl) inv rfl (by decide) (by kernel_rfl) (by kernel_rfl) (fun _ _ _ h => h) wanted_none (fun w' hS => rn_nil R rfl cx40_28) rfl (by decide) fun inv a R => ?_
      refine dr_val (i := 2) R (waits_dom (by kernel_rfl) (by kernel_rfl)) (by kernel_rfl) inv rfl (by decide) (by kernel_rfl) (by kernel_rfl) (fun _ _ _ h => h) wanted_none (fun w' hS => rn_fld R rfl fd32_0) rfl (by decide) fun inv a R => ?_
      obtain ⟨x42_29, cx42_29, h⟩ := h
      refine dr_val (i := 3) R (waits_dom (by kernel_rfl) (by kernel_rfl)) (by kernel_rfl) inv rfl (by decide) (by kernel_rfl) (by kernel_rfl) (fun _ _ _ h => h) wanted_none (fun w' hS => rn_ld R rfl Tryd.underlying27 rfl (cell_heap' hS cx42_29)) rfl (by decide) fun inv a R => ?_
      refine dr_val (i := 4) R (waits_dom (by kernel_rfl) (by kernel_rfl)) (by kernel_rfl) inv rfl (by decide) (by kernel_rfl) (by kernel_rfl) (fun _ _ _ h => h) wanted_none (fun w' hS => rn_fld R rfl fd52_6) rfl (by decide) fun inv a R => ?_
      obtain ⟨x44_30, cx44_30, h⟩ := h
      refine dr_val (i := 5) R (waits_dom (by kernel_rfl) (by kernel_rfl)) (by kernel_rfl) inv rfl (by decide) (by kernel_rfl) (by kernel_rfl) (fun _ _ _ h => h) wanted_none (fun w' hS => rn_ld R rfl Tryd.underlying33 rfl (cell_heap' hS cx44_30)) rfl (by decide) fun inv a R => ?_
      refine seg_end (by kernel_rfl) ?_
      refine any_tail 6 (by kernel_rfl) ?_
      refine op_call R (rn_calls R rfl cf18) rfl ?_
      refine call_mono (s_drawer_Disk_Restart _ _ _ _ h) ?_
      rintro _ w32 ⟨rfl, h⟩ a R
      refine wpList_nil ?_
      refine block_normal ?_
      refine then_normal ?_
      exact ⟨R.weak trivial, h⟩
     ·refine wp_condF R (congrArg (fun b => some (Value.bool b)) g27) ?_
      refine wp_seq ?_
      refine wp_region_lit ?_
      refine op_val R (rn_bin (v := .bool (x9_4 == 11)) R rfl rfl rfl) rfl fun a R => ?_
      refine oas R rfl rfl fun a R => ?_
      refine wpList_nil ?_
      refine then_normal ?_
      rcases ite_cases h with ⟨g34, h⟩ | ⟨g34, h⟩
      ·refine wp_condT R (congrArg (fun b => some (Value.bool b)) g34) ?_
       refine wp_seq ?_
       refine wp_region_lit ?_
       refine omv R rfl rfl fun a R => ?_
       refine op_call R (rn_calls R rfl cf8) rfl ?_
       refine call_mono (s_levylaw19_world_open _ _ _ h) ?_
       rintro _ w36 ⟨x49_35_0, rfl, h⟩ a R
       refine oas R rfl rfl fun a R => ?_
       refine wpList_nil ?_
       refine then_normal ?_
       refine wp_ret ?_
       refine block_ret ?_
       refine then_ret ?_
       exact post_ret R rfl rfl ⟨x49_35_0, rfl, h⟩
      ·refine wp_condF R (congrArg (fun b => some (Value.bool b)) g34) ?_
       refine wp_seq ?_
       refine wp_region_lit ?_
       refine op_val R (rn_bin (v := .bool (x9_4 == 10)) R rfl rfl rfl) rfl fun a R => ?_
       refine oas R rfl rfl fun a R => ?_
       refine wpList_nil ?_
       refine then_normal ?_
       rcases ite_cases h with ⟨g38, h⟩ | ⟨g38, h⟩
       ·refine wp_condT R (congrArg (fun b => some (Value.bool b)) g38) ?_
        refine wp_seq ?_
        refine wp_region_lit ?_
        refine omv R rfl rfl fun a R => ?_
        refine ofd R rfl fd52_6 rfl fun a R => ?_
        obtain ⟨x54_39, cx54_39, h⟩ := h
        refine old R rfl Tryd.underlying33 rfl cx54_39 rfl fun a R => ?_
        refine op_call R (rn_calls R rfl cf17) rfl ?_
        refine call_mono (s_levylaw19_world_other _ _ _ _ h) ?_
        rintro _ w41 ⟨x55_40_0, rfl, h⟩ a R
        refine oas R rfl rfl fun a R => ?_
        refine wpList_nil ?_
        refine then_normal ?_
        refine wp_ret ?_
        refine block_ret ?_
        refine then_ret ?_
        exact post_ret R rfl rfl ⟨x55_40_0, rfl, h⟩
       ·refine wp_condF R (congrArg (fun b => some (Value.bool b)) g38) ?_
        refine wp_seq ?_
        refine wp_region_lit ?_
        refine op_val R (rn_bin (v := .bool (x9_4 == 12)) R rfl rfl rfl) rfl fun a R => ?_
        refine oas R rfl rfl fun a R => ?_
        refine wpList_nil ?_
        refine then_normal ?_
        rcases ite_cases h with ⟨g43, h⟩ | ⟨g43, h⟩
        ·refine wp_condT R (congrArg (fun b => some (Value.bool b)) g43) ?_
         refine wp_seq ?_
         refine wp_seq ?_
         refine wp_region_lit ?_
         refine omv R rfl rfl fun a R => ?_
         obtain ⟨x59_44, cx59_44, h⟩ := h
         refine onl R rfl cx59_44 rfl fun a R => ?_
         refine ofd R rfl fd32_1 rfl fun a R => ?_
         obtain ⟨x61_45, cx61_45, h⟩ := h
         refine old R rfl Tryd.underlying28 rfl cx61_45 rfl fun a R => ?_
         refine op_val R (rn_nilPE R rfl rfl Tryd.underlying28) rfl fun a R => ?_
         refine wpList_nil ?_
         refine then_normal ?_
         rcases ite_cases h with ⟨g46, h⟩ | ⟨g46, h⟩
         ·refine wp_condT R (congrArg (fun b => some (Value.bool b)) g46) ?_
          refine wp_seq ?_
          refine wp_region_lit ?_
          refine oas R rfl rfl fun a R => ?_
          refine wpList_nil ?_
          refine then_normal ?_
          refine wp_ret ?_
          refine then_ret ?_
          refine block_ret ?_
          refine then_ret ?_
          exact post_ret R rfl rfl ⟨true, rfl, h⟩
         ·refine wp_condF R (congrArg (fun b => some (Value.bool b)) g46) ?_
          refine wp_skip ?_
          refine then_normal ?_
          refine wp_seq ?_
          refine wp_region_lit ?_
          refine ofd R rfl fd52_1 rfl fun a R => ?_
          obtain ⟨x64_47, cx64_47, h⟩ := h
          refine old R rfl Tryd.underlying3 rfl cx64_47 rfl fun a R => ?_
          refine ofd R rfl fd52_5 rfl fun a R => ?_
          obtain ⟨x66_48, cx66_48, h⟩ := h
          refine old R rfl Tryd.underlying29 rfl cx66_48 rfl fun a R => ?_
          refine op_call R (rn_calls R rfl cf10) rfl ?_
          refine call_mono (s_levylaw19_record _ _ _ _ h) ?_
          rintro _ w130 ⟨x67_49_0_0, x67_49_0_1, rfl, h⟩ a R
          obtain ⟨x5_50, e51, h⟩ := al_e h
          refine op_val (v := .pointer (some x5_50)) R (by rw [e51]; exact rn_al R ze37) rfl fun a R => ?_
          obtain ⟨q52, h⟩ := h
          refine op_unit R (rn_stN (vs := [.int .u8 x67_49_0_0, Sl.val x67_49_0_1]) R rfl rfl (ao ⟨rfl, rfl, trivial⟩) sz37 q52) fun a R => ?_
          refine wpList_nil ?_
          refine then_normal ?_
          refine wp_seq ?_
          refine region_start mo fun inv => ?_
          refine seg_same (n := 5) (f := 5) (g := 2) (by kernel_rfl) fun inv => ?_
          refine dr_val (i := 0) R (waits_dom (by kernel_rfl) (by kernel_rfl)) (by kernel_rfl) inv rfl (by decide) (by kernel_rfl) (by kernel_rfl) (fun _ _ _ h => h) wanted_none (fun w' hS => rn_mv R rfl) rfl (by decide) fun inv a R => ?_
          obtain ⟨x69_53, cx69_53, h⟩ := h
          refine dr_val (i := 1) R (waits_dom (by kernel_rfl) (by kernel_rfl)) (by kernel_rfl) inv rfl (by decide) (by kernel_rfl) (by kernel_rfl) (fun _ _ _ h => h) wanted_none (fun w' hS => rn_nil R rfl cx69_53) rfl (by decide) fun inv a R => ?_
          refine dr_val (i := 2) R (waits_dom (by kernel_rfl) (by kernel_rfl)) (by kernel_rfl) inv rfl (by decide) (by kernel_rfl) (by kernel_rfl) (fun _ _ _ h => h) wanted_none (fun w' hS => rn_fld R rfl fd32_1) rfl (by decide) fun inv a R => ?_
          obtain ⟨x71_54, cx71_54, h⟩ := h
          refine dr_val (i := 3) R (waits_dom (by kernel_rfl) (by kernel_rfl)) (by kernel_rfl) inv rfl (by decide) (by kernel_rfl) (by kernel_rfl) (fun _ _ _ h => h) wanted_none (fun w' hS => rn_ld R rfl Tryd.underlying28 rfl (cell_heap' hS cx71_54)) rfl (by decide) fun inv a R => ?_
          obtain ⟨x72_55_0, cx72_55_0, x72_55_1, cx72_55_1, h⟩ := h
          refine dr_val (i := 4) R (waits_dom (by kernel_rfl) (by kernel_rfl)) (by kernel_rfl) inv rfl (by decide) (by kernel_rfl) (by kernel_rfl) (fun _ _ _ h => h) wanted_none (fun w' hS => rn_ldN (cs := [.int .u8 x72_55_0, Sl.val x72_55_1]) R rfl Tryd.underlying37 rfl sz37 (cells_heap hS ⟨cx72_55_0, cx72_55_1, trivial⟩)) rfl (by decide) fun inv a R => ?_
          refine seg_end (by kernel_rfl) ?_
          refine any_tail 5 (by kernel_rfl) ?_
          refine op_call R (rn_calls R rfl cf9) rfl ?_
          refine call_mono (s_drawer_Drawer_Put _ _ _ _ _ h) ?_
          rintro _ w129 ⟨x73_56_0, rfl, h⟩ a R
          refine oas R rfl rfl fun a R => ?_
          refine wpList_nil ?_
          refine then_normal ?_
          refine wp_seq ?_
          refine wp_block ?_
          refine wp_seq ?_
          refine wp_region_lit ?_
          refine omv R rfl rfl fun a R => ?_
          refine op_val R (rn_bin (v := .bool (x73_56_0 == 0)) R rfl rfl rfl) rfl fun a R => ?_
          refine oas R rfl rfl fun a R => ?_
          refine wpList_nil ?_
          refine then_normal ?_
          rcases ite_cases h with ⟨g58, h⟩ | ⟨g58, h⟩
          ·refine wp_condT R (congrArg (fun b => some (Value.bool b)) g58) ?_
           refine seq_join (fun a w => Rep a 265 [(0, .pointer x0), (3, .pointer (some x3_1))] [] ∧ levylaw19_world_step.k59 x0 x3_1 Q w) ?_ ?_
           ·refine wp_seq ?_
            refine wp_region_lit ?_
            refine omv R rfl rfl fun a R => ?_
            obtain ⟨x78_91, cx78_91, h⟩ := h
            refine onl R rfl cx78_91 rfl fun a R => ?_
            refine ofd R rfl fd32_7 rfl fun a R => ?_
            obtain ⟨x80_92, cx80_92, h⟩ := h
            refine old R rfl Tryd.underlying4 rfl cx80_92 rfl fun a R => ?_
            refine wpList_nil ?_
            refine then_normal ?_
            rcases ite_cases h with ⟨g93, h⟩ | ⟨g93, h⟩
            ·refine wp_condT R (congrArg (fun b => some (Value.bool b)) g93) ?_
             refine wp_region_lit ?_
             refine omv R rfl rfl fun a R => ?_
             refine omv R rfl rfl fun a R => ?_
             obtain ⟨x83_94, cx83_94, h⟩ := h
             refine onl R rfl cx83_94 rfl fun a R => ?_
             refine ofd R rfl fd32_6 rfl fun a R => ?_
             obtain ⟨q95, f95, h⟩ := h
             refine op_unit R (rn_st R rfl rfl rfl sz23 q95 f95) fun a R => ?_
             obtain ⟨x85_96, cx85_96, h⟩ := h
             refine onl R rfl cx85_96 rfl fun a R => ?_
             refine ofd R rfl fd32_7 rfl fun a R => ?_
             obtain ⟨q97, f97, h⟩ := h
             refine op_unit R (rn_st R rfl rfl rfl sz4 q97 f97) fun a R => ?_
             refine wpList_nil ?_
             refine then_normal ?_
             exact ⟨R.weak ⟨rfl, rfl, trivial⟩, h⟩
            ·refine wp_condF R (congrArg (fun b => some (Value.bool b)) g93) ?_
             refine wp_skip ?_
             refine then_normal ?_
             exact ⟨R.weak ⟨rfl, rfl, trivial⟩, h⟩
           ·rintro a w ⟨R, h⟩
            unfold levylaw19_world_step.k59 at h
            refine wp_seq ?_
            refine region_start mo fun inv => ?_
            obtain ⟨x89_60, cx89_60, h⟩ := h
            obtain ⟨x91_61, cx91_61, h⟩ := h
            obtain ⟨x93_62, cx93_62, h⟩ := h
            obtain ⟨x95_63, cx95_63, h⟩ := h
            refine seg_held (n := 12) (f := 12) (g := 3) (fun w : World => w.cell? (x89_60.add 4) = some (Sl.val x91_61) ∧ w.cell? (x3_1.add 1) = some (.int .i64 x93_62) ∧ w.cell? (x3_1.add 5) = some (Sl.val x95_63) ∧ True) (by kernel_rfl) fun inv => ?_
            have hS0 : (fun w : World => w.cell? (x89_60.add 4) = some (Sl.val x91_61) ∧ w.cell? (x3_1.add 1) = some (.int .i64 x93_62) ∧ w.cell? (x3_1.add 5) = some (Sl.val x95_63) ∧ True) _ := ⟨cx91_61, cx93_62, cx95_63, trivial⟩
            refine dr_val (i := 0) R (waits_dom (by kernel_rfl) (by kernel_rfl)) (by kernel_rfl) inv rfl (by decide) (by kernel_rfl) (by kernel_rfl) (fun _ _ _ h => h) wanted_none (fun w' hS => rn_mv R rfl) hS0 rfl fun inv a R => ?_
            refine dr_val (i := 1) R (waits_dom (by kernel_rfl) (by kernel_rfl)) (by kernel_rfl) inv rfl (by decide) (by kernel_rfl) (by kernel_rfl) (fun _ _ _ h => h) wanted_none (fun w' hS => rn_mv R rfl) hS0 rfl fun inv a R => ?_
            refine dr_val (i := 2) R (waits_dom (by kernel_rfl) (by kernel_rfl)) (by kernel_rfl) inv rfl (by decide) (by kernel_rfl) (by kernel_rfl) (fun _ _ _ h => h) wanted_none (fun w' hS => rn_nil R rfl cx89_60) hS0 rfl fun inv a R => ?_
            refine dr_val (i := 3) R (waits_dom (by kernel_rfl) (by kernel_rfl)) (by kernel_rfl) inv rfl (by decide) (by kernel_rfl) (by kernel_rfl) (fun _ _ _ h => h) wanted_none (fun w' hS => rn_fld R rfl fd32_4) hS0 rfl fun inv a R => ?_
            refine dr_val (i := 4) R (waits_dom (by kernel_rfl) (by kernel_rfl)) (by kernel_rfl) inv rfl (by decide) (by kernel_rfl) (by kernel_rfl) (fun _ _ _ h => h) wanted_none (fun w' hS => rn_ld R rfl Tryd.underlying30 rfl (hS.1)) hS0 rfl fun inv a R => ?_
            refine dr_val (i := 5) R (waits_dom (by kernel_rfl) (by kernel_rfl)) (by kernel_rfl) inv rfl (by decide) (by kernel_rfl) (by kernel_rfl) (fun _ _ _ h => h) wanted_none (fun w' hS => rn_fld R rfl fd52_1) hS0 rfl fun inv a R => ?_
            refine dr_val (i := 6) R (waits_dom (by kernel_rfl) (by kernel_rfl)) (by kernel_rfl) inv rfl (by decide) (by kernel_rfl) (by kernel_rfl) (fun _ _ _ h => h) wanted_none (fun w' hS => rn_ld R rfl Tryd.underlying3 rfl (hS.2.1)) hS0 rfl fun inv a R => ?_
            refine dr_val (i := 7) R (waits_dom (by kernel_rfl) (by kernel_rfl)) (by kernel_rfl) inv rfl (by decide) (by kernel_rfl) (by kernel_rfl) (fun _ _ _ h => h) wanted_none (fun w' hS => rn_fld R rfl fd52_5) hS0 rfl fun inv a R => ?_
            refine dr_val (i := 8) R (waits_dom (by kernel_rfl) (by kernel_rfl)) (by kernel_rfl) inv rfl (by decide) (by kernel_rfl) (by kernel_rfl) (fun _ _ _ h => h) wanted_none (fun w' hS => rn_ld R rfl Tryd.underlying29 rfl (hS.2.2.1)) hS0 rfl fun inv a R => ?_
            refine dr_call (i := 9) R inv rfl (by decide) (by kernel_rfl) wanted_none (rn_calls R rfl cf10) rfl ?_
            refine call_mono (s_levylaw19_record _ _ _ _ h) ?_
            rintro _ w90 ⟨x96_64_0_0, x96_64_0_1, rfl, hS0, h⟩
            refine ⟨hS0, fun a inv R => ?_⟩
            obtain ⟨x97_65, e66, h⟩ := al_e h
            obtain ⟨hS0, h⟩ := h
            refine dr_run (v := .slice (some x97_65) 1 1) (i := 10) R inv rfl (by decide) (by kernel_rfl) wanted_none (by rw [e66]; exact rn_buildSlice (t := 30) (len := 1) (xs := [(0, (.tmp 96))]) (cells := #[.int .u8 x96_64_0_0, Sl.val x96_64_0_1]) (e := 37) R rfl (fun w => by kernel_rfl)) hS0 rfl fun inv a R => ?_
            obtain ⟨x98_68, w67, cx98_68, h⟩ := h
            obtain ⟨hS0, h⟩ := h
            refine dr_run (i := 11) R inv rfl (by decide) (by kernel_rfl) wanted_none (rn_bi (vs := [Sl.val x91_61, .slice (some x97_65) 1 1]) R rfl (fun _ => rfl) cx98_68) hS0 rfl fun inv a R => ?_
            refine seg_end (by kernel_rfl) ?_
            refine any_tail 12 (by kernel_rfl) ?_
            obtain ⟨x99_69, cx99_69, h⟩ := h
            refine onl R rfl cx99_69 rfl fun a R => ?_
            refine ofd R rfl fd32_4 rfl fun a R => ?_
            obtain ⟨q70, f70, h⟩ := h
            refine op_unit R (rn_st R rfl rfl rfl sz30 q70 f70) fun a R => ?_
            refine wpList_nil ?_
            refine then_normal ?_
            refine seq_join (fun a w => ∃ y71_4 : Bool, Rep a 265 [(4, .bool y71_4)] [] ∧ levylaw19_world_step.k71 y71_4 Q w) ?_ ?_
            ·refine region_start mo fun inv => ?_
             refine any_val (i := 0) R rfl (by kernel_rfl) wanted_none (rn_mv R rfl) rfl fun a R => ?_
             obtain ⟨x102_72, cx102_72, h⟩ := h
             refine any_val (i := 1) R rfl (by kernel_rfl) wanted_none (rn_nil R rfl cx102_72) rfl fun a R => ?_
             refine any_val (i := 2) R rfl (by kernel_rfl) wanted_none (rn_fld R rfl fd32_5) rfl fun a R => ?_
             obtain ⟨x104_73, cx104_73, h⟩ := h
             refine any_val (i := 3) R rfl (by kernel_rfl) wanted_none (rn_ld R rfl Tryd.underlying30 rfl cx104_73) rfl fun a R => ?_
             refine any_val (i := 4) R rfl (by kernel_rfl) wanted_none (rn_len R rfl Tryd.underlying30) rfl fun a R => ?_
             refine any_val (i := 5) R rfl (by kernel_rfl) wanted_none (rn_bin (v := .bool (((x104_73.len : Nat) : Int) == 0)) R rfl rfl rfl) rfl fun a R => ?_
             refine any_val (i := 6) R rfl (by kernel_rfl) wanted_none (rn_mv R rfl) rfl fun a R => ?_
             rcases ite_cases h with ⟨g76, h⟩ | ⟨g76, h⟩
             ·refine any_val (i := 7) R rfl (by kernel_rfl) (wanted_yes R rfl rfl rfl g76) (rn_mv R rfl) rfl fun a R => ?_
              obtain ⟨x109_77, cx109_77, h⟩ := h
              refine any_val (i := 8) R rfl (by kernel_rfl) (wanted_yes R rfl rfl rfl g76) (rn_nil R rfl cx109_77) rfl fun a R => ?_
              refine any_val (i := 9) R rfl (by kernel_rfl) (wanted_yes R rfl rfl rfl g76) (rn_fld R rfl fd32_6) rfl fun a R => ?_
              obtain ⟨x111_78, cx111_78, h⟩ := h
              refine any_val (i := 10) R rfl (by kernel_rfl) (wanted_yes R rfl rfl rfl g76) (rn_ld R rfl Tryd.underlying23 rfl cx111_78) rfl fun a R => ?_
              refine any_val (i := 11) R rfl (by kernel_rfl) (wanted_yes R rfl rfl rfl g76) (rn_len R rfl Tryd.underlying23) rfl fun a R => ?_
              refine any_val (i := 12) R rfl (by kernel_rfl) (wanted_yes R rfl rfl rfl g76) (rn_bin (v := .bool (((x111_78.len : Nat) : Int) == 0)) R rfl rfl rfl) rfl fun a R => ?_
              refine any_val (i := 13) R rfl (by kernel_rfl) wanted_none (rn_pickT R rfl g76 rfl) rfl fun a R => ?_
              refine any_val (i := 14) R rfl (by kernel_rfl) wanted_none (rn_mv R rfl) rfl fun a R => ?_
              rcases ite_cases h with ⟨g81, h⟩ | ⟨g81, h⟩
              ·obtain ⟨x117_82, cx117_82, h⟩ := h
               obtain ⟨x119_83, cx119_83, h⟩ := h
               obtain ⟨x122_84, cx122_84, h⟩ := h
               obtain ⟨x124_85, cx124_85, h⟩ := h
               refine seg_held (n := 25) (f := 10) (g := 3) (fun w : World => w.cell? (x117_82.add 1) = some (.pointer x119_83) ∧ w.cell? (x122_84.add 4) = some (Sl.val x124_85) ∧ True) (by kernel_rfl) fun inv => ?_
               have hS0 : (fun w : World => w.cell? (x117_82.add 1) = some (.pointer x119_83) ∧ w.cell? (x122_84.add 4) = some (Sl.val x124_85) ∧ True) _ := ⟨cx119_83, cx124_85, trivial⟩
               refine dr_val (i := 15) R (waits_dom (by kernel_rfl) (by kernel_rfl)) (by kernel_rfl) inv rfl (by decide) (by kernel_rfl) (by kernel_rfl) (fun _ _ _ h => h) (wanted_yes R rfl rfl rfl g81) (fun w' hS => rn_mv R rfl) hS0 rfl fun inv a R => ?_
               refine dr_val (i := 16) R (waits_dom (by kernel_rfl) (by kernel_rfl)) (by kernel_rfl) inv rfl (by decide) (by kernel_rfl) (by kernel_rfl) (fun _ _ _ h => h) (wanted_yes R rfl rfl rfl g81) (fun w' hS => rn_nil R rfl cx117_82) hS0 rfl fun inv a R => ?_
               refine dr_val (i := 17) R (waits_dom (by kernel_rfl) (by kernel_rfl)) (by kernel_rfl) inv rfl (by decide) (by kernel_rfl) (by kernel_rfl) (fun _ _ _ h => h) (wanted_yes R rfl rfl rfl g81) (fun w' hS => rn_fld R rfl fd32_1) hS0 rfl fun inv a R => ?_
               refine dr_val (i := 18) R (waits_dom (by kernel_rfl) (by kernel_rfl)) (by kernel_rfl) inv rfl (by decide) (by kernel_rfl) (by kernel_rfl) (fun _ _ _ h => h) (wanted_yes R rfl rfl rfl g81) (fun w' hS => rn_ld R rfl Tryd.underlying28 rfl (hS.1)) hS0 rfl fun inv a R => ?_
               refine dr_val (i := 20) R (waits_dom (by kernel_rfl) (by kernel_rfl)) (by kernel_rfl) inv rfl (by decide) (by kernel_rfl) (by kernel_rfl) (fun _ _ _ h => h) (wanted_yes R rfl rfl rfl g81) (fun w' hS => rn_mv R rfl) hS0 rfl fun inv a R => ?_
               refine dr_val (i := 21) R (waits_dom (by kernel_rfl) (by kernel_rfl)) (by kernel_rfl) inv rfl (by decide) (by kernel_rfl) (by kernel_rfl) (fun _ _ _ h => h) (wanted_yes R rfl rfl rfl g81) (fun w' hS => rn_nil R rfl cx122_84) hS0 rfl fun inv a R => ?_
               refine dr_val (i := 22) R (waits_dom (by kernel_rfl) (by kernel_rfl)) (by kernel_rfl) inv rfl (by decide) (by kernel_rfl) (by kernel_rfl) (fun _ _ _ h => h) (wanted_yes R rfl rfl rfl g81) (fun w' hS => rn_fld R rfl fd32_4) hS0 rfl fun inv a R => ?_
               refine dr_val (i := 23) R (waits_dom (by kernel_rfl) (by kernel_rfl)) (by kernel_rfl) inv rfl (by decide) (by kernel_rfl) (by kernel_rfl) (fun _ _ _ h => h) (wanted_yes R rfl rfl rfl g81) (fun w' hS => rn_ld R rfl Tryd.underlying30 rfl (hS.2.1)) hS0 rfl fun inv a R => ?_
               refine dr_val (i := 24) R (waits_dom (by kernel_rfl) (by kernel_rfl)) (by kernel_rfl) inv rfl (by decide) (by kernel_rfl) (by kernel_rfl) (fun _ _ _ h => h) (wanted_yes R rfl rfl rfl g81) (fun w' hS => rn_len R rfl Tryd.underlying30) hS0 rfl fun inv a R => ?_
               refine dr_call (i := 19) R inv rfl (by decide) (by kernel_rfl) (wanted_yes R rfl rfl rfl g81) (rn_calls R rfl cf23) rfl ?_
               refine call_mono (s_drawer_Drawer_Len _ _ _ h) ?_
               rintro _ w89 ⟨x120_87_0, rfl, hS0, h⟩
               refine ⟨hS0, fun a inv R => ?_⟩
               refine seg_end (by kernel_rfl) ?_
               refine any_tail 25 (by kernel_rfl) ?_
               refine op_guard R rfl rfl rfl g81 ?_
               refine op_val R (rn_bin (v := .bool (x120_87_0 == ((x124_85.len : Nat) : Int))) R rfl rfl rfl) rfl fun a R => ?_
               refine op_val R (rn_pickT R rfl g81 rfl) rfl fun a R => ?_
               refine oas R rfl rfl fun a R => ?_
               refine wpList_nil ?_
               refine then_normal ?_
               exact ⟨(x120_87_0 == ((x124_85.len : Nat) : Int)), R.weak ⟨rfl, trivial⟩, h⟩
              ·refine seg_held (n := 25) (f := 10) (g := 3) (fun w : World => True) (by kernel_rfl) fun inv => ?_
               have hS0 : True := trivial
               refine dr_pass (i := 15) R (waits_dom (by kernel_rfl) (by kernel_rfl)) (by kernel_rfl) inv rfl (by decide) (by kernel_rfl) (by kernel_rfl) (fun _ _ _ h => h) (wanted_no R rfl rfl rfl (ntf g81)) hS0 rfl fun inv a R => ?_
               refine dr_pass (i := 16) R (waits_dom (by kernel_rfl) (by kernel_rfl)) (by kernel_rfl) inv rfl (by decide) (by kernel_rfl) (by kernel_rfl) (fun _ _ _ h => h) (wanted_no R rfl rfl rfl (ntf g81)) hS0 rfl fun inv a R => ?_
               refine dr_pass (i := 17) R (waits_dom (by kernel_rfl) (by kernel_rfl)) (by kernel_rfl) inv rfl (by decide) (by kernel_rfl) (by kernel_rfl) (fun _ _ _ h => h) (wanted_no R rfl rfl rfl (ntf g81)) hS0 rfl fun inv a R => ?_
               refine dr_pass (i := 18) R (waits_dom (by kernel_rfl) (by kernel_rfl)) (by kernel_rfl) inv rfl (by decide) (by kernel_rfl) (by kernel_rfl) (fun _ _ _ h => h) (wanted_no R rfl rfl rfl (ntf g81)) hS0 rfl fun inv a R => ?_
               refine dr_pass (i := 20) R (waits_dom (by kernel_rfl) (by kernel_rfl)) (by kernel_rfl) inv rfl (by decide) (by kernel_rfl) (by kernel_rfl) (fun _ _ _ h => h) (wanted_no R rfl rfl rfl (ntf g81)) hS0 rfl fun inv a R => ?_
               refine dr_pass (i := 21) R (waits_dom (by kernel_rfl) (by kernel_rfl)) (by kernel_rfl) inv rfl (by decide) (by kernel_rfl) (by kernel_rfl) (fun _ _ _ h => h) (wanted_no R rfl rfl rfl (ntf g81)) hS0 rfl fun inv a R => ?_
               refine dr_pass (i := 22) R (waits_dom (by kernel_rfl) (by kernel_rfl)) (by kernel_rfl) inv rfl (by decide) (by kernel_rfl) (by kernel_rfl) (fun _ _ _ h => h) (wanted_no R rfl rfl rfl (ntf g81)) hS0 rfl fun inv a R => ?_
               refine dr_pass (i := 23) R (waits_dom (by kernel_rfl) (by kernel_rfl)) (by kernel_rfl) inv rfl (by decide) (by kernel_rfl) (by kernel_rfl) (fun _ _ _ h => h) (wanted_no R rfl rfl rfl (ntf g81)) hS0 rfl fun inv a R => ?_
               refine dr_pass (i := 24) R (waits_dom (by kernel_rfl) (by kernel_rfl)) (by kernel_rfl) inv rfl (by decide) (by kernel_rfl) (by kernel_rfl) (fun _ _ _ h => h) (wanted_no R rfl rfl rfl (ntf g81)) hS0 rfl fun inv a R => ?_
               refine dr_pass (i := 19) R (waits_dom (by kernel_rfl) (by kernel_rfl)) (by kernel_rfl) inv rfl (by decide) (by kernel_rfl) (by kernel_rfl) (fun _ _ _ h => h) (wanted_no R rfl rfl rfl (ntf g81)) hS0 rfl fun inv a R => ?_
               refine seg_end (by kernel_rfl) ?_
               refine any_tail 25 (by kernel_rfl) ?_
               refine op_pass R rfl rfl rfl (ntf g81) (fun a R => ?_) (by intro s hs; cases hs; rfl)
               refine op_val R (rn_pickF R rfl g81 rfl) rfl fun a R => ?_
               refine oas R rfl rfl fun a R => ?_
               refine wpList_nil ?_
               refine then_normal ?_
               exact ⟨false, R.weak ⟨rfl, trivial⟩, h⟩
             ·refine any_pass (i := 7) R rfl (by kernel_rfl) (wanted_no R rfl rfl rfl (ntf g76)) rfl fun a R => ?_
              refine any_pass (i := 8) R rfl (by kernel_rfl) (wanted_no R rfl rfl rfl (ntf g76)) rfl fun a R => ?_
              refine any_pass (i := 9) R rfl (by kernel_rfl) (wanted_no R rfl rfl rfl (ntf g76)) rfl fun a R => ?_
              refine any_pass (i := 10) R rfl (by kernel_rfl) (wanted_no R rfl rfl rfl (ntf g76)) rfl fun a R => ?_
              refine any_pass (i := 11) R rfl (by kernel_rfl) (wanted_no R rfl rfl rfl (ntf g76)) rfl fun a R => ?_
              refine any_pass (i := 12) R rfl (by kernel_rfl) (wanted_no R rfl rfl rfl (ntf g76)) rfl fun a R => ?_
              refine any_val (i := 13) R rfl (by kernel_rfl) wanted_none (rn_pickF R rfl g76 rfl) rfl fun a R => ?_
              refine any_val (i := 14) R rfl (by kernel_rfl) wanted_none (rn_mv R rfl) rfl fun a R => ?_
              refine seg_held (n := 25) (f := 10) (g := 3) (fun w : World => True) (by kernel_rfl) fun inv => ?_
              have hS0 : True := trivial
              refine dr_pass (i := 15) R (waits_dom (by kernel_rfl) (by kernel_rfl)) (by kernel_rfl) inv rfl (by decide) (by kernel_rfl) (by kernel_rfl) (fun _ _ _ h => h) (wanted_no R rfl rfl rfl (ntf rfl)) hS0 rfl fun inv a R => ?_
              refine dr_pass (i := 16) R (waits_dom (by kernel_rfl) (by kernel_rfl)) (by kernel_rfl) inv rfl (by decide) (by kernel_rfl) (by kernel_rfl) (fun _ _ _ h => h) (wanted_no R rfl rfl rfl (ntf rfl)) hS0 rfl fun inv a R => ?_
              refine dr_pass (i := 17) R (waits_dom (by kernel_rfl) (by kernel_rfl)) (by kernel_rfl) inv rfl (by decide) (by kernel_rfl) (by kernel_rfl) (fun _ _ _ h => h) (wanted_no R rfl rfl rfl (ntf rfl)) hS0 rfl fun inv a R => ?_
              refine dr_pass (i := 18) R (waits_dom (by kernel_rfl) (by kernel_rfl)) (by kernel_rfl) inv rfl (by decide) (by kernel_rfl) (by kernel_rfl) (fun _ _ _ h => h) (wanted_no R rfl rfl rfl (ntf rfl)) hS0 rfl fun inv a R => ?_
              refine dr_pass (i := 20) R (waits_dom (by kernel_rfl) (by kernel_rfl)) (by kernel_rfl) inv rfl (by decide) (by kernel_rfl) (by kernel_rfl) (fun _ _ _ h => h) (wanted_no R rfl rfl rfl (ntf rfl)) hS0 rfl fun inv a R => ?_
              refine dr_pass (i := 21) R (waits_dom (by kernel_rfl) (by kernel_rfl)) (by kernel_rfl) inv rfl (by decide) (by kernel_rfl) (by kernel_rfl) (fun _ _ _ h => h) (wanted_no R rfl rfl rfl (ntf rfl)) hS0 rfl fun inv a R => ?_
              refine dr_pass (i := 22) R (waits_dom (by kernel_rfl) (by kernel_rfl)) (by kernel_rfl) inv rfl (by decide) (by kernel_rfl) (by kernel_rfl) (fun _ _ _ h => h) (wanted_no R rfl rfl rfl (ntf rfl)) hS0 rfl fun inv a R => ?_
              refine dr_pass (i := 23) R (waits_dom (by kernel_rfl) (by kernel_rfl)) (by kernel_rfl) inv rfl (by decide) (by kernel_rfl) (by kernel_rfl) (fun _ _ _ h => h) (wanted_no R rfl rfl rfl (ntf rfl)) hS0 rfl fun inv a R => ?_
              refine dr_pass (i := 24) R (waits_dom (by kernel_rfl) (by kernel_rfl)) (by kernel_rfl) inv rfl (by decide) (by kernel_rfl) (by kernel_rfl) (fun _ _ _ h => h) (wanted_no R rfl rfl rfl (ntf rfl)) hS0 rfl fun inv a R => ?_
              refine dr_pass (i := 19) R (waits_dom (by kernel_rfl) (by kernel_rfl)) (by kernel_rfl) inv rfl (by decide) (by kernel_rfl) (by kernel_rfl) (fun _ _ _ h => h) (wanted_no R rfl rfl rfl (ntf rfl)) hS0 rfl fun inv a R => ?_
              refine seg_end (by kernel_rfl) ?_
              refine any_tail 25 (by kernel_rfl) ?_
              refine op_pass R rfl rfl rfl (ntf rfl) (fun a R => ?_) (by intro s hs; cases hs; rfl)
              refine op_val R (rn_pickF R rfl rfl rfl) rfl fun a R => ?_
              refine oas R rfl rfl fun a R => ?_
              refine wpList_nil ?_
              refine then_normal ?_
              exact ⟨false, R.weak ⟨rfl, trivial⟩, h⟩
            ·rintro a w ⟨y71_4, R, h⟩
             unfold levylaw19_world_step.k71 at h
             refine wp_ret ?_
             refine block_ret ?_
             refine then_ret ?_
             refine block_ret ?_
             refine then_ret ?_
             exact post_ret R rfl rfl ⟨y71_4, rfl, h⟩
          ·refine wp_condF R (congrArg (fun b => some (Value.bool b)) g58) ?_
           refine wp_seq ?_
           refine wp_region_lit ?_
           refine omv R rfl rfl fun a R => ?_
           refine op_val R (rn_bin (v := .bool (x73_56_0 == 196)) R rfl rfl rfl) rfl fun a R => ?_
           refine oas R rfl rfl fun a R => ?_
           refine wpList_nil ?_
           refine then_normal ?_
           rcases ite_cases h with ⟨g99, h⟩ | ⟨g99, h⟩
           ·refine wp_condT R (congrArg (fun b => some (Value.bool b)) g99) ?_
            refine seq_join (fun a w => ∃ y100_4 : Bool, Rep a 265 [(4, .bool y100_4)] [] ∧ levylaw19_world_step.k100 y100_4 Q w) ?_ ?_
            ·refine wp_region_lit ?_
             refine omv R rfl rfl fun a R => ?_
             obtain ⟨x132_101, cx132_101, h⟩ := h
             refine onl R rfl cx132_101 rfl fun a R => ?_
             refine ofd R rfl fd32_5 rfl fun a R => ?_
             obtain ⟨x134_102, cx134_102, h⟩ := h
             refine old R rfl Tryd.underlying30 rfl cx134_102 rfl fun a R => ?_
             refine op_val R (rn_len R rfl Tryd.underlying30) rfl fun a R => ?_
             refine op_val R (rn_bin (v := .bool (((x134_102.len : Nat) : Int) == 1)) R rfl rfl rfl) rfl fun a R => ?_
             refine omv R rfl rfl fun a R => ?_
             rcases ite_cases h with ⟨g105, h⟩ | ⟨g105, h⟩
             ·refine op_pass R rfl rfl rfl (nft g105) (fun a R => ?_) (by intro s hs; cases hs; rfl)
              refine op_pass R rfl rfl rfl (nft g105) (fun a R => ?_) (by intro s hs; cases hs; rfl)
              refine op_pass R rfl rfl rfl (nft g105) (fun a R => ?_) (by intro s hs; cases hs; rfl)
              refine op_pass R rfl rfl rfl (nft g105) (fun a R => ?_) (by intro s hs; cases hs; rfl)
              refine op_pass R rfl rfl rfl (nft g105) (fun a R => ?_) (by intro s hs; cases hs; rfl)
              refine op_pass R rfl rfl rfl (nft g105) (fun a R => ?_) (by intro s hs; cases hs; rfl)
              refine op_val R (rn_pickT R rfl g105 rfl) rfl fun a R => ?_
              refine oas R rfl rfl fun a R => ?_
              refine wpList_nil ?_
              refine then_normal ?_
              exact ⟨true, R.weak ⟨rfl, trivial⟩, h⟩
             ·refine op_guard R rfl rfl rfl g105 ?_
              refine omv R rfl rfl fun a R => ?_
              refine op_guard R rfl rfl rfl g105 ?_
              obtain ⟨x139_106, cx139_106, h⟩ := h
              refine onl R rfl cx139_106 rfl fun a R => ?_
              refine op_guard R rfl rfl rfl g105 ?_
              refine ofd R rfl fd32_6 rfl fun a R => ?_
              refine op_guard R rfl rfl rfl g105 ?_
              obtain ⟨x141_107, cx141_107, h⟩ := h
              refine old R rfl Tryd.underlying23 rfl cx141_107 rfl fun a R => ?_
              refine op_guard R rfl rfl rfl g105 ?_
              refine op_val R (rn_len R rfl Tryd.underlying23) rfl fun a R => ?_
              refine op_guard R rfl rfl rfl g105 ?_
              refine op_val R (rn_bin (v := .bool (((x141_107.len : Nat) : Int) == 1)) R rfl rfl rfl) rfl fun a R => ?_
              refine op_val R (rn_pickF R rfl g105 rfl) rfl fun a R => ?_
              refine oas R rfl rfl fun a R => ?_
              refine wpList_nil ?_
              refine then_normal ?_
              exact ⟨(((x141_107.len : Nat) : Int) == 1), R.weak ⟨rfl, trivial⟩, h⟩
            ·rintro a w ⟨y100_4, R, h⟩
             unfold levylaw19_world_step.k100 at h
             refine wp_ret ?_
             refine block_ret ?_
             refine then_ret ?_
             refine block_ret ?_
             refine then_ret ?_
             exact post_ret R rfl rfl ⟨y100_4, rfl, h⟩
           ·refine wp_condF R (congrArg (fun b => some (Value.bool b)) g99) ?_
            refine wp_seq ?_
            refine wp_region_lit ?_
            refine omv R rfl rfl fun a R => ?_
            refine op_val R (rn_bin (v := .bool (x73_56_0 == 197)) R rfl rfl rfl) rfl fun a R => ?_
            refine oas R rfl rfl fun a R => ?_
            refine wpList_nil ?_
            refine then_normal ?_
            rcases ite_cases h with ⟨g111, h⟩ | ⟨g111, h⟩
            ·refine wp_condT R (congrArg (fun b => some (Value.bool b)) g111) ?_
             refine wp_seq ?_
             refine wp_region_lit ?_
             refine ofd R rfl fd52_5 rfl fun a R => ?_
             obtain ⟨x149_112, cx149_112, h⟩ := h
             refine old R rfl Tryd.underlying29 rfl cx149_112 rfl fun a R => ?_
             refine op_val R (rn_len R rfl Tryd.underlying29) rfl fun a R => ?_
             refine op_val R (rn_bin (v := .bool (decide (((x149_112.len : Nat) : Int) > 1048576))) R rfl rfl rfl) rfl fun a R => ?_
             refine oas R rfl rfl fun a R => ?_
             refine wpList_nil ?_
             refine then_normal ?_
             refine wp_ret ?_
             refine block_ret ?_
             refine then_ret ?_
             refine block_ret ?_
             refine then_ret ?_
             exact post_ret R rfl rfl ⟨(decide (((x149_112.len : Nat) : Int) > 1048576)), rfl, h⟩
            ·refine wp_condF R (congrArg (fun b => some (Value.bool b)) g111) ?_
             refine wp_skip ?_
             refine block_normal ?_
             refine then_normal ?_
             refine wp_seq ?_
             refine wp_region_lit ?_
             refine omv R rfl rfl fun a R => ?_
             refine ofd R rfl fd52_1 rfl fun a R => ?_
             obtain ⟨x154_115, cx154_115, h⟩ := h
             refine old R rfl Tryd.underlying3 rfl cx154_115 rfl fun a R => ?_
             refine ofd R rfl fd52_5 rfl fun a R => ?_
             obtain ⟨x156_116, cx156_116, h⟩ := h
             refine old R rfl Tryd.underlying29 rfl cx156_116 rfl fun a R => ?_
             refine op_call R (rn_calls R rfl cf10) rfl ?_
             refine call_mono (s_levylaw19_record _ _ _ _ h) ?_
             rintro _ w128 ⟨x157_117_0_0, x157_117_0_1, rfl, h⟩ a R
             obtain ⟨x158_118, e119, h⟩ := al_e h
             refine op_val (v := .slice (some x158_118) 1 1) R (by rw [e119]; exact rn_buildSlice (t := 30) (len := 1) (xs := [(0, (.tmp 157))]) (cells := #[.int .u8 x157_117_0_0, Sl.val x157_117_0_1]) (e := 37) R rfl (fun w => by kernel_rfl)) rfl fun a R => ?_
             obtain ⟨x159_120, cx159_120, h⟩ := h
             refine onl R rfl cx159_120 rfl fun a R => ?_
             refine ofd R rfl fd32_5 rfl fun a R => ?_
             obtain ⟨q121, f121, h⟩ := h
             refine op_unit R (rn_st R rfl rfl rfl sz30 q121 f121) fun a R => ?_
             refine wpList_nil ?_
             refine then_normal ?_
             refine seq_join (fun a w => ∃ y122_4 : Bool, Rep a 265 [(4, .bool y122_4)] [] ∧ levylaw19_world_step.k122 y122_4 Q w) ?_ ?_
             ·refine wp_region_lit ?_
              refine omv R rfl rfl fun a R => ?_
              refine op_val R (rn_bin (v := .bool (x73_56_0 == 190)) R rfl rfl rfl) rfl fun a R => ?_
              refine omv R rfl rfl fun a R => ?_
              rcases ite_cases h with ⟨g124, h⟩ | ⟨g124, h⟩
              ·refine op_pass R rfl rfl rfl (nft g124) (fun a R => ?_) (by intro s hs; cases hs; rfl)
               refine op_pass R rfl rfl rfl (nft g124) (fun a R => ?_) (by intro s hs; cases hs; rfl)
               refine op_val R (rn_pickT R rfl g124 rfl) rfl fun a R => ?_
               refine omv R rfl rfl fun a R => ?_
               refine op_pass R rfl rfl rfl (nft rfl) (fun a R => ?_) (by intro s hs; cases hs; rfl)
               refine op_pass R rfl rfl rfl (nft rfl) (fun a R => ?_) (by intro s hs; cases hs; rfl)
               refine op_val R (rn_pickT R rfl rfl rfl) rfl fun a R => ?_
               refine oas R rfl rfl fun a R => ?_
               refine wpList_nil ?_
               refine then_normal ?_
               exact ⟨true, R.weak ⟨rfl, trivial⟩, h⟩
              ·refine op_guard R rfl rfl rfl g124 ?_
               refine omv R rfl rfl fun a R => ?_
               refine op_guard R rfl rfl rfl g124 ?_
               refine op_val R (rn_bin (v := .bool (x73_56_0 == 191)) R rfl rfl rfl) rfl fun a R => ?_
               refine op_val R (rn_pickF R rfl g124 rfl) rfl fun a R => ?_
               refine omv R rfl rfl fun a R => ?_
               rcases ite_cases h with ⟨g126, h⟩ | ⟨g126, h⟩
               ·refine op_pass R rfl rfl rfl (nft g126) (fun a R => ?_) (by intro s hs; cases hs; rfl)
                refine op_pass R rfl rfl rfl (nft g126) (fun a R => ?_) (by intro s hs; cases hs; rfl)
                refine op_val R (rn_pickT R rfl g126 rfl) rfl fun a R => ?_
                refine oas R rfl rfl fun a R => ?_
                refine wpList_nil ?_
                refine then_normal ?_
                exact ⟨true, R.weak ⟨rfl, trivial⟩, h⟩
               ·refine op_guard R rfl rfl rfl g126 ?_
                refine omv R rfl rfl fun a R => ?_
                refine op_guard R rfl rfl rfl g126 ?_
                refine op_val R (rn_bin (v := .bool (x73_56_0 == 194)) R rfl rfl rfl) rfl fun a R => ?_
                refine op_val R (rn_pickF R rfl g126 rfl) rfl fun a R => ?_
                refine oas R rfl rfl fun a R => ?_
                refine wpList_nil ?_
                refine then_normal ?_
                exact ⟨(x73_56_0 == 194), R.weak ⟨rfl, trivial⟩, h⟩
             ·rintro a w ⟨y122_4, R, h⟩
              unfold levylaw19_world_step.k122 at h
              refine wp_ret ?_
              refine block_ret ?_
              refine then_ret ?_
              exact post_ret R rfl rfl ⟨y122_4, rfl, h⟩
        ·refine wp_condF R (congrArg (fun b => some (Value.bool b)) g43) ?_
         refine wp_seq ?_
         refine wp_region_lit ?_
         refine op_val R (rn_bin (v := .bool (x9_4 == 13)) R rfl rfl rfl) rfl fun a R => ?_
         refine oas R rfl rfl fun a R => ?_
         refine wpList_nil ?_
         refine then_normal ?_
         rcases ite_cases h with ⟨g132, h⟩ | ⟨g132, h⟩
         ·refine wp_condT R (congrArg (fun b => some (Value.bool b)) g132) ?_
          refine wp_seq ?_
          refine wp_seq ?_
          refine wp_region_lit ?_
          refine omv R rfl rfl fun a R => ?_
          obtain ⟨x174_133, cx174_133, h⟩ := h
          refine onl R rfl cx174_133 rfl fun a R => ?_
          refine ofd R rfl fd32_1 rfl fun a R => ?_
          obtain ⟨x176_134, cx176_134, h⟩ := h
          refine old R rfl Tryd.underlying28 rfl cx176_134 rfl fun a R => ?_
          refine op_val R (rn_nilPE R rfl rfl Tryd.underlying28) rfl fun a R => ?_
          refine wpList_nil ?_
          refine then_normal ?_
          rcases ite_cases h with ⟨g135, h⟩ | ⟨g135, h⟩
          ·refine wp_condT R (congrArg (fun b => some (Value.bool b)) g135) ?_
           refine wp_seq ?_
           refine wp_region_lit ?_
           refine oas R rfl rfl fun a R => ?_
           refine wpList_nil ?_
           refine then_normal ?_
           refine wp_ret ?_
           refine then_ret ?_
           refine block_ret ?_
           refine then_ret ?_
           exact post_ret R rfl rfl ⟨true, rfl, h⟩
          ·refine wp_condF R (congrArg (fun b => some (Value.bool b)) g135) ?_
           refine wp_skip ?_
           refine then_normal ?_
           refine wp_seq ?_
           refine region_start mo fun inv => ?_
           refine seg_same (n := 6) (f := 6) (g := 2) (by kernel_rfl) fun inv => ?_
           refine dr_val (i := 0) R (waits_dom (by kernel_rfl) (by kernel_rfl)) (by kernel_rfl) inv rfl (by decide) (by kernel_rfl) (by kernel_rfl) (fun _ _ _ h => h) wanted_none (fun w' hS => rn_mv R rfl) rfl (by decide) fun inv a R => ?_
           obtain ⟨x179_136, cx179_136, h⟩ := h
           refine dr_val (i := 1) R (waits_dom (by kernel_rfl) (by kernel_rfl)) (by kernel_rfl) inv rfl (by decide) (by kernel_rfl) (by kernel_rfl) (fun _ _ _ h => h) wanted_none (fun w' hS => rn_nil R rfl cx179_136) rfl (by decide) fun inv a R => ?_
           refine dr_val (i := 2) R (waits_dom (by kernel_rfl) (by kernel_rfl)) (by kernel_rfl) inv rfl (by decide) (by kernel_rfl) (by kernel_rfl) (fun _ _ _ h => h) wanted_none (fun w' hS => rn_fld R rfl fd32_1) rfl (by decide) fun inv a R => ?_
           obtain ⟨x181_137, cx181_137, h⟩ := h
           refine dr_val (i := 3) R (waits_dom (by kernel_rfl) (by kernel_rfl)) (by kernel_rfl) inv rfl (by decide) (by kernel_rfl) (by kernel_rfl) (fun _ _ _ h => h) wanted_none (fun w' hS => rn_ld R rfl Tryd.underlying28 rfl (cell_heap' hS cx181_137)) rfl (by decide) fun inv a R => ?_
           refine dr_val (i := 4) R (waits_dom (by kernel_rfl) (by kernel_rfl)) (by kernel_rfl) inv rfl (by decide) (by kernel_rfl) (by kernel_rfl) (fun _ _ _ h => h) wanted_none (fun w' hS => rn_fld R rfl fd52_5) rfl (by decide) fun inv a R => ?_
           obtain ⟨x183_138, cx183_138, h⟩ := h
           refine dr_val (i := 5) R (waits_dom (by kernel_rfl) (by kernel_rfl)) (by kernel_rfl) inv rfl (by decide) (by kernel_rfl) (by kernel_rfl) (fun _ _ _ h => h) wanted_none (fun w' hS => rn_ld R rfl Tryd.underlying29 rfl (cell_heap' hS cx183_138)) rfl (by decide) fun inv a R => ?_
           refine seg_end (by kernel_rfl) ?_
           refine any_tail 6 (by kernel_rfl) ?_
           refine op_call R (rn_calls R rfl cf32) rfl ?_
           refine call_mono (s_drawer_Drawer_Fold _ _ _ _ h) ?_
           rintro _ w198 ⟨x184_139_0, rfl, h⟩ a R
           refine oas R rfl rfl fun a R => ?_
           refine wpList_nil ?_
           refine then_normal ?_
           refine wp_seq ?_
           refine wp_block ?_
           refine wp_seq ?_
           refine wp_region_lit ?_
           refine omv R rfl rfl fun a R => ?_
           refine op_val R (rn_bin (v := .bool (x184_139_0 == 0)) R rfl rfl rfl) rfl fun a R => ?_
           refine oas R rfl rfl fun a R => ?_
           refine wpList_nil ?_
           refine then_normal ?_
           rcases ite_cases h with ⟨g141, h⟩ | ⟨g141, h⟩
           ·refine wp_condT R (congrArg (fun b => some (Value.bool b)) g141) ?_
            refine wp_seq ?_
            refine wp_region_lit ?_
            refine omv R rfl rfl fun a R => ?_
            refine ofd R rfl fd52_5 rfl fun a R => ?_
            obtain ⟨x190_142, cx190_142, h⟩ := h
            refine old R rfl Tryd.underlying29 rfl cx190_142 rfl fun a R => ?_
            obtain ⟨x191_144, w143, cx191_144, h⟩ := h
            refine op_val R (rn_bi (vs := [.slice none 0 0, Sl.val x190_142]) R rfl (fun _ => rfl) cx191_144) rfl fun a R => ?_
            obtain ⟨x192_145, cx192_145, h⟩ := h
            refine onl R rfl cx192_145 rfl fun a R => ?_
            refine ofd R rfl fd32_3 rfl fun a R => ?_
            obtain ⟨q146, f146, h⟩ := h
            refine op_unit R (rn_st R rfl rfl rfl sz29 q146 f146) fun a R => ?_
            refine wpList_nil ?_
            refine then_normal ?_
            refine wp_seq ?_
            refine wp_region_lit ?_
            refine omv R rfl rfl fun a R => ?_
            obtain ⟨x195_147, cx195_147, h⟩ := h
            refine onl R rfl cx195_147 rfl fun a R => ?_
            refine ofd R rfl fd32_4 rfl fun a R => ?_
            obtain ⟨q148, f148, h⟩ := h
            refine op_unit R (rn_st R rfl rfl rfl sz30 q148 f148) fun a R => ?_
            refine wpList_nil ?_
            refine then_normal ?_
            refine seq_join (fun a w => ∃ y149_4 : Bool, Rep a 265 [(4, .bool y149_4)] [] ∧ levylaw19_world_step.k149 y149_4 Q w) ?_ ?_
            ·refine wp_region_lit ?_
             refine omv R rfl rfl fun a R => ?_
             obtain ⟨x198_150, cx198_150, h⟩ := h
             refine onl R rfl cx198_150 rfl fun a R => ?_
             refine ofd R rfl fd32_5 rfl fun a R => ?_
             obtain ⟨x200_151, cx200_151, h⟩ := h
             refine old R rfl Tryd.underlying30 rfl cx200_151 rfl fun a R => ?_
             refine op_val R (rn_len R rfl Tryd.underlying30) rfl fun a R => ?_
             refine op_val R (rn_bin (v := .bool (((x200_151.len : Nat) : Int) == 0)) R rfl rfl rfl) rfl fun a R => ?_
             refine omv R rfl rfl fun a R => ?_
             rcases ite_cases h with ⟨g154, h⟩ | ⟨g154, h⟩
             ·refine op_guard R rfl rfl rfl g154 ?_
              refine omv R rfl rfl fun a R => ?_
              refine op_guard R rfl rfl rfl g154 ?_
              obtain ⟨x205_155, cx205_155, h⟩ := h
              refine onl R rfl cx205_155 rfl fun a R => ?_
              refine op_guard R rfl rfl rfl g154 ?_
              refine ofd R rfl fd32_6 rfl fun a R => ?_
              refine op_guard R rfl rfl rfl g154 ?_
              obtain ⟨x207_156, cx207_156, h⟩ := h
              refine old R rfl Tryd.underlying23 rfl cx207_156 rfl fun a R => ?_
              refine op_guard R rfl rfl rfl g154 ?_
              refine op_val R (rn_len R rfl Tryd.underlying23) rfl fun a R => ?_
              refine op_guard R rfl rfl rfl g154 ?_
              refine op_val R (rn_bin (v := .bool (((x207_156.len : Nat) : Int) == 0)) R rfl rfl rfl) rfl fun a R => ?_
              refine op_val R (rn_pickT R rfl g154 rfl) rfl fun a R => ?_
              refine omv R rfl rfl fun a R => ?_
              rcases ite_cases h with ⟨g159, h⟩ | ⟨g159, h⟩
              ·refine op_guard R rfl rfl rfl g159 ?_
               refine omv R rfl rfl fun a R => ?_
               refine op_guard R rfl rfl rfl g159 ?_
               obtain ⟨x213_160, cx213_160, h⟩ := h
               refine onl R rfl cx213_160 rfl fun a R => ?_
               refine op_guard R rfl rfl rfl g159 ?_
               refine ofd R rfl fd32_1 rfl fun a R => ?_
               refine op_guard R rfl rfl rfl g159 ?_
               obtain ⟨x215_161, cx215_161, h⟩ := h
               refine old R rfl Tryd.underlying28 rfl cx215_161 rfl fun a R => ?_
               refine op_guard R rfl rfl rfl g159 ?_
               refine op_call R (rn_calls R rfl cf23) rfl ?_
               refine call_mono (s_drawer_Drawer_Len _ _ _ h) ?_
               rintro _ w164 ⟨x216_162_0, rfl, h⟩ a R
               refine op_guard R rfl rfl rfl g159 ?_
               refine op_val R (rn_bin (v := .bool (x216_162_0 == 0)) R rfl rfl rfl) rfl fun a R => ?_
               refine op_val R (rn_pickT R rfl g159 rfl) rfl fun a R => ?_
               refine oas R rfl rfl fun a R => ?_
               refine wpList_nil ?_
               refine then_normal ?_
               exact ⟨(x216_162_0 == 0), R.weak ⟨rfl, trivial⟩, h⟩
              ·refine op_pass R rfl rfl rfl (ntf g159) (fun a R => ?_) (by intro s hs; cases hs; rfl)
               refine op_pass R rfl rfl rfl (ntf g159) (fun a R => ?_) (by intro s hs; cases hs; rfl)
               refine op_pass R rfl rfl rfl (ntf g159) (fun a R => ?_) (by intro s hs; cases hs; rfl)
               refine op_pass R rfl rfl rfl (ntf g159) (fun a R => ?_) (by intro s hs; cases hs; rfl)
               refine op_pass R rfl rfl rfl (ntf g159) (fun a R => ?_) (by intro s hs; cases hs; rfl)
               refine op_pass R rfl rfl rfl (ntf g159) (fun a R => ?_) (by intro s hs; cases hs; rfl)
               refine op_val R (rn_pickF R rfl g159 rfl) rfl fun a R => ?_
               refine oas R rfl rfl fun a R => ?_
               refine wpList_nil ?_
               refine then_normal ?_
               exact ⟨false, R.weak ⟨rfl, trivial⟩, h⟩
             ·refine op_pass R rfl rfl rfl (ntf g154) (fun a R => ?_) (by intro s hs; cases hs; rfl)
              refine op_pass R rfl rfl rfl (ntf g154) (fun a R => ?_) (by intro s hs; cases hs; rfl)
              refine op_pass R rfl rfl rfl (ntf g154) (fun a R => ?_) (by intro s hs; cases hs; rfl)
              refine op_pass R rfl rfl rfl (ntf g154) (fun a R => ?_) (by intro s hs; cases hs; rfl)
              refine op_pass R rfl rfl rfl (ntf g154) (fun a R => ?_) (by intro s hs; cases hs; rfl)
              refine op_pass R rfl rfl rfl (ntf g154) (fun a R => ?_) (by intro s hs; cases hs; rfl)
              refine op_val R (rn_pickF R rfl g154 rfl) rfl fun a R => ?_
              refine omv R rfl rfl fun a R => ?_
              refine op_pass R rfl rfl rfl (ntf rfl) (fun a R => ?_) (by intro s hs; cases hs; rfl)
              refine op_pass R rfl rfl rfl (ntf rfl) (fun a R => ?_) (by intro s hs; cases hs; rfl)
              refine op_pass R rfl rfl rfl (ntf rfl) (fun a R => ?_) (by intro s hs; cases hs; rfl)
              refine op_pass R rfl rfl rfl (ntf rfl) (fun a R => ?_) (by intro s hs; cases hs; rfl)
              refine op_pass R rfl rfl rfl (ntf rfl) (fun a R => ?_) (by intro s hs; cases hs; rfl)
              refine op_pass R rfl rfl rfl (ntf rfl) (fun a R => ?_) (by intro s hs; cases hs; rfl)
              refine op_val R (rn_pickF R rfl rfl rfl) rfl fun a R => ?_
              refine oas R rfl rfl fun a R => ?_
              refine wpList_nil ?_
              refine then_normal ?_
              exact ⟨false, R.weak ⟨rfl, trivial⟩, h⟩
            ·rintro a w ⟨y149_4, R, h⟩
             unfold levylaw19_world_step.k149 at h
             refine wp_ret ?_
             refine block_ret ?_
             refine then_ret ?_
             refine block_ret ?_
             refine then_ret ?_
             exact post_ret R rfl rfl ⟨y149_4, rfl, h⟩
           ·refine wp_condF R (congrArg (fun b => some (Value.bool b)) g141) ?_
            refine wp_seq ?_
            refine wp_region_lit ?_
            refine omv R rfl rfl fun a R => ?_
            refine op_val R (rn_bin (v := .bool (x184_139_0 == 196)) R rfl rfl rfl) rfl fun a R => ?_
            refine oas R rfl rfl fun a R => ?_
            refine wpList_nil ?_
            refine then_normal ?_
            rcases ite_cases h with ⟨g166, h⟩ | ⟨g166, h⟩
            ·refine wp_condT R (congrArg (fun b => some (Value.bool b)) g166) ?_
             refine seq_join (fun a w => ∃ y167_4 : Bool, Rep a 265 [(4, .bool y167_4)] [] ∧ levylaw19_world_step.k167 y167_4 Q w) ?_ ?_
             ·refine wp_region_lit ?_
              refine omv R rfl rfl fun a R => ?_
              obtain ⟨x223_168, cx223_168, h⟩ := h
              refine onl R rfl cx223_168 rfl fun a R => ?_
              refine ofd R rfl fd32_5 rfl fun a R => ?_
              obtain ⟨x225_169, cx225_169, h⟩ := h
              refine old R rfl Tryd.underlying30 rfl cx225_169 rfl fun a R => ?_
              refine op_val R (rn_len R rfl Tryd.underlying30) rfl fun a R => ?_
              refine op_val R (rn_bin (v := .bool (((x225_169.len : Nat) : Int) == 1)) R rfl rfl rfl) rfl fun a R => ?_
              refine omv R rfl rfl fun a R => ?_
              rcases ite_cases h with ⟨g172, h⟩ | ⟨g172, h⟩
              ·refine op_pass R rfl rfl rfl (nft g172) (fun a R => ?_) (by intro s hs; cases hs; rfl)
               refine op_pass R rfl rfl rfl (nft g172) (fun a R => ?_) (by intro s hs; cases hs; rfl)
               refine op_pass R rfl rfl rfl (nft g172) (fun a R => ?_) (by intro s hs; cases hs; rfl)
               refine op_pass R rfl rfl rfl (nft g172) (fun a R => ?_) (by intro s hs; cases hs; rfl)
               refine op_pass R rfl rfl rfl (nft g172) (fun a R => ?_) (by intro s hs; cases hs; rfl)
               refine op_pass R rfl rfl rfl (nft g172) (fun a R => ?_) (by intro s hs; cases hs; rfl)
               refine op_val R (rn_pickT R rfl g172 rfl) rfl fun a R => ?_
               refine oas R rfl rfl fun a R => ?_
               refine wpList_nil ?_
               refine then_normal ?_
               exact ⟨true, R.weak ⟨rfl, trivial⟩, h⟩
              ·refine op_guard R rfl rfl rfl g172 ?_
               refine omv R rfl rfl fun a R => ?_
               refine op_guard R rfl rfl rfl g172 ?_
               obtain ⟨x230_173, cx230_173, h⟩ := h
               refine onl R rfl cx230_173 rfl fun a R => ?_
               refine op_guard R rfl rfl rfl g172 ?_
               refine ofd R rfl fd32_6 rfl fun a R => ?_
               refine op_guard R rfl rfl rfl g172 ?_
               obtain ⟨x232_174, cx232_174, h⟩ := h
               refine old R rfl Tryd.underlying23 rfl cx232_174 rfl fun a R => ?_
               refine op_guard R rfl rfl rfl g172 ?_
               refine op_val R (rn_len R rfl Tryd.underlying23) rfl fun a R => ?_
               refine op_guard R rfl rfl rfl g172 ?_
               refine op_val R (rn_bin (v := .bool (((x232_174.len : Nat) : Int) == 1)) R rfl rfl rfl) rfl fun a R => ?_
               refine op_val R (rn_pickF R rfl g172 rfl) rfl fun a R => ?_
               refine oas R rfl rfl fun a R => ?_
               refine wpList_nil ?_
               refine then_normal ?_
               exact ⟨(((x232_174.len : Nat) : Int) == 1), R.weak ⟨rfl, trivial⟩, h⟩
             ·rintro a w ⟨y167_4, R, h⟩
              unfold levylaw19_world_step.k167 at h
              refine wp_ret ?_
              refine block_ret ?_
              refine then_ret ?_
              refine block_ret ?_
              refine then_ret ?_
              exact post_ret R rfl rfl ⟨y167_4, rfl, h⟩
            ·refine wp_condF R (congrArg (fun b => some (Value.bool b)) g166) ?_
             refine wp_seq ?_
             refine wp_region_lit ?_
             refine omv R rfl rfl fun a R => ?_
             refine op_val R (rn_bin (v := .bool (x184_139_0 == 197)) R rfl rfl rfl) rfl fun a R => ?_
             refine oas R rfl rfl fun a R => ?_
             refine wpList_nil ?_
             refine then_normal ?_
             rcases ite_cases h with ⟨g178, h⟩ | ⟨g178, h⟩
             ·refine wp_condT R (congrArg (fun b => some (Value.bool b)) g178) ?_
              refine wp_seq ?_
              refine wp_region_lit ?_
              refine ofd R rfl fd52_5 rfl fun a R => ?_
              obtain ⟨x240_179, cx240_179, h⟩ := h
              refine old R rfl Tryd.underlying29 rfl cx240_179 rfl fun a R => ?_
              refine op_val R (rn_len R rfl Tryd.underlying29) rfl fun a R => ?_
              refine op_val R (rn_bin (v := .bool (decide (((x240_179.len : Nat) : Int) > 1048576))) R rfl rfl rfl) rfl fun a R => ?_
              refine oas R rfl rfl fun a R => ?_
              refine wpList_nil ?_
              refine then_normal ?_
              refine wp_ret ?_
              refine block_ret ?_
              refine then_ret ?_
              refine block_ret ?_
              refine then_ret ?_
              exact post_ret R rfl rfl ⟨(decide (((x240_179.len : Nat) : Int) > 1048576)), rfl, h⟩
             ·refine wp_condF R (congrArg (fun b => some (Value.bool b)) g178) ?_
              refine wp_skip ?_
              refine block_normal ?_
              refine then_normal ?_
              refine wp_seq ?_
              refine wp_region_lit ?_
              refine omv R rfl rfl fun a R => ?_
              refine ofd R rfl fd52_5 rfl fun a R => ?_
              obtain ⟨x245_182, cx245_182, h⟩ := h
              refine old R rfl Tryd.underlying29 rfl cx245_182 rfl fun a R => ?_
              obtain ⟨x246_184, w183, cx246_184, h⟩ := h
              refine op_val R (rn_bi (vs := [.slice none 0 0, Sl.val x245_182]) R rfl (fun _ => rfl) cx246_184) rfl fun a R => ?_
              obtain ⟨x247_185, e186, h⟩ := al_e h
              refine op_val (v := .slice (some x247_185) 1 1) R (by rw [e186]; exact rn_buildSlice (t := 23) (len := 1) (xs := [(0, (.tmp 246))]) (cells := #[Sl.val x246_184]) (e := 29) R rfl (fun w => by kernel_rfl)) rfl fun a R => ?_
              obtain ⟨x248_187, cx248_187, h⟩ := h
              refine onl R rfl cx248_187 rfl fun a R => ?_
              refine ofd R rfl fd32_6 rfl fun a R => ?_
              obtain ⟨q188, f188, h⟩ := h
              refine op_unit R (rn_st R rfl rfl rfl sz23 q188 f188) fun a R => ?_
              refine wpList_nil ?_
              refine then_normal ?_
              refine wp_seq ?_
              refine wp_region_lit ?_
              refine omv R rfl rfl fun a R => ?_
              refine omv R rfl rfl fun a R => ?_
              refine op_val R (rn_bin (v := .bool (x184_139_0 == 194)) R rfl rfl rfl) rfl fun a R => ?_
              obtain ⟨x253_190, cx253_190, h⟩ := h
              refine onl R rfl cx253_190 rfl fun a R => ?_
              refine ofd R rfl fd32_7 rfl fun a R => ?_
              obtain ⟨q191, f191, h⟩ := h
              refine op_unit R (rn_st R rfl rfl rfl sz4 q191 f191) fun a R => ?_
              refine wpList_nil ?_
              refine then_normal ?_
              refine seq_join (fun a w => ∃ y192_4 : Bool, Rep a 265 [(4, .bool y192_4)] [] ∧ levylaw19_world_step.k192 y192_4 Q w) ?_ ?_
              ·refine wp_region_lit ?_
               refine omv R rfl rfl fun a R => ?_
               refine op_val R (rn_bin (v := .bool (x184_139_0 == 190)) R rfl rfl rfl) rfl fun a R => ?_
               refine omv R rfl rfl fun a R => ?_
               rcases ite_cases h with ⟨g194, h⟩ | ⟨g194, h⟩
               ·refine op_pass R rfl rfl rfl (nft g194) (fun a R => ?_) (by intro s hs; cases hs; rfl)
                refine op_pass R rfl rfl rfl (nft g194) (fun a R => ?_) (by intro s hs; cases hs; rfl)
                refine op_val R (rn_pickT R rfl g194 rfl) rfl fun a R => ?_
                refine omv R rfl rfl fun a R => ?_
                refine op_pass R rfl rfl rfl (nft rfl) (fun a R => ?_) (by intro s hs; cases hs; rfl)
                refine op_pass R rfl rfl rfl (nft rfl) (fun a R => ?_) (by intro s hs; cases hs; rfl)
                refine op_val R (rn_pickT R rfl rfl rfl) rfl fun a R => ?_
                refine oas R rfl rfl fun a R => ?_
                refine wpList_nil ?_
                refine then_normal ?_
                exact ⟨true, R.weak ⟨rfl, trivial⟩, h⟩
               ·refine op_guard R rfl rfl rfl g194 ?_
                refine omv R rfl rfl fun a R => ?_
                refine op_guard R rfl rfl rfl g194 ?_
                refine op_val R (rn_bin (v := .bool (x184_139_0 == 191)) R rfl rfl rfl) rfl fun a R => ?_
                refine op_val R (rn_pickF R rfl g194 rfl) rfl fun a R => ?_
                refine omv R rfl rfl fun a R => ?_
                rcases ite_cases h with ⟨g196, h⟩ | ⟨g196, h⟩
                ·refine op_pass R rfl rfl rfl (nft g196) (fun a R => ?_) (by intro s hs; cases hs; rfl)
                 refine op_pass R rfl rfl rfl (nft g196) (fun a R => ?_) (by intro s hs; cases hs; rfl)
                 refine op_val R (rn_pickT R rfl g196 rfl) rfl fun a R => ?_
                 refine oas R rfl rfl fun a R => ?_
                 refine wpList_nil ?_
                 refine then_normal ?_
                 exact ⟨true, R.weak ⟨rfl, trivial⟩, h⟩
                ·refine op_guard R rfl rfl rfl g196 ?_
                 refine omv R rfl rfl fun a R => ?_
                 refine op_guard R rfl rfl rfl g196 ?_
                 refine op_val R (rn_bin (v := .bool (x184_139_0 == 194)) R rfl rfl rfl) rfl fun a R => ?_
                 refine op_val R (rn_pickF R rfl g196 rfl) rfl fun a R => ?_
                 refine oas R rfl rfl fun a R => ?_
                 refine wpList_nil ?_
                 refine then_normal ?_
                 exact ⟨(x184_139_0 == 194), R.weak ⟨rfl, trivial⟩, h⟩
              ·rintro a w ⟨y192_4, R, h⟩
               unfold levylaw19_world_step.k192 at h
               refine wp_ret ?_
               refine block_ret ?_
               refine then_ret ?_
               exact post_ret R rfl rfl ⟨y192_4, rfl, h⟩
         ·refine wp_condF R (congrArg (fun b => some (Value.bool b)) g132) ?_
          refine wp_skip ?_
          refine block_normal ?_
          refine then_normal ?_
          exact ⟨R.weak trivial, h⟩
 ·rintro a w ⟨R, h⟩
  unfold levylaw19_world_step.k3 at h
  refine wp_seq ?_
  refine wp_region_lit ?_
  refine oas R rfl rfl fun a R => ?_
  refine wpList_nil ?_
  refine then_normal ?_
  refine wp_ret ?_
  exact post_ret R rfl rfl ⟨true, rfl, h⟩
theorem s_levylaw19_world_step (x0 : Option Addr) (x1_0 : Int) (x1_1 : Int) (x1_2 : Int) (x1_3 : Bool) (x1_4 : ByteArray) (x1_5 : Sl) (x1_6 : Sl) (x1_7 : Int) (Q : Bool → World → Prop) (w : World) (h : levylaw19_world_step x0 x1_0 x1_1 x1_2 x1_3 x1_4 x1_5 x1_6 x1_7 Q w) :
    Calls Tryd.prog 16 #[.pointer x0, .agg #[.int .i64 x1_0, .int .i64 x1_1, .int .i64 x1_2, .bool x1_3, .string x1_4, Sl.val x1_5, Sl.val x1_6, .int .u32 x1_7]] w (Rets fun v w => ∃ r0 : Bool, v = (.bool r0 : Value) ∧ Q r0 w) :=
  calls_body (args := [.pointer x0, .agg #[.int .i64 x1_0, .int .i64 x1_1, .int .i64 x1_2, .bool x1_3, .string x1_4, Sl.val x1_5, Sl.val x1_6, .int .u32 x1_7]]) Tryd.func16 rfl rfl (Nat.le_of_ble_eq_true rfl) (L := [(0, .pointer x0), (1, .agg #[.int .i64 x1_0, .int .i64 x1_1, .int .i64 x1_2, .bool x1_3, .string x1_4, Sl.val x1_5, Sl.val x1_6, .int .u32 x1_7])]) (by simp [starts]) (b_levylaw19_world_step x0 x1_0 x1_1 x1_2 x1_3 x1_4 x1_5 x1_6 x1_7 Q w h rfl)

/-! levylaw19.DrawerKept -/

def levylaw19_DrawerKept.k22 (y22_6 : Bool) (Q : Bool → World → Prop) (w : World) : Prop :=
  Q y22_6 w

def levylaw19_DrawerKept.k17 (x15_6_0 : Option Addr) (y17_88 : Bool) (Q : Bool → World → Prop) (w : World) : Prop :=
  (if y17_88 = true then Q false w else nn x15_6_0 fun x90_19 => ld Value.pointer w (x90_19.add 0) fun x92_20 => drawer_Disk_Restart x92_20 (Sl.mk none 0 0) (fun  w => levylaw19_world_open x15_6_0 (fun x95_23_0 w => (if x95_23_0 = true then nn x15_6_0 fun x98_25 => ld Sl.val w (x98_25.add 4) fun x100_26 => (if (((x100_26.len : Nat) : Int) == 1) = true then nn x15_6_0 fun x106_30 => ld Sl.val w (x106_30.add 4) fun x108_31 => ix x108_31.p x108_31.len 0 2 fun x109_33 => ld (Value.int .u8) w (x109_33.add 0) fun x111_34 => levylaw19_DrawerKept.k22 (x111_34 == 9) Q w else levylaw19_DrawerKept.k22 false Q w) else levylaw19_DrawerKept.k22 false Q w)) w) w)

def levylaw19_DrawerKept.k15 (x15_6_0 : Option Addr) (y15_74 : Bool) (Q : Bool → World → Prop) (w : World) : Prop :=
  (if y15_74 = true then Q false w else nn x15_6_0 fun x76_38 => ld Sl.val w (x76_38.add 4) fun x78_39 => (if (((x78_39.len : Nat) : Int) != 1) = true then levylaw19_DrawerKept.k17 x15_6_0 true Q w else nn x15_6_0 fun x83_43 => ld Sl.val w (x83_43.add 3) fun x85_44 => levylaw19_DrawerKept.k17 x15_6_0 (((x85_44.len : Nat) : Int) != 2) Q w))

def levylaw19_DrawerKept.k10 (x2 : Sl) (x15_6_0 : Option Addr) (y10_44 : Bool) (Q : Bool → World → Prop) (w : World) : Prop :=
  (if y10_44 = true then Q false w else nn x15_6_0 fun x46_12 => ld Value.pointer w (x46_12.add 0) fun x48_13 => drawer_Disk_Restart x48_13 x2 (fun  w => levylaw19_world_open x15_6_0 (fun x52_47_0 w => (if x52_47_0 = true then nn x15_6_0 fun x56_49 => ld Value.pointer w (x56_49.add 1) fun x58_50 => (if (Option.isNone x58_50) = true then levylaw19_DrawerKept.k15 x15_6_0 true Q w else al w (.cells #[.int .u8 1, .int .u8 2] 5) fun x63_52 w => levylaw19_world_step x15_6_0 13 0 0 false ⟨#[]⟩ (Sl.mk (some x63_52) 2 2) (Sl.mk none 0 0) 0 (fun x65_54_0 w => (if x65_54_0 = true then al w (.cells #[.int .u8 3] 5) fun x70_56 w => levylaw19_world_step x15_6_0 12 9 0 false ⟨#[]⟩ (Sl.mk (some x70_56) 1 1) (Sl.mk none 0 0) 0 (fun x72_58_0 w => levylaw19_DrawerKept.k15 x15_6_0 (!x72_58_0) Q w) w else levylaw19_DrawerKept.k15 x15_6_0 true Q w)) w) else levylaw19_DrawerKept.k15 x15_6_0 true Q w)) w) w)

def levylaw19_DrawerKept.k9 (x2 : Sl) (x15_6_0 : Option Addr) (Q : Bool → World → Prop) (w : World) : Prop :=
  levylaw19_world_other x15_6_0 (Sl.mk none 0 0) (fun x37_63_0 w => (if x37_63_0 = true then levylaw19_world_other x15_6_0 x2 (fun x42_65_0 w => levylaw19_DrawerKept.k10 x2 x15_6_0 (!x42_65_0) Q w) w else levylaw19_DrawerKept.k10 x2 x15_6_0 true Q w)) w

def levylaw19_DrawerKept.l68 (x1 : Sl) (x2 : Sl) (x15_6_0 : Option Addr) (z68_8 : Int) (Q : Bool → World → Prop) (K68 : Int → World → Prop) (w : World) : Prop :=
  (if (decide (z68_8 < ((x1.len : Nat) : Int))) = true then ix x1.p x1.len z68_8 8 fun x32_73 => ld (Value.int .i64) w (x32_73.add 0) fun x33_74_0 => ld (Value.int .i64) w (x32_73.add 1) fun x33_74_1 => ld (Value.int .i64) w (x32_73.add 2) fun x33_74_2 => ld Value.bool w (x32_73.add 3) fun x33_74_3 => ld Value.string w (x32_73.add 4) fun x33_74_4 => ld Sl.val w (x32_73.add 5) fun x33_74_5 => ld Sl.val w (x32_73.add 6) fun x33_74_6 => ld (Value.int .u32) w (x32_73.add 7) fun x33_74_7 => levylaw19_world_step x15_6_0 x33_74_0 x33_74_1 x33_74_2 x33_74_3 x33_74_4 x33_74_5 x33_74_6 x33_74_7 (fun x34_75_0 w => (if x34_75_0 = true then K68 (IntKind.i64.wrap (z68_8 + 1)) w else Q false w)) w else levylaw19_DrawerKept.k9 x2 x15_6_0 Q w)

def levylaw19_DrawerKept.k7 (x1 : Sl) (x2 : Sl) (x15_6_0 : Option Addr) (y7_22 : Bool) (Q : Bool → World → Prop) (w : World) : Prop :=
  (if y7_22 = true then Q false w else (Fix (σ := Int) (fun Ks s w => levylaw19_DrawerKept.l68 x1 x2 x15_6_0 s Q (fun z68_8 w => Ks z68_8 w) w) 0 w))

def levylaw19_DrawerKept (x0 : Int) (x1 : Sl) (x2 : Sl) (Q : Bool → World → Prop) (w : World) : Prop :=
  levylaw19_known  (fun x9_1_0 w => (if x9_1_0 = true then (if (decide (((x1.len : Nat) : Int) > 90000000)) = true then Q true w else levylaw19_begin x0 (fun x15_6_0 w => (if (Option.isNone x15_6_0) = true then levylaw19_DrawerKept.k7 x1 x2 x15_6_0 true Q w else levylaw19_world_open x15_6_0 (fun x20_80_0 w => levylaw19_DrawerKept.k7 x1 x2 x15_6_0 (!x20_80_0) Q w) w)) w) else Q false w)) w

theorem b_levylaw19_DrawerKept (x0 : Int) (x1 : Sl) (x2 : Sl) (Q : Bool → World → Prop) (w : World) (h : levylaw19_DrawerKept x0 x1 x2 Q w) {c : Code} (hb : Tryd.f5.body = some c) :
 ∀ a, Rep a 114 [(0, .int .u32 x0), (1, Sl.val x1), (2, Sl.val x2)] [] → c.wp Tryd.prog (bodyPost Tryd.prog Tryd.f5 (Rets fun v w => ∃ r0 : Bool, v = (.bool r0 : Value) ∧ Q r0 w)) a w := by
 intro a R
 obtain rfl := Option.some.inj hb
 unfold levylaw19_DrawerKept at h
 refine wp_seq ?_
 refine wp_region_lit ?_
 refine oas R rfl rfl fun a R => ?_
 refine wpList_nil ?_
 refine then_normal ?_
 refine wp_seq ?_
 refine wp_seq ?_
 refine wp_region_lit ?_
 refine op_call R (rn_calls R rfl cf6) rfl ?_
 refine call_mono (s_levylaw19_known  _ _ h) ?_
 rintro _ w83 ⟨x9_1_0, rfl, h⟩ a R
 refine op_val R (rn_un (v := .bool (!x9_1_0)) R rfl rfl) rfl fun a R => ?_
 refine wpList_nil ?_
 refine then_normal ?_
 rcases ite_cases h with ⟨g2, h⟩ | ⟨g2, h⟩
 ·refine wp_condF R (congrArg (fun b => some (Value.bool b)) (nf g2)) ?_
  refine wp_skip ?_
  refine then_normal ?_
  refine wp_seq ?_
  refine wp_seq ?_
  refine wp_region_lit ?_
  refine omv R rfl rfl fun a R => ?_
  refine op_val R (rn_len R rfl Tryd.underlying49) rfl fun a R => ?_
  refine op_val R (rn_bin (v := .bool (decide (((x1.len : Nat) : Int) > 90000000))) R rfl rfl rfl) rfl fun a R => ?_
  refine wpList_nil ?_
  refine then_normal ?_
  rcases ite_cases h with ⟨g5, h⟩ | ⟨g5, h⟩
  ·refine wp_condT R (congrArg (fun b => some (Value.bool b)) g5) ?_
   refine wp_seq ?_
   refine wp_region_lit ?_
   refine oas R rfl rfl fun a R => ?_
   refine wpList_nil ?_
   refine then_normal ?_
   refine wp_ret ?_
   refine then_ret ?_
   exact post_ret R rfl rfl ⟨true, rfl, h⟩
  ·refine wp_condF R (congrArg (fun b => some (Value.bool b)) g5) ?_
   refine wp_skip ?_
   refine then_normal ?_
   refine wp_seq ?_
   refine wp_region_lit ?_
   refine omv R rfl rfl fun a R => ?_
   refine op_call R (rn_calls R rfl cf7) rfl ?_
   refine call_mono (s_levylaw19_begin _ _ _ h) ?_
   rintro _ w82 ⟨x15_6_0, rfl, h⟩ a R
   refine oas R rfl rfl fun a R => ?_
   refine wpList_nil ?_
   refine then_normal ?_
   refine wp_seq ?_
   refine seq_join (fun a w => ∃ y7_22 : Bool, Rep a 114 [(1, Sl.val x1), (2, Sl.val x2), (7, .pointer x15_6_0), (22, .bool y7_22)] [] ∧ levylaw19_DrawerKept.k7 x1 x2 x15_6_0 y7_22 Q w) ?_ ?_
   ·refine wp_region_lit ?_
    refine omv R rfl rfl fun a R => ?_
    refine op_val R (rn_nilPE R rfl rfl Tryd.underlying25) rfl fun a R => ?_
    refine omv R rfl rfl fun a R => ?_
    rcases ite_cases h with ⟨g79, h⟩ | ⟨g79, h⟩
    ·refine op_pass R rfl rfl rfl (nft g79) (fun a R => ?_) (by intro s hs; cases hs; rfl)
     refine op_pass R rfl rfl rfl (nft g79) (fun a R => ?_) (by intro s hs; cases hs; rfl)
     refine op_pass R rfl rfl rfl (nft g79) (fun a R => ?_) (by intro s hs; cases hs; rfl)
     refine op_val R (rn_pickT R rfl g79 rfl) rfl fun a R => ?_
     refine wpList_nil ?_
     refine then_normal ?_
     exact ⟨true, R.weak ⟨rfl, rfl, rfl, rfl, trivial⟩, h⟩
    ·refine op_guard R rfl rfl rfl g79 ?_
     refine omv R rfl rfl fun a R => ?_
     refine op_guard R rfl rfl rfl g79 ?_
     refine op_call R (rn_calls R rfl cf8) rfl ?_
     refine call_mono (s_levylaw19_world_open _ _ _ h) ?_
     rintro _ w81 ⟨x20_80_0, rfl, h⟩ a R
     refine op_guard R rfl rfl rfl g79 ?_
     refine op_val R (rn_un (v := .bool (!x20_80_0)) R rfl rfl) rfl fun a R => ?_
     refine op_val R (rn_pickF R rfl g79 rfl) rfl fun a R => ?_
     refine wpList_nil ?_
     refine then_normal ?_
     exact ⟨(!x20_80_0), R.weak ⟨rfl, rfl, rfl, rfl, trivial⟩, h⟩
   ·rintro a w ⟨y7_22, R, h⟩
    unfold levylaw19_DrawerKept.k7 at h
    rcases ite_cases h with ⟨g8, h⟩ | ⟨g8, h⟩
    ·refine wp_condT R (congrArg (fun b => some (Value.bool b)) g8) ?_
     refine wp_seq ?_
     refine wp_region_lit ?_
     refine oas R rfl rfl fun a R => ?_
     refine wpList_nil ?_
     refine then_normal ?_
     refine wp_ret ?_
     refine then_ret ?_
     exact post_ret R rfl rfl ⟨false, rfl, h⟩
    ·refine wp_condF R (congrArg (fun b => some (Value.bool b)) g8) ?_
     refine wp_skip ?_
     refine then_normal ?_
     refine seq_join (fun a w => Rep a 114 [(2, Sl.val x2), (7, .pointer x15_6_0)] [] ∧ levylaw19_DrawerKept.k9 x2 x15_6_0 Q w) ?_ ?_
     ·refine wp_seq ?_
      refine wp_region_lit ?_
      refine oas R rfl rfl fun a R => ?_
      refine wpList_nil ?_
      refine then_normal ?_
      refine wp_block ?_
      refine wp_fix (σ := Int) (fun s a => Rep a 114 [(1, Sl.val x1), (2, Sl.val x2), (7, .pointer x15_6_0), (8, .int .i64 s)] []) h (R.weak ⟨rfl, rfl, rfl, rfl, trivial⟩) ?_
      rintro Ks C z68_8 a w hC R h
      have R : Rep a 114 [(1, Sl.val x1), (2, Sl.val x2), (7, .pointer x15_6_0), (8, .int .i64 z68_8)] [] := R
      have h : levylaw19_DrawerKept.l68 x1 x2 x15_6_0 z68_8 Q (fun z68_8 w => Ks z68_8 w) w := h
      generalize hK68 : (fun z68_8 w => Ks z68_8 w) = K68 at h
      unfold levylaw19_DrawerKept.l68 at h
      refine wp_seq ?_
      refine wp_seq ?_
      refine wp_region_lit ?_
      refine omv R rfl rfl fun a R => ?_
      refine omv R rfl rfl fun a R => ?_
      refine op_val R (rn_len R rfl Tryd.underlying49) rfl fun a R => ?_
      refine op_val R (rn_bin (v := .bool (decide (z68_8 < ((x1.len : Nat) : Int)))) R rfl rfl rfl) rfl fun a R => ?_
      refine wpList_nil ?_
      refine then_normal ?_
      rcases ite_cases h with ⟨g71, h⟩ | ⟨g71, h⟩
      ·refine wp_condT R (congrArg (fun b => some (Value.bool b)) g71) ?_
       refine wp_skip ?_
       refine then_normal ?_
       refine wp_seq ?_
       refine wp_block ?_
       refine wp_seq ?_
       refine wp_region_lit ?_
       refine omv R rfl rfl fun a R => ?_
       refine omv R rfl rfl fun a R => ?_
       refine omv R rfl rfl fun a R => ?_
       obtain ⟨b72, x32_73, p72, i72, j72, e72, h⟩ := ix_e h
       refine op_val (v := .pointer (some x32_73)) R (by rw [e72]; exact rn_ixs (x := (.tmp 30)) (y := (.tmp 31)) R rfl p72 rfl Tryd.underlying49 sz52 i72 j72) rfl fun a R => ?_
       obtain ⟨x33_74_0, cx33_74_0, x33_74_1, cx33_74_1, x33_74_2, cx33_74_2, x33_74_3, cx33_74_3, x33_74_4, cx33_74_4, x33_74_5, cx33_74_5, x33_74_6, cx33_74_6, x33_74_7, cx33_74_7, h⟩ := h
       refine op_val R (rn_ldN (cs := [.int .i64 x33_74_0, .int .i64 x33_74_1, .int .i64 x33_74_2, .bool x33_74_3, .string x33_74_4, Sl.val x33_74_5, Sl.val x33_74_6, .int .u32 x33_74_7]) R rfl Tryd.underlying52 rfl sz52 ⟨cx33_74_0, cx33_74_1, cx33_74_2, cx33_74_3, cx33_74_4, cx33_74_5, cx33_74_6, cx33_74_7, trivial⟩) rfl fun a R => ?_
       refine op_call R (rn_calls R rfl cf16) rfl ?_
       refine call_mono (s_levylaw19_world_step _ _ _ _ _ _ _ _ _ _ _ h) ?_
       rintro _ w78 ⟨x34_75_0, rfl, h⟩ a R
       refine op_val R (rn_un (v := .bool (!x34_75_0)) R rfl rfl) rfl fun a R => ?_
       refine wpList_nil ?_
       refine then_normal ?_
       rcases ite_cases h with ⟨g76, h⟩ | ⟨g76, h⟩
       ·refine wp_condF R (congrArg (fun b => some (Value.bool b)) (nf g76)) ?_
        refine wp_skip ?_
        refine block_normal ?_
        refine then_normal ?_
        refine wp_region_lit ?_
        refine omv R rfl rfl fun a R => ?_
        refine op_val R (rn_bin (v := .int .i64 (IntKind.i64.wrap (z68_8 + 1))) R rfl rfl rfl) rfl fun a R => ?_
        refine oas R rfl rfl fun a R => ?_
        refine wpList_nil ?_
        refine then_normal ?_
        exact hC (IntKind.i64.wrap (z68_8 + 1)) _ _ (R.weak ⟨rfl, rfl, rfl, rfl, trivial⟩) (by rw [← hK68] at h; exact h)
       ·refine wp_condT R (congrArg (fun b => some (Value.bool b)) (nt g76)) ?_
        refine wp_seq ?_
        refine wp_region_lit ?_
        refine oas R rfl rfl fun a R => ?_
        refine wpList_nil ?_
        refine then_normal ?_
        refine wp_ret ?_
        refine block_ret ?_
        refine then_ret ?_
        refine then_ret ?_
        refine block_ret ?_
        refine then_ret ?_
        exact post_ret R rfl rfl ⟨false, rfl, h⟩
      ·refine wp_condF R (congrArg (fun b => some (Value.bool b)) g71) ?_
       refine wp_exit ?_
       refine then_exit ?_
       refine then_exit ?_
       refine block_eq ?_
       refine then_normal ?_
       exact ⟨R.weak ⟨rfl, rfl, trivial⟩, h⟩
     ·rintro a w ⟨R, h⟩
      unfold levylaw19_DrawerKept.k9 at h
      refine wp_seq ?_
      refine seq_join (fun a w => ∃ y10_44 : Bool, Rep a 114 [(2, Sl.val x2), (7, .pointer x15_6_0), (44, .bool y10_44)] [] ∧ levylaw19_DrawerKept.k10 x2 x15_6_0 y10_44 Q w) ?_ ?_
      ·refine wp_region_lit ?_
       refine omv R rfl rfl fun a R => ?_
       refine op_call R (rn_calls R rfl cf17) rfl ?_
       refine call_mono (s_levylaw19_world_other _ (Sl.mk none 0 0) _ _ h) ?_
       rintro _ w67 ⟨x37_63_0, rfl, h⟩ a R
       refine op_val R (rn_un (v := .bool (!x37_63_0)) R rfl rfl) rfl fun a R => ?_
       refine omv R rfl rfl fun a R => ?_
       rcases ite_cases h with ⟨g64, h⟩ | ⟨g64, h⟩
       ·refine op_guard R rfl rfl rfl (nf g64) ?_
        refine omv R rfl rfl fun a R => ?_
        refine op_guard R rfl rfl rfl (nf g64) ?_
        refine omv R rfl rfl fun a R => ?_
        refine op_guard R rfl rfl rfl (nf g64) ?_
        refine op_call R (rn_calls R rfl cf17) rfl ?_
        refine call_mono (s_levylaw19_world_other _ _ _ _ h) ?_
        rintro _ w66 ⟨x42_65_0, rfl, h⟩ a R
        refine op_guard R rfl rfl rfl (nf g64) ?_
        refine op_val R (rn_un (v := .bool (!x42_65_0)) R rfl rfl) rfl fun a R => ?_
        refine op_val R (rn_pickF R rfl (nf g64) rfl) rfl fun a R => ?_
        refine wpList_nil ?_
        refine then_normal ?_
        exact ⟨(!x42_65_0), R.weak ⟨rfl, rfl, rfl, trivial⟩, h⟩
       ·refine op_pass R rfl rfl rfl (nft (nt g64)) (fun a R => ?_) (by intro s hs; cases hs; rfl)
        refine op_pass R rfl rfl rfl (nft (nt g64)) (fun a R => ?_) (by intro s hs; cases hs; rfl)
        refine op_pass R rfl rfl rfl (nft (nt g64)) (fun a R => ?_) (by intro s hs; cases hs; rfl)
        refine op_pass R rfl rfl rfl (nft (nt g64)) (fun a R => ?_) (by intro s hs; cases hs; rfl)
        refine op_val R (rn_pickT R rfl (nt g64) rfl) rfl fun a R => ?_
        refine wpList_nil ?_
        refine then_normal ?_
        exact ⟨true, R.weak ⟨rfl, rfl, rfl, trivial⟩, h⟩
      ·rintro a w ⟨y10_44, R, h⟩
       unfold levylaw19_DrawerKept.k10 at h
       rcases ite_cases h with ⟨g11, h⟩ | ⟨g11, h⟩
       ·refine wp_condT R (congrArg (fun b => some (Value.bool b)) g11) ?_
        refine wp_seq ?_
        refine wp_region_lit ?_
        refine oas R rfl rfl fun a R => ?_
        refine wpList_nil ?_
        refine then_normal ?_
        refine wp_ret ?_
        refine then_ret ?_
        exact post_ret R rfl rfl ⟨false, rfl, h⟩
       ·refine wp_condF R (congrArg (fun b => some (Value.bool b)) g11) ?_
        refine wp_skip ?_
        refine then_normal ?_
        refine wp_seq ?_
        refine wp_region_lit ?_
        refine omv R rfl rfl fun a R => ?_
        obtain ⟨x46_12, cx46_12, h⟩ := h
        refine onl R rfl cx46_12 rfl fun a R => ?_
        refine ofd R rfl fd32_0 rfl fun a R => ?_
        obtain ⟨x48_13, cx48_13, h⟩ := h
        refine old R rfl Tryd.underlying27 rfl cx48_13 rfl fun a R => ?_
        refine omv R rfl rfl fun a R => ?_
        refine op_call R (rn_calls R rfl cf18) rfl ?_
        refine call_mono (s_drawer_Disk_Restart _ _ _ _ h) ?_
        rintro _ w62 ⟨rfl, h⟩ a R
        refine wpList_nil ?_
        refine then_normal ?_
        refine wp_seq ?_
        refine seq_join (fun a w => ∃ y15_74 : Bool, Rep a 114 [(7, .pointer x15_6_0), (74, .bool y15_74)] [] ∧ levylaw19_DrawerKept.k15 x15_6_0 y15_74 Q w) ?_ ?_
        ·refine wp_region_lit ?_
         refine omv R rfl rfl fun a R => ?_
         refine op_call R (rn_calls R rfl cf8) rfl ?_
         refine call_mono (s_levylaw19_world_open _ _ _ h) ?_
         rintro _ w61 ⟨x52_47_0, rfl, h⟩ a R
         refine op_val R (rn_un (v := .bool (!x52_47_0)) R rfl rfl) rfl fun a R => ?_
         refine omv R rfl rfl fun a R => ?_
         rcases ite_cases h with ⟨g48, h⟩ | ⟨g48, h⟩
         ·refine op_guard R rfl rfl rfl (nf g48) ?_
          refine omv R rfl rfl fun a R => ?_
          refine op_guard R rfl rfl rfl (nf g48) ?_
          obtain ⟨x56_49, cx56_49, h⟩ := h
          refine onl R rfl cx56_49 rfl fun a R => ?_
          refine op_guard R rfl rfl rfl (nf g48) ?_
          refine ofd R rfl fd32_1 rfl fun a R => ?_
          refine op_guard R rfl rfl rfl (nf g48) ?_
          obtain ⟨x58_50, cx58_50, h⟩ := h
          refine old R rfl Tryd.underlying28 rfl cx58_50 rfl fun a R => ?_
          refine op_guard R rfl rfl rfl (nf g48) ?_
          refine op_val R (rn_nilPE R rfl rfl Tryd.underlying28) rfl fun a R => ?_
          refine op_val R (rn_pickF R rfl (nf g48) rfl) rfl fun a R => ?_
          refine omv R rfl rfl fun a R => ?_
          rcases ite_cases h with ⟨g51, h⟩ | ⟨g51, h⟩
          ·refine op_pass R rfl rfl rfl (nft g51) (fun a R => ?_) (by intro s hs; cases hs; rfl)
           refine op_pass R rfl rfl rfl (nft g51) (fun a R => ?_) (by intro s hs; cases hs; rfl)
           refine op_pass R rfl rfl rfl (nft g51) (fun a R => ?_) (by intro s hs; cases hs; rfl)
           refine op_pass R rfl rfl rfl (nft g51) (fun a R => ?_) (by intro s hs; cases hs; rfl)
           refine op_pass R rfl rfl rfl (nft g51) (fun a R => ?_) (by intro s hs; cases hs; rfl)
           refine op_val R (rn_pickT R rfl g51 rfl) rfl fun a R => ?_
           refine omv R rfl rfl fun a R => ?_
           refine op_pass R rfl rfl rfl (nft rfl) (fun a R => ?_) (by intro s hs; cases hs; rfl)
           refine op_pass R rfl rfl rfl (nft rfl) (fun a R => ?_) (by intro s hs; cases hs; rfl)
           refine op_pass R rfl rfl rfl (nft rfl) (fun a R => ?_) (by intro s hs; cases hs; rfl)
           refine op_pass R rfl rfl rfl (nft rfl) (fun a R => ?_) (by intro s hs; cases hs; rfl)
           refine op_pass R rfl rfl rfl (nft rfl) (fun a R => ?_) (by intro s hs; cases hs; rfl)
           refine op_val R (rn_pickT R rfl rfl rfl) rfl fun a R => ?_
           refine wpList_nil ?_
           refine then_normal ?_
           exact ⟨true, R.weak ⟨rfl, rfl, trivial⟩, h⟩
          ·refine op_guard R rfl rfl rfl g51 ?_
           refine omv R rfl rfl fun a R => ?_
           refine op_guard R rfl rfl rfl g51 ?_
           obtain ⟨x63_52, e53, h⟩ := al_e h
           refine op_val (v := .slice (some x63_52) 2 2) R (by rw [e53]; exact rn_buildSlice (t := 29) (len := 2) (xs := [(0, (.const (.int .u8 1))), (1, (.const (.int .u8 2)))]) (cells := #[.int .u8 1, .int .u8 2]) (e := 5) R rfl (fun w => by kernel_rfl)) rfl fun a R => ?_
           refine op_guard R rfl rfl rfl g51 ?_
           refine op_val R (rn_build (r := .agg #[.int .i64 13, .int .i64 0, .int .i64 0, .bool false, .string ⟨#[]⟩, .slice (some x63_52) 2 2, .slice none 0 0, .int .u32 0]) R rfl (fun w => by kernel_rfl)) rfl fun a R => ?_
           refine op_guard R rfl rfl rfl g51 ?_
           refine op_call R (rn_calls R rfl cf16) rfl ?_
           refine call_mono (s_levylaw19_world_step _ _ _ _ _ _ (Sl.mk (some x63_52) 2 2) (Sl.mk none 0 0) _ _ _ h) ?_
           rintro _ w60 ⟨x65_54_0, rfl, h⟩ a R
           refine op_guard R rfl rfl rfl g51 ?_
           refine op_val R (rn_un (v := .bool (!x65_54_0)) R rfl rfl) rfl fun a R => ?_
           refine op_val R (rn_pickF R rfl g51 rfl) rfl fun a R => ?_
           refine omv R rfl rfl fun a R => ?_
           rcases ite_cases h with ⟨g55, h⟩ | ⟨g55, h⟩
           ·refine op_guard R rfl rfl rfl (nf g55) ?_
            refine omv R rfl rfl fun a R => ?_
            refine op_guard R rfl rfl rfl (nf g55) ?_
            obtain ⟨x70_56, e57, h⟩ := al_e h
            refine op_val (v := .slice (some x70_56) 1 1) R (by rw [e57]; exact rn_buildSlice (t := 29) (len := 1) (xs := [(0, (.const (.int .u8 3)))]) (cells := #[.int .u8 3]) (e := 5) R rfl (fun w => by kernel_rfl)) rfl fun a R => ?_
            refine op_guard R rfl rfl rfl (nf g55) ?_
            refine op_val R (rn_build (r := .agg #[.int .i64 12, .int .i64 9, .int .i64 0, .bool false, .string ⟨#[]⟩, .slice (some x70_56) 1 1, .slice none 0 0, .int .u32 0]) R rfl (fun w => by kernel_rfl)) rfl fun a R => ?_
            refine op_guard R rfl rfl rfl (nf g55) ?_
            refine op_call R (rn_calls R rfl cf16) rfl ?_
            refine call_mono (s_levylaw19_world_step _ _ _ _ _ _ (Sl.mk (some x70_56) 1 1) (Sl.mk none 0 0) _ _ _ h) ?_
            rintro _ w59 ⟨x72_58_0, rfl, h⟩ a R
            refine op_guard R rfl rfl rfl (nf g55) ?_
            refine op_val R (rn_un (v := .bool (!x72_58_0)) R rfl rfl) rfl fun a R => ?_
            refine op_val R (rn_pickF R rfl (nf g55) rfl) rfl fun a R => ?_
            refine wpList_nil ?_
            refine then_normal ?_
            exact ⟨(!x72_58_0), R.weak ⟨rfl, rfl, trivial⟩, h⟩
           ·refine op_pass R rfl rfl rfl (nft (nt g55)) (fun a R => ?_) (by intro s hs; cases hs; rfl)
            refine op_pass R rfl rfl rfl (nft (nt g55)) (fun a R => ?_) (by intro s hs; cases hs; rfl)
            refine op_pass R rfl rfl rfl (nft (nt g55)) (fun a R => ?_) (by intro s hs; cases hs; rfl)
            refine op_pass R rfl rfl rfl (nft (nt g55)) (fun a R => ?_) (by intro s hs; cases hs; rfl)
            refine op_pass R rfl rfl rfl (nft (nt g55)) (fun a R => ?_) (by intro s hs; cases hs; rfl)
            refine op_val R (rn_pickT R rfl (nt g55) rfl) rfl fun a R => ?_
            refine wpList_nil ?_
            refine then_normal ?_
            exact ⟨true, R.weak ⟨rfl, rfl, trivial⟩, h⟩
         ·refine op_pass R rfl rfl rfl (nft (nt g48)) (fun a R => ?_) (by intro s hs; cases hs; rfl)
          refine op_pass R rfl rfl rfl (nft (nt g48)) (fun a R => ?_) (by intro s hs; cases hs; rfl)
          refine op_pass R rfl rfl rfl (nft (nt g48)) (fun a R => ?_) (by intro s hs; cases hs; rfl)
          refine op_pass R rfl rfl rfl (nft (nt g48)) (fun a R => ?_) (by intro s hs; cases hs; rfl)
          refine op_pass R rfl rfl rfl (nft (nt g48)) (fun a R => ?_) (by intro s hs; cases hs; rfl)
          refine op_val R (rn_pickT R rfl (nt g48) rfl) rfl fun a R => ?_
          refine omv R rfl rfl fun a R => ?_
          refine op_pass R rfl rfl rfl (nft rfl) (fun a R => ?_) (by intro s hs; cases hs; rfl)
          refine op_pass R rfl rfl rfl (nft rfl) (fun a R => ?_) (by intro s hs; cases hs; rfl)
          refine op_pass R rfl rfl rfl (nft rfl) (fun a R => ?_) (by intro s hs; cases hs; rfl)
          refine op_pass R rfl rfl rfl (nft rfl) (fun a R => ?_) (by intro s hs; cases hs; rfl)
          refine op_pass R rfl rfl rfl (nft rfl) (fun a R => ?_) (by intro s hs; cases hs; rfl)
          refine op_val R (rn_pickT R rfl rfl rfl) rfl fun a R => ?_
          refine omv R rfl rfl fun a R => ?_
          refine op_pass R rfl rfl rfl (nft rfl) (fun a R => ?_) (by intro s hs; cases hs; rfl)
          refine op_pass R rfl rfl rfl (nft rfl) (fun a R => ?_) (by intro s hs; cases hs; rfl)
          refine op_pass R rfl rfl rfl (nft rfl) (fun a R => ?_) (by intro s hs; cases hs; rfl)
          refine op_pass R rfl rfl rfl (nft rfl) (fun a R => ?_) (by intro s hs; cases hs; rfl)
          refine op_pass R rfl rfl rfl (nft rfl) (fun a R => ?_) (by intro s hs; cases hs; rfl)
          refine op_val R (rn_pickT R rfl rfl rfl) rfl fun a R => ?_
          refine wpList_nil ?_
          refine then_normal ?_
          exact ⟨true, R.weak ⟨rfl, rfl, trivial⟩, h⟩
        ·rintro a w ⟨y15_74, R, h⟩
         unfold levylaw19_DrawerKept.k15 at h
         rcases ite_cases h with ⟨g16, h⟩ | ⟨g16, h⟩
         ·refine wp_condT R (congrArg (fun b => some (Value.bool b)) g16) ?_
          refine wp_seq ?_
          refine wp_region_lit ?_
          refine oas R rfl rfl fun a R => ?_
          refine wpList_nil ?_
          refine then_normal ?_
          refine wp_ret ?_
          refine then_ret ?_
          exact post_ret R rfl rfl ⟨false, rfl, h⟩
         ·refine wp_condF R (congrArg (fun b => some (Value.bool b)) g16) ?_
          refine wp_skip ?_
          refine then_normal ?_
          refine wp_seq ?_
          refine seq_join (fun a w => ∃ y17_88 : Bool, Rep a 114 [(7, .pointer x15_6_0), (88, .bool y17_88)] [] ∧ levylaw19_DrawerKept.k17 x15_6_0 y17_88 Q w) ?_ ?_
          ·refine wp_region_lit ?_
           refine omv R rfl rfl fun a R => ?_
           obtain ⟨x76_38, cx76_38, h⟩ := h
           refine onl R rfl cx76_38 rfl fun a R => ?_
           refine ofd R rfl fd32_4 rfl fun a R => ?_
           obtain ⟨x78_39, cx78_39, h⟩ := h
           refine old R rfl Tryd.underlying30 rfl cx78_39 rfl fun a R => ?_
           refine op_val R (rn_len R rfl Tryd.underlying30) rfl fun a R => ?_
           refine op_val R (rn_bin (v := .bool (((x78_39.len : Nat) : Int) != 1)) R rfl rfl rfl) rfl fun a R => ?_
           refine omv R rfl rfl fun a R => ?_
           rcases ite_cases h with ⟨g42, h⟩ | ⟨g42, h⟩
           ·refine op_pass R rfl rfl rfl (nft g42) (fun a R => ?_) (by intro s hs; cases hs; rfl)
            refine op_pass R rfl rfl rfl (nft g42) (fun a R => ?_) (by intro s hs; cases hs; rfl)
            refine op_pass R rfl rfl rfl (nft g42) (fun a R => ?_) (by intro s hs; cases hs; rfl)
            refine op_pass R rfl rfl rfl (nft g42) (fun a R => ?_) (by intro s hs; cases hs; rfl)
            refine op_pass R rfl rfl rfl (nft g42) (fun a R => ?_) (by intro s hs; cases hs; rfl)
            refine op_pass R rfl rfl rfl (nft g42) (fun a R => ?_) (by intro s hs; cases hs; rfl)
            refine op_val R (rn_pickT R rfl g42 rfl) rfl fun a R => ?_
            refine wpList_nil ?_
            refine then_normal ?_
            exact ⟨true, R.weak ⟨rfl, rfl, trivial⟩, h⟩
           ·refine op_guard R rfl rfl rfl g42 ?_
            refine omv R rfl rfl fun a R => ?_
            refine op_guard R rfl rfl rfl g42 ?_
            obtain ⟨x83_43, cx83_43, h⟩ := h
            refine onl R rfl cx83_43 rfl fun a R => ?_
            refine op_guard R rfl rfl rfl g42 ?_
            refine ofd R rfl fd32_3 rfl fun a R => ?_
            refine op_guard R rfl rfl rfl g42 ?_
            obtain ⟨x85_44, cx85_44, h⟩ := h
            refine old R rfl Tryd.underlying29 rfl cx85_44 rfl fun a R => ?_
            refine op_guard R rfl rfl rfl g42 ?_
            refine op_val R (rn_len R rfl Tryd.underlying29) rfl fun a R => ?_
            refine op_guard R rfl rfl rfl g42 ?_
            refine op_val R (rn_bin (v := .bool (((x85_44.len : Nat) : Int) != 2)) R rfl rfl rfl) rfl fun a R => ?_
            refine op_val R (rn_pickF R rfl g42 rfl) rfl fun a R => ?_
            refine wpList_nil ?_
            refine then_normal ?_
            exact ⟨(((x85_44.len : Nat) : Int) != 2), R.weak ⟨rfl, rfl, trivial⟩, h⟩
          ·rintro a w ⟨y17_88, R, h⟩
           unfold levylaw19_DrawerKept.k17 at h
           rcases ite_cases h with ⟨g18, h⟩ | ⟨g18, h⟩
           ·refine wp_condT R (congrArg (fun b => some (Value.bool b)) g18) ?_
            refine wp_seq ?_
            refine wp_region_lit ?_
            refine oas R rfl rfl fun a R => ?_
            refine wpList_nil ?_
            refine then_normal ?_
            refine wp_ret ?_
            refine then_ret ?_
            exact post_ret R rfl rfl ⟨false, rfl, h⟩
           ·refine wp_condF R (congrArg (fun b => some (Value.bool b)) g18) ?_
            refine wp_skip ?_
            refine then_normal ?_
            refine wp_seq ?_
            refine wp_region_lit ?_
            refine omv R rfl rfl fun a R => ?_
            obtain ⟨x90_19, cx90_19, h⟩ := h
            refine onl R rfl cx90_19 rfl fun a R => ?_
            refine ofd R rfl fd32_0 rfl fun a R => ?_
            obtain ⟨x92_20, cx92_20, h⟩ := h
            refine old R rfl Tryd.underlying27 rfl cx92_20 rfl fun a R => ?_
            refine op_call R (rn_calls R rfl cf18) rfl ?_
            refine call_mono (s_drawer_Disk_Restart _ (Sl.mk none 0 0) _ _ h) ?_
            rintro _ w37 ⟨rfl, h⟩ a R
            refine wpList_nil ?_
            refine then_normal ?_
            refine seq_join (fun a w => ∃ y22_6 : Bool, Rep a 114 [(6, .bool y22_6)] [] ∧ levylaw19_DrawerKept.k22 y22_6 Q w) ?_ ?_
            ·refine wp_region_lit ?_
             refine omv R rfl rfl fun a R => ?_
             refine op_call R (rn_calls R rfl cf8) rfl ?_
             refine call_mono (s_levylaw19_world_open _ _ _ h) ?_
             rintro _ w36 ⟨x95_23_0, rfl, h⟩ a R
             refine omv R rfl rfl fun a R => ?_
             rcases ite_cases h with ⟨g24, h⟩ | ⟨g24, h⟩
             ·refine op_guard R rfl rfl rfl g24 ?_
              refine omv R rfl rfl fun a R => ?_
              refine op_guard R rfl rfl rfl g24 ?_
              obtain ⟨x98_25, cx98_25, h⟩ := h
              refine onl R rfl cx98_25 rfl fun a R => ?_
              refine op_guard R rfl rfl rfl g24 ?_
              refine ofd R rfl fd32_4 rfl fun a R => ?_
              refine op_guard R rfl rfl rfl g24 ?_
              obtain ⟨x100_26, cx100_26, h⟩ := h
              refine old R rfl Tryd.underlying30 rfl cx100_26 rfl fun a R => ?_
              refine op_guard R rfl rfl rfl g24 ?_
              refine op_val R (rn_len R rfl Tryd.underlying30) rfl fun a R => ?_
              refine op_guard R rfl rfl rfl g24 ?_
              refine op_val R (rn_bin (v := .bool (((x100_26.len : Nat) : Int) == 1)) R rfl rfl rfl) rfl fun a R => ?_
              refine op_val R (rn_pickT R rfl g24 rfl) rfl fun a R => ?_
              refine omv R rfl rfl fun a R => ?_
              rcases ite_cases h with ⟨g29, h⟩ | ⟨g29, h⟩
              ·refine op_guard R rfl rfl rfl g29 ?_
               refine omv R rfl rfl fun a R => ?_
               refine op_guard R rfl rfl rfl g29 ?_
               obtain ⟨x106_30, cx106_30, h⟩ := h
               refine onl R rfl cx106_30 rfl fun a R => ?_
               refine op_guard R rfl rfl rfl g29 ?_
               refine ofd R rfl fd32_4 rfl fun a R => ?_
               refine op_guard R rfl rfl rfl g29 ?_
               obtain ⟨x108_31, cx108_31, h⟩ := h
               refine old R rfl Tryd.underlying30 rfl cx108_31 rfl fun a R => ?_
               refine op_guard R rfl rfl rfl g29 ?_
               obtain ⟨b32, x109_33, p32, i32, j32, e32, h⟩ := ix_e h
               refine op_val (v := .pointer (some x109_33)) R (by rw [e32]; exact rn_ixs (x := (.tmp 108)) (y := (.const (.int .i64 0))) R rfl p32 rfl Tryd.underlying30 sz37 i32 j32) rfl fun a R => ?_
               refine op_guard R rfl rfl rfl g29 ?_
               refine ofd R rfl fd37_0 rfl fun a R => ?_
               refine op_guard R rfl rfl rfl g29 ?_
               obtain ⟨x111_34, cx111_34, h⟩ := h
               refine old R rfl Tryd.underlying5 rfl cx111_34 rfl fun a R => ?_
               refine op_guard R rfl rfl rfl g29 ?_
               refine op_val R (rn_bin (v := .bool (x111_34 == 9)) R rfl rfl rfl) rfl fun a R => ?_
               refine op_val R (rn_pickT R rfl g29 rfl) rfl fun a R => ?_
               refine oas R rfl rfl fun a R => ?_
               refine wpList_nil ?_
               refine then_normal ?_
               exact ⟨(x111_34 == 9), R.weak ⟨rfl, trivial⟩, h⟩
              ·refine op_pass R rfl rfl rfl (ntf g29) (fun a R => ?_) (by intro s hs; cases hs; rfl)
               refine op_pass R rfl rfl rfl (ntf g29) (fun a R => ?_) (by intro s hs; cases hs; rfl)
               refine op_pass R rfl rfl rfl (ntf g29) (fun a R => ?_) (by intro s hs; cases hs; rfl)
               refine op_pass R rfl rfl rfl (ntf g29) (fun a R => ?_) (by intro s hs; cases hs; rfl)
               refine op_pass R rfl rfl rfl (ntf g29) (fun a R => ?_) (by intro s hs; cases hs; rfl)
               refine op_pass R rfl rfl rfl (ntf g29) (fun a R => ?_) (by intro s hs; cases hs; rfl)
               refine op_pass R rfl rfl rfl (ntf g29) (fun a R => ?_) (by intro s hs; cases hs; rfl)
               refine op_pass R rfl rfl rfl (ntf g29) (fun a R => ?_) (by intro s hs; cases hs; rfl)
               refine op_val R (rn_pickF R rfl g29 rfl) rfl fun a R => ?_
               refine oas R rfl rfl fun a R => ?_
               refine wpList_nil ?_
               refine then_normal ?_
               exact ⟨false, R.weak ⟨rfl, trivial⟩, h⟩
             ·refine op_pass R rfl rfl rfl (ntf g24) (fun a R => ?_) (by intro s hs; cases hs; rfl)
              refine op_pass R rfl rfl rfl (ntf g24) (fun a R => ?_) (by intro s hs; cases hs; rfl)
              refine op_pass R rfl rfl rfl (ntf g24) (fun a R => ?_) (by intro s hs; cases hs; rfl)
              refine op_pass R rfl rfl rfl (ntf g24) (fun a R => ?_) (by intro s hs; cases hs; rfl)
              refine op_pass R rfl rfl rfl (ntf g24) (fun a R => ?_) (by intro s hs; cases hs; rfl)
              refine op_pass R rfl rfl rfl (ntf g24) (fun a R => ?_) (by intro s hs; cases hs; rfl)
              refine op_val R (rn_pickF R rfl g24 rfl) rfl fun a R => ?_
              refine omv R rfl rfl fun a R => ?_
              refine op_pass R rfl rfl rfl (ntf rfl) (fun a R => ?_) (by intro s hs; cases hs; rfl)
              refine op_pass R rfl rfl rfl (ntf rfl) (fun a R => ?_) (by intro s hs; cases hs; rfl)
              refine op_pass R rfl rfl rfl (ntf rfl) (fun a R => ?_) (by intro s hs; cases hs; rfl)
              refine op_pass R rfl rfl rfl (ntf rfl) (fun a R => ?_) (by intro s hs; cases hs; rfl)
              refine op_pass R rfl rfl rfl (ntf rfl) (fun a R => ?_) (by intro s hs; cases hs; rfl)
              refine op_pass R rfl rfl rfl (ntf rfl) (fun a R => ?_) (by intro s hs; cases hs; rfl)
              refine op_pass R rfl rfl rfl (ntf rfl) (fun a R => ?_) (by intro s hs; cases hs; rfl)
              refine op_pass R rfl rfl rfl (ntf rfl) (fun a R => ?_) (by intro s hs; cases hs; rfl)
              refine op_val R (rn_pickF R rfl rfl rfl) rfl fun a R => ?_
              refine oas R rfl rfl fun a R => ?_
              refine wpList_nil ?_
              refine then_normal ?_
              exact ⟨false, R.weak ⟨rfl, trivial⟩, h⟩
            ·rintro a w ⟨y22_6, R, h⟩
             unfold levylaw19_DrawerKept.k22 at h
             refine wp_ret ?_
             exact post_ret R rfl rfl ⟨y22_6, rfl, h⟩
 ·refine wp_condT R (congrArg (fun b => some (Value.bool b)) (nt g2)) ?_
  refine wp_seq ?_
  refine wp_region_lit ?_
  refine oas R rfl rfl fun a R => ?_
  refine wpList_nil ?_
  refine then_normal ?_
  refine wp_ret ?_
  refine then_ret ?_
  exact post_ret R rfl rfl ⟨false, rfl, h⟩
theorem s_levylaw19_DrawerKept (x0 : Int) (x1 : Sl) (x2 : Sl) (Q : Bool → World → Prop) (w : World) (h : levylaw19_DrawerKept x0 x1 x2 Q w) :
    Calls Tryd.prog 5 #[.int .u32 x0, Sl.val x1, Sl.val x2] w (Rets fun v w => ∃ r0 : Bool, v = (.bool r0 : Value) ∧ Q r0 w) :=
  calls_body (args := [.int .u32 x0, Sl.val x1, Sl.val x2]) Tryd.func5 rfl rfl (Nat.le_of_ble_eq_true rfl) (L := [(0, .int .u32 x0), (1, Sl.val x1), (2, Sl.val x2)]) (by simp [starts]) (b_levylaw19_DrawerKept x0 x1 x2 Q w h rfl)

end Go.Proofs.YtjnifnlkicajhaaDoor.Fs
