/-
  Written by a program of this claim (wip/gen/gen.py): what each Go function asks of the world, as a plain predicate, and that it is enough. No condition is put on any statement here.
-/
import Derived.Test.YtjnifnlkicajhaaDoorVcDraw
import Derived.Test.YtjnifnlkicajhaaDoorFacts
import Derived.Test.YtjnifnlkicajhaaDoorG0
set_option linter.unusedVariables false
set_option maxRecDepth 100000
set_option maxHeartbeats 2000000
namespace Go.Proofs.YtjnifnlkicajhaaDoor.Fs
open Go Vc

/-! (drawer.Disk).Sync$1 -/

def drawer_Disk_Sync_1 (x0 : Option Addr) (Q : World → Prop) (w : World) : Prop :=
  nn x0 fun x4_1 => ld Sl.val w (x4_1.add 0) fun x6_2 => nn x0 fun x8_4 => st w (x8_4.add 1) (.int .i64 ((x6_2.len : Nat) : Int)) fun w => Q  w

theorem b_drawer_Disk_Sync_1 (x0 : Option Addr) (Q : World → Prop) (w : World) (h : drawer_Disk_Sync_1 x0 Q w) {c : Code} (hb : Tryd.f50.body = some c) :
 ∀ a, Rep a 10 [(0, .pointer x0)] [] → c.wp Tryd.prog (bodyPost Tryd.prog Tryd.f50 (Rets fun v w => v = (.tuple #[] : Value) ∧ Q w)) a w := by
 intro a R
 obtain rfl := Option.some.inj hb
 unfold drawer_Disk_Sync_1 at h
 refine wp_region_lit ?_
 refine omv R rfl rfl fun a R => ?_
 refine omv R rfl rfl fun a R => ?_
 obtain ⟨x4_1, cx4_1, h⟩ := h
 refine onl R rfl cx4_1 rfl fun a R => ?_
 refine ofd R rfl fd78_0 rfl fun a R => ?_
 obtain ⟨x6_2, cx6_2, h⟩ := h
 refine old R rfl Tryd.underlying29 rfl cx6_2 rfl fun a R => ?_
 refine op_val R (rn_len R rfl Tryd.underlying29) rfl fun a R => ?_
 obtain ⟨x8_4, cx8_4, h⟩ := h
 refine onl R rfl cx8_4 rfl fun a R => ?_
 refine ofd R rfl fd78_1 rfl fun a R => ?_
 obtain ⟨q5, f5, h⟩ := h
 refine op_unit R (rn_st R rfl rfl rfl sz3 q5 f5) fun a R => ?_
 refine wpList_nil ?_
 exact post_end R rfl rfl ⟨rfl, h⟩
theorem s_drawer_Disk_Sync_1 (x0 : Option Addr) (Q : World → Prop) (w : World) (h : drawer_Disk_Sync_1 x0 Q w) :
    Calls Tryd.prog 50 #[.pointer x0] w (Rets fun v w => v = (.tuple #[] : Value) ∧ Q w) :=
  calls_body (args := [.pointer x0]) Tryd.func50 rfl rfl (Nat.le_of_ble_eq_true rfl) (L := [(0, .pointer x0)]) (by simp [starts]) (b_drawer_Disk_Sync_1 x0 Q w h rfl)

/-! (drawer.Disk).Sync -/

def drawer_Disk_Sync (x0 : Option Addr) (x1 : ByteArray) (Q : Int → World → Prop) (w : World) : Prop :=
  drawer_Disk_change x0 x1 (.func (.func 50) #[] [].toArray : Value) (fun x7_1_0 w => Q x7_1_0 w) w

theorem b_drawer_Disk_Sync (x0 : Option Addr) (x1 : ByteArray) (Q : Int → World → Prop) (w : World) (h : drawer_Disk_Sync x0 x1 Q w) {c : Code} (hb : Tryd.f37.body = some c) :
 ∀ a, Rep a 8 [(0, .pointer x0), (1, .string x1)] [] → c.wp Tryd.prog (bodyPost Tryd.prog Tryd.f37 (Rets fun v w => ∃ r0 : Int, v = (.int .i64 r0 : Value) ∧ Q r0 w)) a w := by
 intro a R
 obtain rfl := Option.some.inj hb
 unfold drawer_Disk_Sync at h
 refine wp_seq ?_
 refine wp_region_lit ?_
 refine oas R rfl rfl fun a R => ?_
 refine wpList_nil ?_
 refine then_normal ?_
 refine wp_seq ?_
 refine wp_region_lit ?_
 refine omv R rfl rfl fun a R => ?_
 refine omv R rfl rfl fun a R => ?_
 refine op_call R (rn_calls R rfl cf49) rfl ?_
 refine call_mono (s_drawer_Disk_change _ _ _ _ _ h) ?_
 rintro _ w2 ⟨x7_1_0, rfl, h⟩ a R
 refine oas R rfl rfl fun a R => ?_
 refine wpList_nil ?_
 refine then_normal ?_
 refine wp_ret ?_
 exact post_ret R rfl rfl ⟨x7_1_0, rfl, h⟩
theorem s_drawer_Disk_Sync (x0 : Option Addr) (x1 : ByteArray) (Q : Int → World → Prop) (w : World) (h : drawer_Disk_Sync x0 x1 Q w) :
    Calls Tryd.prog 37 #[.pointer x0, .string x1] w (Rets fun v w => ∃ r0 : Int, v = (.int .i64 r0 : Value) ∧ Q r0 w) :=
  calls_body (args := [.pointer x0, .string x1]) Tryd.func37 rfl rfl (Nat.le_of_ble_eq_true rfl) (L := [(0, .pointer x0), (1, .string x1)]) (by simp [starts]) (b_drawer_Disk_Sync x0 x1 Q w h rfl)

/-! (drawer.Disk).lay -/

def drawer_Disk_lay (x0 : Option Addr) (x1 : ByteArray) (x2 : Sl) (Q : Int → World → Prop) (w : World) : Prop :=
  drawer_Disk_Append x0 x1 x2 (fun x11_1_0 w => (if (x11_1_0 != 0) = true then Q x11_1_0 w else drawer_Disk_Sync x0 x1 (fun x17_4_0 w => Q x17_4_0 w) w)) w

theorem b_drawer_Disk_lay (x0 : Option Addr) (x1 : ByteArray) (x2 : Sl) (Q : Int → World → Prop) (w : World) (h : drawer_Disk_lay x0 x1 x2 Q w) {c : Code} (hb : Tryd.f25.body = some c) :
 ∀ a, Rep a 18 [(0, .pointer x0), (1, .string x1), (2, Sl.val x2)] [] → c.wp Tryd.prog (bodyPost Tryd.prog Tryd.f25 (Rets fun v w => ∃ r0 : Int, v = (.int .i64 r0 : Value) ∧ Q r0 w)) a w := by
 intro a R
 obtain rfl := Option.some.inj hb
 unfold drawer_Disk_lay at h
 refine wp_seq ?_
 refine wp_region_lit ?_
 refine oas R rfl rfl fun a R => ?_
 refine wpList_nil ?_
 refine then_normal ?_
 refine wp_seq ?_
 refine wp_seq ?_
 refine wp_region_lit ?_
 refine omv R rfl rfl fun a R => ?_
 refine omv R rfl rfl fun a R => ?_
 refine omv R rfl rfl fun a R => ?_
 refine op_call R (rn_calls R rfl cf36) rfl ?_
 refine call_mono (s_drawer_Disk_Append _ _ _ _ _ h) ?_
 rintro _ w6 ⟨x11_1_0, rfl, h⟩ a R
 refine oas R rfl rfl fun a R => ?_
 refine wpList_nil ?_
 refine then_normal ?_
 refine wp_seq ?_
 refine wp_region_lit ?_
 refine omv R rfl rfl fun a R => ?_
 refine op_val R (rn_bin (v := .bool (x11_1_0 != 0)) R rfl rfl rfl) rfl fun a R => ?_
 refine wpList_nil ?_
 refine then_normal ?_
 rcases ite_cases h with ⟨g3, h⟩ | ⟨g3, h⟩
 ·refine wp_condT R (congrArg (fun b => some (Value.bool b)) g3) ?_
  refine wp_seq ?_
  refine wp_region_lit ?_
  refine omv R rfl rfl fun a R => ?_
  refine oas R rfl rfl fun a R => ?_
  refine wpList_nil ?_
  refine then_normal ?_
  refine wp_ret ?_
  refine then_ret ?_
  exact post_ret R rfl rfl ⟨x11_1_0, rfl, h⟩
 ·refine wp_condF R (congrArg (fun b => some (Value.bool b)) g3) ?_
  refine wp_skip ?_
  refine then_normal ?_
  refine wp_seq ?_
  refine wp_region_lit ?_
  refine omv R rfl rfl fun a R => ?_
  refine omv R rfl rfl fun a R => ?_
  refine op_call R (rn_calls R rfl cf37) rfl ?_
  refine call_mono (s_drawer_Disk_Sync _ _ _ _ h) ?_
  rintro _ w5 ⟨x17_4_0, rfl, h⟩ a R
  refine oas R rfl rfl fun a R => ?_
  refine wpList_nil ?_
  refine then_normal ?_
  refine wp_ret ?_
  exact post_ret R rfl rfl ⟨x17_4_0, rfl, h⟩
theorem s_drawer_Disk_lay (x0 : Option Addr) (x1 : ByteArray) (x2 : Sl) (Q : Int → World → Prop) (w : World) (h : drawer_Disk_lay x0 x1 x2 Q w) :
    Calls Tryd.prog 25 #[.pointer x0, .string x1, Sl.val x2] w (Rets fun v w => ∃ r0 : Int, v = (.int .i64 r0 : Value) ∧ Q r0 w) :=
  calls_body (args := [.pointer x0, .string x1, Sl.val x2]) Tryd.func25 rfl rfl (Nat.le_of_ble_eq_true rfl) (L := [(0, .pointer x0), (1, .string x1), (2, Sl.val x2)]) (by simp [starts]) (b_drawer_Disk_lay x0 x1 x2 Q w h rfl)

/-! drawer.name -/

def drawer_name (x0 : Int) (Q : ByteArray → World → Prop) (w : World) : Prop :=
  Calls Tryd.prog 38 #[.int .i64 x0] w (Rets fun v w => ∃ x5_1_0, v = (.string x5_1_0 : Value) ∧ ((0 : Int) ≤ (if (IntKind.i64.wrap (8 - ((ByteArray.size x5_1_0 : Nat) : Int))) > 0 then (IntKind.i64.wrap (8 - ((ByteArray.size x5_1_0 : Nat) : Int))) else 0) ∧ (if (IntKind.i64.wrap (8 - ((ByteArray.size x5_1_0 : Nat) : Int))) > 0 then (IntKind.i64.wrap (8 - ((ByteArray.size x5_1_0 : Nat) : Int))) else 0) ≤ ((ByteArray.size ⟨#[48, 48, 48, 48, 48, 48, 48, 48]⟩ : Nat) : Int) ∧ (ByteArray.size ⟨#[108, 111, 103, 45]⟩ + ByteArray.size (ByteArray.extract ⟨#[48, 48, 48, 48, 48, 48, 48, 48]⟩ 0 (Int.toNat (if (IntKind.i64.wrap (8 - ((ByteArray.size x5_1_0 : Nat) : Int))) > 0 then (IntKind.i64.wrap (8 - ((ByteArray.size x5_1_0 : Nat) : Int))) else 0))) ≤ 9223372036854775807 ∧ (ByteArray.size (⟨#[108, 111, 103, 45]⟩ ++ (ByteArray.extract ⟨#[48, 48, 48, 48, 48, 48, 48, 48]⟩ 0 (Int.toNat (if (IntKind.i64.wrap (8 - ((ByteArray.size x5_1_0 : Nat) : Int))) > 0 then (IntKind.i64.wrap (8 - ((ByteArray.size x5_1_0 : Nat) : Int))) else 0)))) + ByteArray.size x5_1_0 ≤ 9223372036854775807 ∧ Q ((⟨#[108, 111, 103, 45]⟩ ++ (ByteArray.extract ⟨#[48, 48, 48, 48, 48, 48, 48, 48]⟩ 0 (Int.toNat (if (IntKind.i64.wrap (8 - ((ByteArray.size x5_1_0 : Nat) : Int))) > 0 then (IntKind.i64.wrap (8 - ((ByteArray.size x5_1_0 : Nat) : Int))) else 0)))) ++ x5_1_0) w))))

theorem b_drawer_name (x0 : Int) (Q : ByteArray → World → Prop) (w : World) (h : drawer_name x0 Q w) {c : Code} (hb : Tryd.f26.body = some c) :
 ∀ a, Rep a 14 [(0, .int .i64 x0)] [] → c.wp Tryd.prog (bodyPost Tryd.prog Tryd.f26 (Rets fun v w => ∃ r0 : ByteArray, v = (.string r0 : Value) ∧ Q r0 w)) a w := by
 intro a R
 obtain rfl := Option.some.inj hb
 unfold drawer_name at h
 refine wp_seq ?_
 refine wp_region_lit ?_
 refine oas R rfl rfl fun a R => ?_
 refine wpList_nil ?_
 refine then_normal ?_
 refine wp_seq ?_
 refine wp_region_lit ?_
 refine omv R rfl rfl fun a R => ?_
 refine op_call R (rn_calls R rfl cf38) rfl ?_
 refine call_mono (h) ?_
 rintro _ w8 ⟨x5_1_0, rfl, h⟩ a R
 refine oas R rfl rfl fun a R => ?_
 refine wpList_nil ?_
 refine then_normal ?_
 refine wp_seq ?_
 refine wp_region_lit ?_
 refine omv R rfl rfl fun a R => ?_
 refine op_val R (rn_lenS R rfl Tryd.underlying9) rfl fun a R => ?_
 refine op_val R (rn_bin (v := .int .i64 (IntKind.i64.wrap (8 - ((ByteArray.size x5_1_0 : Nat) : Int)))) R rfl rfl rfl) rfl fun a R => ?_
 refine op_val R (rn_max R rfl rfl) rfl fun a R => ?_
 obtain ⟨s5_0, s5_1, h⟩ := h
 refine op_val R (rn_slS R rfl rfl (evo R rfl) (fun w => bounds2 (lo := none) (hi := (some (.i64, (if (IntKind.i64.wrap (8 - ((ByteArray.size x5_1_0 : Nat) : Int))) > 0 then (IntKind.i64.wrap (8 - ((ByteArray.size x5_1_0 : Nat) : Int))) else 0)))) 0 (Int.toNat (if (IntKind.i64.wrap (8 - ((ByteArray.size x5_1_0 : Nat) : Int))) > 0 then (IntKind.i64.wrap (8 - ((ByteArray.size x5_1_0 : Nat) : Int))) else 0)) ⟨s5_0, s5_1, rfl⟩ rfl w) Tryd.underlying9) rfl fun a R => ?_
 obtain ⟨n6, h⟩ := h
 refine op_val R (rn_binS R rfl rfl (str_add n6)) rfl fun a R => ?_
 refine omv R rfl rfl fun a R => ?_
 obtain ⟨n7, h⟩ := h
 refine op_val R (rn_binS R rfl rfl (str_add n7)) rfl fun a R => ?_
 refine oas R rfl rfl fun a R => ?_
 refine wpList_nil ?_
 refine then_normal ?_
 refine wp_ret ?_
 exact post_ret R rfl rfl ⟨((⟨#[108, 111, 103, 45]⟩ ++ (ByteArray.extract ⟨#[48, 48, 48, 48, 48, 48, 48, 48]⟩ 0 (Int.toNat (if (IntKind.i64.wrap (8 - ((ByteArray.size x5_1_0 : Nat) : Int))) > 0 then (IntKind.i64.wrap (8 - ((ByteArray.size x5_1_0 : Nat) : Int))) else 0)))) ++ x5_1_0), rfl, h⟩
theorem s_drawer_name (x0 : Int) (Q : ByteArray → World → Prop) (w : World) (h : drawer_name x0 Q w) :
    Calls Tryd.prog 26 #[.int .i64 x0] w (Rets fun v w => ∃ r0 : ByteArray, v = (.string r0 : Value) ∧ Q r0 w) :=
  calls_body (args := [.int .i64 x0]) Tryd.func26 rfl rfl (Nat.le_of_ble_eq_true rfl) (L := [(0, .int .i64 x0)]) (by simp [starts]) (b_drawer_name x0 Q w h rfl)

/-! drawer.put32 -/

def drawer_put32 (x0 : Sl) (x1 : Int) (Q : Sl → World → Prop) (w : World) : Prop :=
  al w (.cells #[.int .u8 (IntKind.u8.wrap x1), .int .u8 (IntKind.u8.wrap (Int.fdiv x1 (2 ^ 8))), .int .u8 (IntKind.u8.wrap (Int.fdiv x1 (2 ^ 16))), .int .u8 (IntKind.u8.wrap (Int.fdiv x1 (2 ^ 24)))] 5) fun x17_4 w => rn Tryd.prog Sl.val (Builtin.append_ #[29, 29] 29 [Sl.val x0, .slice (some x17_4) 4 4].toArray) w fun x18_7 w => Q x18_7 w

theorem b_drawer_put32 (x0 : Sl) (x1 : Int) (Q : Sl → World → Prop) (w : World) (h : drawer_put32 x0 x1 Q w) {c : Code} (hb : Tryd.f39.body = some c) :
 ∀ a, Rep a 19 [(0, Sl.val x0), (1, .int .u32 x1)] [] → c.wp Tryd.prog (bodyPost Tryd.prog Tryd.f39 (Rets fun v w => ∃ r0 : Sl, v = (Sl.val r0 : Value) ∧ Q r0 w)) a w := by
 intro a R
 obtain rfl := Option.some.inj hb
 unfold drawer_put32 at h
 refine wp_seq ?_
 refine wp_region_lit ?_
 refine oas R rfl rfl fun a R => ?_
 refine wpList_nil ?_
 refine then_normal ?_
 refine wp_seq ?_
 refine wp_region_lit ?_
 refine omv R rfl rfl fun a R => ?_
 refine omv R rfl rfl fun a R => ?_
 refine op_val R (rn_cvI R rfl Tryd.underlying22 Tryd.underlying5) rfl fun a R => ?_
 refine omv R rfl rfl fun a R => ?_
 refine op_val R (rn_bin (v := .int .u32 (Int.fdiv x1 (2 ^ 8))) R rfl rfl rfl) rfl fun a R => ?_
 refine op_val R (rn_cvI R rfl Tryd.underlying22 Tryd.underlying5) rfl fun a R => ?_
 refine omv R rfl rfl fun a R => ?_
 refine op_val R (rn_bin (v := .int .u32 (Int.fdiv x1 (2 ^ 16))) R rfl rfl rfl) rfl fun a R => ?_
 refine op_val R (rn_cvI R rfl Tryd.underlying22 Tryd.underlying5) rfl fun a R => ?_
 refine omv R rfl rfl fun a R => ?_
 refine op_val R (rn_bin (v := .int .u32 (Int.fdiv x1 (2 ^ 24))) R rfl rfl rfl) rfl fun a R => ?_
 refine op_val R (rn_cvI R rfl Tryd.underlying22 Tryd.underlying5) rfl fun a R => ?_
 obtain ⟨x17_4, e5, h⟩ := al_e h
 refine op_val (v := .slice (some x17_4) 4 4) R (by rw [e5]; exact rn_buildSlice (t := 29) (len := 4) (xs := [(0, (.tmp 7)), (1, (.tmp 10)), (2, (.tmp 13)), (3, (.tmp 16))]) (cells := #[.int .u8 (IntKind.u8.wrap x1), .int .u8 (IntKind.u8.wrap (Int.fdiv x1 (2 ^ 8))), .int .u8 (IntKind.u8.wrap (Int.fdiv x1 (2 ^ 16))), .int .u8 (IntKind.u8.wrap (Int.fdiv x1 (2 ^ 24)))]) (e := 5) R rfl (fun w => by kernel_rfl)) rfl fun a R => ?_
 obtain ⟨x18_7, w6, cx18_7, h⟩ := h
 refine op_val R (rn_bi (vs := [Sl.val x0, .slice (some x17_4) 4 4]) R rfl (fun _ => rfl) cx18_7) rfl fun a R => ?_
 refine oas R rfl rfl fun a R => ?_
 refine wpList_nil ?_
 refine then_normal ?_
 refine wp_ret ?_
 exact post_ret R rfl rfl ⟨x18_7, rfl, h⟩
theorem s_drawer_put32 (x0 : Sl) (x1 : Int) (Q : Sl → World → Prop) (w : World) (h : drawer_put32 x0 x1 Q w) :
    Calls Tryd.prog 39 #[Sl.val x0, .int .u32 x1] w (Rets fun v w => ∃ r0 : Sl, v = (Sl.val r0 : Value) ∧ Q r0 w) :=
  calls_body (args := [Sl.val x0, .int .u32 x1]) Tryd.func39 rfl rfl (Nat.le_of_ble_eq_true rfl) (L := [(0, Sl.val x0), (1, .int .u32 x1)]) (by simp [starts]) (b_drawer_put32 x0 x1 Q w h rfl)

/-! pack.Sum -/

def pack_Sum.k1 (y1_3 : Int) (Q : Int → World → Prop) (w : World) : Prop :=
  Q y1_3 w

def pack_Sum.l3 (x0 : Sl) (z3_3 : Int) (z3_8 : Int) (Q : Int → World → Prop) (K3 : Int → Int → World → Prop) (w : World) : Prop :=
  (if (decide (z3_8 < ((x0.len : Nat) : Int))) = true then ix x0.p x0.len z3_8 1 fun x10_7 => ld (Value.int .u8) w x10_7 fun x11_8 => K3 (IntKind.u32.wrap ((bits .xor .u32 z3_3 (IntKind.u32.wrap x11_8)) * 16777619)) (IntKind.i64.wrap (z3_8 + 1)) w else pack_Sum.k1 z3_3 Q w)

def pack_Sum (x0 : Sl) (Q : Int → World → Prop) (w : World) : Prop :=
  (Fix (σ := Int × Int) (fun Ks s w => pack_Sum.l3 x0 s.1 s.2 Q (fun z3_3 z3_8 w => Ks (z3_3, z3_8) w) w) (2166136261, 0) w)

theorem b_pack_Sum (x0 : Sl) (Q : Int → World → Prop) (w : World) (h : pack_Sum x0 Q w) {c : Code} (hb : Tryd.f40.body = some c) :
 ∀ a, Rep a 19 [(0, Sl.val x0)] [] → c.wp Tryd.prog (bodyPost Tryd.prog Tryd.f40 (Rets fun v w => ∃ r0 : Int, v = (.int .u32 r0 : Value) ∧ Q r0 w)) a w := by
 intro a R
 obtain rfl := Option.some.inj hb
 unfold pack_Sum at h
 refine wp_seq ?_
 refine wp_region_lit ?_
 refine oas R rfl rfl fun a R => ?_
 refine wpList_nil ?_
 refine then_normal ?_
 refine wp_seq ?_
 refine wp_region_lit ?_
 refine oas R rfl rfl fun a R => ?_
 refine wpList_nil ?_
 refine then_normal ?_
 refine seq_join (fun a w => ∃ y1_3 : Int, Rep a 19 [(3, .int .u32 y1_3)] [] ∧ pack_Sum.k1 y1_3 Q w) ?_ ?_
 ·refine wp_seq ?_
  refine wp_region_lit ?_
  refine omv R rfl rfl fun a R => ?_
  refine op_val R (rn_len R rfl Tryd.underlying29) rfl fun a R => ?_
  refine omv R rfl rfl fun a R => ?_
  refine wpList_nil ?_
  refine then_normal ?_
  refine wp_block ?_
  refine wp_fix (σ := Int × Int) (fun s a => Rep a 19 [(3, .int .u32 s.1), (6, Sl.val x0), (7, .int .i64 ((x0.len : Nat) : Int)), (8, .int .i64 s.2)] []) h (R.weak ⟨rfl, rfl, rfl, rfl, trivial⟩) ?_
  rintro Ks C ⟨z3_3, z3_8⟩ a w hC R h
  have R : Rep a 19 [(3, .int .u32 z3_3), (6, Sl.val x0), (7, .int .i64 ((x0.len : Nat) : Int)), (8, .int .i64 z3_8)] [] := R
  have h : pack_Sum.l3 x0 z3_3 z3_8 Q (fun z3_3 z3_8 w => Ks (z3_3, z3_8) w) w := h
  generalize hK3 : (fun z3_3 z3_8 w => Ks (z3_3, z3_8) w) = K3 at h
  unfold pack_Sum.l3 at h
  refine wp_seq ?_
  refine wp_region_lit ?_
  refine op_val R (rn_bin (v := .bool (decide (z3_8 < ((x0.len : Nat) : Int)))) R rfl rfl rfl) rfl fun a R => ?_
  refine wpList_nil ?_
  refine then_normal ?_
  refine wp_seq ?_
  rcases ite_cases h with ⟨g5, h⟩ | ⟨g5, h⟩
  ·refine wp_condT R (congrArg (fun b => some (Value.bool b)) g5) ?_
   refine wp_skip ?_
   refine then_normal ?_
   refine wp_seq ?_
   refine wp_block ?_
   refine wp_seq ?_
   refine wp_region_lit ?_
   obtain ⟨b6, x10_7, p6, i6, j6, e6, h⟩ := ix_e h
   refine op_val (v := .pointer (some x10_7)) R (by rw [e6]; exact rn_ixs (x := (.tmp 6)) (y := (.tmp 8)) R rfl p6 rfl Tryd.underlying29 sz5 i6 j6) rfl fun a R => ?_
   obtain ⟨x11_8, cx11_8, h⟩ := h
   refine old R rfl Tryd.underlying5 rfl cx11_8 rfl fun a R => ?_
   refine oas R rfl rfl fun a R => ?_
   refine wpList_nil ?_
   refine then_normal ?_
   refine wp_region_lit ?_
   refine omv R rfl rfl fun a R => ?_
   refine omv R rfl rfl fun a R => ?_
   refine op_val R (rn_cvI R rfl Tryd.underlying5 Tryd.underlying22) rfl fun a R => ?_
   refine op_val R (rn_bin (v := .int .u32 (bits .xor .u32 z3_3 (IntKind.u32.wrap x11_8))) R rfl rfl rfl) rfl fun a R => ?_
   refine op_val R (rn_bin (v := .int .u32 (IntKind.u32.wrap ((bits .xor .u32 z3_3 (IntKind.u32.wrap x11_8)) * 16777619))) R rfl rfl rfl) rfl fun a R => ?_
   refine oas R rfl rfl fun a R => ?_
   refine wpList_nil ?_
   refine block_normal ?_
   refine then_normal ?_
   refine wp_region_lit ?_
   refine op_val R (rn_bin (v := .int .i64 (IntKind.i64.wrap (z3_8 + 1))) R rfl rfl rfl) rfl fun a R => ?_
   refine omv R rfl rfl fun a R => ?_
   refine wpList_nil ?_
   refine then_normal ?_
   exact hC ((IntKind.u32.wrap ((bits .xor .u32 z3_3 (IntKind.u32.wrap x11_8)) * 16777619)), (IntKind.i64.wrap (z3_8 + 1))) _ _ (R.weak ⟨rfl, rfl, rfl, rfl, trivial⟩) (by rw [← hK3] at h; exact h)
  ·refine wp_condF R (congrArg (fun b => some (Value.bool b)) g5) ?_
   refine wp_exit ?_
   refine then_exit ?_
   refine then_exit ?_
   refine block_eq ?_
   refine then_normal ?_
   exact ⟨z3_3, R.weak ⟨rfl, trivial⟩, h⟩
 ·rintro a w ⟨y1_3, R, h⟩
  unfold pack_Sum.k1 at h
  refine wp_seq ?_
  refine wp_region_lit ?_
  refine omv R rfl rfl fun a R => ?_
  refine oas R rfl rfl fun a R => ?_
  refine wpList_nil ?_
  refine then_normal ?_
  refine wp_ret ?_
  exact post_ret R rfl rfl ⟨y1_3, rfl, h⟩
theorem s_pack_Sum (x0 : Sl) (Q : Int → World → Prop) (w : World) (h : pack_Sum x0 Q w) :
    Calls Tryd.prog 40 #[Sl.val x0] w (Rets fun v w => ∃ r0 : Int, v = (.int .u32 r0 : Value) ∧ Q r0 w) :=
  calls_body (args := [Sl.val x0]) Tryd.func40 rfl rfl (Nat.le_of_ble_eq_true rfl) (L := [(0, Sl.val x0)]) (by simp [starts]) (b_pack_Sum x0 Q w h rfl)

/-! drawer.piece -/

def drawer_piece (x0 : Int) (x1 : Int) (x2 : Int) (x3 : Sl) (Q : Sl → World → Prop) (w : World) : Prop :=
  rn Tryd.prog Sl.val (Instr.makeSlice 29 (.int .i64 0) (.int .i64 (IntKind.i64.wrap ((IntKind.i64.wrap (14 + ((x3.len : Nat) : Int))) + 4)))) w fun x14_4 w => al w (.cells #[.int .u8 82] 5) fun x15_6 w => rn Tryd.prog Sl.val (Builtin.append_ #[29, 29] 29 [Sl.val x14_4, .slice (some x15_6) 1 1].toArray) w fun x16_9 w => drawer_put32 x16_9 (IntKind.u32.wrap x0) (fun x20_10_0 w => drawer_put32 x20_10_0 x1 (fun x23_11_0 w => drawer_put32 x23_11_0 (IntKind.u32.wrap ((x3.len : Nat) : Int)) (fun x28_13_0 w => al w (.cells #[.int .u8 x2] 5) fun x31_14 w => rn Tryd.prog Sl.val (Builtin.append_ #[29, 29] 29 [Sl.val x28_13_0, .slice (some x31_14) 1 1].toArray) w fun x32_17 w => rn Tryd.prog Sl.val (Builtin.append_ #[29, 29] 29 [Sl.val x32_17, Sl.val x3].toArray) w fun x35_19 w => pack_Sum x35_19 (fun x38_20_0 w => drawer_put32 x35_19 x38_20_0 (fun x39_21_0 w => Q x39_21_0 w) w) w) w) w) w

theorem b_drawer_piece (x0 : Int) (x1 : Int) (x2 : Int) (x3 : Sl) (Q : Sl → World → Prop) (w : World) (h : drawer_piece x0 x1 x2 x3 Q w) {c : Code} (hb : Tryd.f27.body = some c) :
 ∀ a, Rep a 40 [(0, .int .i64 x0), (1, .int .u32 x1), (2, .int .u8 x2), (3, Sl.val x3)] [] → c.wp Tryd.prog (bodyPost Tryd.prog Tryd.f27 (Rets fun v w => ∃ r0 : Sl, v = (Sl.val r0 : Value) ∧ Q r0 w)) a w := by
 intro a R
 obtain rfl := Option.some.inj hb
 unfold drawer_piece at h
 refine wp_seq ?_
 refine wp_region_lit ?_
 refine oas R rfl rfl fun a R => ?_
 refine wpList_nil ?_
 refine then_normal ?_
 refine wp_seq ?_
 refine wp_region_lit ?_
 refine omv R rfl rfl fun a R => ?_
 refine op_val R (rn_len R rfl Tryd.underlying29) rfl fun a R => ?_
 refine op_val R (rn_bin (v := .int .i64 (IntKind.i64.wrap (14 + ((x3.len : Nat) : Int)))) R rfl rfl rfl) rfl fun a R => ?_
 refine op_val R (rn_bin (v := .int .i64 (IntKind.i64.wrap ((IntKind.i64.wrap (14 + ((x3.len : Nat) : Int))) + 4))) R rfl rfl rfl) rfl fun a R => ?_
 obtain ⟨x14_4, w5, cx14_4, h⟩ := h
 refine op_val R (rn_makeSlice R rfl rfl cx14_4) rfl fun a R => ?_
 obtain ⟨x15_6, e7, h⟩ := al_e h
 refine op_val (v := .slice (some x15_6) 1 1) R (by rw [e7]; exact rn_buildSlice (t := 29) (len := 1) (xs := [(0, (.const (.int .u8 82)))]) (cells := #[.int .u8 82]) (e := 5) R rfl (fun w => by kernel_rfl)) rfl fun a R => ?_
 obtain ⟨x16_9, w8, cx16_9, h⟩ := h
 refine op_val R (rn_bi (vs := [Sl.val x14_4, .slice (some x15_6) 1 1]) R rfl (fun _ => rfl) cx16_9) rfl fun a R => ?_
 refine oas R rfl rfl fun a R => ?_
 refine wpList_nil ?_
 refine then_normal ?_
 refine wp_seq ?_
 refine wp_region_lit ?_
 refine omv R rfl rfl fun a R => ?_
 refine omv R rfl rfl fun a R => ?_
 refine op_val R (rn_cvI R rfl Tryd.underlying3 Tryd.underlying22) rfl fun a R => ?_
 refine op_call R (rn_calls R rfl cf39) rfl ?_
 refine call_mono (s_drawer_put32 _ _ _ _ h) ?_
 rintro _ w26 ⟨x20_10_0, rfl, h⟩ a R
 refine oas R rfl rfl fun a R => ?_
 refine wpList_nil ?_
 refine then_normal ?_
 refine wp_seq ?_
 refine wp_region_lit ?_
 refine omv R rfl rfl fun a R => ?_
 refine omv R rfl rfl fun a R => ?_
 refine op_call R (rn_calls R rfl cf39) rfl ?_
 refine call_mono (s_drawer_put32 _ _ _ _ h) ?_
 rintro _ w25 ⟨x23_11_0, rfl, h⟩ a R
 refine oas R rfl rfl fun a R => ?_
 refine wpList_nil ?_
 refine then_normal ?_
 refine wp_seq ?_
 refine wp_region_lit ?_
 refine omv R rfl rfl fun a R => ?_
 refine omv R rfl rfl fun a R => ?_
 refine op_val R (rn_len R rfl Tryd.underlying29) rfl fun a R => ?_
 refine op_val R (rn_cvI R rfl Tryd.underlying3 Tryd.underlying22) rfl fun a R => ?_
 refine op_call R (rn_calls R rfl cf39) rfl ?_
 refine call_mono (s_drawer_put32 _ _ _ _ h) ?_
 rintro _ w24 ⟨x28_13_0, rfl, h⟩ a R
 refine oas R rfl rfl fun a R => ?_
 refine wpList_nil ?_
 refine then_normal ?_
 refine wp_seq ?_
 refine wp_region_lit ?_
 refine omv R rfl rfl fun a R => ?_
 refine omv R rfl rfl fun a R => ?_
 obtain ⟨x31_14, e15, h⟩ := al_e h
 refine op_val (v := .slice (some x31_14) 1 1) R (by rw [e15]; exact rn_buildSlice (t := 29) (len := 1) (xs := [(0, (.tmp 30))]) (cells := #[.int .u8 x2]) (e := 5) R rfl (fun w => by kernel_rfl)) rfl fun a R => ?_
 obtain ⟨x32_17, w16, cx32_17, h⟩ := h
 refine op_val R (rn_bi (vs := [Sl.val x28_13_0, .slice (some x31_14) 1 1]) R rfl (fun _ => rfl) cx32_17) rfl fun a R => ?_
 refine oas R rfl rfl fun a R => ?_
 refine wpList_nil ?_
 refine then_normal ?_
 refine wp_seq ?_
 refine wp_region_lit ?_
 refine omv R rfl rfl fun a R => ?_
 refine omv R rfl rfl fun a R => ?_
 obtain ⟨x35_19, w18, cx35_19, h⟩ := h
 refine op_val R (rn_bi (vs := [Sl.val x32_17, Sl.val x3]) R rfl (fun _ => rfl) cx35_19) rfl fun a R => ?_
 refine oas R rfl rfl fun a R => ?_
 refine wpList_nil ?_
 refine then_normal ?_
 refine wp_seq ?_
 refine wp_region_lit ?_
 refine omv R rfl rfl fun a R => ?_
 refine omv R rfl rfl fun a R => ?_
 refine op_call R (rn_calls R rfl cf40) rfl ?_
 refine call_mono (s_pack_Sum _ _ _ h) ?_
 rintro _ w23 ⟨x38_20_0, rfl, h⟩ a R
 refine op_call R (rn_calls R rfl cf39) rfl ?_
 refine call_mono (s_drawer_put32 _ _ _ _ h) ?_
 rintro _ w22 ⟨x39_21_0, rfl, h⟩ a R
 refine oas R rfl rfl fun a R => ?_
 refine wpList_nil ?_
 refine then_normal ?_
 refine wp_ret ?_
 exact post_ret R rfl rfl ⟨x39_21_0, rfl, h⟩
theorem s_drawer_piece (x0 : Int) (x1 : Int) (x2 : Int) (x3 : Sl) (Q : Sl → World → Prop) (w : World) (h : drawer_piece x0 x1 x2 x3 Q w) :
    Calls Tryd.prog 27 #[.int .i64 x0, .int .u32 x1, .int .u8 x2, Sl.val x3] w (Rets fun v w => ∃ r0 : Sl, v = (Sl.val r0 : Value) ∧ Q r0 w) :=
  calls_body (args := [.int .i64 x0, .int .u32 x1, .int .u8 x2, Sl.val x3]) Tryd.func27 rfl rfl (Nat.le_of_ble_eq_true rfl) (L := [(0, .int .i64 x0), (1, .int .u32 x1), (2, .int .u8 x2), (3, Sl.val x3)]) (by simp [starts]) (b_drawer_piece x0 x1 x2 x3 Q w h rfl)

/-! drawer.generation -/

def drawer_generation.k5 (x16_4_0 : Int) (y5_27 : Bool) (Q : Int → World → Prop) (w : World) : Prop :=
  (if y5_27 = true then Q 0 w else Q (IntKind.i64.wrap x16_4_0) w)

def drawer_generation.k1 (x0 : ByteArray) (y1_12 : Bool) (Q : Int → World → Prop) (w : World) : Prop :=
  (if y1_12 = true then Q 0 w else ((0 : Int) ≤ 4 ∧ 4 ≤ ((ByteArray.size x0 : Nat) : Int) ∧ Calls Tryd.prog 55 #[.string (ByteArray.extract x0 (Int.toNat 4) (ByteArray.size x0)), .int .i64 10, .int .i64 32] w (Rets fun v w => ∃ x16_4_0 x16_4_1, v = (.tuple #[.int .u64 x16_4_0, x16_4_1] : Value) ∧ rnb Tryd.prog (eqGuard .neq 103 (.tmp 19) (.const (.nilIface)) (x16_4_1) (.nilIface)) (binOp .neq 103 (x16_4_1) (.nilIface)) w fun x20_7 w => (if x20_7 = true then drawer_generation.k5 x16_4_0 true Q w else drawer_name (IntKind.i64.wrap x16_4_0) (fun x24_10_0 w => drawer_generation.k5 x16_4_0 (!(sEq x24_10_0 x0)) Q w) w))))

def drawer_generation (x0 : ByteArray) (Q : Int → World → Prop) (w : World) : Prop :=
  (if (((ByteArray.size x0 : Nat) : Int) != 12) = true then drawer_generation.k1 x0 true Q w else ((0 : Int) ≤ 4 ∧ 4 ≤ ((ByteArray.size x0 : Nat) : Int) ∧ drawer_generation.k1 x0 (!(sEq (ByteArray.extract x0 0 (Int.toNat 4)) ⟨#[108, 111, 103, 45]⟩)) Q w))

theorem b_drawer_generation (x0 : ByteArray) (Q : Int → World → Prop) (w : World) (h : drawer_generation x0 Q w) {c : Code} (hb : Tryd.f43.body = some c) :
 ∀ a, Rep a 30 [(0, .string x0)] [] → c.wp Tryd.prog (bodyPost Tryd.prog Tryd.f43 (Rets fun v w => ∃ r0 : Int, v = (.int .i64 r0 : Value) ∧ Q r0 w)) a w := by
 intro a R
 obtain rfl := Option.some.inj hb
 unfold drawer_generation at h
 refine wp_seq ?_
 refine wp_region_lit ?_
 refine oas R rfl rfl fun a R => ?_
 refine wpList_nil ?_
 refine then_normal ?_
 refine wp_seq ?_
 refine seq_join (fun a w => ∃ y1_12 : Bool, Rep a 30 [(0, .string x0), (12, .bool y1_12)] [] ∧ drawer_generation.k1 x0 y1_12 Q w) ?_ ?_
 ·refine wp_region_lit ?_
  refine omv R rfl rfl fun a R => ?_
  refine op_val R (rn_lenS R rfl Tryd.underlying9) rfl fun a R => ?_
  refine op_val R (rn_bin (v := .bool (((ByteArray.size x0 : Nat) : Int) != 12)) R rfl rfl rfl) rfl fun a R => ?_
  refine omv R rfl rfl fun a R => ?_
  rcases ite_cases h with ⟨g15, h⟩ | ⟨g15, h⟩
  ·refine op_pass R rfl rfl rfl (nft g15) (fun a R => ?_) (by intro s hs; cases hs; rfl)
   refine op_pass R rfl rfl rfl (nft g15) (fun a R => ?_) (by intro s hs; cases hs; rfl)
   refine op_pass R rfl rfl rfl (nft g15) (fun a R => ?_) (by intro s hs; cases hs; rfl)
   refine op_val R (rn_pickT R rfl g15 rfl) rfl fun a R => ?_
   refine wpList_nil ?_
   refine then_normal ?_
   exact ⟨true, R.weak ⟨rfl, rfl, trivial⟩, h⟩
  ·refine op_guard R rfl rfl rfl g15 ?_
   refine omv R rfl rfl fun a R => ?_
   refine op_guard R rfl rfl rfl g15 ?_
   obtain ⟨s16_0, s16_1, h⟩ := h
   refine op_val R (rn_slS R rfl rfl (evo R rfl) (fun w => bounds2 (lo := none) (hi := (some (.i64, 4))) 0 (Int.toNat 4) ⟨s16_0, s16_1, rfl⟩ rfl w) Tryd.underlying9) rfl fun a R => ?_
   refine op_guard R rfl rfl rfl g15 ?_
   refine op_val R (rn_binS (v := .bool (!(sEq (ByteArray.extract x0 0 (Int.toNat 4)) ⟨#[108, 111, 103, 45]⟩))) R rfl rfl rfl) rfl fun a R => ?_
   refine op_val R (rn_pickF R rfl g15 rfl) rfl fun a R => ?_
   refine wpList_nil ?_
   refine then_normal ?_
   exact ⟨(!(sEq (ByteArray.extract x0 0 (Int.toNat 4)) ⟨#[108, 111, 103, 45]⟩)), R.weak ⟨rfl, rfl, trivial⟩, h⟩
 ·rintro a w ⟨y1_12, R, h⟩
  unfold drawer_generation.k1 at h
  rcases ite_cases h with ⟨g2, h⟩ | ⟨g2, h⟩
  ·refine wp_condT R (congrArg (fun b => some (Value.bool b)) g2) ?_
   refine wp_seq ?_
   refine wp_region_lit ?_
   refine oas R rfl rfl fun a R => ?_
   refine wpList_nil ?_
   refine then_normal ?_
   refine wp_ret ?_
   refine then_ret ?_
   exact post_ret R rfl rfl ⟨0, rfl, h⟩
  ·refine wp_condF R (congrArg (fun b => some (Value.bool b)) g2) ?_
   refine wp_skip ?_
   refine then_normal ?_
   refine wp_seq ?_
   refine wp_region_lit ?_
   refine omv R rfl rfl fun a R => ?_
   obtain ⟨s3_0, s3_1, h⟩ := h
   refine op_val R (rn_slS R rfl (evo R rfl) rfl (fun w => bounds2 (lo := (some (.i64, 4))) (hi := none) (Int.toNat 4) (ByteArray.size x0) rfl ⟨s3_0, s3_1, rfl⟩ w) Tryd.underlying9) rfl fun a R => ?_
   refine op_call R (rn_calls R rfl cf55) rfl ?_
   refine call_mono (h) ?_
   rintro _ w12 ⟨x16_4_0, x16_4_1, rfl, h⟩ a R
   refine omv R rfl rfl fun a R => ?_
   refine op_val R (rn_ext R rfl rfl) rfl fun a R => ?_
   refine op_val R (rn_ext R rfl rfl) rfl fun a R => ?_
   refine oas R rfl rfl fun a R => ?_
   refine oas R rfl rfl fun a R => ?_
   refine wpList_nil ?_
   refine then_normal ?_
   refine wp_seq ?_
   refine seq_join (fun a w => ∃ y5_27 : Bool, Rep a 30 [(3, .int .u64 x16_4_0), (27, .bool y5_27)] [] ∧ drawer_generation.k5 x16_4_0 y5_27 Q w) ?_ ?_
   ·refine wp_region_lit ?_
    refine omv R rfl rfl fun a R => ?_
    obtain ⟨x20_7, w8, kx20_7, cx20_7, h⟩ := h
    refine op_val R (rn_binR R rfl rfl kx20_7 cx20_7) rfl fun a R => ?_
    refine omv R rfl rfl fun a R => ?_
    rcases ite_cases h with ⟨g9, h⟩ | ⟨g9, h⟩
    ·refine op_pass R rfl rfl rfl (nft g9) (fun a R => ?_) (by intro s hs; cases hs; rfl)
     refine op_pass R rfl rfl rfl (nft g9) (fun a R => ?_) (by intro s hs; cases hs; rfl)
     refine op_pass R rfl rfl rfl (nft g9) (fun a R => ?_) (by intro s hs; cases hs; rfl)
     refine op_pass R rfl rfl rfl (nft g9) (fun a R => ?_) (by intro s hs; cases hs; rfl)
     refine op_pass R rfl rfl rfl (nft g9) (fun a R => ?_) (by intro s hs; cases hs; rfl)
     refine op_val R (rn_pickT R rfl g9 rfl) rfl fun a R => ?_
     refine wpList_nil ?_
     refine then_normal ?_
     exact ⟨true, R.weak ⟨rfl, rfl, trivial⟩, h⟩
    ·refine op_guard R rfl rfl rfl g9 ?_
     refine omv R rfl rfl fun a R => ?_
     refine op_guard R rfl rfl rfl g9 ?_
     refine op_val R (rn_cvI R rfl Tryd.underlying101 Tryd.underlying3) rfl fun a R => ?_
     refine op_guard R rfl rfl rfl g9 ?_
     refine op_call R (rn_calls R rfl cf26) rfl ?_
     refine call_mono (s_drawer_name _ _ _ h) ?_
     rintro _ w11 ⟨x24_10_0, rfl, h⟩ a R
     refine op_guard R rfl rfl rfl g9 ?_
     refine omv R rfl rfl fun a R => ?_
     refine op_guard R rfl rfl rfl g9 ?_
     refine op_val R (rn_binS (v := .bool (!(sEq x24_10_0 x0))) R rfl rfl rfl) rfl fun a R => ?_
     refine op_val R (rn_pickF R rfl g9 rfl) rfl fun a R => ?_
     refine wpList_nil ?_
     refine then_normal ?_
     exact ⟨(!(sEq x24_10_0 x0)), R.weak ⟨rfl, rfl, trivial⟩, h⟩
   ·rintro a w ⟨y5_27, R, h⟩
    unfold drawer_generation.k5 at h
    rcases ite_cases h with ⟨g6, h⟩ | ⟨g6, h⟩
    ·refine wp_condT R (congrArg (fun b => some (Value.bool b)) g6) ?_
     refine wp_seq ?_
     refine wp_region_lit ?_
     refine oas R rfl rfl fun a R => ?_
     refine wpList_nil ?_
     refine then_normal ?_
     refine wp_ret ?_
     refine then_ret ?_
     exact post_ret R rfl rfl ⟨0, rfl, h⟩
    ·refine wp_condF R (congrArg (fun b => some (Value.bool b)) g6) ?_
     refine wp_skip ?_
     refine then_normal ?_
     refine wp_seq ?_
     refine wp_region_lit ?_
     refine omv R rfl rfl fun a R => ?_
     refine op_val R (rn_cvI R rfl Tryd.underlying101 Tryd.underlying3) rfl fun a R => ?_
     refine oas R rfl rfl fun a R => ?_
     refine wpList_nil ?_
     refine then_normal ?_
     refine wp_ret ?_
     exact post_ret R rfl rfl ⟨(IntKind.i64.wrap x16_4_0), rfl, h⟩
theorem s_drawer_generation (x0 : ByteArray) (Q : Int → World → Prop) (w : World) (h : drawer_generation x0 Q w) :
    Calls Tryd.prog 43 #[.string x0] w (Rets fun v w => ∃ r0 : Int, v = (.int .i64 r0 : Value) ∧ Q r0 w) :=
  calls_body (args := [.string x0]) Tryd.func43 rfl rfl (Nat.le_of_ble_eq_true rfl) (L := [(0, .string x0)]) (by simp [starts]) (b_drawer_generation x0 Q w h rfl)

/-! drawer.get32 -/

def drawer_get32 (x0 : Sl) (Q : Int → World → Prop) (w : World) : Prop :=
  ix x0.p x0.len 0 1 fun x4_2 => ld (Value.int .u8) (World.drew w) x4_2 fun x5_3 => ix x0.p x0.len 1 1 fun x8_5 => ld (Value.int .u8) (World.drew w) x8_5 fun x9_6 => ix x0.p x0.len 2 1 fun x14_10 => ld (Value.int .u8) (World.drew w) x14_10 fun x15_11 => ix x0.p x0.len 3 1 fun x20_15 => ld (Value.int .u8) (World.drew w) x20_15 fun x21_16 => Q (bits .or .u32 (bits .or .u32 (bits .or .u32 (IntKind.u32.wrap x5_3) (IntKind.u32.wrap ((IntKind.u32.wrap x9_6) * 2 ^ 8))) (IntKind.u32.wrap ((IntKind.u32.wrap x15_11) * 2 ^ 16))) (IntKind.u32.wrap ((IntKind.u32.wrap x21_16) * 2 ^ 24))) (World.drew w)

theorem b_drawer_get32 (x0 : Sl) (Q : Int → World → Prop) (w : World) (h : drawer_get32 x0 Q w) {c : Code} (hb : Tryd.f56.body = some c) :
 ∀ a, Rep a 25 [(0, Sl.val x0)] [] → c.wp Tryd.prog (bodyPost Tryd.prog Tryd.f56 (Rets fun v w => ∃ r0 : Int, v = (.int .u32 r0 : Value) ∧ Q r0 w)) a w := by
 intro a R
 obtain rfl := Option.some.inj hb
 unfold drawer_get32 at h
 refine wp_seq ?_
 refine wp_region_lit ?_
 refine oas R rfl rfl fun a R => ?_
 refine wpList_nil ?_
 refine then_normal ?_
 refine wp_seq ?_
 refine region_start mo fun inv => ?_
 refine seg_same (n := 21) (f := 21) (g := 2) (by kernel_rfl) fun inv => ?_
 refine dr_val (i := 0) R (waits_dom (by kernel_rfl) (by kernel_rfl)) (by kernel_rfl) inv rfl (by decide) (by kernel_rfl) (by kernel_rfl) (fun _ _ _ h => h) wanted_none (fun w' hS => rn_mv R rfl) rfl (by decide) fun inv a R => ?_
 obtain ⟨b1, x4_2, p1, i1, j1, e1, h⟩ := ix_e h
 refine dr_val (v := .pointer (some x4_2)) (i := 1) R (waits_dom (by kernel_rfl) (by kernel_rfl)) (by kernel_rfl) inv rfl (by decide) (by kernel_rfl) (by kernel_rfl) (fun _ _ _ h => h) wanted_none (fun w' hS => by rw [e1]; exact rn_ixs (x := (.tmp 3)) (y := (.const (.int .i64 0))) R rfl p1 rfl Tryd.underlying29 sz5 i1 j1) rfl (by decide) fun inv a R => ?_
 obtain ⟨x5_3, cx5_3, h⟩ := h
 refine dr_val (i := 2) R (waits_dom (by kernel_rfl) (by kernel_rfl)) (by kernel_rfl) inv rfl (by decide) (by kernel_rfl) (by kernel_rfl) (fun _ _ _ h => h) wanted_none (fun w' hS => rn_ld R rfl Tryd.underlying5 rfl (cell_heap' hS cx5_3)) rfl (by decide) fun inv a R => ?_
 refine dr_val (i := 3) R (waits_dom (by kernel_rfl) (by kernel_rfl)) (by kernel_rfl) inv rfl (by decide) (by kernel_rfl) (by kernel_rfl) (fun _ _ _ h => h) wanted_none (fun w' hS => rn_cvI R rfl Tryd.underlying5 Tryd.underlying22) rfl (by decide) fun inv a R => ?_
 refine dr_val (i := 4) R (waits_dom (by kernel_rfl) (by kernel_rfl)) (by kernel_rfl) inv rfl (by decide) (by kernel_rfl) (by kernel_rfl) (fun _ _ _ h => h) wanted_none (fun w' hS => rn_mv R rfl) rfl (by decide) fun inv a R => ?_
 obtain ⟨b4, x8_5, p4, i4, j4, e4, h⟩ := ix_e h
 refine dr_val (v := .pointer (some x8_5)) (i := 5) R (waits_dom (by kernel_rfl) (by kernel_rfl)) (by kernel_rfl) inv rfl (by decide) (by kernel_rfl) (by kernel_rfl) (fun _ _ _ h => h) wanted_none (fun w' hS => by rw [e4]; exact rn_ixs (x := (.tmp 7)) (y := (.const (.int .i64 1))) R rfl p4 rfl Tryd.underlying29 sz5 i4 j4) rfl (by decide) fun inv a R => ?_
 obtain ⟨x9_6, cx9_6, h⟩ := h
 refine dr_val (i := 6) R (waits_dom (by kernel_rfl) (by kernel_rfl)) (by kernel_rfl) inv rfl (by decide) (by kernel_rfl) (by kernel_rfl) (fun _ _ _ h => h) wanted_none (fun w' hS => rn_ld R rfl Tryd.underlying5 rfl (cell_heap' hS cx9_6)) rfl (by decide) fun inv a R => ?_
 refine dr_val (i := 7) R (waits_dom (by kernel_rfl) (by kernel_rfl)) (by kernel_rfl) inv rfl (by decide) (by kernel_rfl) (by kernel_rfl) (fun _ _ _ h => h) wanted_none (fun w' hS => rn_cvI R rfl Tryd.underlying5 Tryd.underlying22) rfl (by decide) fun inv a R => ?_
 refine dr_val (i := 8) R (waits_dom (by kernel_rfl) (by kernel_rfl)) (by kernel_rfl) inv rfl (by decide) (by kernel_rfl) (by kernel_rfl) (fun _ _ _ h => h) wanted_none (fun w' hS => rn_bin (v := .int .u32 (IntKind.u32.wrap ((IntKind.u32.wrap x9_6) * 2 ^ 8))) R rfl rfl rfl) rfl (by decide) fun inv a R => ?_
 refine dr_val (i := 9) R (waits_dom (by kernel_rfl) (by kernel_rfl)) (by kernel_rfl) inv rfl (by decide) (by kernel_rfl) (by kernel_rfl) (fun _ _ _ h => h) wanted_none (fun w' hS => rn_bin (v := .int .u32 (bits .or .u32 (IntKind.u32.wrap x5_3) (IntKind.u32.wrap ((IntKind.u32.wrap x9_6) * 2 ^ 8)))) R rfl rfl rfl) rfl (by decide) fun inv a R => ?_
 refine dr_val (i := 10) R (waits_dom (by kernel_rfl) (by kernel_rfl)) (by kernel_rfl) inv rfl (by decide) (by kernel_rfl) (by kernel_rfl) (fun _ _ _ h => h) wanted_none (fun w' hS => rn_mv R rfl) rfl (by decide) fun inv a R => ?_
 obtain ⟨b9, x14_10, p9, i9, j9, e9, h⟩ := ix_e h
 refine dr_val (v := .pointer (some x14_10)) (i := 11) R (waits_dom (by kernel_rfl) (by kernel_rfl)) (by kernel_rfl) inv rfl (by decide) (by kernel_rfl) (by kernel_rfl) (fun _ _ _ h => h) wanted_none (fun w' hS => by rw [e9]; exact rn_ixs (x := (.tmp 13)) (y := (.const (.int .i64 2))) R rfl p9 rfl Tryd.underlying29 sz5 i9 j9) rfl (by decide) fun inv a R => ?_
 obtain ⟨x15_11, cx15_11, h⟩ := h
 refine dr_val (i := 12) R (waits_dom (by kernel_rfl) (by kernel_rfl)) (by kernel_rfl) inv rfl (by decide) (by kernel_rfl) (by kernel_rfl) (fun _ _ _ h => h) wanted_none (fun w' hS => rn_ld R rfl Tryd.underlying5 rfl (cell_heap' hS cx15_11)) rfl (by decide) fun inv a R => ?_
 refine dr_val (i := 13) R (waits_dom (by kernel_rfl) (by kernel_rfl)) (by kernel_rfl) inv rfl (by decide) (by kernel_rfl) (by kernel_rfl) (fun _ _ _ h => h) wanted_none (fun w' hS => rn_cvI R rfl Tryd.underlying5 Tryd.underlying22) rfl (by decide) fun inv a R => ?_
 refine dr_val (i := 14) R (waits_dom (by kernel_rfl) (by kernel_rfl)) (by kernel_rfl) inv rfl (by decide) (by kernel_rfl) (by kernel_rfl) (fun _ _ _ h => h) wanted_none (fun w' hS => rn_bin (v := .int .u32 (IntKind.u32.wrap ((IntKind.u32.wrap x15_11) * 2 ^ 16))) R rfl rfl rfl) rfl (by decide) fun inv a R => ?_
 refine dr_val (i := 15) R (waits_dom (by kernel_rfl) (by kernel_rfl)) (by kernel_rfl) inv rfl (by decide) (by kernel_rfl) (by kernel_rfl) (fun _ _ _ h => h) wanted_none (fun w' hS => rn_bin (v := .int .u32 (bits .or .u32 (bits .or .u32 (IntKind.u32.wrap x5_3) (IntKind.u32.wrap ((IntKind.u32.wrap x9_6) * 2 ^ 8))) (IntKind.u32.wrap ((IntKind.u32.wrap x15_11) * 2 ^ 16)))) R rfl rfl rfl) rfl (by decide) fun inv a R => ?_
 refine dr_val (i := 16) R (waits_dom (by kernel_rfl) (by kernel_rfl)) (by kernel_rfl) inv rfl (by decide) (by kernel_rfl) (by kernel_rfl) (fun _ _ _ h => h) wanted_none (fun w' hS => rn_mv R rfl) rfl (by decide) fun inv a R => ?_
 obtain ⟨b14, x20_15, p14, i14, j14, e14, h⟩ := ix_e h
 refine dr_val (v := .pointer (some x20_15)) (i := 17) R (waits_dom (by kernel_rfl) (by kernel_rfl)) (by kernel_rfl) inv rfl (by decide) (by kernel_rfl) (by kernel_rfl) (fun _ _ _ h => h) wanted_none (fun w' hS => by rw [e14]; exact rn_ixs (x := (.tmp 19)) (y := (.const (.int .i64 3))) R rfl p14 rfl Tryd.underlying29 sz5 i14 j14) rfl (by decide) fun inv a R => ?_
 obtain ⟨x21_16, cx21_16, h⟩ := h
 refine dr_val (i := 18) R (waits_dom (by kernel_rfl) (by kernel_rfl)) (by kernel_rfl) inv rfl (by decide) (by kernel_rfl) (by kernel_rfl) (fun _ _ _ h => h) wanted_none (fun w' hS => rn_ld R rfl Tryd.underlying5 rfl (cell_heap' hS cx21_16)) rfl (by decide) fun inv a R => ?_
 refine dr_val (i := 19) R (waits_dom (by kernel_rfl) (by kernel_rfl)) (by kernel_rfl) inv rfl (by decide) (by kernel_rfl) (by kernel_rfl) (fun _ _ _ h => h) wanted_none (fun w' hS => rn_cvI R rfl Tryd.underlying5 Tryd.underlying22) rfl (by decide) fun inv a R => ?_
 refine dr_val (i := 20) R (waits_dom (by kernel_rfl) (by kernel_rfl)) (by kernel_rfl) inv rfl (by decide) (by kernel_rfl) (by kernel_rfl) (fun _ _ _ h => h) wanted_none (fun w' hS => rn_bin (v := .int .u32 (IntKind.u32.wrap ((IntKind.u32.wrap x21_16) * 2 ^ 24))) R rfl rfl rfl) rfl (by decide) fun inv a R => ?_
 refine seg_end (by kernel_rfl) ?_
 refine any_tail 21 (by kernel_rfl) ?_
 refine op_val R (rn_bin (v := .int .u32 (bits .or .u32 (bits .or .u32 (bits .or .u32 (IntKind.u32.wrap x5_3) (IntKind.u32.wrap ((IntKind.u32.wrap x9_6) * 2 ^ 8))) (IntKind.u32.wrap ((IntKind.u32.wrap x15_11) * 2 ^ 16))) (IntKind.u32.wrap ((IntKind.u32.wrap x21_16) * 2 ^ 24)))) R rfl rfl rfl) rfl fun a R => ?_
 refine oas R rfl rfl fun a R => ?_
 refine wpList_nil ?_
 refine then_normal ?_
 refine wp_ret ?_
 exact post_ret R rfl rfl ⟨(bits .or .u32 (bits .or .u32 (bits .or .u32 (IntKind.u32.wrap x5_3) (IntKind.u32.wrap ((IntKind.u32.wrap x9_6) * 2 ^ 8))) (IntKind.u32.wrap ((IntKind.u32.wrap x15_11) * 2 ^ 16))) (IntKind.u32.wrap ((IntKind.u32.wrap x21_16) * 2 ^ 24))), rfl, h⟩
theorem s_drawer_get32 (x0 : Sl) (Q : Int → World → Prop) (w : World) (h : drawer_get32 x0 Q w) :
    Calls Tryd.prog 56 #[Sl.val x0] w (Rets fun v w => ∃ r0 : Int, v = (.int .u32 r0 : Value) ∧ Q r0 w) :=
  calls_body (args := [Sl.val x0]) Tryd.func56 rfl rfl (Nat.le_of_ble_eq_true rfl) (L := [(0, Sl.val x0)]) (by simp [starts]) (b_drawer_get32 x0 Q w h rfl)

/-! drawer.whole -/

def drawer_whole.k9 (x0 : Sl) (x5_1 : Addr) (x30_8_0 : Int) (y9_51 : Bool) (Q : Int → Int → Sl → Int → World → Prop) (w : World) : Prop :=
  (if y9_51 = true then stN w x5_1 [.int .u8 0, .slice none 0 0] fun w => ld (Value.int .u8) w (x5_1.add 0) fun r12_0 => ld Sl.val w (x5_1.add 1) fun r12_1 => Q 0 r12_0 r12_1 0 w else ((0 : Int) ≤ (IntKind.i64.wrap (14 + (IntKind.i64.wrap x30_8_0))) ∧ (IntKind.i64.wrap (14 + (IntKind.i64.wrap x30_8_0))) ≤ ((x0.len : Nat) : Int) ∧ ((0 : Int) ≤ (IntKind.i64.wrap (14 + (IntKind.i64.wrap x30_8_0))) ∧ (IntKind.i64.wrap (14 + (IntKind.i64.wrap x30_8_0))) ≤ ((x0.cap : Nat) : Int) ∧ drawer_get32 (cutSl ⟨x0.p, x0.len, x0.cap⟩ 1 (Int.toNat (IntKind.i64.wrap (14 + (IntKind.i64.wrap x30_8_0)))) x0.len x0.cap) (fun x59_16_0 w => ((True) ∧ pack_Sum (cutSl ⟨x0.p, x0.len, x0.cap⟩ 1 0 (Int.toNat (IntKind.i64.wrap (14 + (IntKind.i64.wrap x30_8_0)))) x0.cap) (fun x63_17_0 w => (if (x59_16_0 != x63_17_0) = true then stN w x5_1 [.int .u8 0, .slice none 0 0] fun w => ld (Value.int .u8) w (x5_1.add 0) fun r21_0 => ld Sl.val w (x5_1.add 1) fun r21_1 => Q 0 r21_0 r21_1 0 w else rn Tryd.prog Sl.val (Instr.makeSlice 29 (.int .u32 x30_8_0) (.int .u32 x30_8_0)) w fun x67_22 w => ((0 : Int) ≤ (IntKind.i64.wrap (14 + (IntKind.i64.wrap x30_8_0))) ∧ (IntKind.i64.wrap (14 + (IntKind.i64.wrap x30_8_0))) ≤ ((x0.cap : Nat) : Int) ∧ (0 : Int) ≤ 14 ∧ 14 ≤ (((Int.toNat (IntKind.i64.wrap (14 + (IntKind.i64.wrap x30_8_0)))) : Nat) : Int) ∧ rn Tryd.prog (Value.int .i64) (Builtin.copy_ #[29, 29] 3 [Sl.val x67_22, Sl.val (cutSl ⟨x0.p, x0.len, x0.cap⟩ 1 (Int.toNat 14) (Int.toNat (IntKind.i64.wrap (14 + (IntKind.i64.wrap x30_8_0)))) x0.cap)].toArray) w fun x72_26 w => ((0 : Int) ≤ 5 ∧ 5 ≤ ((x0.len : Nat) : Int) ∧ ix x0.p x0.len 13 1 fun x77_29 => ld (Value.int .u8) (World.drew w) x77_29 fun x78_30 => drawer_get32 (cutSl ⟨x0.p, x0.len, x0.cap⟩ 1 (Int.toNat 5) x0.len x0.cap) (fun x75_32_0 w => ((World.cell? w x77_29 = some (.int .u8 x78_30) ∧ True) ∧ ((stN w x5_1 [.int .u8 x78_30, Sl.val x67_22] fun w => ((World.cell? w x77_29 = some (.int .u8 x78_30) ∧ True) ∧ ld (Value.int .u8) w (x5_1.add 0) fun r34_0 => ld Sl.val w (x5_1.add 1) fun r34_1 => Q x75_32_0 r34_0 r34_1 (IntKind.i64.wrap ((IntKind.i64.wrap (14 + (IntKind.i64.wrap x30_8_0))) + 4)) w))))) (World.drew w))))) w)) (World.drew w))))

def drawer_whole.k3 (x0 : Sl) (x1 : Int) (x5_1 : Addr) (y3_26 : Bool) (Q : Int → Int → Sl → Int → World → Prop) (w : World) : Prop :=
  (if y3_26 = true then stN w x5_1 [.int .u8 0, .slice none 0 0] fun w => ld (Value.int .u8) w (x5_1.add 0) fun r6_0 => ld Sl.val w (x5_1.add 1) fun r6_1 => Q 0 r6_0 r6_1 0 w else ((0 : Int) ≤ 9 ∧ 9 ≤ ((x0.len : Nat) : Int) ∧ drawer_get32 (cutSl ⟨x0.p, x0.len, x0.cap⟩ 1 (Int.toNat 9) x0.len x0.cap) (fun x30_8_0 w => (if (decide (x30_8_0 > 1048576)) = true then drawer_whole.k9 x0 x5_1 x30_8_0 true Q w else (if (decide ((IntKind.i64.wrap x30_8_0) > (IntKind.i64.wrap ((IntKind.i64.wrap (((x0.len : Nat) : Int) - 14)) - 4)))) = true then drawer_whole.k9 x0 x5_1 x30_8_0 true Q w else (if (x1 == 0) = true then ix x0.p x0.len 13 1 fun x47_48 => ld (Value.int .u8) w x47_48 fun x48_49 => drawer_whole.k9 x0 x5_1 x30_8_0 (x48_49 != 0) Q w else drawer_whole.k9 x0 x5_1 x30_8_0 false Q w)))) w))

def drawer_whole (x0 : Sl) (x1 : Int) (Q : Int → Int → Sl → Int → World → Prop) (w : World) : Prop :=
  al w (.cells #[.int .u8 0, .slice none 0 0] 37) fun x5_1 w => (if (decide (((x0.len : Nat) : Int) < 18)) = true then drawer_whole.k3 x0 x1 x5_1 true Q w else ix x0.p x0.len 0 1 fun x15_56 => ld (Value.int .u8) w x15_56 fun x16_57 => (if (x16_57 != 82) = true then drawer_whole.k3 x0 x1 x5_1 true Q w else ((0 : Int) ≤ 1 ∧ 1 ≤ ((x0.len : Nat) : Int) ∧ drawer_get32 (cutSl ⟨x0.p, x0.len, x0.cap⟩ 1 (Int.toNat 1) x0.len x0.cap) (fun x22_61_0 w => drawer_whole.k3 x0 x1 x5_1 (x22_61_0 != (IntKind.u32.wrap x1)) Q w) w)))

theorem b_drawer_whole (x0 : Sl) (x1 : Int) (Q : Int → Int → Sl → Int → World → Prop) (w : World) (h : drawer_whole x0 x1 Q w) {c : Code} (hb : Tryd.f44.body = some c) :
 ∀ a, Rep a 83 [(0, Sl.val x0), (1, .int .i64 x1)] [] → c.wp Tryd.prog (bodyPost Tryd.prog Tryd.f44 (Rets fun v w => ∃ r0 : Int, ∃ r1 : Int, ∃ r2 : Sl, ∃ r3 : Int, v = (.tuple #[.int .u32 r0, .agg #[.int .u8 r1, Sl.val r2], .int .i64 r3] : Value) ∧ Q r0 r1 r2 r3 w)) a w := by
 intro a R
 obtain rfl := Option.some.inj hb
 unfold drawer_whole at h
 refine wp_seq ?_
 refine wp_region_lit ?_
 refine oas R rfl rfl fun a R => ?_
 obtain ⟨x5_1, e2, h⟩ := al_e h
 refine op_val (v := .pointer (some x5_1)) R (by rw [e2]; exact rn_al R ze37) rfl fun a R => ?_
 refine oas R rfl rfl fun a R => ?_
 refine wpList_nil ?_
 refine then_normal ?_
 refine wp_seq ?_
 refine seq_join (fun a w => ∃ y3_26 : Bool, Rep a 83 [(0, Sl.val x0), (1, .int .i64 x1), (5, .pointer (some x5_1)), (26, .bool y3_26)] [] ∧ drawer_whole.k3 x0 x1 x5_1 y3_26 Q w) ?_ ?_
 ·refine wp_region_lit ?_
  refine omv R rfl rfl fun a R => ?_
  refine op_val R (rn_len R rfl Tryd.underlying29) rfl fun a R => ?_
  refine op_val R (rn_bin (v := .bool (decide (((x0.len : Nat) : Int) < 18))) R rfl rfl rfl) rfl fun a R => ?_
  refine omv R rfl rfl fun a R => ?_
  rcases ite_cases h with ⟨g54, h⟩ | ⟨g54, h⟩
  ·refine op_pass R rfl rfl rfl (nft g54) (fun a R => ?_) (by intro s hs; cases hs; rfl)
   refine op_pass R rfl rfl rfl (nft g54) (fun a R => ?_) (by intro s hs; cases hs; rfl)
   refine op_pass R rfl rfl rfl (nft g54) (fun a R => ?_) (by intro s hs; cases hs; rfl)
   refine op_pass R rfl rfl rfl (nft g54) (fun a R => ?_) (by intro s hs; cases hs; rfl)
   refine op_val R (rn_pickT R rfl g54 rfl) rfl fun a R => ?_
   refine omv R rfl rfl fun a R => ?_
   refine op_pass R rfl rfl rfl (nft rfl) (fun a R => ?_) (by intro s hs; cases hs; rfl)
   refine op_pass R rfl rfl rfl (nft rfl) (fun a R => ?_) (by intro s hs; cases hs; rfl)
   refine op_pass R rfl rfl rfl (nft rfl) (fun a R => ?_) (by intro s hs; cases hs; rfl)
   refine op_pass R rfl rfl rfl (nft rfl) (fun a R => ?_) (by intro s hs; cases hs; rfl)
   refine op_pass R rfl rfl rfl (nft rfl) (fun a R => ?_) (by intro s hs; cases hs; rfl)
   refine op_pass R rfl rfl rfl (nft rfl) (fun a R => ?_) (by intro s hs; cases hs; rfl)
   refine op_val R (rn_pickT R rfl rfl rfl) rfl fun a R => ?_
   refine wpList_nil ?_
   refine then_normal ?_
   exact ⟨true, R.weak ⟨rfl, rfl, rfl, rfl, trivial⟩, h⟩
  ·refine op_guard R rfl rfl rfl g54 ?_
   refine omv R rfl rfl fun a R => ?_
   refine op_guard R rfl rfl rfl g54 ?_
   obtain ⟨b55, x15_56, p55, i55, j55, e55, h⟩ := ix_e h
   refine op_val (v := .pointer (some x15_56)) R (by rw [e55]; exact rn_ixs (x := (.tmp 14)) (y := (.const (.int .i64 0))) R rfl p55 rfl Tryd.underlying29 sz5 i55 j55) rfl fun a R => ?_
   refine op_guard R rfl rfl rfl g54 ?_
   obtain ⟨x16_57, cx16_57, h⟩ := h
   refine old R rfl Tryd.underlying5 rfl cx16_57 rfl fun a R => ?_
   refine op_guard R rfl rfl rfl g54 ?_
   refine op_val R (rn_bin (v := .bool (x16_57 != 82)) R rfl rfl rfl) rfl fun a R => ?_
   refine op_val R (rn_pickF R rfl g54 rfl) rfl fun a R => ?_
   refine omv R rfl rfl fun a R => ?_
   rcases ite_cases h with ⟨g59, h⟩ | ⟨g59, h⟩
   ·refine op_pass R rfl rfl rfl (nft g59) (fun a R => ?_) (by intro s hs; cases hs; rfl)
    refine op_pass R rfl rfl rfl (nft g59) (fun a R => ?_) (by intro s hs; cases hs; rfl)
    refine op_pass R rfl rfl rfl (nft g59) (fun a R => ?_) (by intro s hs; cases hs; rfl)
    refine op_pass R rfl rfl rfl (nft g59) (fun a R => ?_) (by intro s hs; cases hs; rfl)
    refine op_pass R rfl rfl rfl (nft g59) (fun a R => ?_) (by intro s hs; cases hs; rfl)
    refine op_pass R rfl rfl rfl (nft g59) (fun a R => ?_) (by intro s hs; cases hs; rfl)
    refine op_val R (rn_pickT R rfl g59 rfl) rfl fun a R => ?_
    refine wpList_nil ?_
    refine then_normal ?_
    exact ⟨true, R.weak ⟨rfl, rfl, rfl, rfl, trivial⟩, h⟩
   ·refine op_guard R rfl rfl rfl g59 ?_
    refine omv R rfl rfl fun a R => ?_
    refine op_guard R rfl rfl rfl g59 ?_
    obtain ⟨s60_0, s60_1, h⟩ := h
    refine op_val R (rn_sl R rfl (evo R rfl) rfl rfl (fun w => bounds2 (lo := (some (.i64, 1))) (hi := none) (Int.toNat 1) x0.len rfl ⟨s60_0, s60_1, rfl⟩ w) Tryd.underlying29 sz5) rfl fun a R => ?_
    refine op_guard R rfl rfl rfl g59 ?_
    refine op_call R (rn_calls R rfl cf56) rfl ?_
    refine call_mono (s_drawer_get32 _ _ _ h) ?_
    rintro _ w63 ⟨x22_61_0, rfl, h⟩ a R
    refine op_guard R rfl rfl rfl g59 ?_
    refine omv R rfl rfl fun a R => ?_
    refine op_guard R rfl rfl rfl g59 ?_
    refine op_val R (rn_cvI R rfl Tryd.underlying3 Tryd.underlying22) rfl fun a R => ?_
    refine op_guard R rfl rfl rfl g59 ?_
    refine op_val R (rn_bin (v := .bool (x22_61_0 != (IntKind.u32.wrap x1))) R rfl rfl rfl) rfl fun a R => ?_
    refine op_val R (rn_pickF R rfl g59 rfl) rfl fun a R => ?_
    refine wpList_nil ?_
    refine then_normal ?_
    exact ⟨(x22_61_0 != (IntKind.u32.wrap x1)), R.weak ⟨rfl, rfl, rfl, rfl, trivial⟩, h⟩
 ·rintro a w ⟨y3_26, R, h⟩
  unfold drawer_whole.k3 at h
  rcases ite_cases h with ⟨g4, h⟩ | ⟨g4, h⟩
  ·refine wp_condT R (congrArg (fun b => some (Value.bool b)) g4) ?_
   refine wp_seq ?_
   refine wp_region_lit ?_
   refine op_val R (rn_build (r := .agg #[.int .u8 0, .slice none 0 0]) R rfl (fun w => by kernel_rfl)) rfl fun a R => ?_
   refine oas R rfl rfl fun a R => ?_
   obtain ⟨q5, h⟩ := h
   refine op_unit R (rn_stN (vs := [.int .u8 0, .slice none 0 0]) R rfl rfl (ao ⟨rfl, rfl, trivial⟩) sz37 q5) fun a R => ?_
   refine oas R rfl rfl fun a R => ?_
   refine wpList_nil ?_
   refine then_normal ?_
   refine wp_ret ?_
   refine then_ret ?_
   obtain ⟨r6_0, cr6_0, h⟩ := h
   obtain ⟨r6_1, cr6_1, h⟩ := h
   exact post_retC [.int .u32 0, .agg #[.int .u8 r6_0, Sl.val r6_1], .int .i64 0] R rfl ⟨rfl, lcN Tryd.underlying37 rfl rfl sz37 ⟨cr6_0, cr6_1, trivial⟩, rfl, trivial⟩ ⟨0, r6_0, r6_1, 0, rfl, h⟩
  ·refine wp_condF R (congrArg (fun b => some (Value.bool b)) g4) ?_
   refine wp_skip ?_
   refine then_normal ?_
   refine wp_seq ?_
   refine wp_region_lit ?_
   refine omv R rfl rfl fun a R => ?_
   obtain ⟨s7_0, s7_1, h⟩ := h
   refine op_val R (rn_sl R rfl (evo R rfl) rfl rfl (fun w => bounds2 (lo := (some (.i64, 9))) (hi := none) (Int.toNat 9) x0.len rfl ⟨s7_0, s7_1, rfl⟩ w) Tryd.underlying29 sz5) rfl fun a R => ?_
   refine op_call R (rn_calls R rfl cf56) rfl ?_
   refine call_mono (s_drawer_get32 _ _ _ h) ?_
   rintro _ w51 ⟨x30_8_0, rfl, h⟩ a R
   refine oas R rfl rfl fun a R => ?_
   refine wpList_nil ?_
   refine then_normal ?_
   refine wp_seq ?_
   refine seq_join (fun a w => ∃ y9_51 : Bool, Rep a 83 [(0, Sl.val x0), (5, .pointer (some x5_1)), (7, .int .u32 x30_8_0), (51, .bool y9_51)] [] ∧ drawer_whole.k9 x0 x5_1 x30_8_0 y9_51 Q w) ?_ ?_
   ·refine wp_region_lit ?_
    refine omv R rfl rfl fun a R => ?_
    refine op_val R (rn_bin (v := .bool (decide (x30_8_0 > 1048576))) R rfl rfl rfl) rfl fun a R => ?_
    refine omv R rfl rfl fun a R => ?_
    rcases ite_cases h with ⟨g39, h⟩ | ⟨g39, h⟩
    ·refine op_pass R rfl rfl rfl (nft g39) (fun a R => ?_) (by intro s hs; cases hs; rfl)
     refine op_pass R rfl rfl rfl (nft g39) (fun a R => ?_) (by intro s hs; cases hs; rfl)
     refine op_pass R rfl rfl rfl (nft g39) (fun a R => ?_) (by intro s hs; cases hs; rfl)
     refine op_pass R rfl rfl rfl (nft g39) (fun a R => ?_) (by intro s hs; cases hs; rfl)
     refine op_pass R rfl rfl rfl (nft g39) (fun a R => ?_) (by intro s hs; cases hs; rfl)
     refine op_pass R rfl rfl rfl (nft g39) (fun a R => ?_) (by intro s hs; cases hs; rfl)
     refine op_pass R rfl rfl rfl (nft g39) (fun a R => ?_) (by intro s hs; cases hs; rfl)
     refine op_val R (rn_pickT R rfl g39 rfl) rfl fun a R => ?_
     refine omv R rfl rfl fun a R => ?_
     refine op_pass R rfl rfl rfl (nft rfl) (fun a R => ?_) (by intro s hs; cases hs; rfl)
     refine op_pass R rfl rfl rfl (nft rfl) (fun a R => ?_) (by intro s hs; cases hs; rfl)
     refine op_pass R rfl rfl rfl (nft rfl) (fun a R => ?_) (by intro s hs; cases hs; rfl)
     refine op_pass0 R rfl rfl rfl (fun a R => ?_) (by intro s hs; cases hs; rfl)
     refine op_pass0 R rfl rfl rfl (fun a R => ?_) (by intro s hs; cases hs; rfl)
     refine op_pass0 R rfl rfl rfl (fun a R => ?_) (by intro s hs; cases hs; rfl)
     refine op_pass0 R rfl rfl rfl (fun a R => ?_) (by intro s hs; cases hs; rfl)
     refine op_pass R rfl rfl rfl (nft rfl) (fun a R => ?_) (by intro s hs; cases hs; rfl)
     refine op_val R (rn_pickT R rfl rfl rfl) rfl fun a R => ?_
     refine wpList_nil ?_
     refine then_normal ?_
     exact ⟨true, R.weak ⟨rfl, rfl, rfl, rfl, trivial⟩, h⟩
    ·refine op_guard R rfl rfl rfl g39 ?_
     refine omv R rfl rfl fun a R => ?_
     refine op_guard R rfl rfl rfl g39 ?_
     refine op_val R (rn_cvI R rfl Tryd.underlying22 Tryd.underlying3) rfl fun a R => ?_
     refine op_guard R rfl rfl rfl g39 ?_
     refine omv R rfl rfl fun a R => ?_
     refine op_guard R rfl rfl rfl g39 ?_
     refine op_val R (rn_len R rfl Tryd.underlying29) rfl fun a R => ?_
     refine op_guard R rfl rfl rfl g39 ?_
     refine op_val R (rn_bin (v := .int .i64 (IntKind.i64.wrap (((x0.len : Nat) : Int) - 14))) R rfl rfl rfl) rfl fun a R => ?_
     refine op_guard R rfl rfl rfl g39 ?_
     refine op_val R (rn_bin (v := .int .i64 (IntKind.i64.wrap ((IntKind.i64.wrap (((x0.len : Nat) : Int) - 14)) - 4))) R rfl rfl rfl) rfl fun a R => ?_
     refine op_guard R rfl rfl rfl g39 ?_
     refine op_val R (rn_bin (v := .bool (decide ((IntKind.i64.wrap x30_8_0) > (IntKind.i64.wrap ((IntKind.i64.wrap (((x0.len : Nat) : Int) - 14)) - 4))))) R rfl rfl rfl) rfl fun a R => ?_
     refine op_val R (rn_pickF R rfl g39 rfl) rfl fun a R => ?_
     refine omv R rfl rfl fun a R => ?_
     rcases ite_cases h with ⟨g44, h⟩ | ⟨g44, h⟩
     ·refine op_pass R rfl rfl rfl (nft g44) (fun a R => ?_) (by intro s hs; cases hs; rfl)
      refine op_pass R rfl rfl rfl (nft g44) (fun a R => ?_) (by intro s hs; cases hs; rfl)
      refine op_pass R rfl rfl rfl (nft g44) (fun a R => ?_) (by intro s hs; cases hs; rfl)
      refine op_pass0 R rfl rfl rfl (fun a R => ?_) (by intro s hs; cases hs; rfl)
      refine op_pass0 R rfl rfl rfl (fun a R => ?_) (by intro s hs; cases hs; rfl)
      refine op_pass0 R rfl rfl rfl (fun a R => ?_) (by intro s hs; cases hs; rfl)
      refine op_pass0 R rfl rfl rfl (fun a R => ?_) (by intro s hs; cases hs; rfl)
      refine op_pass R rfl rfl rfl (nft g44) (fun a R => ?_) (by intro s hs; cases hs; rfl)
      refine op_val R (rn_pickT R rfl g44 rfl) rfl fun a R => ?_
      refine wpList_nil ?_
      refine then_normal ?_
      exact ⟨true, R.weak ⟨rfl, rfl, rfl, rfl, trivial⟩, h⟩
     ·refine op_guard R rfl rfl rfl g44 ?_
      refine omv R rfl rfl fun a R => ?_
      refine op_guard R rfl rfl rfl g44 ?_
      refine op_val R (rn_bin (v := .bool (x1 == 0)) R rfl rfl rfl) rfl fun a R => ?_
      refine op_guard R rfl rfl rfl g44 ?_
      refine omv R rfl rfl fun a R => ?_
      rcases ite_cases h with ⟨g46, h⟩ | ⟨g46, h⟩
      ·refine op_guard R rfl rfl rfl g46 ?_
       refine omv R rfl rfl fun a R => ?_
       refine op_guard R rfl rfl rfl g46 ?_
       obtain ⟨b47, x47_48, p47, i47, j47, e47, h⟩ := ix_e h
       refine op_val (v := .pointer (some x47_48)) R (by rw [e47]; exact rn_ixs (x := (.tmp 46)) (y := (.const (.int .i64 13))) R rfl p47 rfl Tryd.underlying29 sz5 i47 j47) rfl fun a R => ?_
       refine op_guard R rfl rfl rfl g46 ?_
       obtain ⟨x48_49, cx48_49, h⟩ := h
       refine old R rfl Tryd.underlying5 rfl cx48_49 rfl fun a R => ?_
       refine op_guard R rfl rfl rfl g46 ?_
       refine op_val R (rn_bin (v := .bool (x48_49 != 0)) R rfl rfl rfl) rfl fun a R => ?_
       refine op_guard R rfl rfl rfl g44 ?_
       refine op_val R (rn_pickT R rfl g46 rfl) rfl fun a R => ?_
       refine op_val R (rn_pickF R rfl g44 rfl) rfl fun a R => ?_
       refine wpList_nil ?_
       refine then_normal ?_
       exact ⟨(x48_49 != 0), R.weak ⟨rfl, rfl, rfl, rfl, trivial⟩, h⟩
      ·refine op_pass R rfl rfl rfl (ntf g46) (fun a R => ?_) (by intro s hs; cases hs; rfl)
       refine op_pass R rfl rfl rfl (ntf g46) (fun a R => ?_) (by intro s hs; cases hs; rfl)
       refine op_pass R rfl rfl rfl (ntf g46) (fun a R => ?_) (by intro s hs; cases hs; rfl)
       refine op_pass R rfl rfl rfl (ntf g46) (fun a R => ?_) (by intro s hs; cases hs; rfl)
       refine op_guard R rfl rfl rfl g44 ?_
       refine op_val R (rn_pickF R rfl g46 rfl) rfl fun a R => ?_
       refine op_val R (rn_pickF R rfl g44 rfl) rfl fun a R => ?_
       refine wpList_nil ?_
       refine then_normal ?_
       exact ⟨false, R.weak ⟨rfl, rfl, rfl, rfl, trivial⟩, h⟩
   ·rintro a w ⟨y9_51, R, h⟩
    unfold drawer_whole.k9 at h
    rcases ite_cases h with ⟨g10, h⟩ | ⟨g10, h⟩
    ·refine wp_condT R (congrArg (fun b => some (Value.bool b)) g10) ?_
     refine wp_seq ?_
     refine wp_region_lit ?_
     refine op_val R (rn_build (r := .agg #[.int .u8 0, .slice none 0 0]) R rfl (fun w => by kernel_rfl)) rfl fun a R => ?_
     refine oas R rfl rfl fun a R => ?_
     obtain ⟨q11, h⟩ := h
     refine op_unit R (rn_stN (vs := [.int .u8 0, .slice none 0 0]) R rfl rfl (ao ⟨rfl, rfl, trivial⟩) sz37 q11) fun a R => ?_
     refine oas R rfl rfl fun a R => ?_
     refine wpList_nil ?_
     refine then_normal ?_
     refine wp_ret ?_
     refine then_ret ?_
     obtain ⟨r12_0, cr12_0, h⟩ := h
     obtain ⟨r12_1, cr12_1, h⟩ := h
     exact post_retC [.int .u32 0, .agg #[.int .u8 r12_0, Sl.val r12_1], .int .i64 0] R rfl ⟨rfl, lcN Tryd.underlying37 rfl rfl sz37 ⟨cr12_0, cr12_1, trivial⟩, rfl, trivial⟩ ⟨0, r12_0, r12_1, 0, rfl, h⟩
    ·refine wp_condF R (congrArg (fun b => some (Value.bool b)) g10) ?_
     refine wp_skip ?_
     refine then_normal ?_
     refine wp_seq ?_
     refine wp_region_lit ?_
     refine omv R rfl rfl fun a R => ?_
     refine op_val R (rn_cvI R rfl Tryd.underlying22 Tryd.underlying3) rfl fun a R => ?_
     refine op_val R (rn_bin (v := .int .i64 (IntKind.i64.wrap (14 + (IntKind.i64.wrap x30_8_0)))) R rfl rfl rfl) rfl fun a R => ?_
     refine oas R rfl rfl fun a R => ?_
     refine wpList_nil ?_
     refine then_normal ?_
     refine wp_seq ?_
     refine wp_seq ?_
     refine region_start mo fun inv => ?_
     obtain ⟨s14_0, s14_1, h⟩ := h
     obtain ⟨s15_0, s15_1, h⟩ := h
     refine seg_held (n := 7) (f := 7) (g := 2) (fun w : World => True) (by kernel_rfl) fun inv => ?_
     have hS0 : True := trivial
     refine dr_val (i := 0) R (waits_dom (by kernel_rfl) (by kernel_rfl)) (by kernel_rfl) inv rfl (by decide) (by kernel_rfl) (by kernel_rfl) (fun _ _ _ h => h) wanted_none (fun w' hS => rn_mv R rfl) hS0 rfl fun inv a R => ?_
     refine dr_val (i := 1) R (waits_dom (by kernel_rfl) (by kernel_rfl)) (by kernel_rfl) inv rfl (by decide) (by kernel_rfl) (by kernel_rfl) (fun _ _ _ h => h) wanted_none (fun w' hS => rn_mv R rfl) hS0 rfl fun inv a R => ?_
     refine dr_val (i := 2) R (waits_dom (by kernel_rfl) (by kernel_rfl)) (by kernel_rfl) inv rfl (by decide) (by kernel_rfl) (by kernel_rfl) (fun _ _ _ h => h) wanted_none (fun w' hS => rn_sl R rfl (evo R rfl) rfl rfl (fun w => bounds2 (lo := (some (.i64, (IntKind.i64.wrap (14 + (IntKind.i64.wrap x30_8_0)))))) (hi := none) (Int.toNat (IntKind.i64.wrap (14 + (IntKind.i64.wrap x30_8_0)))) x0.len rfl ⟨s14_0, s14_1, rfl⟩ w) Tryd.underlying29 sz5) hS0 rfl fun inv a R => ?_
     refine dr_val (i := 4) R (waits_dom (by kernel_rfl) (by kernel_rfl)) (by kernel_rfl) inv rfl (by decide) (by kernel_rfl) (by kernel_rfl) (fun _ _ _ h => h) wanted_none (fun w' hS => rn_mv R rfl) hS0 rfl fun inv a R => ?_
     refine dr_val (i := 5) R (waits_dom (by kernel_rfl) (by kernel_rfl)) (by kernel_rfl) inv rfl (by decide) (by kernel_rfl) (by kernel_rfl) (fun _ _ _ h => h) wanted_none (fun w' hS => rn_mv R rfl) hS0 rfl fun inv a R => ?_
     refine dr_val (i := 6) R (waits_dom (by kernel_rfl) (by kernel_rfl)) (by kernel_rfl) inv rfl (by decide) (by kernel_rfl) (by kernel_rfl) (fun _ _ _ h => h) wanted_none (fun w' hS => rn_sl R rfl rfl (evo R rfl) rfl (fun w => bounds2 (lo := none) (hi := (some (.i64, (IntKind.i64.wrap (14 + (IntKind.i64.wrap x30_8_0)))))) 0 (Int.toNat (IntKind.i64.wrap (14 + (IntKind.i64.wrap x30_8_0)))) ⟨s15_0, s15_1, rfl⟩ rfl w) Tryd.underlying29 sz5) hS0 rfl fun inv a R => ?_
     refine dr_call (i := 3) R inv rfl (by decide) (by kernel_rfl) wanted_none (rn_calls R rfl cf56) rfl ?_
     refine call_mono (s_drawer_get32 _ _ _ h) ?_
     rintro _ w37 ⟨x59_16_0, rfl, hS0, h⟩
     refine ⟨hS0, fun a inv R => ?_⟩
     refine seg_end (by kernel_rfl) ?_
     refine any_tail 7 (by kernel_rfl) ?_
     refine op_call R (rn_calls R rfl cf40) rfl ?_
     refine call_mono (s_pack_Sum _ _ _ h) ?_
     rintro _ w36 ⟨x63_17_0, rfl, h⟩ a R
     refine op_val R (rn_bin (v := .bool (x59_16_0 != x63_17_0)) R rfl rfl rfl) rfl fun a R => ?_
     refine wpList_nil ?_
     refine then_normal ?_
     rcases ite_cases h with ⟨g19, h⟩ | ⟨g19, h⟩
     ·refine wp_condT R (congrArg (fun b => some (Value.bool b)) g19) ?_
      refine wp_seq ?_
      refine wp_region_lit ?_
      refine op_val R (rn_build (r := .agg #[.int .u8 0, .slice none 0 0]) R rfl (fun w => by kernel_rfl)) rfl fun a R => ?_
      refine oas R rfl rfl fun a R => ?_
      obtain ⟨q20, h⟩ := h
      refine op_unit R (rn_stN (vs := [.int .u8 0, .slice none 0 0]) R rfl rfl (ao ⟨rfl, rfl, trivial⟩) sz37 q20) fun a R => ?_
      refine oas R rfl rfl fun a R => ?_
      refine wpList_nil ?_
      refine then_normal ?_
      refine wp_ret ?_
      refine then_ret ?_
      obtain ⟨r21_0, cr21_0, h⟩ := h
      obtain ⟨r21_1, cr21_1, h⟩ := h
      exact post_retC [.int .u32 0, .agg #[.int .u8 r21_0, Sl.val r21_1], .int .i64 0] R rfl ⟨rfl, lcN Tryd.underlying37 rfl rfl sz37 ⟨cr21_0, cr21_1, trivial⟩, rfl, trivial⟩ ⟨0, r21_0, r21_1, 0, rfl, h⟩
     ·refine wp_condF R (congrArg (fun b => some (Value.bool b)) g19) ?_
      refine wp_skip ?_
      refine then_normal ?_
      refine wp_seq ?_
      refine wp_region_lit ?_
      refine omv R rfl rfl fun a R => ?_
      obtain ⟨x67_22, w23, cx67_22, h⟩ := h
      refine op_val R (rn_makeSlice R rfl rfl cx67_22) rfl fun a R => ?_
      refine oas R rfl rfl fun a R => ?_
      refine wpList_nil ?_
      refine then_normal ?_
      refine wp_seq ?_
      refine wp_region_lit ?_
      refine omv R rfl rfl fun a R => ?_
      refine omv R rfl rfl fun a R => ?_
      refine omv R rfl rfl fun a R => ?_
      obtain ⟨s24_0, s24_1, s24_2, s24_3, h⟩ := h
      refine op_val R (rn_sl R rfl (evo R rfl) (evo R rfl) rfl (fun w => bounds2 (lo := (some (.i64, 14))) (hi := (some (.i64, (IntKind.i64.wrap (14 + (IntKind.i64.wrap x30_8_0)))))) (Int.toNat 14) (Int.toNat (IntKind.i64.wrap (14 + (IntKind.i64.wrap x30_8_0)))) ⟨s24_0, s24_1, rfl⟩ ⟨s24_2, s24_3, rfl⟩ w) Tryd.underlying29 sz5) rfl fun a R => ?_
      obtain ⟨x72_26, w25, cx72_26, h⟩ := h
      refine op_val R (rn_bi (vs := [Sl.val x67_22, Sl.val (cutSl ⟨x0.p, x0.len, x0.cap⟩ 1 (Int.toNat 14) (Int.toNat (IntKind.i64.wrap (14 + (IntKind.i64.wrap x30_8_0)))) x0.cap)]) R rfl (fun _ => rfl) cx72_26) rfl fun a R => ?_
      refine wpList_nil ?_
      refine then_normal ?_
      refine wp_seq ?_
      refine region_start mo fun inv => ?_
      obtain ⟨s27_0, s27_1, h⟩ := h
      obtain ⟨b28, x77_29, p28, i28, j28, e28, h⟩ := ix_e h
      obtain ⟨x78_30, cx78_30, h⟩ := h
      refine seg_held (n := 12) (f := 12) (g := 1) (fun w : World => w.cell? x77_29 = some (.int .u8 x78_30) ∧ True) (by kernel_rfl) fun inv => ?_
      have hS0 : (fun w : World => w.cell? x77_29 = some (.int .u8 x78_30) ∧ True) _ := ⟨cx78_30, trivial⟩
      refine dr_val (i := 0) R (waits_dom (by kernel_rfl) (by kernel_rfl)) (by kernel_rfl) inv rfl (by decide) (by kernel_rfl) (by kernel_rfl) (fun _ _ _ h => h) wanted_none (fun w' hS => rn_mv R rfl) hS0 rfl fun inv a R => ?_
      refine dr_val (i := 1) R (waits_dom (by kernel_rfl) (by kernel_rfl)) (by kernel_rfl) inv rfl (by decide) (by kernel_rfl) (by kernel_rfl) (fun _ _ _ h => h) wanted_none (fun w' hS => rn_sl R rfl (evo R rfl) rfl rfl (fun w => bounds2 (lo := (some (.i64, 5))) (hi := none) (Int.toNat 5) x0.len rfl ⟨s27_0, s27_1, rfl⟩ w) Tryd.underlying29 sz5) hS0 rfl fun inv a R => ?_
      refine dr_val (i := 3) R (waits_dom (by kernel_rfl) (by kernel_rfl)) (by kernel_rfl) inv rfl (by decide) (by kernel_rfl) (by kernel_rfl) (fun _ _ _ h => h) wanted_none (fun w' hS => rn_mv R rfl) hS0 rfl fun inv a R => ?_
      refine dr_val (v := .pointer (some x77_29)) (i := 4) R (waits_dom (by kernel_rfl) (by kernel_rfl)) (by kernel_rfl) inv rfl (by decide) (by kernel_rfl) (by kernel_rfl) (fun _ _ _ h => h) wanted_none (fun w' hS => by rw [e28]; exact rn_ixs (x := (.tmp 76)) (y := (.const (.int .i64 13))) R rfl p28 rfl Tryd.underlying29 sz5 i28 j28) hS0 rfl fun inv a R => ?_
      refine dr_val (i := 5) R (waits_dom (by kernel_rfl) (by kernel_rfl)) (by kernel_rfl) inv rfl (by decide) (by kernel_rfl) (by kernel_rfl) (fun _ _ _ h => h) wanted_none (fun w' hS => rn_ld R rfl Tryd.underlying5 rfl (hS.1)) hS0 rfl fun inv a R => ?_
      refine dr_val (i := 6) R (waits_dom (by kernel_rfl) (by kernel_rfl)) (by kernel_rfl) inv rfl (by decide) (by kernel_rfl) (by kernel_rfl) (fun _ _ _ h => h) wanted_none (fun w' hS => rn_mv R rfl) hS0 rfl fun inv a R => ?_
      refine dr_val (i := 7) R (waits_dom (by kernel_rfl) (by kernel_rfl)) (by kernel_rfl) inv rfl (by decide) (by kernel_rfl) (by kernel_rfl) (fun _ _ _ h => h) wanted_none (fun w' hS => rn_build (r := .agg #[.int .u8 x78_30, Sl.val x67_22]) R rfl (fun w => by kernel_rfl)) hS0 rfl fun inv a R => ?_
      refine dr_val (i := 8) R (waits_dom (by kernel_rfl) (by kernel_rfl)) (by kernel_rfl) inv rfl (by decide) (by kernel_rfl) (by kernel_rfl) (fun _ _ _ h => h) wanted_none (fun w' hS => rn_mv R rfl) hS0 rfl fun inv a R => ?_
      refine dr_val (i := 9) R (waits_dom (by kernel_rfl) (by kernel_rfl)) (by kernel_rfl) inv rfl (by decide) (by kernel_rfl) (by kernel_rfl) (fun _ _ _ h => h) wanted_none (fun w' hS => rn_bin (v := .int .i64 (IntKind.i64.wrap ((IntKind.i64.wrap (14 + (IntKind.i64.wrap x30_8_0))) + 4))) R rfl rfl rfl) hS0 rfl fun inv a R => ?_
      refine dr_call (i := 2) R inv rfl (by decide) (by kernel_rfl) wanted_none (rn_calls R rfl cf56) rfl ?_
      refine call_mono (s_drawer_get32 _ _ _ h) ?_
      rintro _ w35 ⟨x75_32_0, rfl, hS0, h⟩
      refine ⟨hS0, fun a inv R => ?_⟩
      refine dr_val (i := 10) R (waits_dom (by kernel_rfl) (by kernel_rfl)) (by kernel_rfl) inv rfl (by decide) (by kernel_rfl) (by kernel_rfl) (fun _ _ _ h => h) wanted_none (fun w' hS => rn_as R rfl) hS0 rfl fun inv a R => ?_
      have a11 := h
      refine head_alt [11] (by kernel_rfl) (by decide) (by decide) ⟨?_, trivial⟩
      ·have h := a11
       obtain ⟨q33, h⟩ := h
       obtain ⟨hS0, h⟩ := h
       refine one_unit (i := 11) R inv rfl (by decide) (by kernel_rfl) wanted_none (rn_stN (vs := [.int .u8 x78_30, Sl.val x67_22]) R rfl rfl (ao ⟨rfl, rfl, trivial⟩) sz37 q33) hS0 fun inv a R => ?_
       refine seg_end (by kernel_rfl) ?_
       refine any_tail 12 (by kernel_rfl) ?_
       refine oas R rfl rfl fun a R => ?_
       refine wpList_nil ?_
       refine then_normal ?_
       refine wp_ret ?_
       obtain ⟨r34_0, cr34_0, h⟩ := h
       obtain ⟨r34_1, cr34_1, h⟩ := h
       exact post_retC [.int .u32 x75_32_0, .agg #[.int .u8 r34_0, Sl.val r34_1], .int .i64 (IntKind.i64.wrap ((IntKind.i64.wrap (14 + (IntKind.i64.wrap x30_8_0))) + 4))] R rfl ⟨rfl, lcN Tryd.underlying37 rfl rfl sz37 ⟨cr34_0, cr34_1, trivial⟩, rfl, trivial⟩ ⟨x75_32_0, r34_0, r34_1, (IntKind.i64.wrap ((IntKind.i64.wrap (14 + (IntKind.i64.wrap x30_8_0))) + 4)), rfl, h⟩
theorem s_drawer_whole (x0 : Sl) (x1 : Int) (Q : Int → Int → Sl → Int → World → Prop) (w : World) (h : drawer_whole x0 x1 Q w) :
    Calls Tryd.prog 44 #[Sl.val x0, .int .i64 x1] w (Rets fun v w => ∃ r0 : Int, ∃ r1 : Int, ∃ r2 : Sl, ∃ r3 : Int, v = (.tuple #[.int .u32 r0, .agg #[.int .u8 r1, Sl.val r2], .int .i64 r3] : Value) ∧ Q r0 r1 r2 r3 w) :=
  calls_body (args := [Sl.val x0, .int .i64 x1]) Tryd.func44 rfl rfl (Nat.le_of_ble_eq_true rfl) (L := [(0, Sl.val x0), (1, .int .i64 x1)]) (by simp [starts]) (b_drawer_whole x0 x1 Q w h rfl)

/-! (drawer.Disk).seek -/

def drawer_Disk_seek.k22 (x2_1 : Addr) (x3_3 : Addr) (x72_19 : Sl) (K20 : World → Prop) (y21_12 : Addr) (y21_13 : Int) (y22_93 : Bool) (Q : Int → Int → Sl → Sl → Int → Int → Int → World → Prop) (w : World) : Prop :=
  (if y22_93 = true then ld (Value.int .i64) w (x3_3.add 0) fun x94_24_0 => ld (Value.int .u32) w (x3_3.add 1) fun x94_24_1 => ld Sl.val w (x3_3.add 2) fun x94_24_2 => ld Sl.val w (x3_3.add 3) fun x94_24_3 => ld (Value.int .i64) w (x3_3.add 4) fun x94_24_4 => ld (Value.int .i64) w (x3_3.add 5) fun x94_24_5 => ld (Value.int .i64) w (x3_3.add 6) fun x94_24_6 => stN w x2_1 [.int .i64 x94_24_0, .int .u32 x94_24_1, Sl.val x94_24_2, Sl.val x94_24_3, .int .i64 x94_24_4, .int .i64 x94_24_5, .int .i64 x94_24_6] fun w => ld (Value.int .i64) w (x2_1.add 0) fun r26_0 => ld (Value.int .u32) w (x2_1.add 1) fun r26_1 => ld Sl.val w (x2_1.add 2) fun r26_2 => ld Sl.val w (x2_1.add 3) fun r26_3 => ld (Value.int .i64) w (x2_1.add 4) fun r26_4 => ld (Value.int .i64) w (x2_1.add 5) fun r26_5 => ld (Value.int .i64) w (x2_1.add 6) fun r26_6 => Q r26_0 r26_1 r26_2 r26_3 r26_4 r26_5 r26_6 w else ld Sl.val w (x3_3.add 3) fun x96_27 => ld (Value.int .u8) w (y21_12.add 0) fun x97_28_0 => ld Sl.val w (y21_12.add 1) fun x97_28_1 => al w (.cells #[.int .u8 x97_28_0, Sl.val x97_28_1] 37) fun x98_29 w => rn Tryd.prog Sl.val (Builtin.append_ #[30, 30] 30 [Sl.val x96_27, .slice (some x98_29) 1 1].toArray) w fun x99_32 w => st w (x3_3.add 3) (Sl.val x99_32) fun w => ld (Value.int .i64) w (x3_3.add 4) fun x102_34 => st w (x3_3.add 4) (.int .i64 (IntKind.i64.wrap (x102_34 + y21_13))) fun w => K20  w)

def drawer_Disk_seek.k21 (x2_1 : Addr) (x3_3 : Addr) (x72_19 : Sl) (K20 : World → Prop) (y21_11 : Int) (y21_12 : Addr) (y21_13 : Int) (Q : Int → Int → Sl → Sl → Int → Int → Int → World → Prop) (w : World) : Prop :=
  (if (y21_13 == 0) = true then drawer_Disk_seek.k22 x2_1 x3_3 x72_19 K20 y21_12 y21_13 true Q w else ld (Value.int .u32) w (x3_3.add 1) fun x91_39 => drawer_Disk_seek.k22 x2_1 x3_3 x72_19 K20 y21_12 y21_13 (y21_11 != x91_39) Q w)

def drawer_Disk_seek.l20 (x2_1 : Addr) (x3_3 : Addr) (x72_19 : Sl) (Q : Int → Int → Sl → Sl → Int → Int → Int → World → Prop) (K20 : World → Prop) (w : World) : Prop :=
  ld (Value.int .i64) (World.drew w) (x3_3.add 4) fun x76_41 => ((0 : Int) ≤ x76_41 ∧ x76_41 ≤ ((x72_19.len : Nat) : Int) ∧ ld Sl.val (World.drew w) (x3_3.add 3) fun x79_43 => ((drawer_whole (cutSl ⟨x72_19.p, x72_19.len, x72_19.cap⟩ 1 (Int.toNat x76_41) x72_19.len x72_19.cap) (IntKind.i64.wrap (((x79_43.len : Nat) : Int) + 1)) (fun x82_46_0 x82_46_1_0 x82_46_1_1 x82_46_2 w => ((World.cell? w (x3_3.add 4) = some (.int .i64 x76_41) ∧ World.cell? w (x3_3.add 3) = some (Sl.val x79_43) ∧ True) ∧ al w (.cells #[.int .u8 0, .slice none 0 0] 37) fun x12_47 w => ((World.cell? w (x3_3.add 4) = some (.int .i64 x76_41) ∧ World.cell? w (x3_3.add 3) = some (Sl.val x79_43) ∧ True) ∧ ((stN w x12_47 [.int .u8 x82_46_1_0, Sl.val x82_46_1_1] fun w => ((World.cell? w (x3_3.add 4) = some (.int .i64 x76_41) ∧ World.cell? w (x3_3.add 3) = some (Sl.val x79_43) ∧ True) ∧ drawer_Disk_seek.k21 x2_1 x3_3 x72_19 K20 x82_46_0 x12_47 x82_46_2 Q w)))))) (World.drew w)) ∧ (al (World.drew w) (.cells #[.int .u8 0, .slice none 0 0] 37) fun x12_51 w => ((World.cell? w (x3_3.add 4) = some (.int .i64 x76_41) ∧ World.cell? w (x3_3.add 3) = some (Sl.val x79_43) ∧ True) ∧ drawer_whole (cutSl ⟨x72_19.p, x72_19.len, x72_19.cap⟩ 1 (Int.toNat x76_41) x72_19.len x72_19.cap) (IntKind.i64.wrap (((x79_43.len : Nat) : Int) + 1)) (fun x82_53_0 x82_53_1_0 x82_53_1_1 x82_53_2 w => ((World.cell? w (x3_3.add 4) = some (.int .i64 x76_41) ∧ World.cell? w (x3_3.add 3) = some (Sl.val x79_43) ∧ True) ∧ ((stN w x12_51 [.int .u8 x82_53_1_0, Sl.val x82_53_1_1] fun w => ((World.cell? w (x3_3.add 4) = some (.int .i64 x76_41) ∧ World.cell? w (x3_3.add 3) = some (Sl.val x79_43) ∧ True) ∧ drawer_Disk_seek.k21 x2_1 x3_3 x72_19 K20 x82_53_0 x12_51 x82_53_2 Q w))))) w))))

def drawer_Disk_seek.k5 (x0 : Option Addr) (x2_1 : Addr) (x3_3 : Addr) (Q : Int → Int → Sl → Sl → Int → Int → Int → World → Prop) (w : World) : Prop :=
  ld (Value.int .i64) w (x3_3.add 0) fun x59_6 => (if (x59_6 == 0) = true then ld (Value.int .i64) w (x3_3.add 0) fun x61_9_0 => ld (Value.int .u32) w (x3_3.add 1) fun x61_9_1 => ld Sl.val w (x3_3.add 2) fun x61_9_2 => ld Sl.val w (x3_3.add 3) fun x61_9_3 => ld (Value.int .i64) w (x3_3.add 4) fun x61_9_4 => ld (Value.int .i64) w (x3_3.add 5) fun x61_9_5 => ld (Value.int .i64) w (x3_3.add 6) fun x61_9_6 => stN w x2_1 [.int .i64 x61_9_0, .int .u32 x61_9_1, Sl.val x61_9_2, Sl.val x61_9_3, .int .i64 x61_9_4, .int .i64 x61_9_5, .int .i64 x61_9_6] fun w => ld (Value.int .i64) w (x2_1.add 0) fun r11_0 => ld (Value.int .u32) w (x2_1.add 1) fun r11_1 => ld Sl.val w (x2_1.add 2) fun r11_2 => ld Sl.val w (x2_1.add 3) fun r11_3 => ld (Value.int .i64) w (x2_1.add 4) fun r11_4 => ld (Value.int .i64) w (x2_1.add 5) fun r11_5 => ld (Value.int .i64) w (x2_1.add 6) fun r11_6 => Q r11_0 r11_1 r11_2 r11_3 r11_4 r11_5 r11_6 w else nn x0 fun x63_12 => ld Value.map (World.drew w) (x63_12.add 0) fun x65_13 => ld (Value.int .i64) (World.drew w) (x3_3.add 0) fun x67_14 => drawer_name x67_14 (fun x68_15_0 w => ((World.cell? w (x63_12.add 0) = some (.map x65_13) ∧ World.cell? w (x3_3.add 0) = some (.int .i64 x67_14) ∧ True) ∧ rn Tryd.prog Value.pointer (Instr.lookup 73 (.map x65_13) (.string x68_15_0) false) w fun x69_16 w => nn x69_16 fun x70_18 => ld Sl.val w (x70_18.add 0) fun x72_19 => (Fix (σ := Unit) (fun Ks s w => drawer_Disk_seek.l20 x2_1 x3_3 x72_19  Q (fun  w => Ks () w) w) () w))) (World.drew w))

def drawer_Disk_seek.k73 (x0 : Option Addr) (x2_1 : Addr) (x3_3 : Addr) (x18_59a : Addr) (K61 : World → Prop) (x21_65v : Option Addr) (x25_66_0 : Int) (x31_69_0 : Int) (x31_69_2 : Int) (x8_70 : Addr) (y73_42 : Bool) (Q : Int → Int → Sl → Sl → Int → Int → Int → World → Prop) (w : World) : Prop :=
  (if y73_42 = true then K61  w else ld Sl.val (World.drew w) (x8_70.add 1) fun x46_75 => nn x21_65v fun x49_76 => ld Sl.val (World.drew w) (x49_76.add 0) fun x51_77 => nn x21_65v fun x54_79 => ld (Value.int .i64) (World.drew w) (x54_79.add 1) fun x56_80 => stN (World.drew w) x3_3 [.int .i64 x25_66_0, .int .u32 x31_69_0, Sl.val x46_75, .slice none 0 0, .int .i64 x31_69_2, .int .i64 ((x51_77.len : Nat) : Int), .int .i64 x56_80] fun w => K61  w)

def drawer_Disk_seek.l61 (x0 : Option Addr) (x2_1 : Addr) (x3_3 : Addr) (x18_59a : Addr) (Q : Int → Int → Sl → Sl → Int → Int → Int → World → Prop) (K61 : World → Prop) (w : World) : Prop :=
  nx Tryd.prog x18_59a w fun x19_62 w => (if x19_62 = true then en Tryd.prog Value.string Value.pointer x18_59a w fun x21_65k x21_65v => drawer_generation x21_65k (fun x25_66_0 w => nn x21_65v fun x28_67 => ld Sl.val w (x28_67.add 0) fun x30_68 => drawer_whole x30_68 0 (fun x31_69_0 x31_69_1_0 x31_69_1_1 x31_69_2 w => al w (.cells #[.int .u8 0, .slice none 0 0] 37) fun x8_70 w => stN w x8_70 [.int .u8 x31_69_1_0, Sl.val x31_69_1_1] fun w => ld (Value.int .i64) w (x3_3.add 0) fun x37_82 => (if (decide (x25_66_0 ≤ x37_82)) = true then drawer_Disk_seek.k73 x0 x2_1 x3_3 x18_59a K61 x21_65v x25_66_0 x31_69_0 x31_69_2 x8_70 true Q w else drawer_Disk_seek.k73 x0 x2_1 x3_3 x18_59a K61 x21_65v x25_66_0 x31_69_0 x31_69_2 x8_70 (x31_69_2 == 0) Q w)) w) w else drawer_Disk_seek.k5 x0 x2_1 x3_3 Q w)

def drawer_Disk_seek (x0 : Option Addr) (Q : Int → Int → Sl → Sl → Int → Int → Int → World → Prop) (w : World) : Prop :=
  al w (.cells #[.int .i64 0, .int .u32 0, .slice none 0 0, .slice none 0 0, .int .i64 0, .int .i64 0, .int .i64 0] 82) fun x2_1 w => al w (.cells #[.int .i64 0, .int .u32 0, .slice none 0 0, .slice none 0 0, .int .i64 0, .int .i64 0, .int .i64 0] 82) fun x3_3 w => nn x0 fun x15_57 => ld Value.map w (x15_57.add 0) fun x17_58 => rn Tryd.prog (fun z => Value.pointer (some z)) (Instr.range 73 (.map x17_58)) w fun x18_59a w => (Fix (σ := Unit) (fun Ks s w => drawer_Disk_seek.l61 x0 x2_1 x3_3 x18_59a  Q (fun  w => Ks () w) w) () w)

theorem b_drawer_Disk_seek (x0 : Option Addr) (Q : Int → Int → Sl → Sl → Int → Int → Int → World → Prop) (w : World) (h : drawer_Disk_seek x0 Q w) {c : Code} (hb : Tryd.f33.body = some c) :
 ∀ a, Rep a 106 [(0, .pointer x0)] [] → c.wp Tryd.prog (bodyPost Tryd.prog Tryd.f33 (Rets fun v w => ∃ r0 : Int, ∃ r1 : Int, ∃ r2 : Sl, ∃ r3 : Sl, ∃ r4 : Int, ∃ r5 : Int, ∃ r6 : Int, v = (.agg #[.int .i64 r0, .int .u32 r1, Sl.val r2, Sl.val r3, .int .i64 r4, .int .i64 r5, .int .i64 r6] : Value) ∧ Q r0 r1 r2 r3 r4 r5 r6 w)) a w := by
 intro a R
 obtain rfl := Option.some.inj hb
 unfold drawer_Disk_seek at h
 refine wp_seq ?_
 refine wp_region_lit ?_
 obtain ⟨x2_1, e2, h⟩ := al_e h
 refine op_val (v := .pointer (some x2_1)) R (by rw [e2]; exact rn_al R ze82) rfl fun a R => ?_
 refine wpList_nil ?_
 refine then_normal ?_
 refine wp_seq ?_
 refine wp_region_lit ?_
 obtain ⟨x3_3, e4, h⟩ := al_e h
 refine op_val (v := .pointer (some x3_3)) R (by rw [e4]; exact rn_al R ze82) rfl fun a R => ?_
 refine wpList_nil ?_
 refine then_normal ?_
 refine seq_join (fun a w => Rep a 106 [(0, .pointer x0), (2, .pointer (some x2_1)), (3, .pointer (some x3_3))] [] ∧ drawer_Disk_seek.k5 x0 x2_1 x3_3 Q w) ?_ ?_
 ·refine wp_seq ?_
  refine wp_region_lit ?_
  refine omv R rfl rfl fun a R => ?_
  obtain ⟨x15_57, cx15_57, h⟩ := h
  refine onl R rfl cx15_57 rfl fun a R => ?_
  refine ofd R rfl fd75_0 rfl fun a R => ?_
  obtain ⟨x17_58, cx17_58, h⟩ := h
  refine old R rfl Tryd.underlying73 rfl cx17_58 rfl fun a R => ?_
  obtain ⟨x18_59a, w60, cx18_59, h⟩ := h
  refine op_val R (rn_range R rfl cx18_59) rfl fun a R => ?_
  refine wpList_nil ?_
  refine then_normal ?_
  refine wp_block ?_
  refine wp_fix (σ := Unit) (fun s a => Rep a 106 [(0, .pointer x0), (2, .pointer (some x2_1)), (3, .pointer (some x3_3)), (18, .pointer (some x18_59a))] []) h (R.weak ⟨rfl, rfl, rfl, rfl, trivial⟩) ?_
  rintro Ks C _ a w hC R h
  have R : Rep a 106 [(0, .pointer x0), (2, .pointer (some x2_1)), (3, .pointer (some x3_3)), (18, .pointer (some x18_59a))] [] := R
  have h : drawer_Disk_seek.l61 x0 x2_1 x3_3 x18_59a  Q (fun  w => Ks () w) w := h
  generalize hK61 : (fun  w => Ks () w) = K61 at h
  unfold drawer_Disk_seek.l61 at h
  refine wp_seq ?_
  refine wp_region_lit ?_
  obtain ⟨x19_62, vx19_62, w63, cx19_62, h⟩ := h
  refine op_val R (rn_next R rfl cx19_62) rfl fun a R => ?_
  refine op_val R (rn_ext R rfl rfl) rfl fun a R => ?_
  refine wpList_nil ?_
  refine then_normal ?_
  refine wp_seq ?_
  rcases ite_cases h with ⟨g64, h⟩ | ⟨g64, h⟩
  ·refine wp_condT R (congrArg (fun b => some (Value.bool b)) g64) ?_
   refine wp_skip ?_
   refine then_normal ?_
   refine wp_block ?_
   refine wp_seq ?_
   refine wp_region_lit ?_
   obtain ⟨x21_65k, x21_65v, cx21_65, h⟩ := h
   refine op_val R (rn_entry R rfl cx21_65) rfl fun a R => ?_
   refine op_val R (rn_ext R rfl rfl) rfl fun a R => ?_
   refine op_val R (rn_ext R rfl rfl) rfl fun a R => ?_
   refine oas R rfl rfl fun a R => ?_
   refine oas R rfl rfl fun a R => ?_
   refine wpList_nil ?_
   refine then_normal ?_
   refine wp_seq ?_
   refine wp_region_lit ?_
   refine omv R rfl rfl fun a R => ?_
   refine op_call R (rn_calls R rfl cf43) rfl ?_
   refine call_mono (s_drawer_generation _ _ _ h) ?_
   rintro _ w87 ⟨x25_66_0, rfl, h⟩ a R
   refine oas R rfl rfl fun a R => ?_
   refine wpList_nil ?_
   refine then_normal ?_
   refine wp_seq ?_
   refine wp_region_lit ?_
   refine omv R rfl rfl fun a R => ?_
   obtain ⟨x28_67, cx28_67, h⟩ := h
   refine onl R rfl cx28_67 rfl fun a R => ?_
   refine ofd R rfl fd78_0 rfl fun a R => ?_
   obtain ⟨x30_68, cx30_68, h⟩ := h
   refine old R rfl Tryd.underlying29 rfl cx30_68 rfl fun a R => ?_
   refine op_call R (rn_calls R rfl cf44) rfl ?_
   refine call_mono (s_drawer_whole _ _ _ _ h) ?_
   rintro _ w86 ⟨x31_69_0, x31_69_1_0, x31_69_1_1, x31_69_2, rfl, h⟩ a R
   refine omv R rfl rfl fun a R => ?_
   refine op_val R (rn_ext R rfl rfl) rfl fun a R => ?_
   refine op_val R (rn_ext R rfl rfl) rfl fun a R => ?_
   refine op_val R (rn_ext R rfl rfl) rfl fun a R => ?_
   obtain ⟨x8_70, e71, h⟩ := al_e h
   refine op_val (v := .pointer (some x8_70)) R (by rw [e71]; exact rn_al R ze37) rfl fun a R => ?_
   refine oas R rfl rfl fun a R => ?_
   obtain ⟨q72, h⟩ := h
   refine op_unit R (rn_stN (vs := [.int .u8 x31_69_1_0, Sl.val x31_69_1_1]) R rfl rfl (ao ⟨rfl, rfl, trivial⟩) sz37 q72) fun a R => ?_
   refine oas R rfl rfl fun a R => ?_
   refine wpList_nil ?_
   refine then_normal ?_
   refine wp_seq ?_
   refine seq_join (fun a w => ∃ y73_42 : Bool, Rep a 106 [(0, .pointer x0), (2, .pointer (some x2_1)), (3, .pointer (some x3_3)), (5, .pointer x21_65v), (6, .int .i64 x25_66_0), (7, .int .u32 x31_69_0), (8, .pointer (some x8_70)), (9, .int .i64 x31_69_2), (18, .pointer (some x18_59a)), (42, .bool y73_42)] [] ∧ drawer_Disk_seek.k73 x0 x2_1 x3_3 x18_59a K61 x21_65v x25_66_0 x31_69_0 x31_69_2 x8_70 y73_42 Q w) ?_ ?_
   ·refine wp_region_lit ?_
    refine omv R rfl rfl fun a R => ?_
    refine ofd R rfl fd82_0 rfl fun a R => ?_
    obtain ⟨x37_82, cx37_82, h⟩ := h
    refine old R rfl Tryd.underlying3 rfl cx37_82 rfl fun a R => ?_
    refine op_val R (rn_bin (v := .bool (decide (x25_66_0 ≤ x37_82))) R rfl rfl rfl) rfl fun a R => ?_
    refine omv R rfl rfl fun a R => ?_
    rcases ite_cases h with ⟨g84, h⟩ | ⟨g84, h⟩
    ·refine op_pass R rfl rfl rfl (nft g84) (fun a R => ?_) (by intro s hs; cases hs; rfl)
     refine op_pass R rfl rfl rfl (nft g84) (fun a R => ?_) (by intro s hs; cases hs; rfl)
     refine op_val R (rn_pickT R rfl g84 rfl) rfl fun a R => ?_
     refine wpList_nil ?_
     refine then_normal ?_
     exact ⟨true, R.weak ⟨rfl, rfl, rfl, rfl, rfl, rfl, rfl, rfl, rfl, rfl, trivial⟩, h⟩
    ·refine op_guard R rfl rfl rfl g84 ?_
     refine omv R rfl rfl fun a R => ?_
     refine op_guard R rfl rfl rfl g84 ?_
     refine op_val R (rn_bin (v := .bool (x31_69_2 == 0)) R rfl rfl rfl) rfl fun a R => ?_
     refine op_val R (rn_pickF R rfl g84 rfl) rfl fun a R => ?_
     refine wpList_nil ?_
     refine then_normal ?_
     exact ⟨(x31_69_2 == 0), R.weak ⟨rfl, rfl, rfl, rfl, rfl, rfl, rfl, rfl, rfl, rfl, trivial⟩, h⟩
   ·rintro a w ⟨y73_42, R, h⟩
    unfold drawer_Disk_seek.k73 at h
    rcases ite_cases h with ⟨g74, h⟩ | ⟨g74, h⟩
    ·refine wp_condT R (congrArg (fun b => some (Value.bool b)) g74) ?_
     refine wp_exit ?_
     refine then_exit ?_
     refine block_eq ?_
     refine then_normal ?_
     exact hC () _ _ (R.weak ⟨rfl, rfl, rfl, rfl, trivial⟩) (by rw [← hK61] at h; exact h)
    ·refine wp_condF R (congrArg (fun b => some (Value.bool b)) g74) ?_
     refine wp_skip ?_
     refine then_normal ?_
     refine region_start mo fun inv => ?_
     refine seg_same (n := 14) (f := 14) (g := 2) (by kernel_rfl) fun inv => ?_
     refine dr_val (i := 0) R (waits_dom (by kernel_rfl) (by kernel_rfl)) (by kernel_rfl) inv rfl (by decide) (by kernel_rfl) (by kernel_rfl) (fun _ _ _ h => h) wanted_none (fun w' hS => rn_mv R rfl) rfl (by decide) fun inv a R => ?_
     refine dr_val (i := 1) R (waits_dom (by kernel_rfl) (by kernel_rfl)) (by kernel_rfl) inv rfl (by decide) (by kernel_rfl) (by kernel_rfl) (fun _ _ _ h => h) wanted_none (fun w' hS => rn_mv R rfl) rfl (by decide) fun inv a R => ?_
     refine dr_val (i := 2) R (waits_dom (by kernel_rfl) (by kernel_rfl)) (by kernel_rfl) inv rfl (by decide) (by kernel_rfl) (by kernel_rfl) (fun _ _ _ h => h) wanted_none (fun w' hS => rn_fld R rfl fd37_1) rfl (by decide) fun inv a R => ?_
     obtain ⟨x46_75, cx46_75, h⟩ := h
     refine dr_val (i := 3) R (waits_dom (by kernel_rfl) (by kernel_rfl)) (by kernel_rfl) inv rfl (by decide) (by kernel_rfl) (by kernel_rfl) (fun _ _ _ h => h) wanted_none (fun w' hS => rn_ld R rfl Tryd.underlying29 rfl (cell_heap' hS cx46_75)) rfl (by decide) fun inv a R => ?_
     refine dr_val (i := 4) R (waits_dom (by kernel_rfl) (by kernel_rfl)) (by kernel_rfl) inv rfl (by decide) (by kernel_rfl) (by kernel_rfl) (fun _ _ _ h => h) wanted_none (fun w' hS => rn_mv R rfl) rfl (by decide) fun inv a R => ?_
     refine dr_val (i := 5) R (waits_dom (by kernel_rfl) (by kernel_rfl)) (by kernel_rfl) inv rfl (by decide) (by kernel_rfl) (by kernel_rfl) (fun _ _ _ h => h) wanted_none (fun w' hS => rn_mv R rfl) rfl (by decide) fun inv a R => ?_
     obtain ⟨x49_76, cx49_76, h⟩ := h
     refine dr_val (i := 6) R (waits_dom (by kernel_rfl) (by kernel_rfl)) (by kernel_rfl) inv rfl (by decide) (by kernel_rfl) (by kernel_rfl) (fun _ _ _ h => h) wanted_none (fun w' hS => rn_nil R rfl cx49_76) rfl (by decide) fun inv a R => ?_
     refine dr_val (i := 7) R (waits_dom (by kernel_rfl) (by kernel_rfl)) (by kernel_rfl) inv rfl (by decide) (by kernel_rfl) (by kernel_rfl) (fun _ _ _ h => h) wanted_none (fun w' hS => rn_fld R rfl fd78_0) rfl (by decide) fun inv a R => ?_
     obtain ⟨x51_77, cx51_77, h⟩ := h
     refine dr_val (i := 8) R (waits_dom (by kernel_rfl) (by kernel_rfl)) (by kernel_rfl) inv rfl (by decide) (by kernel_rfl) (by kernel_rfl) (fun _ _ _ h => h) wanted_none (fun w' hS => rn_ld R rfl Tryd.underlying29 rfl (cell_heap' hS cx51_77)) rfl (by decide) fun inv a R => ?_
     refine dr_val (i := 9) R (waits_dom (by kernel_rfl) (by kernel_rfl)) (by kernel_rfl) inv rfl (by decide) (by kernel_rfl) (by kernel_rfl) (fun _ _ _ h => h) wanted_none (fun w' hS => rn_len R rfl Tryd.underlying29) rfl (by decide) fun inv a R => ?_
     refine dr_val (i := 10) R (waits_dom (by kernel_rfl) (by kernel_rfl)) (by kernel_rfl) inv rfl (by decide) (by kernel_rfl) (by kernel_rfl) (fun _ _ _ h => h) wanted_none (fun w' hS => rn_mv R rfl) rfl (by decide) fun inv a R => ?_
     obtain ⟨x54_79, cx54_79, h⟩ := h
     refine dr_val (i := 11) R (waits_dom (by kernel_rfl) (by kernel_rfl)) (by kernel_rfl) inv rfl (by decide) (by kernel_rfl) (by kernel_rfl) (fun _ _ _ h => h) wanted_none (fun w' hS => rn_nil R rfl cx54_79) rfl (by decide) fun inv a R => ?_
     refine dr_val (i := 12) R (waits_dom (by kernel_rfl) (by kernel_rfl)) (by kernel_rfl) inv rfl (by decide) (by kernel_rfl) (by kernel_rfl) (fun _ _ _ h => h) wanted_none (fun w' hS => rn_fld R rfl fd78_1) rfl (by decide) fun inv a R => ?_
     obtain ⟨x56_80, cx56_80, h⟩ := h
     refine dr_val (i := 13) R (waits_dom (by kernel_rfl) (by kernel_rfl)) (by kernel_rfl) inv rfl (by decide) (by kernel_rfl) (by kernel_rfl) (fun _ _ _ h => h) wanted_none (fun w' hS => rn_ld R rfl Tryd.underlying3 rfl (cell_heap' hS cx56_80)) rfl (by decide) fun inv a R => ?_
     refine seg_end (by kernel_rfl) ?_
     refine any_tail 14 (by kernel_rfl) ?_
     refine op_val R (rn_build (r := .agg #[.int .i64 x25_66_0, .int .u32 x31_69_0, Sl.val x46_75, .slice none 0 0, .int .i64 x31_69_2, .int .i64 ((x51_77.len : Nat) : Int), .int .i64 x56_80]) R rfl (fun w => by kernel_rfl)) rfl fun a R => ?_
     obtain ⟨q81, h⟩ := h
     refine op_unit R (rn_stN (vs := [.int .i64 x25_66_0, .int .u32 x31_69_0, Sl.val x46_75, .slice none 0 0, .int .i64 x31_69_2, .int .i64 ((x51_77.len : Nat) : Int), .int .i64 x56_80]) R rfl rfl (ao ⟨rfl, rfl, rfl, rfl, rfl, rfl, rfl, trivial⟩) sz82 q81) fun a R => ?_
     refine wpList_nil ?_
     refine block_normal ?_
     refine then_normal ?_
     exact hC () _ _ (R.weak ⟨rfl, rfl, rfl, rfl, trivial⟩) (by rw [← hK61] at h; exact h)
  ·refine wp_condF R (congrArg (fun b => some (Value.bool b)) g64) ?_
   refine wp_exit ?_
   refine then_exit ?_
   refine then_exit ?_
   refine block_eq ?_
   refine then_normal ?_
   exact ⟨R.weak ⟨rfl, rfl, rfl, trivial⟩, h⟩
 ·rintro a w ⟨R, h⟩
  unfold drawer_Disk_seek.k5 at h
  refine wp_seq ?_
  refine wp_seq ?_
  refine wp_region_lit ?_
  refine ofd R rfl fd82_0 rfl fun a R => ?_
  obtain ⟨x59_6, cx59_6, h⟩ := h
  refine old R rfl Tryd.underlying3 rfl cx59_6 rfl fun a R => ?_
  refine op_val R (rn_bin (v := .bool (x59_6 == 0)) R rfl rfl rfl) rfl fun a R => ?_
  refine wpList_nil ?_
  refine then_normal ?_
  rcases ite_cases h with ⟨g8, h⟩ | ⟨g8, h⟩
  ·refine wp_condT R (congrArg (fun b => some (Value.bool b)) g8) ?_
   refine wp_seq ?_
   refine wp_region_lit ?_
   obtain ⟨x61_9_0, cx61_9_0, x61_9_1, cx61_9_1, x61_9_2, cx61_9_2, x61_9_3, cx61_9_3, x61_9_4, cx61_9_4, x61_9_5, cx61_9_5, x61_9_6, cx61_9_6, h⟩ := h
   refine op_val R (rn_ldN (cs := [.int .i64 x61_9_0, .int .u32 x61_9_1, Sl.val x61_9_2, Sl.val x61_9_3, .int .i64 x61_9_4, .int .i64 x61_9_5, .int .i64 x61_9_6]) R rfl Tryd.underlying82 rfl sz82 ⟨cx61_9_0, cx61_9_1, cx61_9_2, cx61_9_3, cx61_9_4, cx61_9_5, cx61_9_6, trivial⟩) rfl fun a R => ?_
   obtain ⟨q10, h⟩ := h
   refine op_unit R (rn_stN (vs := [.int .i64 x61_9_0, .int .u32 x61_9_1, Sl.val x61_9_2, Sl.val x61_9_3, .int .i64 x61_9_4, .int .i64 x61_9_5, .int .i64 x61_9_6]) R rfl rfl (ao ⟨rfl, rfl, rfl, rfl, rfl, rfl, rfl, trivial⟩) sz82 q10) fun a R => ?_
   refine wpList_nil ?_
   refine then_normal ?_
   refine wp_ret ?_
   refine then_ret ?_
   obtain ⟨r11_0, cr11_0, h⟩ := h
   obtain ⟨r11_1, cr11_1, h⟩ := h
   obtain ⟨r11_2, cr11_2, h⟩ := h
   obtain ⟨r11_3, cr11_3, h⟩ := h
   obtain ⟨r11_4, cr11_4, h⟩ := h
   obtain ⟨r11_5, cr11_5, h⟩ := h
   obtain ⟨r11_6, cr11_6, h⟩ := h
   exact post_retC [.agg #[.int .i64 r11_0, .int .u32 r11_1, Sl.val r11_2, Sl.val r11_3, .int .i64 r11_4, .int .i64 r11_5, .int .i64 r11_6]] R rfl ⟨lcN Tryd.underlying82 rfl rfl sz82 ⟨cr11_0, cr11_1, cr11_2, cr11_3, cr11_4, cr11_5, cr11_6, trivial⟩, trivial⟩ ⟨r11_0, r11_1, r11_2, r11_3, r11_4, r11_5, r11_6, rfl, h⟩
  ·refine wp_condF R (congrArg (fun b => some (Value.bool b)) g8) ?_
   refine wp_skip ?_
   refine then_normal ?_
   refine wp_seq ?_
   refine region_start mo fun inv => ?_
   obtain ⟨x63_12, cx63_12, h⟩ := h
   obtain ⟨x65_13, cx65_13, h⟩ := h
   obtain ⟨x67_14, cx67_14, h⟩ := h
   refine seg_held (n := 7) (f := 7) (g := 5) (fun w : World => w.cell? (x63_12.add 0) = some (.map x65_13) ∧ w.cell? (x3_3.add 0) = some (.int .i64 x67_14) ∧ True) (by kernel_rfl) fun inv => ?_
   have hS0 : (fun w : World => w.cell? (x63_12.add 0) = some (.map x65_13) ∧ w.cell? (x3_3.add 0) = some (.int .i64 x67_14) ∧ True) _ := ⟨cx65_13, cx67_14, trivial⟩
   refine dr_val (i := 0) R (waits_dom (by kernel_rfl) (by kernel_rfl)) (by kernel_rfl) inv rfl (by decide) (by kernel_rfl) (by kernel_rfl) (fun _ _ _ h => h) wanted_none (fun w' hS => rn_mv R rfl) hS0 rfl fun inv a R => ?_
   refine dr_val (i := 1) R (waits_dom (by kernel_rfl) (by kernel_rfl)) (by kernel_rfl) inv rfl (by decide) (by kernel_rfl) (by kernel_rfl) (fun _ _ _ h => h) wanted_none (fun w' hS => rn_nil R rfl cx63_12) hS0 rfl fun inv a R => ?_
   refine dr_val (i := 2) R (waits_dom (by kernel_rfl) (by kernel_rfl)) (by kernel_rfl) inv rfl (by decide) (by kernel_rfl) (by kernel_rfl) (fun _ _ _ h => h) wanted_none (fun w' hS => rn_fld R rfl fd75_0) hS0 rfl fun inv a R => ?_
   refine dr_val (i := 3) R (waits_dom (by kernel_rfl) (by kernel_rfl)) (by kernel_rfl) inv rfl (by decide) (by kernel_rfl) (by kernel_rfl) (fun _ _ _ h => h) wanted_none (fun w' hS => rn_ld R rfl Tryd.underlying73 rfl (hS.1)) hS0 rfl fun inv a R => ?_
   refine dr_val (i := 4) R (waits_dom (by kernel_rfl) (by kernel_rfl)) (by kernel_rfl) inv rfl (by decide) (by kernel_rfl) (by kernel_rfl) (fun _ _ _ h => h) wanted_none (fun w' hS => rn_fld R rfl fd82_0) hS0 rfl fun inv a R => ?_
   refine dr_val (i := 5) R (waits_dom (by kernel_rfl) (by kernel_rfl)) (by kernel_rfl) inv rfl (by decide) (by kernel_rfl) (by kernel_rfl) (fun _ _ _ h => h) wanted_none (fun w' hS => rn_ld R rfl Tryd.underlying3 rfl (hS.2.1)) hS0 rfl fun inv a R => ?_
   refine dr_call (i := 6) R inv rfl (by decide) (by kernel_rfl) wanted_none (rn_calls R rfl cf26) rfl ?_
   refine call_mono (s_drawer_name _ _ _ h) ?_
   rintro _ w56 ⟨x68_15_0, rfl, hS0, h⟩
   refine ⟨hS0, fun a inv R => ?_⟩
   refine seg_end (by kernel_rfl) ?_
   refine any_tail 7 (by kernel_rfl) ?_
   obtain ⟨x69_16, w17, cx69_16, h⟩ := h
   refine op_val R (rn_lookup R rfl rfl cx69_16) rfl fun a R => ?_
   obtain ⟨x70_18, cx70_18, h⟩ := h
   refine onl R rfl cx70_18 rfl fun a R => ?_
   refine ofd R rfl fd78_0 rfl fun a R => ?_
   obtain ⟨x72_19, cx72_19, h⟩ := h
   refine old R rfl Tryd.underlying29 rfl cx72_19 rfl fun a R => ?_
   refine oas R rfl rfl fun a R => ?_
   refine wpList_nil ?_
   refine then_normal ?_
   refine wp_block ?_
   refine wp_fix (σ := Unit) (fun s a => Rep a 106 [(2, .pointer (some x2_1)), (3, .pointer (some x3_3)), (10, Sl.val x72_19)] []) h (R.weak ⟨rfl, rfl, rfl, trivial⟩) ?_
   rintro Ks C _ a w hC R h
   have R : Rep a 106 [(2, .pointer (some x2_1)), (3, .pointer (some x3_3)), (10, Sl.val x72_19)] [] := R
   have h : drawer_Disk_seek.l20 x2_1 x3_3 x72_19  Q (fun  w => Ks () w) w := h
   generalize hK20 : (fun  w => Ks () w) = K20 at h
   unfold drawer_Disk_seek.l20 at h
   refine wp_block ?_
   refine seq_join (fun a w => ∃ y21_11 : Int, ∃ y21_12 : Addr, ∃ y21_13 : Int, Rep a 106 [(2, .pointer (some x2_1)), (3, .pointer (some x3_3)), (10, Sl.val x72_19), (11, .int .u32 y21_11), (12, .pointer (some y21_12)), (13, .int .i64 y21_13)] [] ∧ drawer_Disk_seek.k21 x2_1 x3_3 x72_19 K20 y21_11 y21_12 y21_13 Q w) ?_ ?_
   ·refine region_start mo fun inv => ?_
    obtain ⟨x76_41, cx76_41, h⟩ := h
    obtain ⟨s42_0, s42_1, h⟩ := h
    obtain ⟨x79_43, cx79_43, h⟩ := h
    refine seg_held (n := 16) (f := 16) (g := 1) (fun w : World => w.cell? (x3_3.add 4) = some (.int .i64 x76_41) ∧ w.cell? (x3_3.add 3) = some (Sl.val x79_43) ∧ True) (by kernel_rfl) fun inv => ?_
    have hS0 : (fun w : World => w.cell? (x3_3.add 4) = some (.int .i64 x76_41) ∧ w.cell? (x3_3.add 3) = some (Sl.val x79_43) ∧ True) _ := ⟨cx76_41, cx79_43, trivial⟩
    refine dr_val (i := 0) R (waits_dom (by kernel_rfl) (by kernel_rfl)) (by kernel_rfl) inv rfl (by decide) (by kernel_rfl) (by kernel_rfl) (fun _ _ _ h => h) wanted_none (fun w' hS => rn_mv R rfl) hS0 rfl fun inv a R => ?_
    refine dr_val (i := 1) R (waits_dom (by kernel_rfl) (by kernel_rfl)) (by kernel_rfl) inv rfl (by decide) (by kernel_rfl) (by kernel_rfl) (fun _ _ _ h => h) wanted_none (fun w' hS => rn_fld R rfl fd82_4) hS0 rfl fun inv a R => ?_
    refine dr_val (i := 2) R (waits_dom (by kernel_rfl) (by kernel_rfl)) (by kernel_rfl) inv rfl (by decide) (by kernel_rfl) (by kernel_rfl) (fun _ _ _ h => h) wanted_none (fun w' hS => rn_ld R rfl Tryd.underlying3 rfl (hS.1)) hS0 rfl fun inv a R => ?_
    refine dr_val (i := 3) R (waits_dom (by kernel_rfl) (by kernel_rfl)) (by kernel_rfl) inv rfl (by decide) (by kernel_rfl) (by kernel_rfl) (fun _ _ _ h => h) wanted_none (fun w' hS => rn_sl R rfl (evo R rfl) rfl rfl (fun w => bounds2 (lo := (some (.i64, x76_41))) (hi := none) (Int.toNat x76_41) x72_19.len rfl ⟨s42_0, s42_1, rfl⟩ w) Tryd.underlying29 sz5) hS0 rfl fun inv a R => ?_
    refine dr_val (i := 4) R (waits_dom (by kernel_rfl) (by kernel_rfl)) (by kernel_rfl) inv rfl (by decide) (by kernel_rfl) (by kernel_rfl) (fun _ _ _ h => h) wanted_none (fun w' hS => rn_fld R rfl fd82_3) hS0 rfl fun inv a R => ?_
    refine dr_val (i := 5) R (waits_dom (by kernel_rfl) (by kernel_rfl)) (by kernel_rfl) inv rfl (by decide) (by kernel_rfl) (by kernel_rfl) (fun _ _ _ h => h) wanted_none (fun w' hS => rn_ld R rfl Tryd.underlying30 rfl (hS.2.1)) hS0 rfl fun inv a R => ?_
    refine dr_val (i := 6) R (waits_dom (by kernel_rfl) (by kernel_rfl)) (by kernel_rfl) inv rfl (by decide) (by kernel_rfl) (by kernel_rfl) (fun _ _ _ h => h) wanted_none (fun w' hS => rn_len R rfl Tryd.underlying30) hS0 rfl fun inv a R => ?_
    refine dr_val (i := 7) R (waits_dom (by kernel_rfl) (by kernel_rfl)) (by kernel_rfl) inv rfl (by decide) (by kernel_rfl) (by kernel_rfl) (fun _ _ _ h => h) wanted_none (fun w' hS => rn_bin (v := .int .i64 (IntKind.i64.wrap (((x79_43.len : Nat) : Int) + 1))) R rfl rfl rfl) hS0 rfl fun inv a R => ?_
    obtain ⟨a8, a13⟩ := h
    refine head_alt [8, 13] (by kernel_rfl) (by decide) (by decide) ⟨?_, ?_, trivial⟩
    ·have h := a8
     refine one_call (i := 8) R inv rfl (by decide) (by kernel_rfl) wanted_none (rn_calls R rfl cf44) rfl ?_
     refine call_mono (s_drawer_whole _ _ _ _ h) ?_
     rintro _ w50 ⟨x82_46_0, x82_46_1_0, x82_46_1_1, x82_46_2, rfl, hS0, h⟩
     refine ⟨hS0, fun a inv R => ?_⟩
     refine dr_val (i := 9) R (waits_dom (by kernel_rfl) (by kernel_rfl)) (by kernel_rfl) inv rfl (by decide) (by kernel_rfl) (by kernel_rfl) (fun _ _ _ h => h) wanted_none (fun w' hS => rn_mv R rfl) hS0 rfl fun inv a R => ?_
     refine dr_val (i := 10) R (waits_dom (by kernel_rfl) (by kernel_rfl)) (by kernel_rfl) inv rfl (by decide) (by kernel_rfl) (by kernel_rfl) (fun _ _ _ h => h) wanted_none (fun w' hS => rn_ext R rfl rfl) hS0 rfl fun inv a R => ?_
     refine dr_val (i := 11) R (waits_dom (by kernel_rfl) (by kernel_rfl)) (by kernel_rfl) inv rfl (by decide) (by kernel_rfl) (by kernel_rfl) (fun _ _ _ h => h) wanted_none (fun w' hS => rn_ext R rfl rfl) hS0 rfl fun inv a R => ?_
     refine dr_val (i := 12) R (waits_dom (by kernel_rfl) (by kernel_rfl)) (by kernel_rfl) inv rfl (by decide) (by kernel_rfl) (by kernel_rfl) (fun _ _ _ h => h) wanted_none (fun w' hS => rn_ext R rfl rfl) hS0 rfl fun inv a R => ?_
     obtain ⟨x12_47, e48, h⟩ := al_e h
     obtain ⟨hS0, h⟩ := h
     refine dr_run (v := .pointer (some x12_47)) (i := 13) R inv rfl (by decide) (by kernel_rfl) wanted_none (by rw [e48]; exact rn_al R ze37) hS0 rfl fun inv a R => ?_
     refine dr_val (i := 14) R (waits_dom (by kernel_rfl) (by kernel_rfl)) (by kernel_rfl) inv rfl (by decide) (by kernel_rfl) (by kernel_rfl) (fun _ _ _ h => h) wanted_none (fun w' hS => rn_as R rfl) hS0 rfl fun inv a R => ?_
     have a15 := h
     refine head_alt [15] (by kernel_rfl) (by decide) (by decide) ⟨?_, trivial⟩
     ·have h := a15
      obtain ⟨q49, h⟩ := h
      obtain ⟨hS0, h⟩ := h
      refine one_unit (i := 15) R inv rfl (by decide) (by kernel_rfl) wanted_none (rn_stN (vs := [.int .u8 x82_46_1_0, Sl.val x82_46_1_1]) R rfl rfl (ao ⟨rfl, rfl, trivial⟩) sz37 q49) hS0 fun inv a R => ?_
      refine seg_end (by kernel_rfl) ?_
      refine any_tail 16 (by kernel_rfl) ?_
      refine oas R rfl rfl fun a R => ?_
      refine wpList_nil ?_
      refine then_normal ?_
      exact ⟨x82_46_0, x12_47, x82_46_2, R.weak ⟨rfl, rfl, rfl, rfl, rfl, rfl, trivial⟩, h⟩
    ·have h := a13
     obtain ⟨x12_51, e52, h⟩ := al_e h
     obtain ⟨hS0, h⟩ := h
     refine one_run (v := .pointer (some x12_51)) (i := 13) R inv rfl (by decide) (by kernel_rfl) wanted_none (by rw [e52]; exact rn_al R ze37) hS0 rfl fun inv a R => ?_
     refine dr_call (i := 8) R inv rfl (by decide) (by kernel_rfl) wanted_none (rn_calls R rfl cf44) rfl ?_
     refine call_mono (s_drawer_whole _ _ _ _ h) ?_
     rintro _ w55 ⟨x82_53_0, x82_53_1_0, x82_53_1_1, x82_53_2, rfl, hS0, h⟩
     refine ⟨hS0, fun a inv R => ?_⟩
     refine dr_val (i := 9) R (waits_dom (by kernel_rfl) (by kernel_rfl)) (by kernel_rfl) inv rfl (by decide) (by kernel_rfl) (by kernel_rfl) (fun _ _ _ h => h) wanted_none (fun w' hS => rn_mv R rfl) hS0 rfl fun inv a R => ?_
     refine dr_val (i := 10) R (waits_dom (by kernel_rfl) (by kernel_rfl)) (by kernel_rfl) inv rfl (by decide) (by kernel_rfl) (by kernel_rfl) (fun _ _ _ h => h) wanted_none (fun w' hS => rn_ext R rfl rfl) hS0 rfl fun inv a R => ?_
     refine dr_val (i := 11) R (waits_dom (by kernel_rfl) (by kernel_rfl)) (by kernel_rfl) inv rfl (by decide) (by kernel_rfl) (by kernel_rfl) (fun _ _ _ h => h) wanted_none (fun w' hS => rn_ext R rfl rfl) hS0 rfl fun inv a R => ?_
     refine dr_val (i := 12) R (waits_dom (by kernel_rfl) (by kernel_rfl)) (by kernel_rfl) inv rfl (by decide) (by kernel_rfl) (by kernel_rfl) (fun _ _ _ h => h) wanted_none (fun w' hS => rn_ext R rfl rfl) hS0 rfl fun inv a R => ?_
     refine dr_val (i := 14) R (waits_dom (by kernel_rfl) (by kernel_rfl)) (by kernel_rfl) inv rfl (by decide) (by kernel_rfl) (by kernel_rfl) (fun _ _ _ h => h) wanted_none (fun w' hS => rn_as R rfl) hS0 rfl fun inv a R => ?_
     have a15 := h
     refine head_alt [15] (by kernel_rfl) (by decide) (by decide) ⟨?_, trivial⟩
     ·have h := a15
      obtain ⟨q54, h⟩ := h
      obtain ⟨hS0, h⟩ := h
      refine one_unit (i := 15) R inv rfl (by decide) (by kernel_rfl) wanted_none (rn_stN (vs := [.int .u8 x82_53_1_0, Sl.val x82_53_1_1]) R rfl rfl (ao ⟨rfl, rfl, trivial⟩) sz37 q54) hS0 fun inv a R => ?_
      refine seg_end (by kernel_rfl) ?_
      refine any_tail 16 (by kernel_rfl) ?_
      refine oas R rfl rfl fun a R => ?_
      refine wpList_nil ?_
      refine then_normal ?_
      exact ⟨x82_53_0, x12_51, x82_53_2, R.weak ⟨rfl, rfl, rfl, rfl, rfl, rfl, trivial⟩, h⟩
   ·rintro a w ⟨y21_11, y21_12, y21_13, R, h⟩
    unfold drawer_Disk_seek.k21 at h
    refine wp_seq ?_
    refine seq_join (fun a w => ∃ y22_93 : Bool, Rep a 106 [(2, .pointer (some x2_1)), (3, .pointer (some x3_3)), (10, Sl.val x72_19), (12, .pointer (some y21_12)), (13, .int .i64 y21_13), (93, .bool y22_93)] [] ∧ drawer_Disk_seek.k22 x2_1 x3_3 x72_19 K20 y21_12 y21_13 y22_93 Q w) ?_ ?_
    ·refine wp_region_lit ?_
     refine omv R rfl rfl fun a R => ?_
     refine op_val R (rn_bin (v := .bool (y21_13 == 0)) R rfl rfl rfl) rfl fun a R => ?_
     refine omv R rfl rfl fun a R => ?_
     rcases ite_cases h with ⟨g38, h⟩ | ⟨g38, h⟩
     ·refine op_pass R rfl rfl rfl (nft g38) (fun a R => ?_) (by intro s hs; cases hs; rfl)
      refine op_pass R rfl rfl rfl (nft g38) (fun a R => ?_) (by intro s hs; cases hs; rfl)
      refine op_pass R rfl rfl rfl (nft g38) (fun a R => ?_) (by intro s hs; cases hs; rfl)
      refine op_pass R rfl rfl rfl (nft g38) (fun a R => ?_) (by intro s hs; cases hs; rfl)
      refine op_val R (rn_pickT R rfl g38 rfl) rfl fun a R => ?_
      refine wpList_nil ?_
      refine then_normal ?_
      exact ⟨true, R.weak ⟨rfl, rfl, rfl, rfl, rfl, rfl, trivial⟩, h⟩
     ·refine op_guard R rfl rfl rfl g38 ?_
      refine omv R rfl rfl fun a R => ?_
      refine op_guard R rfl rfl rfl g38 ?_
      refine ofd R rfl fd82_1 rfl fun a R => ?_
      refine op_guard R rfl rfl rfl g38 ?_
      obtain ⟨x91_39, cx91_39, h⟩ := h
      refine old R rfl Tryd.underlying22 rfl cx91_39 rfl fun a R => ?_
      refine op_guard R rfl rfl rfl g38 ?_
      refine op_val R (rn_bin (v := .bool (y21_11 != x91_39)) R rfl rfl rfl) rfl fun a R => ?_
      refine op_val R (rn_pickF R rfl g38 rfl) rfl fun a R => ?_
      refine wpList_nil ?_
      refine then_normal ?_
      exact ⟨(y21_11 != x91_39), R.weak ⟨rfl, rfl, rfl, rfl, rfl, rfl, trivial⟩, h⟩
    ·rintro a w ⟨y22_93, R, h⟩
     unfold drawer_Disk_seek.k22 at h
     rcases ite_cases h with ⟨g23, h⟩ | ⟨g23, h⟩
     ·refine wp_condT R (congrArg (fun b => some (Value.bool b)) g23) ?_
      refine wp_seq ?_
      refine wp_region_lit ?_
      obtain ⟨x94_24_0, cx94_24_0, x94_24_1, cx94_24_1, x94_24_2, cx94_24_2, x94_24_3, cx94_24_3, x94_24_4, cx94_24_4, x94_24_5, cx94_24_5, x94_24_6, cx94_24_6, h⟩ := h
      refine op_val R (rn_ldN (cs := [.int .i64 x94_24_0, .int .u32 x94_24_1, Sl.val x94_24_2, Sl.val x94_24_3, .int .i64 x94_24_4, .int .i64 x94_24_5, .int .i64 x94_24_6]) R rfl Tryd.underlying82 rfl sz82 ⟨cx94_24_0, cx94_24_1, cx94_24_2, cx94_24_3, cx94_24_4, cx94_24_5, cx94_24_6, trivial⟩) rfl fun a R => ?_
      obtain ⟨q25, h⟩ := h
      refine op_unit R (rn_stN (vs := [.int .i64 x94_24_0, .int .u32 x94_24_1, Sl.val x94_24_2, Sl.val x94_24_3, .int .i64 x94_24_4, .int .i64 x94_24_5, .int .i64 x94_24_6]) R rfl rfl (ao ⟨rfl, rfl, rfl, rfl, rfl, rfl, rfl, trivial⟩) sz82 q25) fun a R => ?_
      refine wpList_nil ?_
      refine then_normal ?_
      refine wp_ret ?_
      refine then_ret ?_
      refine block_ret ?_
      refine then_ret ?_
      refine block_ret ?_
      obtain ⟨r26_0, cr26_0, h⟩ := h
      obtain ⟨r26_1, cr26_1, h⟩ := h
      obtain ⟨r26_2, cr26_2, h⟩ := h
      obtain ⟨r26_3, cr26_3, h⟩ := h
      obtain ⟨r26_4, cr26_4, h⟩ := h
      obtain ⟨r26_5, cr26_5, h⟩ := h
      obtain ⟨r26_6, cr26_6, h⟩ := h
      exact post_retC [.agg #[.int .i64 r26_0, .int .u32 r26_1, Sl.val r26_2, Sl.val r26_3, .int .i64 r26_4, .int .i64 r26_5, .int .i64 r26_6]] R rfl ⟨lcN Tryd.underlying82 rfl rfl sz82 ⟨cr26_0, cr26_1, cr26_2, cr26_3, cr26_4, cr26_5, cr26_6, trivial⟩, trivial⟩ ⟨r26_0, r26_1, r26_2, r26_3, r26_4, r26_5, r26_6, rfl, h⟩
     ·refine wp_condF R (congrArg (fun b => some (Value.bool b)) g23) ?_
      refine wp_skip ?_
      refine then_normal ?_
      refine wp_seq ?_
      refine wp_region_lit ?_
      refine ofd R rfl fd82_3 rfl fun a R => ?_
      obtain ⟨x96_27, cx96_27, h⟩ := h
      refine old R rfl Tryd.underlying30 rfl cx96_27 rfl fun a R => ?_
      obtain ⟨x97_28_0, cx97_28_0, x97_28_1, cx97_28_1, h⟩ := h
      refine op_val R (rn_ldN (cs := [.int .u8 x97_28_0, Sl.val x97_28_1]) R rfl Tryd.underlying37 rfl sz37 ⟨cx97_28_0, cx97_28_1, trivial⟩) rfl fun a R => ?_
      obtain ⟨x98_29, e30, h⟩ := al_e h
      refine op_val (v := .slice (some x98_29) 1 1) R (by rw [e30]; exact rn_buildSlice (t := 30) (len := 1) (xs := [(0, (.tmp 97))]) (cells := #[.int .u8 x97_28_0, Sl.val x97_28_1]) (e := 37) R rfl (fun w => by kernel_rfl)) rfl fun a R => ?_
      obtain ⟨x99_32, w31, cx99_32, h⟩ := h
      refine op_val R (rn_bi (vs := [Sl.val x96_27, .slice (some x98_29) 1 1]) R rfl (fun _ => rfl) cx99_32) rfl fun a R => ?_
      refine ofd R rfl fd82_3 rfl fun a R => ?_
      obtain ⟨q33, f33, h⟩ := h
      refine op_unit R (rn_st R rfl rfl rfl sz30 q33 f33) fun a R => ?_
      refine wpList_nil ?_
      refine then_normal ?_
      refine wp_region_lit ?_
      refine ofd R rfl fd82_4 rfl fun a R => ?_
      obtain ⟨x102_34, cx102_34, h⟩ := h
      refine old R rfl Tryd.underlying3 rfl cx102_34 rfl fun a R => ?_
      refine omv R rfl rfl fun a R => ?_
      refine op_val R (rn_bin (v := .int .i64 (IntKind.i64.wrap (x102_34 + y21_13))) R rfl rfl rfl) rfl fun a R => ?_
      refine ofd R rfl fd82_4 rfl fun a R => ?_
      obtain ⟨q36, f36, h⟩ := h
      refine op_unit R (rn_st R rfl rfl rfl sz3 q36 f36) fun a R => ?_
      refine wpList_nil ?_
      refine block_normal ?_
      refine then_normal ?_
      exact hC () _ _ (R.weak ⟨rfl, rfl, rfl, trivial⟩) (by rw [← hK20] at h; exact h)
theorem s_drawer_Disk_seek (x0 : Option Addr) (Q : Int → Int → Sl → Sl → Int → Int → Int → World → Prop) (w : World) (h : drawer_Disk_seek x0 Q w) :
    Calls Tryd.prog 33 #[.pointer x0] w (Rets fun v w => ∃ r0 : Int, ∃ r1 : Int, ∃ r2 : Sl, ∃ r3 : Sl, ∃ r4 : Int, ∃ r5 : Int, ∃ r6 : Int, v = (.agg #[.int .i64 r0, .int .u32 r1, Sl.val r2, Sl.val r3, .int .i64 r4, .int .i64 r5, .int .i64 r6] : Value) ∧ Q r0 r1 r2 r3 r4 r5 r6 w) :=
  calls_body (args := [.pointer x0]) Tryd.func33 rfl rfl (Nat.le_of_ble_eq_true rfl) (L := [(0, .pointer x0)]) (by simp [starts]) (b_drawer_Disk_seek x0 Q w h rfl)

/-! (drawer.Disk).names -/

def drawer_Disk_names.k1 (y1_3 : Sl) (Q : Sl → World → Prop) (w : World) : Prop :=
  Calls Tryd.prog 41 #[Sl.val y1_3] w (Rets fun v w => v = (.tuple #[] : Value) ∧ Q y1_3 w)

def drawer_Disk_names.l8 (x9_6a : Addr) (z8_3 : Sl) (Q : Sl → World → Prop) (K8 : Sl → World → Prop) (w : World) : Prop :=
  nx Tryd.prog x9_6a w fun x10_9 w => (if x10_9 = true then en Tryd.prog Value.string Value.pointer x9_6a w fun x12_12k x12_12v => al w (.cells #[.string x12_12k] 9) fun x16_13 w => rn Tryd.prog Sl.val (Builtin.append_ #[70, 70] 70 [Sl.val z8_3, .slice (some x16_13) 1 1].toArray) w fun x17_16 w => K8 x17_16 w else drawer_Disk_names.k1 z8_3 Q w)

def drawer_Disk_names (x0 : Option Addr) (Q : Sl → World → Prop) (w : World) : Prop :=
  nn x0 fun x6_4 => ld Value.map w (x6_4.add 0) fun x8_5 => rn Tryd.prog (fun z => Value.pointer (some z)) (Instr.range 73 (.map x8_5)) w fun x9_6a w => (Fix (σ := Sl) (fun Ks s w => drawer_Disk_names.l8 x9_6a s Q (fun z8_3 w => Ks z8_3 w) w) (Sl.mk none 0 0) w)

theorem b_drawer_Disk_names (x0 : Option Addr) (Q : Sl → World → Prop) (w : World) (h : drawer_Disk_names x0 Q w) {c : Code} (hb : Tryd.f28.body = some c) :
 ∀ a, Rep a 21 [(0, .pointer x0)] [] → c.wp Tryd.prog (bodyPost Tryd.prog Tryd.f28 (Rets fun v w => ∃ r0 : Sl, v = (Sl.val r0 : Value) ∧ Q r0 w)) a w := by
 intro a R
 obtain rfl := Option.some.inj hb
 unfold drawer_Disk_names at h
 refine wp_seq ?_
 refine wp_region_lit ?_
 refine oas R rfl rfl fun a R => ?_
 refine wpList_nil ?_
 refine then_normal ?_
 refine wp_seq ?_
 refine wp_region_lit ?_
 refine oas R rfl rfl fun a R => ?_
 refine wpList_nil ?_
 refine then_normal ?_
 refine seq_join (fun a w => ∃ y1_3 : Sl, Rep a 21 [(3, Sl.val y1_3)] [] ∧ drawer_Disk_names.k1 y1_3 Q w) ?_ ?_
 ·refine wp_seq ?_
  refine wp_region_lit ?_
  refine omv R rfl rfl fun a R => ?_
  obtain ⟨x6_4, cx6_4, h⟩ := h
  refine onl R rfl cx6_4 rfl fun a R => ?_
  refine ofd R rfl fd75_0 rfl fun a R => ?_
  obtain ⟨x8_5, cx8_5, h⟩ := h
  refine old R rfl Tryd.underlying73 rfl cx8_5 rfl fun a R => ?_
  obtain ⟨x9_6a, w7, cx9_6, h⟩ := h
  refine op_val R (rn_range R rfl cx9_6) rfl fun a R => ?_
  refine wpList_nil ?_
  refine then_normal ?_
  refine wp_block ?_
  refine wp_fix (σ := Sl) (fun s a => Rep a 21 [(3, Sl.val s), (9, .pointer (some x9_6a))] []) h (R.weak ⟨rfl, rfl, trivial⟩) ?_
  rintro Ks C z8_3 a w hC R h
  have R : Rep a 21 [(3, Sl.val z8_3), (9, .pointer (some x9_6a))] [] := R
  have h : drawer_Disk_names.l8 x9_6a z8_3 Q (fun z8_3 w => Ks z8_3 w) w := h
  generalize hK8 : (fun z8_3 w => Ks z8_3 w) = K8 at h
  unfold drawer_Disk_names.l8 at h
  refine wp_seq ?_
  refine wp_region_lit ?_
  obtain ⟨x10_9, vx10_9, w10, cx10_9, h⟩ := h
  refine op_val R (rn_next R rfl cx10_9) rfl fun a R => ?_
  refine op_val R (rn_ext R rfl rfl) rfl fun a R => ?_
  refine wpList_nil ?_
  refine then_normal ?_
  refine wp_seq ?_
  rcases ite_cases h with ⟨g11, h⟩ | ⟨g11, h⟩
  ·refine wp_condT R (congrArg (fun b => some (Value.bool b)) g11) ?_
   refine wp_skip ?_
   refine then_normal ?_
   refine wp_block ?_
   refine wp_seq ?_
   refine wp_region_lit ?_
   obtain ⟨x12_12k, x12_12v, cx12_12, h⟩ := h
   refine op_val R (rn_entry R rfl cx12_12) rfl fun a R => ?_
   refine op_val R (rn_ext R rfl rfl) rfl fun a R => ?_
   refine oas R rfl rfl fun a R => ?_
   refine wpList_nil ?_
   refine then_normal ?_
   refine wp_region_lit ?_
   refine omv R rfl rfl fun a R => ?_
   refine omv R rfl rfl fun a R => ?_
   obtain ⟨x16_13, e14, h⟩ := al_e h
   refine op_val (v := .slice (some x16_13) 1 1) R (by rw [e14]; exact rn_buildSlice (t := 70) (len := 1) (xs := [(0, (.tmp 15))]) (cells := #[.string x12_12k]) (e := 9) R rfl (fun w => by kernel_rfl)) rfl fun a R => ?_
   obtain ⟨x17_16, w15, cx17_16, h⟩ := h
   refine op_val R (rn_bi (vs := [Sl.val z8_3, .slice (some x16_13) 1 1]) R rfl (fun _ => rfl) cx17_16) rfl fun a R => ?_
   refine oas R rfl rfl fun a R => ?_
   refine wpList_nil ?_
   refine block_normal ?_
   refine then_normal ?_
   exact hC x17_16 _ _ (R.weak ⟨rfl, rfl, trivial⟩) (by rw [← hK8] at h; exact h)
  ·refine wp_condF R (congrArg (fun b => some (Value.bool b)) g11) ?_
   refine wp_exit ?_
   refine then_exit ?_
   refine then_exit ?_
   refine block_eq ?_
   refine then_normal ?_
   exact ⟨z8_3, R.weak ⟨rfl, trivial⟩, h⟩
 ·rintro a w ⟨y1_3, R, h⟩
  unfold drawer_Disk_names.k1 at h
  refine wp_seq ?_
  refine wp_region_lit ?_
  refine omv R rfl rfl fun a R => ?_
  refine op_call R (rn_calls R rfl cf41) rfl ?_
  refine call_mono (h) ?_
  rintro _ w3 ⟨rfl, h⟩ a R
  refine wpList_nil ?_
  refine then_normal ?_
  refine wp_seq ?_
  refine wp_region_lit ?_
  refine omv R rfl rfl fun a R => ?_
  refine oas R rfl rfl fun a R => ?_
  refine wpList_nil ?_
  refine then_normal ?_
  refine wp_ret ?_
  exact post_ret R rfl rfl ⟨y1_3, rfl, h⟩
theorem s_drawer_Disk_names (x0 : Option Addr) (Q : Sl → World → Prop) (w : World) (h : drawer_Disk_names x0 Q w) :
    Calls Tryd.prog 28 #[.pointer x0] w (Rets fun v w => ∃ r0 : Sl, v = (Sl.val r0 : Value) ∧ Q r0 w) :=
  calls_body (args := [.pointer x0]) Tryd.func28 rfl rfl (Nat.le_of_ble_eq_true rfl) (L := [(0, .pointer x0)]) (by simp [starts]) (b_drawer_Disk_names x0 Q w h rfl)

end Go.Proofs.YtjnifnlkicajhaaDoor.Fs
