/-
  Written by a program of this claim (wip/gen/gen.py): what each Go function asks of the world, as a plain predicate, and that it is enough. No condition is put on any statement here.
-/
import Derived.Test.YtjnifnlkicajhaaVcDraw
import Derived.Test.YtjnifnlkicajhaaFacts
set_option linter.unusedVariables false
set_option maxRecDepth 100000
set_option maxHeartbeats 2000000
namespace Go.Proofs.Ytjnifnlkicajhaa.Fs
open Go Vc

/-! levylaw19.sameBytes -/

def levylaw19_sameBytes (x0 : Sl) (x1 : Sl) (Q : Bool → World → Prop) (w : World) : Prop :=
  rn Try.prog Value.string (convert 34 9 (Sl.val x0)) w fun x6_1 w => rn Try.prog Value.string (convert 34 9 (Sl.val x1)) w fun x8_3 w => Q (sEq x6_1 x8_3) w

theorem b_levylaw19_sameBytes (x0 : Sl) (x1 : Sl) (Q : Bool → World → Prop) (w : World) (h : levylaw19_sameBytes x0 x1 Q w) {c : Code} (hb : Try.f15.body = some c) :
 ∀ a, Rep a 10 [(0, Sl.val x0), (1, Sl.val x1)] [] → c.wp Try.prog (bodyPost Try.prog Try.f15 (Rets fun v w => ∃ r0 : Bool, v = (.bool r0 : Value) ∧ Q r0 w)) a w := by
 intro a R
 obtain rfl := Option.some.inj hb
 unfold levylaw19_sameBytes at h
 refine wp_seq ?_
 refine wp_region_lit ?_
 refine oas R rfl rfl fun a R => ?_
 refine wpList_nil ?_
 refine then_normal ?_
 refine wp_seq ?_
 refine wp_region_lit ?_
 refine omv R rfl rfl fun a R => ?_
 obtain ⟨x6_1, w2, cx6_1, h⟩ := h
 refine op_val R (rn_convert R rfl cx6_1) rfl fun a R => ?_
 refine omv R rfl rfl fun a R => ?_
 obtain ⟨x8_3, w4, cx8_3, h⟩ := h
 refine op_val R (rn_convert R rfl cx8_3) rfl fun a R => ?_
 refine op_val R (rn_binS (v := .bool (sEq x6_1 x8_3)) R rfl rfl rfl) rfl fun a R => ?_
 refine oas R rfl rfl fun a R => ?_
 refine wpList_nil ?_
 refine then_normal ?_
 refine wp_ret ?_
 exact post_ret R rfl rfl ⟨(sEq x6_1 x8_3), rfl, h⟩
theorem s_levylaw19_sameBytes (x0 : Sl) (x1 : Sl) (Q : Bool → World → Prop) (w : World) (h : levylaw19_sameBytes x0 x1 Q w) :
    Calls Try.prog 15 #[Sl.val x0, Sl.val x1] w (Rets fun v w => ∃ r0 : Bool, v = (.bool r0 : Value) ∧ Q r0 w) :=
  calls_body (args := [Sl.val x0, Sl.val x1]) Try.func15 rfl rfl (Nat.le_of_ble_eq_true rfl) (L := [(0, Sl.val x0), (1, Sl.val x1)]) (by simp [starts]) (b_levylaw19_sameBytes x0 x1 Q w h rfl)

/-! levylaw19.sameFiles -/

def levylaw19_sameFiles.k5  (Q : Bool → World → Prop) (w : World) : Prop :=
  Q true w

def levylaw19_sameFiles.k10 (x0 : Sl) (x1 : Sl) (z6_5 : Int) (K6 : Int → World → Prop) (y10_54 : Bool) (Q : Bool → World → Prop) (w : World) : Prop :=
  (if y10_54 = true then Q false w else K6 (IntKind.i64.wrap (z6_5 + 1)) w)

def levylaw19_sameFiles.l6 (x0 : Sl) (x1 : Sl) (z6_5 : Int) (Q : Bool → World → Prop) (K6 : Int → World → Prop) (w : World) : Prop :=
  (if (decide (z6_5 < ((x0.len : Nat) : Int))) = true then ix x0.p x0.len z6_5 3 fun x19_14 => ld Value.string (World.drew w) (x19_14.add 0) fun x21_15 => ix x1.p x1.len z6_5 3 fun x24_17 => ld Value.string (World.drew w) (x24_17.add 0) fun x26_18 => (if (sEq x21_15 x26_18) = true then ix x0.p x0.len z6_5 3 fun x31_21 => ld (Value.int .i64) (World.drew w) (x31_21.add 2) fun x33_22 => ix x1.p x1.len z6_5 3 fun x36_24 => ld (Value.int .i64) (World.drew w) (x36_24.add 2) fun x38_25 => (if (x33_22 != x38_25) = true then levylaw19_sameFiles.k10 x0 x1 z6_5 K6 true Q (World.drew w) else ix x0.p x0.len z6_5 3 fun x44_29 => ld Sl.val (World.drew w) (x44_29.add 1) fun x46_30 => ix x1.p x1.len z6_5 3 fun x49_32 => ld Sl.val (World.drew w) (x49_32.add 1) fun x51_33 => levylaw19_sameBytes x46_30 x51_33 (fun x52_34_0 w => levylaw19_sameFiles.k10 x0 x1 z6_5 K6 (!x52_34_0) Q w) (World.drew w)) else levylaw19_sameFiles.k10 x0 x1 z6_5 K6 true Q (World.drew w)) else levylaw19_sameFiles.k5  Q w)

def levylaw19_sameFiles (x0 : Sl) (x1 : Sl) (Q : Bool → World → Prop) (w : World) : Prop :=
  (if (((x0.len : Nat) : Int) != ((x1.len : Nat) : Int)) = true then Q false w else (Fix (σ := Int) (fun Ks s w => levylaw19_sameFiles.l6 x0 x1 s Q (fun z6_5 w => Ks z6_5 w) w) 0 w))

theorem b_levylaw19_sameFiles (x0 : Sl) (x1 : Sl) (Q : Bool → World → Prop) (w : World) (h : levylaw19_sameFiles x0 x1 Q w) {c : Code} (hb : Try.f6.body = some c) :
 ∀ a, Rep a 55 [(0, Sl.val x0), (1, Sl.val x1)] [] → c.wp Try.prog (bodyPost Try.prog Try.f6 (Rets fun v w => ∃ r0 : Bool, v = (.bool r0 : Value) ∧ Q r0 w)) a w := by
 intro a R
 obtain rfl := Option.some.inj hb
 unfold levylaw19_sameFiles at h
 refine wp_seq ?_
 refine wp_region_lit ?_
 refine oas R rfl rfl fun a R => ?_
 refine wpList_nil ?_
 refine then_normal ?_
 refine wp_seq ?_
 refine wp_seq ?_
 refine wp_region_lit ?_
 refine omv R rfl rfl fun a R => ?_
 refine op_val R (rn_len R rfl Try.underlying22) rfl fun a R => ?_
 refine omv R rfl rfl fun a R => ?_
 refine op_val R (rn_len R rfl Try.underlying22) rfl fun a R => ?_
 refine op_val R (rn_bin (v := .bool (((x0.len : Nat) : Int) != ((x1.len : Nat) : Int))) R rfl rfl rfl) rfl fun a R => ?_
 refine wpList_nil ?_
 refine then_normal ?_
 rcases ite_cases h with ⟨g4, h⟩ | ⟨g4, h⟩
 ·refine wp_condT R (congrArg (fun b => some (Value.bool b)) g4) ?_
  refine wp_seq ?_
  refine wp_region_lit ?_
  refine oas R rfl rfl fun a R => ?_
  refine wpList_nil ?_
  refine then_normal ?_
  refine wp_ret ?_
  refine then_ret ?_
  exact post_ret R rfl rfl ⟨false, rfl, h⟩
 ·refine wp_condF R (congrArg (fun b => some (Value.bool b)) g4) ?_
  refine wp_skip ?_
  refine then_normal ?_
  refine seq_join (fun a w => Rep a 55 [] [] ∧ levylaw19_sameFiles.k5  Q w) ?_ ?_
  ·refine wp_seq ?_
   refine wp_region_lit ?_
   refine oas R rfl rfl fun a R => ?_
   refine wpList_nil ?_
   refine then_normal ?_
   refine wp_block ?_
   refine wp_fix (σ := Int) (fun s a => Rep a 55 [(0, Sl.val x0), (1, Sl.val x1), (5, .int .i64 s)] []) h (R.weak ⟨rfl, rfl, rfl, trivial⟩) ?_
   rintro Ks C z6_5 a w hC R h
   have R : Rep a 55 [(0, Sl.val x0), (1, Sl.val x1), (5, .int .i64 z6_5)] [] := R
   have h : levylaw19_sameFiles.l6 x0 x1 z6_5 Q (fun z6_5 w => Ks z6_5 w) w := h
   generalize hK6 : (fun z6_5 w => Ks z6_5 w) = K6 at h
   unfold levylaw19_sameFiles.l6 at h
   refine wp_seq ?_
   refine wp_seq ?_
   refine wp_region_lit ?_
   refine omv R rfl rfl fun a R => ?_
   refine omv R rfl rfl fun a R => ?_
   refine op_val R (rn_len R rfl Try.underlying22) rfl fun a R => ?_
   refine op_val R (rn_bin (v := .bool (decide (z6_5 < ((x0.len : Nat) : Int)))) R rfl rfl rfl) rfl fun a R => ?_
   refine wpList_nil ?_
   refine then_normal ?_
   rcases ite_cases h with ⟨g9, h⟩ | ⟨g9, h⟩
   ·refine wp_condT R (congrArg (fun b => some (Value.bool b)) g9) ?_
    refine wp_skip ?_
    refine then_normal ?_
    refine wp_seq ?_
    refine wp_block ?_
    refine seq_join (fun a w => ∃ y10_54 : Bool, Rep a 55 [(0, Sl.val x0), (1, Sl.val x1), (5, .int .i64 z6_5), (54, .bool y10_54)] [] ∧ levylaw19_sameFiles.k10 x0 x1 z6_5 K6 y10_54 Q w) ?_ ?_
    ·refine region_start mo fun inv => ?_
     refine seg_same (n := 10) (f := 10) (g := 28) (by kernel_rfl) fun inv => ?_
     refine dr_val (i := 0) R (waits_dom (by kernel_rfl) (by kernel_rfl)) (by kernel_rfl) inv rfl (by decide) (by kernel_rfl) (by kernel_rfl) (fun _ _ _ h => h) wanted_none (fun w' hS => rn_mv R rfl) rfl (by decide) fun inv a R => ?_
     refine dr_val (i := 1) R (waits_dom (by kernel_rfl) (by kernel_rfl)) (by kernel_rfl) inv rfl (by decide) (by kernel_rfl) (by kernel_rfl) (fun _ _ _ h => h) wanted_none (fun w' hS => rn_mv R rfl) rfl (by decide) fun inv a R => ?_
     obtain ⟨b13, x19_14, p13, i13, j13, e13, h⟩ := ix_e h
     refine dr_val (v := .pointer (some x19_14)) (i := 2) R (waits_dom (by kernel_rfl) (by kernel_rfl)) (by kernel_rfl) inv rfl (by decide) (by kernel_rfl) (by kernel_rfl) (fun _ _ _ h => h) wanted_none (fun w' hS => by rw [e13]; exact rn_ixs (x := (.tmp 17)) (y := (.tmp 18)) R rfl p13 rfl Try.underlying22 sz74 i13 j13) rfl (by decide) fun inv a R => ?_
     refine dr_val (i := 3) R (waits_dom (by kernel_rfl) (by kernel_rfl)) (by kernel_rfl) inv rfl (by decide) (by kernel_rfl) (by kernel_rfl) (fun _ _ _ h => h) wanted_none (fun w' hS => rn_fld R rfl fd74_0) rfl (by decide) fun inv a R => ?_
     obtain ⟨x21_15, cx21_15, h⟩ := h
     refine dr_val (i := 4) R (waits_dom (by kernel_rfl) (by kernel_rfl)) (by kernel_rfl) inv rfl (by decide) (by kernel_rfl) (by kernel_rfl) (fun _ _ _ h => h) wanted_none (fun w' hS => rn_ld R rfl Try.underlying9 rfl (cell_heap' hS cx21_15)) rfl (by decide) fun inv a R => ?_
     refine dr_val (i := 5) R (waits_dom (by kernel_rfl) (by kernel_rfl)) (by kernel_rfl) inv rfl (by decide) (by kernel_rfl) (by kernel_rfl) (fun _ _ _ h => h) wanted_none (fun w' hS => rn_mv R rfl) rfl (by decide) fun inv a R => ?_
     refine dr_val (i := 6) R (waits_dom (by kernel_rfl) (by kernel_rfl)) (by kernel_rfl) inv rfl (by decide) (by kernel_rfl) (by kernel_rfl) (fun _ _ _ h => h) wanted_none (fun w' hS => rn_mv R rfl) rfl (by decide) fun inv a R => ?_
     obtain ⟨b16, x24_17, p16, i16, j16, e16, h⟩ := ix_e h
     refine dr_val (v := .pointer (some x24_17)) (i := 7) R (waits_dom (by kernel_rfl) (by kernel_rfl)) (by kernel_rfl) inv rfl (by decide) (by kernel_rfl) (by kernel_rfl) (fun _ _ _ h => h) wanted_none (fun w' hS => by rw [e16]; exact rn_ixs (x := (.tmp 22)) (y := (.tmp 23)) R rfl p16 rfl Try.underlying22 sz74 i16 j16) rfl (by decide) fun inv a R => ?_
     refine dr_val (i := 8) R (waits_dom (by kernel_rfl) (by kernel_rfl)) (by kernel_rfl) inv rfl (by decide) (by kernel_rfl) (by kernel_rfl) (fun _ _ _ h => h) wanted_none (fun w' hS => rn_fld R rfl fd74_0) rfl (by decide) fun inv a R => ?_
     obtain ⟨x26_18, cx26_18, h⟩ := h
     refine dr_val (i := 9) R (waits_dom (by kernel_rfl) (by kernel_rfl)) (by kernel_rfl) inv rfl (by decide) (by kernel_rfl) (by kernel_rfl) (fun _ _ _ h => h) wanted_none (fun w' hS => rn_ld R rfl Try.underlying9 rfl (cell_heap' hS cx26_18)) rfl (by decide) fun inv a R => ?_
     refine seg_end (by kernel_rfl) ?_
     refine any_val (i := 10) R rfl (by kernel_rfl) wanted_none (rn_binS (v := .bool (!(sEq x21_15 x26_18))) R rfl rfl rfl) rfl fun a R => ?_
     refine any_val (i := 11) R rfl (by kernel_rfl) wanted_none (rn_mv R rfl) rfl fun a R => ?_
     refine seg_same (n := 22) (f := 10) (g := 16) (by kernel_rfl) fun inv => ?_
     rcases ite_cases h with ⟨g19, h⟩ | ⟨g19, h⟩
     ·refine dr_val (i := 12) R (waits_dom (by kernel_rfl) (by kernel_rfl)) (by kernel_rfl) inv rfl (by decide) (by kernel_rfl) (by kernel_rfl) (fun _ _ _ h => h) (wanted_yes R rfl rfl rfl (nf g19)) (fun w' hS => rn_mv R rfl) rfl (by decide) fun inv a R => ?_
      refine dr_val (i := 13) R (waits_dom (by kernel_rfl) (by kernel_rfl)) (by kernel_rfl) inv rfl (by decide) (by kernel_rfl) (by kernel_rfl) (fun _ _ _ h => h) (wanted_yes R rfl rfl rfl (nf g19)) (fun w' hS => rn_mv R rfl) rfl (by decide) fun inv a R => ?_
      obtain ⟨b20, x31_21, p20, i20, j20, e20, h⟩ := ix_e h
      refine dr_val (v := .pointer (some x31_21)) (i := 14) R (waits_dom (by kernel_rfl) (by kernel_rfl)) (by kernel_rfl) inv rfl (by decide) (by kernel_rfl) (by kernel_rfl) (fun _ _ _ h => h) (wanted_yes R rfl rfl rfl (nf g19)) (fun w' hS => by rw [e20]; exact rn_ixs (x := (.tmp 29)) (y := (.tmp 30)) R rfl p20 rfl Try.underlying22 sz74 i20 j20) rfl (by decide) fun inv a R => ?_
      refine dr_val (i := 15) R (waits_dom (by kernel_rfl) (by kernel_rfl)) (by kernel_rfl) inv rfl (by decide) (by kernel_rfl) (by kernel_rfl) (fun _ _ _ h => h) (wanted_yes R rfl rfl rfl (nf g19)) (fun w' hS => rn_fld R rfl fd74_2) rfl (by decide) fun inv a R => ?_
      obtain ⟨x33_22, cx33_22, h⟩ := h
      refine dr_val (i := 16) R (waits_dom (by kernel_rfl) (by kernel_rfl)) (by kernel_rfl) inv rfl (by decide) (by kernel_rfl) (by kernel_rfl) (fun _ _ _ h => h) (wanted_yes R rfl rfl rfl (nf g19)) (fun w' hS => rn_ld R rfl Try.underlying3 rfl (cell_heap' hS cx33_22)) rfl (by decide) fun inv a R => ?_
      refine dr_val (i := 17) R (waits_dom (by kernel_rfl) (by kernel_rfl)) (by kernel_rfl) inv rfl (by decide) (by kernel_rfl) (by kernel_rfl) (fun _ _ _ h => h) (wanted_yes R rfl rfl rfl (nf g19)) (fun w' hS => rn_mv R rfl) rfl (by decide) fun inv a R => ?_
      refine dr_val (i := 18) R (waits_dom (by kernel_rfl) (by kernel_rfl)) (by kernel_rfl) inv rfl (by decide) (by kernel_rfl) (by kernel_rfl) (fun _ _ _ h => h) (wanted_yes R rfl rfl rfl (nf g19)) (fun w' hS => rn_mv R rfl) rfl (by decide) fun inv a R => ?_
      obtain ⟨b23, x36_24, p23, i23, j23, e23, h⟩ := ix_e h
      refine dr_val (v := .pointer (some x36_24)) (i := 19) R (waits_dom (by kernel_rfl) (by kernel_rfl)) (by kernel_rfl) inv rfl (by decide) (by kernel_rfl) (by kernel_rfl) (fun _ _ _ h => h) (wanted_yes R rfl rfl rfl (nf g19)) (fun w' hS => by rw [e23]; exact rn_ixs (x := (.tmp 34)) (y := (.tmp 35)) R rfl p23 rfl Try.underlying22 sz74 i23 j23) rfl (by decide) fun inv a R => ?_
      refine dr_val (i := 20) R (waits_dom (by kernel_rfl) (by kernel_rfl)) (by kernel_rfl) inv rfl (by decide) (by kernel_rfl) (by kernel_rfl) (fun _ _ _ h => h) (wanted_yes R rfl rfl rfl (nf g19)) (fun w' hS => rn_fld R rfl fd74_2) rfl (by decide) fun inv a R => ?_
      obtain ⟨x38_25, cx38_25, h⟩ := h
      refine dr_val (i := 21) R (waits_dom (by kernel_rfl) (by kernel_rfl)) (by kernel_rfl) inv rfl (by decide) (by kernel_rfl) (by kernel_rfl) (fun _ _ _ h => h) (wanted_yes R rfl rfl rfl (nf g19)) (fun w' hS => rn_ld R rfl Try.underlying3 rfl (cell_heap' hS cx38_25)) rfl (by decide) fun inv a R => ?_
      refine seg_end (by kernel_rfl) ?_
      refine any_val (i := 22) R rfl (by kernel_rfl) (wanted_yes R rfl rfl rfl (nf g19)) (rn_bin (v := .bool (x33_22 != x38_25)) R rfl rfl rfl) rfl fun a R => ?_
      refine any_val (i := 23) R rfl (by kernel_rfl) wanted_none (rn_pickF R rfl (nf g19) rfl) rfl fun a R => ?_
      refine any_val (i := 24) R rfl (by kernel_rfl) wanted_none (rn_mv R rfl) rfl fun a R => ?_
      refine seg_same (n := 35) (f := 10) (g := 3) (by kernel_rfl) fun inv => ?_
      rcases ite_cases h with ⟨g27, h⟩ | ⟨g27, h⟩
      ·refine dr_pass (i := 25) R (waits_dom (by kernel_rfl) (by kernel_rfl)) (by kernel_rfl) inv rfl (by decide) (by kernel_rfl) (by kernel_rfl) (fun _ _ _ h => h) (wanted_no R rfl rfl rfl (nft g27)) rfl rfl fun inv a R => ?_
       refine dr_pass (i := 26) R (waits_dom (by kernel_rfl) (by kernel_rfl)) (by kernel_rfl) inv rfl (by decide) (by kernel_rfl) (by kernel_rfl) (fun _ _ _ h => h) (wanted_no R rfl rfl rfl (nft g27)) rfl rfl fun inv a R => ?_
       refine dr_pass (i := 27) R (waits_dom (by kernel_rfl) (by kernel_rfl)) (by kernel_rfl) inv rfl (by decide) (by kernel_rfl) (by kernel_rfl) (fun _ _ _ h => h) (wanted_no R rfl rfl rfl (nft g27)) rfl rfl fun inv a R => ?_
       refine dr_pass (i := 28) R (waits_dom (by kernel_rfl) (by kernel_rfl)) (by kernel_rfl) inv rfl (by decide) (by kernel_rfl) (by kernel_rfl) (fun _ _ _ h => h) (wanted_no R rfl rfl rfl (nft g27)) rfl rfl fun inv a R => ?_
       refine dr_pass (i := 29) R (waits_dom (by kernel_rfl) (by kernel_rfl)) (by kernel_rfl) inv rfl (by decide) (by kernel_rfl) (by kernel_rfl) (fun _ _ _ h => h) (wanted_no R rfl rfl rfl (nft g27)) rfl rfl fun inv a R => ?_
       refine dr_pass (i := 30) R (waits_dom (by kernel_rfl) (by kernel_rfl)) (by kernel_rfl) inv rfl (by decide) (by kernel_rfl) (by kernel_rfl) (fun _ _ _ h => h) (wanted_no R rfl rfl rfl (nft g27)) rfl rfl fun inv a R => ?_
       refine dr_pass (i := 31) R (waits_dom (by kernel_rfl) (by kernel_rfl)) (by kernel_rfl) inv rfl (by decide) (by kernel_rfl) (by kernel_rfl) (fun _ _ _ h => h) (wanted_no R rfl rfl rfl (nft g27)) rfl rfl fun inv a R => ?_
       refine dr_pass (i := 32) R (waits_dom (by kernel_rfl) (by kernel_rfl)) (by kernel_rfl) inv rfl (by decide) (by kernel_rfl) (by kernel_rfl) (fun _ _ _ h => h) (wanted_no R rfl rfl rfl (nft g27)) rfl rfl fun inv a R => ?_
       refine dr_pass (i := 33) R (waits_dom (by kernel_rfl) (by kernel_rfl)) (by kernel_rfl) inv rfl (by decide) (by kernel_rfl) (by kernel_rfl) (fun _ _ _ h => h) (wanted_no R rfl rfl rfl (nft g27)) rfl rfl fun inv a R => ?_
       refine dr_pass (i := 34) R (waits_dom (by kernel_rfl) (by kernel_rfl)) (by kernel_rfl) inv rfl (by decide) (by kernel_rfl) (by kernel_rfl) (fun _ _ _ h => h) (wanted_no R rfl rfl rfl (nft g27)) rfl rfl fun inv a R => ?_
       refine seg_end (by kernel_rfl) ?_
       refine any_tail 35 (by kernel_rfl) ?_
       refine op_pass R rfl rfl rfl (nft g27) (fun a R => ?_) (by intro s hs; cases hs; rfl)
       refine op_pass R rfl rfl rfl (nft g27) (fun a R => ?_) (by intro s hs; cases hs; rfl)
       refine op_val R (rn_pickT R rfl g27 rfl) rfl fun a R => ?_
       refine wpList_nil ?_
       refine then_normal ?_
       exact ⟨true, R.weak ⟨rfl, rfl, rfl, rfl, trivial⟩, h⟩
      ·refine dr_val (i := 25) R (waits_dom (by kernel_rfl) (by kernel_rfl)) (by kernel_rfl) inv rfl (by decide) (by kernel_rfl) (by kernel_rfl) (fun _ _ _ h => h) (wanted_yes R rfl rfl rfl g27) (fun w' hS => rn_mv R rfl) rfl (by decide) fun inv a R => ?_
       refine dr_val (i := 26) R (waits_dom (by kernel_rfl) (by kernel_rfl)) (by kernel_rfl) inv rfl (by decide) (by kernel_rfl) (by kernel_rfl) (fun _ _ _ h => h) (wanted_yes R rfl rfl rfl g27) (fun w' hS => rn_mv R rfl) rfl (by decide) fun inv a R => ?_
       obtain ⟨b28, x44_29, p28, i28, j28, e28, h⟩ := ix_e h
       refine dr_val (v := .pointer (some x44_29)) (i := 27) R (waits_dom (by kernel_rfl) (by kernel_rfl)) (by kernel_rfl) inv rfl (by decide) (by kernel_rfl) (by kernel_rfl) (fun _ _ _ h => h) (wanted_yes R rfl rfl rfl g27) (fun w' hS => by rw [e28]; exact rn_ixs (x := (.tmp 42)) (y := (.tmp 43)) R rfl p28 rfl Try.underlying22 sz74 i28 j28) rfl (by decide) fun inv a R => ?_
       refine dr_val (i := 28) R (waits_dom (by kernel_rfl) (by kernel_rfl)) (by kernel_rfl) inv rfl (by decide) (by kernel_rfl) (by kernel_rfl) (fun _ _ _ h => h) (wanted_yes R rfl rfl rfl g27) (fun w' hS => rn_fld R rfl fd74_1) rfl (by decide) fun inv a R => ?_
       obtain ⟨x46_30, cx46_30, h⟩ := h
       refine dr_val (i := 29) R (waits_dom (by kernel_rfl) (by kernel_rfl)) (by kernel_rfl) inv rfl (by decide) (by kernel_rfl) (by kernel_rfl) (fun _ _ _ h => h) (wanted_yes R rfl rfl rfl g27) (fun w' hS => rn_ld R rfl Try.underlying34 rfl (cell_heap' hS cx46_30)) rfl (by decide) fun inv a R => ?_
       refine dr_val (i := 30) R (waits_dom (by kernel_rfl) (by kernel_rfl)) (by kernel_rfl) inv rfl (by decide) (by kernel_rfl) (by kernel_rfl) (fun _ _ _ h => h) (wanted_yes R rfl rfl rfl g27) (fun w' hS => rn_mv R rfl) rfl (by decide) fun inv a R => ?_
       refine dr_val (i := 31) R (waits_dom (by kernel_rfl) (by kernel_rfl)) (by kernel_rfl) inv rfl (by decide) (by kernel_rfl) (by kernel_rfl) (fun _ _ _ h => h) (wanted_yes R rfl rfl rfl g27) (fun w' hS => rn_mv R rfl) rfl (by decide) fun inv a R => ?_
       obtain ⟨b31, x49_32, p31, i31, j31, e31, h⟩ := ix_e h
       refine dr_val (v := .pointer (some x49_32)) (i := 32) R (waits_dom (by kernel_rfl) (by kernel_rfl)) (by kernel_rfl) inv rfl (by decide) (by kernel_rfl) (by kernel_rfl) (fun _ _ _ h => h) (wanted_yes R rfl rfl rfl g27) (fun w' hS => by rw [e31]; exact rn_ixs (x := (.tmp 47)) (y := (.tmp 48)) R rfl p31 rfl Try.underlying22 sz74 i31 j31) rfl (by decide) fun inv a R => ?_
       refine dr_val (i := 33) R (waits_dom (by kernel_rfl) (by kernel_rfl)) (by kernel_rfl) inv rfl (by decide) (by kernel_rfl) (by kernel_rfl) (fun _ _ _ h => h) (wanted_yes R rfl rfl rfl g27) (fun w' hS => rn_fld R rfl fd74_1) rfl (by decide) fun inv a R => ?_
       obtain ⟨x51_33, cx51_33, h⟩ := h
       refine dr_val (i := 34) R (waits_dom (by kernel_rfl) (by kernel_rfl)) (by kernel_rfl) inv rfl (by decide) (by kernel_rfl) (by kernel_rfl) (fun _ _ _ h => h) (wanted_yes R rfl rfl rfl g27) (fun w' hS => rn_ld R rfl Try.underlying34 rfl (cell_heap' hS cx51_33)) rfl (by decide) fun inv a R => ?_
       refine seg_end (by kernel_rfl) ?_
       refine any_tail 35 (by kernel_rfl) ?_
       refine op_guard R rfl rfl rfl g27 ?_
       refine op_call R (rn_calls R rfl cf15) rfl ?_
       refine call_mono (s_levylaw19_sameBytes _ _ _ _ h) ?_
       rintro _ w35 ⟨x52_34_0, rfl, h⟩ a R
       refine op_guard R rfl rfl rfl g27 ?_
       refine op_val R (rn_un (v := .bool (!x52_34_0)) R rfl rfl) rfl fun a R => ?_
       refine op_val R (rn_pickF R rfl g27 rfl) rfl fun a R => ?_
       refine wpList_nil ?_
       refine then_normal ?_
       exact ⟨(!x52_34_0), R.weak ⟨rfl, rfl, rfl, rfl, trivial⟩, h⟩
     ·refine dr_pass (i := 12) R (waits_dom (by kernel_rfl) (by kernel_rfl)) (by kernel_rfl) inv rfl (by decide) (by kernel_rfl) (by kernel_rfl) (fun _ _ _ h => h) (wanted_no R rfl rfl rfl (nft (nt g19))) rfl rfl fun inv a R => ?_
      refine dr_pass (i := 13) R (waits_dom (by kernel_rfl) (by kernel_rfl)) (by kernel_rfl) inv rfl (by decide) (by kernel_rfl) (by kernel_rfl) (fun _ _ _ h => h) (wanted_no R rfl rfl rfl (nft (nt g19))) rfl rfl fun inv a R => ?_
      refine dr_pass (i := 14) R (waits_dom (by kernel_rfl) (by kernel_rfl)) (by kernel_rfl) inv rfl (by decide) (by kernel_rfl) (by kernel_rfl) (fun _ _ _ h => h) (wanted_no R rfl rfl rfl (nft (nt g19))) rfl rfl fun inv a R => ?_
      refine dr_pass (i := 15) R (waits_dom (by kernel_rfl) (by kernel_rfl)) (by kernel_rfl) inv rfl (by decide) (by kernel_rfl) (by kernel_rfl) (fun _ _ _ h => h) (wanted_no R rfl rfl rfl (nft (nt g19))) rfl rfl fun inv a R => ?_
      refine dr_pass (i := 16) R (waits_dom (by kernel_rfl) (by kernel_rfl)) (by kernel_rfl) inv rfl (by decide) (by kernel_rfl) (by kernel_rfl) (fun _ _ _ h => h) (wanted_no R rfl rfl rfl (nft (nt g19))) rfl rfl fun inv a R => ?_
      refine dr_pass (i := 17) R (waits_dom (by kernel_rfl) (by kernel_rfl)) (by kernel_rfl) inv rfl (by decide) (by kernel_rfl) (by kernel_rfl) (fun _ _ _ h => h) (wanted_no R rfl rfl rfl (nft (nt g19))) rfl rfl fun inv a R => ?_
      refine dr_pass (i := 18) R (waits_dom (by kernel_rfl) (by kernel_rfl)) (by kernel_rfl) inv rfl (by decide) (by kernel_rfl) (by kernel_rfl) (fun _ _ _ h => h) (wanted_no R rfl rfl rfl (nft (nt g19))) rfl rfl fun inv a R => ?_
      refine dr_pass (i := 19) R (waits_dom (by kernel_rfl) (by kernel_rfl)) (by kernel_rfl) inv rfl (by decide) (by kernel_rfl) (by kernel_rfl) (fun _ _ _ h => h) (wanted_no R rfl rfl rfl (nft (nt g19))) rfl rfl fun inv a R => ?_
      refine dr_pass (i := 20) R (waits_dom (by kernel_rfl) (by kernel_rfl)) (by kernel_rfl) inv rfl (by decide) (by kernel_rfl) (by kernel_rfl) (fun _ _ _ h => h) (wanted_no R rfl rfl rfl (nft (nt g19))) rfl rfl fun inv a R => ?_
      refine dr_pass (i := 21) R (waits_dom (by kernel_rfl) (by kernel_rfl)) (by kernel_rfl) inv rfl (by decide) (by kernel_rfl) (by kernel_rfl) (fun _ _ _ h => h) (wanted_no R rfl rfl rfl (nft (nt g19))) rfl rfl fun inv a R => ?_
      refine seg_end (by kernel_rfl) ?_
      refine any_pass (i := 22) R rfl (by kernel_rfl) (wanted_no R rfl rfl rfl (nft (nt g19))) rfl fun a R => ?_
      refine any_val (i := 23) R rfl (by kernel_rfl) wanted_none (rn_pickT R rfl (nt g19) rfl) rfl fun a R => ?_
      refine any_val (i := 24) R rfl (by kernel_rfl) wanted_none (rn_mv R rfl) rfl fun a R => ?_
      refine seg_same (n := 35) (f := 10) (g := 3) (by kernel_rfl) fun inv => ?_
      refine dr_pass (i := 25) R (waits_dom (by kernel_rfl) (by kernel_rfl)) (by kernel_rfl) inv rfl (by decide) (by kernel_rfl) (by kernel_rfl) (fun _ _ _ h => h) (wanted_no R rfl rfl rfl (nft rfl)) rfl rfl fun inv a R => ?_
      refine dr_pass (i := 26) R (waits_dom (by kernel_rfl) (by kernel_rfl)) (by kernel_rfl) inv rfl (by decide) (by kernel_rfl) (by kernel_rfl) (fun _ _ _ h => h) (wanted_no R rfl rfl rfl (nft rfl)) rfl rfl fun inv a R => ?_
      refine dr_pass (i := 27) R (waits_dom (by kernel_rfl) (by kernel_rfl)) (by kernel_rfl) inv rfl (by decide) (by kernel_rfl) (by kernel_rfl) (fun _ _ _ h => h) (wanted_no R rfl rfl rfl (nft rfl)) rfl rfl fun inv a R => ?_
      refine dr_pass (i := 28) R (waits_dom (by kernel_rfl) (by kernel_rfl)) (by kernel_rfl) inv rfl (by decide) (by kernel_rfl) (by kernel_rfl) (fun _ _ _ h => h) (wanted_no R rfl rfl rfl (nft rfl)) rfl rfl fun inv a R => ?_
      refine dr_pass (i := 29) R (waits_dom (by kernel_rfl) (by kernel_rfl)) (by kernel_rfl) inv rfl (by decide) (by kernel_rfl) (by kernel_rfl) (fun _ _ _ h => h) (wanted_no R rfl rfl rfl (nft rfl)) rfl rfl fun inv a R => ?_
      refine dr_pass (i := 30) R (waits_dom (by kernel_rfl) (by kernel_rfl)) (by kernel_rfl) inv rfl (by decide) (by kernel_rfl) (by kernel_rfl) (fun _ _ _ h => h) (wanted_no R rfl rfl rfl (nft rfl)) rfl rfl fun inv a R => ?_
      refine dr_pass (i := 31) R (waits_dom (by kernel_rfl) (by kernel_rfl)) (by kernel_rfl) inv rfl (by decide) (by kernel_rfl) (by kernel_rfl) (fun _ _ _ h => h) (wanted_no R rfl rfl rfl (nft rfl)) rfl rfl fun inv a R => ?_
      refine dr_pass (i := 32) R (waits_dom (by kernel_rfl) (by kernel_rfl)) (by kernel_rfl) inv rfl (by decide) (by kernel_rfl) (by kernel_rfl) (fun _ _ _ h => h) (wanted_no R rfl rfl rfl (nft rfl)) rfl rfl fun inv a R => ?_
      refine dr_pass (i := 33) R (waits_dom (by kernel_rfl) (by kernel_rfl)) (by kernel_rfl) inv rfl (by decide) (by kernel_rfl) (by kernel_rfl) (fun _ _ _ h => h) (wanted_no R rfl rfl rfl (nft rfl)) rfl rfl fun inv a R => ?_
      refine dr_pass (i := 34) R (waits_dom (by kernel_rfl) (by kernel_rfl)) (by kernel_rfl) inv rfl (by decide) (by kernel_rfl) (by kernel_rfl) (fun _ _ _ h => h) (wanted_no R rfl rfl rfl (nft rfl)) rfl rfl fun inv a R => ?_
      refine seg_end (by kernel_rfl) ?_
      refine any_tail 35 (by kernel_rfl) ?_
      refine op_pass R rfl rfl rfl (nft rfl) (fun a R => ?_) (by intro s hs; cases hs; rfl)
      refine op_pass R rfl rfl rfl (nft rfl) (fun a R => ?_) (by intro s hs; cases hs; rfl)
      refine op_val R (rn_pickT R rfl rfl rfl) rfl fun a R => ?_
      refine wpList_nil ?_
      refine then_normal ?_
      exact ⟨true, R.weak ⟨rfl, rfl, rfl, rfl, trivial⟩, h⟩
    ·rintro a w ⟨y10_54, R, h⟩
     unfold levylaw19_sameFiles.k10 at h
     rcases ite_cases h with ⟨g11, h⟩ | ⟨g11, h⟩
     ·refine wp_condT R (congrArg (fun b => some (Value.bool b)) g11) ?_
      refine wp_seq ?_
      refine wp_region_lit ?_
      refine oas R rfl rfl fun a R => ?_
      refine wpList_nil ?_
      refine then_normal ?_
      refine wp_ret ?_
      refine block_ret ?_
      refine then_ret ?_
      refine then_ret ?_
      refine block_ret ?_
      refine then_ret ?_
      exact post_ret R rfl rfl ⟨false, rfl, h⟩
     ·refine wp_condF R (congrArg (fun b => some (Value.bool b)) g11) ?_
      refine wp_skip ?_
      refine block_normal ?_
      refine then_normal ?_
      refine wp_region_lit ?_
      refine omv R rfl rfl fun a R => ?_
      refine op_val R (rn_bin (v := .int .i64 (IntKind.i64.wrap (z6_5 + 1))) R rfl rfl rfl) rfl fun a R => ?_
      refine oas R rfl rfl fun a R => ?_
      refine wpList_nil ?_
      refine then_normal ?_
      exact hC (IntKind.i64.wrap (z6_5 + 1)) _ _ (R.weak ⟨rfl, rfl, rfl, trivial⟩) (by rw [← hK6] at h; exact h)
   ·refine wp_condF R (congrArg (fun b => some (Value.bool b)) g9) ?_
    refine wp_exit ?_
    refine then_exit ?_
    refine then_exit ?_
    refine block_eq ?_
    refine then_normal ?_
    exact ⟨R.weak trivial, h⟩
  ·rintro a w ⟨R, h⟩
   unfold levylaw19_sameFiles.k5 at h
   refine wp_seq ?_
   refine wp_region_lit ?_
   refine oas R rfl rfl fun a R => ?_
   refine wpList_nil ?_
   refine then_normal ?_
   refine wp_ret ?_
   exact post_ret R rfl rfl ⟨true, rfl, h⟩
theorem s_levylaw19_sameFiles (x0 : Sl) (x1 : Sl) (Q : Bool → World → Prop) (w : World) (h : levylaw19_sameFiles x0 x1 Q w) :
    Calls Try.prog 6 #[Sl.val x0, Sl.val x1] w (Rets fun v w => ∃ r0 : Bool, v = (.bool r0 : Value) ∧ Q r0 w) :=
  calls_body (args := [Sl.val x0, Sl.val x1]) Try.func6 rfl rfl (Nat.le_of_ble_eq_true rfl) (L := [(0, Sl.val x0), (1, Sl.val x1)]) (by simp [starts]) (b_levylaw19_sameFiles x0 x1 Q w h rfl)

/-! (drawer.Disk).names -/

def drawer_Disk_names.k1 (y1_3 : Sl) (Q : Sl → World → Prop) (w : World) : Prop :=
  Calls Try.prog 73 #[Sl.val y1_3] w (Rets fun v w => v = (.tuple #[] : Value) ∧ Q y1_3 w)

def drawer_Disk_names.l8 (x9_6a : Addr) (z8_3 : Sl) (Q : Sl → World → Prop) (K8 : Sl → World → Prop) (w : World) : Prop :=
  nx Try.prog x9_6a w fun x10_9 w => (if x10_9 = true then en Try.prog Value.string Value.pointer x9_6a w fun x12_12k x12_12v => al w (.cells #[.string x12_12k] 9) fun x16_13 w => rn Try.prog Sl.val (Builtin.append_ #[91, 91] 91 [Sl.val z8_3, .slice (some x16_13) 1 1].toArray) w fun x17_16 w => K8 x17_16 w else drawer_Disk_names.k1 z8_3 Q w)

def drawer_Disk_names (x0 : Option Addr) (Q : Sl → World → Prop) (w : World) : Prop :=
  nn x0 fun x6_4 => ld Value.map w (x6_4.add 0) fun x8_5 => rn Try.prog (fun z => Value.pointer (some z)) (Instr.range 94 (.map x8_5)) w fun x9_6a w => (Fix (σ := Sl) (fun Ks s w => drawer_Disk_names.l8 x9_6a s Q (fun z8_3 w => Ks z8_3 w) w) (Sl.mk none 0 0) w)

theorem b_drawer_Disk_names (x0 : Option Addr) (Q : Sl → World → Prop) (w : World) (h : drawer_Disk_names x0 Q w) {c : Code} (hb : Try.f34.body = some c) :
 ∀ a, Rep a 21 [(0, .pointer x0)] [] → c.wp Try.prog (bodyPost Try.prog Try.f34 (Rets fun v w => ∃ r0 : Sl, v = (Sl.val r0 : Value) ∧ Q r0 w)) a w := by
 intro a R
 obtain rfl := Option.some.inj hb
 unfold drawer_Disk_names at h
 refine wp_seq ?_
 refine wp_region_lit ?_
 refine oas R rfl rfl fun a R => ?_
 refine wpList_nil ?_
 refine then_normal ?_
 refine wp_seq ?_
 refine wp_region_lit ?_
 refine oas R rfl rfl fun a R => ?_
 refine wpList_nil ?_
 refine then_normal ?_
 refine seq_join (fun a w => ∃ y1_3 : Sl, Rep a 21 [(3, Sl.val y1_3)] [] ∧ drawer_Disk_names.k1 y1_3 Q w) ?_ ?_
 ·refine wp_seq ?_
  refine wp_region_lit ?_
  refine omv R rfl rfl fun a R => ?_
  obtain ⟨x6_4, cx6_4, h⟩ := h
  refine onl R rfl cx6_4 rfl fun a R => ?_
  refine ofd R rfl fd96_0 rfl fun a R => ?_
  obtain ⟨x8_5, cx8_5, h⟩ := h
  refine old R rfl Try.underlying94 rfl cx8_5 rfl fun a R => ?_
  obtain ⟨x9_6a, w7, cx9_6, h⟩ := h
  refine op_val R (rn_range R rfl cx9_6) rfl fun a R => ?_
  refine wpList_nil ?_
  refine then_normal ?_
  refine wp_block ?_
  refine wp_fix (σ := Sl) (fun s a => Rep a 21 [(3, Sl.val s), (9, .pointer (some x9_6a))] []) h (R.weak ⟨rfl, rfl, trivial⟩) ?_
  rintro Ks C z8_3 a w hC R h
  have R : Rep a 21 [(3, Sl.val z8_3), (9, .pointer (some x9_6a))] [] := R
  have h : drawer_Disk_names.l8 x9_6a z8_3 Q (fun z8_3 w => Ks z8_3 w) w := h
  generalize hK8 : (fun z8_3 w => Ks z8_3 w) = K8 at h
  unfold drawer_Disk_names.l8 at h
  refine wp_seq ?_
  refine wp_region_lit ?_
  obtain ⟨x10_9, vx10_9, w10, cx10_9, h⟩ := h
  refine op_val R (rn_next R rfl cx10_9) rfl fun a R => ?_
  refine op_val R (rn_ext R rfl rfl) rfl fun a R => ?_
  refine wpList_nil ?_
  refine then_normal ?_
  refine wp_seq ?_
  rcases ite_cases h with ⟨g11, h⟩ | ⟨g11, h⟩
  ·refine wp_condT R (congrArg (fun b => some (Value.bool b)) g11) ?_
   refine wp_skip ?_
   refine then_normal ?_
   refine wp_block ?_
   refine wp_seq ?_
   refine wp_region_lit ?_
   obtain ⟨x12_12k, x12_12v, cx12_12, h⟩ := h
   refine op_val R (rn_entry R rfl cx12_12) rfl fun a R => ?_
   refine op_val R (rn_ext R rfl rfl) rfl fun a R => ?_
   refine oas R rfl rfl fun a R => ?_
   refine wpList_nil ?_
   refine then_normal ?_
   refine wp_region_lit ?_
   refine omv R rfl rfl fun a R => ?_
   refine omv R rfl rfl fun a R => ?_
   obtain ⟨x16_13, e14, h⟩ := al_e h
   refine op_val (v := .slice (some x16_13) 1 1) R (by rw [e14]; exact rn_buildSlice (t := 91) (len := 1) (xs := [(0, (.tmp 15))]) (cells := #[.string x12_12k]) (e := 9) R rfl (fun w => by kernel_rfl)) rfl fun a R => ?_
   obtain ⟨x17_16, w15, cx17_16, h⟩ := h
   refine op_val R (rn_bi (vs := [Sl.val z8_3, .slice (some x16_13) 1 1]) R rfl (fun _ => rfl) cx17_16) rfl fun a R => ?_
   refine oas R rfl rfl fun a R => ?_
   refine wpList_nil ?_
   refine block_normal ?_
   refine then_normal ?_
   exact hC x17_16 _ _ (R.weak ⟨rfl, rfl, trivial⟩) (by rw [← hK8] at h; exact h)
  ·refine wp_condF R (congrArg (fun b => some (Value.bool b)) g11) ?_
   refine wp_exit ?_
   refine then_exit ?_
   refine then_exit ?_
   refine block_eq ?_
   refine then_normal ?_
   exact ⟨z8_3, R.weak ⟨rfl, trivial⟩, h⟩
 ·rintro a w ⟨y1_3, R, h⟩
  unfold drawer_Disk_names.k1 at h
  refine wp_seq ?_
  refine wp_region_lit ?_
  refine omv R rfl rfl fun a R => ?_
  refine op_call R (rn_calls R rfl cf73) rfl ?_
  refine call_mono (h) ?_
  rintro _ w3 ⟨rfl, h⟩ a R
  refine wpList_nil ?_
  refine then_normal ?_
  refine wp_seq ?_
  refine wp_region_lit ?_
  refine omv R rfl rfl fun a R => ?_
  refine oas R rfl rfl fun a R => ?_
  refine wpList_nil ?_
  refine then_normal ?_
  refine wp_ret ?_
  exact post_ret R rfl rfl ⟨y1_3, rfl, h⟩
theorem s_drawer_Disk_names (x0 : Option Addr) (Q : Sl → World → Prop) (w : World) (h : drawer_Disk_names x0 Q w) :
    Calls Try.prog 34 #[.pointer x0] w (Rets fun v w => ∃ r0 : Sl, v = (Sl.val r0 : Value) ∧ Q r0 w) :=
  calls_body (args := [.pointer x0]) Try.func34 rfl rfl (Nat.le_of_ble_eq_true rfl) (L := [(0, .pointer x0)]) (by simp [starts]) (b_drawer_Disk_names x0 Q w h rfl)

/-! slices.Clone[[]byte,byte] -/

def slices_Clone_byte_byte (x0 : Sl) (Q : Sl → World → Prop) (w : World) : Prop :=
  (if (Option.isNone x0.p) = true then Q (Sl.mk none 0 0) w else al w (.cells #[] 5) fun x5_2 w => rn Try.prog Sl.val (Builtin.append_ #[34, 34] 34 [.slice (some x5_2) 0 0, Sl.val x0].toArray) w fun x7_5 w => Q x7_5 w)

theorem b_slices_Clone_byte_byte (x0 : Sl) (Q : Sl → World → Prop) (w : World) (h : slices_Clone_byte_byte x0 Q w) {c : Code} (hb : Try.f35.body = some c) :
 ∀ a, Rep a 8 [(0, Sl.val x0)] [] → c.wp Try.prog (bodyPost Try.prog Try.f35 (Rets fun v w => ∃ r0 : Sl, v = (Sl.val r0 : Value) ∧ Q r0 w)) a w := by
 intro a R
 obtain rfl := Option.some.inj hb
 unfold slices_Clone_byte_byte at h
 refine wp_seq ?_
 refine wp_region_lit ?_
 refine oas R rfl rfl fun a R => ?_
 refine wpList_nil ?_
 refine then_normal ?_
 refine wp_seq ?_
 refine wp_seq ?_
 refine wp_region_lit ?_
 refine omv R rfl rfl fun a R => ?_
 refine op_val R (rn_nilSE R rfl rfl Try.underlying34) rfl fun a R => ?_
 refine wpList_nil ?_
 refine then_normal ?_
 rcases ite_cases h with ⟨g1, h⟩ | ⟨g1, h⟩
 ·refine wp_condT R (congrArg (fun b => some (Value.bool b)) g1) ?_
  refine wp_seq ?_
  refine wp_region_lit ?_
  refine oas R rfl rfl fun a R => ?_
  refine wpList_nil ?_
  refine then_normal ?_
  refine wp_ret ?_
  refine then_ret ?_
  exact post_ret R rfl rfl ⟨(Sl.mk none 0 0), rfl, h⟩
 ·refine wp_condF R (congrArg (fun b => some (Value.bool b)) g1) ?_
  refine wp_skip ?_
  refine then_normal ?_
  refine wp_seq ?_
  refine wp_region_lit ?_
  obtain ⟨x5_2, e3, h⟩ := al_e h
  refine op_val (v := .slice (some x5_2) 0 0) R (by rw [e3]; exact rn_buildSlice (t := 34) (len := 0) (xs := []) (cells := #[]) (e := 5) R rfl (fun w => by kernel_rfl)) rfl fun a R => ?_
  refine omv R rfl rfl fun a R => ?_
  obtain ⟨x7_5, w4, cx7_5, h⟩ := h
  refine op_val R (rn_bi (vs := [.slice (some x5_2) 0 0, Sl.val x0]) R rfl (fun _ => rfl) cx7_5) rfl fun a R => ?_
  refine oas R rfl rfl fun a R => ?_
  refine wpList_nil ?_
  refine then_normal ?_
  refine wp_ret ?_
  exact post_ret R rfl rfl ⟨x7_5, rfl, h⟩
theorem s_slices_Clone_byte_byte (x0 : Sl) (Q : Sl → World → Prop) (w : World) (h : slices_Clone_byte_byte x0 Q w) :
    Calls Try.prog 35 #[Sl.val x0] w (Rets fun v w => ∃ r0 : Sl, v = (Sl.val r0 : Value) ∧ Q r0 w) :=
  calls_body (args := [Sl.val x0]) Try.func35 rfl rfl (Nat.le_of_ble_eq_true rfl) (L := [(0, Sl.val x0)]) (by simp [starts]) (b_slices_Clone_byte_byte x0 Q w h rfl)

/-! (drawer.Disk).Files -/

def drawer_Disk_Files.k1 (y1_3 : Sl) (Q : Sl → World → Prop) (w : World) : Prop :=
  Q y1_3 w

def drawer_Disk_Files.l4 (x0 : Option Addr) (x8_2_0 : Sl) (z4_3 : Sl) (z4_10 : Int) (Q : Sl → World → Prop) (K4 : Sl → Int → World → Prop) (w : World) : Prop :=
  (if (decide (z4_10 < ((x8_2_0.len : Nat) : Int))) = true then ix x8_2_0.p x8_2_0.len z4_10 1 fun x12_8 => ld Value.string w x12_8 fun x13_9 => nn x0 fun x15_10 => ld Value.map w (x15_10.add 0) fun x17_11 => rn Try.prog Value.pointer (Instr.lookup 94 (.map x17_11) (.string x13_9) false) w fun x19_12 w => nn x19_12 fun x23_14 => ld Sl.val (World.drew w) (x23_14.add 0) fun x25_15 => nn x19_12 fun x28_16 => ld (Value.int .i64) (World.drew w) (x28_16.add 1) fun x30_17 => slices_Clone_byte_byte x25_15 (fun x26_18_0 w => ((World.cell? w (x23_14.add 0) = some (Sl.val x25_15) ∧ World.cell? w (x28_16.add 1) = some (.int .i64 x30_17) ∧ True) ∧ al w (.cells #[.string x13_9, Sl.val x26_18_0, .int .i64 x30_17] 74) fun x32_19 w => ((World.cell? w (x23_14.add 0) = some (Sl.val x25_15) ∧ World.cell? w (x28_16.add 1) = some (.int .i64 x30_17) ∧ True) ∧ rn Try.prog Sl.val (Builtin.append_ #[22, 22] 22 [Sl.val z4_3, .slice (some x32_19) 1 1].toArray) w fun x33_22 w => K4 x33_22 (IntKind.i64.wrap (z4_10 + 1)) w))) (World.drew w) else drawer_Disk_Files.k1 z4_3 Q w)

def drawer_Disk_Files (x0 : Option Addr) (Q : Sl → World → Prop) (w : World) : Prop :=
  drawer_Disk_names x0 (fun x8_2_0 w => (Fix (σ := Sl × Int) (fun Ks s w => drawer_Disk_Files.l4 x0 x8_2_0 s.1 s.2 Q (fun z4_3 z4_10 w => Ks (z4_3, z4_10) w) w) ((Sl.mk none 0 0), 0) w)) w

theorem b_drawer_Disk_Files (x0 : Option Addr) (Q : Sl → World → Prop) (w : World) (h : drawer_Disk_Files x0 Q w) {c : Code} (hb : Try.f7.body = some c) :
 ∀ a, Rep a 36 [(0, .pointer x0)] [] → c.wp Try.prog (bodyPost Try.prog Try.f7 (Rets fun v w => ∃ r0 : Sl, v = (Sl.val r0 : Value) ∧ Q r0 w)) a w := by
 intro a R
 obtain rfl := Option.some.inj hb
 unfold drawer_Disk_Files at h
 refine wp_seq ?_
 refine wp_region_lit ?_
 refine oas R rfl rfl fun a R => ?_
 refine wpList_nil ?_
 refine then_normal ?_
 refine wp_seq ?_
 refine wp_region_lit ?_
 refine oas R rfl rfl fun a R => ?_
 refine wpList_nil ?_
 refine then_normal ?_
 refine seq_join (fun a w => ∃ y1_3 : Sl, Rep a 36 [(3, Sl.val y1_3)] [] ∧ drawer_Disk_Files.k1 y1_3 Q w) ?_ ?_
 ·refine wp_seq ?_
  refine wp_region_lit ?_
  refine omv R rfl rfl fun a R => ?_
  refine op_call R (rn_calls R rfl cf34) rfl ?_
  refine call_mono (s_drawer_Disk_names _ _ _ h) ?_
  rintro _ w25 ⟨x8_2_0, rfl, h⟩ a R
  refine op_val R (rn_len R rfl Try.underlying91) rfl fun a R => ?_
  refine omv R rfl rfl fun a R => ?_
  refine wpList_nil ?_
  refine then_normal ?_
  refine wp_block ?_
  refine wp_fix (σ := Sl × Int) (fun s a => Rep a 36 [(0, .pointer x0), (3, Sl.val s.1), (8, Sl.val x8_2_0), (9, .int .i64 ((x8_2_0.len : Nat) : Int)), (10, .int .i64 s.2)] []) h (R.weak ⟨rfl, rfl, rfl, rfl, rfl, trivial⟩) ?_
  rintro Ks C ⟨z4_3, z4_10⟩ a w hC R h
  have R : Rep a 36 [(0, .pointer x0), (3, Sl.val z4_3), (8, Sl.val x8_2_0), (9, .int .i64 ((x8_2_0.len : Nat) : Int)), (10, .int .i64 z4_10)] [] := R
  have h : drawer_Disk_Files.l4 x0 x8_2_0 z4_3 z4_10 Q (fun z4_3 z4_10 w => Ks (z4_3, z4_10) w) w := h
  generalize hK4 : (fun z4_3 z4_10 w => Ks (z4_3, z4_10) w) = K4 at h
  unfold drawer_Disk_Files.l4 at h
  refine wp_seq ?_
  refine wp_region_lit ?_
  refine op_val R (rn_bin (v := .bool (decide (z4_10 < ((x8_2_0.len : Nat) : Int)))) R rfl rfl rfl) rfl fun a R => ?_
  refine wpList_nil ?_
  refine then_normal ?_
  refine wp_seq ?_
  rcases ite_cases h with ⟨g6, h⟩ | ⟨g6, h⟩
  ·refine wp_condT R (congrArg (fun b => some (Value.bool b)) g6) ?_
   refine wp_skip ?_
   refine then_normal ?_
   refine wp_seq ?_
   refine wp_block ?_
   refine wp_seq ?_
   refine wp_region_lit ?_
   obtain ⟨b7, x12_8, p7, i7, j7, e7, h⟩ := ix_e h
   refine op_val (v := .pointer (some x12_8)) R (by rw [e7]; exact rn_ixs (x := (.tmp 8)) (y := (.tmp 10)) R rfl p7 rfl Try.underlying91 sz9 i7 j7) rfl fun a R => ?_
   obtain ⟨x13_9, cx13_9, h⟩ := h
   refine old R rfl Try.underlying9 rfl cx13_9 rfl fun a R => ?_
   refine oas R rfl rfl fun a R => ?_
   refine wpList_nil ?_
   refine then_normal ?_
   refine wp_seq ?_
   refine wp_region_lit ?_
   refine omv R rfl rfl fun a R => ?_
   obtain ⟨x15_10, cx15_10, h⟩ := h
   refine onl R rfl cx15_10 rfl fun a R => ?_
   refine ofd R rfl fd96_0 rfl fun a R => ?_
   obtain ⟨x17_11, cx17_11, h⟩ := h
   refine old R rfl Try.underlying94 rfl cx17_11 rfl fun a R => ?_
   refine omv R rfl rfl fun a R => ?_
   obtain ⟨x19_12, w13, cx19_12, h⟩ := h
   refine op_val R (rn_lookup R rfl rfl cx19_12) rfl fun a R => ?_
   refine oas R rfl rfl fun a R => ?_
   refine wpList_nil ?_
   refine then_normal ?_
   refine region_start mo fun inv => ?_
   obtain ⟨x23_14, cx23_14, h⟩ := h
   obtain ⟨x25_15, cx25_15, h⟩ := h
   obtain ⟨x28_16, cx28_16, h⟩ := h
   obtain ⟨x30_17, cx30_17, h⟩ := h
   refine seg_held (n := 13) (f := 13) (g := 2) (fun w : World => w.cell? (x23_14.add 0) = some (Sl.val x25_15) ∧ w.cell? (x28_16.add 1) = some (.int .i64 x30_17) ∧ True) (by kernel_rfl) fun inv => ?_
   have hS0 : (fun w : World => w.cell? (x23_14.add 0) = some (Sl.val x25_15) ∧ w.cell? (x28_16.add 1) = some (.int .i64 x30_17) ∧ True) _ := ⟨cx25_15, cx30_17, trivial⟩
   refine dr_val (i := 0) R (waits_dom (by kernel_rfl) (by kernel_rfl)) (by kernel_rfl) inv rfl (by decide) (by kernel_rfl) (by kernel_rfl) (fun _ _ _ h => h) wanted_none (fun w' hS => rn_mv R rfl) hS0 rfl fun inv a R => ?_
   refine dr_val (i := 1) R (waits_dom (by kernel_rfl) (by kernel_rfl)) (by kernel_rfl) inv rfl (by decide) (by kernel_rfl) (by kernel_rfl) (fun _ _ _ h => h) wanted_none (fun w' hS => rn_mv R rfl) hS0 rfl fun inv a R => ?_
   refine dr_val (i := 2) R (waits_dom (by kernel_rfl) (by kernel_rfl)) (by kernel_rfl) inv rfl (by decide) (by kernel_rfl) (by kernel_rfl) (fun _ _ _ h => h) wanted_none (fun w' hS => rn_mv R rfl) hS0 rfl fun inv a R => ?_
   refine dr_val (i := 3) R (waits_dom (by kernel_rfl) (by kernel_rfl)) (by kernel_rfl) inv rfl (by decide) (by kernel_rfl) (by kernel_rfl) (fun _ _ _ h => h) wanted_none (fun w' hS => rn_nil R rfl cx23_14) hS0 rfl fun inv a R => ?_
   refine dr_val (i := 4) R (waits_dom (by kernel_rfl) (by kernel_rfl)) (by kernel_rfl) inv rfl (by decide) (by kernel_rfl) (by kernel_rfl) (fun _ _ _ h => h) wanted_none (fun w' hS => rn_fld R rfl fd98_0) hS0 rfl fun inv a R => ?_
   refine dr_val (i := 5) R (waits_dom (by kernel_rfl) (by kernel_rfl)) (by kernel_rfl) inv rfl (by decide) (by kernel_rfl) (by kernel_rfl) (fun _ _ _ h => h) wanted_none (fun w' hS => rn_ld R rfl Try.underlying34 rfl (hS.1)) hS0 rfl fun inv a R => ?_
   refine dr_val (i := 7) R (waits_dom (by kernel_rfl) (by kernel_rfl)) (by kernel_rfl) inv rfl (by decide) (by kernel_rfl) (by kernel_rfl) (fun _ _ _ h => h) wanted_none (fun w' hS => rn_mv R rfl) hS0 rfl fun inv a R => ?_
   refine dr_val (i := 8) R (waits_dom (by kernel_rfl) (by kernel_rfl)) (by kernel_rfl) inv rfl (by decide) (by kernel_rfl) (by kernel_rfl) (fun _ _ _ h => h) wanted_none (fun w' hS => rn_nil R rfl cx28_16) hS0 rfl fun inv a R => ?_
   refine dr_val (i := 9) R (waits_dom (by kernel_rfl) (by kernel_rfl)) (by kernel_rfl) inv rfl (by decide) (by kernel_rfl) (by kernel_rfl) (fun _ _ _ h => h) wanted_none (fun w' hS => rn_fld R rfl fd98_1) hS0 rfl fun inv a R => ?_
   refine dr_val (i := 10) R (waits_dom (by kernel_rfl) (by kernel_rfl)) (by kernel_rfl) inv rfl (by decide) (by kernel_rfl) (by kernel_rfl) (fun _ _ _ h => h) wanted_none (fun w' hS => rn_ld R rfl Try.underlying3 rfl (hS.2.1)) hS0 rfl fun inv a R => ?_
   refine dr_call (i := 6) R inv rfl (by decide) (by kernel_rfl) wanted_none (rn_calls R rfl cf35) rfl ?_
   refine call_mono (s_slices_Clone_byte_byte _ _ _ h) ?_
   rintro _ w24 ⟨x26_18_0, rfl, hS0, h⟩
   refine ⟨hS0, fun a inv R => ?_⟩
   refine dr_val (i := 11) R (waits_dom (by kernel_rfl) (by kernel_rfl)) (by kernel_rfl) inv rfl (by decide) (by kernel_rfl) (by kernel_rfl) (fun _ _ _ h => h) wanted_none (fun w' hS => rn_build (r := .agg #[.string x13_9, Sl.val x26_18_0, .int .i64 x30_17]) R rfl (fun w => by kernel_rfl)) hS0 rfl fun inv a R => ?_
   obtain ⟨x32_19, e20, h⟩ := al_e h
   obtain ⟨hS0, h⟩ := h
   refine dr_run (v := .slice (some x32_19) 1 1) (i := 12) R inv rfl (by decide) (by kernel_rfl) wanted_none (by rw [e20]; exact rn_buildSlice (t := 22) (len := 1) (xs := [(0, (.tmp 31))]) (cells := #[.string x13_9, Sl.val x26_18_0, .int .i64 x30_17]) (e := 74) R rfl (fun w => by kernel_rfl)) hS0 rfl fun inv a R => ?_
   refine seg_end (by kernel_rfl) ?_
   refine any_tail 13 (by kernel_rfl) ?_
   obtain ⟨x33_22, w21, cx33_22, h⟩ := h
   refine op_val R (rn_bi (vs := [Sl.val z4_3, .slice (some x32_19) 1 1]) R rfl (fun _ => rfl) cx33_22) rfl fun a R => ?_
   refine oas R rfl rfl fun a R => ?_
   refine wpList_nil ?_
   refine block_normal ?_
   refine then_normal ?_
   refine wp_region_lit ?_
   refine op_val R (rn_bin (v := .int .i64 (IntKind.i64.wrap (z4_10 + 1))) R rfl rfl rfl) rfl fun a R => ?_
   refine omv R rfl rfl fun a R => ?_
   refine wpList_nil ?_
   refine then_normal ?_
   exact hC (x33_22, (IntKind.i64.wrap (z4_10 + 1))) _ _ (R.weak ⟨rfl, rfl, rfl, rfl, rfl, trivial⟩) (by rw [← hK4] at h; exact h)
  ·refine wp_condF R (congrArg (fun b => some (Value.bool b)) g6) ?_
   refine wp_exit ?_
   refine then_exit ?_
   refine then_exit ?_
   refine block_eq ?_
   refine then_normal ?_
   exact ⟨z4_3, R.weak ⟨rfl, trivial⟩, h⟩
 ·rintro a w ⟨y1_3, R, h⟩
  unfold drawer_Disk_Files.k1 at h
  refine wp_seq ?_
  refine wp_region_lit ?_
  refine omv R rfl rfl fun a R => ?_
  refine oas R rfl rfl fun a R => ?_
  refine wpList_nil ?_
  refine then_normal ?_
  refine wp_ret ?_
  exact post_ret R rfl rfl ⟨y1_3, rfl, h⟩
theorem s_drawer_Disk_Files (x0 : Option Addr) (Q : Sl → World → Prop) (w : World) (h : drawer_Disk_Files x0 Q w) :
    Calls Try.prog 7 #[.pointer x0] w (Rets fun v w => ∃ r0 : Sl, v = (Sl.val r0 : Value) ∧ Q r0 w) :=
  calls_body (args := [.pointer x0]) Try.func7 rfl rfl (Nat.le_of_ble_eq_true rfl) (L := [(0, .pointer x0)]) (by simp [starts]) (b_drawer_Disk_Files x0 Q w h rfl)

/-! levyref19.copied -/

def levyref19_copied (x0 : Sl) (Q : Sl → World → Prop) (w : World) : Prop :=
  rn Try.prog Sl.val (Instr.makeSlice 34 (.int .i64 0) (.int .i64 ((x0.len : Nat) : Int))) w fun x6_2 w => rn Try.prog Sl.val (Builtin.append_ #[34, 34] 34 [Sl.val x6_2, Sl.val x0].toArray) w fun x9_5 w => Q x9_5 w

theorem b_levyref19_copied (x0 : Sl) (Q : Sl → World → Prop) (w : World) (h : levyref19_copied x0 Q w) {c : Code} (hb : Try.f36.body = some c) :
 ∀ a, Rep a 11 [(0, Sl.val x0)] [] → c.wp Try.prog (bodyPost Try.prog Try.f36 (Rets fun v w => ∃ r0 : Sl, v = (Sl.val r0 : Value) ∧ Q r0 w)) a w := by
 intro a R
 obtain rfl := Option.some.inj hb
 unfold levyref19_copied at h
 refine wp_seq ?_
 refine wp_region_lit ?_
 refine oas R rfl rfl fun a R => ?_
 refine wpList_nil ?_
 refine then_normal ?_
 refine wp_seq ?_
 refine wp_region_lit ?_
 refine omv R rfl rfl fun a R => ?_
 refine op_val R (rn_len R rfl Try.underlying34) rfl fun a R => ?_
 obtain ⟨x6_2, w3, cx6_2, h⟩ := h
 refine op_val R (rn_makeSlice R rfl rfl cx6_2) rfl fun a R => ?_
 refine oas R rfl rfl fun a R => ?_
 refine wpList_nil ?_
 refine then_normal ?_
 refine wp_seq ?_
 refine wp_region_lit ?_
 refine omv R rfl rfl fun a R => ?_
 refine omv R rfl rfl fun a R => ?_
 obtain ⟨x9_5, w4, cx9_5, h⟩ := h
 refine op_val R (rn_bi (vs := [Sl.val x6_2, Sl.val x0]) R rfl (fun _ => rfl) cx9_5) rfl fun a R => ?_
 refine oas R rfl rfl fun a R => ?_
 refine wpList_nil ?_
 refine then_normal ?_
 refine wp_seq ?_
 refine wp_region_lit ?_
 refine omv R rfl rfl fun a R => ?_
 refine oas R rfl rfl fun a R => ?_
 refine wpList_nil ?_
 refine then_normal ?_
 refine wp_ret ?_
 exact post_ret R rfl rfl ⟨x9_5, rfl, h⟩
theorem s_levyref19_copied (x0 : Sl) (Q : Sl → World → Prop) (w : World) (h : levyref19_copied x0 Q w) :
    Calls Try.prog 36 #[Sl.val x0] w (Rets fun v w => ∃ r0 : Sl, v = (Sl.val r0 : Value) ∧ Q r0 w) :=
  calls_body (args := [Sl.val x0]) Try.func36 rfl rfl (Nat.le_of_ble_eq_true rfl) (L := [(0, Sl.val x0)]) (by simp [starts]) (b_levyref19_copied x0 Q w h rfl)

/-! (levyref19.Disk).Files -/

def levyref19_Disk_Files.k1 (y1_3 : Sl) (Q : Sl → World → Prop) (w : World) : Prop :=
  Q y1_3 w

def levyref19_Disk_Files.l2 (x0 : Option Addr) (z2_3 : Sl) (z2_4 : Int) (Q : Sl → World → Prop) (K2 : Sl → Int → World → Prop) (w : World) : Prop :=
  nn x0 fun x8_3 => ld Sl.val w (x8_3.add 0) fun x10_4 => (if (decide (z2_4 < ((x10_4.len : Nat) : Int))) = true then nn x0 fun x16_8 => ld Sl.val w (x16_8.add 0) fun x18_9 => ix x18_9.p x18_9.len z2_4 3 fun x20_11 => ld Value.string w (x20_11.add 0) fun x21_12_0 => ld Sl.val w (x20_11.add 1) fun x21_12_1 => ld (Value.int .i64) w (x20_11.add 2) fun x21_12_2 => al w (.cells #[.string ⟨#[]⟩, .slice none 0 0, .int .i64 0] 74) fun x5_13 w => stN w x5_13 [.string x21_12_0, Sl.val x21_12_1, .int .i64 x21_12_2] fun w => ld Sl.val w (x5_13.add 1) fun x23_16 => levyref19_copied x23_16 (fun x24_17_0 w => st w (x5_13.add 1) (Sl.val x24_17_0) fun w => ld Value.string w (x5_13.add 0) fun x27_19_0 => ld Sl.val w (x5_13.add 1) fun x27_19_1 => ld (Value.int .i64) w (x5_13.add 2) fun x27_19_2 => al w (.cells #[.string x27_19_0, Sl.val x27_19_1, .int .i64 x27_19_2] 74) fun x28_20 w => rn Try.prog Sl.val (Builtin.append_ #[22, 22] 22 [Sl.val z2_3, .slice (some x28_20) 1 1].toArray) w fun x29_23 w => K2 x29_23 (IntKind.i64.wrap (z2_4 + 1)) w) w else levyref19_Disk_Files.k1 z2_3 Q w)

def levyref19_Disk_Files (x0 : Option Addr) (Q : Sl → World → Prop) (w : World) : Prop :=
  (Fix (σ := Sl × Int) (fun Ks s w => levyref19_Disk_Files.l2 x0 s.1 s.2 Q (fun z2_3 z2_4 w => Ks (z2_3, z2_4) w) w) ((Sl.mk none 0 0), 0) w)

theorem b_levyref19_Disk_Files (x0 : Option Addr) (Q : Sl → World → Prop) (w : World) (h : levyref19_Disk_Files x0 Q w) {c : Code} (hb : Try.f8.body = some c) :
 ∀ a, Rep a 31 [(0, .pointer x0)] [] → c.wp Try.prog (bodyPost Try.prog Try.f8 (Rets fun v w => ∃ r0 : Sl, v = (Sl.val r0 : Value) ∧ Q r0 w)) a w := by
 intro a R
 obtain rfl := Option.some.inj hb
 unfold levyref19_Disk_Files at h
 refine wp_seq ?_
 refine wp_region_lit ?_
 refine oas R rfl rfl fun a R => ?_
 refine wpList_nil ?_
 refine then_normal ?_
 refine wp_seq ?_
 refine wp_region_lit ?_
 refine oas R rfl rfl fun a R => ?_
 refine wpList_nil ?_
 refine then_normal ?_
 refine seq_join (fun a w => ∃ y1_3 : Sl, Rep a 31 [(3, Sl.val y1_3)] [] ∧ levyref19_Disk_Files.k1 y1_3 Q w) ?_ ?_
 ·refine wp_seq ?_
  refine wp_region_lit ?_
  refine oas R rfl rfl fun a R => ?_
  refine wpList_nil ?_
  refine then_normal ?_
  refine wp_block ?_
  refine wp_fix (σ := Sl × Int) (fun s a => Rep a 31 [(0, .pointer x0), (3, Sl.val s.1), (4, .int .i64 s.2)] []) h (R.weak ⟨rfl, rfl, rfl, trivial⟩) ?_
  rintro Ks C ⟨z2_3, z2_4⟩ a w hC R h
  have R : Rep a 31 [(0, .pointer x0), (3, Sl.val z2_3), (4, .int .i64 z2_4)] [] := R
  have h : levyref19_Disk_Files.l2 x0 z2_3 z2_4 Q (fun z2_3 z2_4 w => Ks (z2_3, z2_4) w) w := h
  generalize hK2 : (fun z2_3 z2_4 w => Ks (z2_3, z2_4) w) = K2 at h
  unfold levyref19_Disk_Files.l2 at h
  refine wp_seq ?_
  refine wp_seq ?_
  refine wp_region_lit ?_
  refine omv R rfl rfl fun a R => ?_
  refine omv R rfl rfl fun a R => ?_
  obtain ⟨x8_3, cx8_3, h⟩ := h
  refine onl R rfl cx8_3 rfl fun a R => ?_
  refine ofd R rfl fd100_0 rfl fun a R => ?_
  obtain ⟨x10_4, cx10_4, h⟩ := h
  refine old R rfl Try.underlying22 rfl cx10_4 rfl fun a R => ?_
  refine op_val R (rn_len R rfl Try.underlying22) rfl fun a R => ?_
  refine op_val R (rn_bin (v := .bool (decide (z2_4 < ((x10_4.len : Nat) : Int)))) R rfl rfl rfl) rfl fun a R => ?_
  refine wpList_nil ?_
  refine then_normal ?_
  rcases ite_cases h with ⟨g7, h⟩ | ⟨g7, h⟩
  ·refine wp_condT R (congrArg (fun b => some (Value.bool b)) g7) ?_
   refine wp_skip ?_
   refine then_normal ?_
   refine wp_seq ?_
   refine wp_block ?_
   refine wp_seq ?_
   refine wp_region_lit ?_
   refine omv R rfl rfl fun a R => ?_
   obtain ⟨x16_8, cx16_8, h⟩ := h
   refine onl R rfl cx16_8 rfl fun a R => ?_
   refine ofd R rfl fd100_0 rfl fun a R => ?_
   obtain ⟨x18_9, cx18_9, h⟩ := h
   refine old R rfl Try.underlying22 rfl cx18_9 rfl fun a R => ?_
   refine omv R rfl rfl fun a R => ?_
   obtain ⟨b10, x20_11, p10, i10, j10, e10, h⟩ := ix_e h
   refine op_val (v := .pointer (some x20_11)) R (by rw [e10]; exact rn_ixs (x := (.tmp 18)) (y := (.tmp 19)) R rfl p10 rfl Try.underlying22 sz74 i10 j10) rfl fun a R => ?_
   obtain ⟨x21_12_0, cx21_12_0, x21_12_1, cx21_12_1, x21_12_2, cx21_12_2, h⟩ := h
   refine op_val R (rn_ldN (cs := [.string x21_12_0, Sl.val x21_12_1, .int .i64 x21_12_2]) R rfl Try.underlying74 rfl sz74 ⟨cx21_12_0, cx21_12_1, cx21_12_2, trivial⟩) rfl fun a R => ?_
   obtain ⟨x5_13, e14, h⟩ := al_e h
   refine op_val (v := .pointer (some x5_13)) R (by rw [e14]; exact rn_al R ze74) rfl fun a R => ?_
   obtain ⟨q15, h⟩ := h
   refine op_unit R (rn_stN (vs := [.string x21_12_0, Sl.val x21_12_1, .int .i64 x21_12_2]) R rfl rfl (ao ⟨rfl, rfl, rfl, trivial⟩) sz74 q15) fun a R => ?_
   refine wpList_nil ?_
   refine then_normal ?_
   refine wp_seq ?_
   refine wp_region_lit ?_
   refine ofd R rfl fd74_1 rfl fun a R => ?_
   obtain ⟨x23_16, cx23_16, h⟩ := h
   refine old R rfl Try.underlying34 rfl cx23_16 rfl fun a R => ?_
   refine op_call R (rn_calls R rfl cf36) rfl ?_
   refine call_mono (s_levyref19_copied _ _ _ h) ?_
   rintro _ w25 ⟨x24_17_0, rfl, h⟩ a R
   refine ofd R rfl fd74_1 rfl fun a R => ?_
   obtain ⟨q18, f18, h⟩ := h
   refine op_unit R (rn_st R rfl rfl rfl sz34 q18 f18) fun a R => ?_
   refine wpList_nil ?_
   refine then_normal ?_
   refine wp_region_lit ?_
   refine omv R rfl rfl fun a R => ?_
   obtain ⟨x27_19_0, cx27_19_0, x27_19_1, cx27_19_1, x27_19_2, cx27_19_2, h⟩ := h
   refine op_val R (rn_ldN (cs := [.string x27_19_0, Sl.val x27_19_1, .int .i64 x27_19_2]) R rfl Try.underlying74 rfl sz74 ⟨cx27_19_0, cx27_19_1, cx27_19_2, trivial⟩) rfl fun a R => ?_
   obtain ⟨x28_20, e21, h⟩ := al_e h
   refine op_val (v := .slice (some x28_20) 1 1) R (by rw [e21]; exact rn_buildSlice (t := 22) (len := 1) (xs := [(0, (.tmp 27))]) (cells := #[.string x27_19_0, Sl.val x27_19_1, .int .i64 x27_19_2]) (e := 74) R rfl (fun w => by kernel_rfl)) rfl fun a R => ?_
   obtain ⟨x29_23, w22, cx29_23, h⟩ := h
   refine op_val R (rn_bi (vs := [Sl.val z2_3, .slice (some x28_20) 1 1]) R rfl (fun _ => rfl) cx29_23) rfl fun a R => ?_
   refine oas R rfl rfl fun a R => ?_
   refine wpList_nil ?_
   refine block_normal ?_
   refine then_normal ?_
   refine wp_region_lit ?_
   refine omv R rfl rfl fun a R => ?_
   refine op_val R (rn_bin (v := .int .i64 (IntKind.i64.wrap (z2_4 + 1))) R rfl rfl rfl) rfl fun a R => ?_
   refine oas R rfl rfl fun a R => ?_
   refine wpList_nil ?_
   refine then_normal ?_
   exact hC (x29_23, (IntKind.i64.wrap (z2_4 + 1))) _ _ (R.weak ⟨rfl, rfl, rfl, trivial⟩) (by rw [← hK2] at h; exact h)
  ·refine wp_condF R (congrArg (fun b => some (Value.bool b)) g7) ?_
   refine wp_exit ?_
   refine then_exit ?_
   refine then_exit ?_
   refine block_eq ?_
   refine then_normal ?_
   exact ⟨z2_3, R.weak ⟨rfl, trivial⟩, h⟩
 ·rintro a w ⟨y1_3, R, h⟩
  unfold levyref19_Disk_Files.k1 at h
  refine wp_seq ?_
  refine wp_region_lit ?_
  refine omv R rfl rfl fun a R => ?_
  refine oas R rfl rfl fun a R => ?_
  refine wpList_nil ?_
  refine then_normal ?_
  refine wp_ret ?_
  exact post_ret R rfl rfl ⟨y1_3, rfl, h⟩
theorem s_levyref19_Disk_Files (x0 : Option Addr) (Q : Sl → World → Prop) (w : World) (h : levyref19_Disk_Files x0 Q w) :
    Calls Try.prog 8 #[.pointer x0] w (Rets fun v w => ∃ r0 : Sl, v = (Sl.val r0 : Value) ∧ Q r0 w) :=
  calls_body (args := [.pointer x0]) Try.func8 rfl rfl (Nat.le_of_ble_eq_true rfl) (L := [(0, .pointer x0)]) (by simp [starts]) (b_levyref19_Disk_Files x0 Q w h rfl)

/-! (levyroom.Room).Bytes -/

def levyroom_Room_Bytes.k4 (x0 : Option Addr) (x1 : Sl) (y4_5 : Sl) (Q : Sl → World → Prop) (w : World) : Prop :=
  nn x0 fun x31_5 => ld Sl.val w (x31_5.add 0) fun x33_6 => al w (.cells #[Sl.val y4_5] 34) fun x35_7 w => rn Try.prog Sl.val (Builtin.append_ #[43, 43] 43 [Sl.val x33_6, .slice (some x35_7) 1 1].toArray) w fun x36_10 w => nn x0 fun x37_11 => st w (x37_11.add 0) (Sl.val x36_10) fun w => (0 ≤ ((y4_5.len : Nat) : Int) ∧ ((y4_5.len : Nat) : Int) ≤ ((y4_5.cap : Nat) : Int) ∧ 0 ≤ ((x1.len : Nat) : Int) ∧ ((x1.len : Nat) : Int) ≤ ((y4_5.len : Nat) : Int) ∧ Q (cutSl ⟨y4_5.p, y4_5.len, y4_5.cap⟩ 1 0 (Int.toNat ((x1.len : Nat) : Int)) (Int.toNat ((y4_5.len : Nat) : Int))) w)

def levyroom_Room_Bytes.l16 (x0 : Option Addr) (x1 : Sl) (z16_5 : Sl) (z16_7 : Int) (Q : Sl → World → Prop) (K16 : Sl → Int → World → Prop) (w : World) : Prop :=
  (if (decide (z16_7 < 600)) = true then al w (.cells #[.int .u8 165, .int .u8 90] 5) fun x27_19 w => rn Try.prog Sl.val (Builtin.append_ #[34, 34] 34 [Sl.val z16_5, .slice (some x27_19) 2 2].toArray) w fun x28_22 w => K16 x28_22 (IntKind.i64.wrap (z16_7 + 2)) w else levyroom_Room_Bytes.k4 x0 x1 z16_5 Q w)

def levyroom_Room_Bytes.k3 (x0 : Option Addr) (x1 : Sl) (y3_5 : Sl) (Q : Sl → World → Prop) (w : World) : Prop :=
  (Fix (σ := Sl × Int) (fun Ks s w => levyroom_Room_Bytes.l16 x0 x1 s.1 s.2 Q (fun z16_5 z16_7 w => Ks (z16_5, z16_7) w) w) (y3_5, 0) w)

def levyroom_Room_Bytes.l24 (x0 : Option Addr) (x1 : Sl) (z24_5 : Sl) (z24_6 : Int) (Q : Sl → World → Prop) (K24 : Sl → Int → World → Prop) (w : World) : Prop :=
  (if (decide (z24_6 < ((x1.len : Nat) : Int))) = true then ix x1.p x1.len z24_6 1 fun x18_29 => ld (Value.int .u8) w x18_29 fun x19_30 => al w (.cells #[.int .u8 x19_30] 5) fun x20_31 w => rn Try.prog Sl.val (Builtin.append_ #[34, 34] 34 [Sl.val z24_5, .slice (some x20_31) 1 1].toArray) w fun x21_34 w => K24 x21_34 (IntKind.i64.wrap (z24_6 + 1)) w else levyroom_Room_Bytes.k3 x0 x1 z24_5 Q w)

def levyroom_Room_Bytes (x0 : Option Addr) (x1 : Sl) (Q : Sl → World → Prop) (w : World) : Prop :=
  al w (.cells #[] 5) fun x8_1 w => (Fix (σ := Sl × Int) (fun Ks s w => levyroom_Room_Bytes.l24 x0 x1 s.1 s.2 Q (fun z24_5 z24_6 w => Ks (z24_5, z24_6) w) w) ((Sl.mk (some x8_1) 0 0), 0) w)

theorem b_levyroom_Room_Bytes (x0 : Option Addr) (x1 : Sl) (Q : Sl → World → Prop) (w : World) (h : levyroom_Room_Bytes x0 x1 Q w) {c : Code} (hb : Try.f13.body = some c) :
 ∀ a, Rep a 45 [(0, .pointer x0), (1, Sl.val x1)] [] → c.wp Try.prog (bodyPost Try.prog Try.f13 (Rets fun v w => ∃ r0 : Sl, v = (Sl.val r0 : Value) ∧ Q r0 w)) a w := by
 intro a R
 obtain rfl := Option.some.inj hb
 unfold levyroom_Room_Bytes at h
 refine wp_seq ?_
 refine wp_region_lit ?_
 refine oas R rfl rfl fun a R => ?_
 refine wpList_nil ?_
 refine then_normal ?_
 refine wp_seq ?_
 refine wp_region_lit ?_
 obtain ⟨x8_1, e2, h⟩ := al_e h
 refine op_val (v := .slice (some x8_1) 0 0) R (by rw [e2]; exact rn_buildSlice (t := 34) (len := 0) (xs := []) (cells := #[]) (e := 5) R rfl (fun w => by kernel_rfl)) rfl fun a R => ?_
 refine oas R rfl rfl fun a R => ?_
 refine wpList_nil ?_
 refine then_normal ?_
 refine seq_join (fun a w => ∃ y3_5 : Sl, Rep a 45 [(0, .pointer x0), (1, Sl.val x1), (5, Sl.val y3_5)] [] ∧ levyroom_Room_Bytes.k3 x0 x1 y3_5 Q w) ?_ ?_
 ·refine wp_seq ?_
  refine wp_region_lit ?_
  refine oas R rfl rfl fun a R => ?_
  refine wpList_nil ?_
  refine then_normal ?_
  refine wp_block ?_
  refine wp_fix (σ := Sl × Int) (fun s a => Rep a 45 [(0, .pointer x0), (1, Sl.val x1), (5, Sl.val s.1), (6, .int .i64 s.2)] []) h (R.weak ⟨rfl, rfl, rfl, rfl, trivial⟩) ?_
  rintro Ks C ⟨z24_5, z24_6⟩ a w hC R h
  have R : Rep a 45 [(0, .pointer x0), (1, Sl.val x1), (5, Sl.val z24_5), (6, .int .i64 z24_6)] [] := R
  have h : levyroom_Room_Bytes.l24 x0 x1 z24_5 z24_6 Q (fun z24_5 z24_6 w => Ks (z24_5, z24_6) w) w := h
  generalize hK24 : (fun z24_5 z24_6 w => Ks (z24_5, z24_6) w) = K24 at h
  unfold levyroom_Room_Bytes.l24 at h
  refine wp_seq ?_
  refine wp_seq ?_
  refine wp_region_lit ?_
  refine omv R rfl rfl fun a R => ?_
  refine omv R rfl rfl fun a R => ?_
  refine op_val R (rn_len R rfl Try.underlying34) rfl fun a R => ?_
  refine op_val R (rn_bin (v := .bool (decide (z24_6 < ((x1.len : Nat) : Int)))) R rfl rfl rfl) rfl fun a R => ?_
  refine wpList_nil ?_
  refine then_normal ?_
  rcases ite_cases h with ⟨g27, h⟩ | ⟨g27, h⟩
  ·refine wp_condT R (congrArg (fun b => some (Value.bool b)) g27) ?_
   refine wp_skip ?_
   refine then_normal ?_
   refine wp_seq ?_
   refine wp_block ?_
   refine wp_region_lit ?_
   refine omv R rfl rfl fun a R => ?_
   refine omv R rfl rfl fun a R => ?_
   refine omv R rfl rfl fun a R => ?_
   obtain ⟨b28, x18_29, p28, i28, j28, e28, h⟩ := ix_e h
   refine op_val (v := .pointer (some x18_29)) R (by rw [e28]; exact rn_ixs (x := (.tmp 16)) (y := (.tmp 17)) R rfl p28 rfl Try.underlying34 sz5 i28 j28) rfl fun a R => ?_
   obtain ⟨x19_30, cx19_30, h⟩ := h
   refine old R rfl Try.underlying5 rfl cx19_30 rfl fun a R => ?_
   obtain ⟨x20_31, e32, h⟩ := al_e h
   refine op_val (v := .slice (some x20_31) 1 1) R (by rw [e32]; exact rn_buildSlice (t := 34) (len := 1) (xs := [(0, (.tmp 19))]) (cells := #[.int .u8 x19_30]) (e := 5) R rfl (fun w => by kernel_rfl)) rfl fun a R => ?_
   obtain ⟨x21_34, w33, cx21_34, h⟩ := h
   refine op_val R (rn_bi (vs := [Sl.val z24_5, .slice (some x20_31) 1 1]) R rfl (fun _ => rfl) cx21_34) rfl fun a R => ?_
   refine oas R rfl rfl fun a R => ?_
   refine wpList_nil ?_
   refine block_normal ?_
   refine then_normal ?_
   refine wp_region_lit ?_
   refine omv R rfl rfl fun a R => ?_
   refine op_val R (rn_bin (v := .int .i64 (IntKind.i64.wrap (z24_6 + 1))) R rfl rfl rfl) rfl fun a R => ?_
   refine oas R rfl rfl fun a R => ?_
   refine wpList_nil ?_
   refine then_normal ?_
   exact hC (x21_34, (IntKind.i64.wrap (z24_6 + 1))) _ _ (R.weak ⟨rfl, rfl, rfl, rfl, trivial⟩) (by rw [← hK24] at h; exact h)
  ·refine wp_condF R (congrArg (fun b => some (Value.bool b)) g27) ?_
   refine wp_exit ?_
   refine then_exit ?_
   refine then_exit ?_
   refine block_eq ?_
   refine then_normal ?_
   exact ⟨z24_5, R.weak ⟨rfl, rfl, rfl, trivial⟩, h⟩
 ·rintro a w ⟨y3_5, R, h⟩
  unfold levyroom_Room_Bytes.k3 at h
  refine seq_join (fun a w => ∃ y4_5 : Sl, Rep a 45 [(0, .pointer x0), (1, Sl.val x1), (5, Sl.val y4_5)] [] ∧ levyroom_Room_Bytes.k4 x0 x1 y4_5 Q w) ?_ ?_
  ·refine wp_seq ?_
   refine wp_region_lit ?_
   refine oas R rfl rfl fun a R => ?_
   refine wpList_nil ?_
   refine then_normal ?_
   refine wp_block ?_
   refine wp_fix (σ := Sl × Int) (fun s a => Rep a 45 [(0, .pointer x0), (1, Sl.val x1), (5, Sl.val s.1), (7, .int .i64 s.2)] []) h (R.weak ⟨rfl, rfl, rfl, rfl, trivial⟩) ?_
   rintro Ks C ⟨z16_5, z16_7⟩ a w hC R h
   have R : Rep a 45 [(0, .pointer x0), (1, Sl.val x1), (5, Sl.val z16_5), (7, .int .i64 z16_7)] [] := R
   have h : levyroom_Room_Bytes.l16 x0 x1 z16_5 z16_7 Q (fun z16_5 z16_7 w => Ks (z16_5, z16_7) w) w := h
   generalize hK16 : (fun z16_5 z16_7 w => Ks (z16_5, z16_7) w) = K16 at h
   unfold levyroom_Room_Bytes.l16 at h
   refine wp_seq ?_
   refine wp_seq ?_
   refine wp_region_lit ?_
   refine omv R rfl rfl fun a R => ?_
   refine op_val R (rn_bin (v := .bool (decide (z16_7 < 600))) R rfl rfl rfl) rfl fun a R => ?_
   refine wpList_nil ?_
   refine then_normal ?_
   rcases ite_cases h with ⟨g18, h⟩ | ⟨g18, h⟩
   ·refine wp_condT R (congrArg (fun b => some (Value.bool b)) g18) ?_
    refine wp_skip ?_
    refine then_normal ?_
    refine wp_seq ?_
    refine wp_block ?_
    refine wp_region_lit ?_
    refine omv R rfl rfl fun a R => ?_
    obtain ⟨x27_19, e20, h⟩ := al_e h
    refine op_val (v := .slice (some x27_19) 2 2) R (by rw [e20]; exact rn_buildSlice (t := 34) (len := 2) (xs := [(0, (.const (.int .u8 165))), (1, (.const (.int .u8 90)))]) (cells := #[.int .u8 165, .int .u8 90]) (e := 5) R rfl (fun w => by kernel_rfl)) rfl fun a R => ?_
    obtain ⟨x28_22, w21, cx28_22, h⟩ := h
    refine op_val R (rn_bi (vs := [Sl.val z16_5, .slice (some x27_19) 2 2]) R rfl (fun _ => rfl) cx28_22) rfl fun a R => ?_
    refine oas R rfl rfl fun a R => ?_
    refine wpList_nil ?_
    refine block_normal ?_
    refine then_normal ?_
    refine wp_region_lit ?_
    refine omv R rfl rfl fun a R => ?_
    refine op_val R (rn_bin (v := .int .i64 (IntKind.i64.wrap (z16_7 + 2))) R rfl rfl rfl) rfl fun a R => ?_
    refine oas R rfl rfl fun a R => ?_
    refine wpList_nil ?_
    refine then_normal ?_
    exact hC (x28_22, (IntKind.i64.wrap (z16_7 + 2))) _ _ (R.weak ⟨rfl, rfl, rfl, rfl, trivial⟩) (by rw [← hK16] at h; exact h)
   ·refine wp_condF R (congrArg (fun b => some (Value.bool b)) g18) ?_
    refine wp_exit ?_
    refine then_exit ?_
    refine then_exit ?_
    refine block_eq ?_
    refine then_normal ?_
    exact ⟨z16_5, R.weak ⟨rfl, rfl, rfl, trivial⟩, h⟩
  ·rintro a w ⟨y4_5, R, h⟩
   unfold levyroom_Room_Bytes.k4 at h
   refine wp_seq ?_
   refine wp_region_lit ?_
   refine omv R rfl rfl fun a R => ?_
   refine omv R rfl rfl fun a R => ?_
   obtain ⟨x31_5, cx31_5, h⟩ := h
   refine onl R rfl cx31_5 rfl fun a R => ?_
   refine ofd R rfl fd65_0 rfl fun a R => ?_
   obtain ⟨x33_6, cx33_6, h⟩ := h
   refine old R rfl Try.underlying43 rfl cx33_6 rfl fun a R => ?_
   refine omv R rfl rfl fun a R => ?_
   obtain ⟨x35_7, e8, h⟩ := al_e h
   refine op_val (v := .slice (some x35_7) 1 1) R (by rw [e8]; exact rn_buildSlice (t := 43) (len := 1) (xs := [(0, (.tmp 34))]) (cells := #[Sl.val y4_5]) (e := 34) R rfl (fun w => by kernel_rfl)) rfl fun a R => ?_
   obtain ⟨x36_10, w9, cx36_10, h⟩ := h
   refine op_val R (rn_bi (vs := [Sl.val x33_6, .slice (some x35_7) 1 1]) R rfl (fun _ => rfl) cx36_10) rfl fun a R => ?_
   obtain ⟨x37_11, cx37_11, h⟩ := h
   refine onl R rfl cx37_11 rfl fun a R => ?_
   refine ofd R rfl fd65_0 rfl fun a R => ?_
   obtain ⟨q12, f12, h⟩ := h
   refine op_unit R (rn_st R rfl rfl rfl sz43 q12 f12) fun a R => ?_
   refine wpList_nil ?_
   refine then_normal ?_
   refine wp_seq ?_
   refine wp_region_lit ?_
   refine omv R rfl rfl fun a R => ?_
   refine omv R rfl rfl fun a R => ?_
   refine op_val R (rn_len R rfl Try.underlying34) rfl fun a R => ?_
   refine omv R rfl rfl fun a R => ?_
   refine op_val R (rn_len R rfl Try.underlying34) rfl fun a R => ?_
   obtain ⟨ma15, mb15, ha15, hb15, h⟩ := h
   refine op_val R (rn_sl R rfl rfl (evo R rfl) (evo R rfl) (fun w => bounds3 ma15 mb15 ha15 hb15 w) Try.underlying34 sz5) rfl fun a R => ?_
   refine oas R rfl rfl fun a R => ?_
   refine wpList_nil ?_
   refine then_normal ?_
   refine wp_ret ?_
   exact post_ret R rfl rfl ⟨(cutSl ⟨y4_5.p, y4_5.len, y4_5.cap⟩ 1 0 (Int.toNat ((x1.len : Nat) : Int)) (Int.toNat ((y4_5.len : Nat) : Int))), rfl, h⟩
theorem s_levyroom_Room_Bytes (x0 : Option Addr) (x1 : Sl) (Q : Sl → World → Prop) (w : World) (h : levyroom_Room_Bytes x0 x1 Q w) :
    Calls Try.prog 13 #[.pointer x0, Sl.val x1] w (Rets fun v w => ∃ r0 : Sl, v = (Sl.val r0 : Value) ∧ Q r0 w) :=
  calls_body (args := [.pointer x0, Sl.val x1]) Try.func13 rfl rfl (Nat.le_of_ble_eq_true rfl) (L := [(0, .pointer x0), (1, Sl.val x1)]) (by simp [starts]) (b_levyroom_Room_Bytes x0 x1 Q w h rfl)

/-! (levyroom.Room).Files -/

def levyroom_Room_Files.k4 (x0 : Option Addr) (x1 : Sl) (y4_5 : Sl) (Q : Sl → World → Prop) (w : World) : Prop :=
  nn x0 fun x47_5 => ld Sl.val w (x47_5.add 13) fun x49_6 => al w (.cells #[Sl.val y4_5] 22) fun x51_7 w => rn Try.prog Sl.val (Builtin.append_ #[56, 56] 56 [Sl.val x49_6, .slice (some x51_7) 1 1].toArray) w fun x52_10 w => nn x0 fun x53_11 => st w (x53_11.add 13) (Sl.val x52_10) fun w => (0 ≤ ((y4_5.len : Nat) : Int) ∧ ((y4_5.len : Nat) : Int) ≤ ((y4_5.cap : Nat) : Int) ∧ 0 ≤ ((x1.len : Nat) : Int) ∧ ((x1.len : Nat) : Int) ≤ ((y4_5.len : Nat) : Int) ∧ Q (cutSl ⟨y4_5.p, y4_5.len, y4_5.cap⟩ 3 0 (Int.toNat ((x1.len : Nat) : Int)) (Int.toNat ((y4_5.len : Nat) : Int))) w)

def levyroom_Room_Files.l16 (x0 : Option Addr) (x1 : Sl) (z16_5 : Sl) (z16_7 : Int) (Q : Sl → World → Prop) (K16 : Sl → Int → World → Prop) (w : World) : Prop :=
  (if (decide (z16_7 < 40)) = true then al w (.cells #[.string ⟨#[]⟩, .slice none 0 0, .int .i64 (-7701), .string ⟨#[]⟩, .slice none 0 0, .int .i64 (-7702)] 74) fun x43_19 w => rn Try.prog Sl.val (Builtin.append_ #[22, 22] 22 [Sl.val z16_5, .slice (some x43_19) 2 2].toArray) w fun x44_22 w => K16 x44_22 (IntKind.i64.wrap (z16_7 + 2)) w else levyroom_Room_Files.k4 x0 x1 z16_5 Q w)

def levyroom_Room_Files.k3 (x0 : Option Addr) (x1 : Sl) (y3_5 : Sl) (Q : Sl → World → Prop) (w : World) : Prop :=
  (Fix (σ := Sl × Int) (fun Ks s w => levyroom_Room_Files.l16 x0 x1 s.1 s.2 Q (fun z16_5 z16_7 w => Ks (z16_5, z16_7) w) w) (y3_5, 0) w)

def levyroom_Room_Files.l24 (x0 : Option Addr) (x1 : Sl) (z24_5 : Sl) (z24_6 : Int) (Q : Sl → World → Prop) (K24 : Sl → Int → World → Prop) (w : World) : Prop :=
  (if (decide (z24_6 < ((x1.len : Nat) : Int))) = true then ix x1.p x1.len z24_6 3 fun x18_29 => ld Value.string (World.drew w) (x18_29.add 0) fun x20_30 => ix x1.p x1.len z24_6 3 fun x24_32 => ld Sl.val (World.drew w) (x24_32.add 1) fun x26_33 => ix x1.p x1.len z24_6 3 fun x30_35 => ld (Value.int .i64) (World.drew w) (x30_35.add 2) fun x32_36 => levyroom_Room_Bytes x0 x26_33 (fun x27_37_0 w => ((World.cell? w (x18_29.add 0) = some (.string x20_30) ∧ World.cell? w (x24_32.add 1) = some (Sl.val x26_33) ∧ World.cell? w (x30_35.add 2) = some (.int .i64 x32_36) ∧ True) ∧ al w (.cells #[.string x20_30, Sl.val x27_37_0, .int .i64 x32_36] 74) fun x34_38 w => ((World.cell? w (x18_29.add 0) = some (.string x20_30) ∧ World.cell? w (x24_32.add 1) = some (Sl.val x26_33) ∧ World.cell? w (x30_35.add 2) = some (.int .i64 x32_36) ∧ True) ∧ rn Try.prog Sl.val (Builtin.append_ #[22, 22] 22 [Sl.val z24_5, .slice (some x34_38) 1 1].toArray) w fun x35_41 w => K24 x35_41 (IntKind.i64.wrap (z24_6 + 1)) w))) (World.drew w) else levyroom_Room_Files.k3 x0 x1 z24_5 Q w)

def levyroom_Room_Files (x0 : Option Addr) (x1 : Sl) (Q : Sl → World → Prop) (w : World) : Prop :=
  al w (.cells #[] 74) fun x8_1 w => (Fix (σ := Sl × Int) (fun Ks s w => levyroom_Room_Files.l24 x0 x1 s.1 s.2 Q (fun z24_5 z24_6 w => Ks (z24_5, z24_6) w) w) ((Sl.mk (some x8_1) 0 0), 0) w)

theorem b_levyroom_Room_Files (x0 : Option Addr) (x1 : Sl) (Q : Sl → World → Prop) (w : World) (h : levyroom_Room_Files x0 x1 Q w) {c : Code} (hb : Try.f9.body = some c) :
 ∀ a, Rep a 61 [(0, .pointer x0), (1, Sl.val x1)] [] → c.wp Try.prog (bodyPost Try.prog Try.f9 (Rets fun v w => ∃ r0 : Sl, v = (Sl.val r0 : Value) ∧ Q r0 w)) a w := by
 intro a R
 obtain rfl := Option.some.inj hb
 unfold levyroom_Room_Files at h
 refine wp_seq ?_
 refine wp_region_lit ?_
 refine oas R rfl rfl fun a R => ?_
 refine wpList_nil ?_
 refine then_normal ?_
 refine wp_seq ?_
 refine wp_region_lit ?_
 obtain ⟨x8_1, e2, h⟩ := al_e h
 refine op_val (v := .slice (some x8_1) 0 0) R (by rw [e2]; exact rn_buildSlice (t := 22) (len := 0) (xs := []) (cells := #[]) (e := 74) R rfl (fun w => by kernel_rfl)) rfl fun a R => ?_
 refine oas R rfl rfl fun a R => ?_
 refine wpList_nil ?_
 refine then_normal ?_
 refine seq_join (fun a w => ∃ y3_5 : Sl, Rep a 61 [(0, .pointer x0), (1, Sl.val x1), (5, Sl.val y3_5)] [] ∧ levyroom_Room_Files.k3 x0 x1 y3_5 Q w) ?_ ?_
 ·refine wp_seq ?_
  refine wp_region_lit ?_
  refine oas R rfl rfl fun a R => ?_
  refine wpList_nil ?_
  refine then_normal ?_
  refine wp_block ?_
  refine wp_fix (σ := Sl × Int) (fun s a => Rep a 61 [(0, .pointer x0), (1, Sl.val x1), (5, Sl.val s.1), (6, .int .i64 s.2)] []) h (R.weak ⟨rfl, rfl, rfl, rfl, trivial⟩) ?_
  rintro Ks C ⟨z24_5, z24_6⟩ a w hC R h
  have R : Rep a 61 [(0, .pointer x0), (1, Sl.val x1), (5, Sl.val z24_5), (6, .int .i64 z24_6)] [] := R
  have h : levyroom_Room_Files.l24 x0 x1 z24_5 z24_6 Q (fun z24_5 z24_6 w => Ks (z24_5, z24_6) w) w := h
  generalize hK24 : (fun z24_5 z24_6 w => Ks (z24_5, z24_6) w) = K24 at h
  unfold levyroom_Room_Files.l24 at h
  refine wp_seq ?_
  refine wp_seq ?_
  refine wp_region_lit ?_
  refine omv R rfl rfl fun a R => ?_
  refine omv R rfl rfl fun a R => ?_
  refine op_val R (rn_len R rfl Try.underlying22) rfl fun a R => ?_
  refine op_val R (rn_bin (v := .bool (decide (z24_6 < ((x1.len : Nat) : Int)))) R rfl rfl rfl) rfl fun a R => ?_
  refine wpList_nil ?_
  refine then_normal ?_
  rcases ite_cases h with ⟨g27, h⟩ | ⟨g27, h⟩
  ·refine wp_condT R (congrArg (fun b => some (Value.bool b)) g27) ?_
   refine wp_skip ?_
   refine then_normal ?_
   refine wp_seq ?_
   refine wp_block ?_
   refine region_start mo fun inv => ?_
   obtain ⟨b28, x18_29, p28, i28, j28, e28, h⟩ := ix_e h
   obtain ⟨x20_30, cx20_30, h⟩ := h
   obtain ⟨b31, x24_32, p31, i31, j31, e31, h⟩ := ix_e h
   obtain ⟨x26_33, cx26_33, h⟩ := h
   obtain ⟨b34, x30_35, p34, i34, j34, e34, h⟩ := ix_e h
   obtain ⟨x32_36, cx32_36, h⟩ := h
   refine seg_held (n := 20) (f := 20) (g := 2) (fun w : World => w.cell? (x18_29.add 0) = some (.string x20_30) ∧ w.cell? (x24_32.add 1) = some (Sl.val x26_33) ∧ w.cell? (x30_35.add 2) = some (.int .i64 x32_36) ∧ True) (by kernel_rfl) fun inv => ?_
   have hS0 : (fun w : World => w.cell? (x18_29.add 0) = some (.string x20_30) ∧ w.cell? (x24_32.add 1) = some (Sl.val x26_33) ∧ w.cell? (x30_35.add 2) = some (.int .i64 x32_36) ∧ True) _ := ⟨cx20_30, cx26_33, cx32_36, trivial⟩
   refine dr_val (i := 0) R (waits_dom (by kernel_rfl) (by kernel_rfl)) (by kernel_rfl) inv rfl (by decide) (by kernel_rfl) (by kernel_rfl) (fun _ _ _ h => h) wanted_none (fun w' hS => rn_mv R rfl) hS0 rfl fun inv a R => ?_
   refine dr_val (i := 1) R (waits_dom (by kernel_rfl) (by kernel_rfl)) (by kernel_rfl) inv rfl (by decide) (by kernel_rfl) (by kernel_rfl) (fun _ _ _ h => h) wanted_none (fun w' hS => rn_mv R rfl) hS0 rfl fun inv a R => ?_
   refine dr_val (i := 2) R (waits_dom (by kernel_rfl) (by kernel_rfl)) (by kernel_rfl) inv rfl (by decide) (by kernel_rfl) (by kernel_rfl) (fun _ _ _ h => h) wanted_none (fun w' hS => rn_mv R rfl) hS0 rfl fun inv a R => ?_
   refine dr_val (v := .pointer (some x18_29)) (i := 3) R (waits_dom (by kernel_rfl) (by kernel_rfl)) (by kernel_rfl) inv rfl (by decide) (by kernel_rfl) (by kernel_rfl) (fun _ _ _ h => h) wanted_none (fun w' hS => by rw [e28]; exact rn_ixs (x := (.tmp 16)) (y := (.tmp 17)) R rfl p28 rfl Try.underlying22 sz74 i28 j28) hS0 rfl fun inv a R => ?_
   refine dr_val (i := 4) R (waits_dom (by kernel_rfl) (by kernel_rfl)) (by kernel_rfl) inv rfl (by decide) (by kernel_rfl) (by kernel_rfl) (fun _ _ _ h => h) wanted_none (fun w' hS => rn_fld R rfl fd74_0) hS0 rfl fun inv a R => ?_
   refine dr_val (i := 5) R (waits_dom (by kernel_rfl) (by kernel_rfl)) (by kernel_rfl) inv rfl (by decide) (by kernel_rfl) (by kernel_rfl) (fun _ _ _ h => h) wanted_none (fun w' hS => rn_ld R rfl Try.underlying9 rfl (hS.1)) hS0 rfl fun inv a R => ?_
   refine dr_val (i := 6) R (waits_dom (by kernel_rfl) (by kernel_rfl)) (by kernel_rfl) inv rfl (by decide) (by kernel_rfl) (by kernel_rfl) (fun _ _ _ h => h) wanted_none (fun w' hS => rn_mv R rfl) hS0 rfl fun inv a R => ?_
   refine dr_val (i := 7) R (waits_dom (by kernel_rfl) (by kernel_rfl)) (by kernel_rfl) inv rfl (by decide) (by kernel_rfl) (by kernel_rfl) (fun _ _ _ h => h) wanted_none (fun w' hS => rn_mv R rfl) hS0 rfl fun inv a R => ?_
   refine dr_val (i := 8) R (waits_dom (by kernel_rfl) (by kernel_rfl)) (by kernel_rfl) inv rfl (by decide) (by kernel_rfl) (by kernel_rfl) (fun _ _ _ h => h) wanted_none (fun w' hS => rn_mv R rfl) hS0 rfl fun inv a R => ?_
   refine dr_val (v := .pointer (some x24_32)) (i := 9) R (waits_dom (by kernel_rfl) (by kernel_rfl)) (by kernel_rfl) inv rfl (by decide) (by kernel_rfl) (by kernel_rfl) (fun _ _ _ h => h) wanted_none (fun w' hS => by rw [e31]; exact rn_ixs (x := (.tmp 22)) (y := (.tmp 23)) R rfl p31 rfl Try.underlying22 sz74 i31 j31) hS0 rfl fun inv a R => ?_
   refine dr_val (i := 10) R (waits_dom (by kernel_rfl) (by kernel_rfl)) (by kernel_rfl) inv rfl (by decide) (by kernel_rfl) (by kernel_rfl) (fun _ _ _ h => h) wanted_none (fun w' hS => rn_fld R rfl fd74_1) hS0 rfl fun inv a R => ?_
   refine dr_val (i := 11) R (waits_dom (by kernel_rfl) (by kernel_rfl)) (by kernel_rfl) inv rfl (by decide) (by kernel_rfl) (by kernel_rfl) (fun _ _ _ h => h) wanted_none (fun w' hS => rn_ld R rfl Try.underlying34 rfl (hS.2.1)) hS0 rfl fun inv a R => ?_
   refine dr_val (i := 13) R (waits_dom (by kernel_rfl) (by kernel_rfl)) (by kernel_rfl) inv rfl (by decide) (by kernel_rfl) (by kernel_rfl) (fun _ _ _ h => h) wanted_none (fun w' hS => rn_mv R rfl) hS0 rfl fun inv a R => ?_
   refine dr_val (i := 14) R (waits_dom (by kernel_rfl) (by kernel_rfl)) (by kernel_rfl) inv rfl (by decide) (by kernel_rfl) (by kernel_rfl) (fun _ _ _ h => h) wanted_none (fun w' hS => rn_mv R rfl) hS0 rfl fun inv a R => ?_
   refine dr_val (v := .pointer (some x30_35)) (i := 15) R (waits_dom (by kernel_rfl) (by kernel_rfl)) (by kernel_rfl) inv rfl (by decide) (by kernel_rfl) (by kernel_rfl) (fun _ _ _ h => h) wanted_none (fun w' hS => by rw [e34]; exact rn_ixs (x := (.tmp 28)) (y := (.tmp 29)) R rfl p34 rfl Try.underlying22 sz74 i34 j34) hS0 rfl fun inv a R => ?_
   refine dr_val (i := 16) R (waits_dom (by kernel_rfl) (by kernel_rfl)) (by kernel_rfl) inv rfl (by decide) (by kernel_rfl) (by kernel_rfl) (fun _ _ _ h => h) wanted_none (fun w' hS => rn_fld R rfl fd74_2) hS0 rfl fun inv a R => ?_
   refine dr_val (i := 17) R (waits_dom (by kernel_rfl) (by kernel_rfl)) (by kernel_rfl) inv rfl (by decide) (by kernel_rfl) (by kernel_rfl) (fun _ _ _ h => h) wanted_none (fun w' hS => rn_ld R rfl Try.underlying3 rfl (hS.2.2.1)) hS0 rfl fun inv a R => ?_
   refine dr_call (i := 12) R inv rfl (by decide) (by kernel_rfl) wanted_none (rn_calls R rfl cf13) rfl ?_
   refine call_mono (s_levyroom_Room_Bytes _ _ _ _ h) ?_
   rintro _ w43 ⟨x27_37_0, rfl, hS0, h⟩
   refine ⟨hS0, fun a inv R => ?_⟩
   refine dr_val (i := 18) R (waits_dom (by kernel_rfl) (by kernel_rfl)) (by kernel_rfl) inv rfl (by decide) (by kernel_rfl) (by kernel_rfl) (fun _ _ _ h => h) wanted_none (fun w' hS => rn_build (r := .agg #[.string x20_30, Sl.val x27_37_0, .int .i64 x32_36]) R rfl (fun w => by kernel_rfl)) hS0 rfl fun inv a R => ?_
   obtain ⟨x34_38, e39, h⟩ := al_e h
   obtain ⟨hS0, h⟩ := h
   refine dr_run (v := .slice (some x34_38) 1 1) (i := 19) R inv rfl (by decide) (by kernel_rfl) wanted_none (by rw [e39]; exact rn_buildSlice (t := 22) (len := 1) (xs := [(0, (.tmp 33))]) (cells := #[.string x20_30, Sl.val x27_37_0, .int .i64 x32_36]) (e := 74) R rfl (fun w => by kernel_rfl)) hS0 rfl fun inv a R => ?_
   refine seg_end (by kernel_rfl) ?_
   refine any_tail 20 (by kernel_rfl) ?_
   obtain ⟨x35_41, w40, cx35_41, h⟩ := h
   refine op_val R (rn_bi (vs := [Sl.val z24_5, .slice (some x34_38) 1 1]) R rfl (fun _ => rfl) cx35_41) rfl fun a R => ?_
   refine oas R rfl rfl fun a R => ?_
   refine wpList_nil ?_
   refine block_normal ?_
   refine then_normal ?_
   refine wp_region_lit ?_
   refine omv R rfl rfl fun a R => ?_
   refine op_val R (rn_bin (v := .int .i64 (IntKind.i64.wrap (z24_6 + 1))) R rfl rfl rfl) rfl fun a R => ?_
   refine oas R rfl rfl fun a R => ?_
   refine wpList_nil ?_
   refine then_normal ?_
   exact hC (x35_41, (IntKind.i64.wrap (z24_6 + 1))) _ _ (R.weak ⟨rfl, rfl, rfl, rfl, trivial⟩) (by rw [← hK24] at h; exact h)
  ·refine wp_condF R (congrArg (fun b => some (Value.bool b)) g27) ?_
   refine wp_exit ?_
   refine then_exit ?_
   refine then_exit ?_
   refine block_eq ?_
   refine then_normal ?_
   exact ⟨z24_5, R.weak ⟨rfl, rfl, rfl, trivial⟩, h⟩
 ·rintro a w ⟨y3_5, R, h⟩
  unfold levyroom_Room_Files.k3 at h
  refine seq_join (fun a w => ∃ y4_5 : Sl, Rep a 61 [(0, .pointer x0), (1, Sl.val x1), (5, Sl.val y4_5)] [] ∧ levyroom_Room_Files.k4 x0 x1 y4_5 Q w) ?_ ?_
  ·refine wp_seq ?_
   refine wp_region_lit ?_
   refine oas R rfl rfl fun a R => ?_
   refine wpList_nil ?_
   refine then_normal ?_
   refine wp_block ?_
   refine wp_fix (σ := Sl × Int) (fun s a => Rep a 61 [(0, .pointer x0), (1, Sl.val x1), (5, Sl.val s.1), (7, .int .i64 s.2)] []) h (R.weak ⟨rfl, rfl, rfl, rfl, trivial⟩) ?_
   rintro Ks C ⟨z16_5, z16_7⟩ a w hC R h
   have R : Rep a 61 [(0, .pointer x0), (1, Sl.val x1), (5, Sl.val z16_5), (7, .int .i64 z16_7)] [] := R
   have h : levyroom_Room_Files.l16 x0 x1 z16_5 z16_7 Q (fun z16_5 z16_7 w => Ks (z16_5, z16_7) w) w := h
   generalize hK16 : (fun z16_5 z16_7 w => Ks (z16_5, z16_7) w) = K16 at h
   unfold levyroom_Room_Files.l16 at h
   refine wp_seq ?_
   refine wp_seq ?_
   refine wp_region_lit ?_
   refine omv R rfl rfl fun a R => ?_
   refine op_val R (rn_bin (v := .bool (decide (z16_7 < 40))) R rfl rfl rfl) rfl fun a R => ?_
   refine wpList_nil ?_
   refine then_normal ?_
   rcases ite_cases h with ⟨g18, h⟩ | ⟨g18, h⟩
   ·refine wp_condT R (congrArg (fun b => some (Value.bool b)) g18) ?_
    refine wp_skip ?_
    refine then_normal ?_
    refine wp_seq ?_
    refine wp_block ?_
    refine wp_region_lit ?_
    refine omv R rfl rfl fun a R => ?_
    refine op_val R (rn_build (r := .agg #[.string ⟨#[]⟩, .slice none 0 0, .int .i64 (-7701)]) R rfl (fun w => by kernel_rfl)) rfl fun a R => ?_
    refine op_val R (rn_build (r := .agg #[.string ⟨#[]⟩, .slice none 0 0, .int .i64 (-7702)]) R rfl (fun w => by kernel_rfl)) rfl fun a R => ?_
    obtain ⟨x43_19, e20, h⟩ := al_e h
    refine op_val (v := .slice (some x43_19) 2 2) R (by rw [e20]; exact rn_buildSlice (t := 22) (len := 2) (xs := [(0, (.tmp 41)), (1, (.tmp 42))]) (cells := #[.string ⟨#[]⟩, .slice none 0 0, .int .i64 (-7701), .string ⟨#[]⟩, .slice none 0 0, .int .i64 (-7702)]) (e := 74) R rfl (fun w => by kernel_rfl)) rfl fun a R => ?_
    obtain ⟨x44_22, w21, cx44_22, h⟩ := h
    refine op_val R (rn_bi (vs := [Sl.val z16_5, .slice (some x43_19) 2 2]) R rfl (fun _ => rfl) cx44_22) rfl fun a R => ?_
    refine oas R rfl rfl fun a R => ?_
    refine wpList_nil ?_
    refine block_normal ?_
    refine then_normal ?_
    refine wp_region_lit ?_
    refine omv R rfl rfl fun a R => ?_
    refine op_val R (rn_bin (v := .int .i64 (IntKind.i64.wrap (z16_7 + 2))) R rfl rfl rfl) rfl fun a R => ?_
    refine oas R rfl rfl fun a R => ?_
    refine wpList_nil ?_
    refine then_normal ?_
    exact hC (x44_22, (IntKind.i64.wrap (z16_7 + 2))) _ _ (R.weak ⟨rfl, rfl, rfl, rfl, trivial⟩) (by rw [← hK16] at h; exact h)
   ·refine wp_condF R (congrArg (fun b => some (Value.bool b)) g18) ?_
    refine wp_exit ?_
    refine then_exit ?_
    refine then_exit ?_
    refine block_eq ?_
    refine then_normal ?_
    exact ⟨z16_5, R.weak ⟨rfl, rfl, rfl, trivial⟩, h⟩
  ·rintro a w ⟨y4_5, R, h⟩
   unfold levyroom_Room_Files.k4 at h
   refine wp_seq ?_
   refine wp_region_lit ?_
   refine omv R rfl rfl fun a R => ?_
   refine omv R rfl rfl fun a R => ?_
   obtain ⟨x47_5, cx47_5, h⟩ := h
   refine onl R rfl cx47_5 rfl fun a R => ?_
   refine ofd R rfl fd65_13 rfl fun a R => ?_
   obtain ⟨x49_6, cx49_6, h⟩ := h
   refine old R rfl Try.underlying56 rfl cx49_6 rfl fun a R => ?_
   refine omv R rfl rfl fun a R => ?_
   obtain ⟨x51_7, e8, h⟩ := al_e h
   refine op_val (v := .slice (some x51_7) 1 1) R (by rw [e8]; exact rn_buildSlice (t := 56) (len := 1) (xs := [(0, (.tmp 50))]) (cells := #[Sl.val y4_5]) (e := 22) R rfl (fun w => by kernel_rfl)) rfl fun a R => ?_
   obtain ⟨x52_10, w9, cx52_10, h⟩ := h
   refine op_val R (rn_bi (vs := [Sl.val x49_6, .slice (some x51_7) 1 1]) R rfl (fun _ => rfl) cx52_10) rfl fun a R => ?_
   obtain ⟨x53_11, cx53_11, h⟩ := h
   refine onl R rfl cx53_11 rfl fun a R => ?_
   refine ofd R rfl fd65_13 rfl fun a R => ?_
   obtain ⟨q12, f12, h⟩ := h
   refine op_unit R (rn_st R rfl rfl rfl sz56 q12 f12) fun a R => ?_
   refine wpList_nil ?_
   refine then_normal ?_
   refine wp_seq ?_
   refine wp_region_lit ?_
   refine omv R rfl rfl fun a R => ?_
   refine omv R rfl rfl fun a R => ?_
   refine op_val R (rn_len R rfl Try.underlying22) rfl fun a R => ?_
   refine omv R rfl rfl fun a R => ?_
   refine op_val R (rn_len R rfl Try.underlying22) rfl fun a R => ?_
   obtain ⟨ma15, mb15, ha15, hb15, h⟩ := h
   refine op_val R (rn_sl R rfl rfl (evo R rfl) (evo R rfl) (fun w => bounds3 ma15 mb15 ha15 hb15 w) Try.underlying22 sz74) rfl fun a R => ?_
   refine oas R rfl rfl fun a R => ?_
   refine wpList_nil ?_
   refine then_normal ?_
   refine wp_ret ?_
   exact post_ret R rfl rfl ⟨(cutSl ⟨y4_5.p, y4_5.len, y4_5.cap⟩ 3 0 (Int.toNat ((x1.len : Nat) : Int)) (Int.toNat ((y4_5.len : Nat) : Int))), rfl, h⟩
theorem s_levyroom_Room_Files (x0 : Option Addr) (x1 : Sl) (Q : Sl → World → Prop) (w : World) (h : levyroom_Room_Files x0 x1 Q w) :
    Calls Try.prog 9 #[.pointer x0, Sl.val x1] w (Rets fun v w => ∃ r0 : Sl, v = (Sl.val r0 : Value) ∧ Q r0 w) :=
  calls_body (args := [.pointer x0, Sl.val x1]) Try.func9 rfl rfl (Nat.le_of_ble_eq_true rfl) (L := [(0, .pointer x0), (1, Sl.val x1)]) (by simp [starts]) (b_levyroom_Room_Files x0 x1 Q w h rfl)

/-! levyref19.named -/

def levyref19_named.k2 (y2_2 : Bool) (Q : Bool → World → Prop) (w : World) : Prop :=
  Q y2_2 w

def levyref19_named.k1 (x0 : ByteArray) (Q : Bool → World → Prop) (w : World) : Prop :=
  (if (decide (((ByteArray.size x0 : Nat) : Int) ≥ 1)) = true then levyref19_named.k2 (decide (((ByteArray.size x0 : Nat) : Int) ≤ 12)) Q w else levyref19_named.k2 false Q w)

def levyref19_named.k13 (x0 : ByteArray) (z8_3 : Int) (K8 : Int → World → Prop) (y13_32 : Bool) (Q : Bool → World → Prop) (w : World) : Prop :=
  (if y13_32 = true then Q false w else K8 (IntKind.i64.wrap (z8_3 + 1)) w)

def levyref19_named.l8 (x0 : ByteArray) (z8_3 : Int) (Q : Bool → World → Prop) (K8 : Int → World → Prop) (w : World) : Prop :=
  (if (decide (z8_3 < ((ByteArray.size x0 : Nat) : Int))) = true then (0 ≤ z8_3 ∧ z8_3 < (ByteArray.size x0 : Int) ∧ (if (decide ((byteAt x0 z8_3) ≥ 97)) = true then (if (decide ((byteAt x0 z8_3) ≤ 122)) = true then levyref19_named.k13 x0 z8_3 K8 (!true) Q w else (if (decide ((byteAt x0 z8_3) ≥ 48)) = true then (if (decide ((byteAt x0 z8_3) ≤ 57)) = true then levyref19_named.k13 x0 z8_3 K8 (!true) Q w else levyref19_named.k13 x0 z8_3 K8 (!((byteAt x0 z8_3) == 45)) Q w) else levyref19_named.k13 x0 z8_3 K8 (!((byteAt x0 z8_3) == 45)) Q w)) else (if (decide ((byteAt x0 z8_3) ≥ 48)) = true then (if (decide ((byteAt x0 z8_3) ≤ 57)) = true then levyref19_named.k13 x0 z8_3 K8 (!true) Q w else levyref19_named.k13 x0 z8_3 K8 (!((byteAt x0 z8_3) == 45)) Q w) else levyref19_named.k13 x0 z8_3 K8 (!((byteAt x0 z8_3) == 45)) Q w))) else levyref19_named.k1 x0 Q w)

def levyref19_named (x0 : ByteArray) (Q : Bool → World → Prop) (w : World) : Prop :=
  (Fix (σ := Int) (fun Ks s w => levyref19_named.l8 x0 s Q (fun z8_3 w => Ks z8_3 w) w) 0 w)

theorem b_levyref19_named (x0 : ByteArray) (Q : Bool → World → Prop) (w : World) (h : levyref19_named x0 Q w) {c : Code} (hb : Try.f37.body = some c) :
 ∀ a, Rep a 41 [(0, .string x0)] [] → c.wp Try.prog (bodyPost Try.prog Try.f37 (Rets fun v w => ∃ r0 : Bool, v = (.bool r0 : Value) ∧ Q r0 w)) a w := by
 intro a R
 obtain rfl := Option.some.inj hb
 unfold levyref19_named at h
 refine wp_seq ?_
 refine wp_region_lit ?_
 refine oas R rfl rfl fun a R => ?_
 refine wpList_nil ?_
 refine then_normal ?_
 refine seq_join (fun a w => Rep a 41 [(0, .string x0)] [] ∧ levyref19_named.k1 x0 Q w) ?_ ?_
 ·refine wp_seq ?_
  refine wp_region_lit ?_
  refine oas R rfl rfl fun a R => ?_
  refine wpList_nil ?_
  refine then_normal ?_
  refine wp_block ?_
  refine wp_fix (σ := Int) (fun s a => Rep a 41 [(0, .string x0), (3, .int .i64 s)] []) h (R.weak ⟨rfl, rfl, trivial⟩) ?_
  rintro Ks C z8_3 a w hC R h
  have R : Rep a 41 [(0, .string x0), (3, .int .i64 z8_3)] [] := R
  have h : levyref19_named.l8 x0 z8_3 Q (fun z8_3 w => Ks z8_3 w) w := h
  generalize hK8 : (fun z8_3 w => Ks z8_3 w) = K8 at h
  unfold levyref19_named.l8 at h
  refine wp_seq ?_
  refine wp_seq ?_
  refine wp_region_lit ?_
  refine omv R rfl rfl fun a R => ?_
  refine omv R rfl rfl fun a R => ?_
  refine op_val R (rn_lenS R rfl Try.underlying9) rfl fun a R => ?_
  refine op_val R (rn_bin (v := .bool (decide (z8_3 < ((ByteArray.size x0 : Nat) : Int)))) R rfl rfl rfl) rfl fun a R => ?_
  refine wpList_nil ?_
  refine then_normal ?_
  rcases ite_cases h with ⟨g11, h⟩ | ⟨g11, h⟩
  ·refine wp_condT R (congrArg (fun b => some (Value.bool b)) g11) ?_
   refine wp_skip ?_
   refine then_normal ?_
   refine wp_seq ?_
   refine wp_block ?_
   refine wp_seq ?_
   refine wp_region_lit ?_
   refine omv R rfl rfl fun a R => ?_
   refine omv R rfl rfl fun a R => ?_
   obtain ⟨i12, j12, h⟩ := h
   refine op_val R (rn_ixS R rfl rfl Try.underlying9 i12 j12) rfl fun a R => ?_
   refine oas R rfl rfl fun a R => ?_
   refine wpList_nil ?_
   refine then_normal ?_
   refine seq_join (fun a w => ∃ y13_32 : Bool, Rep a 41 [(0, .string x0), (3, .int .i64 z8_3), (32, .bool y13_32)] [] ∧ levyref19_named.k13 x0 z8_3 K8 y13_32 Q w) ?_ ?_
   ·refine wp_region_lit ?_
    refine omv R rfl rfl fun a R => ?_
    refine op_val R (rn_bin (v := .bool (decide ((byteAt x0 z8_3) ≥ 97))) R rfl rfl rfl) rfl fun a R => ?_
    refine omv R rfl rfl fun a R => ?_
    rcases ite_cases h with ⟨g17, h⟩ | ⟨g17, h⟩
    ·refine op_guard R rfl rfl rfl g17 ?_
     refine omv R rfl rfl fun a R => ?_
     refine op_guard R rfl rfl rfl g17 ?_
     refine op_val R (rn_bin (v := .bool (decide ((byteAt x0 z8_3) ≤ 122))) R rfl rfl rfl) rfl fun a R => ?_
     refine op_val R (rn_pickT R rfl g17 rfl) rfl fun a R => ?_
     refine omv R rfl rfl fun a R => ?_
     rcases ite_cases h with ⟨g19, h⟩ | ⟨g19, h⟩
     ·refine op_pass R rfl rfl rfl (nft g19) (fun a R => ?_) (by intro s hs; cases hs; rfl)
      refine op_pass R rfl rfl rfl (nft g19) (fun a R => ?_) (by intro s hs; cases hs; rfl)
      refine op_pass R rfl rfl rfl (nft g19) (fun a R => ?_) (by intro s hs; cases hs; rfl)
      refine op_pass0 R rfl rfl rfl (fun a R => ?_) (by intro s hs; cases hs; rfl)
      refine op_pass0 R rfl rfl rfl (fun a R => ?_) (by intro s hs; cases hs; rfl)
      refine op_pass R rfl rfl rfl (nft g19) (fun a R => ?_) (by intro s hs; cases hs; rfl)
      refine op_val R (rn_pickT R rfl g19 rfl) rfl fun a R => ?_
      refine omv R rfl rfl fun a R => ?_
      refine op_pass R rfl rfl rfl (nft rfl) (fun a R => ?_) (by intro s hs; cases hs; rfl)
      refine op_pass R rfl rfl rfl (nft rfl) (fun a R => ?_) (by intro s hs; cases hs; rfl)
      refine op_val R (rn_pickT R rfl rfl rfl) rfl fun a R => ?_
      refine op_val R (rn_un (v := .bool (!true)) R rfl rfl) rfl fun a R => ?_
      refine wpList_nil ?_
      refine then_normal ?_
      exact ⟨(!true), R.weak ⟨rfl, rfl, rfl, trivial⟩, h⟩
     ·refine op_guard R rfl rfl rfl g19 ?_
      refine omv R rfl rfl fun a R => ?_
      refine op_guard R rfl rfl rfl g19 ?_
      refine op_val R (rn_bin (v := .bool (decide ((byteAt x0 z8_3) ≥ 48))) R rfl rfl rfl) rfl fun a R => ?_
      refine op_guard R rfl rfl rfl g19 ?_
      refine omv R rfl rfl fun a R => ?_
      rcases ite_cases h with ⟨g21, h⟩ | ⟨g21, h⟩
      ·refine op_guard R rfl rfl rfl g21 ?_
       refine omv R rfl rfl fun a R => ?_
       refine op_guard R rfl rfl rfl g21 ?_
       refine op_val R (rn_bin (v := .bool (decide ((byteAt x0 z8_3) ≤ 57))) R rfl rfl rfl) rfl fun a R => ?_
       refine op_guard R rfl rfl rfl g19 ?_
       refine op_val R (rn_pickT R rfl g21 rfl) rfl fun a R => ?_
       refine op_val R (rn_pickF R rfl g19 rfl) rfl fun a R => ?_
       refine omv R rfl rfl fun a R => ?_
       rcases ite_cases h with ⟨g23, h⟩ | ⟨g23, h⟩
       ·refine op_pass R rfl rfl rfl (nft g23) (fun a R => ?_) (by intro s hs; cases hs; rfl)
        refine op_pass R rfl rfl rfl (nft g23) (fun a R => ?_) (by intro s hs; cases hs; rfl)
        refine op_val R (rn_pickT R rfl g23 rfl) rfl fun a R => ?_
        refine op_val R (rn_un (v := .bool (!true)) R rfl rfl) rfl fun a R => ?_
        refine wpList_nil ?_
        refine then_normal ?_
        exact ⟨(!true), R.weak ⟨rfl, rfl, rfl, trivial⟩, h⟩
       ·refine op_guard R rfl rfl rfl g23 ?_
        refine omv R rfl rfl fun a R => ?_
        refine op_guard R rfl rfl rfl g23 ?_
        refine op_val R (rn_bin (v := .bool ((byteAt x0 z8_3) == 45)) R rfl rfl rfl) rfl fun a R => ?_
        refine op_val R (rn_pickF R rfl g23 rfl) rfl fun a R => ?_
        refine op_val R (rn_un (v := .bool (!((byteAt x0 z8_3) == 45))) R rfl rfl) rfl fun a R => ?_
        refine wpList_nil ?_
        refine then_normal ?_
        exact ⟨(!((byteAt x0 z8_3) == 45)), R.weak ⟨rfl, rfl, rfl, trivial⟩, h⟩
      ·refine op_pass R rfl rfl rfl (ntf g21) (fun a R => ?_) (by intro s hs; cases hs; rfl)
       refine op_pass R rfl rfl rfl (ntf g21) (fun a R => ?_) (by intro s hs; cases hs; rfl)
       refine op_guard R rfl rfl rfl g19 ?_
       refine op_val R (rn_pickF R rfl g21 rfl) rfl fun a R => ?_
       refine op_val R (rn_pickF R rfl g19 rfl) rfl fun a R => ?_
       refine omv R rfl rfl fun a R => ?_
       refine op_guard R rfl rfl rfl rfl ?_
       refine omv R rfl rfl fun a R => ?_
       refine op_guard R rfl rfl rfl rfl ?_
       refine op_val R (rn_bin (v := .bool ((byteAt x0 z8_3) == 45)) R rfl rfl rfl) rfl fun a R => ?_
       refine op_val R (rn_pickF R rfl rfl rfl) rfl fun a R => ?_
       refine op_val R (rn_un (v := .bool (!((byteAt x0 z8_3) == 45))) R rfl rfl) rfl fun a R => ?_
       refine wpList_nil ?_
       refine then_normal ?_
       exact ⟨(!((byteAt x0 z8_3) == 45)), R.weak ⟨rfl, rfl, rfl, trivial⟩, h⟩
    ·refine op_pass R rfl rfl rfl (ntf g17) (fun a R => ?_) (by intro s hs; cases hs; rfl)
     refine op_pass R rfl rfl rfl (ntf g17) (fun a R => ?_) (by intro s hs; cases hs; rfl)
     refine op_val R (rn_pickF R rfl g17 rfl) rfl fun a R => ?_
     refine omv R rfl rfl fun a R => ?_
     refine op_guard R rfl rfl rfl rfl ?_
     refine omv R rfl rfl fun a R => ?_
     refine op_guard R rfl rfl rfl rfl ?_
     refine op_val R (rn_bin (v := .bool (decide ((byteAt x0 z8_3) ≥ 48))) R rfl rfl rfl) rfl fun a R => ?_
     refine op_guard R rfl rfl rfl rfl ?_
     refine omv R rfl rfl fun a R => ?_
     rcases ite_cases h with ⟨g27, h⟩ | ⟨g27, h⟩
     ·refine op_guard R rfl rfl rfl g27 ?_
      refine omv R rfl rfl fun a R => ?_
      refine op_guard R rfl rfl rfl g27 ?_
      refine op_val R (rn_bin (v := .bool (decide ((byteAt x0 z8_3) ≤ 57))) R rfl rfl rfl) rfl fun a R => ?_
      refine op_guard R rfl rfl rfl rfl ?_
      refine op_val R (rn_pickT R rfl g27 rfl) rfl fun a R => ?_
      refine op_val R (rn_pickF R rfl rfl rfl) rfl fun a R => ?_
      refine omv R rfl rfl fun a R => ?_
      rcases ite_cases h with ⟨g29, h⟩ | ⟨g29, h⟩
      ·refine op_pass R rfl rfl rfl (nft g29) (fun a R => ?_) (by intro s hs; cases hs; rfl)
       refine op_pass R rfl rfl rfl (nft g29) (fun a R => ?_) (by intro s hs; cases hs; rfl)
       refine op_val R (rn_pickT R rfl g29 rfl) rfl fun a R => ?_
       refine op_val R (rn_un (v := .bool (!true)) R rfl rfl) rfl fun a R => ?_
       refine wpList_nil ?_
       refine then_normal ?_
       exact ⟨(!true), R.weak ⟨rfl, rfl, rfl, trivial⟩, h⟩
      ·refine op_guard R rfl rfl rfl g29 ?_
       refine omv R rfl rfl fun a R => ?_
       refine op_guard R rfl rfl rfl g29 ?_
       refine op_val R (rn_bin (v := .bool ((byteAt x0 z8_3) == 45)) R rfl rfl rfl) rfl fun a R => ?_
       refine op_val R (rn_pickF R rfl g29 rfl) rfl fun a R => ?_
       refine op_val R (rn_un (v := .bool (!((byteAt x0 z8_3) == 45))) R rfl rfl) rfl fun a R => ?_
       refine wpList_nil ?_
       refine then_normal ?_
       exact ⟨(!((byteAt x0 z8_3) == 45)), R.weak ⟨rfl, rfl, rfl, trivial⟩, h⟩
     ·refine op_pass R rfl rfl rfl (ntf g27) (fun a R => ?_) (by intro s hs; cases hs; rfl)
      refine op_pass R rfl rfl rfl (ntf g27) (fun a R => ?_) (by intro s hs; cases hs; rfl)
      refine op_guard R rfl rfl rfl rfl ?_
      refine op_val R (rn_pickF R rfl g27 rfl) rfl fun a R => ?_
      refine op_val R (rn_pickF R rfl rfl rfl) rfl fun a R => ?_
      refine omv R rfl rfl fun a R => ?_
      refine op_guard R rfl rfl rfl rfl ?_
      refine omv R rfl rfl fun a R => ?_
      refine op_guard R rfl rfl rfl rfl ?_
      refine op_val R (rn_bin (v := .bool ((byteAt x0 z8_3) == 45)) R rfl rfl rfl) rfl fun a R => ?_
      refine op_val R (rn_pickF R rfl rfl rfl) rfl fun a R => ?_
      refine op_val R (rn_un (v := .bool (!((byteAt x0 z8_3) == 45))) R rfl rfl) rfl fun a R => ?_
      refine wpList_nil ?_
      refine then_normal ?_
      exact ⟨(!((byteAt x0 z8_3) == 45)), R.weak ⟨rfl, rfl, rfl, trivial⟩, h⟩
   ·rintro a w ⟨y13_32, R, h⟩
    unfold levyref19_named.k13 at h
    rcases ite_cases h with ⟨g14, h⟩ | ⟨g14, h⟩
    ·refine wp_condT R (congrArg (fun b => some (Value.bool b)) g14) ?_
     refine wp_seq ?_
     refine wp_region_lit ?_
     refine oas R rfl rfl fun a R => ?_
     refine wpList_nil ?_
     refine then_normal ?_
     refine wp_ret ?_
     refine block_ret ?_
     refine then_ret ?_
     refine then_ret ?_
     refine block_ret ?_
     refine then_ret ?_
     exact post_ret R rfl rfl ⟨false, rfl, h⟩
    ·refine wp_condF R (congrArg (fun b => some (Value.bool b)) g14) ?_
     refine wp_skip ?_
     refine block_normal ?_
     refine then_normal ?_
     refine wp_region_lit ?_
     refine omv R rfl rfl fun a R => ?_
     refine op_val R (rn_bin (v := .int .i64 (IntKind.i64.wrap (z8_3 + 1))) R rfl rfl rfl) rfl fun a R => ?_
     refine oas R rfl rfl fun a R => ?_
     refine wpList_nil ?_
     refine then_normal ?_
     exact hC (IntKind.i64.wrap (z8_3 + 1)) _ _ (R.weak ⟨rfl, rfl, trivial⟩) (by rw [← hK8] at h; exact h)
  ·refine wp_condF R (congrArg (fun b => some (Value.bool b)) g11) ?_
   refine wp_exit ?_
   refine then_exit ?_
   refine then_exit ?_
   refine block_eq ?_
   refine then_normal ?_
   exact ⟨R.weak ⟨rfl, trivial⟩, h⟩
 ·rintro a w ⟨R, h⟩
  unfold levyref19_named.k1 at h
  refine seq_join (fun a w => ∃ y2_2 : Bool, Rep a 41 [(2, .bool y2_2)] [] ∧ levyref19_named.k2 y2_2 Q w) ?_ ?_
  ·refine wp_region_lit ?_
   refine omv R rfl rfl fun a R => ?_
   refine op_val R (rn_lenS R rfl Try.underlying9) rfl fun a R => ?_
   refine op_val R (rn_bin (v := .bool (decide (((ByteArray.size x0 : Nat) : Int) ≥ 1))) R rfl rfl rfl) rfl fun a R => ?_
   refine omv R rfl rfl fun a R => ?_
   rcases ite_cases h with ⟨g5, h⟩ | ⟨g5, h⟩
   ·refine op_guard R rfl rfl rfl g5 ?_
    refine omv R rfl rfl fun a R => ?_
    refine op_guard R rfl rfl rfl g5 ?_
    refine op_val R (rn_lenS R rfl Try.underlying9) rfl fun a R => ?_
    refine op_guard R rfl rfl rfl g5 ?_
    refine op_val R (rn_bin (v := .bool (decide (((ByteArray.size x0 : Nat) : Int) ≤ 12))) R rfl rfl rfl) rfl fun a R => ?_
    refine op_val R (rn_pickT R rfl g5 rfl) rfl fun a R => ?_
    refine oas R rfl rfl fun a R => ?_
    refine wpList_nil ?_
    refine then_normal ?_
    exact ⟨(decide (((ByteArray.size x0 : Nat) : Int) ≤ 12)), R.weak ⟨rfl, trivial⟩, h⟩
   ·refine op_pass R rfl rfl rfl (ntf g5) (fun a R => ?_) (by intro s hs; cases hs; rfl)
    refine op_pass R rfl rfl rfl (ntf g5) (fun a R => ?_) (by intro s hs; cases hs; rfl)
    refine op_pass R rfl rfl rfl (ntf g5) (fun a R => ?_) (by intro s hs; cases hs; rfl)
    refine op_val R (rn_pickF R rfl g5 rfl) rfl fun a R => ?_
    refine oas R rfl rfl fun a R => ?_
    refine wpList_nil ?_
    refine then_normal ?_
    exact ⟨false, R.weak ⟨rfl, trivial⟩, h⟩
  ·rintro a w ⟨y2_2, R, h⟩
   unfold levyref19_named.k2 at h
   refine wp_ret ?_
   exact post_ret R rfl rfl ⟨y2_2, rfl, h⟩
theorem s_levyref19_named (x0 : ByteArray) (Q : Bool → World → Prop) (w : World) (h : levyref19_named x0 Q w) :
    Calls Try.prog 37 #[.string x0] w (Rets fun v w => ∃ r0 : Bool, v = (.bool r0 : Value) ∧ Q r0 w) :=
  calls_body (args := [.string x0]) Try.func37 rfl rfl (Nat.le_of_ble_eq_true rfl) (L := [(0, .string x0)]) (by simp [starts]) (b_levyref19_named x0 Q w h rfl)

/-! (levyref19.Disk).place -/

def levyref19_Disk_place.k2 (y1_6 : Int) (y2_5 : Bool) (Q : Int → Bool → World → Prop) (w : World) : Prop :=
  Q y1_6 y2_5 w

def levyref19_Disk_place.k1 (x0 : Option Addr) (x1 : ByteArray) (y1_6 : Int) (Q : Int → Bool → World → Prop) (w : World) : Prop :=
  nn x0 fun x31_3 => ld Sl.val (World.drew w) (x31_3.add 0) fun x33_4 => (if (decide (y1_6 < ((x33_4.len : Nat) : Int))) = true then nn x0 fun x38_8 => ld Sl.val (World.drew w) (x38_8.add 0) fun x40_9 => ix x40_9.p x40_9.len y1_6 3 fun x42_11 => ld Value.string (World.drew w) (x42_11.add 0) fun x44_12 => levyref19_Disk_place.k2 y1_6 (sEq x44_12 x1) Q (World.drew w) else levyref19_Disk_place.k2 y1_6 false Q (World.drew w))

def levyref19_Disk_place.k14 (x0 : Option Addr) (x1 : ByteArray) (z13_6 : Int) (K13 : Int → World → Prop) (y14_25 : Bool) (Q : Int → Bool → World → Prop) (w : World) : Prop :=
  (if y14_25 = true then K13 (IntKind.i64.wrap (z13_6 + 1)) w else levyref19_Disk_place.k1 x0 x1 z13_6 Q w)

def levyref19_Disk_place.l13 (x0 : Option Addr) (x1 : ByteArray) (z13_6 : Int) (Q : Int → Bool → World → Prop) (K13 : Int → World → Prop) (w : World) : Prop :=
  nn x0 fun x9_17 => ld Sl.val w (x9_17.add 0) fun x11_18 => (if (decide (z13_6 < ((x11_18.len : Nat) : Int))) = true then nn x0 fun x16_22 => ld Sl.val w (x16_22.add 0) fun x18_23 => ix x18_23.p x18_23.len z13_6 3 fun x20_25 => ld Value.string w (x20_25.add 0) fun x22_26 => levyref19_Disk_place.k14 x0 x1 z13_6 K13 (sLt x22_26 x1) Q w else levyref19_Disk_place.k14 x0 x1 z13_6 K13 false Q w)

def levyref19_Disk_place (x0 : Option Addr) (x1 : ByteArray) (Q : Int → Bool → World → Prop) (w : World) : Prop :=
  (Fix (σ := Int) (fun Ks s w => levyref19_Disk_place.l13 x0 x1 s Q (fun z13_6 w => Ks z13_6 w) w) 0 w)

theorem b_levyref19_Disk_place (x0 : Option Addr) (x1 : ByteArray) (Q : Int → Bool → World → Prop) (w : World) (h : levyref19_Disk_place x0 x1 Q w) {c : Code} (hb : Try.f38.body = some c) :
 ∀ a, Rep a 48 [(0, .pointer x0), (1, .string x1)] [] → c.wp Try.prog (bodyPost Try.prog Try.f38 (Rets fun v w => ∃ r0 : Int, ∃ r1 : Bool, v = (.tuple #[.int .i64 r0, .bool r1] : Value) ∧ Q r0 r1 w)) a w := by
 intro a R
 obtain rfl := Option.some.inj hb
 unfold levyref19_Disk_place at h
 refine wp_seq ?_
 refine wp_region_lit ?_
 refine oas R rfl rfl fun a R => ?_
 refine oas R rfl rfl fun a R => ?_
 refine wpList_nil ?_
 refine then_normal ?_
 refine wp_seq ?_
 refine wp_region_lit ?_
 refine oas R rfl rfl fun a R => ?_
 refine wpList_nil ?_
 refine then_normal ?_
 refine seq_join (fun a w => ∃ y1_6 : Int, Rep a 48 [(0, .pointer x0), (1, .string x1), (6, .int .i64 y1_6)] [] ∧ levyref19_Disk_place.k1 x0 x1 y1_6 Q w) ?_ ?_
 ·refine wp_block ?_
  refine wp_fix (σ := Int) (fun s a => Rep a 48 [(0, .pointer x0), (1, .string x1), (6, .int .i64 s)] []) h (R.weak ⟨rfl, rfl, rfl, trivial⟩) ?_
  rintro Ks C z13_6 a w hC R h
  have R : Rep a 48 [(0, .pointer x0), (1, .string x1), (6, .int .i64 z13_6)] [] := R
  have h : levyref19_Disk_place.l13 x0 x1 z13_6 Q (fun z13_6 w => Ks z13_6 w) w := h
  generalize hK13 : (fun z13_6 w => Ks z13_6 w) = K13 at h
  unfold levyref19_Disk_place.l13 at h
  refine wp_seq ?_
  refine seq_join (fun a w => ∃ y14_25 : Bool, Rep a 48 [(0, .pointer x0), (1, .string x1), (6, .int .i64 z13_6), (25, .bool y14_25)] [] ∧ levyref19_Disk_place.k14 x0 x1 z13_6 K13 y14_25 Q w) ?_ ?_
  ·refine wp_region_lit ?_
   refine omv R rfl rfl fun a R => ?_
   refine omv R rfl rfl fun a R => ?_
   obtain ⟨x9_17, cx9_17, h⟩ := h
   refine onl R rfl cx9_17 rfl fun a R => ?_
   refine ofd R rfl fd100_0 rfl fun a R => ?_
   obtain ⟨x11_18, cx11_18, h⟩ := h
   refine old R rfl Try.underlying22 rfl cx11_18 rfl fun a R => ?_
   refine op_val R (rn_len R rfl Try.underlying22) rfl fun a R => ?_
   refine op_val R (rn_bin (v := .bool (decide (z13_6 < ((x11_18.len : Nat) : Int)))) R rfl rfl rfl) rfl fun a R => ?_
   refine omv R rfl rfl fun a R => ?_
   rcases ite_cases h with ⟨g21, h⟩ | ⟨g21, h⟩
   ·refine op_guard R rfl rfl rfl g21 ?_
    refine omv R rfl rfl fun a R => ?_
    refine op_guard R rfl rfl rfl g21 ?_
    obtain ⟨x16_22, cx16_22, h⟩ := h
    refine onl R rfl cx16_22 rfl fun a R => ?_
    refine op_guard R rfl rfl rfl g21 ?_
    refine ofd R rfl fd100_0 rfl fun a R => ?_
    refine op_guard R rfl rfl rfl g21 ?_
    obtain ⟨x18_23, cx18_23, h⟩ := h
    refine old R rfl Try.underlying22 rfl cx18_23 rfl fun a R => ?_
    refine op_guard R rfl rfl rfl g21 ?_
    refine omv R rfl rfl fun a R => ?_
    refine op_guard R rfl rfl rfl g21 ?_
    obtain ⟨b24, x20_25, p24, i24, j24, e24, h⟩ := ix_e h
    refine op_val (v := .pointer (some x20_25)) R (by rw [e24]; exact rn_ixs (x := (.tmp 18)) (y := (.tmp 19)) R rfl p24 rfl Try.underlying22 sz74 i24 j24) rfl fun a R => ?_
    refine op_guard R rfl rfl rfl g21 ?_
    refine ofd R rfl fd74_0 rfl fun a R => ?_
    refine op_guard R rfl rfl rfl g21 ?_
    obtain ⟨x22_26, cx22_26, h⟩ := h
    refine old R rfl Try.underlying9 rfl cx22_26 rfl fun a R => ?_
    refine op_guard R rfl rfl rfl g21 ?_
    refine omv R rfl rfl fun a R => ?_
    refine op_guard R rfl rfl rfl g21 ?_
    refine op_val R (rn_binS (v := .bool (sLt x22_26 x1)) R rfl rfl rfl) rfl fun a R => ?_
    refine op_val R (rn_pickT R rfl g21 rfl) rfl fun a R => ?_
    refine wpList_nil ?_
    refine then_normal ?_
    exact ⟨(sLt x22_26 x1), R.weak ⟨rfl, rfl, rfl, rfl, trivial⟩, h⟩
   ·refine op_pass R rfl rfl rfl (ntf g21) (fun a R => ?_) (by intro s hs; cases hs; rfl)
    refine op_pass R rfl rfl rfl (ntf g21) (fun a R => ?_) (by intro s hs; cases hs; rfl)
    refine op_pass R rfl rfl rfl (ntf g21) (fun a R => ?_) (by intro s hs; cases hs; rfl)
    refine op_pass R rfl rfl rfl (ntf g21) (fun a R => ?_) (by intro s hs; cases hs; rfl)
    refine op_pass R rfl rfl rfl (ntf g21) (fun a R => ?_) (by intro s hs; cases hs; rfl)
    refine op_pass R rfl rfl rfl (ntf g21) (fun a R => ?_) (by intro s hs; cases hs; rfl)
    refine op_pass R rfl rfl rfl (ntf g21) (fun a R => ?_) (by intro s hs; cases hs; rfl)
    refine op_pass R rfl rfl rfl (ntf g21) (fun a R => ?_) (by intro s hs; cases hs; rfl)
    refine op_pass R rfl rfl rfl (ntf g21) (fun a R => ?_) (by intro s hs; cases hs; rfl)
    refine op_pass R rfl rfl rfl (ntf g21) (fun a R => ?_) (by intro s hs; cases hs; rfl)
    refine op_val R (rn_pickF R rfl g21 rfl) rfl fun a R => ?_
    refine wpList_nil ?_
    refine then_normal ?_
    exact ⟨false, R.weak ⟨rfl, rfl, rfl, rfl, trivial⟩, h⟩
  ·rintro a w ⟨y14_25, R, h⟩
   unfold levyref19_Disk_place.k14 at h
   rcases ite_cases h with ⟨g15, h⟩ | ⟨g15, h⟩
   ·refine wp_condT R (congrArg (fun b => some (Value.bool b)) g15) ?_
    refine wp_skip ?_
    refine then_normal ?_
    refine wp_block ?_
    refine wp_region_lit ?_
    refine omv R rfl rfl fun a R => ?_
    refine op_val R (rn_bin (v := .int .i64 (IntKind.i64.wrap (z13_6 + 1))) R rfl rfl rfl) rfl fun a R => ?_
    refine oas R rfl rfl fun a R => ?_
    refine wpList_nil ?_
    refine block_normal ?_
    refine then_normal ?_
    exact hC (IntKind.i64.wrap (z13_6 + 1)) _ _ (R.weak ⟨rfl, rfl, rfl, trivial⟩) (by rw [← hK13] at h; exact h)
   ·refine wp_condF R (congrArg (fun b => some (Value.bool b)) g15) ?_
    refine wp_exit ?_
    refine then_exit ?_
    refine then_exit ?_
    refine block_eq ?_
    refine then_normal ?_
    exact ⟨z13_6, R.weak ⟨rfl, rfl, rfl, trivial⟩, h⟩
 ·rintro a w ⟨y1_6, R, h⟩
  unfold levyref19_Disk_place.k1 at h
  refine seq_join (fun a w => ∃ y2_5 : Bool, Rep a 48 [(4, .int .i64 y1_6), (5, .bool y2_5)] [] ∧ levyref19_Disk_place.k2 y1_6 y2_5 Q w) ?_ ?_
  ·refine region_start mo fun inv => ?_
   refine seg_same (n := 21) (f := 21) (g := 1) (by kernel_rfl) fun inv => ?_
   refine dr_val (i := 0) R (waits_dom (by kernel_rfl) (by kernel_rfl)) (by kernel_rfl) inv rfl (by decide) (by kernel_rfl) (by kernel_rfl) (fun _ _ _ h => h) wanted_none (fun w' hS => rn_mv R rfl) rfl (by decide) fun inv a R => ?_
   refine dr_val (i := 1) R (waits_dom (by kernel_rfl) (by kernel_rfl)) (by kernel_rfl) inv rfl (by decide) (by kernel_rfl) (by kernel_rfl) (fun _ _ _ h => h) wanted_none (fun w' hS => rn_mv R rfl) rfl (by decide) fun inv a R => ?_
   refine dr_val (i := 2) R (waits_dom (by kernel_rfl) (by kernel_rfl)) (by kernel_rfl) inv rfl (by decide) (by kernel_rfl) (by kernel_rfl) (fun _ _ _ h => h) wanted_none (fun w' hS => rn_mv R rfl) rfl (by decide) fun inv a R => ?_
   obtain ⟨x31_3, cx31_3, h⟩ := h
   refine dr_val (i := 3) R (waits_dom (by kernel_rfl) (by kernel_rfl)) (by kernel_rfl) inv rfl (by decide) (by kernel_rfl) (by kernel_rfl) (fun _ _ _ h => h) wanted_none (fun w' hS => rn_nil R rfl cx31_3) rfl (by decide) fun inv a R => ?_
   refine dr_val (i := 4) R (waits_dom (by kernel_rfl) (by kernel_rfl)) (by kernel_rfl) inv rfl (by decide) (by kernel_rfl) (by kernel_rfl) (fun _ _ _ h => h) wanted_none (fun w' hS => rn_fld R rfl fd100_0) rfl (by decide) fun inv a R => ?_
   obtain ⟨x33_4, cx33_4, h⟩ := h
   refine dr_val (i := 5) R (waits_dom (by kernel_rfl) (by kernel_rfl)) (by kernel_rfl) inv rfl (by decide) (by kernel_rfl) (by kernel_rfl) (fun _ _ _ h => h) wanted_none (fun w' hS => rn_ld R rfl Try.underlying22 rfl (cell_heap' hS cx33_4)) rfl (by decide) fun inv a R => ?_
   refine dr_val (i := 6) R (waits_dom (by kernel_rfl) (by kernel_rfl)) (by kernel_rfl) inv rfl (by decide) (by kernel_rfl) (by kernel_rfl) (fun _ _ _ h => h) wanted_none (fun w' hS => rn_len R rfl Try.underlying22) rfl (by decide) fun inv a R => ?_
   refine dr_val (i := 7) R (waits_dom (by kernel_rfl) (by kernel_rfl)) (by kernel_rfl) inv rfl (by decide) (by kernel_rfl) (by kernel_rfl) (fun _ _ _ h => h) wanted_none (fun w' hS => rn_bin (v := .bool (decide (y1_6 < ((x33_4.len : Nat) : Int)))) R rfl rfl rfl) rfl (by decide) fun inv a R => ?_
   refine dr_val (i := 8) R (waits_dom (by kernel_rfl) (by kernel_rfl)) (by kernel_rfl) inv rfl (by decide) (by kernel_rfl) (by kernel_rfl) (fun _ _ _ h => h) wanted_none (fun w' hS => rn_mv R rfl) rfl (by decide) fun inv a R => ?_
   rcases ite_cases h with ⟨g7, h⟩ | ⟨g7, h⟩
   ·refine dr_val (i := 9) R (waits_dom (by kernel_rfl) (by kernel_rfl)) (by kernel_rfl) inv rfl (by decide) (by kernel_rfl) (by kernel_rfl) (fun _ _ _ h => h) (wanted_yes R rfl rfl rfl g7) (fun w' hS => rn_mv R rfl) rfl (by decide) fun inv a R => ?_
    obtain ⟨x38_8, cx38_8, h⟩ := h
    refine dr_val (i := 10) R (waits_dom (by kernel_rfl) (by kernel_rfl)) (by kernel_rfl) inv rfl (by decide) (by kernel_rfl) (by kernel_rfl) (fun _ _ _ h => h) (wanted_yes R rfl rfl rfl g7) (fun w' hS => rn_nil R rfl cx38_8) rfl (by decide) fun inv a R => ?_
    refine dr_val (i := 11) R (waits_dom (by kernel_rfl) (by kernel_rfl)) (by kernel_rfl) inv rfl (by decide) (by kernel_rfl) (by kernel_rfl) (fun _ _ _ h => h) (wanted_yes R rfl rfl rfl g7) (fun w' hS => rn_fld R rfl fd100_0) rfl (by decide) fun inv a R => ?_
    obtain ⟨x40_9, cx40_9, h⟩ := h
    refine dr_val (i := 12) R (waits_dom (by kernel_rfl) (by kernel_rfl)) (by kernel_rfl) inv rfl (by decide) (by kernel_rfl) (by kernel_rfl) (fun _ _ _ h => h) (wanted_yes R rfl rfl rfl g7) (fun w' hS => rn_ld R rfl Try.underlying22 rfl (cell_heap' hS cx40_9)) rfl (by decide) fun inv a R => ?_
    refine dr_val (i := 13) R (waits_dom (by kernel_rfl) (by kernel_rfl)) (by kernel_rfl) inv rfl (by decide) (by kernel_rfl) (by kernel_rfl) (fun _ _ _ h => h) (wanted_yes R rfl rfl rfl g7) (fun w' hS => rn_mv R rfl) rfl (by decide) fun inv a R => ?_
    obtain ⟨b10, x42_11, p10, i10, j10, e10, h⟩ := ix_e h
    refine dr_val (v := .pointer (some x42_11)) (i := 14) R (waits_dom (by kernel_rfl) (by kernel_rfl)) (by kernel_rfl) inv rfl (by decide) (by kernel_rfl) (by kernel_rfl) (fun _ _ _ h => h) (wanted_yes R rfl rfl rfl g7) (fun w' hS => by rw [e10]; exact rn_ixs (x := (.tmp 40)) (y := (.tmp 41)) R rfl p10 rfl Try.underlying22 sz74 i10 j10) rfl (by decide) fun inv a R => ?_
    refine dr_val (i := 15) R (waits_dom (by kernel_rfl) (by kernel_rfl)) (by kernel_rfl) inv rfl (by decide) (by kernel_rfl) (by kernel_rfl) (fun _ _ _ h => h) (wanted_yes R rfl rfl rfl g7) (fun w' hS => rn_fld R rfl fd74_0) rfl (by decide) fun inv a R => ?_
    obtain ⟨x44_12, cx44_12, h⟩ := h
    refine dr_val (i := 16) R (waits_dom (by kernel_rfl) (by kernel_rfl)) (by kernel_rfl) inv rfl (by decide) (by kernel_rfl) (by kernel_rfl) (fun _ _ _ h => h) (wanted_yes R rfl rfl rfl g7) (fun w' hS => rn_ld R rfl Try.underlying9 rfl (cell_heap' hS cx44_12)) rfl (by decide) fun inv a R => ?_
    refine dr_val (i := 17) R (waits_dom (by kernel_rfl) (by kernel_rfl)) (by kernel_rfl) inv rfl (by decide) (by kernel_rfl) (by kernel_rfl) (fun _ _ _ h => h) (wanted_yes R rfl rfl rfl g7) (fun w' hS => rn_mv R rfl) rfl (by decide) fun inv a R => ?_
    refine dr_val (i := 18) R (waits_dom (by kernel_rfl) (by kernel_rfl)) (by kernel_rfl) inv rfl (by decide) (by kernel_rfl) (by kernel_rfl) (fun _ _ _ h => h) (wanted_yes R rfl rfl rfl g7) (fun w' hS => rn_binS (v := .bool (sEq x44_12 x1)) R rfl rfl rfl) rfl (by decide) fun inv a R => ?_
    refine dr_val (i := 19) R (waits_dom (by kernel_rfl) (by kernel_rfl)) (by kernel_rfl) inv rfl (by decide) (by kernel_rfl) (by kernel_rfl) (fun _ _ _ h => h) wanted_none (fun w' hS => rn_pickT R rfl g7 rfl) rfl (by decide) fun inv a R => ?_
    refine dr_val (i := 20) R (waits_dom (by kernel_rfl) (by kernel_rfl)) (by kernel_rfl) inv rfl (by decide) (by kernel_rfl) (by kernel_rfl) (fun _ _ _ h => h) wanted_none (fun w' hS => rn_as R rfl) rfl (by decide) fun inv a R => ?_
    refine seg_end (by kernel_rfl) ?_
    refine any_tail 21 (by kernel_rfl) ?_
    refine oas R rfl rfl fun a R => ?_
    refine wpList_nil ?_
    refine then_normal ?_
    exact ⟨(sEq x44_12 x1), R.weak ⟨rfl, rfl, trivial⟩, h⟩
   ·refine dr_pass (i := 9) R (waits_dom (by kernel_rfl) (by kernel_rfl)) (by kernel_rfl) inv rfl (by decide) (by kernel_rfl) (by kernel_rfl) (fun _ _ _ h => h) (wanted_no R rfl rfl rfl (ntf g7)) rfl rfl fun inv a R => ?_
    refine dr_pass (i := 10) R (waits_dom (by kernel_rfl) (by kernel_rfl)) (by kernel_rfl) inv rfl (by decide) (by kernel_rfl) (by kernel_rfl) (fun _ _ _ h => h) (wanted_no R rfl rfl rfl (ntf g7)) rfl rfl fun inv a R => ?_
    refine dr_pass (i := 11) R (waits_dom (by kernel_rfl) (by kernel_rfl)) (by kernel_rfl) inv rfl (by decide) (by kernel_rfl) (by kernel_rfl) (fun _ _ _ h => h) (wanted_no R rfl rfl rfl (ntf g7)) rfl rfl fun inv a R => ?_
    refine dr_pass (i := 12) R (waits_dom (by kernel_rfl) (by kernel_rfl)) (by kernel_rfl) inv rfl (by decide) (by kernel_rfl) (by kernel_rfl) (fun _ _ _ h => h) (wanted_no R rfl rfl rfl (ntf g7)) rfl rfl fun inv a R => ?_
    refine dr_pass (i := 13) R (waits_dom (by kernel_rfl) (by kernel_rfl)) (by kernel_rfl) inv rfl (by decide) (by kernel_rfl) (by kernel_rfl) (fun _ _ _ h => h) (wanted_no R rfl rfl rfl (ntf g7)) rfl rfl fun inv a R => ?_
    refine dr_pass (i := 14) R (waits_dom (by kernel_rfl) (by kernel_rfl)) (by kernel_rfl) inv rfl (by decide) (by kernel_rfl) (by kernel_rfl) (fun _ _ _ h => h) (wanted_no R rfl rfl rfl (ntf g7)) rfl rfl fun inv a R => ?_
    refine dr_pass (i := 15) R (waits_dom (by kernel_rfl) (by kernel_rfl)) (by kernel_rfl) inv rfl (by decide) (by kernel_rfl) (by kernel_rfl) (fun _ _ _ h => h) (wanted_no R rfl rfl rfl (ntf g7)) rfl rfl fun inv a R => ?_
    refine dr_pass (i := 16) R (waits_dom (by kernel_rfl) (by kernel_rfl)) (by kernel_rfl) inv rfl (by decide) (by kernel_rfl) (by kernel_rfl) (fun _ _ _ h => h) (wanted_no R rfl rfl rfl (ntf g7)) rfl rfl fun inv a R => ?_
    refine dr_pass (i := 17) R (waits_dom (by kernel_rfl) (by kernel_rfl)) (by kernel_rfl) inv rfl (by decide) (by kernel_rfl) (by kernel_rfl) (fun _ _ _ h => h) (wanted_no R rfl rfl rfl (ntf g7)) rfl rfl fun inv a R => ?_
    refine dr_pass (i := 18) R (waits_dom (by kernel_rfl) (by kernel_rfl)) (by kernel_rfl) inv rfl (by decide) (by kernel_rfl) (by kernel_rfl) (fun _ _ _ h => h) (wanted_no R rfl rfl rfl (ntf g7)) rfl rfl fun inv a R => ?_
    refine dr_val (i := 19) R (waits_dom (by kernel_rfl) (by kernel_rfl)) (by kernel_rfl) inv rfl (by decide) (by kernel_rfl) (by kernel_rfl) (fun _ _ _ h => h) wanted_none (fun w' hS => rn_pickF R rfl g7 rfl) rfl (by decide) fun inv a R => ?_
    refine dr_val (i := 20) R (waits_dom (by kernel_rfl) (by kernel_rfl)) (by kernel_rfl) inv rfl (by decide) (by kernel_rfl) (by kernel_rfl) (fun _ _ _ h => h) wanted_none (fun w' hS => rn_as R rfl) rfl (by decide) fun inv a R => ?_
    refine seg_end (by kernel_rfl) ?_
    refine any_tail 21 (by kernel_rfl) ?_
    refine oas R rfl rfl fun a R => ?_
    refine wpList_nil ?_
    refine then_normal ?_
    exact ⟨false, R.weak ⟨rfl, rfl, trivial⟩, h⟩
  ·rintro a w ⟨y2_5, R, h⟩
   unfold levyref19_Disk_place.k2 at h
   refine wp_ret ?_
   exact post_ret R rfl rfl ⟨y1_6, y2_5, rfl, h⟩
theorem s_levyref19_Disk_place (x0 : Option Addr) (x1 : ByteArray) (Q : Int → Bool → World → Prop) (w : World) (h : levyref19_Disk_place x0 x1 Q w) :
    Calls Try.prog 38 #[.pointer x0, .string x1] w (Rets fun v w => ∃ r0 : Int, ∃ r1 : Bool, v = (.tuple #[.int .i64 r0, .bool r1] : Value) ∧ Q r0 r1 w) :=
  calls_body (args := [.pointer x0, .string x1]) Try.func38 rfl rfl (Nat.le_of_ble_eq_true rfl) (L := [(0, .pointer x0), (1, .string x1)]) (by simp [starts]) (b_levyref19_Disk_place x0 x1 Q w h rfl)

/-! (levyref19.Disk).add -/

def levyref19_Disk_add (x0 : Option Addr) (x1_0 : ByteArray) (x1_1 : Sl) (x1_2 : Int) (Q : World → Prop) (w : World) : Prop :=
  al w (.cells #[.string x1_0, Sl.val x1_1, .int .i64 x1_2] 74) fun x3_1 w => ld Value.string w (x3_1.add 0) fun x10_3 => levyref19_Disk_place x0 x10_3 (fun x11_4_0 x11_4_1 w => nn x0 fun x16_5 => ld Sl.val w (x16_5.add 0) fun x18_6 => (0 ≤ x11_4_0 ∧ x11_4_0 ≤ ((x18_6.cap : Nat) : Int) ∧ rn Try.prog Sl.val (Builtin.append_ #[22, 22] 22 [.slice none 0 0, Sl.val (cutSl ⟨x18_6.p, x18_6.len, x18_6.cap⟩ 3 0 (Int.toNat x11_4_0) x18_6.cap)].toArray) w fun x21_9 w => ld Value.string w (x3_1.add 0) fun x23_10_0 => ld Sl.val w (x3_1.add 1) fun x23_10_1 => ld (Value.int .i64) w (x3_1.add 2) fun x23_10_2 => al w (.cells #[.string x23_10_0, Sl.val x23_10_1, .int .i64 x23_10_2] 74) fun x24_11 w => rn Try.prog Sl.val (Builtin.append_ #[22, 22] 22 [Sl.val x21_9, .slice (some x24_11) 1 1].toArray) w fun x25_14 w => nn x0 fun x28_15 => ld Sl.val w (x28_15.add 0) fun x30_16 => (0 ≤ x11_4_0 ∧ x11_4_0 ≤ ((x30_16.len : Nat) : Int) ∧ rn Try.prog Sl.val (Builtin.append_ #[22, 22] 22 [Sl.val x25_14, Sl.val (cutSl ⟨x30_16.p, x30_16.len, x30_16.cap⟩ 3 (Int.toNat x11_4_0) x30_16.len x30_16.cap)].toArray) w fun x33_19 w => nn x0 fun x36_20 => st w (x36_20.add 0) (Sl.val x33_19) fun w => Q  w))) w

theorem b_levyref19_Disk_add (x0 : Option Addr) (x1_0 : ByteArray) (x1_1 : Sl) (x1_2 : Int) (Q : World → Prop) (w : World) (h : levyref19_Disk_add x0 x1_0 x1_1 x1_2 Q w) {c : Code} (hb : Try.f39.body = some c) :
 ∀ a, Rep a 38 [(0, .pointer x0), (1, .agg #[.string x1_0, Sl.val x1_1, .int .i64 x1_2])] [] → c.wp Try.prog (bodyPost Try.prog Try.f39 (Rets fun v w => v = (.tuple #[] : Value) ∧ Q w)) a w := by
 intro a R
 obtain rfl := Option.some.inj hb
 unfold levyref19_Disk_add at h
 refine wp_seq ?_
 refine wp_region_lit ?_
 obtain ⟨x3_1, e2, h⟩ := al_e h
 refine op_val (v := .pointer (some x3_1)) R (by rw [e2]; exact rn_bx (x := (.tmp 1)) (t := 74) R rfl) rfl fun a R => ?_
 refine wpList_nil ?_
 refine then_normal ?_
 refine wp_seq ?_
 refine wp_region_lit ?_
 refine omv R rfl rfl fun a R => ?_
 refine ofd R rfl fd74_0 rfl fun a R => ?_
 obtain ⟨x10_3, cx10_3, h⟩ := h
 refine old R rfl Try.underlying9 rfl cx10_3 rfl fun a R => ?_
 refine op_call R (rn_calls R rfl cf38) rfl ?_
 refine call_mono (s_levyref19_Disk_place _ _ _ _ h) ?_
 rintro _ w22 ⟨x11_4_0, x11_4_1, rfl, h⟩ a R
 refine omv R rfl rfl fun a R => ?_
 refine op_val R (rn_ext R rfl rfl) rfl fun a R => ?_
 refine op_val R (rn_ext R rfl rfl) rfl fun a R => ?_
 refine oas R rfl rfl fun a R => ?_
 refine oas R rfl rfl fun a R => ?_
 refine wpList_nil ?_
 refine then_normal ?_
 refine wp_seq ?_
 refine wp_region_lit ?_
 refine oas R rfl rfl fun a R => ?_
 refine wpList_nil ?_
 refine then_normal ?_
 refine wp_seq ?_
 refine wp_region_lit ?_
 refine omv R rfl rfl fun a R => ?_
 refine omv R rfl rfl fun a R => ?_
 obtain ⟨x16_5, cx16_5, h⟩ := h
 refine onl R rfl cx16_5 rfl fun a R => ?_
 refine ofd R rfl fd100_0 rfl fun a R => ?_
 obtain ⟨x18_6, cx18_6, h⟩ := h
 refine old R rfl Try.underlying22 rfl cx18_6 rfl fun a R => ?_
 refine omv R rfl rfl fun a R => ?_
 obtain ⟨s7_0, s7_1, h⟩ := h
 refine op_val R (rn_sl R rfl rfl (evo R rfl) rfl (fun w => bounds2 (lo := none) (hi := (some (.i64, x11_4_0))) 0 (Int.toNat x11_4_0) ⟨s7_0, s7_1, rfl⟩ rfl w) Try.underlying22 sz74) rfl fun a R => ?_
 obtain ⟨x21_9, w8, cx21_9, h⟩ := h
 refine op_val R (rn_bi (vs := [.slice none 0 0, Sl.val (cutSl ⟨x18_6.p, x18_6.len, x18_6.cap⟩ 3 0 (Int.toNat x11_4_0) x18_6.cap)]) R rfl (fun _ => rfl) cx21_9) rfl fun a R => ?_
 refine oas R rfl rfl fun a R => ?_
 refine wpList_nil ?_
 refine then_normal ?_
 refine wp_seq ?_
 refine wp_region_lit ?_
 refine omv R rfl rfl fun a R => ?_
 obtain ⟨x23_10_0, cx23_10_0, x23_10_1, cx23_10_1, x23_10_2, cx23_10_2, h⟩ := h
 refine op_val R (rn_ldN (cs := [.string x23_10_0, Sl.val x23_10_1, .int .i64 x23_10_2]) R rfl Try.underlying74 rfl sz74 ⟨cx23_10_0, cx23_10_1, cx23_10_2, trivial⟩) rfl fun a R => ?_
 obtain ⟨x24_11, e12, h⟩ := al_e h
 refine op_val (v := .slice (some x24_11) 1 1) R (by rw [e12]; exact rn_buildSlice (t := 22) (len := 1) (xs := [(0, (.tmp 23))]) (cells := #[.string x23_10_0, Sl.val x23_10_1, .int .i64 x23_10_2]) (e := 74) R rfl (fun w => by kernel_rfl)) rfl fun a R => ?_
 obtain ⟨x25_14, w13, cx25_14, h⟩ := h
 refine op_val R (rn_bi (vs := [Sl.val x21_9, .slice (some x24_11) 1 1]) R rfl (fun _ => rfl) cx25_14) rfl fun a R => ?_
 refine oas R rfl rfl fun a R => ?_
 refine wpList_nil ?_
 refine then_normal ?_
 refine wp_seq ?_
 refine wp_region_lit ?_
 refine omv R rfl rfl fun a R => ?_
 refine omv R rfl rfl fun a R => ?_
 obtain ⟨x28_15, cx28_15, h⟩ := h
 refine onl R rfl cx28_15 rfl fun a R => ?_
 refine ofd R rfl fd100_0 rfl fun a R => ?_
 obtain ⟨x30_16, cx30_16, h⟩ := h
 refine old R rfl Try.underlying22 rfl cx30_16 rfl fun a R => ?_
 refine omv R rfl rfl fun a R => ?_
 obtain ⟨s17_0, s17_1, h⟩ := h
 refine op_val R (rn_sl R rfl (evo R rfl) rfl rfl (fun w => bounds2 (lo := (some (.i64, x11_4_0))) (hi := none) (Int.toNat x11_4_0) x30_16.len rfl ⟨s17_0, s17_1, rfl⟩ w) Try.underlying22 sz74) rfl fun a R => ?_
 obtain ⟨x33_19, w18, cx33_19, h⟩ := h
 refine op_val R (rn_bi (vs := [Sl.val x25_14, Sl.val (cutSl ⟨x30_16.p, x30_16.len, x30_16.cap⟩ 3 (Int.toNat x11_4_0) x30_16.len x30_16.cap)]) R rfl (fun _ => rfl) cx33_19) rfl fun a R => ?_
 refine oas R rfl rfl fun a R => ?_
 refine wpList_nil ?_
 refine then_normal ?_
 refine wp_region_lit ?_
 refine omv R rfl rfl fun a R => ?_
 refine omv R rfl rfl fun a R => ?_
 obtain ⟨x36_20, cx36_20, h⟩ := h
 refine onl R rfl cx36_20 rfl fun a R => ?_
 refine ofd R rfl fd100_0 rfl fun a R => ?_
 obtain ⟨q21, f21, h⟩ := h
 refine op_unit R (rn_st R rfl rfl rfl sz22 q21 f21) fun a R => ?_
 refine wpList_nil ?_
 exact post_end R rfl rfl ⟨rfl, h⟩
theorem s_levyref19_Disk_add (x0 : Option Addr) (x1_0 : ByteArray) (x1_1 : Sl) (x1_2 : Int) (Q : World → Prop) (w : World) (h : levyref19_Disk_add x0 x1_0 x1_1 x1_2 Q w) :
    Calls Try.prog 39 #[.pointer x0, .agg #[.string x1_0, Sl.val x1_1, .int .i64 x1_2]] w (Rets fun v w => v = (.tuple #[] : Value) ∧ Q w) :=
  calls_body (args := [.pointer x0, .agg #[.string x1_0, Sl.val x1_1, .int .i64 x1_2]]) Try.func39 rfl rfl (Nat.le_of_ble_eq_true rfl) (L := [(0, .pointer x0), (1, .agg #[.string x1_0, Sl.val x1_1, .int .i64 x1_2])]) (by simp [starts]) (b_levyref19_Disk_add x0 x1_0 x1_1 x1_2 Q w h rfl)

end Go.Proofs.Ytjnifnlkicajhaa.Fs
