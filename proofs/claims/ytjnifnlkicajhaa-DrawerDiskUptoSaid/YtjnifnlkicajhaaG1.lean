/-
  Written by a program of this claim (wip/gen/gen.py): what each Go function asks of the world, as a plain predicate, and that it is enough. No condition is put on any statement here.
-/
import Derived.Test.YtjnifnlkicajhaaVcDraw
import Derived.Test.YtjnifnlkicajhaaFacts
import Derived.Test.YtjnifnlkicajhaaG0
set_option linter.unusedVariables false
set_option maxRecDepth 100000
set_option maxHeartbeats 2000000
namespace Go.Proofs.Ytjnifnlkicajhaa.Fs
open Go Vc

/-! levyref19.NewDisk -/

def levyref19_NewDisk.k6 (x12_1 : Addr) (Q : Option Addr → Int → World → Prop) (w : World) : Prop :=
  Q (some x12_1) 0 w

def levyref19_NewDisk.k21 (x0 : Sl) (x12_1 : Addr) (z7_5 : Int) (K7 : Int → World → Prop) (x6_14 : Addr) (y21_59 : Bool) (Q : Option Addr → Int → World → Prop) (w : World) : Prop :=
  (if y21_59 = true then Q none 195 w else ld Sl.val w (x6_14.add 1) fun x61_23 => levyref19_copied x61_23 (fun x62_24_0 w => ld Value.string w (x6_14.add 0) fun x65_25 => ld (Value.int .i64) w (x6_14.add 2) fun x68_26 => levyref19_Disk_add (some x12_1) x65_25 x62_24_0 x68_26 (fun  w => K7 (IntKind.i64.wrap (z7_5 + 1)) w) w) w)

def levyref19_NewDisk.l7 (x0 : Sl) (x12_1 : Addr) (z7_5 : Int) (Q : Option Addr → Int → World → Prop) (K7 : Int → World → Prop) (w : World) : Prop :=
  (if (decide (z7_5 < ((x0.len : Nat) : Int))) = true then ix x0.p x0.len z7_5 3 fun x24_12 => ld Value.string w (x24_12.add 0) fun x25_13_0 => ld Sl.val w (x24_12.add 1) fun x25_13_1 => ld (Value.int .i64) w (x24_12.add 2) fun x25_13_2 => al w (.cells #[.string ⟨#[]⟩, .slice none 0 0, .int .i64 0] 74) fun x6_14 w => stN w x6_14 [.string x25_13_0, Sl.val x25_13_1, .int .i64 x25_13_2] fun w => ld Value.string w (x6_14.add 0) fun x27_17 => levyref19_named x27_17 (fun x28_18_0 w => ld Value.string w (x6_14.add 0) fun x32_19 => levyref19_Disk_place (some x12_1) x32_19 (fun x33_20_0 x33_20_1 w => (if x28_18_0 = true then (if x33_20_1 = true then levyref19_NewDisk.k21 x0 x12_1 z7_5 K7 x6_14 true Q w else ld Sl.val w (x6_14.add 1) fun x43_33 => (if (decide (((x43_33.len : Nat) : Int) > 2097152)) = true then levyref19_NewDisk.k21 x0 x12_1 z7_5 K7 x6_14 true Q w else ld (Value.int .i64) w (x6_14.add 2) fun x49_37 => (if (decide (x49_37 < 0)) = true then levyref19_NewDisk.k21 x0 x12_1 z7_5 K7 x6_14 true Q w else ld (Value.int .i64) w (x6_14.add 2) fun x54_40 => ld Sl.val w (x6_14.add 1) fun x56_41 => levyref19_NewDisk.k21 x0 x12_1 z7_5 K7 x6_14 (decide (x54_40 > ((x56_41.len : Nat) : Int))) Q w))) else levyref19_NewDisk.k21 x0 x12_1 z7_5 K7 x6_14 true Q w)) w) w else levyref19_NewDisk.k6 x12_1 Q w)

def levyref19_NewDisk (x0 : Sl) (Q : Option Addr → Int → World → Prop) (w : World) : Prop :=
  al w (.cells #[.slice none 0 0, .bool false, .int .i64 (-1), .int .i64 0, .int .i64 0] 100) fun x12_1 w => (if (decide (((x0.len : Nat) : Int) > 40)) = true then Q none 195 w else (Fix (σ := Int) (fun Ks s w => levyref19_NewDisk.l7 x0 x12_1 s Q (fun z7_5 w => Ks z7_5 w) w) 0 w))

theorem b_levyref19_NewDisk (x0 : Sl) (Q : Option Addr → Int → World → Prop) (w : World) (h : levyref19_NewDisk x0 Q w) {c : Code} (hb : Try.f10.body = some c) :
 ∀ a, Rep a 72 [(0, Sl.val x0)] [] → c.wp Try.prog (bodyPost Try.prog Try.f10 (Rets fun v w => ∃ r0 : Option Addr, ∃ r1 : Int, v = (.tuple #[.pointer r0, .int .i64 r1] : Value) ∧ Q r0 r1 w)) a w := by
 intro a R
 obtain rfl := Option.some.inj hb
 unfold levyref19_NewDisk at h
 refine wp_seq ?_
 refine wp_region_lit ?_
 refine oas R rfl rfl fun a R => ?_
 refine oas R rfl rfl fun a R => ?_
 refine wpList_nil ?_
 refine then_normal ?_
 refine wp_seq ?_
 refine wp_region_lit ?_
 refine op_val R (rn_build (r := .agg #[.slice none 0 0, .bool false, .int .i64 (-1), .int .i64 0, .int .i64 0]) R rfl (fun w => by kernel_rfl)) rfl fun a R => ?_
 obtain ⟨x12_1, e2, h⟩ := al_e h
 refine op_val (v := .pointer (some x12_1)) R (by rw [e2]; exact rn_bx (x := (.tmp 11)) (t := 100) R rfl) rfl fun a R => ?_
 refine oas R rfl rfl fun a R => ?_
 refine wpList_nil ?_
 refine then_normal ?_
 refine wp_seq ?_
 refine wp_seq ?_
 refine wp_region_lit ?_
 refine omv R rfl rfl fun a R => ?_
 refine op_val R (rn_len R rfl Try.underlying22) rfl fun a R => ?_
 refine op_val R (rn_bin (v := .bool (decide (((x0.len : Nat) : Int) > 40))) R rfl rfl rfl) rfl fun a R => ?_
 refine wpList_nil ?_
 refine then_normal ?_
 rcases ite_cases h with ⟨g5, h⟩ | ⟨g5, h⟩
 ·refine wp_condT R (congrArg (fun b => some (Value.bool b)) g5) ?_
  refine wp_seq ?_
  refine wp_region_lit ?_
  refine oas R rfl rfl fun a R => ?_
  refine oas R rfl rfl fun a R => ?_
  refine wpList_nil ?_
  refine then_normal ?_
  refine wp_ret ?_
  refine then_ret ?_
  exact post_ret R rfl rfl ⟨none, 195, rfl, h⟩
 ·refine wp_condF R (congrArg (fun b => some (Value.bool b)) g5) ?_
  refine wp_skip ?_
  refine then_normal ?_
  refine seq_join (fun a w => Rep a 72 [(4, .pointer (some x12_1))] [] ∧ levyref19_NewDisk.k6 x12_1 Q w) ?_ ?_
  ·refine wp_seq ?_
   refine wp_region_lit ?_
   refine oas R rfl rfl fun a R => ?_
   refine wpList_nil ?_
   refine then_normal ?_
   refine wp_block ?_
   refine wp_fix (σ := Int) (fun s a => Rep a 72 [(0, Sl.val x0), (4, .pointer (some x12_1)), (5, .int .i64 s)] []) h (R.weak ⟨rfl, rfl, rfl, trivial⟩) ?_
   rintro Ks C z7_5 a w hC R h
   have R : Rep a 72 [(0, Sl.val x0), (4, .pointer (some x12_1)), (5, .int .i64 z7_5)] [] := R
   have h : levyref19_NewDisk.l7 x0 x12_1 z7_5 Q (fun z7_5 w => Ks z7_5 w) w := h
   generalize hK7 : (fun z7_5 w => Ks z7_5 w) = K7 at h
   unfold levyref19_NewDisk.l7 at h
   refine wp_seq ?_
   refine wp_seq ?_
   refine wp_region_lit ?_
   refine omv R rfl rfl fun a R => ?_
   refine omv R rfl rfl fun a R => ?_
   refine op_val R (rn_len R rfl Try.underlying22) rfl fun a R => ?_
   refine op_val R (rn_bin (v := .bool (decide (z7_5 < ((x0.len : Nat) : Int)))) R rfl rfl rfl) rfl fun a R => ?_
   refine wpList_nil ?_
   refine then_normal ?_
   rcases ite_cases h with ⟨g10, h⟩ | ⟨g10, h⟩
   ·refine wp_condT R (congrArg (fun b => some (Value.bool b)) g10) ?_
    refine wp_skip ?_
    refine then_normal ?_
    refine wp_seq ?_
    refine wp_block ?_
    refine wp_seq ?_
    refine wp_region_lit ?_
    refine omv R rfl rfl fun a R => ?_
    refine omv R rfl rfl fun a R => ?_
    obtain ⟨b11, x24_12, p11, i11, j11, e11, h⟩ := ix_e h
    refine op_val (v := .pointer (some x24_12)) R (by rw [e11]; exact rn_ixs (x := (.tmp 22)) (y := (.tmp 23)) R rfl p11 rfl Try.underlying22 sz74 i11 j11) rfl fun a R => ?_
    obtain ⟨x25_13_0, cx25_13_0, x25_13_1, cx25_13_1, x25_13_2, cx25_13_2, h⟩ := h
    refine op_val R (rn_ldN (cs := [.string x25_13_0, Sl.val x25_13_1, .int .i64 x25_13_2]) R rfl Try.underlying74 rfl sz74 ⟨cx25_13_0, cx25_13_1, cx25_13_2, trivial⟩) rfl fun a R => ?_
    obtain ⟨x6_14, e15, h⟩ := al_e h
    refine op_val (v := .pointer (some x6_14)) R (by rw [e15]; exact rn_al R ze74) rfl fun a R => ?_
    obtain ⟨q16, h⟩ := h
    refine op_unit R (rn_stN (vs := [.string x25_13_0, Sl.val x25_13_1, .int .i64 x25_13_2]) R rfl rfl (ao ⟨rfl, rfl, rfl, trivial⟩) sz74 q16) fun a R => ?_
    refine wpList_nil ?_
    refine then_normal ?_
    refine wp_seq ?_
    refine wp_region_lit ?_
    refine ofd R rfl fd74_0 rfl fun a R => ?_
    obtain ⟨x27_17, cx27_17, h⟩ := h
    refine old R rfl Try.underlying9 rfl cx27_17 rfl fun a R => ?_
    refine op_call R (rn_calls R rfl cf37) rfl ?_
    refine call_mono (s_levyref19_named _ _ _ h) ?_
    rintro _ w45 ⟨x28_18_0, rfl, h⟩ a R
    refine oas R rfl rfl fun a R => ?_
    refine wpList_nil ?_
    refine then_normal ?_
    refine wp_seq ?_
    refine wp_region_lit ?_
    refine omv R rfl rfl fun a R => ?_
    refine ofd R rfl fd74_0 rfl fun a R => ?_
    obtain ⟨x32_19, cx32_19, h⟩ := h
    refine old R rfl Try.underlying9 rfl cx32_19 rfl fun a R => ?_
    refine op_call R (rn_calls R rfl cf38) rfl ?_
    refine call_mono (s_levyref19_Disk_place _ _ _ _ h) ?_
    rintro _ w44 ⟨x33_20_0, x33_20_1, rfl, h⟩ a R
    refine omv R rfl rfl fun a R => ?_
    refine op_val R (rn_ext R rfl rfl) rfl fun a R => ?_
    refine op_val R (rn_ext R rfl rfl) rfl fun a R => ?_
    refine oas R rfl rfl fun a R => ?_
    refine oas R rfl rfl fun a R => ?_
    refine wpList_nil ?_
    refine then_normal ?_
    refine wp_seq ?_
    refine seq_join (fun a w => ∃ y21_59 : Bool, Rep a 72 [(0, Sl.val x0), (4, .pointer (some x12_1)), (5, .int .i64 z7_5), (6, .pointer (some x6_14)), (59, .bool y21_59)] [] ∧ levyref19_NewDisk.k21 x0 x12_1 z7_5 K7 x6_14 y21_59 Q w) ?_ ?_
    ·refine wp_region_lit ?_
     refine omv R rfl rfl fun a R => ?_
     refine op_val R (rn_un (v := .bool (!x28_18_0)) R rfl rfl) rfl fun a R => ?_
     refine omv R rfl rfl fun a R => ?_
     rcases ite_cases h with ⟨g31, h⟩ | ⟨g31, h⟩
     ·refine op_guard R rfl rfl rfl (nf g31) ?_
      refine omv R rfl rfl fun a R => ?_
      refine op_val R (rn_pickF R rfl (nf g31) rfl) rfl fun a R => ?_
      refine omv R rfl rfl fun a R => ?_
      rcases ite_cases h with ⟨g32, h⟩ | ⟨g32, h⟩
      ·refine op_pass R rfl rfl rfl (nft g32) (fun a R => ?_) (by intro s hs; cases hs; rfl)
       refine op_pass R rfl rfl rfl (nft g32) (fun a R => ?_) (by intro s hs; cases hs; rfl)
       refine op_pass R rfl rfl rfl (nft g32) (fun a R => ?_) (by intro s hs; cases hs; rfl)
       refine op_pass R rfl rfl rfl (nft g32) (fun a R => ?_) (by intro s hs; cases hs; rfl)
       refine op_val R (rn_pickT R rfl g32 rfl) rfl fun a R => ?_
       refine omv R rfl rfl fun a R => ?_
       refine op_pass R rfl rfl rfl (nft rfl) (fun a R => ?_) (by intro s hs; cases hs; rfl)
       refine op_pass R rfl rfl rfl (nft rfl) (fun a R => ?_) (by intro s hs; cases hs; rfl)
       refine op_pass R rfl rfl rfl (nft rfl) (fun a R => ?_) (by intro s hs; cases hs; rfl)
       refine op_val R (rn_pickT R rfl rfl rfl) rfl fun a R => ?_
       refine omv R rfl rfl fun a R => ?_
       refine op_pass R rfl rfl rfl (nft rfl) (fun a R => ?_) (by intro s hs; cases hs; rfl)
       refine op_pass R rfl rfl rfl (nft rfl) (fun a R => ?_) (by intro s hs; cases hs; rfl)
       refine op_pass R rfl rfl rfl (nft rfl) (fun a R => ?_) (by intro s hs; cases hs; rfl)
       refine op_pass R rfl rfl rfl (nft rfl) (fun a R => ?_) (by intro s hs; cases hs; rfl)
       refine op_pass R rfl rfl rfl (nft rfl) (fun a R => ?_) (by intro s hs; cases hs; rfl)
       refine op_pass R rfl rfl rfl (nft rfl) (fun a R => ?_) (by intro s hs; cases hs; rfl)
       refine op_val R (rn_pickT R rfl rfl rfl) rfl fun a R => ?_
       refine wpList_nil ?_
       refine then_normal ?_
       exact ⟨true, R.weak ⟨rfl, rfl, rfl, rfl, rfl, trivial⟩, h⟩
      ·refine op_guard R rfl rfl rfl g32 ?_
       refine ofd R rfl fd74_1 rfl fun a R => ?_
       refine op_guard R rfl rfl rfl g32 ?_
       obtain ⟨x43_33, cx43_33, h⟩ := h
       refine old R rfl Try.underlying34 rfl cx43_33 rfl fun a R => ?_
       refine op_guard R rfl rfl rfl g32 ?_
       refine op_val R (rn_len R rfl Try.underlying34) rfl fun a R => ?_
       refine op_guard R rfl rfl rfl g32 ?_
       refine op_val R (rn_bin (v := .bool (decide (((x43_33.len : Nat) : Int) > 2097152))) R rfl rfl rfl) rfl fun a R => ?_
       refine op_val R (rn_pickF R rfl g32 rfl) rfl fun a R => ?_
       refine omv R rfl rfl fun a R => ?_
       rcases ite_cases h with ⟨g36, h⟩ | ⟨g36, h⟩
       ·refine op_pass R rfl rfl rfl (nft g36) (fun a R => ?_) (by intro s hs; cases hs; rfl)
        refine op_pass R rfl rfl rfl (nft g36) (fun a R => ?_) (by intro s hs; cases hs; rfl)
        refine op_pass R rfl rfl rfl (nft g36) (fun a R => ?_) (by intro s hs; cases hs; rfl)
        refine op_val R (rn_pickT R rfl g36 rfl) rfl fun a R => ?_
        refine omv R rfl rfl fun a R => ?_
        refine op_pass R rfl rfl rfl (nft rfl) (fun a R => ?_) (by intro s hs; cases hs; rfl)
        refine op_pass R rfl rfl rfl (nft rfl) (fun a R => ?_) (by intro s hs; cases hs; rfl)
        refine op_pass R rfl rfl rfl (nft rfl) (fun a R => ?_) (by intro s hs; cases hs; rfl)
        refine op_pass R rfl rfl rfl (nft rfl) (fun a R => ?_) (by intro s hs; cases hs; rfl)
        refine op_pass R rfl rfl rfl (nft rfl) (fun a R => ?_) (by intro s hs; cases hs; rfl)
        refine op_pass R rfl rfl rfl (nft rfl) (fun a R => ?_) (by intro s hs; cases hs; rfl)
        refine op_val R (rn_pickT R rfl rfl rfl) rfl fun a R => ?_
        refine wpList_nil ?_
        refine then_normal ?_
        exact ⟨true, R.weak ⟨rfl, rfl, rfl, rfl, rfl, trivial⟩, h⟩
       ·refine op_guard R rfl rfl rfl g36 ?_
        refine ofd R rfl fd74_2 rfl fun a R => ?_
        refine op_guard R rfl rfl rfl g36 ?_
        obtain ⟨x49_37, cx49_37, h⟩ := h
        refine old R rfl Try.underlying3 rfl cx49_37 rfl fun a R => ?_
        refine op_guard R rfl rfl rfl g36 ?_
        refine op_val R (rn_bin (v := .bool (decide (x49_37 < 0))) R rfl rfl rfl) rfl fun a R => ?_
        refine op_val R (rn_pickF R rfl g36 rfl) rfl fun a R => ?_
        refine omv R rfl rfl fun a R => ?_
        rcases ite_cases h with ⟨g39, h⟩ | ⟨g39, h⟩
        ·refine op_pass R rfl rfl rfl (nft g39) (fun a R => ?_) (by intro s hs; cases hs; rfl)
         refine op_pass R rfl rfl rfl (nft g39) (fun a R => ?_) (by intro s hs; cases hs; rfl)
         refine op_pass R rfl rfl rfl (nft g39) (fun a R => ?_) (by intro s hs; cases hs; rfl)
         refine op_pass R rfl rfl rfl (nft g39) (fun a R => ?_) (by intro s hs; cases hs; rfl)
         refine op_pass R rfl rfl rfl (nft g39) (fun a R => ?_) (by intro s hs; cases hs; rfl)
         refine op_pass R rfl rfl rfl (nft g39) (fun a R => ?_) (by intro s hs; cases hs; rfl)
         refine op_val R (rn_pickT R rfl g39 rfl) rfl fun a R => ?_
         refine wpList_nil ?_
         refine then_normal ?_
         exact ⟨true, R.weak ⟨rfl, rfl, rfl, rfl, rfl, trivial⟩, h⟩
        ·refine op_guard R rfl rfl rfl g39 ?_
         refine ofd R rfl fd74_2 rfl fun a R => ?_
         refine op_guard R rfl rfl rfl g39 ?_
         obtain ⟨x54_40, cx54_40, h⟩ := h
         refine old R rfl Try.underlying3 rfl cx54_40 rfl fun a R => ?_
         refine op_guard R rfl rfl rfl g39 ?_
         refine ofd R rfl fd74_1 rfl fun a R => ?_
         refine op_guard R rfl rfl rfl g39 ?_
         obtain ⟨x56_41, cx56_41, h⟩ := h
         refine old R rfl Try.underlying34 rfl cx56_41 rfl fun a R => ?_
         refine op_guard R rfl rfl rfl g39 ?_
         refine op_val R (rn_len R rfl Try.underlying34) rfl fun a R => ?_
         refine op_guard R rfl rfl rfl g39 ?_
         refine op_val R (rn_bin (v := .bool (decide (x54_40 > ((x56_41.len : Nat) : Int)))) R rfl rfl rfl) rfl fun a R => ?_
         refine op_val R (rn_pickF R rfl g39 rfl) rfl fun a R => ?_
         refine wpList_nil ?_
         refine then_normal ?_
         exact ⟨(decide (x54_40 > ((x56_41.len : Nat) : Int))), R.weak ⟨rfl, rfl, rfl, rfl, rfl, trivial⟩, h⟩
     ·refine op_pass R rfl rfl rfl (nft (nt g31)) (fun a R => ?_) (by intro s hs; cases hs; rfl)
      refine op_val R (rn_pickT R rfl (nt g31) rfl) rfl fun a R => ?_
      refine omv R rfl rfl fun a R => ?_
      refine op_pass R rfl rfl rfl (nft rfl) (fun a R => ?_) (by intro s hs; cases hs; rfl)
      refine op_pass R rfl rfl rfl (nft rfl) (fun a R => ?_) (by intro s hs; cases hs; rfl)
      refine op_pass R rfl rfl rfl (nft rfl) (fun a R => ?_) (by intro s hs; cases hs; rfl)
      refine op_pass R rfl rfl rfl (nft rfl) (fun a R => ?_) (by intro s hs; cases hs; rfl)
      refine op_val R (rn_pickT R rfl rfl rfl) rfl fun a R => ?_
      refine omv R rfl rfl fun a R => ?_
      refine op_pass R rfl rfl rfl (nft rfl) (fun a R => ?_) (by intro s hs; cases hs; rfl)
      refine op_pass R rfl rfl rfl (nft rfl) (fun a R => ?_) (by intro s hs; cases hs; rfl)
      refine op_pass R rfl rfl rfl (nft rfl) (fun a R => ?_) (by intro s hs; cases hs; rfl)
      refine op_val R (rn_pickT R rfl rfl rfl) rfl fun a R => ?_
      refine omv R rfl rfl fun a R => ?_
      refine op_pass R rfl rfl rfl (nft rfl) (fun a R => ?_) (by intro s hs; cases hs; rfl)
      refine op_pass R rfl rfl rfl (nft rfl) (fun a R => ?_) (by intro s hs; cases hs; rfl)
      refine op_pass R rfl rfl rfl (nft rfl) (fun a R => ?_) (by intro s hs; cases hs; rfl)
      refine op_pass R rfl rfl rfl (nft rfl) (fun a R => ?_) (by intro s hs; cases hs; rfl)
      refine op_pass R rfl rfl rfl (nft rfl) (fun a R => ?_) (by intro s hs; cases hs; rfl)
      refine op_pass R rfl rfl rfl (nft rfl) (fun a R => ?_) (by intro s hs; cases hs; rfl)
      refine op_val R (rn_pickT R rfl rfl rfl) rfl fun a R => ?_
      refine wpList_nil ?_
      refine then_normal ?_
      exact ⟨true, R.weak ⟨rfl, rfl, rfl, rfl, rfl, trivial⟩, h⟩
    ·rintro a w ⟨y21_59, R, h⟩
     unfold levyref19_NewDisk.k21 at h
     rcases ite_cases h with ⟨g22, h⟩ | ⟨g22, h⟩
     ·refine wp_condT R (congrArg (fun b => some (Value.bool b)) g22) ?_
      refine wp_seq ?_
      refine wp_region_lit ?_
      refine oas R rfl rfl fun a R => ?_
      refine oas R rfl rfl fun a R => ?_
      refine wpList_nil ?_
      refine then_normal ?_
      refine wp_ret ?_
      refine then_ret ?_
      refine block_ret ?_
      refine then_ret ?_
      refine then_ret ?_
      refine block_ret ?_
      refine then_ret ?_
      exact post_ret R rfl rfl ⟨none, 195, rfl, h⟩
     ·refine wp_condF R (congrArg (fun b => some (Value.bool b)) g22) ?_
      refine wp_skip ?_
      refine then_normal ?_
      refine wp_seq ?_
      refine wp_region_lit ?_
      refine ofd R rfl fd74_1 rfl fun a R => ?_
      obtain ⟨x61_23, cx61_23, h⟩ := h
      refine old R rfl Try.underlying34 rfl cx61_23 rfl fun a R => ?_
      refine op_call R (rn_calls R rfl cf36) rfl ?_
      refine call_mono (s_levyref19_copied _ _ _ h) ?_
      rintro _ w30 ⟨x62_24_0, rfl, h⟩ a R
      refine oas R rfl rfl fun a R => ?_
      refine wpList_nil ?_
      refine then_normal ?_
      refine wp_region_lit ?_
      refine omv R rfl rfl fun a R => ?_
      refine ofd R rfl fd74_0 rfl fun a R => ?_
      obtain ⟨x65_25, cx65_25, h⟩ := h
      refine old R rfl Try.underlying9 rfl cx65_25 rfl fun a R => ?_
      refine omv R rfl rfl fun a R => ?_
      refine ofd R rfl fd74_2 rfl fun a R => ?_
      obtain ⟨x68_26, cx68_26, h⟩ := h
      refine old R rfl Try.underlying3 rfl cx68_26 rfl fun a R => ?_
      refine op_val R (rn_build (r := .agg #[.string x65_25, Sl.val x62_24_0, .int .i64 x68_26]) R rfl (fun w => by kernel_rfl)) rfl fun a R => ?_
      refine op_call R (rn_calls R rfl cf39) rfl ?_
      refine call_mono (s_levyref19_Disk_add _ _ _ _ _ _ h) ?_
      rintro _ w29 ⟨rfl, h⟩ a R
      refine wpList_nil ?_
      refine block_normal ?_
      refine then_normal ?_
      refine wp_region_lit ?_
      refine omv R rfl rfl fun a R => ?_
      refine op_val R (rn_bin (v := .int .i64 (IntKind.i64.wrap (z7_5 + 1))) R rfl rfl rfl) rfl fun a R => ?_
      refine oas R rfl rfl fun a R => ?_
      refine wpList_nil ?_
      refine then_normal ?_
      exact hC (IntKind.i64.wrap (z7_5 + 1)) _ _ (R.weak ⟨rfl, rfl, rfl, trivial⟩) (by rw [← hK7] at h; exact h)
   ·refine wp_condF R (congrArg (fun b => some (Value.bool b)) g10) ?_
    refine wp_exit ?_
    refine then_exit ?_
    refine then_exit ?_
    refine block_eq ?_
    refine then_normal ?_
    exact ⟨R.weak ⟨rfl, trivial⟩, h⟩
  ·rintro a w ⟨R, h⟩
   unfold levyref19_NewDisk.k6 at h
   refine wp_seq ?_
   refine wp_region_lit ?_
   refine omv R rfl rfl fun a R => ?_
   refine oas R rfl rfl fun a R => ?_
   refine oas R rfl rfl fun a R => ?_
   refine wpList_nil ?_
   refine then_normal ?_
   refine wp_ret ?_
   exact post_ret R rfl rfl ⟨(some x12_1), 0, rfl, h⟩
theorem s_levyref19_NewDisk (x0 : Sl) (Q : Option Addr → Int → World → Prop) (w : World) (h : levyref19_NewDisk x0 Q w) :
    Calls Try.prog 10 #[Sl.val x0] w (Rets fun v w => ∃ r0 : Option Addr, ∃ r1 : Int, v = (.tuple #[.pointer r0, .int .i64 r1] : Value) ∧ Q r0 r1 w) :=
  calls_body (args := [Sl.val x0]) Try.func10 rfl rfl (Nat.le_of_ble_eq_true rfl) (L := [(0, Sl.val x0)]) (by simp [starts]) (b_levyref19_NewDisk x0 Q w h rfl)

/-! drawer.named -/

def drawer_named.k3  (Q : Bool → World → Prop) (w : World) : Prop :=
  Q true w

def drawer_named.k9 (x0 : ByteArray) (z5_15 : Int) (K5 : Int → World → Prop) (y9_39 : Bool) (Q : Bool → World → Prop) (w : World) : Prop :=
  (if y9_39 = true then Q false w else K5 (IntKind.i64.wrap (z5_15 + 1)) w)

def drawer_named.l5 (x0 : ByteArray) (z5_15 : Int) (Q : Bool → World → Prop) (K5 : Int → World → Prop) (w : World) : Prop :=
  (if (decide (z5_15 < ((ByteArray.size x0 : Nat) : Int))) = true then (0 ≤ z5_15 ∧ z5_15 < (ByteArray.size x0 : Int) ∧ (if (decide ((byteAt x0 z5_15) ≥ 97)) = true then (if (decide ((byteAt x0 z5_15) ≤ 122)) = true then drawer_named.k9 x0 z5_15 K5 (!true) Q w else (if (decide ((byteAt x0 z5_15) ≥ 48)) = true then (if (decide ((byteAt x0 z5_15) ≤ 57)) = true then drawer_named.k9 x0 z5_15 K5 (!true) Q w else drawer_named.k9 x0 z5_15 K5 (!((byteAt x0 z5_15) == 45)) Q w) else drawer_named.k9 x0 z5_15 K5 (!((byteAt x0 z5_15) == 45)) Q w)) else (if (decide ((byteAt x0 z5_15) ≥ 48)) = true then (if (decide ((byteAt x0 z5_15) ≤ 57)) = true then drawer_named.k9 x0 z5_15 K5 (!true) Q w else drawer_named.k9 x0 z5_15 K5 (!((byteAt x0 z5_15) == 45)) Q w) else drawer_named.k9 x0 z5_15 K5 (!((byteAt x0 z5_15) == 45)) Q w))) else drawer_named.k3  Q w)

def drawer_named.k1 (x0 : ByteArray) (y1_12 : Bool) (Q : Bool → World → Prop) (w : World) : Prop :=
  (if y1_12 = true then Q false w else (Fix (σ := Int) (fun Ks s w => drawer_named.l5 x0 s Q (fun z5_15 w => Ks z5_15 w) w) 0 w))

def drawer_named (x0 : ByteArray) (Q : Bool → World → Prop) (w : World) : Prop :=
  (if (decide (((ByteArray.size x0 : Nat) : Int) < 1)) = true then drawer_named.k1 x0 true Q w else drawer_named.k1 x0 (decide (((ByteArray.size x0 : Nat) : Int) > 12)) Q w)

theorem b_drawer_named (x0 : ByteArray) (Q : Bool → World → Prop) (w : World) (h : drawer_named x0 Q w) {c : Code} (hb : Try.f40.body = some c) :
 ∀ a, Rep a 41 [(0, .string x0)] [] → c.wp Try.prog (bodyPost Try.prog Try.f40 (Rets fun v w => ∃ r0 : Bool, v = (.bool r0 : Value) ∧ Q r0 w)) a w := by
 intro a R
 obtain rfl := Option.some.inj hb
 unfold drawer_named at h
 refine wp_seq ?_
 refine wp_region_lit ?_
 refine oas R rfl rfl fun a R => ?_
 refine wpList_nil ?_
 refine then_normal ?_
 refine wp_seq ?_
 refine seq_join (fun a w => ∃ y1_12 : Bool, Rep a 41 [(0, .string x0), (12, .bool y1_12)] [] ∧ drawer_named.k1 x0 y1_12 Q w) ?_ ?_
 ·refine wp_region_lit ?_
  refine omv R rfl rfl fun a R => ?_
  refine op_val R (rn_lenS R rfl Try.underlying9) rfl fun a R => ?_
  refine op_val R (rn_bin (v := .bool (decide (((ByteArray.size x0 : Nat) : Int) < 1))) R rfl rfl rfl) rfl fun a R => ?_
  refine omv R rfl rfl fun a R => ?_
  rcases ite_cases h with ⟨g30, h⟩ | ⟨g30, h⟩
  ·refine op_pass R rfl rfl rfl (nft g30) (fun a R => ?_) (by intro s hs; cases hs; rfl)
   refine op_pass R rfl rfl rfl (nft g30) (fun a R => ?_) (by intro s hs; cases hs; rfl)
   refine op_pass R rfl rfl rfl (nft g30) (fun a R => ?_) (by intro s hs; cases hs; rfl)
   refine op_val R (rn_pickT R rfl g30 rfl) rfl fun a R => ?_
   refine wpList_nil ?_
   refine then_normal ?_
   exact ⟨true, R.weak ⟨rfl, rfl, trivial⟩, h⟩
  ·refine op_guard R rfl rfl rfl g30 ?_
   refine omv R rfl rfl fun a R => ?_
   refine op_guard R rfl rfl rfl g30 ?_
   refine op_val R (rn_lenS R rfl Try.underlying9) rfl fun a R => ?_
   refine op_guard R rfl rfl rfl g30 ?_
   refine op_val R (rn_bin (v := .bool (decide (((ByteArray.size x0 : Nat) : Int) > 12))) R rfl rfl rfl) rfl fun a R => ?_
   refine op_val R (rn_pickF R rfl g30 rfl) rfl fun a R => ?_
   refine wpList_nil ?_
   refine then_normal ?_
   exact ⟨(decide (((ByteArray.size x0 : Nat) : Int) > 12)), R.weak ⟨rfl, rfl, trivial⟩, h⟩
 ·rintro a w ⟨y1_12, R, h⟩
  unfold drawer_named.k1 at h
  rcases ite_cases h with ⟨g2, h⟩ | ⟨g2, h⟩
  ·refine wp_condT R (congrArg (fun b => some (Value.bool b)) g2) ?_
   refine wp_seq ?_
   refine wp_region_lit ?_
   refine oas R rfl rfl fun a R => ?_
   refine wpList_nil ?_
   refine then_normal ?_
   refine wp_ret ?_
   refine then_ret ?_
   exact post_ret R rfl rfl ⟨false, rfl, h⟩
  ·refine wp_condF R (congrArg (fun b => some (Value.bool b)) g2) ?_
   refine wp_skip ?_
   refine then_normal ?_
   refine seq_join (fun a w => Rep a 41 [] [] ∧ drawer_named.k3  Q w) ?_ ?_
   ·refine wp_seq ?_
    refine wp_region_lit ?_
    refine omv R rfl rfl fun a R => ?_
    refine op_val R (rn_lenS R rfl Try.underlying9) rfl fun a R => ?_
    refine omv R rfl rfl fun a R => ?_
    refine wpList_nil ?_
    refine then_normal ?_
    refine wp_block ?_
    refine wp_fix (σ := Int) (fun s a => Rep a 41 [(0, .string x0), (14, .int .i64 ((ByteArray.size x0 : Nat) : Int)), (15, .int .i64 s)] []) h (R.weak ⟨rfl, rfl, rfl, trivial⟩) ?_
    rintro Ks C z5_15 a w hC R h
    have R : Rep a 41 [(0, .string x0), (14, .int .i64 ((ByteArray.size x0 : Nat) : Int)), (15, .int .i64 z5_15)] [] := R
    have h : drawer_named.l5 x0 z5_15 Q (fun z5_15 w => Ks z5_15 w) w := h
    generalize hK5 : (fun z5_15 w => Ks z5_15 w) = K5 at h
    unfold drawer_named.l5 at h
    refine wp_seq ?_
    refine wp_region_lit ?_
    refine op_val R (rn_bin (v := .bool (decide (z5_15 < ((ByteArray.size x0 : Nat) : Int)))) R rfl rfl rfl) rfl fun a R => ?_
    refine wpList_nil ?_
    refine then_normal ?_
    refine wp_seq ?_
    rcases ite_cases h with ⟨g7, h⟩ | ⟨g7, h⟩
    ·refine wp_condT R (congrArg (fun b => some (Value.bool b)) g7) ?_
     refine wp_skip ?_
     refine then_normal ?_
     refine wp_seq ?_
     refine wp_block ?_
     refine wp_seq ?_
     refine wp_region_lit ?_
     refine omv R rfl rfl fun a R => ?_
     refine oas R rfl rfl fun a R => ?_
     refine wpList_nil ?_
     refine then_normal ?_
     refine wp_seq ?_
     refine wp_region_lit ?_
     refine omv R rfl rfl fun a R => ?_
     refine omv R rfl rfl fun a R => ?_
     obtain ⟨i8, j8, h⟩ := h
     refine op_val R (rn_ixS R rfl rfl Try.underlying9 i8 j8) rfl fun a R => ?_
     refine oas R rfl rfl fun a R => ?_
     refine wpList_nil ?_
     refine then_normal ?_
     refine seq_join (fun a w => ∃ y9_39 : Bool, Rep a 41 [(0, .string x0), (14, .int .i64 ((ByteArray.size x0 : Nat) : Int)), (15, .int .i64 z5_15), (39, .bool y9_39)] [] ∧ drawer_named.k9 x0 z5_15 K5 y9_39 Q w) ?_ ?_
     ·refine wp_region_lit ?_
      refine omv R rfl rfl fun a R => ?_
      refine op_val R (rn_bin (v := .bool (decide ((byteAt x0 z5_15) ≥ 97))) R rfl rfl rfl) rfl fun a R => ?_
      refine omv R rfl rfl fun a R => ?_
      rcases ite_cases h with ⟨g13, h⟩ | ⟨g13, h⟩
      ·refine op_guard R rfl rfl rfl g13 ?_
       refine omv R rfl rfl fun a R => ?_
       refine op_guard R rfl rfl rfl g13 ?_
       refine op_val R (rn_bin (v := .bool (decide ((byteAt x0 z5_15) ≤ 122))) R rfl rfl rfl) rfl fun a R => ?_
       refine op_val R (rn_pickT R rfl g13 rfl) rfl fun a R => ?_
       refine omv R rfl rfl fun a R => ?_
       rcases ite_cases h with ⟨g15, h⟩ | ⟨g15, h⟩
       ·refine op_pass R rfl rfl rfl (nft g15) (fun a R => ?_) (by intro s hs; cases hs; rfl)
        refine op_pass R rfl rfl rfl (nft g15) (fun a R => ?_) (by intro s hs; cases hs; rfl)
        refine op_pass R rfl rfl rfl (nft g15) (fun a R => ?_) (by intro s hs; cases hs; rfl)
        refine op_pass0 R rfl rfl rfl (fun a R => ?_) (by intro s hs; cases hs; rfl)
        refine op_pass0 R rfl rfl rfl (fun a R => ?_) (by intro s hs; cases hs; rfl)
        refine op_pass R rfl rfl rfl (nft g15) (fun a R => ?_) (by intro s hs; cases hs; rfl)
        refine op_val R (rn_pickT R rfl g15 rfl) rfl fun a R => ?_
        refine omv R rfl rfl fun a R => ?_
        refine op_pass R rfl rfl rfl (nft rfl) (fun a R => ?_) (by intro s hs; cases hs; rfl)
        refine op_pass R rfl rfl rfl (nft rfl) (fun a R => ?_) (by intro s hs; cases hs; rfl)
        refine op_val R (rn_pickT R rfl rfl rfl) rfl fun a R => ?_
        refine op_val R (rn_un (v := .bool (!true)) R rfl rfl) rfl fun a R => ?_
        refine wpList_nil ?_
        refine then_normal ?_
        exact ⟨(!true), R.weak ⟨rfl, rfl, rfl, rfl, trivial⟩, h⟩
       ·refine op_guard R rfl rfl rfl g15 ?_
        refine omv R rfl rfl fun a R => ?_
        refine op_guard R rfl rfl rfl g15 ?_
        refine op_val R (rn_bin (v := .bool (decide ((byteAt x0 z5_15) ≥ 48))) R rfl rfl rfl) rfl fun a R => ?_
        refine op_guard R rfl rfl rfl g15 ?_
        refine omv R rfl rfl fun a R => ?_
        rcases ite_cases h with ⟨g17, h⟩ | ⟨g17, h⟩
        ·refine op_guard R rfl rfl rfl g17 ?_
         refine omv R rfl rfl fun a R => ?_
         refine op_guard R rfl rfl rfl g17 ?_
         refine op_val R (rn_bin (v := .bool (decide ((byteAt x0 z5_15) ≤ 57))) R rfl rfl rfl) rfl fun a R => ?_
         refine op_guard R rfl rfl rfl g15 ?_
         refine op_val R (rn_pickT R rfl g17 rfl) rfl fun a R => ?_
         refine op_val R (rn_pickF R rfl g15 rfl) rfl fun a R => ?_
         refine omv R rfl rfl fun a R => ?_
         rcases ite_cases h with ⟨g19, h⟩ | ⟨g19, h⟩
         ·refine op_pass R rfl rfl rfl (nft g19) (fun a R => ?_) (by intro s hs; cases hs; rfl)
          refine op_pass R rfl rfl rfl (nft g19) (fun a R => ?_) (by intro s hs; cases hs; rfl)
          refine op_val R (rn_pickT R rfl g19 rfl) rfl fun a R => ?_
          refine op_val R (rn_un (v := .bool (!true)) R rfl rfl) rfl fun a R => ?_
          refine wpList_nil ?_
          refine then_normal ?_
          exact ⟨(!true), R.weak ⟨rfl, rfl, rfl, rfl, trivial⟩, h⟩
         ·refine op_guard R rfl rfl rfl g19 ?_
          refine omv R rfl rfl fun a R => ?_
          refine op_guard R rfl rfl rfl g19 ?_
          refine op_val R (rn_bin (v := .bool ((byteAt x0 z5_15) == 45)) R rfl rfl rfl) rfl fun a R => ?_
          refine op_val R (rn_pickF R rfl g19 rfl) rfl fun a R => ?_
          refine op_val R (rn_un (v := .bool (!((byteAt x0 z5_15) == 45))) R rfl rfl) rfl fun a R => ?_
          refine wpList_nil ?_
          refine then_normal ?_
          exact ⟨(!((byteAt x0 z5_15) == 45)), R.weak ⟨rfl, rfl, rfl, rfl, trivial⟩, h⟩
        ·refine op_pass R rfl rfl rfl (ntf g17) (fun a R => ?_) (by intro s hs; cases hs; rfl)
         refine op_pass R rfl rfl rfl (ntf g17) (fun a R => ?_) (by intro s hs; cases hs; rfl)
         refine op_guard R rfl rfl rfl g15 ?_
         refine op_val R (rn_pickF R rfl g17 rfl) rfl fun a R => ?_
         refine op_val R (rn_pickF R rfl g15 rfl) rfl fun a R => ?_
         refine omv R rfl rfl fun a R => ?_
         refine op_guard R rfl rfl rfl rfl ?_
         refine omv R rfl rfl fun a R => ?_
         refine op_guard R rfl rfl rfl rfl ?_
         refine op_val R (rn_bin (v := .bool ((byteAt x0 z5_15) == 45)) R rfl rfl rfl) rfl fun a R => ?_
         refine op_val R (rn_pickF R rfl rfl rfl) rfl fun a R => ?_
         refine op_val R (rn_un (v := .bool (!((byteAt x0 z5_15) == 45))) R rfl rfl) rfl fun a R => ?_
         refine wpList_nil ?_
         refine then_normal ?_
         exact ⟨(!((byteAt x0 z5_15) == 45)), R.weak ⟨rfl, rfl, rfl, rfl, trivial⟩, h⟩
      ·refine op_pass R rfl rfl rfl (ntf g13) (fun a R => ?_) (by intro s hs; cases hs; rfl)
       refine op_pass R rfl rfl rfl (ntf g13) (fun a R => ?_) (by intro s hs; cases hs; rfl)
       refine op_val R (rn_pickF R rfl g13 rfl) rfl fun a R => ?_
       refine omv R rfl rfl fun a R => ?_
       refine op_guard R rfl rfl rfl rfl ?_
       refine omv R rfl rfl fun a R => ?_
       refine op_guard R rfl rfl rfl rfl ?_
       refine op_val R (rn_bin (v := .bool (decide ((byteAt x0 z5_15) ≥ 48))) R rfl rfl rfl) rfl fun a R => ?_
       refine op_guard R rfl rfl rfl rfl ?_
       refine omv R rfl rfl fun a R => ?_
       rcases ite_cases h with ⟨g23, h⟩ | ⟨g23, h⟩
       ·refine op_guard R rfl rfl rfl g23 ?_
        refine omv R rfl rfl fun a R => ?_
        refine op_guard R rfl rfl rfl g23 ?_
        refine op_val R (rn_bin (v := .bool (decide ((byteAt x0 z5_15) ≤ 57))) R rfl rfl rfl) rfl fun a R => ?_
        refine op_guard R rfl rfl rfl rfl ?_
        refine op_val R (rn_pickT R rfl g23 rfl) rfl fun a R => ?_
        refine op_val R (rn_pickF R rfl rfl rfl) rfl fun a R => ?_
        refine omv R rfl rfl fun a R => ?_
        rcases ite_cases h with ⟨g25, h⟩ | ⟨g25, h⟩
        ·refine op_pass R rfl rfl rfl (nft g25) (fun a R => ?_) (by intro s hs; cases hs; rfl)
         refine op_pass R rfl rfl rfl (nft g25) (fun a R => ?_) (by intro s hs; cases hs; rfl)
         refine op_val R (rn_pickT R rfl g25 rfl) rfl fun a R => ?_
         refine op_val R (rn_un (v := .bool (!true)) R rfl rfl) rfl fun a R => ?_
         refine wpList_nil ?_
         refine then_normal ?_
         exact ⟨(!true), R.weak ⟨rfl, rfl, rfl, rfl, trivial⟩, h⟩
        ·refine op_guard R rfl rfl rfl g25 ?_
         refine omv R rfl rfl fun a R => ?_
         refine op_guard R rfl rfl rfl g25 ?_
         refine op_val R (rn_bin (v := .bool ((byteAt x0 z5_15) == 45)) R rfl rfl rfl) rfl fun a R => ?_
         refine op_val R (rn_pickF R rfl g25 rfl) rfl fun a R => ?_
         refine op_val R (rn_un (v := .bool (!((byteAt x0 z5_15) == 45))) R rfl rfl) rfl fun a R => ?_
         refine wpList_nil ?_
         refine then_normal ?_
         exact ⟨(!((byteAt x0 z5_15) == 45)), R.weak ⟨rfl, rfl, rfl, rfl, trivial⟩, h⟩
       ·refine op_pass R rfl rfl rfl (ntf g23) (fun a R => ?_) (by intro s hs; cases hs; rfl)
        refine op_pass R rfl rfl rfl (ntf g23) (fun a R => ?_) (by intro s hs; cases hs; rfl)
        refine op_guard R rfl rfl rfl rfl ?_
        refine op_val R (rn_pickF R rfl g23 rfl) rfl fun a R => ?_
        refine op_val R (rn_pickF R rfl rfl rfl) rfl fun a R => ?_
        refine omv R rfl rfl fun a R => ?_
        refine op_guard R rfl rfl rfl rfl ?_
        refine omv R rfl rfl fun a R => ?_
        refine op_guard R rfl rfl rfl rfl ?_
        refine op_val R (rn_bin (v := .bool ((byteAt x0 z5_15) == 45)) R rfl rfl rfl) rfl fun a R => ?_
        refine op_val R (rn_pickF R rfl rfl rfl) rfl fun a R => ?_
        refine op_val R (rn_un (v := .bool (!((byteAt x0 z5_15) == 45))) R rfl rfl) rfl fun a R => ?_
        refine wpList_nil ?_
        refine then_normal ?_
        exact ⟨(!((byteAt x0 z5_15) == 45)), R.weak ⟨rfl, rfl, rfl, rfl, trivial⟩, h⟩
     ·rintro a w ⟨y9_39, R, h⟩
      unfold drawer_named.k9 at h
      rcases ite_cases h with ⟨g10, h⟩ | ⟨g10, h⟩
      ·refine wp_condT R (congrArg (fun b => some (Value.bool b)) g10) ?_
       refine wp_seq ?_
       refine wp_region_lit ?_
       refine oas R rfl rfl fun a R => ?_
       refine wpList_nil ?_
       refine then_normal ?_
       refine wp_ret ?_
       refine block_ret ?_
       refine then_ret ?_
       refine then_ret ?_
       refine block_ret ?_
       refine then_ret ?_
       exact post_ret R rfl rfl ⟨false, rfl, h⟩
      ·refine wp_condF R (congrArg (fun b => some (Value.bool b)) g10) ?_
       refine wp_skip ?_
       refine block_normal ?_
       refine then_normal ?_
       refine wp_region_lit ?_
       refine op_val R (rn_bin (v := .int .i64 (IntKind.i64.wrap (z5_15 + 1))) R rfl rfl rfl) rfl fun a R => ?_
       refine omv R rfl rfl fun a R => ?_
       refine wpList_nil ?_
       refine then_normal ?_
       exact hC (IntKind.i64.wrap (z5_15 + 1)) _ _ (R.weak ⟨rfl, rfl, rfl, trivial⟩) (by rw [← hK5] at h; exact h)
    ·refine wp_condF R (congrArg (fun b => some (Value.bool b)) g7) ?_
     refine wp_exit ?_
     refine then_exit ?_
     refine then_exit ?_
     refine block_eq ?_
     refine then_normal ?_
     exact ⟨R.weak trivial, h⟩
   ·rintro a w ⟨R, h⟩
    unfold drawer_named.k3 at h
    refine wp_seq ?_
    refine wp_region_lit ?_
    refine oas R rfl rfl fun a R => ?_
    refine wpList_nil ?_
    refine then_normal ?_
    refine wp_ret ?_
    exact post_ret R rfl rfl ⟨true, rfl, h⟩
theorem s_drawer_named (x0 : ByteArray) (Q : Bool → World → Prop) (w : World) (h : drawer_named x0 Q w) :
    Calls Try.prog 40 #[.string x0] w (Rets fun v w => ∃ r0 : Bool, v = (.bool r0 : Value) ∧ Q r0 w) :=
  calls_body (args := [.string x0]) Try.func40 rfl rfl (Nat.le_of_ble_eq_true rfl) (L := [(0, .string x0)]) (by simp [starts]) (b_drawer_named x0 Q w h rfl)

/-! drawer.NewDisk -/

def drawer_NewDisk.k8 (x12_6 : Addr) (Q : Option Addr → Int → World → Prop) (w : World) : Prop :=
  Q (some x12_6) 0 w

def drawer_NewDisk.k19 (x0 : Sl) (x12_6 : Addr) (z10_15 : Int) (K10 : Int → World → Prop) (x6_16 : Addr) (y19_51 : Bool) (Q : Option Addr → Int → World → Prop) (w : World) : Prop :=
  (if y19_51 = true then Q none 195 w else ld Value.map (World.drew w) (x12_6.add 0) fun x55_21 => ld Value.string (World.drew w) (x6_16.add 0) fun x57_22 => ld Sl.val (World.drew w) (x6_16.add 1) fun x59_23 => ld (Value.int .i64) (World.drew w) (x6_16.add 2) fun x62_24 => slices_Clone_byte_byte x59_23 (fun x60_25_0 w => ((World.cell? w (x12_6.add 0) = some (.map x55_21) ∧ World.cell? w (x6_16.add 0) = some (.string x57_22) ∧ World.cell? w (x6_16.add 1) = some (Sl.val x59_23) ∧ World.cell? w (x6_16.add 2) = some (.int .i64 x62_24) ∧ True) ∧ al w (.cells #[Sl.val x60_25_0, .int .i64 x62_24] 98) fun x64_26 w => ((World.cell? w (x12_6.add 0) = some (.map x55_21) ∧ World.cell? w (x6_16.add 0) = some (.string x57_22) ∧ World.cell? w (x6_16.add 1) = some (Sl.val x59_23) ∧ World.cell? w (x6_16.add 2) = some (.int .i64 x62_24) ∧ True) ∧ rn0 Try.prog (Instr.mapUpdate 94 (.map x55_21) (.string x57_22) (.pointer (some x64_26))) w fun w => K10 (IntKind.i64.wrap (z10_15 + 1)) w))) (World.drew w))

def drawer_NewDisk.l10 (x0 : Sl) (x12_6 : Addr) (z10_15 : Int) (Q : Option Addr → Int → World → Prop) (K10 : Int → World → Prop) (w : World) : Prop :=
  (if (decide (z10_15 < ((x0.len : Nat) : Int))) = true then ix x0.p x0.len z10_15 3 fun x17_14 => ld Value.string w (x17_14.add 0) fun x18_15_0 => ld Sl.val w (x17_14.add 1) fun x18_15_1 => ld (Value.int .i64) w (x17_14.add 2) fun x18_15_2 => al w (.cells #[.string ⟨#[]⟩, .slice none 0 0, .int .i64 0] 74) fun x6_16 w => stN w x6_16 [.string x18_15_0, Sl.val x18_15_1, .int .i64 x18_15_2] fun w => ld Value.map (World.drew w) (x12_6.add 0) fun x22_31 => ld Value.string (World.drew w) (x6_16.add 0) fun x24_32 => rn Try.prog Value.pointer (Instr.lookup 94 (.map x22_31) (.string x24_32) false) (World.drew w) fun x25_33 w => (if (Option.isNone x25_33) = true then ld Value.string w (x6_16.add 0) fun x29_36 => drawer_named x29_36 (fun x30_37_0 w => (if x30_37_0 = true then ld Sl.val w (x6_16.add 1) fun x35_39 => (if (decide (((x35_39.len : Nat) : Int) > 2097152)) = true then drawer_NewDisk.k19 x0 x12_6 z10_15 K10 x6_16 true Q w else ld (Value.int .i64) w (x6_16.add 2) fun x41_43 => (if (decide (x41_43 < 0)) = true then drawer_NewDisk.k19 x0 x12_6 z10_15 K10 x6_16 true Q w else ld (Value.int .i64) w (x6_16.add 2) fun x46_46 => ld Sl.val w (x6_16.add 1) fun x48_47 => drawer_NewDisk.k19 x0 x12_6 z10_15 K10 x6_16 (decide (x46_46 > ((x48_47.len : Nat) : Int))) Q w)) else drawer_NewDisk.k19 x0 x12_6 z10_15 K10 x6_16 true Q w)) w else drawer_NewDisk.k19 x0 x12_6 z10_15 K10 x6_16 true Q w) else drawer_NewDisk.k8 x12_6 Q w)

def drawer_NewDisk (x0 : Sl) (Q : Option Addr → Int → World → Prop) (w : World) : Prop :=
  (if (decide (((x0.len : Nat) : Int) > 40)) = true then Q none 195 w else al w (.map #[] 0) fun x10_4 w => al w (.cells #[.map (some x10_4.block), .bool false, .bool false, .int .i64 0, .int .i64 0, .int .i64 0] 96) fun x12_6 w => (Fix (σ := Int) (fun Ks s w => drawer_NewDisk.l10 x0 x12_6 s Q (fun z10_15 w => Ks z10_15 w) w) 0 w))

theorem b_drawer_NewDisk (x0 : Sl) (Q : Option Addr → Int → World → Prop) (w : World) (h : drawer_NewDisk x0 Q w) {c : Code} (hb : Try.f11.body = some c) :
 ∀ a, Rep a 67 [(0, Sl.val x0)] [] → c.wp Try.prog (bodyPost Try.prog Try.f11 (Rets fun v w => ∃ r0 : Option Addr, ∃ r1 : Int, v = (.tuple #[.pointer r0, .int .i64 r1] : Value) ∧ Q r0 r1 w)) a w := by
 intro a R
 obtain rfl := Option.some.inj hb
 unfold drawer_NewDisk at h
 refine wp_seq ?_
 refine wp_region_lit ?_
 refine oas R rfl rfl fun a R => ?_
 refine oas R rfl rfl fun a R => ?_
 refine wpList_nil ?_
 refine then_normal ?_
 refine wp_seq ?_
 refine wp_seq ?_
 refine wp_region_lit ?_
 refine omv R rfl rfl fun a R => ?_
 refine op_val R (rn_len R rfl Try.underlying22) rfl fun a R => ?_
 refine op_val R (rn_bin (v := .bool (decide (((x0.len : Nat) : Int) > 40))) R rfl rfl rfl) rfl fun a R => ?_
 refine wpList_nil ?_
 refine then_normal ?_
 rcases ite_cases h with ⟨g3, h⟩ | ⟨g3, h⟩
 ·refine wp_condT R (congrArg (fun b => some (Value.bool b)) g3) ?_
  refine wp_seq ?_
  refine wp_region_lit ?_
  refine oas R rfl rfl fun a R => ?_
  refine oas R rfl rfl fun a R => ?_
  refine wpList_nil ?_
  refine then_normal ?_
  refine wp_ret ?_
  refine then_ret ?_
  exact post_ret R rfl rfl ⟨none, 195, rfl, h⟩
 ·refine wp_condF R (congrArg (fun b => some (Value.bool b)) g3) ?_
  refine wp_skip ?_
  refine then_normal ?_
  refine wp_seq ?_
  refine wp_region_lit ?_
  obtain ⟨x10_4, e5, h⟩ := al_e h
  refine op_val (v := .map (some x10_4.block)) R (by rw [e5]; exact rn_mapM R) rfl fun a R => ?_
  refine op_val R (rn_build (r := .agg #[.map (some x10_4.block), .bool false, .bool false, .int .i64 0, .int .i64 0, .int .i64 0]) R rfl (fun w => by kernel_rfl)) rfl fun a R => ?_
  obtain ⟨x12_6, e7, h⟩ := al_e h
  refine op_val (v := .pointer (some x12_6)) R (by rw [e7]; exact rn_bx (x := (.tmp 11)) (t := 96) R rfl) rfl fun a R => ?_
  refine oas R rfl rfl fun a R => ?_
  refine wpList_nil ?_
  refine then_normal ?_
  refine seq_join (fun a w => Rep a 67 [(4, .pointer (some x12_6))] [] ∧ drawer_NewDisk.k8 x12_6 Q w) ?_ ?_
  ·refine wp_seq ?_
   refine wp_region_lit ?_
   refine omv R rfl rfl fun a R => ?_
   refine op_val R (rn_len R rfl Try.underlying22) rfl fun a R => ?_
   refine omv R rfl rfl fun a R => ?_
   refine wpList_nil ?_
   refine then_normal ?_
   refine wp_block ?_
   refine wp_fix (σ := Int) (fun s a => Rep a 67 [(4, .pointer (some x12_6)), (13, Sl.val x0), (14, .int .i64 ((x0.len : Nat) : Int)), (15, .int .i64 s)] []) h (R.weak ⟨rfl, rfl, rfl, rfl, trivial⟩) ?_
   rintro Ks C z10_15 a w hC R h
   have R : Rep a 67 [(4, .pointer (some x12_6)), (13, Sl.val x0), (14, .int .i64 ((x0.len : Nat) : Int)), (15, .int .i64 z10_15)] [] := R
   have h : drawer_NewDisk.l10 x0 x12_6 z10_15 Q (fun z10_15 w => Ks z10_15 w) w := h
   generalize hK10 : (fun z10_15 w => Ks z10_15 w) = K10 at h
   unfold drawer_NewDisk.l10 at h
   refine wp_seq ?_
   refine wp_region_lit ?_
   refine op_val R (rn_bin (v := .bool (decide (z10_15 < ((x0.len : Nat) : Int)))) R rfl rfl rfl) rfl fun a R => ?_
   refine wpList_nil ?_
   refine then_normal ?_
   refine wp_seq ?_
   rcases ite_cases h with ⟨g12, h⟩ | ⟨g12, h⟩
   ·refine wp_condT R (congrArg (fun b => some (Value.bool b)) g12) ?_
    refine wp_skip ?_
    refine then_normal ?_
    refine wp_seq ?_
    refine wp_block ?_
    refine wp_seq ?_
    refine wp_region_lit ?_
    obtain ⟨b13, x17_14, p13, i13, j13, e13, h⟩ := ix_e h
    refine op_val (v := .pointer (some x17_14)) R (by rw [e13]; exact rn_ixs (x := (.tmp 13)) (y := (.tmp 15)) R rfl p13 rfl Try.underlying22 sz74 i13 j13) rfl fun a R => ?_
    obtain ⟨x18_15_0, cx18_15_0, x18_15_1, cx18_15_1, x18_15_2, cx18_15_2, h⟩ := h
    refine op_val R (rn_ldN (cs := [.string x18_15_0, Sl.val x18_15_1, .int .i64 x18_15_2]) R rfl Try.underlying74 rfl sz74 ⟨cx18_15_0, cx18_15_1, cx18_15_2, trivial⟩) rfl fun a R => ?_
    obtain ⟨x6_16, e17, h⟩ := al_e h
    refine op_val (v := .pointer (some x6_16)) R (by rw [e17]; exact rn_al R ze74) rfl fun a R => ?_
    obtain ⟨q18, h⟩ := h
    refine op_unit R (rn_stN (vs := [.string x18_15_0, Sl.val x18_15_1, .int .i64 x18_15_2]) R rfl rfl (ao ⟨rfl, rfl, rfl, trivial⟩) sz74 q18) fun a R => ?_
    refine wpList_nil ?_
    refine then_normal ?_
    refine wp_seq ?_
    refine seq_join (fun a w => ∃ y19_51 : Bool, Rep a 67 [(4, .pointer (some x12_6)), (6, .pointer (some x6_16)), (13, Sl.val x0), (14, .int .i64 ((x0.len : Nat) : Int)), (15, .int .i64 z10_15), (51, .bool y19_51)] [] ∧ drawer_NewDisk.k19 x0 x12_6 z10_15 K10 x6_16 y19_51 Q w) ?_ ?_
    ·refine region_start mo fun inv => ?_
     refine seg_same (n := 6) (f := 6) (g := 27) (by kernel_rfl) fun inv => ?_
     refine dr_val (i := 0) R (waits_dom (by kernel_rfl) (by kernel_rfl)) (by kernel_rfl) inv rfl (by decide) (by kernel_rfl) (by kernel_rfl) (fun _ _ _ h => h) wanted_none (fun w' hS => rn_mv R rfl) rfl (by decide) fun inv a R => ?_
     refine dr_val (i := 1) R (waits_dom (by kernel_rfl) (by kernel_rfl)) (by kernel_rfl) inv rfl (by decide) (by kernel_rfl) (by kernel_rfl) (fun _ _ _ h => h) wanted_none (fun w' hS => rn_nil R rfl rfl) rfl (by decide) fun inv a R => ?_
     refine dr_val (i := 2) R (waits_dom (by kernel_rfl) (by kernel_rfl)) (by kernel_rfl) inv rfl (by decide) (by kernel_rfl) (by kernel_rfl) (fun _ _ _ h => h) wanted_none (fun w' hS => rn_fld R rfl fd96_0) rfl (by decide) fun inv a R => ?_
     obtain ⟨x22_31, cx22_31, h⟩ := h
     refine dr_val (i := 3) R (waits_dom (by kernel_rfl) (by kernel_rfl)) (by kernel_rfl) inv rfl (by decide) (by kernel_rfl) (by kernel_rfl) (fun _ _ _ h => h) wanted_none (fun w' hS => rn_ld R rfl Try.underlying94 rfl (cell_heap' hS cx22_31)) rfl (by decide) fun inv a R => ?_
     refine dr_val (i := 4) R (waits_dom (by kernel_rfl) (by kernel_rfl)) (by kernel_rfl) inv rfl (by decide) (by kernel_rfl) (by kernel_rfl) (fun _ _ _ h => h) wanted_none (fun w' hS => rn_fld R rfl fd74_0) rfl (by decide) fun inv a R => ?_
     obtain ⟨x24_32, cx24_32, h⟩ := h
     refine dr_val (i := 5) R (waits_dom (by kernel_rfl) (by kernel_rfl)) (by kernel_rfl) inv rfl (by decide) (by kernel_rfl) (by kernel_rfl) (fun _ _ _ h => h) wanted_none (fun w' hS => rn_ld R rfl Try.underlying9 rfl (cell_heap' hS cx24_32)) rfl (by decide) fun inv a R => ?_
     refine seg_end (by kernel_rfl) ?_
     obtain ⟨x25_33, w34, cx25_33, h⟩ := h
     refine any_val (i := 6) R rfl (by kernel_rfl) wanted_none (rn_lookup R rfl rfl cx25_33) rfl fun a R => ?_
     refine any_val (i := 7) R rfl (by kernel_rfl) wanted_none (rn_nilPN R rfl rfl Try.underlying93) rfl fun a R => ?_
     refine any_val (i := 8) R rfl (by kernel_rfl) wanted_none (rn_mv R rfl) rfl fun a R => ?_
     rcases ite_cases h with ⟨g35, h⟩ | ⟨g35, h⟩
     ·refine any_val (i := 9) R rfl (by kernel_rfl) (wanted_yes R rfl rfl rfl (nf g35)) (rn_fld R rfl fd74_0) rfl fun a R => ?_
      obtain ⟨x29_36, cx29_36, h⟩ := h
      refine any_val (i := 10) R rfl (by kernel_rfl) (wanted_yes R rfl rfl rfl (nf g35)) (rn_ld R rfl Try.underlying9 rfl cx29_36) rfl fun a R => ?_
      refine any_call (i := 11) R rfl (by kernel_rfl) (wanted_yes R rfl rfl rfl (nf g35)) (rn_calls R rfl cf40) rfl ?_
      refine call_mono (s_drawer_named _ _ _ h) ?_
      rintro _ w50 ⟨x30_37_0, rfl, h⟩ a R
      refine any_val (i := 12) R rfl (by kernel_rfl) (wanted_yes R rfl rfl rfl (nf g35)) (rn_un (v := .bool (!x30_37_0)) R rfl rfl) rfl fun a R => ?_
      refine any_val (i := 13) R rfl (by kernel_rfl) wanted_none (rn_pickF R rfl (nf g35) rfl) rfl fun a R => ?_
      refine any_val (i := 14) R rfl (by kernel_rfl) wanted_none (rn_mv R rfl) rfl fun a R => ?_
      rcases ite_cases h with ⟨g38, h⟩ | ⟨g38, h⟩
      ·refine any_val (i := 15) R rfl (by kernel_rfl) (wanted_yes R rfl rfl rfl (nf g38)) (rn_fld R rfl fd74_1) rfl fun a R => ?_
       obtain ⟨x35_39, cx35_39, h⟩ := h
       refine any_val (i := 16) R rfl (by kernel_rfl) (wanted_yes R rfl rfl rfl (nf g38)) (rn_ld R rfl Try.underlying34 rfl cx35_39) rfl fun a R => ?_
       refine any_val (i := 17) R rfl (by kernel_rfl) (wanted_yes R rfl rfl rfl (nf g38)) (rn_len R rfl Try.underlying34) rfl fun a R => ?_
       refine any_val (i := 18) R rfl (by kernel_rfl) (wanted_yes R rfl rfl rfl (nf g38)) (rn_bin (v := .bool (decide (((x35_39.len : Nat) : Int) > 2097152))) R rfl rfl rfl) rfl fun a R => ?_
       refine any_val (i := 19) R rfl (by kernel_rfl) wanted_none (rn_pickF R rfl (nf g38) rfl) rfl fun a R => ?_
       refine any_val (i := 20) R rfl (by kernel_rfl) wanted_none (rn_mv R rfl) rfl fun a R => ?_
       rcases ite_cases h with ⟨g42, h⟩ | ⟨g42, h⟩
       ·refine any_pass (i := 21) R rfl (by kernel_rfl) (wanted_no R rfl rfl rfl (nft g42)) rfl fun a R => ?_
        refine any_pass (i := 22) R rfl (by kernel_rfl) (wanted_no R rfl rfl rfl (nft g42)) rfl fun a R => ?_
        refine any_pass (i := 23) R rfl (by kernel_rfl) (wanted_no R rfl rfl rfl (nft g42)) rfl fun a R => ?_
        refine any_val (i := 24) R rfl (by kernel_rfl) wanted_none (rn_pickT R rfl g42 rfl) rfl fun a R => ?_
        refine any_val (i := 25) R rfl (by kernel_rfl) wanted_none (rn_mv R rfl) rfl fun a R => ?_
        refine seg_same (n := 31) (f := 5) (g := 2) (by kernel_rfl) fun inv => ?_
        refine dr_pass (i := 26) R (waits_dom (by kernel_rfl) (by kernel_rfl)) (by kernel_rfl) inv rfl (by decide) (by kernel_rfl) (by kernel_rfl) (fun _ _ _ h => h) (wanted_no R rfl rfl rfl (nft rfl)) rfl rfl fun inv a R => ?_
        refine dr_pass (i := 27) R (waits_dom (by kernel_rfl) (by kernel_rfl)) (by kernel_rfl) inv rfl (by decide) (by kernel_rfl) (by kernel_rfl) (fun _ _ _ h => h) (wanted_no R rfl rfl rfl (nft rfl)) rfl rfl fun inv a R => ?_
        refine dr_pass (i := 28) R (waits_dom (by kernel_rfl) (by kernel_rfl)) (by kernel_rfl) inv rfl (by decide) (by kernel_rfl) (by kernel_rfl) (fun _ _ _ h => h) (wanted_no R rfl rfl rfl (nft rfl)) rfl rfl fun inv a R => ?_
        refine dr_pass (i := 29) R (waits_dom (by kernel_rfl) (by kernel_rfl)) (by kernel_rfl) inv rfl (by decide) (by kernel_rfl) (by kernel_rfl) (fun _ _ _ h => h) (wanted_no R rfl rfl rfl (nft rfl)) rfl rfl fun inv a R => ?_
        refine dr_pass (i := 30) R (waits_dom (by kernel_rfl) (by kernel_rfl)) (by kernel_rfl) inv rfl (by decide) (by kernel_rfl) (by kernel_rfl) (fun _ _ _ h => h) (wanted_no R rfl rfl rfl (nft rfl)) rfl rfl fun inv a R => ?_
        refine seg_end (by kernel_rfl) ?_
        refine any_tail 31 (by kernel_rfl) ?_
        refine op_pass R rfl rfl rfl (nft rfl) (fun a R => ?_) (by intro s hs; cases hs; rfl)
        refine op_val R (rn_pickT R rfl rfl rfl) rfl fun a R => ?_
        refine wpList_nil ?_
        refine then_normal ?_
        exact ⟨true, R.weak ⟨rfl, rfl, rfl, rfl, rfl, rfl, trivial⟩, h⟩
       ·refine any_val (i := 21) R rfl (by kernel_rfl) (wanted_yes R rfl rfl rfl g42) (rn_fld R rfl fd74_2) rfl fun a R => ?_
        obtain ⟨x41_43, cx41_43, h⟩ := h
        refine any_val (i := 22) R rfl (by kernel_rfl) (wanted_yes R rfl rfl rfl g42) (rn_ld R rfl Try.underlying3 rfl cx41_43) rfl fun a R => ?_
        refine any_val (i := 23) R rfl (by kernel_rfl) (wanted_yes R rfl rfl rfl g42) (rn_bin (v := .bool (decide (x41_43 < 0))) R rfl rfl rfl) rfl fun a R => ?_
        refine any_val (i := 24) R rfl (by kernel_rfl) wanted_none (rn_pickF R rfl g42 rfl) rfl fun a R => ?_
        refine any_val (i := 25) R rfl (by kernel_rfl) wanted_none (rn_mv R rfl) rfl fun a R => ?_
        refine seg_same (n := 31) (f := 5) (g := 2) (by kernel_rfl) fun inv => ?_
        rcases ite_cases h with ⟨g45, h⟩ | ⟨g45, h⟩
        ·refine dr_pass (i := 26) R (waits_dom (by kernel_rfl) (by kernel_rfl)) (by kernel_rfl) inv rfl (by decide) (by kernel_rfl) (by kernel_rfl) (fun _ _ _ h => h) (wanted_no R rfl rfl rfl (nft g45)) rfl rfl fun inv a R => ?_
         refine dr_pass (i := 27) R (waits_dom (by kernel_rfl) (by kernel_rfl)) (by kernel_rfl) inv rfl (by decide) (by kernel_rfl) (by kernel_rfl) (fun _ _ _ h => h) (wanted_no R rfl rfl rfl (nft g45)) rfl rfl fun inv a R => ?_
         refine dr_pass (i := 28) R (waits_dom (by kernel_rfl) (by kernel_rfl)) (by kernel_rfl) inv rfl (by decide) (by kernel_rfl) (by kernel_rfl) (fun _ _ _ h => h) (wanted_no R rfl rfl rfl (nft g45)) rfl rfl fun inv a R => ?_
         refine dr_pass (i := 29) R (waits_dom (by kernel_rfl) (by kernel_rfl)) (by kernel_rfl) inv rfl (by decide) (by kernel_rfl) (by kernel_rfl) (fun _ _ _ h => h) (wanted_no R rfl rfl rfl (nft g45)) rfl rfl fun inv a R => ?_
         refine dr_pass (i := 30) R (waits_dom (by kernel_rfl) (by kernel_rfl)) (by kernel_rfl) inv rfl (by decide) (by kernel_rfl) (by kernel_rfl) (fun _ _ _ h => h) (wanted_no R rfl rfl rfl (nft g45)) rfl rfl fun inv a R => ?_
         refine seg_end (by kernel_rfl) ?_
         refine any_tail 31 (by kernel_rfl) ?_
         refine op_pass R rfl rfl rfl (nft g45) (fun a R => ?_) (by intro s hs; cases hs; rfl)
         refine op_val R (rn_pickT R rfl g45 rfl) rfl fun a R => ?_
         refine wpList_nil ?_
         refine then_normal ?_
         exact ⟨true, R.weak ⟨rfl, rfl, rfl, rfl, rfl, rfl, trivial⟩, h⟩
        ·refine dr_val (i := 26) R (waits_dom (by kernel_rfl) (by kernel_rfl)) (by kernel_rfl) inv rfl (by decide) (by kernel_rfl) (by kernel_rfl) (fun _ _ _ h => h) (wanted_yes R rfl rfl rfl g45) (fun w' hS => rn_fld R rfl fd74_2) rfl (by decide) fun inv a R => ?_
         obtain ⟨x46_46, cx46_46, h⟩ := h
         refine dr_val (i := 27) R (waits_dom (by kernel_rfl) (by kernel_rfl)) (by kernel_rfl) inv rfl (by decide) (by kernel_rfl) (by kernel_rfl) (fun _ _ _ h => h) (wanted_yes R rfl rfl rfl g45) (fun w' hS => rn_ld R rfl Try.underlying3 rfl (cell_heap' hS cx46_46)) rfl (by decide) fun inv a R => ?_
         refine dr_val (i := 28) R (waits_dom (by kernel_rfl) (by kernel_rfl)) (by kernel_rfl) inv rfl (by decide) (by kernel_rfl) (by kernel_rfl) (fun _ _ _ h => h) (wanted_yes R rfl rfl rfl g45) (fun w' hS => rn_fld R rfl fd74_1) rfl (by decide) fun inv a R => ?_
         obtain ⟨x48_47, cx48_47, h⟩ := h
         refine dr_val (i := 29) R (waits_dom (by kernel_rfl) (by kernel_rfl)) (by kernel_rfl) inv rfl (by decide) (by kernel_rfl) (by kernel_rfl) (fun _ _ _ h => h) (wanted_yes R rfl rfl rfl g45) (fun w' hS => rn_ld R rfl Try.underlying34 rfl (cell_heap' hS cx48_47)) rfl (by decide) fun inv a R => ?_
         refine dr_val (i := 30) R (waits_dom (by kernel_rfl) (by kernel_rfl)) (by kernel_rfl) inv rfl (by decide) (by kernel_rfl) (by kernel_rfl) (fun _ _ _ h => h) (wanted_yes R rfl rfl rfl g45) (fun w' hS => rn_len R rfl Try.underlying34) rfl (by decide) fun inv a R => ?_
         refine seg_end (by kernel_rfl) ?_
         refine any_tail 31 (by kernel_rfl) ?_
         refine op_guard R rfl rfl rfl g45 ?_
         refine op_val R (rn_bin (v := .bool (decide (x46_46 > ((x48_47.len : Nat) : Int)))) R rfl rfl rfl) rfl fun a R => ?_
         refine op_val R (rn_pickF R rfl g45 rfl) rfl fun a R => ?_
         refine wpList_nil ?_
         refine then_normal ?_
         exact ⟨(decide (x46_46 > ((x48_47.len : Nat) : Int))), R.weak ⟨rfl, rfl, rfl, rfl, rfl, rfl, trivial⟩, h⟩
      ·refine any_pass (i := 15) R rfl (by kernel_rfl) (wanted_no R rfl rfl rfl (nft (nt g38))) rfl fun a R => ?_
       refine any_pass (i := 16) R rfl (by kernel_rfl) (wanted_no R rfl rfl rfl (nft (nt g38))) rfl fun a R => ?_
       refine any_pass (i := 17) R rfl (by kernel_rfl) (wanted_no R rfl rfl rfl (nft (nt g38))) rfl fun a R => ?_
       refine any_pass (i := 18) R rfl (by kernel_rfl) (wanted_no R rfl rfl rfl (nft (nt g38))) rfl fun a R => ?_
       refine any_val (i := 19) R rfl (by kernel_rfl) wanted_none (rn_pickT R rfl (nt g38) rfl) rfl fun a R => ?_
       refine any_val (i := 20) R rfl (by kernel_rfl) wanted_none (rn_mv R rfl) rfl fun a R => ?_
       refine any_pass (i := 21) R rfl (by kernel_rfl) (wanted_no R rfl rfl rfl (nft rfl)) rfl fun a R => ?_
       refine any_pass (i := 22) R rfl (by kernel_rfl) (wanted_no R rfl rfl rfl (nft rfl)) rfl fun a R => ?_
       refine any_pass (i := 23) R rfl (by kernel_rfl) (wanted_no R rfl rfl rfl (nft rfl)) rfl fun a R => ?_
       refine any_val (i := 24) R rfl (by kernel_rfl) wanted_none (rn_pickT R rfl rfl rfl) rfl fun a R => ?_
       refine any_val (i := 25) R rfl (by kernel_rfl) wanted_none (rn_mv R rfl) rfl fun a R => ?_
       refine seg_same (n := 31) (f := 5) (g := 2) (by kernel_rfl) fun inv => ?_
       refine dr_pass (i := 26) R (waits_dom (by kernel_rfl) (by kernel_rfl)) (by kernel_rfl) inv rfl (by decide) (by kernel_rfl) (by kernel_rfl) (fun _ _ _ h => h) (wanted_no R rfl rfl rfl (nft rfl)) rfl rfl fun inv a R => ?_
       refine dr_pass (i := 27) R (waits_dom (by kernel_rfl) (by kernel_rfl)) (by kernel_rfl) inv rfl (by decide) (by kernel_rfl) (by kernel_rfl) (fun _ _ _ h => h) (wanted_no R rfl rfl rfl (nft rfl)) rfl rfl fun inv a R => ?_
       refine dr_pass (i := 28) R (waits_dom (by kernel_rfl) (by kernel_rfl)) (by kernel_rfl) inv rfl (by decide) (by kernel_rfl) (by kernel_rfl) (fun _ _ _ h => h) (wanted_no R rfl rfl rfl (nft rfl)) rfl rfl fun inv a R => ?_
       refine dr_pass (i := 29) R (waits_dom (by kernel_rfl) (by kernel_rfl)) (by kernel_rfl) inv rfl (by decide) (by kernel_rfl) (by kernel_rfl) (fun _ _ _ h => h) (wanted_no R rfl rfl rfl (nft rfl)) rfl rfl fun inv a R => ?_
       refine dr_pass (i := 30) R (waits_dom (by kernel_rfl) (by kernel_rfl)) (by kernel_rfl) inv rfl (by decide) (by kernel_rfl) (by kernel_rfl) (fun _ _ _ h => h) (wanted_no R rfl rfl rfl (nft rfl)) rfl rfl fun inv a R => ?_
       refine seg_end (by kernel_rfl) ?_
       refine any_tail 31 (by kernel_rfl) ?_
       refine op_pass R rfl rfl rfl (nft rfl) (fun a R => ?_) (by intro s hs; cases hs; rfl)
       refine op_val R (rn_pickT R rfl rfl rfl) rfl fun a R => ?_
       refine wpList_nil ?_
       refine then_normal ?_
       exact ⟨true, R.weak ⟨rfl, rfl, rfl, rfl, rfl, rfl, trivial⟩, h⟩
     ·refine any_pass (i := 9) R rfl (by kernel_rfl) (wanted_no R rfl rfl rfl (nft (nt g35))) rfl fun a R => ?_
      refine any_pass (i := 10) R rfl (by kernel_rfl) (wanted_no R rfl rfl rfl (nft (nt g35))) rfl fun a R => ?_
      refine any_pass (i := 11) R rfl (by kernel_rfl) (wanted_no R rfl rfl rfl (nft (nt g35))) rfl fun a R => ?_
      refine any_pass (i := 12) R rfl (by kernel_rfl) (wanted_no R rfl rfl rfl (nft (nt g35))) rfl fun a R => ?_
      refine any_val (i := 13) R rfl (by kernel_rfl) wanted_none (rn_pickT R rfl (nt g35) rfl) rfl fun a R => ?_
      refine any_val (i := 14) R rfl (by kernel_rfl) wanted_none (rn_mv R rfl) rfl fun a R => ?_
      refine any_pass (i := 15) R rfl (by kernel_rfl) (wanted_no R rfl rfl rfl (nft rfl)) rfl fun a R => ?_
      refine any_pass (i := 16) R rfl (by kernel_rfl) (wanted_no R rfl rfl rfl (nft rfl)) rfl fun a R => ?_
      refine any_pass (i := 17) R rfl (by kernel_rfl) (wanted_no R rfl rfl rfl (nft rfl)) rfl fun a R => ?_
      refine any_pass (i := 18) R rfl (by kernel_rfl) (wanted_no R rfl rfl rfl (nft rfl)) rfl fun a R => ?_
      refine any_val (i := 19) R rfl (by kernel_rfl) wanted_none (rn_pickT R rfl rfl rfl) rfl fun a R => ?_
      refine any_val (i := 20) R rfl (by kernel_rfl) wanted_none (rn_mv R rfl) rfl fun a R => ?_
      refine any_pass (i := 21) R rfl (by kernel_rfl) (wanted_no R rfl rfl rfl (nft rfl)) rfl fun a R => ?_
      refine any_pass (i := 22) R rfl (by kernel_rfl) (wanted_no R rfl rfl rfl (nft rfl)) rfl fun a R => ?_
      refine any_pass (i := 23) R rfl (by kernel_rfl) (wanted_no R rfl rfl rfl (nft rfl)) rfl fun a R => ?_
      refine any_val (i := 24) R rfl (by kernel_rfl) wanted_none (rn_pickT R rfl rfl rfl) rfl fun a R => ?_
      refine any_val (i := 25) R rfl (by kernel_rfl) wanted_none (rn_mv R rfl) rfl fun a R => ?_
      refine seg_same (n := 31) (f := 5) (g := 2) (by kernel_rfl) fun inv => ?_
      refine dr_pass (i := 26) R (waits_dom (by kernel_rfl) (by kernel_rfl)) (by kernel_rfl) inv rfl (by decide) (by kernel_rfl) (by kernel_rfl) (fun _ _ _ h => h) (wanted_no R rfl rfl rfl (nft rfl)) rfl rfl fun inv a R => ?_
      refine dr_pass (i := 27) R (waits_dom (by kernel_rfl) (by kernel_rfl)) (by kernel_rfl) inv rfl (by decide) (by kernel_rfl) (by kernel_rfl) (fun _ _ _ h => h) (wanted_no R rfl rfl rfl (nft rfl)) rfl rfl fun inv a R => ?_
      refine dr_pass (i := 28) R (waits_dom (by kernel_rfl) (by kernel_rfl)) (by kernel_rfl) inv rfl (by decide) (by kernel_rfl) (by kernel_rfl) (fun _ _ _ h => h) (wanted_no R rfl rfl rfl (nft rfl)) rfl rfl fun inv a R => ?_
      refine dr_pass (i := 29) R (waits_dom (by kernel_rfl) (by kernel_rfl)) (by kernel_rfl) inv rfl (by decide) (by kernel_rfl) (by kernel_rfl) (fun _ _ _ h => h) (wanted_no R rfl rfl rfl (nft rfl)) rfl rfl fun inv a R => ?_
      refine dr_pass (i := 30) R (waits_dom (by kernel_rfl) (by kernel_rfl)) (by kernel_rfl) inv rfl (by decide) (by kernel_rfl) (by kernel_rfl) (fun _ _ _ h => h) (wanted_no R rfl rfl rfl (nft rfl)) rfl rfl fun inv a R => ?_
      refine seg_end (by kernel_rfl) ?_
      refine any_tail 31 (by kernel_rfl) ?_
      refine op_pass R rfl rfl rfl (nft rfl) (fun a R => ?_) (by intro s hs; cases hs; rfl)
      refine op_val R (rn_pickT R rfl rfl rfl) rfl fun a R => ?_
      refine wpList_nil ?_
      refine then_normal ?_
      exact ⟨true, R.weak ⟨rfl, rfl, rfl, rfl, rfl, rfl, trivial⟩, h⟩
    ·rintro a w ⟨y19_51, R, h⟩
     unfold drawer_NewDisk.k19 at h
     rcases ite_cases h with ⟨g20, h⟩ | ⟨g20, h⟩
     ·refine wp_condT R (congrArg (fun b => some (Value.bool b)) g20) ?_
      refine wp_seq ?_
      refine wp_region_lit ?_
      refine oas R rfl rfl fun a R => ?_
      refine oas R rfl rfl fun a R => ?_
      refine wpList_nil ?_
      refine then_normal ?_
      refine wp_ret ?_
      refine then_ret ?_
      refine block_ret ?_
      refine then_ret ?_
      refine then_ret ?_
      refine block_ret ?_
      refine then_ret ?_
      exact post_ret R rfl rfl ⟨none, 195, rfl, h⟩
     ·refine wp_condF R (congrArg (fun b => some (Value.bool b)) g20) ?_
      refine wp_skip ?_
      refine then_normal ?_
      refine region_start mo fun inv => ?_
      obtain ⟨x55_21, cx55_21, h⟩ := h
      obtain ⟨x57_22, cx57_22, h⟩ := h
      obtain ⟨x59_23, cx59_23, h⟩ := h
      obtain ⟨x62_24, cx62_24, h⟩ := h
      refine seg_held (n := 13) (f := 13) (g := 1) (fun w : World => w.cell? (x12_6.add 0) = some (.map x55_21) ∧ w.cell? (x6_16.add 0) = some (.string x57_22) ∧ w.cell? (x6_16.add 1) = some (Sl.val x59_23) ∧ w.cell? (x6_16.add 2) = some (.int .i64 x62_24) ∧ True) (by kernel_rfl) fun inv => ?_
      have hS0 : (fun w : World => w.cell? (x12_6.add 0) = some (.map x55_21) ∧ w.cell? (x6_16.add 0) = some (.string x57_22) ∧ w.cell? (x6_16.add 1) = some (Sl.val x59_23) ∧ w.cell? (x6_16.add 2) = some (.int .i64 x62_24) ∧ True) _ := ⟨cx55_21, cx57_22, cx59_23, cx62_24, trivial⟩
      refine dr_val (i := 0) R (waits_dom (by kernel_rfl) (by kernel_rfl)) (by kernel_rfl) inv rfl (by decide) (by kernel_rfl) (by kernel_rfl) (fun _ _ _ h => h) wanted_none (fun w' hS => rn_mv R rfl) hS0 rfl fun inv a R => ?_
      refine dr_val (i := 1) R (waits_dom (by kernel_rfl) (by kernel_rfl)) (by kernel_rfl) inv rfl (by decide) (by kernel_rfl) (by kernel_rfl) (fun _ _ _ h => h) wanted_none (fun w' hS => rn_nil R rfl rfl) hS0 rfl fun inv a R => ?_
      refine dr_val (i := 2) R (waits_dom (by kernel_rfl) (by kernel_rfl)) (by kernel_rfl) inv rfl (by decide) (by kernel_rfl) (by kernel_rfl) (fun _ _ _ h => h) wanted_none (fun w' hS => rn_fld R rfl fd96_0) hS0 rfl fun inv a R => ?_
      refine dr_val (i := 3) R (waits_dom (by kernel_rfl) (by kernel_rfl)) (by kernel_rfl) inv rfl (by decide) (by kernel_rfl) (by kernel_rfl) (fun _ _ _ h => h) wanted_none (fun w' hS => rn_ld R rfl Try.underlying94 rfl (hS.1)) hS0 rfl fun inv a R => ?_
      refine dr_val (i := 4) R (waits_dom (by kernel_rfl) (by kernel_rfl)) (by kernel_rfl) inv rfl (by decide) (by kernel_rfl) (by kernel_rfl) (fun _ _ _ h => h) wanted_none (fun w' hS => rn_fld R rfl fd74_0) hS0 rfl fun inv a R => ?_
      refine dr_val (i := 5) R (waits_dom (by kernel_rfl) (by kernel_rfl)) (by kernel_rfl) inv rfl (by decide) (by kernel_rfl) (by kernel_rfl) (fun _ _ _ h => h) wanted_none (fun w' hS => rn_ld R rfl Try.underlying9 rfl (hS.2.1)) hS0 rfl fun inv a R => ?_
      refine dr_val (i := 6) R (waits_dom (by kernel_rfl) (by kernel_rfl)) (by kernel_rfl) inv rfl (by decide) (by kernel_rfl) (by kernel_rfl) (fun _ _ _ h => h) wanted_none (fun w' hS => rn_fld R rfl fd74_1) hS0 rfl fun inv a R => ?_
      refine dr_val (i := 7) R (waits_dom (by kernel_rfl) (by kernel_rfl)) (by kernel_rfl) inv rfl (by decide) (by kernel_rfl) (by kernel_rfl) (fun _ _ _ h => h) wanted_none (fun w' hS => rn_ld R rfl Try.underlying34 rfl (hS.2.2.1)) hS0 rfl fun inv a R => ?_
      refine dr_val (i := 9) R (waits_dom (by kernel_rfl) (by kernel_rfl)) (by kernel_rfl) inv rfl (by decide) (by kernel_rfl) (by kernel_rfl) (fun _ _ _ h => h) wanted_none (fun w' hS => rn_fld R rfl fd74_2) hS0 rfl fun inv a R => ?_
      refine dr_val (i := 10) R (waits_dom (by kernel_rfl) (by kernel_rfl)) (by kernel_rfl) inv rfl (by decide) (by kernel_rfl) (by kernel_rfl) (fun _ _ _ h => h) wanted_none (fun w' hS => rn_ld R rfl Try.underlying3 rfl (hS.2.2.2.1)) hS0 rfl fun inv a R => ?_
      refine dr_call (i := 8) R inv rfl (by decide) (by kernel_rfl) wanted_none (rn_calls R rfl cf35) rfl ?_
      refine call_mono (s_slices_Clone_byte_byte _ _ _ h) ?_
      rintro _ w30 ⟨x60_25_0, rfl, hS0, h⟩
      refine ⟨hS0, fun a inv R => ?_⟩
      refine dr_val (i := 11) R (waits_dom (by kernel_rfl) (by kernel_rfl)) (by kernel_rfl) inv rfl (by decide) (by kernel_rfl) (by kernel_rfl) (fun _ _ _ h => h) wanted_none (fun w' hS => rn_build (r := .agg #[Sl.val x60_25_0, .int .i64 x62_24]) R rfl (fun w => by kernel_rfl)) hS0 rfl fun inv a R => ?_
      obtain ⟨x64_26, e27, h⟩ := al_e h
      obtain ⟨hS0, h⟩ := h
      refine dr_run (v := .pointer (some x64_26)) (i := 12) R inv rfl (by decide) (by kernel_rfl) wanted_none (by rw [e27]; exact rn_bx (x := (.tmp 63)) (t := 98) R rfl) hS0 rfl fun inv a R => ?_
      refine seg_end (by kernel_rfl) ?_
      refine any_tail 13 (by kernel_rfl) ?_
      obtain ⟨w28, c28, h⟩ := h
      refine op_unit R (rn_mapUpdate R rfl rfl rfl c28) fun a R => ?_
      refine wpList_nil ?_
      refine block_normal ?_
      refine then_normal ?_
      refine wp_region_lit ?_
      refine op_val R (rn_bin (v := .int .i64 (IntKind.i64.wrap (z10_15 + 1))) R rfl rfl rfl) rfl fun a R => ?_
      refine omv R rfl rfl fun a R => ?_
      refine wpList_nil ?_
      refine then_normal ?_
      exact hC (IntKind.i64.wrap (z10_15 + 1)) _ _ (R.weak ⟨rfl, rfl, rfl, rfl, trivial⟩) (by rw [← hK10] at h; exact h)
   ·refine wp_condF R (congrArg (fun b => some (Value.bool b)) g12) ?_
    refine wp_exit ?_
    refine then_exit ?_
    refine then_exit ?_
    refine block_eq ?_
    refine then_normal ?_
    exact ⟨R.weak ⟨rfl, trivial⟩, h⟩
  ·rintro a w ⟨R, h⟩
   unfold drawer_NewDisk.k8 at h
   refine wp_seq ?_
   refine wp_region_lit ?_
   refine omv R rfl rfl fun a R => ?_
   refine oas R rfl rfl fun a R => ?_
   refine oas R rfl rfl fun a R => ?_
   refine wpList_nil ?_
   refine then_normal ?_
   refine wp_ret ?_
   exact post_ret R rfl rfl ⟨(some x12_6), 0, rfl, h⟩
theorem s_drawer_NewDisk (x0 : Sl) (Q : Option Addr → Int → World → Prop) (w : World) (h : drawer_NewDisk x0 Q w) :
    Calls Try.prog 11 #[Sl.val x0] w (Rets fun v w => ∃ r0 : Option Addr, ∃ r1 : Int, v = (.tuple #[.pointer r0, .int .i64 r1] : Value) ∧ Q r0 r1 w) :=
  calls_body (args := [Sl.val x0]) Try.func11 rfl rfl (Nat.le_of_ble_eq_true rfl) (L := [(0, Sl.val x0)]) (by simp [starts]) (b_drawer_NewDisk x0 Q w h rfl)

/-! (levyroom.Room).holdBytes -/

def levyroom_Room_holdBytes.k3  (Q : Bool → World → Prop) (w : World) : Prop :=
  Q true w

def levyroom_Room_holdBytes.k10 (x0 : Option Addr) (x9_1 : Addr) (z4_4 : Int) (K4 : Int → World → Prop) (Q : Bool → World → Prop) (w : World) : Prop :=
  K4 (IntKind.i64.wrap (z4_4 + 1)) w

def levyroom_Room_holdBytes.l18 (x0 : Option Addr) (x9_1 : Addr) (z4_4 : Int) (K4 : Int → World → Prop) (x25_16 : Sl) (z18_6 : Int) (Q : Bool → World → Prop) (K18 : Int → World → Prop) (w : World) : Prop :=
  (if (decide (z18_6 < 600)) = true then nn x0 fun x32_21 => ld Sl.val w (x32_21.add 0) fun x34_22 => ix x34_22.p x34_22.len z4_4 1 fun x36_24 => ld Sl.val w x36_24 fun x37_25 => ix x37_25.p x37_25.len (IntKind.i64.wrap ((IntKind.i64.wrap (((x25_16.len : Nat) : Int) - 600)) + z18_6)) 1 fun x42_29 => ld (Value.int .u8) w x42_29 fun x43_30 => ix (some x9_1) 2 (Int.tmod z18_6 2) 1 fun x47_33 => ld (Value.int .u8) w x47_33 fun x48_34 => (if (x43_30 != x48_34) = true then Q false w else K18 (IntKind.i64.wrap (z18_6 + 1)) w) else levyroom_Room_holdBytes.k10 x0 x9_1 z4_4 K4 Q w)

def levyroom_Room_holdBytes.l4 (x0 : Option Addr) (x9_1 : Addr) (z4_4 : Int) (Q : Bool → World → Prop) (K4 : Int → World → Prop) (w : World) : Prop :=
  nn x0 fun x12_5 => ld Sl.val w (x12_5.add 0) fun x14_6 => (if (decide (z4_4 < ((x14_6.len : Nat) : Int))) = true then nn x0 fun x20_12 => ld Sl.val w (x20_12.add 0) fun x22_13 => ix x22_13.p x22_13.len z4_4 1 fun x24_15 => ld Sl.val w x24_15 fun x25_16 => (Fix (σ := Int) (fun Ks s w => levyroom_Room_holdBytes.l18 x0 x9_1 z4_4 K4 x25_16 s Q (fun z18_6 w => Ks z18_6 w) w) 0 w) else levyroom_Room_holdBytes.k3  Q w)

def levyroom_Room_holdBytes (x0 : Option Addr) (Q : Bool → World → Prop) (w : World) : Prop :=
  al w (.cells #[.int .u8 165, .int .u8 90] 5) fun x9_1 w => (Fix (σ := Int) (fun Ks s w => levyroom_Room_holdBytes.l4 x0 x9_1 s Q (fun z4_4 w => Ks z4_4 w) w) 0 w)

theorem b_levyroom_Room_holdBytes (x0 : Option Addr) (Q : Bool → World → Prop) (w : World) (h : levyroom_Room_holdBytes x0 Q w) {c : Code} (hb : Try.f41.body = some c) :
 ∀ a, Rep a 52 [(0, .pointer x0)] [] → c.wp Try.prog (bodyPost Try.prog Try.f41 (Rets fun v w => ∃ r0 : Bool, v = (.bool r0 : Value) ∧ Q r0 w)) a w := by
 intro a R
 obtain rfl := Option.some.inj hb
 unfold levyroom_Room_holdBytes at h
 refine wp_seq ?_
 refine wp_region_lit ?_
 refine oas R rfl rfl fun a R => ?_
 refine wpList_nil ?_
 refine then_normal ?_
 refine wp_seq ?_
 refine wp_region_lit ?_
 obtain ⟨x9_1, e2, h⟩ := al_e h
 refine op_val (v := .slice (some x9_1) 2 2) R (by rw [e2]; exact rn_buildSlice (t := 34) (len := 2) (xs := [(0, (.const (.int .u8 165))), (1, (.const (.int .u8 90)))]) (cells := #[.int .u8 165, .int .u8 90]) (e := 5) R rfl (fun w => by kernel_rfl)) rfl fun a R => ?_
 refine oas R rfl rfl fun a R => ?_
 refine wpList_nil ?_
 refine then_normal ?_
 refine seq_join (fun a w => Rep a 52 [] [] ∧ levyroom_Room_holdBytes.k3  Q w) ?_ ?_
 ·refine wp_seq ?_
  refine wp_region_lit ?_
  refine oas R rfl rfl fun a R => ?_
  refine wpList_nil ?_
  refine then_normal ?_
  refine wp_block ?_
  refine wp_fix (σ := Int) (fun s a => Rep a 52 [(0, .pointer x0), (3, .slice (some x9_1) 2 2), (4, .int .i64 s)] []) h (R.weak ⟨rfl, rfl, rfl, trivial⟩) ?_
  rintro Ks C z4_4 a w hC R h
  have R : Rep a 52 [(0, .pointer x0), (3, .slice (some x9_1) 2 2), (4, .int .i64 z4_4)] [] := R
  have h : levyroom_Room_holdBytes.l4 x0 x9_1 z4_4 Q (fun z4_4 w => Ks z4_4 w) w := h
  generalize hK4 : (fun z4_4 w => Ks z4_4 w) = K4 at h
  unfold levyroom_Room_holdBytes.l4 at h
  refine wp_seq ?_
  refine wp_seq ?_
  refine wp_region_lit ?_
  refine omv R rfl rfl fun a R => ?_
  refine omv R rfl rfl fun a R => ?_
  obtain ⟨x12_5, cx12_5, h⟩ := h
  refine onl R rfl cx12_5 rfl fun a R => ?_
  refine ofd R rfl fd65_0 rfl fun a R => ?_
  obtain ⟨x14_6, cx14_6, h⟩ := h
  refine old R rfl Try.underlying43 rfl cx14_6 rfl fun a R => ?_
  refine op_val R (rn_len R rfl Try.underlying43) rfl fun a R => ?_
  refine op_val R (rn_bin (v := .bool (decide (z4_4 < ((x14_6.len : Nat) : Int)))) R rfl rfl rfl) rfl fun a R => ?_
  refine wpList_nil ?_
  refine then_normal ?_
  rcases ite_cases h with ⟨g9, h⟩ | ⟨g9, h⟩
  ·refine wp_condT R (congrArg (fun b => some (Value.bool b)) g9) ?_
   refine wp_skip ?_
   refine then_normal ?_
   refine seq_join (fun a w => Rep a 52 [(0, .pointer x0), (3, .slice (some x9_1) 2 2), (4, .int .i64 z4_4)] [] ∧ levyroom_Room_holdBytes.k10 x0 x9_1 z4_4 K4 Q w) ?_ ?_
   ·refine wp_block ?_
    refine wp_seq ?_
    refine wp_region_lit ?_
    refine omv R rfl rfl fun a R => ?_
    obtain ⟨x20_12, cx20_12, h⟩ := h
    refine onl R rfl cx20_12 rfl fun a R => ?_
    refine ofd R rfl fd65_0 rfl fun a R => ?_
    obtain ⟨x22_13, cx22_13, h⟩ := h
    refine old R rfl Try.underlying43 rfl cx22_13 rfl fun a R => ?_
    refine omv R rfl rfl fun a R => ?_
    obtain ⟨b14, x24_15, p14, i14, j14, e14, h⟩ := ix_e h
    refine op_val (v := .pointer (some x24_15)) R (by rw [e14]; exact rn_ixs (x := (.tmp 22)) (y := (.tmp 23)) R rfl p14 rfl Try.underlying43 sz34 i14 j14) rfl fun a R => ?_
    obtain ⟨x25_16, cx25_16, h⟩ := h
    refine old R rfl Try.underlying34 rfl cx25_16 rfl fun a R => ?_
    refine op_val R (rn_len R rfl Try.underlying34) rfl fun a R => ?_
    refine oas R rfl rfl fun a R => ?_
    refine wpList_nil ?_
    refine then_normal ?_
    refine wp_seq ?_
    refine wp_region_lit ?_
    refine oas R rfl rfl fun a R => ?_
    refine wpList_nil ?_
    refine then_normal ?_
    refine wp_block ?_
    refine wp_fix (σ := Int) (fun s a => Rep a 52 [(0, .pointer x0), (3, .slice (some x9_1) 2 2), (4, .int .i64 z4_4), (5, .int .i64 ((x25_16.len : Nat) : Int)), (6, .int .i64 s)] []) h (R.weak ⟨rfl, rfl, rfl, rfl, rfl, trivial⟩) ?_
    rintro Ks C z18_6 a w hC R h
    have R : Rep a 52 [(0, .pointer x0), (3, .slice (some x9_1) 2 2), (4, .int .i64 z4_4), (5, .int .i64 ((x25_16.len : Nat) : Int)), (6, .int .i64 z18_6)] [] := R
    have h : levyroom_Room_holdBytes.l18 x0 x9_1 z4_4 K4 x25_16 z18_6 Q (fun z18_6 w => Ks z18_6 w) w := h
    generalize hK18 : (fun z18_6 w => Ks z18_6 w) = K18 at h
    unfold levyroom_Room_holdBytes.l18 at h
    refine wp_seq ?_
    refine wp_seq ?_
    refine wp_region_lit ?_
    refine omv R rfl rfl fun a R => ?_
    refine op_val R (rn_bin (v := .bool (decide (z18_6 < 600))) R rfl rfl rfl) rfl fun a R => ?_
    refine wpList_nil ?_
    refine then_normal ?_
    rcases ite_cases h with ⟨g20, h⟩ | ⟨g20, h⟩
    ·refine wp_condT R (congrArg (fun b => some (Value.bool b)) g20) ?_
     refine wp_skip ?_
     refine then_normal ?_
     refine wp_seq ?_
     refine wp_block ?_
     refine wp_seq ?_
     refine wp_region_lit ?_
     refine omv R rfl rfl fun a R => ?_
     obtain ⟨x32_21, cx32_21, h⟩ := h
     refine onl R rfl cx32_21 rfl fun a R => ?_
     refine ofd R rfl fd65_0 rfl fun a R => ?_
     obtain ⟨x34_22, cx34_22, h⟩ := h
     refine old R rfl Try.underlying43 rfl cx34_22 rfl fun a R => ?_
     refine omv R rfl rfl fun a R => ?_
     obtain ⟨b23, x36_24, p23, i23, j23, e23, h⟩ := ix_e h
     refine op_val (v := .pointer (some x36_24)) R (by rw [e23]; exact rn_ixs (x := (.tmp 34)) (y := (.tmp 35)) R rfl p23 rfl Try.underlying43 sz34 i23 j23) rfl fun a R => ?_
     obtain ⟨x37_25, cx37_25, h⟩ := h
     refine old R rfl Try.underlying34 rfl cx37_25 rfl fun a R => ?_
     refine omv R rfl rfl fun a R => ?_
     refine op_val R (rn_bin (v := .int .i64 (IntKind.i64.wrap (((x25_16.len : Nat) : Int) - 600))) R rfl rfl rfl) rfl fun a R => ?_
     refine omv R rfl rfl fun a R => ?_
     refine op_val R (rn_bin (v := .int .i64 (IntKind.i64.wrap ((IntKind.i64.wrap (((x25_16.len : Nat) : Int) - 600)) + z18_6))) R rfl rfl rfl) rfl fun a R => ?_
     obtain ⟨b28, x42_29, p28, i28, j28, e28, h⟩ := ix_e h
     refine op_val (v := .pointer (some x42_29)) R (by rw [e28]; exact rn_ixs (x := (.tmp 37)) (y := (.tmp 41)) R rfl p28 rfl Try.underlying34 sz5 i28 j28) rfl fun a R => ?_
     obtain ⟨x43_30, cx43_30, h⟩ := h
     refine old R rfl Try.underlying5 rfl cx43_30 rfl fun a R => ?_
     refine oas R rfl rfl fun a R => ?_
     refine wpList_nil ?_
     refine then_normal ?_
     refine wp_seq ?_
     refine wp_region_lit ?_
     refine omv R rfl rfl fun a R => ?_
     refine omv R rfl rfl fun a R => ?_
     refine op_val R (rn_bin (v := .int .i64 (Int.tmod z18_6 2)) R rfl rfl rfl) rfl fun a R => ?_
     obtain ⟨b32, x47_33, p32, i32, j32, e32, h⟩ := ix_e h
     refine op_val (v := .pointer (some x47_33)) R (by rw [e32]; exact rn_ixs (x := (.tmp 44)) (y := (.tmp 46)) R rfl p32 rfl Try.underlying34 sz5 i32 j32) rfl fun a R => ?_
     obtain ⟨x48_34, cx48_34, h⟩ := h
     refine old R rfl Try.underlying5 rfl cx48_34 rfl fun a R => ?_
     refine oas R rfl rfl fun a R => ?_
     refine wpList_nil ?_
     refine then_normal ?_
     refine wp_seq ?_
     refine wp_region_lit ?_
     refine omv R rfl rfl fun a R => ?_
     refine omv R rfl rfl fun a R => ?_
     refine op_val R (rn_bin (v := .bool (x43_30 != x48_34)) R rfl rfl rfl) rfl fun a R => ?_
     refine wpList_nil ?_
     refine then_normal ?_
     rcases ite_cases h with ⟨g36, h⟩ | ⟨g36, h⟩
     ·refine wp_condT R (congrArg (fun b => some (Value.bool b)) g36) ?_
      refine wp_seq ?_
      refine wp_region_lit ?_
      refine oas R rfl rfl fun a R => ?_
      refine wpList_nil ?_
      refine then_normal ?_
      refine wp_ret ?_
      refine block_ret ?_
      refine then_ret ?_
      refine then_ret ?_
      refine block_ret ?_
      refine block_ret ?_
      refine then_ret ?_
      refine then_ret ?_
      refine block_ret ?_
      refine then_ret ?_
      exact post_ret R rfl rfl ⟨false, rfl, h⟩
     ·refine wp_condF R (congrArg (fun b => some (Value.bool b)) g36) ?_
      refine wp_skip ?_
      refine block_normal ?_
      refine then_normal ?_
      refine wp_region_lit ?_
      refine omv R rfl rfl fun a R => ?_
      refine op_val R (rn_bin (v := .int .i64 (IntKind.i64.wrap (z18_6 + 1))) R rfl rfl rfl) rfl fun a R => ?_
      refine oas R rfl rfl fun a R => ?_
      refine wpList_nil ?_
      refine then_normal ?_
      exact hC (IntKind.i64.wrap (z18_6 + 1)) _ _ (R.weak ⟨rfl, rfl, rfl, rfl, rfl, trivial⟩) (by rw [← hK18] at h; exact h)
    ·refine wp_condF R (congrArg (fun b => some (Value.bool b)) g20) ?_
     refine wp_exit ?_
     refine then_exit ?_
     refine then_exit ?_
     refine block_eq ?_
     refine block_normal ?_
     refine then_normal ?_
     exact ⟨R.weak ⟨rfl, rfl, rfl, trivial⟩, h⟩
   ·rintro a w ⟨R, h⟩
    unfold levyroom_Room_holdBytes.k10 at h
    refine wp_region_lit ?_
    refine omv R rfl rfl fun a R => ?_
    refine op_val R (rn_bin (v := .int .i64 (IntKind.i64.wrap (z4_4 + 1))) R rfl rfl rfl) rfl fun a R => ?_
    refine oas R rfl rfl fun a R => ?_
    refine wpList_nil ?_
    refine then_normal ?_
    exact hC (IntKind.i64.wrap (z4_4 + 1)) _ _ (R.weak ⟨rfl, rfl, rfl, trivial⟩) (by rw [← hK4] at h; exact h)
  ·refine wp_condF R (congrArg (fun b => some (Value.bool b)) g9) ?_
   refine wp_exit ?_
   refine then_exit ?_
   refine then_exit ?_
   refine block_eq ?_
   refine then_normal ?_
   exact ⟨R.weak trivial, h⟩
 ·rintro a w ⟨R, h⟩
  unfold levyroom_Room_holdBytes.k3 at h
  refine wp_seq ?_
  refine wp_region_lit ?_
  refine oas R rfl rfl fun a R => ?_
  refine wpList_nil ?_
  refine then_normal ?_
  refine wp_ret ?_
  exact post_ret R rfl rfl ⟨true, rfl, h⟩
theorem s_levyroom_Room_holdBytes (x0 : Option Addr) (Q : Bool → World → Prop) (w : World) (h : levyroom_Room_holdBytes x0 Q w) :
    Calls Try.prog 41 #[.pointer x0] w (Rets fun v w => ∃ r0 : Bool, v = (.bool r0 : Value) ∧ Q r0 w) :=
  calls_body (args := [.pointer x0]) Try.func41 rfl rfl (Nat.le_of_ble_eq_true rfl) (L := [(0, .pointer x0)]) (by simp [starts]) (b_levyroom_Room_holdBytes x0 Q w h rfl)

/-! (levyroom.Room).holdInts -/

def levyroom_Room_holdInts.k3  (Q : Bool → World → Prop) (w : World) : Prop :=
  Q true w

def levyroom_Room_holdInts.k10 (x0 : Option Addr) (x9_1 : Addr) (z4_4 : Int) (K4 : Int → World → Prop) (Q : Bool → World → Prop) (w : World) : Prop :=
  K4 (IntKind.i64.wrap (z4_4 + 1)) w

def levyroom_Room_holdInts.l18 (x0 : Option Addr) (x9_1 : Addr) (z4_4 : Int) (K4 : Int → World → Prop) (x25_16 : Sl) (z18_6 : Int) (Q : Bool → World → Prop) (K18 : Int → World → Prop) (w : World) : Prop :=
  (if (decide (z18_6 < 40)) = true then nn x0 fun x32_21 => ld Sl.val w (x32_21.add 1) fun x34_22 => ix x34_22.p x34_22.len z4_4 1 fun x36_24 => ld Sl.val w x36_24 fun x37_25 => ix x37_25.p x37_25.len (IntKind.i64.wrap ((IntKind.i64.wrap (((x25_16.len : Nat) : Int) - 40)) + z18_6)) 1 fun x42_29 => ld (Value.int .i64) w x42_29 fun x43_30 => ix (some x9_1) 2 (Int.tmod z18_6 2) 1 fun x47_33 => ld (Value.int .i64) w x47_33 fun x48_34 => (if (x43_30 != x48_34) = true then Q false w else K18 (IntKind.i64.wrap (z18_6 + 1)) w) else levyroom_Room_holdInts.k10 x0 x9_1 z4_4 K4 Q w)

def levyroom_Room_holdInts.l4 (x0 : Option Addr) (x9_1 : Addr) (z4_4 : Int) (Q : Bool → World → Prop) (K4 : Int → World → Prop) (w : World) : Prop :=
  nn x0 fun x12_5 => ld Sl.val w (x12_5.add 1) fun x14_6 => (if (decide (z4_4 < ((x14_6.len : Nat) : Int))) = true then nn x0 fun x20_12 => ld Sl.val w (x20_12.add 1) fun x22_13 => ix x22_13.p x22_13.len z4_4 1 fun x24_15 => ld Sl.val w x24_15 fun x25_16 => (Fix (σ := Int) (fun Ks s w => levyroom_Room_holdInts.l18 x0 x9_1 z4_4 K4 x25_16 s Q (fun z18_6 w => Ks z18_6 w) w) 0 w) else levyroom_Room_holdInts.k3  Q w)

def levyroom_Room_holdInts (x0 : Option Addr) (Q : Bool → World → Prop) (w : World) : Prop :=
  al w (.cells #[.int .i64 (-7701), .int .i64 (-7702)] 3) fun x9_1 w => (Fix (σ := Int) (fun Ks s w => levyroom_Room_holdInts.l4 x0 x9_1 s Q (fun z4_4 w => Ks z4_4 w) w) 0 w)

theorem b_levyroom_Room_holdInts (x0 : Option Addr) (Q : Bool → World → Prop) (w : World) (h : levyroom_Room_holdInts x0 Q w) {c : Code} (hb : Try.f42.body = some c) :
 ∀ a, Rep a 52 [(0, .pointer x0)] [] → c.wp Try.prog (bodyPost Try.prog Try.f42 (Rets fun v w => ∃ r0 : Bool, v = (.bool r0 : Value) ∧ Q r0 w)) a w := by
 intro a R
 obtain rfl := Option.some.inj hb
 unfold levyroom_Room_holdInts at h
 refine wp_seq ?_
 refine wp_region_lit ?_
 refine oas R rfl rfl fun a R => ?_
 refine wpList_nil ?_
 refine then_normal ?_
 refine wp_seq ?_
 refine wp_region_lit ?_
 obtain ⟨x9_1, e2, h⟩ := al_e h
 refine op_val (v := .slice (some x9_1) 2 2) R (by rw [e2]; exact rn_buildSlice (t := 35) (len := 2) (xs := [(0, (.const (.int .i64 (-7701)))), (1, (.const (.int .i64 (-7702))))]) (cells := #[.int .i64 (-7701), .int .i64 (-7702)]) (e := 3) R rfl (fun w => by kernel_rfl)) rfl fun a R => ?_
 refine oas R rfl rfl fun a R => ?_
 refine wpList_nil ?_
 refine then_normal ?_
 refine seq_join (fun a w => Rep a 52 [] [] ∧ levyroom_Room_holdInts.k3  Q w) ?_ ?_
 ·refine wp_seq ?_
  refine wp_region_lit ?_
  refine oas R rfl rfl fun a R => ?_
  refine wpList_nil ?_
  refine then_normal ?_
  refine wp_block ?_
  refine wp_fix (σ := Int) (fun s a => Rep a 52 [(0, .pointer x0), (3, .slice (some x9_1) 2 2), (4, .int .i64 s)] []) h (R.weak ⟨rfl, rfl, rfl, trivial⟩) ?_
  rintro Ks C z4_4 a w hC R h
  have R : Rep a 52 [(0, .pointer x0), (3, .slice (some x9_1) 2 2), (4, .int .i64 z4_4)] [] := R
  have h : levyroom_Room_holdInts.l4 x0 x9_1 z4_4 Q (fun z4_4 w => Ks z4_4 w) w := h
  generalize hK4 : (fun z4_4 w => Ks z4_4 w) = K4 at h
  unfold levyroom_Room_holdInts.l4 at h
  refine wp_seq ?_
  refine wp_seq ?_
  refine wp_region_lit ?_
  refine omv R rfl rfl fun a R => ?_
  refine omv R rfl rfl fun a R => ?_
  obtain ⟨x12_5, cx12_5, h⟩ := h
  refine onl R rfl cx12_5 rfl fun a R => ?_
  refine ofd R rfl fd65_1 rfl fun a R => ?_
  obtain ⟨x14_6, cx14_6, h⟩ := h
  refine old R rfl Try.underlying44 rfl cx14_6 rfl fun a R => ?_
  refine op_val R (rn_len R rfl Try.underlying44) rfl fun a R => ?_
  refine op_val R (rn_bin (v := .bool (decide (z4_4 < ((x14_6.len : Nat) : Int)))) R rfl rfl rfl) rfl fun a R => ?_
  refine wpList_nil ?_
  refine then_normal ?_
  rcases ite_cases h with ⟨g9, h⟩ | ⟨g9, h⟩
  ·refine wp_condT R (congrArg (fun b => some (Value.bool b)) g9) ?_
   refine wp_skip ?_
   refine then_normal ?_
   refine seq_join (fun a w => Rep a 52 [(0, .pointer x0), (3, .slice (some x9_1) 2 2), (4, .int .i64 z4_4)] [] ∧ levyroom_Room_holdInts.k10 x0 x9_1 z4_4 K4 Q w) ?_ ?_
   ·refine wp_block ?_
    refine wp_seq ?_
    refine wp_region_lit ?_
    refine omv R rfl rfl fun a R => ?_
    obtain ⟨x20_12, cx20_12, h⟩ := h
    refine onl R rfl cx20_12 rfl fun a R => ?_
    refine ofd R rfl fd65_1 rfl fun a R => ?_
    obtain ⟨x22_13, cx22_13, h⟩ := h
    refine old R rfl Try.underlying44 rfl cx22_13 rfl fun a R => ?_
    refine omv R rfl rfl fun a R => ?_
    obtain ⟨b14, x24_15, p14, i14, j14, e14, h⟩ := ix_e h
    refine op_val (v := .pointer (some x24_15)) R (by rw [e14]; exact rn_ixs (x := (.tmp 22)) (y := (.tmp 23)) R rfl p14 rfl Try.underlying44 sz35 i14 j14) rfl fun a R => ?_
    obtain ⟨x25_16, cx25_16, h⟩ := h
    refine old R rfl Try.underlying35 rfl cx25_16 rfl fun a R => ?_
    refine op_val R (rn_len R rfl Try.underlying35) rfl fun a R => ?_
    refine oas R rfl rfl fun a R => ?_
    refine wpList_nil ?_
    refine then_normal ?_
    refine wp_seq ?_
    refine wp_region_lit ?_
    refine oas R rfl rfl fun a R => ?_
    refine wpList_nil ?_
    refine then_normal ?_
    refine wp_block ?_
    refine wp_fix (σ := Int) (fun s a => Rep a 52 [(0, .pointer x0), (3, .slice (some x9_1) 2 2), (4, .int .i64 z4_4), (5, .int .i64 ((x25_16.len : Nat) : Int)), (6, .int .i64 s)] []) h (R.weak ⟨rfl, rfl, rfl, rfl, rfl, trivial⟩) ?_
    rintro Ks C z18_6 a w hC R h
    have R : Rep a 52 [(0, .pointer x0), (3, .slice (some x9_1) 2 2), (4, .int .i64 z4_4), (5, .int .i64 ((x25_16.len : Nat) : Int)), (6, .int .i64 z18_6)] [] := R
    have h : levyroom_Room_holdInts.l18 x0 x9_1 z4_4 K4 x25_16 z18_6 Q (fun z18_6 w => Ks z18_6 w) w := h
    generalize hK18 : (fun z18_6 w => Ks z18_6 w) = K18 at h
    unfold levyroom_Room_holdInts.l18 at h
    refine wp_seq ?_
    refine wp_seq ?_
    refine wp_region_lit ?_
    refine omv R rfl rfl fun a R => ?_
    refine op_val R (rn_bin (v := .bool (decide (z18_6 < 40))) R rfl rfl rfl) rfl fun a R => ?_
    refine wpList_nil ?_
    refine then_normal ?_
    rcases ite_cases h with ⟨g20, h⟩ | ⟨g20, h⟩
    ·refine wp_condT R (congrArg (fun b => some (Value.bool b)) g20) ?_
     refine wp_skip ?_
     refine then_normal ?_
     refine wp_seq ?_
     refine wp_block ?_
     refine wp_seq ?_
     refine wp_region_lit ?_
     refine omv R rfl rfl fun a R => ?_
     obtain ⟨x32_21, cx32_21, h⟩ := h
     refine onl R rfl cx32_21 rfl fun a R => ?_
     refine ofd R rfl fd65_1 rfl fun a R => ?_
     obtain ⟨x34_22, cx34_22, h⟩ := h
     refine old R rfl Try.underlying44 rfl cx34_22 rfl fun a R => ?_
     refine omv R rfl rfl fun a R => ?_
     obtain ⟨b23, x36_24, p23, i23, j23, e23, h⟩ := ix_e h
     refine op_val (v := .pointer (some x36_24)) R (by rw [e23]; exact rn_ixs (x := (.tmp 34)) (y := (.tmp 35)) R rfl p23 rfl Try.underlying44 sz35 i23 j23) rfl fun a R => ?_
     obtain ⟨x37_25, cx37_25, h⟩ := h
     refine old R rfl Try.underlying35 rfl cx37_25 rfl fun a R => ?_
     refine omv R rfl rfl fun a R => ?_
     refine op_val R (rn_bin (v := .int .i64 (IntKind.i64.wrap (((x25_16.len : Nat) : Int) - 40))) R rfl rfl rfl) rfl fun a R => ?_
     refine omv R rfl rfl fun a R => ?_
     refine op_val R (rn_bin (v := .int .i64 (IntKind.i64.wrap ((IntKind.i64.wrap (((x25_16.len : Nat) : Int) - 40)) + z18_6))) R rfl rfl rfl) rfl fun a R => ?_
     obtain ⟨b28, x42_29, p28, i28, j28, e28, h⟩ := ix_e h
     refine op_val (v := .pointer (some x42_29)) R (by rw [e28]; exact rn_ixs (x := (.tmp 37)) (y := (.tmp 41)) R rfl p28 rfl Try.underlying35 sz3 i28 j28) rfl fun a R => ?_
     obtain ⟨x43_30, cx43_30, h⟩ := h
     refine old R rfl Try.underlying3 rfl cx43_30 rfl fun a R => ?_
     refine oas R rfl rfl fun a R => ?_
     refine wpList_nil ?_
     refine then_normal ?_
     refine wp_seq ?_
     refine wp_region_lit ?_
     refine omv R rfl rfl fun a R => ?_
     refine omv R rfl rfl fun a R => ?_
     refine op_val R (rn_bin (v := .int .i64 (Int.tmod z18_6 2)) R rfl rfl rfl) rfl fun a R => ?_
     obtain ⟨b32, x47_33, p32, i32, j32, e32, h⟩ := ix_e h
     refine op_val (v := .pointer (some x47_33)) R (by rw [e32]; exact rn_ixs (x := (.tmp 44)) (y := (.tmp 46)) R rfl p32 rfl Try.underlying35 sz3 i32 j32) rfl fun a R => ?_
     obtain ⟨x48_34, cx48_34, h⟩ := h
     refine old R rfl Try.underlying3 rfl cx48_34 rfl fun a R => ?_
     refine oas R rfl rfl fun a R => ?_
     refine wpList_nil ?_
     refine then_normal ?_
     refine wp_seq ?_
     refine wp_region_lit ?_
     refine omv R rfl rfl fun a R => ?_
     refine omv R rfl rfl fun a R => ?_
     refine op_val R (rn_bin (v := .bool (x43_30 != x48_34)) R rfl rfl rfl) rfl fun a R => ?_
     refine wpList_nil ?_
     refine then_normal ?_
     rcases ite_cases h with ⟨g36, h⟩ | ⟨g36, h⟩
     ·refine wp_condT R (congrArg (fun b => some (Value.bool b)) g36) ?_
      refine wp_seq ?_
      refine wp_region_lit ?_
      refine oas R rfl rfl fun a R => ?_
      refine wpList_nil ?_
      refine then_normal ?_
      refine wp_ret ?_
      refine block_ret ?_
      refine then_ret ?_
      refine then_ret ?_
      refine block_ret ?_
      refine block_ret ?_
      refine then_ret ?_
      refine then_ret ?_
      refine block_ret ?_
      refine then_ret ?_
      exact post_ret R rfl rfl ⟨false, rfl, h⟩
     ·refine wp_condF R (congrArg (fun b => some (Value.bool b)) g36) ?_
      refine wp_skip ?_
      refine block_normal ?_
      refine then_normal ?_
      refine wp_region_lit ?_
      refine omv R rfl rfl fun a R => ?_
      refine op_val R (rn_bin (v := .int .i64 (IntKind.i64.wrap (z18_6 + 1))) R rfl rfl rfl) rfl fun a R => ?_
      refine oas R rfl rfl fun a R => ?_
      refine wpList_nil ?_
      refine then_normal ?_
      exact hC (IntKind.i64.wrap (z18_6 + 1)) _ _ (R.weak ⟨rfl, rfl, rfl, rfl, rfl, trivial⟩) (by rw [← hK18] at h; exact h)
    ·refine wp_condF R (congrArg (fun b => some (Value.bool b)) g20) ?_
     refine wp_exit ?_
     refine then_exit ?_
     refine then_exit ?_
     refine block_eq ?_
     refine block_normal ?_
     refine then_normal ?_
     exact ⟨R.weak ⟨rfl, rfl, rfl, trivial⟩, h⟩
   ·rintro a w ⟨R, h⟩
    unfold levyroom_Room_holdInts.k10 at h
    refine wp_region_lit ?_
    refine omv R rfl rfl fun a R => ?_
    refine op_val R (rn_bin (v := .int .i64 (IntKind.i64.wrap (z4_4 + 1))) R rfl rfl rfl) rfl fun a R => ?_
    refine oas R rfl rfl fun a R => ?_
    refine wpList_nil ?_
    refine then_normal ?_
    exact hC (IntKind.i64.wrap (z4_4 + 1)) _ _ (R.weak ⟨rfl, rfl, rfl, trivial⟩) (by rw [← hK4] at h; exact h)
  ·refine wp_condF R (congrArg (fun b => some (Value.bool b)) g9) ?_
   refine wp_exit ?_
   refine then_exit ?_
   refine then_exit ?_
   refine block_eq ?_
   refine then_normal ?_
   exact ⟨R.weak trivial, h⟩
 ·rintro a w ⟨R, h⟩
  unfold levyroom_Room_holdInts.k3 at h
  refine wp_seq ?_
  refine wp_region_lit ?_
  refine oas R rfl rfl fun a R => ?_
  refine wpList_nil ?_
  refine then_normal ?_
  refine wp_ret ?_
  exact post_ret R rfl rfl ⟨true, rfl, h⟩
theorem s_levyroom_Room_holdInts (x0 : Option Addr) (Q : Bool → World → Prop) (w : World) (h : levyroom_Room_holdInts x0 Q w) :
    Calls Try.prog 42 #[.pointer x0] w (Rets fun v w => ∃ r0 : Bool, v = (.bool r0 : Value) ∧ Q r0 w) :=
  calls_body (args := [.pointer x0]) Try.func42 rfl rfl (Nat.le_of_ble_eq_true rfl) (L := [(0, .pointer x0)]) (by simp [starts]) (b_levyroom_Room_holdInts x0 Q w h rfl)

/-! (levyroom.Room).holdCells -/

def levyroom_Room_holdCells.k3  (Q : Bool → World → Prop) (w : World) : Prop :=
  Q true w

def levyroom_Room_holdCells.k10 (x0 : Option Addr) (x9_1 : Addr) (z4_4 : Int) (K4 : Int → World → Prop) (Q : Bool → World → Prop) (w : World) : Prop :=
  K4 (IntKind.i64.wrap (z4_4 + 1)) w

def levyroom_Room_holdCells.l18 (x0 : Option Addr) (x9_1 : Addr) (z4_4 : Int) (K4 : Int → World → Prop) (x25_16 : Sl) (z18_6 : Int) (Q : Bool → World → Prop) (K18 : Int → World → Prop) (w : World) : Prop :=
  (if (decide (z18_6 < 40)) = true then nn x0 fun x32_21 => ld Sl.val w (x32_21.add 2) fun x34_22 => ix x34_22.p x34_22.len z4_4 1 fun x36_24 => ld Sl.val w x36_24 fun x37_25 => ix x37_25.p x37_25.len (IntKind.i64.wrap ((IntKind.i64.wrap (((x25_16.len : Nat) : Int) - 40)) + z18_6)) 1 fun x42_29 => ld (Value.int .u32) w x42_29 fun x43_30 => ix (some x9_1) 2 (Int.tmod z18_6 2) 1 fun x47_33 => ld (Value.int .u32) w x47_33 fun x48_34 => (if (x43_30 != x48_34) = true then Q false w else K18 (IntKind.i64.wrap (z18_6 + 1)) w) else levyroom_Room_holdCells.k10 x0 x9_1 z4_4 K4 Q w)

def levyroom_Room_holdCells.l4 (x0 : Option Addr) (x9_1 : Addr) (z4_4 : Int) (Q : Bool → World → Prop) (K4 : Int → World → Prop) (w : World) : Prop :=
  nn x0 fun x12_5 => ld Sl.val w (x12_5.add 2) fun x14_6 => (if (decide (z4_4 < ((x14_6.len : Nat) : Int))) = true then nn x0 fun x20_12 => ld Sl.val w (x20_12.add 2) fun x22_13 => ix x22_13.p x22_13.len z4_4 1 fun x24_15 => ld Sl.val w x24_15 fun x25_16 => (Fix (σ := Int) (fun Ks s w => levyroom_Room_holdCells.l18 x0 x9_1 z4_4 K4 x25_16 s Q (fun z18_6 w => Ks z18_6 w) w) 0 w) else levyroom_Room_holdCells.k3  Q w)

def levyroom_Room_holdCells (x0 : Option Addr) (Q : Bool → World → Prop) (w : World) : Prop :=
  al w (.cells #[.int .u32 4294959595, .int .u32 4294959594] 36) fun x9_1 w => (Fix (σ := Int) (fun Ks s w => levyroom_Room_holdCells.l4 x0 x9_1 s Q (fun z4_4 w => Ks z4_4 w) w) 0 w)

theorem b_levyroom_Room_holdCells (x0 : Option Addr) (Q : Bool → World → Prop) (w : World) (h : levyroom_Room_holdCells x0 Q w) {c : Code} (hb : Try.f43.body = some c) :
 ∀ a, Rep a 52 [(0, .pointer x0)] [] → c.wp Try.prog (bodyPost Try.prog Try.f43 (Rets fun v w => ∃ r0 : Bool, v = (.bool r0 : Value) ∧ Q r0 w)) a w := by
 intro a R
 obtain rfl := Option.some.inj hb
 unfold levyroom_Room_holdCells at h
 refine wp_seq ?_
 refine wp_region_lit ?_
 refine oas R rfl rfl fun a R => ?_
 refine wpList_nil ?_
 refine then_normal ?_
 refine wp_seq ?_
 refine wp_region_lit ?_
 obtain ⟨x9_1, e2, h⟩ := al_e h
 refine op_val (v := .slice (some x9_1) 2 2) R (by rw [e2]; exact rn_buildSlice (t := 113) (len := 2) (xs := [(0, (.const (.int .u32 4294959595))), (1, (.const (.int .u32 4294959594)))]) (cells := #[.int .u32 4294959595, .int .u32 4294959594]) (e := 36) R rfl (fun w => by kernel_rfl)) rfl fun a R => ?_
 refine oas R rfl rfl fun a R => ?_
 refine wpList_nil ?_
 refine then_normal ?_
 refine seq_join (fun a w => Rep a 52 [] [] ∧ levyroom_Room_holdCells.k3  Q w) ?_ ?_
 ·refine wp_seq ?_
  refine wp_region_lit ?_
  refine oas R rfl rfl fun a R => ?_
  refine wpList_nil ?_
  refine then_normal ?_
  refine wp_block ?_
  refine wp_fix (σ := Int) (fun s a => Rep a 52 [(0, .pointer x0), (3, .slice (some x9_1) 2 2), (4, .int .i64 s)] []) h (R.weak ⟨rfl, rfl, rfl, trivial⟩) ?_
  rintro Ks C z4_4 a w hC R h
  have R : Rep a 52 [(0, .pointer x0), (3, .slice (some x9_1) 2 2), (4, .int .i64 z4_4)] [] := R
  have h : levyroom_Room_holdCells.l4 x0 x9_1 z4_4 Q (fun z4_4 w => Ks z4_4 w) w := h
  generalize hK4 : (fun z4_4 w => Ks z4_4 w) = K4 at h
  unfold levyroom_Room_holdCells.l4 at h
  refine wp_seq ?_
  refine wp_seq ?_
  refine wp_region_lit ?_
  refine omv R rfl rfl fun a R => ?_
  refine omv R rfl rfl fun a R => ?_
  obtain ⟨x12_5, cx12_5, h⟩ := h
  refine onl R rfl cx12_5 rfl fun a R => ?_
  refine ofd R rfl fd65_2 rfl fun a R => ?_
  obtain ⟨x14_6, cx14_6, h⟩ := h
  refine old R rfl Try.underlying45 rfl cx14_6 rfl fun a R => ?_
  refine op_val R (rn_len R rfl Try.underlying45) rfl fun a R => ?_
  refine op_val R (rn_bin (v := .bool (decide (z4_4 < ((x14_6.len : Nat) : Int)))) R rfl rfl rfl) rfl fun a R => ?_
  refine wpList_nil ?_
  refine then_normal ?_
  rcases ite_cases h with ⟨g9, h⟩ | ⟨g9, h⟩
  ·refine wp_condT R (congrArg (fun b => some (Value.bool b)) g9) ?_
   refine wp_skip ?_
   refine then_normal ?_
   refine seq_join (fun a w => Rep a 52 [(0, .pointer x0), (3, .slice (some x9_1) 2 2), (4, .int .i64 z4_4)] [] ∧ levyroom_Room_holdCells.k10 x0 x9_1 z4_4 K4 Q w) ?_ ?_
   ·refine wp_block ?_
    refine wp_seq ?_
    refine wp_region_lit ?_
    refine omv R rfl rfl fun a R => ?_
    obtain ⟨x20_12, cx20_12, h⟩ := h
    refine onl R rfl cx20_12 rfl fun a R => ?_
    refine ofd R rfl fd65_2 rfl fun a R => ?_
    obtain ⟨x22_13, cx22_13, h⟩ := h
    refine old R rfl Try.underlying45 rfl cx22_13 rfl fun a R => ?_
    refine omv R rfl rfl fun a R => ?_
    obtain ⟨b14, x24_15, p14, i14, j14, e14, h⟩ := ix_e h
    refine op_val (v := .pointer (some x24_15)) R (by rw [e14]; exact rn_ixs (x := (.tmp 22)) (y := (.tmp 23)) R rfl p14 rfl Try.underlying45 sz113 i14 j14) rfl fun a R => ?_
    obtain ⟨x25_16, cx25_16, h⟩ := h
    refine old R rfl Try.underlying113 rfl cx25_16 rfl fun a R => ?_
    refine op_val R (rn_len R rfl Try.underlying113) rfl fun a R => ?_
    refine oas R rfl rfl fun a R => ?_
    refine wpList_nil ?_
    refine then_normal ?_
    refine wp_seq ?_
    refine wp_region_lit ?_
    refine oas R rfl rfl fun a R => ?_
    refine wpList_nil ?_
    refine then_normal ?_
    refine wp_block ?_
    refine wp_fix (σ := Int) (fun s a => Rep a 52 [(0, .pointer x0), (3, .slice (some x9_1) 2 2), (4, .int .i64 z4_4), (5, .int .i64 ((x25_16.len : Nat) : Int)), (6, .int .i64 s)] []) h (R.weak ⟨rfl, rfl, rfl, rfl, rfl, trivial⟩) ?_
    rintro Ks C z18_6 a w hC R h
    have R : Rep a 52 [(0, .pointer x0), (3, .slice (some x9_1) 2 2), (4, .int .i64 z4_4), (5, .int .i64 ((x25_16.len : Nat) : Int)), (6, .int .i64 z18_6)] [] := R
    have h : levyroom_Room_holdCells.l18 x0 x9_1 z4_4 K4 x25_16 z18_6 Q (fun z18_6 w => Ks z18_6 w) w := h
    generalize hK18 : (fun z18_6 w => Ks z18_6 w) = K18 at h
    unfold levyroom_Room_holdCells.l18 at h
    refine wp_seq ?_
    refine wp_seq ?_
    refine wp_region_lit ?_
    refine omv R rfl rfl fun a R => ?_
    refine op_val R (rn_bin (v := .bool (decide (z18_6 < 40))) R rfl rfl rfl) rfl fun a R => ?_
    refine wpList_nil ?_
    refine then_normal ?_
    rcases ite_cases h with ⟨g20, h⟩ | ⟨g20, h⟩
    ·refine wp_condT R (congrArg (fun b => some (Value.bool b)) g20) ?_
     refine wp_skip ?_
     refine then_normal ?_
     refine wp_seq ?_
     refine wp_block ?_
     refine wp_seq ?_
     refine wp_region_lit ?_
     refine omv R rfl rfl fun a R => ?_
     obtain ⟨x32_21, cx32_21, h⟩ := h
     refine onl R rfl cx32_21 rfl fun a R => ?_
     refine ofd R rfl fd65_2 rfl fun a R => ?_
     obtain ⟨x34_22, cx34_22, h⟩ := h
     refine old R rfl Try.underlying45 rfl cx34_22 rfl fun a R => ?_
     refine omv R rfl rfl fun a R => ?_
     obtain ⟨b23, x36_24, p23, i23, j23, e23, h⟩ := ix_e h
     refine op_val (v := .pointer (some x36_24)) R (by rw [e23]; exact rn_ixs (x := (.tmp 34)) (y := (.tmp 35)) R rfl p23 rfl Try.underlying45 sz113 i23 j23) rfl fun a R => ?_
     obtain ⟨x37_25, cx37_25, h⟩ := h
     refine old R rfl Try.underlying113 rfl cx37_25 rfl fun a R => ?_
     refine omv R rfl rfl fun a R => ?_
     refine op_val R (rn_bin (v := .int .i64 (IntKind.i64.wrap (((x25_16.len : Nat) : Int) - 40))) R rfl rfl rfl) rfl fun a R => ?_
     refine omv R rfl rfl fun a R => ?_
     refine op_val R (rn_bin (v := .int .i64 (IntKind.i64.wrap ((IntKind.i64.wrap (((x25_16.len : Nat) : Int) - 40)) + z18_6))) R rfl rfl rfl) rfl fun a R => ?_
     obtain ⟨b28, x42_29, p28, i28, j28, e28, h⟩ := ix_e h
     refine op_val (v := .pointer (some x42_29)) R (by rw [e28]; exact rn_ixs (x := (.tmp 37)) (y := (.tmp 41)) R rfl p28 rfl Try.underlying113 sz36 i28 j28) rfl fun a R => ?_
     obtain ⟨x43_30, cx43_30, h⟩ := h
     refine old R rfl Try.underlying36 rfl cx43_30 rfl fun a R => ?_
     refine oas R rfl rfl fun a R => ?_
     refine wpList_nil ?_
     refine then_normal ?_
     refine wp_seq ?_
     refine wp_region_lit ?_
     refine omv R rfl rfl fun a R => ?_
     refine omv R rfl rfl fun a R => ?_
     refine op_val R (rn_bin (v := .int .i64 (Int.tmod z18_6 2)) R rfl rfl rfl) rfl fun a R => ?_
     obtain ⟨b32, x47_33, p32, i32, j32, e32, h⟩ := ix_e h
     refine op_val (v := .pointer (some x47_33)) R (by rw [e32]; exact rn_ixs (x := (.tmp 44)) (y := (.tmp 46)) R rfl p32 rfl Try.underlying113 sz36 i32 j32) rfl fun a R => ?_
     obtain ⟨x48_34, cx48_34, h⟩ := h
     refine old R rfl Try.underlying36 rfl cx48_34 rfl fun a R => ?_
     refine oas R rfl rfl fun a R => ?_
     refine wpList_nil ?_
     refine then_normal ?_
     refine wp_seq ?_
     refine wp_region_lit ?_
     refine omv R rfl rfl fun a R => ?_
     refine omv R rfl rfl fun a R => ?_
     refine op_val R (rn_bin (v := .bool (x43_30 != x48_34)) R rfl rfl rfl) rfl fun a R => ?_
     refine wpList_nil ?_
     refine then_normal ?_
     rcases ite_cases h with ⟨g36, h⟩ | ⟨g36, h⟩
     ·refine wp_condT R (congrArg (fun b => some (Value.bool b)) g36) ?_
      refine wp_seq ?_
      refine wp_region_lit ?_
      refine oas R rfl rfl fun a R => ?_
      refine wpList_nil ?_
      refine then_normal ?_
      refine wp_ret ?_
      refine block_ret ?_
      refine then_ret ?_
      refine then_ret ?_
      refine block_ret ?_
      refine block_ret ?_
      refine then_ret ?_
      refine then_ret ?_
      refine block_ret ?_
      refine then_ret ?_
      exact post_ret R rfl rfl ⟨false, rfl, h⟩
     ·refine wp_condF R (congrArg (fun b => some (Value.bool b)) g36) ?_
      refine wp_skip ?_
      refine block_normal ?_
      refine then_normal ?_
      refine wp_region_lit ?_
      refine omv R rfl rfl fun a R => ?_
      refine op_val R (rn_bin (v := .int .i64 (IntKind.i64.wrap (z18_6 + 1))) R rfl rfl rfl) rfl fun a R => ?_
      refine oas R rfl rfl fun a R => ?_
      refine wpList_nil ?_
      refine then_normal ?_
      exact hC (IntKind.i64.wrap (z18_6 + 1)) _ _ (R.weak ⟨rfl, rfl, rfl, rfl, rfl, trivial⟩) (by rw [← hK18] at h; exact h)
    ·refine wp_condF R (congrArg (fun b => some (Value.bool b)) g20) ?_
     refine wp_exit ?_
     refine then_exit ?_
     refine then_exit ?_
     refine block_eq ?_
     refine block_normal ?_
     refine then_normal ?_
     exact ⟨R.weak ⟨rfl, rfl, rfl, trivial⟩, h⟩
   ·rintro a w ⟨R, h⟩
    unfold levyroom_Room_holdCells.k10 at h
    refine wp_region_lit ?_
    refine omv R rfl rfl fun a R => ?_
    refine op_val R (rn_bin (v := .int .i64 (IntKind.i64.wrap (z4_4 + 1))) R rfl rfl rfl) rfl fun a R => ?_
    refine oas R rfl rfl fun a R => ?_
    refine wpList_nil ?_
    refine then_normal ?_
    exact hC (IntKind.i64.wrap (z4_4 + 1)) _ _ (R.weak ⟨rfl, rfl, rfl, trivial⟩) (by rw [← hK4] at h; exact h)
  ·refine wp_condF R (congrArg (fun b => some (Value.bool b)) g9) ?_
   refine wp_exit ?_
   refine then_exit ?_
   refine then_exit ?_
   refine block_eq ?_
   refine then_normal ?_
   exact ⟨R.weak trivial, h⟩
 ·rintro a w ⟨R, h⟩
  unfold levyroom_Room_holdCells.k3 at h
  refine wp_seq ?_
  refine wp_region_lit ?_
  refine oas R rfl rfl fun a R => ?_
  refine wpList_nil ?_
  refine then_normal ?_
  refine wp_ret ?_
  exact post_ret R rfl rfl ⟨true, rfl, h⟩
theorem s_levyroom_Room_holdCells (x0 : Option Addr) (Q : Bool → World → Prop) (w : World) (h : levyroom_Room_holdCells x0 Q w) :
    Calls Try.prog 43 #[.pointer x0] w (Rets fun v w => ∃ r0 : Bool, v = (.bool r0 : Value) ∧ Q r0 w) :=
  calls_body (args := [.pointer x0]) Try.func43 rfl rfl (Nat.le_of_ble_eq_true rfl) (L := [(0, .pointer x0)]) (by simp [starts]) (b_levyroom_Room_holdCells x0 Q w h rfl)

/-! (levyroom.Room).holdBools -/

def levyroom_Room_holdBools.k3  (Q : Bool → World → Prop) (w : World) : Prop :=
  Q true w

def levyroom_Room_holdBools.k10 (x0 : Option Addr) (x9_1 : Addr) (z4_4 : Int) (K4 : Int → World → Prop) (Q : Bool → World → Prop) (w : World) : Prop :=
  K4 (IntKind.i64.wrap (z4_4 + 1)) w

def levyroom_Room_holdBools.l18 (x0 : Option Addr) (x9_1 : Addr) (z4_4 : Int) (K4 : Int → World → Prop) (x25_16 : Sl) (z18_6 : Int) (Q : Bool → World → Prop) (K18 : Int → World → Prop) (w : World) : Prop :=
  (if (decide (z18_6 < 40)) = true then nn x0 fun x32_21 => ld Sl.val w (x32_21.add 3) fun x34_22 => ix x34_22.p x34_22.len z4_4 1 fun x36_24 => ld Sl.val w x36_24 fun x37_25 => ix x37_25.p x37_25.len (IntKind.i64.wrap ((IntKind.i64.wrap (((x25_16.len : Nat) : Int) - 40)) + z18_6)) 1 fun x42_29 => ld Value.bool w x42_29 fun x43_30 => ix (some x9_1) 2 (Int.tmod z18_6 2) 1 fun x47_33 => ld Value.bool w x47_33 fun x48_34 => (if (x43_30 != x48_34) = true then Q false w else K18 (IntKind.i64.wrap (z18_6 + 1)) w) else levyroom_Room_holdBools.k10 x0 x9_1 z4_4 K4 Q w)

def levyroom_Room_holdBools.l4 (x0 : Option Addr) (x9_1 : Addr) (z4_4 : Int) (Q : Bool → World → Prop) (K4 : Int → World → Prop) (w : World) : Prop :=
  nn x0 fun x12_5 => ld Sl.val w (x12_5.add 3) fun x14_6 => (if (decide (z4_4 < ((x14_6.len : Nat) : Int))) = true then nn x0 fun x20_12 => ld Sl.val w (x20_12.add 3) fun x22_13 => ix x22_13.p x22_13.len z4_4 1 fun x24_15 => ld Sl.val w x24_15 fun x25_16 => (Fix (σ := Int) (fun Ks s w => levyroom_Room_holdBools.l18 x0 x9_1 z4_4 K4 x25_16 s Q (fun z18_6 w => Ks z18_6 w) w) 0 w) else levyroom_Room_holdBools.k3  Q w)

def levyroom_Room_holdBools (x0 : Option Addr) (Q : Bool → World → Prop) (w : World) : Prop :=
  al w (.cells #[.bool true, .bool false] 4) fun x9_1 w => (Fix (σ := Int) (fun Ks s w => levyroom_Room_holdBools.l4 x0 x9_1 s Q (fun z4_4 w => Ks z4_4 w) w) 0 w)

theorem b_levyroom_Room_holdBools (x0 : Option Addr) (Q : Bool → World → Prop) (w : World) (h : levyroom_Room_holdBools x0 Q w) {c : Code} (hb : Try.f44.body = some c) :
 ∀ a, Rep a 52 [(0, .pointer x0)] [] → c.wp Try.prog (bodyPost Try.prog Try.f44 (Rets fun v w => ∃ r0 : Bool, v = (.bool r0 : Value) ∧ Q r0 w)) a w := by
 intro a R
 obtain rfl := Option.some.inj hb
 unfold levyroom_Room_holdBools at h
 refine wp_seq ?_
 refine wp_region_lit ?_
 refine oas R rfl rfl fun a R => ?_
 refine wpList_nil ?_
 refine then_normal ?_
 refine wp_seq ?_
 refine wp_region_lit ?_
 obtain ⟨x9_1, e2, h⟩ := al_e h
 refine op_val (v := .slice (some x9_1) 2 2) R (by rw [e2]; exact rn_buildSlice (t := 114) (len := 2) (xs := [(0, (.const (.bool true))), (1, (.const (.bool false)))]) (cells := #[.bool true, .bool false]) (e := 4) R rfl (fun w => by kernel_rfl)) rfl fun a R => ?_
 refine oas R rfl rfl fun a R => ?_
 refine wpList_nil ?_
 refine then_normal ?_
 refine seq_join (fun a w => Rep a 52 [] [] ∧ levyroom_Room_holdBools.k3  Q w) ?_ ?_
 ·refine wp_seq ?_
  refine wp_region_lit ?_
  refine oas R rfl rfl fun a R => ?_
  refine wpList_nil ?_
  refine then_normal ?_
  refine wp_block ?_
  refine wp_fix (σ := Int) (fun s a => Rep a 52 [(0, .pointer x0), (3, .slice (some x9_1) 2 2), (4, .int .i64 s)] []) h (R.weak ⟨rfl, rfl, rfl, trivial⟩) ?_
  rintro Ks C z4_4 a w hC R h
  have R : Rep a 52 [(0, .pointer x0), (3, .slice (some x9_1) 2 2), (4, .int .i64 z4_4)] [] := R
  have h : levyroom_Room_holdBools.l4 x0 x9_1 z4_4 Q (fun z4_4 w => Ks z4_4 w) w := h
  generalize hK4 : (fun z4_4 w => Ks z4_4 w) = K4 at h
  unfold levyroom_Room_holdBools.l4 at h
  refine wp_seq ?_
  refine wp_seq ?_
  refine wp_region_lit ?_
  refine omv R rfl rfl fun a R => ?_
  refine omv R rfl rfl fun a R => ?_
  obtain ⟨x12_5, cx12_5, h⟩ := h
  refine onl R rfl cx12_5 rfl fun a R => ?_
  refine ofd R rfl fd65_3 rfl fun a R => ?_
  obtain ⟨x14_6, cx14_6, h⟩ := h
  refine old R rfl Try.underlying46 rfl cx14_6 rfl fun a R => ?_
  refine op_val R (rn_len R rfl Try.underlying46) rfl fun a R => ?_
  refine op_val R (rn_bin (v := .bool (decide (z4_4 < ((x14_6.len : Nat) : Int)))) R rfl rfl rfl) rfl fun a R => ?_
  refine wpList_nil ?_
  refine then_normal ?_
  rcases ite_cases h with ⟨g9, h⟩ | ⟨g9, h⟩
  ·refine wp_condT R (congrArg (fun b => some (Value.bool b)) g9) ?_
   refine wp_skip ?_
   refine then_normal ?_
   refine seq_join (fun a w => Rep a 52 [(0, .pointer x0), (3, .slice (some x9_1) 2 2), (4, .int .i64 z4_4)] [] ∧ levyroom_Room_holdBools.k10 x0 x9_1 z4_4 K4 Q w) ?_ ?_
   ·refine wp_block ?_
    refine wp_seq ?_
    refine wp_region_lit ?_
    refine omv R rfl rfl fun a R => ?_
    obtain ⟨x20_12, cx20_12, h⟩ := h
    refine onl R rfl cx20_12 rfl fun a R => ?_
    refine ofd R rfl fd65_3 rfl fun a R => ?_
    obtain ⟨x22_13, cx22_13, h⟩ := h
    refine old R rfl Try.underlying46 rfl cx22_13 rfl fun a R => ?_
    refine omv R rfl rfl fun a R => ?_
    obtain ⟨b14, x24_15, p14, i14, j14, e14, h⟩ := ix_e h
    refine op_val (v := .pointer (some x24_15)) R (by rw [e14]; exact rn_ixs (x := (.tmp 22)) (y := (.tmp 23)) R rfl p14 rfl Try.underlying46 sz114 i14 j14) rfl fun a R => ?_
    obtain ⟨x25_16, cx25_16, h⟩ := h
    refine old R rfl Try.underlying114 rfl cx25_16 rfl fun a R => ?_
    refine op_val R (rn_len R rfl Try.underlying114) rfl fun a R => ?_
    refine oas R rfl rfl fun a R => ?_
    refine wpList_nil ?_
    refine then_normal ?_
    refine wp_seq ?_
    refine wp_region_lit ?_
    refine oas R rfl rfl fun a R => ?_
    refine wpList_nil ?_
    refine then_normal ?_
    refine wp_block ?_
    refine wp_fix (σ := Int) (fun s a => Rep a 52 [(0, .pointer x0), (3, .slice (some x9_1) 2 2), (4, .int .i64 z4_4), (5, .int .i64 ((x25_16.len : Nat) : Int)), (6, .int .i64 s)] []) h (R.weak ⟨rfl, rfl, rfl, rfl, rfl, trivial⟩) ?_
    rintro Ks C z18_6 a w hC R h
    have R : Rep a 52 [(0, .pointer x0), (3, .slice (some x9_1) 2 2), (4, .int .i64 z4_4), (5, .int .i64 ((x25_16.len : Nat) : Int)), (6, .int .i64 z18_6)] [] := R
    have h : levyroom_Room_holdBools.l18 x0 x9_1 z4_4 K4 x25_16 z18_6 Q (fun z18_6 w => Ks z18_6 w) w := h
    generalize hK18 : (fun z18_6 w => Ks z18_6 w) = K18 at h
    unfold levyroom_Room_holdBools.l18 at h
    refine wp_seq ?_
    refine wp_seq ?_
    refine wp_region_lit ?_
    refine omv R rfl rfl fun a R => ?_
    refine op_val R (rn_bin (v := .bool (decide (z18_6 < 40))) R rfl rfl rfl) rfl fun a R => ?_
    refine wpList_nil ?_
    refine then_normal ?_
    rcases ite_cases h with ⟨g20, h⟩ | ⟨g20, h⟩
    ·refine wp_condT R (congrArg (fun b => some (Value.bool b)) g20) ?_
     refine wp_skip ?_
     refine then_normal ?_
     refine wp_seq ?_
     refine wp_block ?_
     refine wp_seq ?_
     refine wp_region_lit ?_
     refine omv R rfl rfl fun a R => ?_
     obtain ⟨x32_21, cx32_21, h⟩ := h
     refine onl R rfl cx32_21 rfl fun a R => ?_
     refine ofd R rfl fd65_3 rfl fun a R => ?_
     obtain ⟨x34_22, cx34_22, h⟩ := h
     refine old R rfl Try.underlying46 rfl cx34_22 rfl fun a R => ?_
     refine omv R rfl rfl fun a R => ?_
     obtain ⟨b23, x36_24, p23, i23, j23, e23, h⟩ := ix_e h
     refine op_val (v := .pointer (some x36_24)) R (by rw [e23]; exact rn_ixs (x := (.tmp 34)) (y := (.tmp 35)) R rfl p23 rfl Try.underlying46 sz114 i23 j23) rfl fun a R => ?_
     obtain ⟨x37_25, cx37_25, h⟩ := h
     refine old R rfl Try.underlying114 rfl cx37_25 rfl fun a R => ?_
     refine omv R rfl rfl fun a R => ?_
     refine op_val R (rn_bin (v := .int .i64 (IntKind.i64.wrap (((x25_16.len : Nat) : Int) - 40))) R rfl rfl rfl) rfl fun a R => ?_
     refine omv R rfl rfl fun a R => ?_
     refine op_val R (rn_bin (v := .int .i64 (IntKind.i64.wrap ((IntKind.i64.wrap (((x25_16.len : Nat) : Int) - 40)) + z18_6))) R rfl rfl rfl) rfl fun a R => ?_
     obtain ⟨b28, x42_29, p28, i28, j28, e28, h⟩ := ix_e h
     refine op_val (v := .pointer (some x42_29)) R (by rw [e28]; exact rn_ixs (x := (.tmp 37)) (y := (.tmp 41)) R rfl p28 rfl Try.underlying114 sz4 i28 j28) rfl fun a R => ?_
     obtain ⟨x43_30, cx43_30, h⟩ := h
     refine old R rfl Try.underlying4 rfl cx43_30 rfl fun a R => ?_
     refine oas R rfl rfl fun a R => ?_
     refine wpList_nil ?_
     refine then_normal ?_
     refine wp_seq ?_
     refine wp_region_lit ?_
     refine omv R rfl rfl fun a R => ?_
     refine omv R rfl rfl fun a R => ?_
     refine op_val R (rn_bin (v := .int .i64 (Int.tmod z18_6 2)) R rfl rfl rfl) rfl fun a R => ?_
     obtain ⟨b32, x47_33, p32, i32, j32, e32, h⟩ := ix_e h
     refine op_val (v := .pointer (some x47_33)) R (by rw [e32]; exact rn_ixs (x := (.tmp 44)) (y := (.tmp 46)) R rfl p32 rfl Try.underlying114 sz4 i32 j32) rfl fun a R => ?_
     obtain ⟨x48_34, cx48_34, h⟩ := h
     refine old R rfl Try.underlying4 rfl cx48_34 rfl fun a R => ?_
     refine oas R rfl rfl fun a R => ?_
     refine wpList_nil ?_
     refine then_normal ?_
     refine wp_seq ?_
     refine wp_region_lit ?_
     refine omv R rfl rfl fun a R => ?_
     refine omv R rfl rfl fun a R => ?_
     refine op_val R (rn_boolN R rfl rfl Try.underlying4) rfl fun a R => ?_
     refine wpList_nil ?_
     refine then_normal ?_
     rcases ite_cases h with ⟨g35, h⟩ | ⟨g35, h⟩
     ·refine wp_condT R (congrArg (fun b => some (Value.bool b)) g35) ?_
      refine wp_seq ?_
      refine wp_region_lit ?_
      refine oas R rfl rfl fun a R => ?_
      refine wpList_nil ?_
      refine then_normal ?_
      refine wp_ret ?_
      refine block_ret ?_
      refine then_ret ?_
      refine then_ret ?_
      refine block_ret ?_
      refine block_ret ?_
      refine then_ret ?_
      refine then_ret ?_
      refine block_ret ?_
      refine then_ret ?_
      exact post_ret R rfl rfl ⟨false, rfl, h⟩
     ·refine wp_condF R (congrArg (fun b => some (Value.bool b)) g35) ?_
      refine wp_skip ?_
      refine block_normal ?_
      refine then_normal ?_
      refine wp_region_lit ?_
      refine omv R rfl rfl fun a R => ?_
      refine op_val R (rn_bin (v := .int .i64 (IntKind.i64.wrap (z18_6 + 1))) R rfl rfl rfl) rfl fun a R => ?_
      refine oas R rfl rfl fun a R => ?_
      refine wpList_nil ?_
      refine then_normal ?_
      exact hC (IntKind.i64.wrap (z18_6 + 1)) _ _ (R.weak ⟨rfl, rfl, rfl, rfl, rfl, trivial⟩) (by rw [← hK18] at h; exact h)
    ·refine wp_condF R (congrArg (fun b => some (Value.bool b)) g20) ?_
     refine wp_exit ?_
     refine then_exit ?_
     refine then_exit ?_
     refine block_eq ?_
     refine block_normal ?_
     refine then_normal ?_
     exact ⟨R.weak ⟨rfl, rfl, rfl, trivial⟩, h⟩
   ·rintro a w ⟨R, h⟩
    unfold levyroom_Room_holdBools.k10 at h
    refine wp_region_lit ?_
    refine omv R rfl rfl fun a R => ?_
    refine op_val R (rn_bin (v := .int .i64 (IntKind.i64.wrap (z4_4 + 1))) R rfl rfl rfl) rfl fun a R => ?_
    refine oas R rfl rfl fun a R => ?_
    refine wpList_nil ?_
    refine then_normal ?_
    exact hC (IntKind.i64.wrap (z4_4 + 1)) _ _ (R.weak ⟨rfl, rfl, rfl, trivial⟩) (by rw [← hK4] at h; exact h)
  ·refine wp_condF R (congrArg (fun b => some (Value.bool b)) g9) ?_
   refine wp_exit ?_
   refine then_exit ?_
   refine then_exit ?_
   refine block_eq ?_
   refine then_normal ?_
   exact ⟨R.weak trivial, h⟩
 ·rintro a w ⟨R, h⟩
  unfold levyroom_Room_holdBools.k3 at h
  refine wp_seq ?_
  refine wp_region_lit ?_
  refine oas R rfl rfl fun a R => ?_
  refine wpList_nil ?_
  refine then_normal ?_
  refine wp_ret ?_
  exact post_ret R rfl rfl ⟨true, rfl, h⟩
theorem s_levyroom_Room_holdBools (x0 : Option Addr) (Q : Bool → World → Prop) (w : World) (h : levyroom_Room_holdBools x0 Q w) :
    Calls Try.prog 44 #[.pointer x0] w (Rets fun v w => ∃ r0 : Bool, v = (.bool r0 : Value) ∧ Q r0 w) :=
  calls_body (args := [.pointer x0]) Try.func44 rfl rfl (Nat.le_of_ble_eq_true rfl) (L := [(0, .pointer x0)]) (by simp [starts]) (b_levyroom_Room_holdBools x0 Q w h rfl)

/-! (levyroom.Room).holdTexts -/

def levyroom_Room_holdTexts.k3  (Q : Bool → World → Prop) (w : World) : Prop :=
  Q true w

def levyroom_Room_holdTexts.k10 (x0 : Option Addr) (x9_1 : Addr) (z4_4 : Int) (K4 : Int → World → Prop) (Q : Bool → World → Prop) (w : World) : Prop :=
  K4 (IntKind.i64.wrap (z4_4 + 1)) w

def levyroom_Room_holdTexts.l18 (x0 : Option Addr) (x9_1 : Addr) (z4_4 : Int) (K4 : Int → World → Prop) (x25_16 : Sl) (z18_6 : Int) (Q : Bool → World → Prop) (K18 : Int → World → Prop) (w : World) : Prop :=
  (if (decide (z18_6 < 40)) = true then nn x0 fun x32_21 => ld Sl.val w (x32_21.add 4) fun x34_22 => ix x34_22.p x34_22.len z4_4 1 fun x36_24 => ld Sl.val w x36_24 fun x37_25 => ix x37_25.p x37_25.len (IntKind.i64.wrap ((IntKind.i64.wrap (((x25_16.len : Nat) : Int) - 40)) + z18_6)) 1 fun x42_29 => ld Value.string w x42_29 fun x43_30 => ix (some x9_1) 2 (Int.tmod z18_6 2) 1 fun x47_33 => ld Value.string w x47_33 fun x48_34 => (if (sEq x43_30 x48_34) = true then K18 (IntKind.i64.wrap (z18_6 + 1)) w else Q false w) else levyroom_Room_holdTexts.k10 x0 x9_1 z4_4 K4 Q w)

def levyroom_Room_holdTexts.l4 (x0 : Option Addr) (x9_1 : Addr) (z4_4 : Int) (Q : Bool → World → Prop) (K4 : Int → World → Prop) (w : World) : Prop :=
  nn x0 fun x12_5 => ld Sl.val w (x12_5.add 4) fun x14_6 => (if (decide (z4_4 < ((x14_6.len : Nat) : Int))) = true then nn x0 fun x20_12 => ld Sl.val w (x20_12.add 4) fun x22_13 => ix x22_13.p x22_13.len z4_4 1 fun x24_15 => ld Sl.val w x24_15 fun x25_16 => (Fix (σ := Int) (fun Ks s w => levyroom_Room_holdTexts.l18 x0 x9_1 z4_4 K4 x25_16 s Q (fun z18_6 w => Ks z18_6 w) w) 0 w) else levyroom_Room_holdTexts.k3  Q w)

def levyroom_Room_holdTexts (x0 : Option Addr) (Q : Bool → World → Prop) (w : World) : Prop :=
  al w (.cells #[.string ⟨#[60, 111, 110, 101, 62]⟩, .string ⟨#[60, 116, 119, 111, 62]⟩] 9) fun x9_1 w => (Fix (σ := Int) (fun Ks s w => levyroom_Room_holdTexts.l4 x0 x9_1 s Q (fun z4_4 w => Ks z4_4 w) w) 0 w)

theorem b_levyroom_Room_holdTexts (x0 : Option Addr) (Q : Bool → World → Prop) (w : World) (h : levyroom_Room_holdTexts x0 Q w) {c : Code} (hb : Try.f45.body = some c) :
 ∀ a, Rep a 52 [(0, .pointer x0)] [] → c.wp Try.prog (bodyPost Try.prog Try.f45 (Rets fun v w => ∃ r0 : Bool, v = (.bool r0 : Value) ∧ Q r0 w)) a w := by
 intro a R
 obtain rfl := Option.some.inj hb
 unfold levyroom_Room_holdTexts at h
 refine wp_seq ?_
 refine wp_region_lit ?_
 refine oas R rfl rfl fun a R => ?_
 refine wpList_nil ?_
 refine then_normal ?_
 refine wp_seq ?_
 refine wp_region_lit ?_
 obtain ⟨x9_1, e2, h⟩ := al_e h
 refine op_val (v := .slice (some x9_1) 2 2) R (by rw [e2]; exact rn_buildSlice (t := 91) (len := 2) (xs := [(0, (.const (.string ⟨#[60, 111, 110, 101, 62]⟩))), (1, (.const (.string ⟨#[60, 116, 119, 111, 62]⟩)))]) (cells := #[.string ⟨#[60, 111, 110, 101, 62]⟩, .string ⟨#[60, 116, 119, 111, 62]⟩]) (e := 9) R rfl (fun w => by kernel_rfl)) rfl fun a R => ?_
 refine oas R rfl rfl fun a R => ?_
 refine wpList_nil ?_
 refine then_normal ?_
 refine seq_join (fun a w => Rep a 52 [] [] ∧ levyroom_Room_holdTexts.k3  Q w) ?_ ?_
 ·refine wp_seq ?_
  refine wp_region_lit ?_
  refine oas R rfl rfl fun a R => ?_
  refine wpList_nil ?_
  refine then_normal ?_
  refine wp_block ?_
  refine wp_fix (σ := Int) (fun s a => Rep a 52 [(0, .pointer x0), (3, .slice (some x9_1) 2 2), (4, .int .i64 s)] []) h (R.weak ⟨rfl, rfl, rfl, trivial⟩) ?_
  rintro Ks C z4_4 a w hC R h
  have R : Rep a 52 [(0, .pointer x0), (3, .slice (some x9_1) 2 2), (4, .int .i64 z4_4)] [] := R
  have h : levyroom_Room_holdTexts.l4 x0 x9_1 z4_4 Q (fun z4_4 w => Ks z4_4 w) w := h
  generalize hK4 : (fun z4_4 w => Ks z4_4 w) = K4 at h
  unfold levyroom_Room_holdTexts.l4 at h
  refine wp_seq ?_
  refine wp_seq ?_
  refine wp_region_lit ?_
  refine omv R rfl rfl fun a R => ?_
  refine omv R rfl rfl fun a R => ?_
  obtain ⟨x12_5, cx12_5, h⟩ := h
  refine onl R rfl cx12_5 rfl fun a R => ?_
  refine ofd R rfl fd65_4 rfl fun a R => ?_
  obtain ⟨x14_6, cx14_6, h⟩ := h
  refine old R rfl Try.underlying47 rfl cx14_6 rfl fun a R => ?_
  refine op_val R (rn_len R rfl Try.underlying47) rfl fun a R => ?_
  refine op_val R (rn_bin (v := .bool (decide (z4_4 < ((x14_6.len : Nat) : Int)))) R rfl rfl rfl) rfl fun a R => ?_
  refine wpList_nil ?_
  refine then_normal ?_
  rcases ite_cases h with ⟨g9, h⟩ | ⟨g9, h⟩
  ·refine wp_condT R (congrArg (fun b => some (Value.bool b)) g9) ?_
   refine wp_skip ?_
   refine then_normal ?_
   refine seq_join (fun a w => Rep a 52 [(0, .pointer x0), (3, .slice (some x9_1) 2 2), (4, .int .i64 z4_4)] [] ∧ levyroom_Room_holdTexts.k10 x0 x9_1 z4_4 K4 Q w) ?_ ?_
   ·refine wp_block ?_
    refine wp_seq ?_
    refine wp_region_lit ?_
    refine omv R rfl rfl fun a R => ?_
    obtain ⟨x20_12, cx20_12, h⟩ := h
    refine onl R rfl cx20_12 rfl fun a R => ?_
    refine ofd R rfl fd65_4 rfl fun a R => ?_
    obtain ⟨x22_13, cx22_13, h⟩ := h
    refine old R rfl Try.underlying47 rfl cx22_13 rfl fun a R => ?_
    refine omv R rfl rfl fun a R => ?_
    obtain ⟨b14, x24_15, p14, i14, j14, e14, h⟩ := ix_e h
    refine op_val (v := .pointer (some x24_15)) R (by rw [e14]; exact rn_ixs (x := (.tmp 22)) (y := (.tmp 23)) R rfl p14 rfl Try.underlying47 sz91 i14 j14) rfl fun a R => ?_
    obtain ⟨x25_16, cx25_16, h⟩ := h
    refine old R rfl Try.underlying91 rfl cx25_16 rfl fun a R => ?_
    refine op_val R (rn_len R rfl Try.underlying91) rfl fun a R => ?_
    refine oas R rfl rfl fun a R => ?_
    refine wpList_nil ?_
    refine then_normal ?_
    refine wp_seq ?_
    refine wp_region_lit ?_
    refine oas R rfl rfl fun a R => ?_
    refine wpList_nil ?_
    refine then_normal ?_
    refine wp_block ?_
    refine wp_fix (σ := Int) (fun s a => Rep a 52 [(0, .pointer x0), (3, .slice (some x9_1) 2 2), (4, .int .i64 z4_4), (5, .int .i64 ((x25_16.len : Nat) : Int)), (6, .int .i64 s)] []) h (R.weak ⟨rfl, rfl, rfl, rfl, rfl, trivial⟩) ?_
    rintro Ks C z18_6 a w hC R h
    have R : Rep a 52 [(0, .pointer x0), (3, .slice (some x9_1) 2 2), (4, .int .i64 z4_4), (5, .int .i64 ((x25_16.len : Nat) : Int)), (6, .int .i64 z18_6)] [] := R
    have h : levyroom_Room_holdTexts.l18 x0 x9_1 z4_4 K4 x25_16 z18_6 Q (fun z18_6 w => Ks z18_6 w) w := h
    generalize hK18 : (fun z18_6 w => Ks z18_6 w) = K18 at h
    unfold levyroom_Room_holdTexts.l18 at h
    refine wp_seq ?_
    refine wp_seq ?_
    refine wp_region_lit ?_
    refine omv R rfl rfl fun a R => ?_
    refine op_val R (rn_bin (v := .bool (decide (z18_6 < 40))) R rfl rfl rfl) rfl fun a R => ?_
    refine wpList_nil ?_
    refine then_normal ?_
    rcases ite_cases h with ⟨g20, h⟩ | ⟨g20, h⟩
    ·refine wp_condT R (congrArg (fun b => some (Value.bool b)) g20) ?_
     refine wp_skip ?_
     refine then_normal ?_
     refine wp_seq ?_
     refine wp_block ?_
     refine wp_seq ?_
     refine wp_region_lit ?_
     refine omv R rfl rfl fun a R => ?_
     obtain ⟨x32_21, cx32_21, h⟩ := h
     refine onl R rfl cx32_21 rfl fun a R => ?_
     refine ofd R rfl fd65_4 rfl fun a R => ?_
     obtain ⟨x34_22, cx34_22, h⟩ := h
     refine old R rfl Try.underlying47 rfl cx34_22 rfl fun a R => ?_
     refine omv R rfl rfl fun a R => ?_
     obtain ⟨b23, x36_24, p23, i23, j23, e23, h⟩ := ix_e h
     refine op_val (v := .pointer (some x36_24)) R (by rw [e23]; exact rn_ixs (x := (.tmp 34)) (y := (.tmp 35)) R rfl p23 rfl Try.underlying47 sz91 i23 j23) rfl fun a R => ?_
     obtain ⟨x37_25, cx37_25, h⟩ := h
     refine old R rfl Try.underlying91 rfl cx37_25 rfl fun a R => ?_
     refine omv R rfl rfl fun a R => ?_
     refine op_val R (rn_bin (v := .int .i64 (IntKind.i64.wrap (((x25_16.len : Nat) : Int) - 40))) R rfl rfl rfl) rfl fun a R => ?_
     refine omv R rfl rfl fun a R => ?_
     refine op_val R (rn_bin (v := .int .i64 (IntKind.i64.wrap ((IntKind.i64.wrap (((x25_16.len : Nat) : Int) - 40)) + z18_6))) R rfl rfl rfl) rfl fun a R => ?_
     obtain ⟨b28, x42_29, p28, i28, j28, e28, h⟩ := ix_e h
     refine op_val (v := .pointer (some x42_29)) R (by rw [e28]; exact rn_ixs (x := (.tmp 37)) (y := (.tmp 41)) R rfl p28 rfl Try.underlying91 sz9 i28 j28) rfl fun a R => ?_
     obtain ⟨x43_30, cx43_30, h⟩ := h
     refine old R rfl Try.underlying9 rfl cx43_30 rfl fun a R => ?_
     refine oas R rfl rfl fun a R => ?_
     refine wpList_nil ?_
     refine then_normal ?_
     refine wp_seq ?_
     refine wp_region_lit ?_
     refine omv R rfl rfl fun a R => ?_
     refine omv R rfl rfl fun a R => ?_
     refine op_val R (rn_bin (v := .int .i64 (Int.tmod z18_6 2)) R rfl rfl rfl) rfl fun a R => ?_
     obtain ⟨b32, x47_33, p32, i32, j32, e32, h⟩ := ix_e h
     refine op_val (v := .pointer (some x47_33)) R (by rw [e32]; exact rn_ixs (x := (.tmp 44)) (y := (.tmp 46)) R rfl p32 rfl Try.underlying91 sz9 i32 j32) rfl fun a R => ?_
     obtain ⟨x48_34, cx48_34, h⟩ := h
     refine old R rfl Try.underlying9 rfl cx48_34 rfl fun a R => ?_
     refine oas R rfl rfl fun a R => ?_
     refine wpList_nil ?_
     refine then_normal ?_
     refine wp_seq ?_
     refine wp_region_lit ?_
     refine omv R rfl rfl fun a R => ?_
     refine omv R rfl rfl fun a R => ?_
     refine op_val R (rn_binS (v := .bool (!(sEq x43_30 x48_34))) R rfl rfl rfl) rfl fun a R => ?_
     refine wpList_nil ?_
     refine then_normal ?_
     rcases ite_cases h with ⟨g35, h⟩ | ⟨g35, h⟩
     ·refine wp_condF R (congrArg (fun b => some (Value.bool b)) (nf g35)) ?_
      refine wp_skip ?_
      refine block_normal ?_
      refine then_normal ?_
      refine wp_region_lit ?_
      refine omv R rfl rfl fun a R => ?_
      refine op_val R (rn_bin (v := .int .i64 (IntKind.i64.wrap (z18_6 + 1))) R rfl rfl rfl) rfl fun a R => ?_
      refine oas R rfl rfl fun a R => ?_
      refine wpList_nil ?_
      refine then_normal ?_
      exact hC (IntKind.i64.wrap (z18_6 + 1)) _ _ (R.weak ⟨rfl, rfl, rfl, rfl, rfl, trivial⟩) (by rw [← hK18] at h; exact h)
     ·refine wp_condT R (congrArg (fun b => some (Value.bool b)) (nt g35)) ?_
      refine wp_seq ?_
      refine wp_region_lit ?_
      refine oas R rfl rfl fun a R => ?_
      refine wpList_nil ?_
      refine then_normal ?_
      refine wp_ret ?_
      refine block_ret ?_
      refine then_ret ?_
      refine then_ret ?_
      refine block_ret ?_
      refine block_ret ?_
      refine then_ret ?_
      refine then_ret ?_
      refine block_ret ?_
      refine then_ret ?_
      exact post_ret R rfl rfl ⟨false, rfl, h⟩
    ·refine wp_condF R (congrArg (fun b => some (Value.bool b)) g20) ?_
     refine wp_exit ?_
     refine then_exit ?_
     refine then_exit ?_
     refine block_eq ?_
     refine block_normal ?_
     refine then_normal ?_
     exact ⟨R.weak ⟨rfl, rfl, rfl, trivial⟩, h⟩
   ·rintro a w ⟨R, h⟩
    unfold levyroom_Room_holdTexts.k10 at h
    refine wp_region_lit ?_
    refine omv R rfl rfl fun a R => ?_
    refine op_val R (rn_bin (v := .int .i64 (IntKind.i64.wrap (z4_4 + 1))) R rfl rfl rfl) rfl fun a R => ?_
    refine oas R rfl rfl fun a R => ?_
    refine wpList_nil ?_
    refine then_normal ?_
    exact hC (IntKind.i64.wrap (z4_4 + 1)) _ _ (R.weak ⟨rfl, rfl, rfl, trivial⟩) (by rw [← hK4] at h; exact h)
  ·refine wp_condF R (congrArg (fun b => some (Value.bool b)) g9) ?_
   refine wp_exit ?_
   refine then_exit ?_
   refine then_exit ?_
   refine block_eq ?_
   refine then_normal ?_
   exact ⟨R.weak trivial, h⟩
 ·rintro a w ⟨R, h⟩
  unfold levyroom_Room_holdTexts.k3 at h
  refine wp_seq ?_
  refine wp_region_lit ?_
  refine oas R rfl rfl fun a R => ?_
  refine wpList_nil ?_
  refine then_normal ?_
  refine wp_ret ?_
  exact post_ret R rfl rfl ⟨true, rfl, h⟩
theorem s_levyroom_Room_holdTexts (x0 : Option Addr) (Q : Bool → World → Prop) (w : World) (h : levyroom_Room_holdTexts x0 Q w) :
    Calls Try.prog 45 #[.pointer x0] w (Rets fun v w => ∃ r0 : Bool, v = (.bool r0 : Value) ∧ Q r0 w) :=
  calls_body (args := [.pointer x0]) Try.func45 rfl rfl (Nat.le_of_ble_eq_true rfl) (L := [(0, .pointer x0)]) (by simp [starts]) (b_levyroom_Room_holdTexts x0 Q w h rfl)

/-! (levyroom.Room).holdValues -/

def levyroom_Room_holdValues.k3  (Q : Bool → World → Prop) (w : World) : Prop :=
  Q true w

def levyroom_Room_holdValues.k10 (x0 : Option Addr) (x11_1 : Addr) (z4_4 : Int) (K4 : Int → World → Prop) (Q : Bool → World → Prop) (w : World) : Prop :=
  K4 (IntKind.i64.wrap (z4_4 + 1)) w

def levyroom_Room_holdValues.l18 (x0 : Option Addr) (x11_1 : Addr) (z4_4 : Int) (K4 : Int → World → Prop) (x27_16 : Sl) (z18_6 : Int) (Q : Bool → World → Prop) (K18 : Int → World → Prop) (w : World) : Prop :=
  (if (decide (z18_6 < 40)) = true then nn x0 fun x34_21 => ld Sl.val w (x34_21.add 5) fun x36_22 => ix x36_22.p x36_22.len z4_4 1 fun x38_24 => ld Sl.val w x38_24 fun x39_25 => ix x39_25.p x39_25.len (IntKind.i64.wrap ((IntKind.i64.wrap (((x27_16.len : Nat) : Int) - 40)) + z18_6)) 2 fun x44_29 => ld (Value.int .i64) w (x44_29.add 0) fun x45_30_0 => ld (Value.int .i64) w (x44_29.add 1) fun x45_30_1 => al w (.cells #[.int .i64 0, .int .i64 0] 116) fun x7_31 w => stN w x7_31 [.int .i64 x45_30_0, .int .i64 x45_30_1] fun w => ix (some x11_1) 2 (Int.tmod z18_6 2) 2 fun x49_36 => ld (Value.int .i64) w (x49_36.add 0) fun x50_37_0 => ld (Value.int .i64) w (x49_36.add 1) fun x50_37_1 => al w (.cells #[.int .i64 0, .int .i64 0] 116) fun x8_38 w => stN w x8_38 [.int .i64 x50_37_0, .int .i64 x50_37_1] fun w => ld (Value.int .i64) w (x7_31.add 0) fun x51_41_0 => ld (Value.int .i64) w (x7_31.add 1) fun x51_41_1 => ld (Value.int .i64) w (x8_38.add 0) fun x52_42_0 => ld (Value.int .i64) w (x8_38.add 1) fun x52_42_1 => rnb Try.prog (eqGuard .neq 116 (.tmp 51) (.tmp 52) (.agg #[.int .i64 x51_41_0, .int .i64 x51_41_1]) (.agg #[.int .i64 x52_42_0, .int .i64 x52_42_1])) (binOp .neq 116 (.agg #[.int .i64 x51_41_0, .int .i64 x51_41_1]) (.agg #[.int .i64 x52_42_0, .int .i64 x52_42_1])) w fun x53_43 w => (if x53_43 = true then Q false w else K18 (IntKind.i64.wrap (z18_6 + 1)) w) else levyroom_Room_holdValues.k10 x0 x11_1 z4_4 K4 Q w)

def levyroom_Room_holdValues.l4 (x0 : Option Addr) (x11_1 : Addr) (z4_4 : Int) (Q : Bool → World → Prop) (K4 : Int → World → Prop) (w : World) : Prop :=
  nn x0 fun x14_5 => ld Sl.val w (x14_5.add 5) fun x16_6 => (if (decide (z4_4 < ((x16_6.len : Nat) : Int))) = true then nn x0 fun x22_12 => ld Sl.val w (x22_12.add 5) fun x24_13 => ix x24_13.p x24_13.len z4_4 1 fun x26_15 => ld Sl.val w x26_15 fun x27_16 => (Fix (σ := Int) (fun Ks s w => levyroom_Room_holdValues.l18 x0 x11_1 z4_4 K4 x27_16 s Q (fun z18_6 w => Ks z18_6 w) w) 0 w) else levyroom_Room_holdValues.k3  Q w)

def levyroom_Room_holdValues (x0 : Option Addr) (Q : Bool → World → Prop) (w : World) : Prop :=
  al w (.cells #[.int .i64 (-7701), .int .i64 0, .int .i64 (-7702), .int .i64 0] 116) fun x11_1 w => (Fix (σ := Int) (fun Ks s w => levyroom_Room_holdValues.l4 x0 x11_1 s Q (fun z4_4 w => Ks z4_4 w) w) 0 w)

theorem b_levyroom_Room_holdValues (x0 : Option Addr) (Q : Bool → World → Prop) (w : World) (h : levyroom_Room_holdValues x0 Q w) {c : Code} (hb : Try.f46.body = some c) :
 ∀ a, Rep a 54 [(0, .pointer x0)] [] → c.wp Try.prog (bodyPost Try.prog Try.f46 (Rets fun v w => ∃ r0 : Bool, v = (.bool r0 : Value) ∧ Q r0 w)) a w := by
 intro a R
 obtain rfl := Option.some.inj hb
 unfold levyroom_Room_holdValues at h
 refine wp_seq ?_
 refine wp_region_lit ?_
 refine oas R rfl rfl fun a R => ?_
 refine wpList_nil ?_
 refine then_normal ?_
 refine wp_seq ?_
 refine wp_region_lit ?_
 refine op_val R (rn_build (r := .agg #[.int .i64 (-7701), .int .i64 0]) R rfl (fun w => by kernel_rfl)) rfl fun a R => ?_
 refine op_val R (rn_build (r := .agg #[.int .i64 (-7702), .int .i64 0]) R rfl (fun w => by kernel_rfl)) rfl fun a R => ?_
 obtain ⟨x11_1, e2, h⟩ := al_e h
 refine op_val (v := .slice (some x11_1) 2 2) R (by rw [e2]; exact rn_buildSlice (t := 117) (len := 2) (xs := [(0, (.tmp 9)), (1, (.tmp 10))]) (cells := #[.int .i64 (-7701), .int .i64 0, .int .i64 (-7702), .int .i64 0]) (e := 116) R rfl (fun w => by kernel_rfl)) rfl fun a R => ?_
 refine oas R rfl rfl fun a R => ?_
 refine wpList_nil ?_
 refine then_normal ?_
 refine seq_join (fun a w => Rep a 54 [] [] ∧ levyroom_Room_holdValues.k3  Q w) ?_ ?_
 ·refine wp_seq ?_
  refine wp_region_lit ?_
  refine oas R rfl rfl fun a R => ?_
  refine wpList_nil ?_
  refine then_normal ?_
  refine wp_block ?_
  refine wp_fix (σ := Int) (fun s a => Rep a 54 [(0, .pointer x0), (3, .slice (some x11_1) 2 2), (4, .int .i64 s)] []) h (R.weak ⟨rfl, rfl, rfl, trivial⟩) ?_
  rintro Ks C z4_4 a w hC R h
  have R : Rep a 54 [(0, .pointer x0), (3, .slice (some x11_1) 2 2), (4, .int .i64 z4_4)] [] := R
  have h : levyroom_Room_holdValues.l4 x0 x11_1 z4_4 Q (fun z4_4 w => Ks z4_4 w) w := h
  generalize hK4 : (fun z4_4 w => Ks z4_4 w) = K4 at h
  unfold levyroom_Room_holdValues.l4 at h
  refine wp_seq ?_
  refine wp_seq ?_
  refine wp_region_lit ?_
  refine omv R rfl rfl fun a R => ?_
  refine omv R rfl rfl fun a R => ?_
  obtain ⟨x14_5, cx14_5, h⟩ := h
  refine onl R rfl cx14_5 rfl fun a R => ?_
  refine ofd R rfl fd65_5 rfl fun a R => ?_
  obtain ⟨x16_6, cx16_6, h⟩ := h
  refine old R rfl Try.underlying48 rfl cx16_6 rfl fun a R => ?_
  refine op_val R (rn_len R rfl Try.underlying48) rfl fun a R => ?_
  refine op_val R (rn_bin (v := .bool (decide (z4_4 < ((x16_6.len : Nat) : Int)))) R rfl rfl rfl) rfl fun a R => ?_
  refine wpList_nil ?_
  refine then_normal ?_
  rcases ite_cases h with ⟨g9, h⟩ | ⟨g9, h⟩
  ·refine wp_condT R (congrArg (fun b => some (Value.bool b)) g9) ?_
   refine wp_skip ?_
   refine then_normal ?_
   refine seq_join (fun a w => Rep a 54 [(0, .pointer x0), (3, .slice (some x11_1) 2 2), (4, .int .i64 z4_4)] [] ∧ levyroom_Room_holdValues.k10 x0 x11_1 z4_4 K4 Q w) ?_ ?_
   ·refine wp_block ?_
    refine wp_seq ?_
    refine wp_region_lit ?_
    refine omv R rfl rfl fun a R => ?_
    obtain ⟨x22_12, cx22_12, h⟩ := h
    refine onl R rfl cx22_12 rfl fun a R => ?_
    refine ofd R rfl fd65_5 rfl fun a R => ?_
    obtain ⟨x24_13, cx24_13, h⟩ := h
    refine old R rfl Try.underlying48 rfl cx24_13 rfl fun a R => ?_
    refine omv R rfl rfl fun a R => ?_
    obtain ⟨b14, x26_15, p14, i14, j14, e14, h⟩ := ix_e h
    refine op_val (v := .pointer (some x26_15)) R (by rw [e14]; exact rn_ixs (x := (.tmp 24)) (y := (.tmp 25)) R rfl p14 rfl Try.underlying48 sz117 i14 j14) rfl fun a R => ?_
    obtain ⟨x27_16, cx27_16, h⟩ := h
    refine old R rfl Try.underlying117 rfl cx27_16 rfl fun a R => ?_
    refine op_val R (rn_len R rfl Try.underlying117) rfl fun a R => ?_
    refine oas R rfl rfl fun a R => ?_
    refine wpList_nil ?_
    refine then_normal ?_
    refine wp_seq ?_
    refine wp_region_lit ?_
    refine oas R rfl rfl fun a R => ?_
    refine wpList_nil ?_
    refine then_normal ?_
    refine wp_block ?_
    refine wp_fix (σ := Int) (fun s a => Rep a 54 [(0, .pointer x0), (3, .slice (some x11_1) 2 2), (4, .int .i64 z4_4), (5, .int .i64 ((x27_16.len : Nat) : Int)), (6, .int .i64 s)] []) h (R.weak ⟨rfl, rfl, rfl, rfl, rfl, trivial⟩) ?_
    rintro Ks C z18_6 a w hC R h
    have R : Rep a 54 [(0, .pointer x0), (3, .slice (some x11_1) 2 2), (4, .int .i64 z4_4), (5, .int .i64 ((x27_16.len : Nat) : Int)), (6, .int .i64 z18_6)] [] := R
    have h : levyroom_Room_holdValues.l18 x0 x11_1 z4_4 K4 x27_16 z18_6 Q (fun z18_6 w => Ks z18_6 w) w := h
    generalize hK18 : (fun z18_6 w => Ks z18_6 w) = K18 at h
    unfold levyroom_Room_holdValues.l18 at h
    refine wp_seq ?_
    refine wp_seq ?_
    refine wp_region_lit ?_
    refine omv R rfl rfl fun a R => ?_
    refine op_val R (rn_bin (v := .bool (decide (z18_6 < 40))) R rfl rfl rfl) rfl fun a R => ?_
    refine wpList_nil ?_
    refine then_normal ?_
    rcases ite_cases h with ⟨g20, h⟩ | ⟨g20, h⟩
    ·refine wp_condT R (congrArg (fun b => some (Value.bool b)) g20) ?_
     refine wp_skip ?_
     refine then_normal ?_
     refine wp_seq ?_
     refine wp_block ?_
     refine wp_seq ?_
     refine wp_region_lit ?_
     refine omv R rfl rfl fun a R => ?_
     obtain ⟨x34_21, cx34_21, h⟩ := h
     refine onl R rfl cx34_21 rfl fun a R => ?_
     refine ofd R rfl fd65_5 rfl fun a R => ?_
     obtain ⟨x36_22, cx36_22, h⟩ := h
     refine old R rfl Try.underlying48 rfl cx36_22 rfl fun a R => ?_
     refine omv R rfl rfl fun a R => ?_
     obtain ⟨b23, x38_24, p23, i23, j23, e23, h⟩ := ix_e h
     refine op_val (v := .pointer (some x38_24)) R (by rw [e23]; exact rn_ixs (x := (.tmp 36)) (y := (.tmp 37)) R rfl p23 rfl Try.underlying48 sz117 i23 j23) rfl fun a R => ?_
     obtain ⟨x39_25, cx39_25, h⟩ := h
     refine old R rfl Try.underlying117 rfl cx39_25 rfl fun a R => ?_
     refine omv R rfl rfl fun a R => ?_
     refine op_val R (rn_bin (v := .int .i64 (IntKind.i64.wrap (((x27_16.len : Nat) : Int) - 40))) R rfl rfl rfl) rfl fun a R => ?_
     refine omv R rfl rfl fun a R => ?_
     refine op_val R (rn_bin (v := .int .i64 (IntKind.i64.wrap ((IntKind.i64.wrap (((x27_16.len : Nat) : Int) - 40)) + z18_6))) R rfl rfl rfl) rfl fun a R => ?_
     obtain ⟨b28, x44_29, p28, i28, j28, e28, h⟩ := ix_e h
     refine op_val (v := .pointer (some x44_29)) R (by rw [e28]; exact rn_ixs (x := (.tmp 39)) (y := (.tmp 43)) R rfl p28 rfl Try.underlying117 sz116 i28 j28) rfl fun a R => ?_
     obtain ⟨x45_30_0, cx45_30_0, x45_30_1, cx45_30_1, h⟩ := h
     refine op_val R (rn_ldN (cs := [.int .i64 x45_30_0, .int .i64 x45_30_1]) R rfl Try.underlying116 rfl sz116 ⟨cx45_30_0, cx45_30_1, trivial⟩) rfl fun a R => ?_
     obtain ⟨x7_31, e32, h⟩ := al_e h
     refine op_val (v := .pointer (some x7_31)) R (by rw [e32]; exact rn_al R ze116) rfl fun a R => ?_
     obtain ⟨q33, h⟩ := h
     refine op_unit R (rn_stN (vs := [.int .i64 x45_30_0, .int .i64 x45_30_1]) R rfl rfl (ao ⟨rfl, rfl, trivial⟩) sz116 q33) fun a R => ?_
     refine wpList_nil ?_
     refine then_normal ?_
     refine wp_seq ?_
     refine wp_region_lit ?_
     refine omv R rfl rfl fun a R => ?_
     refine omv R rfl rfl fun a R => ?_
     refine op_val R (rn_bin (v := .int .i64 (Int.tmod z18_6 2)) R rfl rfl rfl) rfl fun a R => ?_
     obtain ⟨b35, x49_36, p35, i35, j35, e35, h⟩ := ix_e h
     refine op_val (v := .pointer (some x49_36)) R (by rw [e35]; exact rn_ixs (x := (.tmp 46)) (y := (.tmp 48)) R rfl p35 rfl Try.underlying117 sz116 i35 j35) rfl fun a R => ?_
     obtain ⟨x50_37_0, cx50_37_0, x50_37_1, cx50_37_1, h⟩ := h
     refine op_val R (rn_ldN (cs := [.int .i64 x50_37_0, .int .i64 x50_37_1]) R rfl Try.underlying116 rfl sz116 ⟨cx50_37_0, cx50_37_1, trivial⟩) rfl fun a R => ?_
     obtain ⟨x8_38, e39, h⟩ := al_e h
     refine op_val (v := .pointer (some x8_38)) R (by rw [e39]; exact rn_al R ze116) rfl fun a R => ?_
     obtain ⟨q40, h⟩ := h
     refine op_unit R (rn_stN (vs := [.int .i64 x50_37_0, .int .i64 x50_37_1]) R rfl rfl (ao ⟨rfl, rfl, trivial⟩) sz116 q40) fun a R => ?_
     refine wpList_nil ?_
     refine then_normal ?_
     refine wp_seq ?_
     refine wp_region_lit ?_
     obtain ⟨x51_41_0, cx51_41_0, x51_41_1, cx51_41_1, h⟩ := h
     refine op_val R (rn_ldN (cs := [.int .i64 x51_41_0, .int .i64 x51_41_1]) R rfl Try.underlying116 rfl sz116 ⟨cx51_41_0, cx51_41_1, trivial⟩) rfl fun a R => ?_
     obtain ⟨x52_42_0, cx52_42_0, x52_42_1, cx52_42_1, h⟩ := h
     refine op_val R (rn_ldN (cs := [.int .i64 x52_42_0, .int .i64 x52_42_1]) R rfl Try.underlying116 rfl sz116 ⟨cx52_42_0, cx52_42_1, trivial⟩) rfl fun a R => ?_
     obtain ⟨x53_43, w44, kx53_43, cx53_43, h⟩ := h
     refine op_val R (rn_binR R rfl rfl kx53_43 cx53_43) rfl fun a R => ?_
     refine wpList_nil ?_
     refine then_normal ?_
     rcases ite_cases h with ⟨g45, h⟩ | ⟨g45, h⟩
     ·refine wp_condT R (congrArg (fun b => some (Value.bool b)) g45) ?_
      refine wp_seq ?_
      refine wp_region_lit ?_
      refine oas R rfl rfl fun a R => ?_
      refine wpList_nil ?_
      refine then_normal ?_
      refine wp_ret ?_
      refine block_ret ?_
      refine then_ret ?_
      refine then_ret ?_
      refine block_ret ?_
      refine block_ret ?_
      refine then_ret ?_
      refine then_ret ?_
      refine block_ret ?_
      refine then_ret ?_
      exact post_ret R rfl rfl ⟨false, rfl, h⟩
     ·refine wp_condF R (congrArg (fun b => some (Value.bool b)) g45) ?_
      refine wp_skip ?_
      refine block_normal ?_
      refine then_normal ?_
      refine wp_region_lit ?_
      refine omv R rfl rfl fun a R => ?_
      refine op_val R (rn_bin (v := .int .i64 (IntKind.i64.wrap (z18_6 + 1))) R rfl rfl rfl) rfl fun a R => ?_
      refine oas R rfl rfl fun a R => ?_
      refine wpList_nil ?_
      refine then_normal ?_
      exact hC (IntKind.i64.wrap (z18_6 + 1)) _ _ (R.weak ⟨rfl, rfl, rfl, rfl, rfl, trivial⟩) (by rw [← hK18] at h; exact h)
    ·refine wp_condF R (congrArg (fun b => some (Value.bool b)) g20) ?_
     refine wp_exit ?_
     refine then_exit ?_
     refine then_exit ?_
     refine block_eq ?_
     refine block_normal ?_
     refine then_normal ?_
     exact ⟨R.weak ⟨rfl, rfl, rfl, trivial⟩, h⟩
   ·rintro a w ⟨R, h⟩
    unfold levyroom_Room_holdValues.k10 at h
    refine wp_region_lit ?_
    refine omv R rfl rfl fun a R => ?_
    refine op_val R (rn_bin (v := .int .i64 (IntKind.i64.wrap (z4_4 + 1))) R rfl rfl rfl) rfl fun a R => ?_
    refine oas R rfl rfl fun a R => ?_
    refine wpList_nil ?_
    refine then_normal ?_
    exact hC (IntKind.i64.wrap (z4_4 + 1)) _ _ (R.weak ⟨rfl, rfl, rfl, trivial⟩) (by rw [← hK4] at h; exact h)
  ·refine wp_condF R (congrArg (fun b => some (Value.bool b)) g9) ?_
   refine wp_exit ?_
   refine then_exit ?_
   refine then_exit ?_
   refine block_eq ?_
   refine then_normal ?_
   exact ⟨R.weak trivial, h⟩
 ·rintro a w ⟨R, h⟩
  unfold levyroom_Room_holdValues.k3 at h
  refine wp_seq ?_
  refine wp_region_lit ?_
  refine oas R rfl rfl fun a R => ?_
  refine wpList_nil ?_
  refine then_normal ?_
  refine wp_ret ?_
  exact post_ret R rfl rfl ⟨true, rfl, h⟩
theorem s_levyroom_Room_holdValues (x0 : Option Addr) (Q : Bool → World → Prop) (w : World) (h : levyroom_Room_holdValues x0 Q w) :
    Calls Try.prog 46 #[.pointer x0] w (Rets fun v w => ∃ r0 : Bool, v = (.bool r0 : Value) ∧ Q r0 w) :=
  calls_body (args := [.pointer x0]) Try.func46 rfl rfl (Nat.le_of_ble_eq_true rfl) (L := [(0, .pointer x0)]) (by simp [starts]) (b_levyroom_Room_holdValues x0 Q w h rfl)

/-! (levyroom.Room).holdBands -/

def levyroom_Room_holdBands.k3  (Q : Bool → World → Prop) (w : World) : Prop :=
  Q true w

def levyroom_Room_holdBands.k10 (x0 : Option Addr) (x11_1 : Addr) (z4_4 : Int) (K4 : Int → World → Prop) (Q : Bool → World → Prop) (w : World) : Prop :=
  K4 (IntKind.i64.wrap (z4_4 + 1)) w

def levyroom_Room_holdBands.l18 (x0 : Option Addr) (x11_1 : Addr) (z4_4 : Int) (K4 : Int → World → Prop) (x27_16 : Sl) (z18_6 : Int) (Q : Bool → World → Prop) (K18 : Int → World → Prop) (w : World) : Prop :=
  (if (decide (z18_6 < 40)) = true then nn x0 fun x34_21 => ld Sl.val w (x34_21.add 6) fun x36_22 => ix x36_22.p x36_22.len z4_4 1 fun x38_24 => ld Sl.val w x38_24 fun x39_25 => ix x39_25.p x39_25.len (IntKind.i64.wrap ((IntKind.i64.wrap (((x27_16.len : Nat) : Int) - 40)) + z18_6)) 2 fun x44_29 => ld (Value.int .i64) w (x44_29.add 0) fun x45_30_0 => ld (Value.int .i64) w (x44_29.add 1) fun x45_30_1 => al w (.cells #[.int .i64 0, .int .i64 0] 119) fun x7_31 w => stN w x7_31 [.int .i64 x45_30_0, .int .i64 x45_30_1] fun w => ix (some x11_1) 2 (Int.tmod z18_6 2) 2 fun x49_36 => ld (Value.int .i64) w (x49_36.add 0) fun x50_37_0 => ld (Value.int .i64) w (x49_36.add 1) fun x50_37_1 => al w (.cells #[.int .i64 0, .int .i64 0] 119) fun x8_38 w => stN w x8_38 [.int .i64 x50_37_0, .int .i64 x50_37_1] fun w => ld (Value.int .i64) w (x7_31.add 0) fun x51_41_0 => ld (Value.int .i64) w (x7_31.add 1) fun x51_41_1 => ld (Value.int .i64) w (x8_38.add 0) fun x52_42_0 => ld (Value.int .i64) w (x8_38.add 1) fun x52_42_1 => rnb Try.prog (eqGuard .neq 119 (.tmp 51) (.tmp 52) (.agg #[.int .i64 x51_41_0, .int .i64 x51_41_1]) (.agg #[.int .i64 x52_42_0, .int .i64 x52_42_1])) (binOp .neq 119 (.agg #[.int .i64 x51_41_0, .int .i64 x51_41_1]) (.agg #[.int .i64 x52_42_0, .int .i64 x52_42_1])) w fun x53_43 w => (if x53_43 = true then Q false w else K18 (IntKind.i64.wrap (z18_6 + 1)) w) else levyroom_Room_holdBands.k10 x0 x11_1 z4_4 K4 Q w)

def levyroom_Room_holdBands.l4 (x0 : Option Addr) (x11_1 : Addr) (z4_4 : Int) (Q : Bool → World → Prop) (K4 : Int → World → Prop) (w : World) : Prop :=
  nn x0 fun x14_5 => ld Sl.val w (x14_5.add 6) fun x16_6 => (if (decide (z4_4 < ((x16_6.len : Nat) : Int))) = true then nn x0 fun x22_12 => ld Sl.val w (x22_12.add 6) fun x24_13 => ix x24_13.p x24_13.len z4_4 1 fun x26_15 => ld Sl.val w x26_15 fun x27_16 => (Fix (σ := Int) (fun Ks s w => levyroom_Room_holdBands.l18 x0 x11_1 z4_4 K4 x27_16 s Q (fun z18_6 w => Ks z18_6 w) w) 0 w) else levyroom_Room_holdBands.k3  Q w)

def levyroom_Room_holdBands (x0 : Option Addr) (Q : Bool → World → Prop) (w : World) : Prop :=
  al w (.cells #[.int .i64 (-7701), .int .i64 0, .int .i64 (-7702), .int .i64 0] 119) fun x11_1 w => (Fix (σ := Int) (fun Ks s w => levyroom_Room_holdBands.l4 x0 x11_1 s Q (fun z4_4 w => Ks z4_4 w) w) 0 w)

theorem b_levyroom_Room_holdBands (x0 : Option Addr) (Q : Bool → World → Prop) (w : World) (h : levyroom_Room_holdBands x0 Q w) {c : Code} (hb : Try.f47.body = some c) :
 ∀ a, Rep a 54 [(0, .pointer x0)] [] → c.wp Try.prog (bodyPost Try.prog Try.f47 (Rets fun v w => ∃ r0 : Bool, v = (.bool r0 : Value) ∧ Q r0 w)) a w := by
 intro a R
 obtain rfl := Option.some.inj hb
 unfold levyroom_Room_holdBands at h
 refine wp_seq ?_
 refine wp_region_lit ?_
 refine oas R rfl rfl fun a R => ?_
 refine wpList_nil ?_
 refine then_normal ?_
 refine wp_seq ?_
 refine wp_region_lit ?_
 refine op_val R (rn_build (r := .agg #[.int .i64 (-7701), .int .i64 0]) R rfl (fun w => by kernel_rfl)) rfl fun a R => ?_
 refine op_val R (rn_build (r := .agg #[.int .i64 (-7702), .int .i64 0]) R rfl (fun w => by kernel_rfl)) rfl fun a R => ?_
 obtain ⟨x11_1, e2, h⟩ := al_e h
 refine op_val (v := .slice (some x11_1) 2 2) R (by rw [e2]; exact rn_buildSlice (t := 120) (len := 2) (xs := [(0, (.tmp 9)), (1, (.tmp 10))]) (cells := #[.int .i64 (-7701), .int .i64 0, .int .i64 (-7702), .int .i64 0]) (e := 119) R rfl (fun w => by kernel_rfl)) rfl fun a R => ?_
 refine oas R rfl rfl fun a R => ?_
 refine wpList_nil ?_
 refine then_normal ?_
 refine seq_join (fun a w => Rep a 54 [] [] ∧ levyroom_Room_holdBands.k3  Q w) ?_ ?_
 ·refine wp_seq ?_
  refine wp_region_lit ?_
  refine oas R rfl rfl fun a R => ?_
  refine wpList_nil ?_
  refine then_normal ?_
  refine wp_block ?_
  refine wp_fix (σ := Int) (fun s a => Rep a 54 [(0, .pointer x0), (3, .slice (some x11_1) 2 2), (4, .int .i64 s)] []) h (R.weak ⟨rfl, rfl, rfl, trivial⟩) ?_
  rintro Ks C z4_4 a w hC R h
  have R : Rep a 54 [(0, .pointer x0), (3, .slice (some x11_1) 2 2), (4, .int .i64 z4_4)] [] := R
  have h : levyroom_Room_holdBands.l4 x0 x11_1 z4_4 Q (fun z4_4 w => Ks z4_4 w) w := h
  generalize hK4 : (fun z4_4 w => Ks z4_4 w) = K4 at h
  unfold levyroom_Room_holdBands.l4 at h
  refine wp_seq ?_
  refine wp_seq ?_
  refine wp_region_lit ?_
  refine omv R rfl rfl fun a R => ?_
  refine omv R rfl rfl fun a R => ?_
  obtain ⟨x14_5, cx14_5, h⟩ := h
  refine onl R rfl cx14_5 rfl fun a R => ?_
  refine ofd R rfl fd65_6 rfl fun a R => ?_
  obtain ⟨x16_6, cx16_6, h⟩ := h
  refine old R rfl Try.underlying49 rfl cx16_6 rfl fun a R => ?_
  refine op_val R (rn_len R rfl Try.underlying49) rfl fun a R => ?_
  refine op_val R (rn_bin (v := .bool (decide (z4_4 < ((x16_6.len : Nat) : Int)))) R rfl rfl rfl) rfl fun a R => ?_
  refine wpList_nil ?_
  refine then_normal ?_
  rcases ite_cases h with ⟨g9, h⟩ | ⟨g9, h⟩
  ·refine wp_condT R (congrArg (fun b => some (Value.bool b)) g9) ?_
   refine wp_skip ?_
   refine then_normal ?_
   refine seq_join (fun a w => Rep a 54 [(0, .pointer x0), (3, .slice (some x11_1) 2 2), (4, .int .i64 z4_4)] [] ∧ levyroom_Room_holdBands.k10 x0 x11_1 z4_4 K4 Q w) ?_ ?_
   ·refine wp_block ?_
    refine wp_seq ?_
    refine wp_region_lit ?_
    refine omv R rfl rfl fun a R => ?_
    obtain ⟨x22_12, cx22_12, h⟩ := h
    refine onl R rfl cx22_12 rfl fun a R => ?_
    refine ofd R rfl fd65_6 rfl fun a R => ?_
    obtain ⟨x24_13, cx24_13, h⟩ := h
    refine old R rfl Try.underlying49 rfl cx24_13 rfl fun a R => ?_
    refine omv R rfl rfl fun a R => ?_
    obtain ⟨b14, x26_15, p14, i14, j14, e14, h⟩ := ix_e h
    refine op_val (v := .pointer (some x26_15)) R (by rw [e14]; exact rn_ixs (x := (.tmp 24)) (y := (.tmp 25)) R rfl p14 rfl Try.underlying49 sz120 i14 j14) rfl fun a R => ?_
    obtain ⟨x27_16, cx27_16, h⟩ := h
    refine old R rfl Try.underlying120 rfl cx27_16 rfl fun a R => ?_
    refine op_val R (rn_len R rfl Try.underlying120) rfl fun a R => ?_
    refine oas R rfl rfl fun a R => ?_
    refine wpList_nil ?_
    refine then_normal ?_
    refine wp_seq ?_
    refine wp_region_lit ?_
    refine oas R rfl rfl fun a R => ?_
    refine wpList_nil ?_
    refine then_normal ?_
    refine wp_block ?_
    refine wp_fix (σ := Int) (fun s a => Rep a 54 [(0, .pointer x0), (3, .slice (some x11_1) 2 2), (4, .int .i64 z4_4), (5, .int .i64 ((x27_16.len : Nat) : Int)), (6, .int .i64 s)] []) h (R.weak ⟨rfl, rfl, rfl, rfl, rfl, trivial⟩) ?_
    rintro Ks C z18_6 a w hC R h
    have R : Rep a 54 [(0, .pointer x0), (3, .slice (some x11_1) 2 2), (4, .int .i64 z4_4), (5, .int .i64 ((x27_16.len : Nat) : Int)), (6, .int .i64 z18_6)] [] := R
    have h : levyroom_Room_holdBands.l18 x0 x11_1 z4_4 K4 x27_16 z18_6 Q (fun z18_6 w => Ks z18_6 w) w := h
    generalize hK18 : (fun z18_6 w => Ks z18_6 w) = K18 at h
    unfold levyroom_Room_holdBands.l18 at h
    refine wp_seq ?_
    refine wp_seq ?_
    refine wp_region_lit ?_
    refine omv R rfl rfl fun a R => ?_
    refine op_val R (rn_bin (v := .bool (decide (z18_6 < 40))) R rfl rfl rfl) rfl fun a R => ?_
    refine wpList_nil ?_
    refine then_normal ?_
    rcases ite_cases h with ⟨g20, h⟩ | ⟨g20, h⟩
    ·refine wp_condT R (congrArg (fun b => some (Value.bool b)) g20) ?_
     refine wp_skip ?_
     refine then_normal ?_
     refine wp_seq ?_
     refine wp_block ?_
     refine wp_seq ?_
     refine wp_region_lit ?_
     refine omv R rfl rfl fun a R => ?_
     obtain ⟨x34_21, cx34_21, h⟩ := h
     refine onl R rfl cx34_21 rfl fun a R => ?_
     refine ofd R rfl fd65_6 rfl fun a R => ?_
     obtain ⟨x36_22, cx36_22, h⟩ := h
     refine old R rfl Try.underlying49 rfl cx36_22 rfl fun a R => ?_
     refine omv R rfl rfl fun a R => ?_
     obtain ⟨b23, x38_24, p23, i23, j23, e23, h⟩ := ix_e h
     refine op_val (v := .pointer (some x38_24)) R (by rw [e23]; exact rn_ixs (x := (.tmp 36)) (y := (.tmp 37)) R rfl p23 rfl Try.underlying49 sz120 i23 j23) rfl fun a R => ?_
     obtain ⟨x39_25, cx39_25, h⟩ := h
     refine old R rfl Try.underlying120 rfl cx39_25 rfl fun a R => ?_
     refine omv R rfl rfl fun a R => ?_
     refine op_val R (rn_bin (v := .int .i64 (IntKind.i64.wrap (((x27_16.len : Nat) : Int) - 40))) R rfl rfl rfl) rfl fun a R => ?_
     refine omv R rfl rfl fun a R => ?_
     refine op_val R (rn_bin (v := .int .i64 (IntKind.i64.wrap ((IntKind.i64.wrap (((x27_16.len : Nat) : Int) - 40)) + z18_6))) R rfl rfl rfl) rfl fun a R => ?_
     obtain ⟨b28, x44_29, p28, i28, j28, e28, h⟩ := ix_e h
     refine op_val (v := .pointer (some x44_29)) R (by rw [e28]; exact rn_ixs (x := (.tmp 39)) (y := (.tmp 43)) R rfl p28 rfl Try.underlying120 sz119 i28 j28) rfl fun a R => ?_
     obtain ⟨x45_30_0, cx45_30_0, x45_30_1, cx45_30_1, h⟩ := h
     refine op_val R (rn_ldN (cs := [.int .i64 x45_30_0, .int .i64 x45_30_1]) R rfl Try.underlying119 rfl sz119 ⟨cx45_30_0, cx45_30_1, trivial⟩) rfl fun a R => ?_
     obtain ⟨x7_31, e32, h⟩ := al_e h
     refine op_val (v := .pointer (some x7_31)) R (by rw [e32]; exact rn_al R ze119) rfl fun a R => ?_
     obtain ⟨q33, h⟩ := h
     refine op_unit R (rn_stN (vs := [.int .i64 x45_30_0, .int .i64 x45_30_1]) R rfl rfl (ao ⟨rfl, rfl, trivial⟩) sz119 q33) fun a R => ?_
     refine wpList_nil ?_
     refine then_normal ?_
     refine wp_seq ?_
     refine wp_region_lit ?_
     refine omv R rfl rfl fun a R => ?_
     refine omv R rfl rfl fun a R => ?_
     refine op_val R (rn_bin (v := .int .i64 (Int.tmod z18_6 2)) R rfl rfl rfl) rfl fun a R => ?_
     obtain ⟨b35, x49_36, p35, i35, j35, e35, h⟩ := ix_e h
     refine op_val (v := .pointer (some x49_36)) R (by rw [e35]; exact rn_ixs (x := (.tmp 46)) (y := (.tmp 48)) R rfl p35 rfl Try.underlying120 sz119 i35 j35) rfl fun a R => ?_
     obtain ⟨x50_37_0, cx50_37_0, x50_37_1, cx50_37_1, h⟩ := h
     refine op_val R (rn_ldN (cs := [.int .i64 x50_37_0, .int .i64 x50_37_1]) R rfl Try.underlying119 rfl sz119 ⟨cx50_37_0, cx50_37_1, trivial⟩) rfl fun a R => ?_
     obtain ⟨x8_38, e39, h⟩ := al_e h
     refine op_val (v := .pointer (some x8_38)) R (by rw [e39]; exact rn_al R ze119) rfl fun a R => ?_
     obtain ⟨q40, h⟩ := h
     refine op_unit R (rn_stN (vs := [.int .i64 x50_37_0, .int .i64 x50_37_1]) R rfl rfl (ao ⟨rfl, rfl, trivial⟩) sz119 q40) fun a R => ?_
     refine wpList_nil ?_
     refine then_normal ?_
     refine wp_seq ?_
     refine wp_region_lit ?_
     obtain ⟨x51_41_0, cx51_41_0, x51_41_1, cx51_41_1, h⟩ := h
     refine op_val R (rn_ldN (cs := [.int .i64 x51_41_0, .int .i64 x51_41_1]) R rfl Try.underlying119 rfl sz119 ⟨cx51_41_0, cx51_41_1, trivial⟩) rfl fun a R => ?_
     obtain ⟨x52_42_0, cx52_42_0, x52_42_1, cx52_42_1, h⟩ := h
     refine op_val R (rn_ldN (cs := [.int .i64 x52_42_0, .int .i64 x52_42_1]) R rfl Try.underlying119 rfl sz119 ⟨cx52_42_0, cx52_42_1, trivial⟩) rfl fun a R => ?_
     obtain ⟨x53_43, w44, kx53_43, cx53_43, h⟩ := h
     refine op_val R (rn_binR R rfl rfl kx53_43 cx53_43) rfl fun a R => ?_
     refine wpList_nil ?_
     refine then_normal ?_
     rcases ite_cases h with ⟨g45, h⟩ | ⟨g45, h⟩
     ·refine wp_condT R (congrArg (fun b => some (Value.bool b)) g45) ?_
      refine wp_seq ?_
      refine wp_region_lit ?_
      refine oas R rfl rfl fun a R => ?_
      refine wpList_nil ?_
      refine then_normal ?_
      refine wp_ret ?_
      refine block_ret ?_
      refine then_ret ?_
      refine then_ret ?_
      refine block_ret ?_
      refine block_ret ?_
      refine then_ret ?_
      refine then_ret ?_
      refine block_ret ?_
      refine then_ret ?_
      exact post_ret R rfl rfl ⟨false, rfl, h⟩
     ·refine wp_condF R (congrArg (fun b => some (Value.bool b)) g45) ?_
      refine wp_skip ?_
      refine block_normal ?_
      refine then_normal ?_
      refine wp_region_lit ?_
      refine omv R rfl rfl fun a R => ?_
      refine op_val R (rn_bin (v := .int .i64 (IntKind.i64.wrap (z18_6 + 1))) R rfl rfl rfl) rfl fun a R => ?_
      refine oas R rfl rfl fun a R => ?_
      refine wpList_nil ?_
      refine then_normal ?_
      exact hC (IntKind.i64.wrap (z18_6 + 1)) _ _ (R.weak ⟨rfl, rfl, rfl, rfl, rfl, trivial⟩) (by rw [← hK18] at h; exact h)
    ·refine wp_condF R (congrArg (fun b => some (Value.bool b)) g20) ?_
     refine wp_exit ?_
     refine then_exit ?_
     refine then_exit ?_
     refine block_eq ?_
     refine block_normal ?_
     refine then_normal ?_
     exact ⟨R.weak ⟨rfl, rfl, rfl, trivial⟩, h⟩
   ·rintro a w ⟨R, h⟩
    unfold levyroom_Room_holdBands.k10 at h
    refine wp_region_lit ?_
    refine omv R rfl rfl fun a R => ?_
    refine op_val R (rn_bin (v := .int .i64 (IntKind.i64.wrap (z4_4 + 1))) R rfl rfl rfl) rfl fun a R => ?_
    refine oas R rfl rfl fun a R => ?_
    refine wpList_nil ?_
    refine then_normal ?_
    exact hC (IntKind.i64.wrap (z4_4 + 1)) _ _ (R.weak ⟨rfl, rfl, rfl, trivial⟩) (by rw [← hK4] at h; exact h)
  ·refine wp_condF R (congrArg (fun b => some (Value.bool b)) g9) ?_
   refine wp_exit ?_
   refine then_exit ?_
   refine then_exit ?_
   refine block_eq ?_
   refine then_normal ?_
   exact ⟨R.weak trivial, h⟩
 ·rintro a w ⟨R, h⟩
  unfold levyroom_Room_holdBands.k3 at h
  refine wp_seq ?_
  refine wp_region_lit ?_
  refine oas R rfl rfl fun a R => ?_
  refine wpList_nil ?_
  refine then_normal ?_
  refine wp_ret ?_
  exact post_ret R rfl rfl ⟨true, rfl, h⟩
theorem s_levyroom_Room_holdBands (x0 : Option Addr) (Q : Bool → World → Prop) (w : World) (h : levyroom_Room_holdBands x0 Q w) :
    Calls Try.prog 47 #[.pointer x0] w (Rets fun v w => ∃ r0 : Bool, v = (.bool r0 : Value) ∧ Q r0 w) :=
  calls_body (args := [.pointer x0]) Try.func47 rfl rfl (Nat.le_of_ble_eq_true rfl) (L := [(0, .pointer x0)]) (by simp [starts]) (b_levyroom_Room_holdBands x0 Q w h rfl)

/-! (levyroom.Room).holdTokens -/

def levyroom_Room_holdTokens.k3  (Q : Bool → World → Prop) (w : World) : Prop :=
  Q true w

def levyroom_Room_holdTokens.k10 (x0 : Option Addr) (x11_1 : Addr) (z4_4 : Int) (K4 : Int → World → Prop) (Q : Bool → World → Prop) (w : World) : Prop :=
  K4 (IntKind.i64.wrap (z4_4 + 1)) w

def levyroom_Room_holdTokens.l18 (x0 : Option Addr) (x11_1 : Addr) (z4_4 : Int) (K4 : Int → World → Prop) (x27_16 : Sl) (z18_6 : Int) (Q : Bool → World → Prop) (K18 : Int → World → Prop) (w : World) : Prop :=
  (if (decide (z18_6 < 40)) = true then nn x0 fun x34_21 => ld Sl.val w (x34_21.add 7) fun x36_22 => ix x36_22.p x36_22.len z4_4 1 fun x38_24 => ld Sl.val w x38_24 fun x39_25 => ix x39_25.p x39_25.len (IntKind.i64.wrap ((IntKind.i64.wrap (((x27_16.len : Nat) : Int) - 40)) + z18_6)) 5 fun x44_29 => ld (Value.int .i64) w (x44_29.add 0) fun x45_30_0 => ld (Value.int .i64) w (x44_29.add 1) fun x45_30_1 => ld Value.string w (x44_29.add 2) fun x45_30_2 => ld (Value.int .i64) w (x44_29.add 3) fun x45_30_3 => ld (Value.int .i64) w (x44_29.add 4) fun x45_30_4 => al w (.cells #[.int .i64 0, .int .i64 0, .string ⟨#[]⟩, .int .i64 0, .int .i64 0] 122) fun x7_31 w => stN w x7_31 [.int .i64 x45_30_0, .int .i64 x45_30_1, .string x45_30_2, .int .i64 x45_30_3, .int .i64 x45_30_4] fun w => ix (some x11_1) 2 (Int.tmod z18_6 2) 5 fun x49_36 => ld (Value.int .i64) w (x49_36.add 0) fun x50_37_0 => ld (Value.int .i64) w (x49_36.add 1) fun x50_37_1 => ld Value.string w (x49_36.add 2) fun x50_37_2 => ld (Value.int .i64) w (x49_36.add 3) fun x50_37_3 => ld (Value.int .i64) w (x49_36.add 4) fun x50_37_4 => al w (.cells #[.int .i64 0, .int .i64 0, .string ⟨#[]⟩, .int .i64 0, .int .i64 0] 122) fun x8_38 w => stN w x8_38 [.int .i64 x50_37_0, .int .i64 x50_37_1, .string x50_37_2, .int .i64 x50_37_3, .int .i64 x50_37_4] fun w => ld (Value.int .i64) w (x7_31.add 0) fun x51_41_0 => ld (Value.int .i64) w (x7_31.add 1) fun x51_41_1 => ld Value.string w (x7_31.add 2) fun x51_41_2 => ld (Value.int .i64) w (x7_31.add 3) fun x51_41_3 => ld (Value.int .i64) w (x7_31.add 4) fun x51_41_4 => ld (Value.int .i64) w (x8_38.add 0) fun x52_42_0 => ld (Value.int .i64) w (x8_38.add 1) fun x52_42_1 => ld Value.string w (x8_38.add 2) fun x52_42_2 => ld (Value.int .i64) w (x8_38.add 3) fun x52_42_3 => ld (Value.int .i64) w (x8_38.add 4) fun x52_42_4 => rnb Try.prog (eqGuard .neq 122 (.tmp 51) (.tmp 52) (.agg #[.int .i64 x51_41_0, .int .i64 x51_41_1, .string x51_41_2, .int .i64 x51_41_3, .int .i64 x51_41_4]) (.agg #[.int .i64 x52_42_0, .int .i64 x52_42_1, .string x52_42_2, .int .i64 x52_42_3, .int .i64 x52_42_4])) (binOp .neq 122 (.agg #[.int .i64 x51_41_0, .int .i64 x51_41_1, .string x51_41_2, .int .i64 x51_41_3, .int .i64 x51_41_4]) (.agg #[.int .i64 x52_42_0, .int .i64 x52_42_1, .string x52_42_2, .int .i64 x52_42_3, .int .i64 x52_42_4])) w fun x53_43 w => (if x53_43 = true then Q false w else K18 (IntKind.i64.wrap (z18_6 + 1)) w) else levyroom_Room_holdTokens.k10 x0 x11_1 z4_4 K4 Q w)

def levyroom_Room_holdTokens.l4 (x0 : Option Addr) (x11_1 : Addr) (z4_4 : Int) (Q : Bool → World → Prop) (K4 : Int → World → Prop) (w : World) : Prop :=
  nn x0 fun x14_5 => ld Sl.val w (x14_5.add 7) fun x16_6 => (if (decide (z4_4 < ((x16_6.len : Nat) : Int))) = true then nn x0 fun x22_12 => ld Sl.val w (x22_12.add 7) fun x24_13 => ix x24_13.p x24_13.len z4_4 1 fun x26_15 => ld Sl.val w x26_15 fun x27_16 => (Fix (σ := Int) (fun Ks s w => levyroom_Room_holdTokens.l18 x0 x11_1 z4_4 K4 x27_16 s Q (fun z18_6 w => Ks z18_6 w) w) 0 w) else levyroom_Room_holdTokens.k3  Q w)

def levyroom_Room_holdTokens (x0 : Option Addr) (Q : Bool → World → Prop) (w : World) : Prop :=
  al w (.cells #[.int .i64 (-7701), .int .i64 0, .string ⟨#[]⟩, .int .i64 0, .int .i64 0, .int .i64 (-7702), .int .i64 0, .string ⟨#[]⟩, .int .i64 0, .int .i64 0] 122) fun x11_1 w => (Fix (σ := Int) (fun Ks s w => levyroom_Room_holdTokens.l4 x0 x11_1 s Q (fun z4_4 w => Ks z4_4 w) w) 0 w)

theorem b_levyroom_Room_holdTokens (x0 : Option Addr) (Q : Bool → World → Prop) (w : World) (h : levyroom_Room_holdTokens x0 Q w) {c : Code} (hb : Try.f48.body = some c) :
 ∀ a, Rep a 54 [(0, .pointer x0)] [] → c.wp Try.prog (bodyPost Try.prog Try.f48 (Rets fun v w => ∃ r0 : Bool, v = (.bool r0 : Value) ∧ Q r0 w)) a w := by
 intro a R
 obtain rfl := Option.some.inj hb
 unfold levyroom_Room_holdTokens at h
 refine wp_seq ?_
 refine wp_region_lit ?_
 refine oas R rfl rfl fun a R => ?_
 refine wpList_nil ?_
 refine then_normal ?_
 refine wp_seq ?_
 refine wp_region_lit ?_
 refine op_val R (rn_build (r := .agg #[.int .i64 (-7701), .int .i64 0, .string ⟨#[]⟩, .int .i64 0, .int .i64 0]) R rfl (fun w => by kernel_rfl)) rfl fun a R => ?_
 refine op_val R (rn_build (r := .agg #[.int .i64 (-7702), .int .i64 0, .string ⟨#[]⟩, .int .i64 0, .int .i64 0]) R rfl (fun w => by kernel_rfl)) rfl fun a R => ?_
 obtain ⟨x11_1, e2, h⟩ := al_e h
 refine op_val (v := .slice (some x11_1) 2 2) R (by rw [e2]; exact rn_buildSlice (t := 123) (len := 2) (xs := [(0, (.tmp 9)), (1, (.tmp 10))]) (cells := #[.int .i64 (-7701), .int .i64 0, .string ⟨#[]⟩, .int .i64 0, .int .i64 0, .int .i64 (-7702), .int .i64 0, .string ⟨#[]⟩, .int .i64 0, .int .i64 0]) (e := 122) R rfl (fun w => by kernel_rfl)) rfl fun a R => ?_
 refine oas R rfl rfl fun a R => ?_
 refine wpList_nil ?_
 refine then_normal ?_
 refine seq_join (fun a w => Rep a 54 [] [] ∧ levyroom_Room_holdTokens.k3  Q w) ?_ ?_
 ·refine wp_seq ?_
  refine wp_region_lit ?_
  refine oas R rfl rfl fun a R => ?_
  refine wpList_nil ?_
  refine then_normal ?_
  refine wp_block ?_
  refine wp_fix (σ := Int) (fun s a => Rep a 54 [(0, .pointer x0), (3, .slice (some x11_1) 2 2), (4, .int .i64 s)] []) h (R.weak ⟨rfl, rfl, rfl, trivial⟩) ?_
  rintro Ks C z4_4 a w hC R h
  have R : Rep a 54 [(0, .pointer x0), (3, .slice (some x11_1) 2 2), (4, .int .i64 z4_4)] [] := R
  have h : levyroom_Room_holdTokens.l4 x0 x11_1 z4_4 Q (fun z4_4 w => Ks z4_4 w) w := h
  generalize hK4 : (fun z4_4 w => Ks z4_4 w) = K4 at h
  unfold levyroom_Room_holdTokens.l4 at h
  refine wp_seq ?_
  refine wp_seq ?_
  refine wp_region_lit ?_
  refine omv R rfl rfl fun a R => ?_
  refine omv R rfl rfl fun a R => ?_
  obtain ⟨x14_5, cx14_5, h⟩ := h
  refine onl R rfl cx14_5 rfl fun a R => ?_
  refine ofd R rfl fd65_7 rfl fun a R => ?_
  obtain ⟨x16_6, cx16_6, h⟩ := h
  refine old R rfl Try.underlying50 rfl cx16_6 rfl fun a R => ?_
  refine op_val R (rn_len R rfl Try.underlying50) rfl fun a R => ?_
  refine op_val R (rn_bin (v := .bool (decide (z4_4 < ((x16_6.len : Nat) : Int)))) R rfl rfl rfl) rfl fun a R => ?_
  refine wpList_nil ?_
  refine then_normal ?_
  rcases ite_cases h with ⟨g9, h⟩ | ⟨g9, h⟩
  ·refine wp_condT R (congrArg (fun b => some (Value.bool b)) g9) ?_
   refine wp_skip ?_
   refine then_normal ?_
   refine seq_join (fun a w => Rep a 54 [(0, .pointer x0), (3, .slice (some x11_1) 2 2), (4, .int .i64 z4_4)] [] ∧ levyroom_Room_holdTokens.k10 x0 x11_1 z4_4 K4 Q w) ?_ ?_
   ·refine wp_block ?_
    refine wp_seq ?_
    refine wp_region_lit ?_
    refine omv R rfl rfl fun a R => ?_
    obtain ⟨x22_12, cx22_12, h⟩ := h
    refine onl R rfl cx22_12 rfl fun a R => ?_
    refine ofd R rfl fd65_7 rfl fun a R => ?_
    obtain ⟨x24_13, cx24_13, h⟩ := h
    refine old R rfl Try.underlying50 rfl cx24_13 rfl fun a R => ?_
    refine omv R rfl rfl fun a R => ?_
    obtain ⟨b14, x26_15, p14, i14, j14, e14, h⟩ := ix_e h
    refine op_val (v := .pointer (some x26_15)) R (by rw [e14]; exact rn_ixs (x := (.tmp 24)) (y := (.tmp 25)) R rfl p14 rfl Try.underlying50 sz123 i14 j14) rfl fun a R => ?_
    obtain ⟨x27_16, cx27_16, h⟩ := h
    refine old R rfl Try.underlying123 rfl cx27_16 rfl fun a R => ?_
    refine op_val R (rn_len R rfl Try.underlying123) rfl fun a R => ?_
    refine oas R rfl rfl fun a R => ?_
    refine wpList_nil ?_
    refine then_normal ?_
    refine wp_seq ?_
    refine wp_region_lit ?_
    refine oas R rfl rfl fun a R => ?_
    refine wpList_nil ?_
    refine then_normal ?_
    refine wp_block ?_
    refine wp_fix (σ := Int) (fun s a => Rep a 54 [(0, .pointer x0), (3, .slice (some x11_1) 2 2), (4, .int .i64 z4_4), (5, .int .i64 ((x27_16.len : Nat) : Int)), (6, .int .i64 s)] []) h (R.weak ⟨rfl, rfl, rfl, rfl, rfl, trivial⟩) ?_
    rintro Ks C z18_6 a w hC R h
    have R : Rep a 54 [(0, .pointer x0), (3, .slice (some x11_1) 2 2), (4, .int .i64 z4_4), (5, .int .i64 ((x27_16.len : Nat) : Int)), (6, .int .i64 z18_6)] [] := R
    have h : levyroom_Room_holdTokens.l18 x0 x11_1 z4_4 K4 x27_16 z18_6 Q (fun z18_6 w => Ks z18_6 w) w := h
    generalize hK18 : (fun z18_6 w => Ks z18_6 w) = K18 at h
    unfold levyroom_Room_holdTokens.l18 at h
    refine wp_seq ?_
    refine wp_seq ?_
    refine wp_region_lit ?_
    refine omv R rfl rfl fun a R => ?_
    refine op_val R (rn_bin (v := .bool (decide (z18_6 < 40))) R rfl rfl rfl) rfl fun a R => ?_
    refine wpList_nil ?_
    refine then_normal ?_
    rcases ite_cases h with ⟨g20, h⟩ | ⟨g20, h⟩
    ·refine wp_condT R (congrArg (fun b => some (Value.bool b)) g20) ?_
     refine wp_skip ?_
     refine then_normal ?_
     refine wp_seq ?_
     refine wp_block ?_
     refine wp_seq ?_
     refine wp_region_lit ?_
     refine omv R rfl rfl fun a R => ?_
     obtain ⟨x34_21, cx34_21, h⟩ := h
     refine onl R rfl cx34_21 rfl fun a R => ?_
     refine ofd R rfl fd65_7 rfl fun a R => ?_
     obtain ⟨x36_22, cx36_22, h⟩ := h
     refine old R rfl Try.underlying50 rfl cx36_22 rfl fun a R => ?_
     refine omv R rfl rfl fun a R => ?_
     obtain ⟨b23, x38_24, p23, i23, j23, e23, h⟩ := ix_e h
     refine op_val (v := .pointer (some x38_24)) R (by rw [e23]; exact rn_ixs (x := (.tmp 36)) (y := (.tmp 37)) R rfl p23 rfl Try.underlying50 sz123 i23 j23) rfl fun a R => ?_
     obtain ⟨x39_25, cx39_25, h⟩ := h
     refine old R rfl Try.underlying123 rfl cx39_25 rfl fun a R => ?_
     refine omv R rfl rfl fun a R => ?_
     refine op_val R (rn_bin (v := .int .i64 (IntKind.i64.wrap (((x27_16.len : Nat) : Int) - 40))) R rfl rfl rfl) rfl fun a R => ?_
     refine omv R rfl rfl fun a R => ?_
     refine op_val R (rn_bin (v := .int .i64 (IntKind.i64.wrap ((IntKind.i64.wrap (((x27_16.len : Nat) : Int) - 40)) + z18_6))) R rfl rfl rfl) rfl fun a R => ?_
     obtain ⟨b28, x44_29, p28, i28, j28, e28, h⟩ := ix_e h
     refine op_val (v := .pointer (some x44_29)) R (by rw [e28]; exact rn_ixs (x := (.tmp 39)) (y := (.tmp 43)) R rfl p28 rfl Try.underlying123 sz122 i28 j28) rfl fun a R => ?_
     obtain ⟨x45_30_0, cx45_30_0, x45_30_1, cx45_30_1, x45_30_2, cx45_30_2, x45_30_3, cx45_30_3, x45_30_4, cx45_30_4, h⟩ := h
     refine op_val R (rn_ldN (cs := [.int .i64 x45_30_0, .int .i64 x45_30_1, .string x45_30_2, .int .i64 x45_30_3, .int .i64 x45_30_4]) R rfl Try.underlying122 rfl sz122 ⟨cx45_30_0, cx45_30_1, cx45_30_2, cx45_30_3, cx45_30_4, trivial⟩) rfl fun a R => ?_
     obtain ⟨x7_31, e32, h⟩ := al_e h
     refine op_val (v := .pointer (some x7_31)) R (by rw [e32]; exact rn_al R ze122) rfl fun a R => ?_
     obtain ⟨q33, h⟩ := h
     refine op_unit R (rn_stN (vs := [.int .i64 x45_30_0, .int .i64 x45_30_1, .string x45_30_2, .int .i64 x45_30_3, .int .i64 x45_30_4]) R rfl rfl (ao ⟨rfl, rfl, rfl, rfl, rfl, trivial⟩) sz122 q33) fun a R => ?_
     refine wpList_nil ?_
     refine then_normal ?_
     refine wp_seq ?_
     refine wp_region_lit ?_
     refine omv R rfl rfl fun a R => ?_
     refine omv R rfl rfl fun a R => ?_
     refine op_val R (rn_bin (v := .int .i64 (Int.tmod z18_6 2)) R rfl rfl rfl) rfl fun a R => ?_
     obtain ⟨b35, x49_36, p35, i35, j35, e35, h⟩ := ix_e h
     refine op_val (v := .pointer (some x49_36)) R (by rw [e35]; exact rn_ixs (x := (.tmp 46)) (y := (.tmp 48)) R rfl p35 rfl Try.underlying123 sz122 i35 j35) rfl fun a R => ?_
     obtain ⟨x50_37_0, cx50_37_0, x50_37_1, cx50_37_1, x50_37_2, cx50_37_2, x50_37_3, cx50_37_3, x50_37_4, cx50_37_4, h⟩ := h
     refine op_val R (rn_ldN (cs := [.int .i64 x50_37_0, .int .i64 x50_37_1, .string x50_37_2, .int .i64 x50_37_3, .int .i64 x50_37_4]) R rfl Try.underlying122 rfl sz122 ⟨cx50_37_0, cx50_37_1, cx50_37_2, cx50_37_3, cx50_37_4, trivial⟩) rfl fun a R => ?_
     obtain ⟨x8_38, e39, h⟩ := al_e h
     refine op_val (v := .pointer (some x8_38)) R (by rw [e39]; exact rn_al R ze122) rfl fun a R => ?_
     obtain ⟨q40, h⟩ := h
     refine op_unit R (rn_stN (vs := [.int .i64 x50_37_0, .int .i64 x50_37_1, .string x50_37_2, .int .i64 x50_37_3, .int .i64 x50_37_4]) R rfl rfl (ao ⟨rfl, rfl, rfl, rfl, rfl, trivial⟩) sz122 q40) fun a R => ?_
     refine wpList_nil ?_
     refine then_normal ?_
     refine wp_seq ?_
     refine wp_region_lit ?_
     obtain ⟨x51_41_0, cx51_41_0, x51_41_1, cx51_41_1, x51_41_2, cx51_41_2, x51_41_3, cx51_41_3, x51_41_4, cx51_41_4, h⟩ := h
     refine op_val R (rn_ldN (cs := [.int .i64 x51_41_0, .int .i64 x51_41_1, .string x51_41_2, .int .i64 x51_41_3, .int .i64 x51_41_4]) R rfl Try.underlying122 rfl sz122 ⟨cx51_41_0, cx51_41_1, cx51_41_2, cx51_41_3, cx51_41_4, trivial⟩) rfl fun a R => ?_
     obtain ⟨x52_42_0, cx52_42_0, x52_42_1, cx52_42_1, x52_42_2, cx52_42_2, x52_42_3, cx52_42_3, x52_42_4, cx52_42_4, h⟩ := h
     refine op_val R (rn_ldN (cs := [.int .i64 x52_42_0, .int .i64 x52_42_1, .string x52_42_2, .int .i64 x52_42_3, .int .i64 x52_42_4]) R rfl Try.underlying122 rfl sz122 ⟨cx52_42_0, cx52_42_1, cx52_42_2, cx52_42_3, cx52_42_4, trivial⟩) rfl fun a R => ?_
     obtain ⟨x53_43, w44, kx53_43, cx53_43, h⟩ := h
     refine op_val R (rn_binR R rfl rfl kx53_43 cx53_43) rfl fun a R => ?_
     refine wpList_nil ?_
     refine then_normal ?_
     rcases ite_cases h with ⟨g45, h⟩ | ⟨g45, h⟩
     ·refine wp_condT R (congrArg (fun b => some (Value.bool b)) g45) ?_
      refine wp_seq ?_
      refine wp_region_lit ?_
      refine oas R rfl rfl fun a R => ?_
      refine wpList_nil ?_
      refine then_normal ?_
      refine wp_ret ?_
      refine block_ret ?_
      refine then_ret ?_
      refine then_ret ?_
      refine block_ret ?_
      refine block_ret ?_
      refine then_ret ?_
      refine then_ret ?_
      refine block_ret ?_
      refine then_ret ?_
      exact post_ret R rfl rfl ⟨false, rfl, h⟩
     ·refine wp_condF R (congrArg (fun b => some (Value.bool b)) g45) ?_
      refine wp_skip ?_
      refine block_normal ?_
      refine then_normal ?_
      refine wp_region_lit ?_
      refine omv R rfl rfl fun a R => ?_
      refine op_val R (rn_bin (v := .int .i64 (IntKind.i64.wrap (z18_6 + 1))) R rfl rfl rfl) rfl fun a R => ?_
      refine oas R rfl rfl fun a R => ?_
      refine wpList_nil ?_
      refine then_normal ?_
      exact hC (IntKind.i64.wrap (z18_6 + 1)) _ _ (R.weak ⟨rfl, rfl, rfl, rfl, rfl, trivial⟩) (by rw [← hK18] at h; exact h)
    ·refine wp_condF R (congrArg (fun b => some (Value.bool b)) g20) ?_
     refine wp_exit ?_
     refine then_exit ?_
     refine then_exit ?_
     refine block_eq ?_
     refine block_normal ?_
     refine then_normal ?_
     exact ⟨R.weak ⟨rfl, rfl, rfl, trivial⟩, h⟩
   ·rintro a w ⟨R, h⟩
    unfold levyroom_Room_holdTokens.k10 at h
    refine wp_region_lit ?_
    refine omv R rfl rfl fun a R => ?_
    refine op_val R (rn_bin (v := .int .i64 (IntKind.i64.wrap (z4_4 + 1))) R rfl rfl rfl) rfl fun a R => ?_
    refine oas R rfl rfl fun a R => ?_
    refine wpList_nil ?_
    refine then_normal ?_
    exact hC (IntKind.i64.wrap (z4_4 + 1)) _ _ (R.weak ⟨rfl, rfl, rfl, trivial⟩) (by rw [← hK4] at h; exact h)
  ·refine wp_condF R (congrArg (fun b => some (Value.bool b)) g9) ?_
   refine wp_exit ?_
   refine then_exit ?_
   refine then_exit ?_
   refine block_eq ?_
   refine then_normal ?_
   exact ⟨R.weak trivial, h⟩
 ·rintro a w ⟨R, h⟩
  unfold levyroom_Room_holdTokens.k3 at h
  refine wp_seq ?_
  refine wp_region_lit ?_
  refine oas R rfl rfl fun a R => ?_
  refine wpList_nil ?_
  refine then_normal ?_
  refine wp_ret ?_
  exact post_ret R rfl rfl ⟨true, rfl, h⟩
theorem s_levyroom_Room_holdTokens (x0 : Option Addr) (Q : Bool → World → Prop) (w : World) (h : levyroom_Room_holdTokens x0 Q w) :
    Calls Try.prog 48 #[.pointer x0] w (Rets fun v w => ∃ r0 : Bool, v = (.bool r0 : Value) ∧ Q r0 w) :=
  calls_body (args := [.pointer x0]) Try.func48 rfl rfl (Nat.le_of_ble_eq_true rfl) (L := [(0, .pointer x0)]) (by simp [starts]) (b_levyroom_Room_holdTokens x0 Q w h rfl)

/-! (levyroom.Room).holdReads -/

def levyroom_Room_holdReads.k3  (Q : Bool → World → Prop) (w : World) : Prop :=
  Q true w

def levyroom_Room_holdReads.k10 (x0 : Option Addr) (x11_1 : Addr) (z4_4 : Int) (K4 : Int → World → Prop) (Q : Bool → World → Prop) (w : World) : Prop :=
  K4 (IntKind.i64.wrap (z4_4 + 1)) w

def levyroom_Room_holdReads.l18 (x0 : Option Addr) (x11_1 : Addr) (z4_4 : Int) (K4 : Int → World → Prop) (x27_16 : Sl) (z18_6 : Int) (Q : Bool → World → Prop) (K18 : Int → World → Prop) (w : World) : Prop :=
  (if (decide (z18_6 < 40)) = true then nn x0 fun x34_21 => ld Sl.val w (x34_21.add 8) fun x36_22 => ix x36_22.p x36_22.len z4_4 1 fun x38_24 => ld Sl.val w x38_24 fun x39_25 => ix x39_25.p x39_25.len (IntKind.i64.wrap ((IntKind.i64.wrap (((x27_16.len : Nat) : Int) - 40)) + z18_6)) 3 fun x44_29 => ld (Value.int .u32) w (x44_29.add 0) fun x45_30_0 => ld (Value.int .i64) w (x44_29.add 1) fun x45_30_1 => ld (Value.int .i64) w (x44_29.add 2) fun x45_30_2 => al w (.cells #[.int .u32 0, .int .i64 0, .int .i64 0] 125) fun x7_31 w => stN w x7_31 [.int .u32 x45_30_0, .int .i64 x45_30_1, .int .i64 x45_30_2] fun w => ix (some x11_1) 2 (Int.tmod z18_6 2) 3 fun x49_36 => ld (Value.int .u32) w (x49_36.add 0) fun x50_37_0 => ld (Value.int .i64) w (x49_36.add 1) fun x50_37_1 => ld (Value.int .i64) w (x49_36.add 2) fun x50_37_2 => al w (.cells #[.int .u32 0, .int .i64 0, .int .i64 0] 125) fun x8_38 w => stN w x8_38 [.int .u32 x50_37_0, .int .i64 x50_37_1, .int .i64 x50_37_2] fun w => ld (Value.int .u32) w (x7_31.add 0) fun x51_41_0 => ld (Value.int .i64) w (x7_31.add 1) fun x51_41_1 => ld (Value.int .i64) w (x7_31.add 2) fun x51_41_2 => ld (Value.int .u32) w (x8_38.add 0) fun x52_42_0 => ld (Value.int .i64) w (x8_38.add 1) fun x52_42_1 => ld (Value.int .i64) w (x8_38.add 2) fun x52_42_2 => rnb Try.prog (eqGuard .neq 125 (.tmp 51) (.tmp 52) (.agg #[.int .u32 x51_41_0, .int .i64 x51_41_1, .int .i64 x51_41_2]) (.agg #[.int .u32 x52_42_0, .int .i64 x52_42_1, .int .i64 x52_42_2])) (binOp .neq 125 (.agg #[.int .u32 x51_41_0, .int .i64 x51_41_1, .int .i64 x51_41_2]) (.agg #[.int .u32 x52_42_0, .int .i64 x52_42_1, .int .i64 x52_42_2])) w fun x53_43 w => (if x53_43 = true then Q false w else K18 (IntKind.i64.wrap (z18_6 + 1)) w) else levyroom_Room_holdReads.k10 x0 x11_1 z4_4 K4 Q w)

def levyroom_Room_holdReads.l4 (x0 : Option Addr) (x11_1 : Addr) (z4_4 : Int) (Q : Bool → World → Prop) (K4 : Int → World → Prop) (w : World) : Prop :=
  nn x0 fun x14_5 => ld Sl.val w (x14_5.add 8) fun x16_6 => (if (decide (z4_4 < ((x16_6.len : Nat) : Int))) = true then nn x0 fun x22_12 => ld Sl.val w (x22_12.add 8) fun x24_13 => ix x24_13.p x24_13.len z4_4 1 fun x26_15 => ld Sl.val w x26_15 fun x27_16 => (Fix (σ := Int) (fun Ks s w => levyroom_Room_holdReads.l18 x0 x11_1 z4_4 K4 x27_16 s Q (fun z18_6 w => Ks z18_6 w) w) 0 w) else levyroom_Room_holdReads.k3  Q w)

def levyroom_Room_holdReads (x0 : Option Addr) (Q : Bool → World → Prop) (w : World) : Prop :=
  al w (.cells #[.int .u32 7701, .int .i64 0, .int .i64 0, .int .u32 7702, .int .i64 0, .int .i64 0] 125) fun x11_1 w => (Fix (σ := Int) (fun Ks s w => levyroom_Room_holdReads.l4 x0 x11_1 s Q (fun z4_4 w => Ks z4_4 w) w) 0 w)

theorem b_levyroom_Room_holdReads (x0 : Option Addr) (Q : Bool → World → Prop) (w : World) (h : levyroom_Room_holdReads x0 Q w) {c : Code} (hb : Try.f49.body = some c) :
 ∀ a, Rep a 54 [(0, .pointer x0)] [] → c.wp Try.prog (bodyPost Try.prog Try.f49 (Rets fun v w => ∃ r0 : Bool, v = (.bool r0 : Value) ∧ Q r0 w)) a w := by
 intro a R
 obtain rfl := Option.some.inj hb
 unfold levyroom_Room_holdReads at h
 refine wp_seq ?_
 refine wp_region_lit ?_
 refine oas R rfl rfl fun a R => ?_
 refine wpList_nil ?_
 refine then_normal ?_
 refine wp_seq ?_
 refine wp_region_lit ?_
 refine op_val R (rn_build (r := .agg #[.int .u32 7701, .int .i64 0, .int .i64 0]) R rfl (fun w => by kernel_rfl)) rfl fun a R => ?_
 refine op_val R (rn_build (r := .agg #[.int .u32 7702, .int .i64 0, .int .i64 0]) R rfl (fun w => by kernel_rfl)) rfl fun a R => ?_
 obtain ⟨x11_1, e2, h⟩ := al_e h
 refine op_val (v := .slice (some x11_1) 2 2) R (by rw [e2]; exact rn_buildSlice (t := 126) (len := 2) (xs := [(0, (.tmp 9)), (1, (.tmp 10))]) (cells := #[.int .u32 7701, .int .i64 0, .int .i64 0, .int .u32 7702, .int .i64 0, .int .i64 0]) (e := 125) R rfl (fun w => by kernel_rfl)) rfl fun a R => ?_
 refine oas R rfl rfl fun a R => ?_
 refine wpList_nil ?_
 refine then_normal ?_
 refine seq_join (fun a w => Rep a 54 [] [] ∧ levyroom_Room_holdReads.k3  Q w) ?_ ?_
 ·refine wp_seq ?_
  refine wp_region_lit ?_
  refine oas R rfl rfl fun a R => ?_
  refine wpList_nil ?_
  refine then_normal ?_
  refine wp_block ?_
  refine wp_fix (σ := Int) (fun s a => Rep a 54 [(0, .pointer x0), (3, .slice (some x11_1) 2 2), (4, .int .i64 s)] []) h (R.weak ⟨rfl, rfl, rfl, trivial⟩) ?_
  rintro Ks C z4_4 a w hC R h
  have R : Rep a 54 [(0, .pointer x0), (3, .slice (some x11_1) 2 2), (4, .int .i64 z4_4)] [] := R
  have h : levyroom_Room_holdReads.l4 x0 x11_1 z4_4 Q (fun z4_4 w => Ks z4_4 w) w := h
  generalize hK4 : (fun z4_4 w => Ks z4_4 w) = K4 at h
  unfold levyroom_Room_holdReads.l4 at h
  refine wp_seq ?_
  refine wp_seq ?_
  refine wp_region_lit ?_
  refine omv R rfl rfl fun a R => ?_
  refine omv R rfl rfl fun a R => ?_
  obtain ⟨x14_5, cx14_5, h⟩ := h
  refine onl R rfl cx14_5 rfl fun a R => ?_
  refine ofd R rfl fd65_8 rfl fun a R => ?_
  obtain ⟨x16_6, cx16_6, h⟩ := h
  refine old R rfl Try.underlying51 rfl cx16_6 rfl fun a R => ?_
  refine op_val R (rn_len R rfl Try.underlying51) rfl fun a R => ?_
  refine op_val R (rn_bin (v := .bool (decide (z4_4 < ((x16_6.len : Nat) : Int)))) R rfl rfl rfl) rfl fun a R => ?_
  refine wpList_nil ?_
  refine then_normal ?_
  rcases ite_cases h with ⟨g9, h⟩ | ⟨g9, h⟩
  ·refine wp_condT R (congrArg (fun b => some (Value.bool b)) g9) ?_
   refine wp_skip ?_
   refine then_normal ?_
   refine seq_join (fun a w => Rep a 54 [(0, .pointer x0), (3, .slice (some x11_1) 2 2), (4, .int .i64 z4_4)] [] ∧ levyroom_Room_holdReads.k10 x0 x11_1 z4_4 K4 Q w) ?_ ?_
   ·refine wp_block ?_
    refine wp_seq ?_
    refine wp_region_lit ?_
    refine omv R rfl rfl fun a R => ?_
    obtain ⟨x22_12, cx22_12, h⟩ := h
    refine onl R rfl cx22_12 rfl fun a R => ?_
    refine ofd R rfl fd65_8 rfl fun a R => ?_
    obtain ⟨x24_13, cx24_13, h⟩ := h
    refine old R rfl Try.underlying51 rfl cx24_13 rfl fun a R => ?_
    refine omv R rfl rfl fun a R => ?_
    obtain ⟨b14, x26_15, p14, i14, j14, e14, h⟩ := ix_e h
    refine op_val (v := .pointer (some x26_15)) R (by rw [e14]; exact rn_ixs (x := (.tmp 24)) (y := (.tmp 25)) R rfl p14 rfl Try.underlying51 sz126 i14 j14) rfl fun a R => ?_
    obtain ⟨x27_16, cx27_16, h⟩ := h
    refine old R rfl Try.underlying126 rfl cx27_16 rfl fun a R => ?_
    refine op_val R (rn_len R rfl Try.underlying126) rfl fun a R => ?_
    refine oas R rfl rfl fun a R => ?_
    refine wpList_nil ?_
    refine then_normal ?_
    refine wp_seq ?_
    refine wp_region_lit ?_
    refine oas R rfl rfl fun a R => ?_
    refine wpList_nil ?_
    refine then_normal ?_
    refine wp_block ?_
    refine wp_fix (σ := Int) (fun s a => Rep a 54 [(0, .pointer x0), (3, .slice (some x11_1) 2 2), (4, .int .i64 z4_4), (5, .int .i64 ((x27_16.len : Nat) : Int)), (6, .int .i64 s)] []) h (R.weak ⟨rfl, rfl, rfl, rfl, rfl, trivial⟩) ?_
    rintro Ks C z18_6 a w hC R h
    have R : Rep a 54 [(0, .pointer x0), (3, .slice (some x11_1) 2 2), (4, .int .i64 z4_4), (5, .int .i64 ((x27_16.len : Nat) : Int)), (6, .int .i64 z18_6)] [] := R
    have h : levyroom_Room_holdReads.l18 x0 x11_1 z4_4 K4 x27_16 z18_6 Q (fun z18_6 w => Ks z18_6 w) w := h
    generalize hK18 : (fun z18_6 w => Ks z18_6 w) = K18 at h
    unfold levyroom_Room_holdReads.l18 at h
    refine wp_seq ?_
    refine wp_seq ?_
    refine wp_region_lit ?_
    refine omv R rfl rfl fun a R => ?_
    refine op_val R (rn_bin (v := .bool (decide (z18_6 < 40))) R rfl rfl rfl) rfl fun a R => ?_
    refine wpList_nil ?_
    refine then_normal ?_
    rcases ite_cases h with ⟨g20, h⟩ | ⟨g20, h⟩
    ·refine wp_condT R (congrArg (fun b => some (Value.bool b)) g20) ?_
     refine wp_skip ?_
     refine then_normal ?_
     refine wp_seq ?_
     refine wp_block ?_
     refine wp_seq ?_
     refine wp_region_lit ?_
     refine omv R rfl rfl fun a R => ?_
     obtain ⟨x34_21, cx34_21, h⟩ := h
     refine onl R rfl cx34_21 rfl fun a R => ?_
     refine ofd R rfl fd65_8 rfl fun a R => ?_
     obtain ⟨x36_22, cx36_22, h⟩ := h
     refine old R rfl Try.underlying51 rfl cx36_22 rfl fun a R => ?_
     refine omv R rfl rfl fun a R => ?_
     obtain ⟨b23, x38_24, p23, i23, j23, e23, h⟩ := ix_e h
     refine op_val (v := .pointer (some x38_24)) R (by rw [e23]; exact rn_ixs (x := (.tmp 36)) (y := (.tmp 37)) R rfl p23 rfl Try.underlying51 sz126 i23 j23) rfl fun a R => ?_
     obtain ⟨x39_25, cx39_25, h⟩ := h
     refine old R rfl Try.underlying126 rfl cx39_25 rfl fun a R => ?_
     refine omv R rfl rfl fun a R => ?_
     refine op_val R (rn_bin (v := .int .i64 (IntKind.i64.wrap (((x27_16.len : Nat) : Int) - 40))) R rfl rfl rfl) rfl fun a R => ?_
     refine omv R rfl rfl fun a R => ?_
     refine op_val R (rn_bin (v := .int .i64 (IntKind.i64.wrap ((IntKind.i64.wrap (((x27_16.len : Nat) : Int) - 40)) + z18_6))) R rfl rfl rfl) rfl fun a R => ?_
     obtain ⟨b28, x44_29, p28, i28, j28, e28, h⟩ := ix_e h
     refine op_val (v := .pointer (some x44_29)) R (by rw [e28]; exact rn_ixs (x := (.tmp 39)) (y := (.tmp 43)) R rfl p28 rfl Try.underlying126 sz125 i28 j28) rfl fun a R => ?_
     obtain ⟨x45_30_0, cx45_30_0, x45_30_1, cx45_30_1, x45_30_2, cx45_30_2, h⟩ := h
     refine op_val R (rn_ldN (cs := [.int .u32 x45_30_0, .int .i64 x45_30_1, .int .i64 x45_30_2]) R rfl Try.underlying125 rfl sz125 ⟨cx45_30_0, cx45_30_1, cx45_30_2, trivial⟩) rfl fun a R => ?_
     obtain ⟨x7_31, e32, h⟩ := al_e h
     refine op_val (v := .pointer (some x7_31)) R (by rw [e32]; exact rn_al R ze125) rfl fun a R => ?_
     obtain ⟨q33, h⟩ := h
     refine op_unit R (rn_stN (vs := [.int .u32 x45_30_0, .int .i64 x45_30_1, .int .i64 x45_30_2]) R rfl rfl (ao ⟨rfl, rfl, rfl, trivial⟩) sz125 q33) fun a R => ?_
     refine wpList_nil ?_
     refine then_normal ?_
     refine wp_seq ?_
     refine wp_region_lit ?_
     refine omv R rfl rfl fun a R => ?_
     refine omv R rfl rfl fun a R => ?_
     refine op_val R (rn_bin (v := .int .i64 (Int.tmod z18_6 2)) R rfl rfl rfl) rfl fun a R => ?_
     obtain ⟨b35, x49_36, p35, i35, j35, e35, h⟩ := ix_e h
     refine op_val (v := .pointer (some x49_36)) R (by rw [e35]; exact rn_ixs (x := (.tmp 46)) (y := (.tmp 48)) R rfl p35 rfl Try.underlying126 sz125 i35 j35) rfl fun a R => ?_
     obtain ⟨x50_37_0, cx50_37_0, x50_37_1, cx50_37_1, x50_37_2, cx50_37_2, h⟩ := h
     refine op_val R (rn_ldN (cs := [.int .u32 x50_37_0, .int .i64 x50_37_1, .int .i64 x50_37_2]) R rfl Try.underlying125 rfl sz125 ⟨cx50_37_0, cx50_37_1, cx50_37_2, trivial⟩) rfl fun a R => ?_
     obtain ⟨x8_38, e39, h⟩ := al_e h
     refine op_val (v := .pointer (some x8_38)) R (by rw [e39]; exact rn_al R ze125) rfl fun a R => ?_
     obtain ⟨q40, h⟩ := h
     refine op_unit R (rn_stN (vs := [.int .u32 x50_37_0, .int .i64 x50_37_1, .int .i64 x50_37_2]) R rfl rfl (ao ⟨rfl, rfl, rfl, trivial⟩) sz125 q40) fun a R => ?_
     refine wpList_nil ?_
     refine then_normal ?_
     refine wp_seq ?_
     refine wp_region_lit ?_
     obtain ⟨x51_41_0, cx51_41_0, x51_41_1, cx51_41_1, x51_41_2, cx51_41_2, h⟩ := h
     refine op_val R (rn_ldN (cs := [.int .u32 x51_41_0, .int .i64 x51_41_1, .int .i64 x51_41_2]) R rfl Try.underlying125 rfl sz125 ⟨cx51_41_0, cx51_41_1, cx51_41_2, trivial⟩) rfl fun a R => ?_
     obtain ⟨x52_42_0, cx52_42_0, x52_42_1, cx52_42_1, x52_42_2, cx52_42_2, h⟩ := h
     refine op_val R (rn_ldN (cs := [.int .u32 x52_42_0, .int .i64 x52_42_1, .int .i64 x52_42_2]) R rfl Try.underlying125 rfl sz125 ⟨cx52_42_0, cx52_42_1, cx52_42_2, trivial⟩) rfl fun a R => ?_
     obtain ⟨x53_43, w44, kx53_43, cx53_43, h⟩ := h
     refine op_val R (rn_binR R rfl rfl kx53_43 cx53_43) rfl fun a R => ?_
     refine wpList_nil ?_
     refine then_normal ?_
     rcases ite_cases h with ⟨g45, h⟩ | ⟨g45, h⟩
     ·refine wp_condT R (congrArg (fun b => some (Value.bool b)) g45) ?_
      refine wp_seq ?_
      refine wp_region_lit ?_
      refine oas R rfl rfl fun a R => ?_
      refine wpList_nil ?_
      refine then_normal ?_
      refine wp_ret ?_
      refine block_ret ?_
      refine then_ret ?_
      refine then_ret ?_
      refine block_ret ?_
      refine block_ret ?_
      refine then_ret ?_
      refine then_ret ?_
      refine block_ret ?_
      refine then_ret ?_
      exact post_ret R rfl rfl ⟨false, rfl, h⟩
     ·refine wp_condF R (congrArg (fun b => some (Value.bool b)) g45) ?_
      refine wp_skip ?_
      refine block_normal ?_
      refine then_normal ?_
      refine wp_region_lit ?_
      refine omv R rfl rfl fun a R => ?_
      refine op_val R (rn_bin (v := .int .i64 (IntKind.i64.wrap (z18_6 + 1))) R rfl rfl rfl) rfl fun a R => ?_
      refine oas R rfl rfl fun a R => ?_
      refine wpList_nil ?_
      refine then_normal ?_
      exact hC (IntKind.i64.wrap (z18_6 + 1)) _ _ (R.weak ⟨rfl, rfl, rfl, rfl, rfl, trivial⟩) (by rw [← hK18] at h; exact h)
    ·refine wp_condF R (congrArg (fun b => some (Value.bool b)) g20) ?_
     refine wp_exit ?_
     refine then_exit ?_
     refine then_exit ?_
     refine block_eq ?_
     refine block_normal ?_
     refine then_normal ?_
     exact ⟨R.weak ⟨rfl, rfl, rfl, trivial⟩, h⟩
   ·rintro a w ⟨R, h⟩
    unfold levyroom_Room_holdReads.k10 at h
    refine wp_region_lit ?_
    refine omv R rfl rfl fun a R => ?_
    refine op_val R (rn_bin (v := .int .i64 (IntKind.i64.wrap (z4_4 + 1))) R rfl rfl rfl) rfl fun a R => ?_
    refine oas R rfl rfl fun a R => ?_
    refine wpList_nil ?_
    refine then_normal ?_
    exact hC (IntKind.i64.wrap (z4_4 + 1)) _ _ (R.weak ⟨rfl, rfl, rfl, trivial⟩) (by rw [← hK4] at h; exact h)
  ·refine wp_condF R (congrArg (fun b => some (Value.bool b)) g9) ?_
   refine wp_exit ?_
   refine then_exit ?_
   refine then_exit ?_
   refine block_eq ?_
   refine then_normal ?_
   exact ⟨R.weak trivial, h⟩
 ·rintro a w ⟨R, h⟩
  unfold levyroom_Room_holdReads.k3 at h
  refine wp_seq ?_
  refine wp_region_lit ?_
  refine oas R rfl rfl fun a R => ?_
  refine wpList_nil ?_
  refine then_normal ?_
  refine wp_ret ?_
  exact post_ret R rfl rfl ⟨true, rfl, h⟩
theorem s_levyroom_Room_holdReads (x0 : Option Addr) (Q : Bool → World → Prop) (w : World) (h : levyroom_Room_holdReads x0 Q w) :
    Calls Try.prog 49 #[.pointer x0] w (Rets fun v w => ∃ r0 : Bool, v = (.bool r0 : Value) ∧ Q r0 w) :=
  calls_body (args := [.pointer x0]) Try.func49 rfl rfl (Nat.le_of_ble_eq_true rfl) (L := [(0, .pointer x0)]) (by simp [starts]) (b_levyroom_Room_holdReads x0 Q w h rfl)

end Go.Proofs.Ytjnifnlkicajhaa.Fs
