/-
  Written by a program of this claim (wip/gen/gen.py): what each Go function asks of the world, as a plain predicate, and that it is enough. No condition is put on any statement here.
-/
import Derived.Test.YtjnifnlkicajhaaVcDraw
import Derived.Test.YtjnifnlkicajhaaFacts
import Derived.Test.YtjnifnlkicajhaaG2
set_option linter.unusedVariables false
set_option maxRecDepth 100000
set_option maxHeartbeats 2000000
namespace Go.Proofs.Ytjnifnlkicajhaa.Fs
open Go Vc

/-! (levyroom.Room).Hold -/

def levyroom_Room_Hold.k4 (y4_2 : Bool) (Q : Bool → World → Prop) (w : World) : Prop :=
  Q y4_2 w

def levyroom_Room_Hold.k3 (y1_3 : Bool) (y2_4 : Bool) (y3_5 : Bool) (Q : Bool → World → Prop) (w : World) : Prop :=
  (if y1_3 = true then (if y2_4 = true then levyroom_Room_Hold.k4 y3_5 Q w else levyroom_Room_Hold.k4 false Q w) else levyroom_Room_Hold.k4 false Q w)

def levyroom_Room_Hold.k2 (x0 : Option Addr) (y1_3 : Bool) (y2_4 : Bool) (Q : Bool → World → Prop) (w : World) : Prop :=
  levyroom_Room_holdExprs x0 (fun x59_7_0 w => (if x59_7_0 = true then levyroom_Room_holdClauses x0 (fun x62_9_0 w => (if x62_9_0 = true then levyroom_Room_holdLines x0 (fun x66_11_0 w => (if x66_11_0 = true then levyroom_Room_holdChecks x0 (fun x70_13_0 w => (if x70_13_0 = true then levyroom_Room_holdOptions x0 (fun x74_15_0 w => (if x74_15_0 = true then levyroom_Room_holdTables x0 (fun x78_17_0 w => (if x78_17_0 = true then levyroom_Room_holdGroups x0 (fun x82_19_0 w => levyroom_Room_Hold.k3 y1_3 y2_4 x82_19_0 Q w) w else levyroom_Room_Hold.k3 y1_3 y2_4 false Q w)) w else levyroom_Room_Hold.k3 y1_3 y2_4 false Q w)) w else levyroom_Room_Hold.k3 y1_3 y2_4 false Q w)) w else levyroom_Room_Hold.k3 y1_3 y2_4 false Q w)) w else levyroom_Room_Hold.k3 y1_3 y2_4 false Q w)) w else levyroom_Room_Hold.k3 y1_3 y2_4 false Q w)) w

def levyroom_Room_Hold.k1 (x0 : Option Addr) (y1_3 : Bool) (Q : Bool → World → Prop) (w : World) : Prop :=
  levyroom_Room_holdTokens x0 (fun x33_27_0 w => (if x33_27_0 = true then levyroom_Room_holdReads x0 (fun x36_29_0 w => (if x36_29_0 = true then levyroom_Room_holdConflicts x0 (fun x40_31_0 w => (if x40_31_0 = true then levyroom_Room_holdPoints x0 (fun x44_33_0 w => (if x44_33_0 = true then levyroom_Room_holdNodes x0 (fun x48_35_0 w => (if x48_35_0 = true then levyroom_Room_holdRecords x0 (fun x52_37_0 w => (if x52_37_0 = true then levyroom_Room_holdFiles x0 (fun x56_39_0 w => levyroom_Room_Hold.k2 x0 y1_3 x56_39_0 Q w) w else levyroom_Room_Hold.k2 x0 y1_3 false Q w)) w else levyroom_Room_Hold.k2 x0 y1_3 false Q w)) w else levyroom_Room_Hold.k2 x0 y1_3 false Q w)) w else levyroom_Room_Hold.k2 x0 y1_3 false Q w)) w else levyroom_Room_Hold.k2 x0 y1_3 false Q w)) w else levyroom_Room_Hold.k2 x0 y1_3 false Q w)) w

def levyroom_Room_Hold (x0 : Option Addr) (Q : Bool → World → Prop) (w : World) : Prop :=
  levyroom_Room_holdBytes x0 (fun x7_47_0 w => (if x7_47_0 = true then levyroom_Room_holdInts x0 (fun x10_49_0 w => (if x10_49_0 = true then levyroom_Room_holdCells x0 (fun x14_51_0 w => (if x14_51_0 = true then levyroom_Room_holdBools x0 (fun x18_53_0 w => (if x18_53_0 = true then levyroom_Room_holdTexts x0 (fun x22_55_0 w => (if x22_55_0 = true then levyroom_Room_holdValues x0 (fun x26_57_0 w => (if x26_57_0 = true then levyroom_Room_holdBands x0 (fun x30_59_0 w => levyroom_Room_Hold.k1 x0 x30_59_0 Q w) w else levyroom_Room_Hold.k1 x0 false Q w)) w else levyroom_Room_Hold.k1 x0 false Q w)) w else levyroom_Room_Hold.k1 x0 false Q w)) w else levyroom_Room_Hold.k1 x0 false Q w)) w else levyroom_Room_Hold.k1 x0 false Q w)) w else levyroom_Room_Hold.k1 x0 false Q w)) w

theorem b_levyroom_Room_Hold (x0 : Option Addr) (Q : Bool → World → Prop) (w : World) (h : levyroom_Room_Hold x0 Q w) {c : Code} (hb : Try.f12.body = some c) :
 ∀ a, Rep a 91 [(0, .pointer x0)] [] → c.wp Try.prog (bodyPost Try.prog Try.f12 (Rets fun v w => ∃ r0 : Bool, v = (.bool r0 : Value) ∧ Q r0 w)) a w := by
 intro a R
 obtain rfl := Option.some.inj hb
 unfold levyroom_Room_Hold at h
 refine wp_seq ?_
 refine wp_region_lit ?_
 refine oas R rfl rfl fun a R => ?_
 refine wpList_nil ?_
 refine then_normal ?_
 refine seq_join (fun a w => ∃ y1_3 : Bool, Rep a 91 [(0, .pointer x0), (3, .bool y1_3)] [] ∧ levyroom_Room_Hold.k1 x0 y1_3 Q w) ?_ ?_
 ·refine wp_region_lit ?_
  refine omv R rfl rfl fun a R => ?_
  refine op_call R (rn_calls R rfl cf41) rfl ?_
  refine call_mono (s_levyroom_Room_holdBytes _ _ _ h) ?_
  rintro _ w66 ⟨x7_47_0, rfl, h⟩ a R
  refine omv R rfl rfl fun a R => ?_
  rcases ite_cases h with ⟨g48, h⟩ | ⟨g48, h⟩
  ·refine op_guard R rfl rfl rfl g48 ?_
   refine omv R rfl rfl fun a R => ?_
   refine op_guard R rfl rfl rfl g48 ?_
   refine op_call R (rn_calls R rfl cf42) rfl ?_
   refine call_mono (s_levyroom_Room_holdInts _ _ _ h) ?_
   rintro _ w65 ⟨x10_49_0, rfl, h⟩ a R
   refine op_val R (rn_pickT R rfl g48 rfl) rfl fun a R => ?_
   refine omv R rfl rfl fun a R => ?_
   rcases ite_cases h with ⟨g50, h⟩ | ⟨g50, h⟩
   ·refine op_guard R rfl rfl rfl g50 ?_
    refine omv R rfl rfl fun a R => ?_
    refine op_guard R rfl rfl rfl g50 ?_
    refine op_call R (rn_calls R rfl cf43) rfl ?_
    refine call_mono (s_levyroom_Room_holdCells _ _ _ h) ?_
    rintro _ w64 ⟨x14_51_0, rfl, h⟩ a R
    refine op_val R (rn_pickT R rfl g50 rfl) rfl fun a R => ?_
    refine omv R rfl rfl fun a R => ?_
    rcases ite_cases h with ⟨g52, h⟩ | ⟨g52, h⟩
    ·refine op_guard R rfl rfl rfl g52 ?_
     refine omv R rfl rfl fun a R => ?_
     refine op_guard R rfl rfl rfl g52 ?_
     refine op_call R (rn_calls R rfl cf44) rfl ?_
     refine call_mono (s_levyroom_Room_holdBools _ _ _ h) ?_
     rintro _ w63 ⟨x18_53_0, rfl, h⟩ a R
     refine op_val R (rn_pickT R rfl g52 rfl) rfl fun a R => ?_
     refine omv R rfl rfl fun a R => ?_
     rcases ite_cases h with ⟨g54, h⟩ | ⟨g54, h⟩
     ·refine op_guard R rfl rfl rfl g54 ?_
      refine omv R rfl rfl fun a R => ?_
      refine op_guard R rfl rfl rfl g54 ?_
      refine op_call R (rn_calls R rfl cf45) rfl ?_
      refine call_mono (s_levyroom_Room_holdTexts _ _ _ h) ?_
      rintro _ w62 ⟨x22_55_0, rfl, h⟩ a R
      refine op_val R (rn_pickT R rfl g54 rfl) rfl fun a R => ?_
      refine omv R rfl rfl fun a R => ?_
      rcases ite_cases h with ⟨g56, h⟩ | ⟨g56, h⟩
      ·refine op_guard R rfl rfl rfl g56 ?_
       refine omv R rfl rfl fun a R => ?_
       refine op_guard R rfl rfl rfl g56 ?_
       refine op_call R (rn_calls R rfl cf46) rfl ?_
       refine call_mono (s_levyroom_Room_holdValues _ _ _ h) ?_
       rintro _ w61 ⟨x26_57_0, rfl, h⟩ a R
       refine op_val R (rn_pickT R rfl g56 rfl) rfl fun a R => ?_
       refine omv R rfl rfl fun a R => ?_
       rcases ite_cases h with ⟨g58, h⟩ | ⟨g58, h⟩
       ·refine op_guard R rfl rfl rfl g58 ?_
        refine omv R rfl rfl fun a R => ?_
        refine op_guard R rfl rfl rfl g58 ?_
        refine op_call R (rn_calls R rfl cf47) rfl ?_
        refine call_mono (s_levyroom_Room_holdBands _ _ _ h) ?_
        rintro _ w60 ⟨x30_59_0, rfl, h⟩ a R
        refine op_val R (rn_pickT R rfl g58 rfl) rfl fun a R => ?_
        refine oas R rfl rfl fun a R => ?_
        refine wpList_nil ?_
        refine then_normal ?_
        exact ⟨x30_59_0, R.weak ⟨rfl, rfl, trivial⟩, h⟩
       ·refine op_pass R rfl rfl rfl (ntf g58) (fun a R => ?_) (by intro s hs; cases hs; rfl)
        refine op_pass R rfl rfl rfl (ntf g58) (fun a R => ?_) (by intro s hs; cases hs; rfl)
        refine op_val R (rn_pickF R rfl g58 rfl) rfl fun a R => ?_
        refine oas R rfl rfl fun a R => ?_
        refine wpList_nil ?_
        refine then_normal ?_
        exact ⟨false, R.weak ⟨rfl, rfl, trivial⟩, h⟩
      ·refine op_pass R rfl rfl rfl (ntf g56) (fun a R => ?_) (by intro s hs; cases hs; rfl)
       refine op_pass R rfl rfl rfl (ntf g56) (fun a R => ?_) (by intro s hs; cases hs; rfl)
       refine op_val R (rn_pickF R rfl g56 rfl) rfl fun a R => ?_
       refine omv R rfl rfl fun a R => ?_
       refine op_pass R rfl rfl rfl (ntf rfl) (fun a R => ?_) (by intro s hs; cases hs; rfl)
       refine op_pass R rfl rfl rfl (ntf rfl) (fun a R => ?_) (by intro s hs; cases hs; rfl)
       refine op_val R (rn_pickF R rfl rfl rfl) rfl fun a R => ?_
       refine oas R rfl rfl fun a R => ?_
       refine wpList_nil ?_
       refine then_normal ?_
       exact ⟨false, R.weak ⟨rfl, rfl, trivial⟩, h⟩
     ·refine op_pass R rfl rfl rfl (ntf g54) (fun a R => ?_) (by intro s hs; cases hs; rfl)
      refine op_pass R rfl rfl rfl (ntf g54) (fun a R => ?_) (by intro s hs; cases hs; rfl)
      refine op_val R (rn_pickF R rfl g54 rfl) rfl fun a R => ?_
      refine omv R rfl rfl fun a R => ?_
      refine op_pass R rfl rfl rfl (ntf rfl) (fun a R => ?_) (by intro s hs; cases hs; rfl)
      refine op_pass R rfl rfl rfl (ntf rfl) (fun a R => ?_) (by intro s hs; cases hs; rfl)
      refine op_val R (rn_pickF R rfl rfl rfl) rfl fun a R => ?_
      refine omv R rfl rfl fun a R => ?_
      refine op_pass R rfl rfl rfl (ntf rfl) (fun a R => ?_) (by intro s hs; cases hs; rfl)
      refine op_pass R rfl rfl rfl (ntf rfl) (fun a R => ?_) (by intro s hs; cases hs; rfl)
      refine op_val R (rn_pickF R rfl rfl rfl) rfl fun a R => ?_
      refine oas R rfl rfl fun a R => ?_
      refine wpList_nil ?_
      refine then_normal ?_
      exact ⟨false, R.weak ⟨rfl, rfl, trivial⟩, h⟩
    ·refine op_pass R rfl rfl rfl (ntf g52) (fun a R => ?_) (by intro s hs; cases hs; rfl)
     refine op_pass R rfl rfl rfl (ntf g52) (fun a R => ?_) (by intro s hs; cases hs; rfl)
     refine op_val R (rn_pickF R rfl g52 rfl) rfl fun a R => ?_
     refine omv R rfl rfl fun a R => ?_
     refine op_pass R rfl rfl rfl (ntf rfl) (fun a R => ?_) (by intro s hs; cases hs; rfl)
     refine op_pass R rfl rfl rfl (ntf rfl) (fun a R => ?_) (by intro s hs; cases hs; rfl)
     refine op_val R (rn_pickF R rfl rfl rfl) rfl fun a R => ?_
     refine omv R rfl rfl fun a R => ?_
     refine op_pass R rfl rfl rfl (ntf rfl) (fun a R => ?_) (by intro s hs; cases hs; rfl)
     refine op_pass R rfl rfl rfl (ntf rfl) (fun a R => ?_) (by intro s hs; cases hs; rfl)
     refine op_val R (rn_pickF R rfl rfl rfl) rfl fun a R => ?_
     refine omv R rfl rfl fun a R => ?_
     refine op_pass R rfl rfl rfl (ntf rfl) (fun a R => ?_) (by intro s hs; cases hs; rfl)
     refine op_pass R rfl rfl rfl (ntf rfl) (fun a R => ?_) (by intro s hs; cases hs; rfl)
     refine op_val R (rn_pickF R rfl rfl rfl) rfl fun a R => ?_
     refine oas R rfl rfl fun a R => ?_
     refine wpList_nil ?_
     refine then_normal ?_
     exact ⟨false, R.weak ⟨rfl, rfl, trivial⟩, h⟩
   ·refine op_pass R rfl rfl rfl (ntf g50) (fun a R => ?_) (by intro s hs; cases hs; rfl)
    refine op_pass R rfl rfl rfl (ntf g50) (fun a R => ?_) (by intro s hs; cases hs; rfl)
    refine op_val R (rn_pickF R rfl g50 rfl) rfl fun a R => ?_
    refine omv R rfl rfl fun a R => ?_
    refine op_pass R rfl rfl rfl (ntf rfl) (fun a R => ?_) (by intro s hs; cases hs; rfl)
    refine op_pass R rfl rfl rfl (ntf rfl) (fun a R => ?_) (by intro s hs; cases hs; rfl)
    refine op_val R (rn_pickF R rfl rfl rfl) rfl fun a R => ?_
    refine omv R rfl rfl fun a R => ?_
    refine op_pass R rfl rfl rfl (ntf rfl) (fun a R => ?_) (by intro s hs; cases hs; rfl)
    refine op_pass R rfl rfl rfl (ntf rfl) (fun a R => ?_) (by intro s hs; cases hs; rfl)
    refine op_val R (rn_pickF R rfl rfl rfl) rfl fun a R => ?_
    refine omv R rfl rfl fun a R => ?_
    refine op_pass R rfl rfl rfl (ntf rfl) (fun a R => ?_) (by intro s hs; cases hs; rfl)
    refine op_pass R rfl rfl rfl (ntf rfl) (fun a R => ?_) (by intro s hs; cases hs; rfl)
    refine op_val R (rn_pickF R rfl rfl rfl) rfl fun a R => ?_
    refine omv R rfl rfl fun a R => ?_
    refine op_pass R rfl rfl rfl (ntf rfl) (fun a R => ?_) (by intro s hs; cases hs; rfl)
    refine op_pass R rfl rfl rfl (ntf rfl) (fun a R => ?_) (by intro s hs; cases hs; rfl)
    refine op_val R (rn_pickF R rfl rfl rfl) rfl fun a R => ?_
    refine oas R rfl rfl fun a R => ?_
    refine wpList_nil ?_
    refine then_normal ?_
    exact ⟨false, R.weak ⟨rfl, rfl, trivial⟩, h⟩
  ·refine op_pass R rfl rfl rfl (ntf g48) (fun a R => ?_) (by intro s hs; cases hs; rfl)
   refine op_pass R rfl rfl rfl (ntf g48) (fun a R => ?_) (by intro s hs; cases hs; rfl)
   refine op_val R (rn_pickF R rfl g48 rfl) rfl fun a R => ?_
   refine omv R rfl rfl fun a R => ?_
   refine op_pass R rfl rfl rfl (ntf rfl) (fun a R => ?_) (by intro s hs; cases hs; rfl)
   refine op_pass R rfl rfl rfl (ntf rfl) (fun a R => ?_) (by intro s hs; cases hs; rfl)
   refine op_val R (rn_pickF R rfl rfl rfl) rfl fun a R => ?_
   refine omv R rfl rfl fun a R => ?_
   refine op_pass R rfl rfl rfl (ntf rfl) (fun a R => ?_) (by intro s hs; cases hs; rfl)
   refine op_pass R rfl rfl rfl (ntf rfl) (fun a R => ?_) (by intro s hs; cases hs; rfl)
   refine op_val R (rn_pickF R rfl rfl rfl) rfl fun a R => ?_
   refine omv R rfl rfl fun a R => ?_
   refine op_pass R rfl rfl rfl (ntf rfl) (fun a R => ?_) (by intro s hs; cases hs; rfl)
   refine op_pass R rfl rfl rfl (ntf rfl) (fun a R => ?_) (by intro s hs; cases hs; rfl)
   refine op_val R (rn_pickF R rfl rfl rfl) rfl fun a R => ?_
   refine omv R rfl rfl fun a R => ?_
   refine op_pass R rfl rfl rfl (ntf rfl) (fun a R => ?_) (by intro s hs; cases hs; rfl)
   refine op_pass R rfl rfl rfl (ntf rfl) (fun a R => ?_) (by intro s hs; cases hs; rfl)
   refine op_val R (rn_pickF R rfl rfl rfl) rfl fun a R => ?_
   refine omv R rfl rfl fun a R => ?_
   refine op_pass R rfl rfl rfl (ntf rfl) (fun a R => ?_) (by intro s hs; cases hs; rfl)
   refine op_pass R rfl rfl rfl (ntf rfl) (fun a R => ?_) (by intro s hs; cases hs; rfl)
   refine op_val R (rn_pickF R rfl rfl rfl) rfl fun a R => ?_
   refine oas R rfl rfl fun a R => ?_
   refine wpList_nil ?_
   refine then_normal ?_
   exact ⟨false, R.weak ⟨rfl, rfl, trivial⟩, h⟩
 ·rintro a w ⟨y1_3, R, h⟩
  unfold levyroom_Room_Hold.k1 at h
  refine seq_join (fun a w => ∃ y2_4 : Bool, Rep a 91 [(0, .pointer x0), (3, .bool y1_3), (4, .bool y2_4)] [] ∧ levyroom_Room_Hold.k2 x0 y1_3 y2_4 Q w) ?_ ?_
  ·refine wp_region_lit ?_
   refine omv R rfl rfl fun a R => ?_
   refine op_call R (rn_calls R rfl cf48) rfl ?_
   refine call_mono (s_levyroom_Room_holdTokens _ _ _ h) ?_
   rintro _ w46 ⟨x33_27_0, rfl, h⟩ a R
   refine omv R rfl rfl fun a R => ?_
   rcases ite_cases h with ⟨g28, h⟩ | ⟨g28, h⟩
   ·refine op_guard R rfl rfl rfl g28 ?_
    refine omv R rfl rfl fun a R => ?_
    refine op_guard R rfl rfl rfl g28 ?_
    refine op_call R (rn_calls R rfl cf49) rfl ?_
    refine call_mono (s_levyroom_Room_holdReads _ _ _ h) ?_
    rintro _ w45 ⟨x36_29_0, rfl, h⟩ a R
    refine op_val R (rn_pickT R rfl g28 rfl) rfl fun a R => ?_
    refine omv R rfl rfl fun a R => ?_
    rcases ite_cases h with ⟨g30, h⟩ | ⟨g30, h⟩
    ·refine op_guard R rfl rfl rfl g30 ?_
     refine omv R rfl rfl fun a R => ?_
     refine op_guard R rfl rfl rfl g30 ?_
     refine op_call R (rn_calls R rfl cf50) rfl ?_
     refine call_mono (s_levyroom_Room_holdConflicts _ _ _ h) ?_
     rintro _ w44 ⟨x40_31_0, rfl, h⟩ a R
     refine op_val R (rn_pickT R rfl g30 rfl) rfl fun a R => ?_
     refine omv R rfl rfl fun a R => ?_
     rcases ite_cases h with ⟨g32, h⟩ | ⟨g32, h⟩
     ·refine op_guard R rfl rfl rfl g32 ?_
      refine omv R rfl rfl fun a R => ?_
      refine op_guard R rfl rfl rfl g32 ?_
      refine op_call R (rn_calls R rfl cf51) rfl ?_
      refine call_mono (s_levyroom_Room_holdPoints _ _ _ h) ?_
      rintro _ w43 ⟨x44_33_0, rfl, h⟩ a R
      refine op_val R (rn_pickT R rfl g32 rfl) rfl fun a R => ?_
      refine omv R rfl rfl fun a R => ?_
      rcases ite_cases h with ⟨g34, h⟩ | ⟨g34, h⟩
      ·refine op_guard R rfl rfl rfl g34 ?_
       refine omv R rfl rfl fun a R => ?_
       refine op_guard R rfl rfl rfl g34 ?_
       refine op_call R (rn_calls R rfl cf52) rfl ?_
       refine call_mono (s_levyroom_Room_holdNodes _ _ _ h) ?_
       rintro _ w42 ⟨x48_35_0, rfl, h⟩ a R
       refine op_val R (rn_pickT R rfl g34 rfl) rfl fun a R => ?_
       refine omv R rfl rfl fun a R => ?_
       rcases ite_cases h with ⟨g36, h⟩ | ⟨g36, h⟩
       ·refine op_guard R rfl rfl rfl g36 ?_
        refine omv R rfl rfl fun a R => ?_
        refine op_guard R rfl rfl rfl g36 ?_
        refine op_call R (rn_calls R rfl cf53) rfl ?_
        refine call_mono (s_levyroom_Room_holdRecords _ _ _ h) ?_
        rintro _ w41 ⟨x52_37_0, rfl, h⟩ a R
        refine op_val R (rn_pickT R rfl g36 rfl) rfl fun a R => ?_
        refine omv R rfl rfl fun a R => ?_
        rcases ite_cases h with ⟨g38, h⟩ | ⟨g38, h⟩
        ·refine op_guard R rfl rfl rfl g38 ?_
         refine omv R rfl rfl fun a R => ?_
         refine op_guard R rfl rfl rfl g38 ?_
         refine op_call R (rn_calls R rfl cf54) rfl ?_
         refine call_mono (s_levyroom_Room_holdFiles _ _ _ h) ?_
         rintro _ w40 ⟨x56_39_0, rfl, h⟩ a R
         refine op_val R (rn_pickT R rfl g38 rfl) rfl fun a R => ?_
         refine oas R rfl rfl fun a R => ?_
         refine wpList_nil ?_
         refine then_normal ?_
         exact ⟨x56_39_0, R.weak ⟨rfl, rfl, rfl, trivial⟩, h⟩
        ·refine op_pass R rfl rfl rfl (ntf g38) (fun a R => ?_) (by intro s hs; cases hs; rfl)
         refine op_pass R rfl rfl rfl (ntf g38) (fun a R => ?_) (by intro s hs; cases hs; rfl)
         refine op_val R (rn_pickF R rfl g38 rfl) rfl fun a R => ?_
         refine oas R rfl rfl fun a R => ?_
         refine wpList_nil ?_
         refine then_normal ?_
         exact ⟨false, R.weak ⟨rfl, rfl, rfl, trivial⟩, h⟩
       ·refine op_pass R rfl rfl rfl (ntf g36) (fun a R => ?_) (by intro s hs; cases hs; rfl)
        refine op_pass R rfl rfl rfl (ntf g36) (fun a R => ?_) (by intro s hs; cases hs; rfl)
        refine op_val R (rn_pickF R rfl g36 rfl) rfl fun a R => ?_
        refine omv R rfl rfl fun a R => ?_
        refine op_pass R rfl rfl rfl (ntf rfl) (fun a R => ?_) (by intro s hs; cases hs; rfl)
        refine op_pass R rfl rfl rfl (ntf rfl) (fun a R => ?_) (by intro s hs; cases hs; rfl)
        refine op_val R (rn_pickF R rfl rfl rfl) rfl fun a R => ?_
        refine oas R rfl rfl fun a R => ?_
        refine wpList_nil ?_
        refine then_normal ?_
        exact ⟨false, R.weak ⟨rfl, rfl, rfl, trivial⟩, h⟩
      ·refine op_pass R rfl rfl rfl (ntf g34) (fun a R => ?_) (by intro s hs; cases hs; rfl)
       refine op_pass R rfl rfl rfl (ntf g34) (fun a R => ?_) (by intro s hs; cases hs; rfl)
       refine op_val R (rn_pickF R rfl g34 rfl) rfl fun a R => ?_
       refine omv R rfl rfl fun a R => ?_
       refine op_pass R rfl rfl rfl (ntf rfl) (fun a R => ?_) (by intro s hs; cases hs; rfl)
       refine op_pass R rfl rfl rfl (ntf rfl) (fun a R => ?_) (by intro s hs; cases hs; rfl)
       refine op_val R (rn_pickF R rfl rfl rfl) rfl fun a R => ?_
       refine omv R rfl rfl fun a R => ?_
       refine op_pass R rfl rfl rfl (ntf rfl) (fun a R => ?_) (by intro s hs; cases hs; rfl)
       refine op_pass R rfl rfl rfl (ntf rfl) (fun a R => ?_) (by intro s hs; cases hs; rfl)
       refine op_val R (rn_pickF R rfl rfl rfl) rfl fun a R => ?_
       refine oas R rfl rfl fun a R => ?_
       refine wpList_nil ?_
       refine then_normal ?_
       exact ⟨false, R.weak ⟨rfl, rfl, rfl, trivial⟩, h⟩
     ·refine op_pass R rfl rfl rfl (ntf g32) (fun a R => ?_) (by intro s hs; cases hs; rfl)
      refine op_pass R rfl rfl rfl (ntf g32) (fun a R => ?_) (by intro s hs; cases hs; rfl)
      refine op_val R (rn_pickF R rfl g32 rfl) rfl fun a R => ?_
      refine omv R rfl rfl fun a R => ?_
      refine op_pass R rfl rfl rfl (ntf rfl) (fun a R => ?_) (by intro s hs; cases hs; rfl)
      refine op_pass R rfl rfl rfl (ntf rfl) (fun a R => ?_) (by intro s hs; cases hs; rfl)
      refine op_val R (rn_pickF R rfl rfl rfl) rfl fun a R => ?_
      refine omv R rfl rfl fun a R => ?_
      refine op_pass R rfl rfl rfl (ntf rfl) (fun a R => ?_) (by intro s hs; cases hs; rfl)
      refine op_pass R rfl rfl rfl (ntf rfl) (fun a R => ?_) (by intro s hs; cases hs; rfl)
      refine op_val R (rn_pickF R rfl rfl rfl) rfl fun a R => ?_
      refine omv R rfl rfl fun a R => ?_
      refine op_pass R rfl rfl rfl (ntf rfl) (fun a R => ?_) (by intro s hs; cases hs; rfl)
      refine op_pass R rfl rfl rfl (ntf rfl) (fun a R => ?_) (by intro s hs; cases hs; rfl)
      refine op_val R (rn_pickF R rfl rfl rfl) rfl fun a R => ?_
      refine oas R rfl rfl fun a R => ?_
      refine wpList_nil ?_
      refine then_normal ?_
      exact ⟨false, R.weak ⟨rfl, rfl, rfl, trivial⟩, h⟩
    ·refine op_pass R rfl rfl rfl (ntf g30) (fun a R => ?_) (by intro s hs; cases hs; rfl)
     refine op_pass R rfl rfl rfl (ntf g30) (fun a R => ?_) (by intro s hs; cases hs; rfl)
     refine op_val R (rn_pickF R rfl g30 rfl) rfl fun a R => ?_
     refine omv R rfl rfl fun a R => ?_
     refine op_pass R rfl rfl rfl (ntf rfl) (fun a R => ?_) (by intro s hs; cases hs; rfl)
     refine op_pass R rfl rfl rfl (ntf rfl) (fun a R => ?_) (by intro s hs; cases hs; rfl)
     refine op_val R (rn_pickF R rfl rfl rfl) rfl fun a R => ?_
     refine omv R rfl rfl fun a R => ?_
     refine op_pass R rfl rfl rfl (ntf rfl) (fun a R => ?_) (by intro s hs; cases hs; rfl)
     refine op_pass R rfl rfl rfl (ntf rfl) (fun a R => ?_) (by intro s hs; cases hs; rfl)
     refine op_val R (rn_pickF R rfl rfl rfl) rfl fun a R => ?_
     refine omv R rfl rfl fun a R => ?_
     refine op_pass R rfl rfl rfl (ntf rfl) (fun a R => ?_) (by intro s hs; cases hs; rfl)
     refine op_pass R rfl rfl rfl (ntf rfl) (fun a R => ?_) (by intro s hs; cases hs; rfl)
     refine op_val R (rn_pickF R rfl rfl rfl) rfl fun a R => ?_
     refine omv R rfl rfl fun a R => ?_
     refine op_pass R rfl rfl rfl (ntf rfl) (fun a R => ?_) (by intro s hs; cases hs; rfl)
     refine op_pass R rfl rfl rfl (ntf rfl) (fun a R => ?_) (by intro s hs; cases hs; rfl)
     refine op_val R (rn_pickF R rfl rfl rfl) rfl fun a R => ?_
     refine oas R rfl rfl fun a R => ?_
     refine wpList_nil ?_
     refine then_normal ?_
     exact ⟨false, R.weak ⟨rfl, rfl, rfl, trivial⟩, h⟩
   ·refine op_pass R rfl rfl rfl (ntf g28) (fun a R => ?_) (by intro s hs; cases hs; rfl)
    refine op_pass R rfl rfl rfl (ntf g28) (fun a R => ?_) (by intro s hs; cases hs; rfl)
    refine op_val R (rn_pickF R rfl g28 rfl) rfl fun a R => ?_
    refine omv R rfl rfl fun a R => ?_
    refine op_pass R rfl rfl rfl (ntf rfl) (fun a R => ?_) (by intro s hs; cases hs; rfl)
    refine op_pass R rfl rfl rfl (ntf rfl) (fun a R => ?_) (by intro s hs; cases hs; rfl)
    refine op_val R (rn_pickF R rfl rfl rfl) rfl fun a R => ?_
    refine omv R rfl rfl fun a R => ?_
    refine op_pass R rfl rfl rfl (ntf rfl) (fun a R => ?_) (by intro s hs; cases hs; rfl)
    refine op_pass R rfl rfl rfl (ntf rfl) (fun a R => ?_) (by intro s hs; cases hs; rfl)
    refine op_val R (rn_pickF R rfl rfl rfl) rfl fun a R => ?_
    refine omv R rfl rfl fun a R => ?_
    refine op_pass R rfl rfl rfl (ntf rfl) (fun a R => ?_) (by intro s hs; cases hs; rfl)
    refine op_pass R rfl rfl rfl (ntf rfl) (fun a R => ?_) (by intro s hs; cases hs; rfl)
    refine op_val R (rn_pickF R rfl rfl rfl) rfl fun a R => ?_
    refine omv R rfl rfl fun a R => ?_
    refine op_pass R rfl rfl rfl (ntf rfl) (fun a R => ?_) (by intro s hs; cases hs; rfl)
    refine op_pass R rfl rfl rfl (ntf rfl) (fun a R => ?_) (by intro s hs; cases hs; rfl)
    refine op_val R (rn_pickF R rfl rfl rfl) rfl fun a R => ?_
    refine omv R rfl rfl fun a R => ?_
    refine op_pass R rfl rfl rfl (ntf rfl) (fun a R => ?_) (by intro s hs; cases hs; rfl)
    refine op_pass R rfl rfl rfl (ntf rfl) (fun a R => ?_) (by intro s hs; cases hs; rfl)
    refine op_val R (rn_pickF R rfl rfl rfl) rfl fun a R => ?_
    refine oas R rfl rfl fun a R => ?_
    refine wpList_nil ?_
    refine then_normal ?_
    exact ⟨false, R.weak ⟨rfl, rfl, rfl, trivial⟩, h⟩
  ·rintro a w ⟨y2_4, R, h⟩
   unfold levyroom_Room_Hold.k2 at h
   refine seq_join (fun a w => ∃ y3_5 : Bool, Rep a 91 [(3, .bool y1_3), (4, .bool y2_4), (5, .bool y3_5)] [] ∧ levyroom_Room_Hold.k3 y1_3 y2_4 y3_5 Q w) ?_ ?_
   ·refine wp_region_lit ?_
    refine omv R rfl rfl fun a R => ?_
    refine op_call R (rn_calls R rfl cf55) rfl ?_
    refine call_mono (s_levyroom_Room_holdExprs _ _ _ h) ?_
    rintro _ w26 ⟨x59_7_0, rfl, h⟩ a R
    refine omv R rfl rfl fun a R => ?_
    rcases ite_cases h with ⟨g8, h⟩ | ⟨g8, h⟩
    ·refine op_guard R rfl rfl rfl g8 ?_
     refine omv R rfl rfl fun a R => ?_
     refine op_guard R rfl rfl rfl g8 ?_
     refine op_call R (rn_calls R rfl cf56) rfl ?_
     refine call_mono (s_levyroom_Room_holdClauses _ _ _ h) ?_
     rintro _ w25 ⟨x62_9_0, rfl, h⟩ a R
     refine op_val R (rn_pickT R rfl g8 rfl) rfl fun a R => ?_
     refine omv R rfl rfl fun a R => ?_
     rcases ite_cases h with ⟨g10, h⟩ | ⟨g10, h⟩
     ·refine op_guard R rfl rfl rfl g10 ?_
      refine omv R rfl rfl fun a R => ?_
      refine op_guard R rfl rfl rfl g10 ?_
      refine op_call R (rn_calls R rfl cf57) rfl ?_
      refine call_mono (s_levyroom_Room_holdLines _ _ _ h) ?_
      rintro _ w24 ⟨x66_11_0, rfl, h⟩ a R
      refine op_val R (rn_pickT R rfl g10 rfl) rfl fun a R => ?_
      refine omv R rfl rfl fun a R => ?_
      rcases ite_cases h with ⟨g12, h⟩ | ⟨g12, h⟩
      ·refine op_guard R rfl rfl rfl g12 ?_
       refine omv R rfl rfl fun a R => ?_
       refine op_guard R rfl rfl rfl g12 ?_
       refine op_call R (rn_calls R rfl cf58) rfl ?_
       refine call_mono (s_levyroom_Room_holdChecks _ _ _ h) ?_
       rintro _ w23 ⟨x70_13_0, rfl, h⟩ a R
       refine op_val R (rn_pickT R rfl g12 rfl) rfl fun a R => ?_
       refine omv R rfl rfl fun a R => ?_
       rcases ite_cases h with ⟨g14, h⟩ | ⟨g14, h⟩
       ·refine op_guard R rfl rfl rfl g14 ?_
        refine omv R rfl rfl fun a R => ?_
        refine op_guard R rfl rfl rfl g14 ?_
        refine op_call R (rn_calls R rfl cf59) rfl ?_
        refine call_mono (s_levyroom_Room_holdOptions _ _ _ h) ?_
        rintro _ w22 ⟨x74_15_0, rfl, h⟩ a R
        refine op_val R (rn_pickT R rfl g14 rfl) rfl fun a R => ?_
        refine omv R rfl rfl fun a R => ?_
        rcases ite_cases h with ⟨g16, h⟩ | ⟨g16, h⟩
        ·refine op_guard R rfl rfl rfl g16 ?_
         refine omv R rfl rfl fun a R => ?_
         refine op_guard R rfl rfl rfl g16 ?_
         refine op_call R (rn_calls R rfl cf60) rfl ?_
         refine call_mono (s_levyroom_Room_holdTables _ _ _ h) ?_
         rintro _ w21 ⟨x78_17_0, rfl, h⟩ a R
         refine op_val R (rn_pickT R rfl g16 rfl) rfl fun a R => ?_
         refine omv R rfl rfl fun a R => ?_
         rcases ite_cases h with ⟨g18, h⟩ | ⟨g18, h⟩
         ·refine op_guard R rfl rfl rfl g18 ?_
          refine omv R rfl rfl fun a R => ?_
          refine op_guard R rfl rfl rfl g18 ?_
          refine op_call R (rn_calls R rfl cf61) rfl ?_
          refine call_mono (s_levyroom_Room_holdGroups _ _ _ h) ?_
          rintro _ w20 ⟨x82_19_0, rfl, h⟩ a R
          refine op_val R (rn_pickT R rfl g18 rfl) rfl fun a R => ?_
          refine oas R rfl rfl fun a R => ?_
          refine wpList_nil ?_
          refine then_normal ?_
          exact ⟨x82_19_0, R.weak ⟨rfl, rfl, rfl, trivial⟩, h⟩
         ·refine op_pass R rfl rfl rfl (ntf g18) (fun a R => ?_) (by intro s hs; cases hs; rfl)
          refine op_pass R rfl rfl rfl (ntf g18) (fun a R => ?_) (by intro s hs; cases hs; rfl)
          refine op_val R (rn_pickF R rfl g18 rfl) rfl fun a R => ?_
          refine oas R rfl rfl fun a R => ?_
          refine wpList_nil ?_
          refine then_normal ?_
          exact ⟨false, R.weak ⟨rfl, rfl, rfl, trivial⟩, h⟩
        ·refine op_pass R rfl rfl rfl (ntf g16) (fun a R => ?_) (by intro s hs; cases hs; rfl)
         refine op_pass R rfl rfl rfl (ntf g16) (fun a R => ?_) (by intro s hs; cases hs; rfl)
         refine op_val R (rn_pickF R rfl g16 rfl) rfl fun a R => ?_
         refine omv R rfl rfl fun a R => ?_
         refine op_pass R rfl rfl rfl (ntf rfl) (fun a R => ?_) (by intro s hs; cases hs; rfl)
         refine op_pass R rfl rfl rfl (ntf rfl) (fun a R => ?_) (by intro s hs; cases hs; rfl)
         refine op_val R (rn_pickF R rfl rfl rfl) rfl fun a R => ?_
         refine oas R rfl rfl fun a R => ?_
         refine wpList_nil ?_
         refine then_normal ?_
         exact ⟨false, R.weak ⟨rfl, rfl, rfl, trivial⟩, h⟩
       ·refine op_pass R rfl rfl rfl (ntf g14) (fun a R => ?_) (by intro s hs; cases hs; rfl)
        refine op_pass R rfl rfl rfl (ntf g14) (fun a R => ?_) (by intro s hs; cases hs; rfl)
        refine op_val R (rn_pickF R rfl g14 rfl) rfl fun a R => ?_
        refine omv R rfl rfl fun a R => ?_
        refine op_pass R rfl rfl rfl (ntf rfl) (fun a R => ?_) (by intro s hs; cases hs; rfl)
        refine op_pass R rfl rfl rfl (ntf rfl) (fun a R => ?_) (by intro s hs; cases hs; rfl)
        refine op_val R (rn_pickF R rfl rfl rfl) rfl fun a R => ?_
        refine omv R rfl rfl fun a R => ?_
        refine op_pass R rfl rfl rfl (ntf rfl) (fun a R => ?_) (by intro s hs; cases hs; rfl)
        refine op_pass R rfl rfl rfl (ntf rfl) (fun a R => ?_) (by intro s hs; cases hs; rfl)
        refine op_val R (rn_pickF R rfl rfl rfl) rfl fun a R => ?_
        refine oas R rfl rfl fun a R => ?_
        refine wpList_nil ?_
        refine then_normal ?_
        exact ⟨false, R.weak ⟨rfl, rfl, rfl, trivial⟩, h⟩
      ·refine op_pass R rfl rfl rfl (ntf g12) (fun a R => ?_) (by intro s hs; cases hs; rfl)
       refine op_pass R rfl rfl rfl (ntf g12) (fun a R => ?_) (by intro s hs; cases hs; rfl)
       refine op_val R (rn_pickF R rfl g12 rfl) rfl fun a R => ?_
       refine omv R rfl rfl fun a R => ?_
       refine op_pass R rfl rfl rfl (ntf rfl) (fun a R => ?_) (by intro s hs; cases hs; rfl)
       refine op_pass R rfl rfl rfl (ntf rfl) (fun a R => ?_) (by intro s hs; cases hs; rfl)
       refine op_val R (rn_pickF R rfl rfl rfl) rfl fun a R => ?_
       refine omv R rfl rfl fun a R => ?_
       refine op_pass R rfl rfl rfl (ntf rfl) (fun a R => ?_) (by intro s hs; cases hs; rfl)
       refine op_pass R rfl rfl rfl (ntf rfl) (fun a R => ?_) (by intro s hs; cases hs; rfl)
       refine op_val R (rn_pickF R rfl rfl rfl) rfl fun a R => ?_
       refine omv R rfl rfl fun a R => ?_
       refine op_pass R rfl rfl rfl (ntf rfl) (fun a R => ?_) (by intro s hs; cases hs; rfl)
       refine op_pass R rfl rfl rfl (ntf rfl) (fun a R => ?_) (by intro s hs; cases hs; rfl)
       refine op_val R (rn_pickF R rfl rfl rfl) rfl fun a R => ?_
       refine oas R rfl rfl fun a R => ?_
       refine wpList_nil ?_
       refine then_normal ?_
       exact ⟨false, R.weak ⟨rfl, rfl, rfl, trivial⟩, h⟩
     ·refine op_pass R rfl rfl rfl (ntf g10) (fun a R => ?_) (by intro s hs; cases hs; rfl)
      refine op_pass R rfl rfl rfl (ntf g10) (fun a R => ?_) (by intro s hs; cases hs; rfl)
      refine op_val R (rn_pickF R rfl g10 rfl) rfl fun a R => ?_
      refine omv R rfl rfl fun a R => ?_
      refine op_pass R rfl rfl rfl (ntf rfl) (fun a R => ?_) (by intro s hs; cases hs; rfl)
      refine op_pass R rfl rfl rfl (ntf rfl) (fun a R => ?_) (by intro s hs; cases hs; rfl)
      refine op_val R (rn_pickF R rfl rfl rfl) rfl fun a R => ?_
      refine omv R rfl rfl fun a R => ?_
      refine op_pass R rfl rfl rfl (ntf rfl) (fun a R => ?_) (by intro s hs; cases hs; rfl)
      refine op_pass R rfl rfl rfl (ntf rfl) (fun a R => ?_) (by intro s hs; cases hs; rfl)
      refine op_val R (rn_pickF R rfl rfl rfl) rfl fun a R => ?_
      refine omv R rfl rfl fun a R => ?_
      refine op_pass R rfl rfl rfl (ntf rfl) (fun a R => ?_) (by intro s hs; cases hs; rfl)
      refine op_pass R rfl rfl rfl (ntf rfl) (fun a R => ?_) (by intro s hs; cases hs; rfl)
      refine op_val R (rn_pickF R rfl rfl rfl) rfl fun a R => ?_
      refine omv R rfl rfl fun a R => ?_
      refine op_pass R rfl rfl rfl (ntf rfl) (fun a R => ?_) (by intro s hs; cases hs; rfl)
      refine op_pass R rfl rfl rfl (ntf rfl) (fun a R => ?_) (by intro s hs; cases hs; rfl)
      refine op_val R (rn_pickF R rfl rfl rfl) rfl fun a R => ?_
      refine oas R rfl rfl fun a R => ?_
      refine wpList_nil ?_
      refine then_normal ?_
      exact ⟨false, R.weak ⟨rfl, rfl, rfl, trivial⟩, h⟩
    ·refine op_pass R rfl rfl rfl (ntf g8) (fun a R => ?_) (by intro s hs; cases hs; rfl)
     refine op_pass R rfl rfl rfl (ntf g8) (fun a R => ?_) (by intro s hs; cases hs; rfl)
     refine op_val R (rn_pickF R rfl g8 rfl) rfl fun a R => ?_
     refine omv R rfl rfl fun a R => ?_
     refine op_pass R rfl rfl rfl (ntf rfl) (fun a R => ?_) (by intro s hs; cases hs; rfl)
     refine op_pass R rfl rfl rfl (ntf rfl) (fun a R => ?_) (by intro s hs; cases hs; rfl)
     refine op_val R (rn_pickF R rfl rfl rfl) rfl fun a R => ?_
     refine omv R rfl rfl fun a R => ?_
     refine op_pass R rfl rfl rfl (ntf rfl) (fun a R => ?_) (by intro s hs; cases hs; rfl)
     refine op_pass R rfl rfl rfl (ntf rfl) (fun a R => ?_) (by intro s hs; cases hs; rfl)
     refine op_val R (rn_pickF R rfl rfl rfl) rfl fun a R => ?_
     refine omv R rfl rfl fun a R => ?_
     refine op_pass R rfl rfl rfl (ntf rfl) (fun a R => ?_) (by intro s hs; cases hs; rfl)
     refine op_pass R rfl rfl rfl (ntf rfl) (fun a R => ?_) (by intro s hs; cases hs; rfl)
     refine op_val R (rn_pickF R rfl rfl rfl) rfl fun a R => ?_
     refine omv R rfl rfl fun a R => ?_
     refine op_pass R rfl rfl rfl (ntf rfl) (fun a R => ?_) (by intro s hs; cases hs; rfl)
     refine op_pass R rfl rfl rfl (ntf rfl) (fun a R => ?_) (by intro s hs; cases hs; rfl)
     refine op_val R (rn_pickF R rfl rfl rfl) rfl fun a R => ?_
     refine omv R rfl rfl fun a R => ?_
     refine op_pass R rfl rfl rfl (ntf rfl) (fun a R => ?_) (by intro s hs; cases hs; rfl)
     refine op_pass R rfl rfl rfl (ntf rfl) (fun a R => ?_) (by intro s hs; cases hs; rfl)
     refine op_val R (rn_pickF R rfl rfl rfl) rfl fun a R => ?_
     refine oas R rfl rfl fun a R => ?_
     refine wpList_nil ?_
     refine then_normal ?_
     exact ⟨false, R.weak ⟨rfl, rfl, rfl, trivial⟩, h⟩
   ·rintro a w ⟨y3_5, R, h⟩
    unfold levyroom_Room_Hold.k3 at h
    refine seq_join (fun a w => ∃ y4_2 : Bool, Rep a 91 [(2, .bool y4_2)] [] ∧ levyroom_Room_Hold.k4 y4_2 Q w) ?_ ?_
    ·refine wp_region_lit ?_
     refine omv R rfl rfl fun a R => ?_
     refine omv R rfl rfl fun a R => ?_
     rcases ite_cases h with ⟨g5, h⟩ | ⟨g5, h⟩
     ·refine op_guard R rfl rfl rfl g5 ?_
      refine omv R rfl rfl fun a R => ?_
      refine op_val R (rn_pickT R rfl g5 rfl) rfl fun a R => ?_
      refine omv R rfl rfl fun a R => ?_
      rcases ite_cases h with ⟨g6, h⟩ | ⟨g6, h⟩
      ·refine op_guard R rfl rfl rfl g6 ?_
       refine omv R rfl rfl fun a R => ?_
       refine op_val R (rn_pickT R rfl g6 rfl) rfl fun a R => ?_
       refine oas R rfl rfl fun a R => ?_
       refine wpList_nil ?_
       refine then_normal ?_
       exact ⟨y3_5, R.weak ⟨rfl, trivial⟩, h⟩
      ·refine op_pass R rfl rfl rfl (ntf g6) (fun a R => ?_) (by intro s hs; cases hs; rfl)
       refine op_val R (rn_pickF R rfl g6 rfl) rfl fun a R => ?_
       refine oas R rfl rfl fun a R => ?_
       refine wpList_nil ?_
       refine then_normal ?_
       exact ⟨false, R.weak ⟨rfl, trivial⟩, h⟩
     ·refine op_pass R rfl rfl rfl (ntf g5) (fun a R => ?_) (by intro s hs; cases hs; rfl)
      refine op_val R (rn_pickF R rfl g5 rfl) rfl fun a R => ?_
      refine omv R rfl rfl fun a R => ?_
      refine op_pass R rfl rfl rfl (ntf rfl) (fun a R => ?_) (by intro s hs; cases hs; rfl)
      refine op_val R (rn_pickF R rfl rfl rfl) rfl fun a R => ?_
      refine oas R rfl rfl fun a R => ?_
      refine wpList_nil ?_
      refine then_normal ?_
      exact ⟨false, R.weak ⟨rfl, trivial⟩, h⟩
    ·rintro a w ⟨y4_2, R, h⟩
     unfold levyroom_Room_Hold.k4 at h
     refine wp_ret ?_
     exact post_ret R rfl rfl ⟨y4_2, rfl, h⟩
theorem s_levyroom_Room_Hold (x0 : Option Addr) (Q : Bool → World → Prop) (w : World) (h : levyroom_Room_Hold x0 Q w) :
    Calls Try.prog 12 #[.pointer x0] w (Rets fun v w => ∃ r0 : Bool, v = (.bool r0 : Value) ∧ Q r0 w) :=
  calls_body (args := [.pointer x0]) Try.func12 rfl rfl (Nat.le_of_ble_eq_true rfl) (L := [(0, .pointer x0)]) (by simp [starts]) (b_levyroom_Room_Hold x0 Q w h rfl)

/-! levylaw19.made -/

def levylaw19_made.k10 (x24_4_0 : Option Addr) (x29_5_0 : Option Addr) (y6_10 : Bool) (y10_114 : Bool) (Q : Option Addr → Bool → World → Prop) (w : World) : Prop :=
  (if y10_114 = true then Q none false w else al w (.cells #[.pointer x29_5_0, .pointer none, .pointer x24_4_0, .pointer none] 32) fun x118_12 w => Q (some x118_12) y6_10 w)

def levylaw19_made.k7 (x21_3_0 : Sl) (x24_4_0 : Option Addr) (x29_5_0 : Option Addr) (y6_10 : Bool) (Q : Option Addr → Bool → World → Prop) (w : World) : Prop :=
  levyref19_NewDisk x21_3_0 (fun x85_8_0 x85_8_1 w => drawer_NewDisk x21_3_0 (fun x90_9_0 x90_9_1 w => (if (x90_9_1 != x85_8_1) = true then levylaw19_made.k10 x24_4_0 x29_5_0 y6_10 true Q w else (if ((Option.isNone x90_9_0) != (Option.isNone x85_8_0)) = true then levylaw19_made.k10 x24_4_0 x29_5_0 y6_10 true Q w else (if (Option.isNone x90_9_0) = true then levylaw19_made.k10 x24_4_0 x29_5_0 y6_10 false Q w else drawer_Disk_Files x90_9_0 (fun x108_18_0 w => levyref19_Disk_Files x85_8_0 (fun x110_19_0 w => levylaw19_sameFiles x108_18_0 x110_19_0 (fun x111_20_0 w => levylaw19_made.k10 x24_4_0 x29_5_0 y6_10 (!x111_20_0) Q w) w) w) w)))) w) w

def levylaw19_made.k30 (x21_3_0 : Sl) (x24_4_0 : Option Addr) (x29_5_0 : Option Addr) (y6_10 : Bool) (z26_11 : Int) (K26 : Int → World → Prop) (Q : Option Addr → Bool → World → Prop) (w : World) : Prop :=
  K26 (IntKind.i64.wrap (z26_11 + 1)) w

def levylaw19_made.l32 (x21_3_0 : Sl) (x24_4_0 : Option Addr) (x29_5_0 : Option Addr) (y6_10 : Bool) (z26_11 : Int) (K26 : Int → World → Prop) (z32_12 : Int) (Q : Option Addr → Bool → World → Prop) (K32 : Int → World → Prop) (w : World) : Prop :=
  ix x21_3_0.p x21_3_0.len z26_11 3 fun x60_34 => ld Sl.val w (x60_34.add 1) fun x62_35 => (if (decide (z32_12 < ((x62_35.len : Nat) : Int))) = true then ix x21_3_0.p x21_3_0.len z26_11 3 fun x69_40 => ld Sl.val (World.drew w) (x69_40.add 1) fun x71_41 => ix x21_3_0.p x21_3_0.len z26_11 3 fun x75_43 => ld Sl.val (World.drew w) (x75_43.add 1) fun x77_44 => ix x77_44.p x77_44.len z32_12 1 fun x79_46 => ld (Value.int .u8) (World.drew w) x79_46 fun x80_47 => ix x71_41.p x71_41.len z32_12 1 fun x82_50 => st (World.drew w) x82_50 (.int .u8 (IntKind.u8.wrap (x80_47 + 1))) fun w => K32 (IntKind.i64.wrap (z32_12 + 1)) w else levylaw19_made.k30 x21_3_0 x24_4_0 x29_5_0 y6_10 z26_11 K26 Q w)

def levylaw19_made.l26 (x21_3_0 : Sl) (x24_4_0 : Option Addr) (x29_5_0 : Option Addr) (y6_10 : Bool) (z26_11 : Int) (Q : Option Addr → Bool → World → Prop) (K26 : Int → World → Prop) (w : World) : Prop :=
  (if (decide (z26_11 < ((x21_3_0.len : Nat) : Int))) = true then (Fix (σ := Int) (fun Ks s w => levylaw19_made.l32 x21_3_0 x24_4_0 x29_5_0 y6_10 z26_11 K26 s Q (fun z32_12 w => Ks z32_12 w) w) 0 w) else levylaw19_made.k7 x21_3_0 x24_4_0 x29_5_0 y6_10 Q w)

def levylaw19_made.k6 (x21_3_0 : Sl) (x24_4_0 : Option Addr) (x29_5_0 : Option Addr) (y6_10 : Bool) (Q : Option Addr → Bool → World → Prop) (w : World) : Prop :=
  (Fix (σ := Int) (fun Ks s w => levylaw19_made.l26 x21_3_0 x24_4_0 x29_5_0 y6_10 s Q (fun z26_11 w => Ks z26_11 w) w) 0 w)

def levylaw19_made (x0 : Sl) (Q : Option Addr → Bool → World → Prop) (w : World) : Prop :=
  al w (.cells #[.slice none 0 0, .slice none 0 0, .slice none 0 0, .slice none 0 0, .slice none 0 0, .slice none 0 0, .slice none 0 0, .slice none 0 0, .slice none 0 0, .slice none 0 0, .slice none 0 0, .slice none 0 0, .slice none 0 0, .slice none 0 0, .slice none 0 0, .slice none 0 0, .slice none 0 0, .slice none 0 0, .slice none 0 0, .slice none 0 0, .slice none 0 0] 65) fun x18_1 w => levyroom_Room_Files (some x18_1) x0 (fun x21_3_0 w => levyref19_NewDisk x0 (fun x24_4_0 x24_4_1 w => drawer_NewDisk x21_3_0 (fun x29_5_0 x29_5_1 w => (if (x29_5_1 == x24_4_1) = true then (if ((Option.isNone x29_5_0) == (Option.isNone x24_4_0)) = true then levylaw19_sameFiles x21_3_0 x0 (fun x45_56_0 w => (if x45_56_0 = true then levyroom_Room_Hold (some x18_1) (fun x49_58_0 w => levylaw19_made.k6 x21_3_0 x24_4_0 x29_5_0 x49_58_0 Q w) w else levylaw19_made.k6 x21_3_0 x24_4_0 x29_5_0 false Q w)) w else levylaw19_made.k6 x21_3_0 x24_4_0 x29_5_0 false Q w) else levylaw19_made.k6 x21_3_0 x24_4_0 x29_5_0 false Q w)) w) w) w

theorem b_levylaw19_made (x0 : Sl) (Q : Option Addr → Bool → World → Prop) (w : World) (h : levylaw19_made x0 Q w) {c : Code} (hb : Try.f4.body = some c) :
 ∀ a, Rep a 120 [(0, Sl.val x0)] [] → c.wp Try.prog (bodyPost Try.prog Try.f4 (Rets fun v w => ∃ r0 : Option Addr, ∃ r1 : Bool, v = (.tuple #[.pointer r0, .bool r1] : Value) ∧ Q r0 r1 w)) a w := by
 intro a R
 obtain rfl := Option.some.inj hb
 unfold levylaw19_made at h
 refine wp_seq ?_
 refine wp_region_lit ?_
 refine oas R rfl rfl fun a R => ?_
 refine oas R rfl rfl fun a R => ?_
 refine wpList_nil ?_
 refine then_normal ?_
 refine wp_seq ?_
 refine wp_region_lit ?_
 refine op_val R (rn_build (r := .agg #[.slice none 0 0, .slice none 0 0, .slice none 0 0, .slice none 0 0, .slice none 0 0, .slice none 0 0, .slice none 0 0, .slice none 0 0, .slice none 0 0, .slice none 0 0, .slice none 0 0, .slice none 0 0, .slice none 0 0, .slice none 0 0, .slice none 0 0, .slice none 0 0, .slice none 0 0, .slice none 0 0, .slice none 0 0, .slice none 0 0, .slice none 0 0]) R rfl (fun w => by kernel_rfl)) rfl fun a R => ?_
 obtain ⟨x18_1, e2, h⟩ := al_e h
 refine op_val (v := .pointer (some x18_1)) R (by rw [e2]; exact rn_bx (x := (.tmp 17)) (t := 65) R rfl) rfl fun a R => ?_
 refine oas R rfl rfl fun a R => ?_
 refine wpList_nil ?_
 refine then_normal ?_
 refine wp_seq ?_
 refine wp_region_lit ?_
 refine omv R rfl rfl fun a R => ?_
 refine omv R rfl rfl fun a R => ?_
 refine op_call R (rn_calls R rfl cf9) rfl ?_
 refine call_mono (s_levyroom_Room_Files _ _ _ _ h) ?_
 rintro _ w63 ⟨x21_3_0, rfl, h⟩ a R
 refine oas R rfl rfl fun a R => ?_
 refine wpList_nil ?_
 refine then_normal ?_
 refine wp_seq ?_
 refine wp_region_lit ?_
 refine omv R rfl rfl fun a R => ?_
 refine op_call R (rn_calls R rfl cf10) rfl ?_
 refine call_mono (s_levyref19_NewDisk _ _ _ h) ?_
 rintro _ w62 ⟨x24_4_0, x24_4_1, rfl, h⟩ a R
 refine omv R rfl rfl fun a R => ?_
 refine op_val R (rn_ext R rfl rfl) rfl fun a R => ?_
 refine op_val R (rn_ext R rfl rfl) rfl fun a R => ?_
 refine oas R rfl rfl fun a R => ?_
 refine oas R rfl rfl fun a R => ?_
 refine wpList_nil ?_
 refine then_normal ?_
 refine wp_seq ?_
 refine wp_region_lit ?_
 refine omv R rfl rfl fun a R => ?_
 refine op_call R (rn_calls R rfl cf11) rfl ?_
 refine call_mono (s_drawer_NewDisk _ _ _ h) ?_
 rintro _ w61 ⟨x29_5_0, x29_5_1, rfl, h⟩ a R
 refine omv R rfl rfl fun a R => ?_
 refine op_val R (rn_ext R rfl rfl) rfl fun a R => ?_
 refine op_val R (rn_ext R rfl rfl) rfl fun a R => ?_
 refine oas R rfl rfl fun a R => ?_
 refine oas R rfl rfl fun a R => ?_
 refine wpList_nil ?_
 refine then_normal ?_
 refine seq_join (fun a w => ∃ y6_10 : Bool, Rep a 120 [(5, Sl.val x21_3_0), (6, .pointer x24_4_0), (8, .pointer x29_5_0), (10, .bool y6_10)] [] ∧ levylaw19_made.k6 x21_3_0 x24_4_0 x29_5_0 y6_10 Q w) ?_ ?_
 ·refine wp_region_lit ?_
  refine omv R rfl rfl fun a R => ?_
  refine omv R rfl rfl fun a R => ?_
  refine op_val R (rn_bin (v := .bool (x29_5_1 == x24_4_1)) R rfl rfl rfl) rfl fun a R => ?_
  refine omv R rfl rfl fun a R => ?_
  rcases ite_cases h with ⟨g54, h⟩ | ⟨g54, h⟩
  ·refine op_guard R rfl rfl rfl g54 ?_
   refine omv R rfl rfl fun a R => ?_
   refine op_guard R rfl rfl rfl g54 ?_
   refine op_val R (rn_nilPE R rfl rfl Try.underlying27) rfl fun a R => ?_
   refine op_guard R rfl rfl rfl g54 ?_
   refine omv R rfl rfl fun a R => ?_
   refine op_guard R rfl rfl rfl g54 ?_
   refine op_val R (rn_nilPE R rfl rfl Try.underlying29) rfl fun a R => ?_
   refine op_guard R rfl rfl rfl g54 ?_
   refine op_val R (rn_boolE R rfl rfl Try.underlying4) rfl fun a R => ?_
   refine op_val R (rn_pickT R rfl g54 rfl) rfl fun a R => ?_
   refine omv R rfl rfl fun a R => ?_
   rcases ite_cases h with ⟨g55, h⟩ | ⟨g55, h⟩
   ·refine op_guard R rfl rfl rfl g55 ?_
    refine omv R rfl rfl fun a R => ?_
    refine op_guard R rfl rfl rfl g55 ?_
    refine omv R rfl rfl fun a R => ?_
    refine op_guard R rfl rfl rfl g55 ?_
    refine op_call R (rn_calls R rfl cf6) rfl ?_
    refine call_mono (s_levylaw19_sameFiles _ _ _ _ h) ?_
    rintro _ w60 ⟨x45_56_0, rfl, h⟩ a R
    refine op_val R (rn_pickT R rfl g55 rfl) rfl fun a R => ?_
    refine omv R rfl rfl fun a R => ?_
    rcases ite_cases h with ⟨g57, h⟩ | ⟨g57, h⟩
    ·refine op_guard R rfl rfl rfl g57 ?_
     refine omv R rfl rfl fun a R => ?_
     refine op_guard R rfl rfl rfl g57 ?_
     refine op_call R (rn_calls R rfl cf12) rfl ?_
     refine call_mono (s_levyroom_Room_Hold _ _ _ h) ?_
     rintro _ w59 ⟨x49_58_0, rfl, h⟩ a R
     refine op_val R (rn_pickT R rfl g57 rfl) rfl fun a R => ?_
     refine oas R rfl rfl fun a R => ?_
     refine wpList_nil ?_
     refine then_normal ?_
     exact ⟨x49_58_0, R.weak ⟨rfl, rfl, rfl, rfl, trivial⟩, h⟩
    ·refine op_pass R rfl rfl rfl (ntf g57) (fun a R => ?_) (by intro s hs; cases hs; rfl)
     refine op_pass R rfl rfl rfl (ntf g57) (fun a R => ?_) (by intro s hs; cases hs; rfl)
     refine op_val R (rn_pickF R rfl g57 rfl) rfl fun a R => ?_
     refine oas R rfl rfl fun a R => ?_
     refine wpList_nil ?_
     refine then_normal ?_
     exact ⟨false, R.weak ⟨rfl, rfl, rfl, rfl, trivial⟩, h⟩
   ·refine op_pass R rfl rfl rfl (ntf g55) (fun a R => ?_) (by intro s hs; cases hs; rfl)
    refine op_pass R rfl rfl rfl (ntf g55) (fun a R => ?_) (by intro s hs; cases hs; rfl)
    refine op_pass R rfl rfl rfl (ntf g55) (fun a R => ?_) (by intro s hs; cases hs; rfl)
    refine op_val R (rn_pickF R rfl g55 rfl) rfl fun a R => ?_
    refine omv R rfl rfl fun a R => ?_
    refine op_pass R rfl rfl rfl (ntf rfl) (fun a R => ?_) (by intro s hs; cases hs; rfl)
    refine op_pass R rfl rfl rfl (ntf rfl) (fun a R => ?_) (by intro s hs; cases hs; rfl)
    refine op_val R (rn_pickF R rfl rfl rfl) rfl fun a R => ?_
    refine oas R rfl rfl fun a R => ?_
    refine wpList_nil ?_
    refine then_normal ?_
    exact ⟨false, R.weak ⟨rfl, rfl, rfl, rfl, trivial⟩, h⟩
  ·refine op_pass R rfl rfl rfl (ntf g54) (fun a R => ?_) (by intro s hs; cases hs; rfl)
   refine op_pass R rfl rfl rfl (ntf g54) (fun a R => ?_) (by intro s hs; cases hs; rfl)
   refine op_pass R rfl rfl rfl (ntf g54) (fun a R => ?_) (by intro s hs; cases hs; rfl)
   refine op_pass R rfl rfl rfl (ntf g54) (fun a R => ?_) (by intro s hs; cases hs; rfl)
   refine op_pass R rfl rfl rfl (ntf g54) (fun a R => ?_) (by intro s hs; cases hs; rfl)
   refine op_val R (rn_pickF R rfl g54 rfl) rfl fun a R => ?_
   refine omv R rfl rfl fun a R => ?_
   refine op_pass R rfl rfl rfl (ntf rfl) (fun a R => ?_) (by intro s hs; cases hs; rfl)
   refine op_pass R rfl rfl rfl (ntf rfl) (fun a R => ?_) (by intro s hs; cases hs; rfl)
   refine op_pass R rfl rfl rfl (ntf rfl) (fun a R => ?_) (by intro s hs; cases hs; rfl)
   refine op_val R (rn_pickF R rfl rfl rfl) rfl fun a R => ?_
   refine omv R rfl rfl fun a R => ?_
   refine op_pass R rfl rfl rfl (ntf rfl) (fun a R => ?_) (by intro s hs; cases hs; rfl)
   refine op_pass R rfl rfl rfl (ntf rfl) (fun a R => ?_) (by intro s hs; cases hs; rfl)
   refine op_val R (rn_pickF R rfl rfl rfl) rfl fun a R => ?_
   refine oas R rfl rfl fun a R => ?_
   refine wpList_nil ?_
   refine then_normal ?_
   exact ⟨false, R.weak ⟨rfl, rfl, rfl, rfl, trivial⟩, h⟩
 ·rintro a w ⟨y6_10, R, h⟩
  unfold levylaw19_made.k6 at h
  refine seq_join (fun a w => Rep a 120 [(5, Sl.val x21_3_0), (6, .pointer x24_4_0), (8, .pointer x29_5_0), (10, .bool y6_10)] [] ∧ levylaw19_made.k7 x21_3_0 x24_4_0 x29_5_0 y6_10 Q w) ?_ ?_
  ·refine wp_seq ?_
   refine wp_region_lit ?_
   refine oas R rfl rfl fun a R => ?_
   refine wpList_nil ?_
   refine then_normal ?_
   refine wp_block ?_
   refine wp_fix (σ := Int) (fun s a => Rep a 120 [(5, Sl.val x21_3_0), (6, .pointer x24_4_0), (8, .pointer x29_5_0), (10, .bool y6_10), (11, .int .i64 s)] []) h (R.weak ⟨rfl, rfl, rfl, rfl, rfl, trivial⟩) ?_
   rintro Ks C z26_11 a w hC R h
   have R : Rep a 120 [(5, Sl.val x21_3_0), (6, .pointer x24_4_0), (8, .pointer x29_5_0), (10, .bool y6_10), (11, .int .i64 z26_11)] [] := R
   have h : levylaw19_made.l26 x21_3_0 x24_4_0 x29_5_0 y6_10 z26_11 Q (fun z26_11 w => Ks z26_11 w) w := h
   generalize hK26 : (fun z26_11 w => Ks z26_11 w) = K26 at h
   unfold levylaw19_made.l26 at h
   refine wp_seq ?_
   refine wp_seq ?_
   refine wp_region_lit ?_
   refine omv R rfl rfl fun a R => ?_
   refine omv R rfl rfl fun a R => ?_
   refine op_val R (rn_len R rfl Try.underlying22) rfl fun a R => ?_
   refine op_val R (rn_bin (v := .bool (decide (z26_11 < ((x21_3_0.len : Nat) : Int)))) R rfl rfl rfl) rfl fun a R => ?_
   refine wpList_nil ?_
   refine then_normal ?_
   rcases ite_cases h with ⟨g29, h⟩ | ⟨g29, h⟩
   ·refine wp_condT R (congrArg (fun b => some (Value.bool b)) g29) ?_
    refine wp_skip ?_
    refine then_normal ?_
    refine seq_join (fun a w => Rep a 120 [(5, Sl.val x21_3_0), (6, .pointer x24_4_0), (8, .pointer x29_5_0), (10, .bool y6_10), (11, .int .i64 z26_11)] [] ∧ levylaw19_made.k30 x21_3_0 x24_4_0 x29_5_0 y6_10 z26_11 K26 Q w) ?_ ?_
    ·refine wp_block ?_
     refine wp_seq ?_
     refine wp_region_lit ?_
     refine oas R rfl rfl fun a R => ?_
     refine wpList_nil ?_
     refine then_normal ?_
     refine wp_block ?_
     refine wp_fix (σ := Int) (fun s a => Rep a 120 [(5, Sl.val x21_3_0), (6, .pointer x24_4_0), (8, .pointer x29_5_0), (10, .bool y6_10), (11, .int .i64 z26_11), (12, .int .i64 s)] []) h (R.weak ⟨rfl, rfl, rfl, rfl, rfl, rfl, trivial⟩) ?_
     rintro Ks C z32_12 a w hC R h
     have R : Rep a 120 [(5, Sl.val x21_3_0), (6, .pointer x24_4_0), (8, .pointer x29_5_0), (10, .bool y6_10), (11, .int .i64 z26_11), (12, .int .i64 z32_12)] [] := R
     have h : levylaw19_made.l32 x21_3_0 x24_4_0 x29_5_0 y6_10 z26_11 K26 z32_12 Q (fun z32_12 w => Ks z32_12 w) w := h
     generalize hK32 : (fun z32_12 w => Ks z32_12 w) = K32 at h
     unfold levylaw19_made.l32 at h
     refine wp_seq ?_
     refine wp_seq ?_
     refine wp_region_lit ?_
     refine omv R rfl rfl fun a R => ?_
     refine omv R rfl rfl fun a R => ?_
     refine omv R rfl rfl fun a R => ?_
     obtain ⟨b33, x60_34, p33, i33, j33, e33, h⟩ := ix_e h
     refine op_val (v := .pointer (some x60_34)) R (by rw [e33]; exact rn_ixs (x := (.tmp 58)) (y := (.tmp 59)) R rfl p33 rfl Try.underlying22 sz74 i33 j33) rfl fun a R => ?_
     refine ofd R rfl fd74_1 rfl fun a R => ?_
     obtain ⟨x62_35, cx62_35, h⟩ := h
     refine old R rfl Try.underlying34 rfl cx62_35 rfl fun a R => ?_
     refine op_val R (rn_len R rfl Try.underlying34) rfl fun a R => ?_
     refine op_val R (rn_bin (v := .bool (decide (z32_12 < ((x62_35.len : Nat) : Int)))) R rfl rfl rfl) rfl fun a R => ?_
     refine wpList_nil ?_
     refine then_normal ?_
     rcases ite_cases h with ⟨g38, h⟩ | ⟨g38, h⟩
     ·refine wp_condT R (congrArg (fun b => some (Value.bool b)) g38) ?_
      refine wp_skip ?_
      refine then_normal ?_
      refine wp_seq ?_
      refine wp_block ?_
      refine region_start mo fun inv => ?_
      refine seg_same (n := 15) (f := 15) (g := 2) (by kernel_rfl) fun inv => ?_
      refine dr_val (i := 0) R (waits_dom (by kernel_rfl) (by kernel_rfl)) (by kernel_rfl) inv rfl (by decide) (by kernel_rfl) (by kernel_rfl) (fun _ _ _ h => h) wanted_none (fun w' hS => rn_mv R rfl) rfl (by decide) fun inv a R => ?_
      refine dr_val (i := 1) R (waits_dom (by kernel_rfl) (by kernel_rfl)) (by kernel_rfl) inv rfl (by decide) (by kernel_rfl) (by kernel_rfl) (fun _ _ _ h => h) wanted_none (fun w' hS => rn_mv R rfl) rfl (by decide) fun inv a R => ?_
      obtain ⟨b39, x69_40, p39, i39, j39, e39, h⟩ := ix_e h
      refine dr_val (v := .pointer (some x69_40)) (i := 2) R (waits_dom (by kernel_rfl) (by kernel_rfl)) (by kernel_rfl) inv rfl (by decide) (by kernel_rfl) (by kernel_rfl) (fun _ _ _ h => h) wanted_none (fun w' hS => by rw [e39]; exact rn_ixs (x := (.tmp 67)) (y := (.tmp 68)) R rfl p39 rfl Try.underlying22 sz74 i39 j39) rfl (by decide) fun inv a R => ?_
      refine dr_val (i := 3) R (waits_dom (by kernel_rfl) (by kernel_rfl)) (by kernel_rfl) inv rfl (by decide) (by kernel_rfl) (by kernel_rfl) (fun _ _ _ h => h) wanted_none (fun w' hS => rn_fld R rfl fd74_1) rfl (by decide) fun inv a R => ?_
      obtain ⟨x71_41, cx71_41, h⟩ := h
      refine dr_val (i := 4) R (waits_dom (by kernel_rfl) (by kernel_rfl)) (by kernel_rfl) inv rfl (by decide) (by kernel_rfl) (by kernel_rfl) (fun _ _ _ h => h) wanted_none (fun w' hS => rn_ld R rfl Try.underlying34 rfl (cell_heap' hS cx71_41)) rfl (by decide) fun inv a R => ?_
      refine dr_val (i := 5) R (waits_dom (by kernel_rfl) (by kernel_rfl)) (by kernel_rfl) inv rfl (by decide) (by kernel_rfl) (by kernel_rfl) (fun _ _ _ h => h) wanted_none (fun w' hS => rn_mv R rfl) rfl (by decide) fun inv a R => ?_
      refine dr_val (i := 6) R (waits_dom (by kernel_rfl) (by kernel_rfl)) (by kernel_rfl) inv rfl (by decide) (by kernel_rfl) (by kernel_rfl) (fun _ _ _ h => h) wanted_none (fun w' hS => rn_mv R rfl) rfl (by decide) fun inv a R => ?_
      refine dr_val (i := 7) R (waits_dom (by kernel_rfl) (by kernel_rfl)) (by kernel_rfl) inv rfl (by decide) (by kernel_rfl) (by kernel_rfl) (fun _ _ _ h => h) wanted_none (fun w' hS => rn_mv R rfl) rfl (by decide) fun inv a R => ?_
      obtain ⟨b42, x75_43, p42, i42, j42, e42, h⟩ := ix_e h
      refine dr_val (v := .pointer (some x75_43)) (i := 8) R (waits_dom (by kernel_rfl) (by kernel_rfl)) (by kernel_rfl) inv rfl (by decide) (by kernel_rfl) (by kernel_rfl) (fun _ _ _ h => h) wanted_none (fun w' hS => by rw [e42]; exact rn_ixs (x := (.tmp 73)) (y := (.tmp 74)) R rfl p42 rfl Try.underlying22 sz74 i42 j42) rfl (by decide) fun inv a R => ?_
      refine dr_val (i := 9) R (waits_dom (by kernel_rfl) (by kernel_rfl)) (by kernel_rfl) inv rfl (by decide) (by kernel_rfl) (by kernel_rfl) (fun _ _ _ h => h) wanted_none (fun w' hS => rn_fld R rfl fd74_1) rfl (by decide) fun inv a R => ?_
      obtain ⟨x77_44, cx77_44, h⟩ := h
      refine dr_val (i := 10) R (waits_dom (by kernel_rfl) (by kernel_rfl)) (by kernel_rfl) inv rfl (by decide) (by kernel_rfl) (by kernel_rfl) (fun _ _ _ h => h) wanted_none (fun w' hS => rn_ld R rfl Try.underlying34 rfl (cell_heap' hS cx77_44)) rfl (by decide) fun inv a R => ?_
      refine dr_val (i := 11) R (waits_dom (by kernel_rfl) (by kernel_rfl)) (by kernel_rfl) inv rfl (by decide) (by kernel_rfl) (by kernel_rfl) (fun _ _ _ h => h) wanted_none (fun w' hS => rn_mv R rfl) rfl (by decide) fun inv a R => ?_
      obtain ⟨b45, x79_46, p45, i45, j45, e45, h⟩ := ix_e h
      refine dr_val (v := .pointer (some x79_46)) (i := 12) R (waits_dom (by kernel_rfl) (by kernel_rfl)) (by kernel_rfl) inv rfl (by decide) (by kernel_rfl) (by kernel_rfl) (fun _ _ _ h => h) wanted_none (fun w' hS => by rw [e45]; exact rn_ixs (x := (.tmp 77)) (y := (.tmp 78)) R rfl p45 rfl Try.underlying34 sz5 i45 j45) rfl (by decide) fun inv a R => ?_
      obtain ⟨x80_47, cx80_47, h⟩ := h
      refine dr_val (i := 13) R (waits_dom (by kernel_rfl) (by kernel_rfl)) (by kernel_rfl) inv rfl (by decide) (by kernel_rfl) (by kernel_rfl) (fun _ _ _ h => h) wanted_none (fun w' hS => rn_ld R rfl Try.underlying5 rfl (cell_heap' hS cx80_47)) rfl (by decide) fun inv a R => ?_
      refine dr_val (i := 14) R (waits_dom (by kernel_rfl) (by kernel_rfl)) (by kernel_rfl) inv rfl (by decide) (by kernel_rfl) (by kernel_rfl) (fun _ _ _ h => h) wanted_none (fun w' hS => rn_bin (v := .int .u8 (IntKind.u8.wrap (x80_47 + 1))) R rfl rfl rfl) rfl (by decide) fun inv a R => ?_
      refine seg_end (by kernel_rfl) ?_
      refine any_tail 15 (by kernel_rfl) ?_
      obtain ⟨b49, x82_50, p49, i49, j49, e49, h⟩ := ix_e h
      refine op_val (v := .pointer (some x82_50)) R (by rw [e49]; exact rn_ixs (x := (.tmp 71)) (y := (.tmp 72)) R rfl p49 rfl Try.underlying34 sz5 i49 j49) rfl fun a R => ?_
      obtain ⟨q51, f51, h⟩ := h
      refine op_unit R (rn_st R rfl rfl rfl sz5 q51 f51) fun a R => ?_
      refine wpList_nil ?_
      refine block_normal ?_
      refine then_normal ?_
      refine wp_region_lit ?_
      refine omv R rfl rfl fun a R => ?_
      refine op_val R (rn_bin (v := .int .i64 (IntKind.i64.wrap (z32_12 + 1))) R rfl rfl rfl) rfl fun a R => ?_
      refine oas R rfl rfl fun a R => ?_
      refine wpList_nil ?_
      refine then_normal ?_
      exact hC (IntKind.i64.wrap (z32_12 + 1)) _ _ (R.weak ⟨rfl, rfl, rfl, rfl, rfl, rfl, trivial⟩) (by rw [← hK32] at h; exact h)
     ·refine wp_condF R (congrArg (fun b => some (Value.bool b)) g38) ?_
      refine wp_exit ?_
      refine then_exit ?_
      refine then_exit ?_
      refine block_eq ?_
      refine block_normal ?_
      refine then_normal ?_
      exact ⟨R.weak ⟨rfl, rfl, rfl, rfl, rfl, trivial⟩, h⟩
    ·rintro a w ⟨R, h⟩
     unfold levylaw19_made.k30 at h
     refine wp_region_lit ?_
     refine omv R rfl rfl fun a R => ?_
     refine op_val R (rn_bin (v := .int .i64 (IntKind.i64.wrap (z26_11 + 1))) R rfl rfl rfl) rfl fun a R => ?_
     refine oas R rfl rfl fun a R => ?_
     refine wpList_nil ?_
     refine then_normal ?_
     exact hC (IntKind.i64.wrap (z26_11 + 1)) _ _ (R.weak ⟨rfl, rfl, rfl, rfl, rfl, trivial⟩) (by rw [← hK26] at h; exact h)
   ·refine wp_condF R (congrArg (fun b => some (Value.bool b)) g29) ?_
    refine wp_exit ?_
    refine then_exit ?_
    refine then_exit ?_
    refine block_eq ?_
    refine then_normal ?_
    exact ⟨R.weak ⟨rfl, rfl, rfl, rfl, trivial⟩, h⟩
  ·rintro a w ⟨R, h⟩
   unfold levylaw19_made.k7 at h
   refine wp_seq ?_
   refine wp_region_lit ?_
   refine omv R rfl rfl fun a R => ?_
   refine op_call R (rn_calls R rfl cf10) rfl ?_
   refine call_mono (s_levyref19_NewDisk _ _ _ h) ?_
   rintro _ w25 ⟨x85_8_0, x85_8_1, rfl, h⟩ a R
   refine omv R rfl rfl fun a R => ?_
   refine op_val R (rn_ext R rfl rfl) rfl fun a R => ?_
   refine op_val R (rn_ext R rfl rfl) rfl fun a R => ?_
   refine oas R rfl rfl fun a R => ?_
   refine oas R rfl rfl fun a R => ?_
   refine wpList_nil ?_
   refine then_normal ?_
   refine wp_seq ?_
   refine wp_region_lit ?_
   refine omv R rfl rfl fun a R => ?_
   refine op_call R (rn_calls R rfl cf11) rfl ?_
   refine call_mono (s_drawer_NewDisk _ _ _ h) ?_
   rintro _ w24 ⟨x90_9_0, x90_9_1, rfl, h⟩ a R
   refine omv R rfl rfl fun a R => ?_
   refine op_val R (rn_ext R rfl rfl) rfl fun a R => ?_
   refine op_val R (rn_ext R rfl rfl) rfl fun a R => ?_
   refine oas R rfl rfl fun a R => ?_
   refine oas R rfl rfl fun a R => ?_
   refine wpList_nil ?_
   refine then_normal ?_
   refine wp_seq ?_
   refine seq_join (fun a w => ∃ y10_114 : Bool, Rep a 120 [(6, .pointer x24_4_0), (8, .pointer x29_5_0), (10, .bool y6_10), (114, .bool y10_114)] [] ∧ levylaw19_made.k10 x24_4_0 x29_5_0 y6_10 y10_114 Q w) ?_ ?_
   ·refine wp_region_lit ?_
    refine omv R rfl rfl fun a R => ?_
    refine omv R rfl rfl fun a R => ?_
    refine op_val R (rn_bin (v := .bool (x90_9_1 != x85_8_1)) R rfl rfl rfl) rfl fun a R => ?_
    refine omv R rfl rfl fun a R => ?_
    rcases ite_cases h with ⟨g15, h⟩ | ⟨g15, h⟩
    ·refine op_pass R rfl rfl rfl (nft g15) (fun a R => ?_) (by intro s hs; cases hs; rfl)
     refine op_pass R rfl rfl rfl (nft g15) (fun a R => ?_) (by intro s hs; cases hs; rfl)
     refine op_pass R rfl rfl rfl (nft g15) (fun a R => ?_) (by intro s hs; cases hs; rfl)
     refine op_pass R rfl rfl rfl (nft g15) (fun a R => ?_) (by intro s hs; cases hs; rfl)
     refine op_pass R rfl rfl rfl (nft g15) (fun a R => ?_) (by intro s hs; cases hs; rfl)
     refine op_val R (rn_pickT R rfl g15 rfl) rfl fun a R => ?_
     refine omv R rfl rfl fun a R => ?_
     refine op_pass R rfl rfl rfl (nft rfl) (fun a R => ?_) (by intro s hs; cases hs; rfl)
     refine op_pass R rfl rfl rfl (nft rfl) (fun a R => ?_) (by intro s hs; cases hs; rfl)
     refine op_pass R rfl rfl rfl (nft rfl) (fun a R => ?_) (by intro s hs; cases hs; rfl)
     refine op_pass0 R rfl rfl rfl (fun a R => ?_) (by intro s hs; cases hs; rfl)
     refine op_pass0 R rfl rfl rfl (fun a R => ?_) (by intro s hs; cases hs; rfl)
     refine op_pass0 R rfl rfl rfl (fun a R => ?_) (by intro s hs; cases hs; rfl)
     refine op_pass0 R rfl rfl rfl (fun a R => ?_) (by intro s hs; cases hs; rfl)
     refine op_pass0 R rfl rfl rfl (fun a R => ?_) (by intro s hs; cases hs; rfl)
     refine op_pass0 R rfl rfl rfl (fun a R => ?_) (by intro s hs; cases hs; rfl)
     refine op_pass R rfl rfl rfl (nft rfl) (fun a R => ?_) (by intro s hs; cases hs; rfl)
     refine op_val R (rn_pickT R rfl rfl rfl) rfl fun a R => ?_
     refine wpList_nil ?_
     refine then_normal ?_
     exact ⟨true, R.weak ⟨rfl, rfl, rfl, rfl, trivial⟩, h⟩
    ·refine op_guard R rfl rfl rfl g15 ?_
     refine omv R rfl rfl fun a R => ?_
     refine op_guard R rfl rfl rfl g15 ?_
     refine op_val R (rn_nilPE R rfl rfl Try.underlying27) rfl fun a R => ?_
     refine op_guard R rfl rfl rfl g15 ?_
     refine omv R rfl rfl fun a R => ?_
     refine op_guard R rfl rfl rfl g15 ?_
     refine op_val R (rn_nilPE R rfl rfl Try.underlying29) rfl fun a R => ?_
     refine op_guard R rfl rfl rfl g15 ?_
     refine op_val R (rn_boolN R rfl rfl Try.underlying4) rfl fun a R => ?_
     refine op_val R (rn_pickF R rfl g15 rfl) rfl fun a R => ?_
     refine omv R rfl rfl fun a R => ?_
     rcases ite_cases h with ⟨g16, h⟩ | ⟨g16, h⟩
     ·refine op_pass R rfl rfl rfl (nft g16) (fun a R => ?_) (by intro s hs; cases hs; rfl)
      refine op_pass R rfl rfl rfl (nft g16) (fun a R => ?_) (by intro s hs; cases hs; rfl)
      refine op_pass R rfl rfl rfl (nft g16) (fun a R => ?_) (by intro s hs; cases hs; rfl)
      refine op_pass0 R rfl rfl rfl (fun a R => ?_) (by intro s hs; cases hs; rfl)
      refine op_pass0 R rfl rfl rfl (fun a R => ?_) (by intro s hs; cases hs; rfl)
      refine op_pass0 R rfl rfl rfl (fun a R => ?_) (by intro s hs; cases hs; rfl)
      refine op_pass0 R rfl rfl rfl (fun a R => ?_) (by intro s hs; cases hs; rfl)
      refine op_pass0 R rfl rfl rfl (fun a R => ?_) (by intro s hs; cases hs; rfl)
      refine op_pass0 R rfl rfl rfl (fun a R => ?_) (by intro s hs; cases hs; rfl)
      refine op_pass R rfl rfl rfl (nft g16) (fun a R => ?_) (by intro s hs; cases hs; rfl)
      refine op_val R (rn_pickT R rfl g16 rfl) rfl fun a R => ?_
      refine wpList_nil ?_
      refine then_normal ?_
      exact ⟨true, R.weak ⟨rfl, rfl, rfl, rfl, trivial⟩, h⟩
     ·refine op_guard R rfl rfl rfl g16 ?_
      refine omv R rfl rfl fun a R => ?_
      refine op_guard R rfl rfl rfl g16 ?_
      refine op_val R (rn_nilPN R rfl rfl Try.underlying27) rfl fun a R => ?_
      refine op_guard R rfl rfl rfl g16 ?_
      refine omv R rfl rfl fun a R => ?_
      rcases ite_cases h with ⟨g17, h⟩ | ⟨g17, h⟩
      ·refine op_pass R rfl rfl rfl (ntf (nf g17)) (fun a R => ?_) (by intro s hs; cases hs; rfl)
       refine op_pass R rfl rfl rfl (ntf (nf g17)) (fun a R => ?_) (by intro s hs; cases hs; rfl)
       refine op_pass R rfl rfl rfl (ntf (nf g17)) (fun a R => ?_) (by intro s hs; cases hs; rfl)
       refine op_pass R rfl rfl rfl (ntf (nf g17)) (fun a R => ?_) (by intro s hs; cases hs; rfl)
       refine op_pass R rfl rfl rfl (ntf (nf g17)) (fun a R => ?_) (by intro s hs; cases hs; rfl)
       refine op_pass R rfl rfl rfl (ntf (nf g17)) (fun a R => ?_) (by intro s hs; cases hs; rfl)
       refine op_guard R rfl rfl rfl g16 ?_
       refine op_val R (rn_pickF R rfl (nf g17) rfl) rfl fun a R => ?_
       refine op_val R (rn_pickF R rfl g16 rfl) rfl fun a R => ?_
       refine wpList_nil ?_
       refine then_normal ?_
       exact ⟨false, R.weak ⟨rfl, rfl, rfl, rfl, trivial⟩, h⟩
      ·refine op_guard R rfl rfl rfl (nt g17) ?_
       refine omv R rfl rfl fun a R => ?_
       refine op_guard R rfl rfl rfl (nt g17) ?_
       refine op_call R (rn_calls R rfl cf7) rfl ?_
       refine call_mono (s_drawer_Disk_Files _ _ _ h) ?_
       rintro _ w23 ⟨x108_18_0, rfl, h⟩ a R
       refine op_guard R rfl rfl rfl (nt g17) ?_
       refine omv R rfl rfl fun a R => ?_
       refine op_guard R rfl rfl rfl (nt g17) ?_
       refine op_call R (rn_calls R rfl cf8) rfl ?_
       refine call_mono (s_levyref19_Disk_Files _ _ _ h) ?_
       rintro _ w22 ⟨x110_19_0, rfl, h⟩ a R
       refine op_guard R rfl rfl rfl (nt g17) ?_
       refine op_call R (rn_calls R rfl cf6) rfl ?_
       refine call_mono (s_levylaw19_sameFiles _ _ _ _ h) ?_
       rintro _ w21 ⟨x111_20_0, rfl, h⟩ a R
       refine op_guard R rfl rfl rfl (nt g17) ?_
       refine op_val R (rn_un (v := .bool (!x111_20_0)) R rfl rfl) rfl fun a R => ?_
       refine op_guard R rfl rfl rfl g16 ?_
       refine op_val R (rn_pickT R rfl (nt g17) rfl) rfl fun a R => ?_
       refine op_val R (rn_pickF R rfl g16 rfl) rfl fun a R => ?_
       refine wpList_nil ?_
       refine then_normal ?_
       exact ⟨(!x111_20_0), R.weak ⟨rfl, rfl, rfl, rfl, trivial⟩, h⟩
   ·rintro a w ⟨y10_114, R, h⟩
    unfold levylaw19_made.k10 at h
    rcases ite_cases h with ⟨g11, h⟩ | ⟨g11, h⟩
    ·refine wp_condT R (congrArg (fun b => some (Value.bool b)) g11) ?_
     refine wp_seq ?_
     refine wp_region_lit ?_
     refine oas R rfl rfl fun a R => ?_
     refine oas R rfl rfl fun a R => ?_
     refine wpList_nil ?_
     refine then_normal ?_
     refine wp_ret ?_
     refine then_ret ?_
     exact post_ret R rfl rfl ⟨none, false, rfl, h⟩
    ·refine wp_condF R (congrArg (fun b => some (Value.bool b)) g11) ?_
     refine wp_skip ?_
     refine then_normal ?_
     refine wp_seq ?_
     refine wp_region_lit ?_
     refine omv R rfl rfl fun a R => ?_
     refine omv R rfl rfl fun a R => ?_
     refine op_val R (rn_build (r := .agg #[.pointer x29_5_0, .pointer none, .pointer x24_4_0, .pointer none]) R rfl (fun w => by kernel_rfl)) rfl fun a R => ?_
     obtain ⟨x118_12, e13, h⟩ := al_e h
     refine op_val (v := .pointer (some x118_12)) R (by rw [e13]; exact rn_bx (x := (.tmp 117)) (t := 32) R rfl) rfl fun a R => ?_
     refine omv R rfl rfl fun a R => ?_
     refine oas R rfl rfl fun a R => ?_
     refine oas R rfl rfl fun a R => ?_
     refine wpList_nil ?_
     refine then_normal ?_
     refine wp_ret ?_
     exact post_ret R rfl rfl ⟨(some x118_12), y6_10, rfl, h⟩
theorem s_levylaw19_made (x0 : Sl) (Q : Option Addr → Bool → World → Prop) (w : World) (h : levylaw19_made x0 Q w) :
    Calls Try.prog 4 #[Sl.val x0] w (Rets fun v w => ∃ r0 : Option Addr, ∃ r1 : Bool, v = (.tuple #[.pointer r0, .bool r1] : Value) ∧ Q r0 r1 w) :=
  calls_body (args := [Sl.val x0]) Try.func4 rfl rfl (Nat.le_of_ble_eq_true rfl) (L := [(0, Sl.val x0)]) (by simp [starts]) (b_levylaw19_made x0 Q w h rfl)

/-! (drawer.Disk).failed -/

def drawer_Disk_failed (x0 : Option Addr) (Q : Bool → World → Prop) (w : World) : Prop :=
  nn x0 fun x4_1 => ld (Value.int .i64) w (x4_1.add 5) fun x6_2 => (if (decide (x6_2 ≤ 0)) = true then Q false w else nn x0 fun x9_5 => ld (Value.int .i64) w (x9_5.add 4) fun x11_6 => (if (decide (x11_6 > 0)) = true then nn x0 fun x14_9 => ld (Value.int .i64) w (x14_9.add 4) fun x16_10 => nn x0 fun x18_12 => st w (x18_12.add 4) (.int .i64 (IntKind.i64.wrap (x16_10 - 1))) fun w => Q false w else nn x0 fun x21_14 => ld (Value.int .i64) w (x21_14.add 5) fun x23_15 => nn x0 fun x25_17 => st w (x25_17.add 5) (.int .i64 (IntKind.i64.wrap (x23_15 - 1))) fun w => Q true w))

theorem b_drawer_Disk_failed (x0 : Option Addr) (Q : Bool → World → Prop) (w : World) (h : drawer_Disk_failed x0 Q w) {c : Code} (hb : Try.f74.body = some c) :
 ∀ a, Rep a 27 [(0, .pointer x0)] [] → c.wp Try.prog (bodyPost Try.prog Try.f74 (Rets fun v w => ∃ r0 : Bool, v = (.bool r0 : Value) ∧ Q r0 w)) a w := by
 intro a R
 obtain rfl := Option.some.inj hb
 unfold drawer_Disk_failed at h
 refine wp_seq ?_
 refine wp_region_lit ?_
 refine oas R rfl rfl fun a R => ?_
 refine wpList_nil ?_
 refine then_normal ?_
 refine wp_seq ?_
 refine wp_seq ?_
 refine wp_region_lit ?_
 refine omv R rfl rfl fun a R => ?_
 obtain ⟨x4_1, cx4_1, h⟩ := h
 refine onl R rfl cx4_1 rfl fun a R => ?_
 refine ofd R rfl fd96_5 rfl fun a R => ?_
 obtain ⟨x6_2, cx6_2, h⟩ := h
 refine old R rfl Try.underlying3 rfl cx6_2 rfl fun a R => ?_
 refine op_val R (rn_bin (v := .bool (decide (x6_2 ≤ 0))) R rfl rfl rfl) rfl fun a R => ?_
 refine wpList_nil ?_
 refine then_normal ?_
 rcases ite_cases h with ⟨g4, h⟩ | ⟨g4, h⟩
 ·refine wp_condT R (congrArg (fun b => some (Value.bool b)) g4) ?_
  refine wp_seq ?_
  refine wp_region_lit ?_
  refine oas R rfl rfl fun a R => ?_
  refine wpList_nil ?_
  refine then_normal ?_
  refine wp_ret ?_
  refine then_ret ?_
  exact post_ret R rfl rfl ⟨false, rfl, h⟩
 ·refine wp_condF R (congrArg (fun b => some (Value.bool b)) g4) ?_
  refine wp_skip ?_
  refine then_normal ?_
  refine wp_seq ?_
  refine wp_seq ?_
  refine wp_region_lit ?_
  refine omv R rfl rfl fun a R => ?_
  obtain ⟨x9_5, cx9_5, h⟩ := h
  refine onl R rfl cx9_5 rfl fun a R => ?_
  refine ofd R rfl fd96_4 rfl fun a R => ?_
  obtain ⟨x11_6, cx11_6, h⟩ := h
  refine old R rfl Try.underlying3 rfl cx11_6 rfl fun a R => ?_
  refine op_val R (rn_bin (v := .bool (decide (x11_6 > 0))) R rfl rfl rfl) rfl fun a R => ?_
  refine wpList_nil ?_
  refine then_normal ?_
  rcases ite_cases h with ⟨g8, h⟩ | ⟨g8, h⟩
  ·refine wp_condT R (congrArg (fun b => some (Value.bool b)) g8) ?_
   refine wp_seq ?_
   refine wp_region_lit ?_
   refine omv R rfl rfl fun a R => ?_
   obtain ⟨x14_9, cx14_9, h⟩ := h
   refine onl R rfl cx14_9 rfl fun a R => ?_
   refine ofd R rfl fd96_4 rfl fun a R => ?_
   obtain ⟨x16_10, cx16_10, h⟩ := h
   refine old R rfl Try.underlying3 rfl cx16_10 rfl fun a R => ?_
   refine op_val R (rn_bin (v := .int .i64 (IntKind.i64.wrap (x16_10 - 1))) R rfl rfl rfl) rfl fun a R => ?_
   obtain ⟨x18_12, cx18_12, h⟩ := h
   refine onl R rfl cx18_12 rfl fun a R => ?_
   refine ofd R rfl fd96_4 rfl fun a R => ?_
   obtain ⟨q13, f13, h⟩ := h
   refine op_unit R (rn_st R rfl rfl rfl sz3 q13 f13) fun a R => ?_
   refine wpList_nil ?_
   refine then_normal ?_
   refine wp_seq ?_
   refine wp_region_lit ?_
   refine oas R rfl rfl fun a R => ?_
   refine wpList_nil ?_
   refine then_normal ?_
   refine wp_ret ?_
   refine then_ret ?_
   exact post_ret R rfl rfl ⟨false, rfl, h⟩
  ·refine wp_condF R (congrArg (fun b => some (Value.bool b)) g8) ?_
   refine wp_skip ?_
   refine then_normal ?_
   refine wp_seq ?_
   refine wp_region_lit ?_
   refine omv R rfl rfl fun a R => ?_
   obtain ⟨x21_14, cx21_14, h⟩ := h
   refine onl R rfl cx21_14 rfl fun a R => ?_
   refine ofd R rfl fd96_5 rfl fun a R => ?_
   obtain ⟨x23_15, cx23_15, h⟩ := h
   refine old R rfl Try.underlying3 rfl cx23_15 rfl fun a R => ?_
   refine op_val R (rn_bin (v := .int .i64 (IntKind.i64.wrap (x23_15 - 1))) R rfl rfl rfl) rfl fun a R => ?_
   obtain ⟨x25_17, cx25_17, h⟩ := h
   refine onl R rfl cx25_17 rfl fun a R => ?_
   refine ofd R rfl fd96_5 rfl fun a R => ?_
   obtain ⟨q18, f18, h⟩ := h
   refine op_unit R (rn_st R rfl rfl rfl sz3 q18 f18) fun a R => ?_
   refine wpList_nil ?_
   refine then_normal ?_
   refine wp_seq ?_
   refine wp_region_lit ?_
   refine oas R rfl rfl fun a R => ?_
   refine wpList_nil ?_
   refine then_normal ?_
   refine wp_ret ?_
   exact post_ret R rfl rfl ⟨true, rfl, h⟩
theorem s_drawer_Disk_failed (x0 : Option Addr) (Q : Bool → World → Prop) (w : World) (h : drawer_Disk_failed x0 Q w) :
    Calls Try.prog 74 #[.pointer x0] w (Rets fun v w => ∃ r0 : Bool, v = (.bool r0 : Value) ∧ Q r0 w) :=
  calls_body (args := [.pointer x0]) Try.func74 rfl rfl (Nat.le_of_ble_eq_true rfl) (L := [(0, .pointer x0)]) (by simp [starts]) (b_drawer_Disk_failed x0 Q w h rfl)

/-! (drawer.Disk).ahead -/

def drawer_Disk_ahead (x0 : Option Addr) (x1 : ByteArray) (Q : Int → World → Prop) (w : World) : Prop :=
  drawer_named x1 (fun x7_1_0 w => (if x7_1_0 = true then nn x0 fun x11_3 => ld Value.bool w (x11_3.add 1) fun x13_4 => (if x13_4 = true then Q 190 w else drawer_Disk_failed x0 (fun x16_6_0 w => (if x16_6_0 = true then Q 191 w else Q 0 w)) w) else Q 192 w)) w

theorem b_drawer_Disk_ahead (x0 : Option Addr) (x1 : ByteArray) (Q : Int → World → Prop) (w : World) (h : drawer_Disk_ahead x0 x1 Q w) {c : Code} (hb : Try.f62.body = some c) :
 ∀ a, Rep a 17 [(0, .pointer x0), (1, .string x1)] [] → c.wp Try.prog (bodyPost Try.prog Try.f62 (Rets fun v w => ∃ r0 : Int, v = (.int .i64 r0 : Value) ∧ Q r0 w)) a w := by
 intro a R
 obtain rfl := Option.some.inj hb
 unfold drawer_Disk_ahead at h
 refine wp_seq ?_
 refine wp_region_lit ?_
 refine oas R rfl rfl fun a R => ?_
 refine wpList_nil ?_
 refine then_normal ?_
 refine wp_seq ?_
 refine wp_block ?_
 refine wp_seq ?_
 refine wp_region_lit ?_
 refine omv R rfl rfl fun a R => ?_
 refine op_call R (rn_calls R rfl cf40) rfl ?_
 refine call_mono (s_drawer_named _ _ _ h) ?_
 rintro _ w9 ⟨x7_1_0, rfl, h⟩ a R
 refine op_val R (rn_un (v := .bool (!x7_1_0)) R rfl rfl) rfl fun a R => ?_
 refine oas R rfl rfl fun a R => ?_
 refine wpList_nil ?_
 refine then_normal ?_
 rcases ite_cases h with ⟨g2, h⟩ | ⟨g2, h⟩
 ·refine wp_condF R (congrArg (fun b => some (Value.bool b)) (nf g2)) ?_
  refine wp_seq ?_
  refine wp_region_lit ?_
  refine omv R rfl rfl fun a R => ?_
  obtain ⟨x11_3, cx11_3, h⟩ := h
  refine onl R rfl cx11_3 rfl fun a R => ?_
  refine ofd R rfl fd96_1 rfl fun a R => ?_
  obtain ⟨x13_4, cx13_4, h⟩ := h
  refine old R rfl Try.underlying4 rfl cx13_4 rfl fun a R => ?_
  refine oas R rfl rfl fun a R => ?_
  refine wpList_nil ?_
  refine then_normal ?_
  rcases ite_cases h with ⟨g5, h⟩ | ⟨g5, h⟩
  ·refine wp_condT R (congrArg (fun b => some (Value.bool b)) g5) ?_
   refine wp_seq ?_
   refine wp_region_lit ?_
   refine oas R rfl rfl fun a R => ?_
   refine wpList_nil ?_
   refine then_normal ?_
   refine wp_ret ?_
   refine block_ret ?_
   refine then_ret ?_
   exact post_ret R rfl rfl ⟨190, rfl, h⟩
  ·refine wp_condF R (congrArg (fun b => some (Value.bool b)) g5) ?_
   refine wp_seq ?_
   refine wp_region_lit ?_
   refine omv R rfl rfl fun a R => ?_
   refine op_call R (rn_calls R rfl cf74) rfl ?_
   refine call_mono (s_drawer_Disk_failed _ _ _ h) ?_
   rintro _ w8 ⟨x16_6_0, rfl, h⟩ a R
   refine oas R rfl rfl fun a R => ?_
   refine wpList_nil ?_
   refine then_normal ?_
   rcases ite_cases h with ⟨g7, h⟩ | ⟨g7, h⟩
   ·refine wp_condT R (congrArg (fun b => some (Value.bool b)) g7) ?_
    refine wp_seq ?_
    refine wp_region_lit ?_
    refine oas R rfl rfl fun a R => ?_
    refine wpList_nil ?_
    refine then_normal ?_
    refine wp_ret ?_
    refine block_ret ?_
    refine then_ret ?_
    exact post_ret R rfl rfl ⟨191, rfl, h⟩
   ·refine wp_condF R (congrArg (fun b => some (Value.bool b)) g7) ?_
    refine wp_skip ?_
    refine block_normal ?_
    refine then_normal ?_
    refine wp_seq ?_
    refine wp_region_lit ?_
    refine oas R rfl rfl fun a R => ?_
    refine wpList_nil ?_
    refine then_normal ?_
    refine wp_ret ?_
    exact post_ret R rfl rfl ⟨0, rfl, h⟩
 ·refine wp_condT R (congrArg (fun b => some (Value.bool b)) (nt g2)) ?_
  refine wp_seq ?_
  refine wp_region_lit ?_
  refine oas R rfl rfl fun a R => ?_
  refine wpList_nil ?_
  refine then_normal ?_
  refine wp_ret ?_
  refine block_ret ?_
  refine then_ret ?_
  exact post_ret R rfl rfl ⟨192, rfl, h⟩
theorem s_drawer_Disk_ahead (x0 : Option Addr) (x1 : ByteArray) (Q : Int → World → Prop) (w : World) (h : drawer_Disk_ahead x0 x1 Q w) :
    Calls Try.prog 62 #[.pointer x0, .string x1] w (Rets fun v w => ∃ r0 : Int, v = (.int .i64 r0 : Value) ∧ Q r0 w) :=
  calls_body (args := [.pointer x0, .string x1]) Try.func62 rfl rfl (Nat.le_of_ble_eq_true rfl) (L := [(0, .pointer x0), (1, .string x1)]) (by simp [starts]) (b_drawer_Disk_ahead x0 x1 Q w h rfl)

/-! (drawer.Disk).Crash -/

def drawer_Disk_Crash (x0 : Option Addr) (Q : World → Prop) (w : World) : Prop :=
  nn x0 fun x7_1 => st w (x7_1.add 1) (.bool true) fun w => nn x0 fun x9_3 => st w (x9_3.add 2) (.bool false) fun w => nn x0 fun x11_5 => st w (x11_5.add 3) (.int .i64 0) fun w => nn x0 fun x13_7 => st w (x13_7.add 4) (.int .i64 0) fun w => nn x0 fun x15_9 => st w (x15_9.add 5) (.int .i64 0) fun w => Q  w

theorem b_drawer_Disk_Crash (x0 : Option Addr) (Q : World → Prop) (w : World) (h : drawer_Disk_Crash x0 Q w) {c : Code} (hb : Try.f29.body = some c) :
 ∀ a, Rep a 17 [(0, .pointer x0)] [] → c.wp Try.prog (bodyPost Try.prog Try.f29 (Rets fun v w => v = (.tuple #[] : Value) ∧ Q w)) a w := by
 intro a R
 obtain rfl := Option.some.inj hb
 unfold drawer_Disk_Crash at h
 refine wp_region_lit ?_
 refine omv R rfl rfl fun a R => ?_
 refine omv R rfl rfl fun a R => ?_
 refine omv R rfl rfl fun a R => ?_
 refine omv R rfl rfl fun a R => ?_
 refine omv R rfl rfl fun a R => ?_
 obtain ⟨x7_1, cx7_1, h⟩ := h
 refine onl R rfl cx7_1 rfl fun a R => ?_
 refine ofd R rfl fd96_1 rfl fun a R => ?_
 obtain ⟨q2, f2, h⟩ := h
 refine op_unit R (rn_st R rfl rfl rfl sz4 q2 f2) fun a R => ?_
 obtain ⟨x9_3, cx9_3, h⟩ := h
 refine onl R rfl cx9_3 rfl fun a R => ?_
 refine ofd R rfl fd96_2 rfl fun a R => ?_
 obtain ⟨q4, f4, h⟩ := h
 refine op_unit R (rn_st R rfl rfl rfl sz4 q4 f4) fun a R => ?_
 obtain ⟨x11_5, cx11_5, h⟩ := h
 refine onl R rfl cx11_5 rfl fun a R => ?_
 refine ofd R rfl fd96_3 rfl fun a R => ?_
 obtain ⟨q6, f6, h⟩ := h
 refine op_unit R (rn_st R rfl rfl rfl sz3 q6 f6) fun a R => ?_
 obtain ⟨x13_7, cx13_7, h⟩ := h
 refine onl R rfl cx13_7 rfl fun a R => ?_
 refine ofd R rfl fd96_4 rfl fun a R => ?_
 obtain ⟨q8, f8, h⟩ := h
 refine op_unit R (rn_st R rfl rfl rfl sz3 q8 f8) fun a R => ?_
 obtain ⟨x15_9, cx15_9, h⟩ := h
 refine onl R rfl cx15_9 rfl fun a R => ?_
 refine ofd R rfl fd96_5 rfl fun a R => ?_
 obtain ⟨q10, f10, h⟩ := h
 refine op_unit R (rn_st R rfl rfl rfl sz3 q10 f10) fun a R => ?_
 refine wpList_nil ?_
 exact post_end R rfl rfl ⟨rfl, h⟩
theorem s_drawer_Disk_Crash (x0 : Option Addr) (Q : World → Prop) (w : World) (h : drawer_Disk_Crash x0 Q w) :
    Calls Try.prog 29 #[.pointer x0] w (Rets fun v w => v = (.tuple #[] : Value) ∧ Q w) :=
  calls_body (args := [.pointer x0]) Try.func29 rfl rfl (Nat.le_of_ble_eq_true rfl) (L := [(0, .pointer x0)]) (by simp [starts]) (b_drawer_Disk_Crash x0 Q w h rfl)

/-! (drawer.Disk).paid -/

def drawer_Disk_paid (x0 : Option Addr) (x1 : Int) (Q : Int → Bool → World → Prop) (w : World) : Prop :=
  nn x0 fun x8_1 => ld Value.bool w (x8_1.add 2) fun x10_2 => (if x10_2 = true then nn x0 fun x15_4 => ld (Value.int .i64) w (x15_4.add 3) fun x17_5 => (if (decide (x1 ≤ x17_5)) = true then nn x0 fun x20_8 => ld (Value.int .i64) w (x20_8.add 3) fun x22_9 => nn x0 fun x25_11 => st w (x25_11.add 3) (.int .i64 (IntKind.i64.wrap (x22_9 - x1))) fun w => Q x1 false w else nn x0 fun x29_13 => ld (Value.int .i64) w (x29_13.add 3) fun x31_14 => drawer_Disk_Crash x0 (fun  w => Q x31_14 true w) w) else Q x1 false w)

theorem b_drawer_Disk_paid (x0 : Option Addr) (x1 : Int) (Q : Int → Bool → World → Prop) (w : World) (h : drawer_Disk_paid x0 x1 Q w) {c : Code} (hb : Try.f63.body = some c) :
 ∀ a, Rep a 35 [(0, .pointer x0), (1, .int .i64 x1)] [] → c.wp Try.prog (bodyPost Try.prog Try.f63 (Rets fun v w => ∃ r0 : Int, ∃ r1 : Bool, v = (.tuple #[.int .i64 r0, .bool r1] : Value) ∧ Q r0 r1 w)) a w := by
 intro a R
 obtain rfl := Option.some.inj hb
 unfold drawer_Disk_paid at h
 refine wp_seq ?_
 refine wp_region_lit ?_
 refine oas R rfl rfl fun a R => ?_
 refine oas R rfl rfl fun a R => ?_
 refine wpList_nil ?_
 refine then_normal ?_
 refine wp_seq ?_
 refine wp_seq ?_
 refine wp_region_lit ?_
 refine omv R rfl rfl fun a R => ?_
 obtain ⟨x8_1, cx8_1, h⟩ := h
 refine onl R rfl cx8_1 rfl fun a R => ?_
 refine ofd R rfl fd96_2 rfl fun a R => ?_
 obtain ⟨x10_2, cx10_2, h⟩ := h
 refine old R rfl Try.underlying4 rfl cx10_2 rfl fun a R => ?_
 refine op_val R (rn_un (v := .bool (!x10_2)) R rfl rfl) rfl fun a R => ?_
 refine wpList_nil ?_
 refine then_normal ?_
 rcases ite_cases h with ⟨g3, h⟩ | ⟨g3, h⟩
 ·refine wp_condF R (congrArg (fun b => some (Value.bool b)) (nf g3)) ?_
  refine wp_skip ?_
  refine then_normal ?_
  refine wp_seq ?_
  refine wp_seq ?_
  refine wp_region_lit ?_
  refine omv R rfl rfl fun a R => ?_
  refine omv R rfl rfl fun a R => ?_
  obtain ⟨x15_4, cx15_4, h⟩ := h
  refine onl R rfl cx15_4 rfl fun a R => ?_
  refine ofd R rfl fd96_3 rfl fun a R => ?_
  obtain ⟨x17_5, cx17_5, h⟩ := h
  refine old R rfl Try.underlying3 rfl cx17_5 rfl fun a R => ?_
  refine op_val R (rn_bin (v := .bool (decide (x1 ≤ x17_5))) R rfl rfl rfl) rfl fun a R => ?_
  refine wpList_nil ?_
  refine then_normal ?_
  rcases ite_cases h with ⟨g7, h⟩ | ⟨g7, h⟩
  ·refine wp_condT R (congrArg (fun b => some (Value.bool b)) g7) ?_
   refine wp_seq ?_
   refine wp_region_lit ?_
   refine omv R rfl rfl fun a R => ?_
   obtain ⟨x20_8, cx20_8, h⟩ := h
   refine onl R rfl cx20_8 rfl fun a R => ?_
   refine ofd R rfl fd96_3 rfl fun a R => ?_
   obtain ⟨x22_9, cx22_9, h⟩ := h
   refine old R rfl Try.underlying3 rfl cx22_9 rfl fun a R => ?_
   refine omv R rfl rfl fun a R => ?_
   refine op_val R (rn_bin (v := .int .i64 (IntKind.i64.wrap (x22_9 - x1))) R rfl rfl rfl) rfl fun a R => ?_
   obtain ⟨x25_11, cx25_11, h⟩ := h
   refine onl R rfl cx25_11 rfl fun a R => ?_
   refine ofd R rfl fd96_3 rfl fun a R => ?_
   obtain ⟨q12, f12, h⟩ := h
   refine op_unit R (rn_st R rfl rfl rfl sz3 q12 f12) fun a R => ?_
   refine wpList_nil ?_
   refine then_normal ?_
   refine wp_seq ?_
   refine wp_region_lit ?_
   refine omv R rfl rfl fun a R => ?_
   refine oas R rfl rfl fun a R => ?_
   refine oas R rfl rfl fun a R => ?_
   refine wpList_nil ?_
   refine then_normal ?_
   refine wp_ret ?_
   refine then_ret ?_
   exact post_ret R rfl rfl ⟨x1, false, rfl, h⟩
  ·refine wp_condF R (congrArg (fun b => some (Value.bool b)) g7) ?_
   refine wp_skip ?_
   refine then_normal ?_
   refine wp_seq ?_
   refine wp_region_lit ?_
   refine omv R rfl rfl fun a R => ?_
   obtain ⟨x29_13, cx29_13, h⟩ := h
   refine onl R rfl cx29_13 rfl fun a R => ?_
   refine ofd R rfl fd96_3 rfl fun a R => ?_
   obtain ⟨x31_14, cx31_14, h⟩ := h
   refine old R rfl Try.underlying3 rfl cx31_14 rfl fun a R => ?_
   refine oas R rfl rfl fun a R => ?_
   refine wpList_nil ?_
   refine then_normal ?_
   refine wp_seq ?_
   refine wp_region_lit ?_
   refine omv R rfl rfl fun a R => ?_
   refine op_call R (rn_calls R rfl cf29) rfl ?_
   refine call_mono (s_drawer_Disk_Crash _ _ _ h) ?_
   rintro _ w16 ⟨rfl, h⟩ a R
   refine wpList_nil ?_
   refine then_normal ?_
   refine wp_seq ?_
   refine wp_region_lit ?_
   refine omv R rfl rfl fun a R => ?_
   refine oas R rfl rfl fun a R => ?_
   refine oas R rfl rfl fun a R => ?_
   refine wpList_nil ?_
   refine then_normal ?_
   refine wp_ret ?_
   exact post_ret R rfl rfl ⟨x31_14, true, rfl, h⟩
 ·refine wp_condT R (congrArg (fun b => some (Value.bool b)) (nt g3)) ?_
  refine wp_seq ?_
  refine wp_region_lit ?_
  refine omv R rfl rfl fun a R => ?_
  refine oas R rfl rfl fun a R => ?_
  refine oas R rfl rfl fun a R => ?_
  refine wpList_nil ?_
  refine then_normal ?_
  refine wp_ret ?_
  refine then_ret ?_
  exact post_ret R rfl rfl ⟨x1, false, rfl, h⟩
theorem s_drawer_Disk_paid (x0 : Option Addr) (x1 : Int) (Q : Int → Bool → World → Prop) (w : World) (h : drawer_Disk_paid x0 x1 Q w) :
    Calls Try.prog 63 #[.pointer x0, .int .i64 x1] w (Rets fun v w => ∃ r0 : Int, ∃ r1 : Bool, v = (.tuple #[.int .i64 r0, .bool r1] : Value) ∧ Q r0 r1 w) :=
  calls_body (args := [.pointer x0, .int .i64 x1]) Try.func63 rfl rfl (Nat.le_of_ble_eq_true rfl) (L := [(0, .pointer x0), (1, .int .i64 x1)]) (by simp [starts]) (b_drawer_Disk_paid x0 x1 Q w h rfl)

/-! (drawer.Disk).Append$1 -/

def drawer_Disk_Append_1 (x0 : Addr) (x1 : Addr) (Q : World → Prop) (w : World) : Prop :=
  ld Value.bool w x0 fun x2_1 => (if x2_1 = true then st w x1 (.int .i64 190) fun w => Q  w else Q  w)

theorem b_drawer_Disk_Append_1 (x0 : Addr) (x1 : Addr) (Q : World → Prop) (w : World) (h : drawer_Disk_Append_1 x0 x1 Q w) {c : Code} (hb : Try.f64.body = some c) :
 ∀ a, Rep a 3 [(0, .pointer (some x0)), (1, .pointer (some x1))] [] → c.wp Try.prog (bodyPost Try.prog Try.f64 (Rets fun v w => v = (.tuple #[] : Value) ∧ Q w)) a w := by
 intro a R
 obtain rfl := Option.some.inj hb
 unfold drawer_Disk_Append_1 at h
 refine wp_seq ?_
 refine wp_region_lit ?_
 obtain ⟨x2_1, cx2_1, h⟩ := h
 refine old R rfl Try.underlying4 rfl cx2_1 rfl fun a R => ?_
 refine wpList_nil ?_
 refine then_normal ?_
 rcases ite_cases h with ⟨g2, h⟩ | ⟨g2, h⟩
 ·refine wp_condT R (congrArg (fun b => some (Value.bool b)) g2) ?_
  refine wp_region_lit ?_
  obtain ⟨q3, f3, h⟩ := h
  refine op_unit R (rn_st R rfl rfl rfl sz69 q3 f3) fun a R => ?_
  refine wpList_nil ?_
  exact post_end R rfl rfl ⟨rfl, h⟩
 ·refine wp_condF R (congrArg (fun b => some (Value.bool b)) g2) ?_
  refine wp_skip ?_
  exact post_end R rfl rfl ⟨rfl, h⟩
theorem s_drawer_Disk_Append_1 (x0 : Addr) (x1 : Addr) (Q : World → Prop) (w : World) (h : drawer_Disk_Append_1 x0 x1 Q w) :
    Calls Try.prog 64 #[.pointer (some x0), .pointer (some x1)] w (Rets fun v w => v = (.tuple #[] : Value) ∧ Q w) :=
  calls_body (args := [.pointer (some x0), .pointer (some x1)]) Try.func64 rfl rfl (Nat.le_of_ble_eq_true rfl) (L := [(0, .pointer (some x0)), (1, .pointer (some x1))]) (by simp [starts]) (b_drawer_Disk_Append_1 x0 x1 Q w h rfl)

theorem sD_drawer_Disk_Append_1 (x0 : Addr) (x1 : Addr) (Q : World → Prop) (w : World) (h : drawer_Disk_Append_1 x0 x1 Q w) (u : FrameMode) :
    CallsD Try.prog 64 #[.pointer (some x0), .pointer (some x1)] u w (fun e u' w' => u' = u ∧ Rets (fun v w => v = (.tuple #[] : Value) ∧ Q w) e w') :=
  callsD_body (args := [.pointer (some x0), .pointer (some x1)]) Try.func64 rfl rfl (Nat.le_of_ble_eq_true rfl) (L := [(0, .pointer (some x0)), (1, .pointer (some x1))]) (by simp [starts]) (b_drawer_Disk_Append_1 x0 x1 Q w h rfl)

/-! (drawer.Disk).Append -/

def drawer_Disk_Append.k23 (x2 : Sl) (x6_1 : Addr) (x10_19 : Addr) (y22_9 : Int) (y23_8 : Option Addr) (Q : Int → World → Prop) (w : World) : Prop :=
  nn y23_8 fun x78_24 => ld Sl.val (World.drew w) (x78_24.add 0) fun x80_25 => (0 ≤ y22_9 ∧ y22_9 ≤ ((x2.cap : Nat) : Int) ∧ rn Try.prog Sl.val (Builtin.append_ #[34, 34] 34 [Sl.val x80_25, Sl.val (cutSl ⟨x2.p, x2.len, x2.cap⟩ 1 0 (Int.toNat y22_9) x2.cap)].toArray) (World.drew w) fun x84_28 w => ((World.cell? w (x78_24.add 0) = some (Sl.val x80_25) ∧ True) ∧ nn y23_8 fun x85_29 => st w (x85_29.add 0) (Sl.val x84_28) fun w => st w x6_1 (.int .i64 0) fun w => drawer_Disk_Append_1 x10_19 x6_1 (fun w => ld (Value.int .i64) w x6_1 fun r32 => Q r32 w) w))

def drawer_Disk_Append.k22 (x0 : Option Addr) (x1 : ByteArray) (x2 : Sl) (x6_1 : Addr) (x22_10 : Option Addr) (x10_19 : Addr) (y22_9 : Int) (Q : Int → World → Prop) (w : World) : Prop :=
  (if (Option.isNone x22_10) = true then al w (.cells #[.slice none 0 0, .int .i64 0] 98) fun x69_35 w => nn x0 fun x71_37 => ld Value.map w (x71_37.add 0) fun x73_38 => rn0 Try.prog (Instr.mapUpdate 94 (.map x73_38) (.string x1) (.pointer (some x69_35))) w fun w => drawer_Disk_Append.k23 x2 x6_1 x10_19 y22_9 (some x69_35) Q w else drawer_Disk_Append.k23 x2 x6_1 x10_19 y22_9 x22_10 Q w)

def drawer_Disk_Append.k12 (x0 : Option Addr) (x1 : ByteArray) (x2 : Sl) (x6_1 : Addr) (x22_10 : Option Addr) (y12_52 : Bool) (Q : Int → World → Prop) (w : World) : Prop :=
  (if y12_52 = true then st w x6_1 (.int .i64 194) fun w => ld (Value.int .i64) w x6_1 fun r15 => Q r15 w else drawer_Disk_paid x0 (IntKind.i64.wrap (((x2.len : Nat) : Int) + 1)) (fun x58_18_0 x58_18_1 w => al w (.cells #[.bool false] 4) fun x10_19 w => st w x10_19 (.bool x58_18_1) fun w => ld Value.bool w x10_19 fun x61_40 => (if x61_40 = true then drawer_Disk_Append.k22 x0 x1 x2 x6_1 x22_10 x10_19 x58_18_0 Q w else drawer_Disk_Append.k22 x0 x1 x2 x6_1 x22_10 x10_19 ((x2.len : Nat) : Int) Q w)) w)

def drawer_Disk_Append (x0 : Option Addr) (x1 : ByteArray) (x2 : Sl) (Q : Int → World → Prop) (w : World) : Prop :=
  al w (.cells #[.int .i64 0] 69) fun x6_1 w => drawer_Disk_ahead x0 x1 (fun x13_3_0 w => (if (x13_3_0 != 0) = true then st w x6_1 (.int .i64 x13_3_0) fun w => ld (Value.int .i64) w x6_1 fun r7 => Q r7 w else nn x0 fun x18_8 => ld Value.map w (x18_8.add 0) fun x20_9 => rn Try.prog Value.pointer (Instr.lookup 94 (.map x20_9) (.string x1) false) w fun x22_10 w => (if (Option.isNone x22_10) = true then nn x0 fun x27_45 => ld Value.map w (x27_45.add 0) fun x29_46 => rn Try.prog (Value.int .i64) (Builtin.len_ #[94] 3 [.map x29_46].toArray) w fun x30_48 w => (if (decide (x30_48 ≥ 40)) = true then drawer_Disk_Append.k12 x0 x1 x2 x6_1 x22_10 true Q w else drawer_Disk_Append.k12 x0 x1 x2 x6_1 x22_10 (decide (((x2.len : Nat) : Int) > 2097152)) Q w) else nn x22_10 fun x38_53 => ld Sl.val w (x38_53.add 0) fun x40_54 => (if (decide ((IntKind.i64.wrap (((x40_54.len : Nat) : Int) + ((x2.len : Nat) : Int))) > 2097152)) = true then drawer_Disk_Append.k12 x0 x1 x2 x6_1 x22_10 true Q w else drawer_Disk_Append.k12 x0 x1 x2 x6_1 x22_10 (decide (((x2.len : Nat) : Int) > 2097152)) Q w)))) w

theorem b_drawer_Disk_Append (x0 : Option Addr) (x1 : ByteArray) (x2 : Sl) (Q : Int → World → Prop) (w : World) (h : drawer_Disk_Append x0 x1 x2 Q w) {c : Code} (hb : Try.f14.body = some c) :
 ∀ a, Rep a 87 [(0, .pointer x0), (1, .string x1), (2, Sl.val x2)] [] → c.wp Try.prog (np (bodyPostD Try.prog Try.f14 (Rets fun v w => ∃ r0 : Int, v = (.int .i64 r0 : Value) ∧ Q r0 w))) a w := by
 intro a R
 obtain rfl := Option.some.inj hb
 unfold drawer_Disk_Append at h
 refine wp_seq ?_
 refine wp_region_lit ?_
 obtain ⟨x6_1, e2, h⟩ := al_e h
 refine op_val (v := .pointer (some x6_1)) R (by rw [e2]; exact rn_al R ze69) rfl fun a R => ?_
 refine wpList_nil ?_
 refine then_normal ?_
 refine wp_seq ?_
 refine wp_seq ?_
 refine wp_region_lit ?_
 refine omv R rfl rfl fun a R => ?_
 refine omv R rfl rfl fun a R => ?_
 refine op_call R (rn_calls R rfl cf62) rfl ?_
 refine call_mono (s_drawer_Disk_ahead _ _ _ _ h) ?_
 rintro _ w62 ⟨x13_3_0, rfl, h⟩ a R
 refine oas R rfl rfl fun a R => ?_
 refine wpList_nil ?_
 refine then_normal ?_
 refine wp_seq ?_
 refine wp_region_lit ?_
 refine omv R rfl rfl fun a R => ?_
 refine op_val R (rn_bin (v := .bool (x13_3_0 != 0)) R rfl rfl rfl) rfl fun a R => ?_
 refine wpList_nil ?_
 refine then_normal ?_
 rcases ite_cases h with ⟨g5, h⟩ | ⟨g5, h⟩
 ·refine wp_condT R (congrArg (fun b => some (Value.bool b)) g5) ?_
  refine wp_seq ?_
  refine wp_region_lit ?_
  refine omv R rfl rfl fun a R => ?_
  obtain ⟨q6, f6, h⟩ := h
  refine op_unit R (rn_st R rfl rfl rfl sz69 q6 f6) fun a R => ?_
  refine wpList_nil ?_
  refine then_normal ?_
  refine wp_ret ?_
  refine then_ret ?_
  refine postD_ret R ?_
  obtain ⟨r7, cr7, h⟩ := h
  exact lv_nil (results_cell R rfl rfl Try.underlying69 rfl cr7) ⟨r7, rfl, h⟩
 ·refine wp_condF R (congrArg (fun b => some (Value.bool b)) g5) ?_
  refine wp_skip ?_
  refine then_normal ?_
  refine wp_seq ?_
  refine wp_region_lit ?_
  refine omv R rfl rfl fun a R => ?_
  obtain ⟨x18_8, cx18_8, h⟩ := h
  refine onl R rfl cx18_8 rfl fun a R => ?_
  refine ofd R rfl fd96_0 rfl fun a R => ?_
  obtain ⟨x20_9, cx20_9, h⟩ := h
  refine old R rfl Try.underlying94 rfl cx20_9 rfl fun a R => ?_
  refine omv R rfl rfl fun a R => ?_
  obtain ⟨x22_10, w11, cx22_10, h⟩ := h
  refine op_val R (rn_lookup R rfl rfl cx22_10) rfl fun a R => ?_
  refine oas R rfl rfl fun a R => ?_
  refine wpList_nil ?_
  refine then_normal ?_
  refine wp_seq ?_
  refine seq_join (fun a w => ∃ y12_52 : Bool, Rep a 87 [(0, .pointer x0), (1, .string x1), (2, Sl.val x2), (6, .pointer (some x6_1)), (8, .pointer x22_10), (52, .bool y12_52)] [] ∧ drawer_Disk_Append.k12 x0 x1 x2 x6_1 x22_10 y12_52 Q w) ?_ ?_
  ·refine wp_region_lit ?_
   refine omv R rfl rfl fun a R => ?_
   refine op_val R (rn_nilPE R rfl rfl Try.underlying93) rfl fun a R => ?_
   refine omv R rfl rfl fun a R => ?_
   rcases ite_cases h with ⟨g44, h⟩ | ⟨g44, h⟩
   ·refine op_guard R rfl rfl rfl g44 ?_
    refine omv R rfl rfl fun a R => ?_
    refine op_guard R rfl rfl rfl g44 ?_
    obtain ⟨x27_45, cx27_45, h⟩ := h
    refine onl R rfl cx27_45 rfl fun a R => ?_
    refine op_guard R rfl rfl rfl g44 ?_
    refine ofd R rfl fd96_0 rfl fun a R => ?_
    refine op_guard R rfl rfl rfl g44 ?_
    obtain ⟨x29_46, cx29_46, h⟩ := h
    refine old R rfl Try.underlying94 rfl cx29_46 rfl fun a R => ?_
    refine op_guard R rfl rfl rfl g44 ?_
    obtain ⟨x30_48, w47, cx30_48, h⟩ := h
    refine op_val R (rn_bi (vs := [.map x29_46]) R rfl (fun _ => rfl) cx30_48) rfl fun a R => ?_
    refine op_guard R rfl rfl rfl g44 ?_
    refine op_val R (rn_bin (v := .bool (decide (x30_48 ≥ 40))) R rfl rfl rfl) rfl fun a R => ?_
    refine op_val R (rn_pickT R rfl g44 rfl) rfl fun a R => ?_
    refine omv R rfl rfl fun a R => ?_
    rcases ite_cases h with ⟨g50, h⟩ | ⟨g50, h⟩
    ·refine op_pass R rfl rfl rfl (nft g50) (fun a R => ?_) (by intro s hs; cases hs; rfl)
     refine op_pass R rfl rfl rfl (nft g50) (fun a R => ?_) (by intro s hs; cases hs; rfl)
     refine op_pass R rfl rfl rfl (nft g50) (fun a R => ?_) (by intro s hs; cases hs; rfl)
     refine op_pass0 R rfl rfl rfl (fun a R => ?_) (by intro s hs; cases hs; rfl)
     refine op_pass0 R rfl rfl rfl (fun a R => ?_) (by intro s hs; cases hs; rfl)
     refine op_pass0 R rfl rfl rfl (fun a R => ?_) (by intro s hs; cases hs; rfl)
     refine op_pass0 R rfl rfl rfl (fun a R => ?_) (by intro s hs; cases hs; rfl)
     refine op_pass0 R rfl rfl rfl (fun a R => ?_) (by intro s hs; cases hs; rfl)
     refine op_pass0 R rfl rfl rfl (fun a R => ?_) (by intro s hs; cases hs; rfl)
     refine op_pass0 R rfl rfl rfl (fun a R => ?_) (by intro s hs; cases hs; rfl)
     refine op_pass0 R rfl rfl rfl (fun a R => ?_) (by intro s hs; cases hs; rfl)
     refine op_pass0 R rfl rfl rfl (fun a R => ?_) (by intro s hs; cases hs; rfl)
     refine op_pass R rfl rfl rfl (nft g50) (fun a R => ?_) (by intro s hs; cases hs; rfl)
     refine op_val R (rn_pickT R rfl g50 rfl) rfl fun a R => ?_
     refine omv R rfl rfl fun a R => ?_
     refine op_pass R rfl rfl rfl (nft rfl) (fun a R => ?_) (by intro s hs; cases hs; rfl)
     refine op_pass R rfl rfl rfl (nft rfl) (fun a R => ?_) (by intro s hs; cases hs; rfl)
     refine op_pass R rfl rfl rfl (nft rfl) (fun a R => ?_) (by intro s hs; cases hs; rfl)
     refine op_val R (rn_pickT R rfl rfl rfl) rfl fun a R => ?_
     refine wpList_nil ?_
     refine then_normal ?_
     exact ⟨true, R.weak ⟨rfl, rfl, rfl, rfl, rfl, rfl, trivial⟩, h⟩
    ·refine op_guard R rfl rfl rfl g50 ?_
     refine omv R rfl rfl fun a R => ?_
     refine op_guard R rfl rfl rfl g50 ?_
     refine op_val R (rn_nilPN R rfl rfl Try.underlying93) rfl fun a R => ?_
     refine op_guard R rfl rfl rfl g50 ?_
     refine omv R rfl rfl fun a R => ?_
     refine op_pass R rfl rfl rfl (ntf (nf g44)) (fun a R => ?_) (by intro s hs; cases hs; rfl)
     refine op_pass R rfl rfl rfl (ntf (nf g44)) (fun a R => ?_) (by intro s hs; cases hs; rfl)
     refine op_pass R rfl rfl rfl (ntf (nf g44)) (fun a R => ?_) (by intro s hs; cases hs; rfl)
     refine op_pass R rfl rfl rfl (ntf (nf g44)) (fun a R => ?_) (by intro s hs; cases hs; rfl)
     refine op_pass R rfl rfl rfl (ntf (nf g44)) (fun a R => ?_) (by intro s hs; cases hs; rfl)
     refine op_pass R rfl rfl rfl (ntf (nf g44)) (fun a R => ?_) (by intro s hs; cases hs; rfl)
     refine op_pass R rfl rfl rfl (ntf (nf g44)) (fun a R => ?_) (by intro s hs; cases hs; rfl)
     refine op_pass R rfl rfl rfl (ntf (nf g44)) (fun a R => ?_) (by intro s hs; cases hs; rfl)
     refine op_pass R rfl rfl rfl (ntf (nf g44)) (fun a R => ?_) (by intro s hs; cases hs; rfl)
     refine op_guard R rfl rfl rfl g50 ?_
     refine op_val R (rn_pickF R rfl (nf g44) rfl) rfl fun a R => ?_
     refine op_val R (rn_pickF R rfl g50 rfl) rfl fun a R => ?_
     refine omv R rfl rfl fun a R => ?_
     refine op_guard R rfl rfl rfl rfl ?_
     refine omv R rfl rfl fun a R => ?_
     refine op_guard R rfl rfl rfl rfl ?_
     refine op_val R (rn_len R rfl Try.underlying34) rfl fun a R => ?_
     refine op_guard R rfl rfl rfl rfl ?_
     refine op_val R (rn_bin (v := .bool (decide (((x2.len : Nat) : Int) > 2097152))) R rfl rfl rfl) rfl fun a R => ?_
     refine op_val R (rn_pickF R rfl rfl rfl) rfl fun a R => ?_
     refine wpList_nil ?_
     refine then_normal ?_
     exact ⟨(decide (((x2.len : Nat) : Int) > 2097152)), R.weak ⟨rfl, rfl, rfl, rfl, rfl, rfl, trivial⟩, h⟩
   ·refine op_pass R rfl rfl rfl (ntf g44) (fun a R => ?_) (by intro s hs; cases hs; rfl)
    refine op_pass R rfl rfl rfl (ntf g44) (fun a R => ?_) (by intro s hs; cases hs; rfl)
    refine op_pass R rfl rfl rfl (ntf g44) (fun a R => ?_) (by intro s hs; cases hs; rfl)
    refine op_pass R rfl rfl rfl (ntf g44) (fun a R => ?_) (by intro s hs; cases hs; rfl)
    refine op_pass R rfl rfl rfl (ntf g44) (fun a R => ?_) (by intro s hs; cases hs; rfl)
    refine op_pass R rfl rfl rfl (ntf g44) (fun a R => ?_) (by intro s hs; cases hs; rfl)
    refine op_val R (rn_pickF R rfl g44 rfl) rfl fun a R => ?_
    refine omv R rfl rfl fun a R => ?_
    refine op_guard R rfl rfl rfl rfl ?_
    refine omv R rfl rfl fun a R => ?_
    refine op_guard R rfl rfl rfl rfl ?_
    refine op_val R (rn_nilPN R rfl rfl Try.underlying93) rfl fun a R => ?_
    refine op_guard R rfl rfl rfl rfl ?_
    refine omv R rfl rfl fun a R => ?_
    refine op_guard R rfl rfl rfl (nt g44) ?_
    refine omv R rfl rfl fun a R => ?_
    refine op_guard R rfl rfl rfl (nt g44) ?_
    obtain ⟨x38_53, cx38_53, h⟩ := h
    refine onl R rfl cx38_53 rfl fun a R => ?_
    refine op_guard R rfl rfl rfl (nt g44) ?_
    refine ofd R rfl fd98_0 rfl fun a R => ?_
    refine op_guard R rfl rfl rfl (nt g44) ?_
    obtain ⟨x40_54, cx40_54, h⟩ := h
    refine old R rfl Try.underlying34 rfl cx40_54 rfl fun a R => ?_
    refine op_guard R rfl rfl rfl (nt g44) ?_
    refine op_val R (rn_len R rfl Try.underlying34) rfl fun a R => ?_
    refine op_guard R rfl rfl rfl (nt g44) ?_
    refine omv R rfl rfl fun a R => ?_
    refine op_guard R rfl rfl rfl (nt g44) ?_
    refine op_val R (rn_len R rfl Try.underlying34) rfl fun a R => ?_
    refine op_guard R rfl rfl rfl (nt g44) ?_
    refine op_val R (rn_bin (v := .int .i64 (IntKind.i64.wrap (((x40_54.len : Nat) : Int) + ((x2.len : Nat) : Int)))) R rfl rfl rfl) rfl fun a R => ?_
    refine op_guard R rfl rfl rfl (nt g44) ?_
    refine op_val R (rn_bin (v := .bool (decide ((IntKind.i64.wrap (((x40_54.len : Nat) : Int) + ((x2.len : Nat) : Int))) > 2097152))) R rfl rfl rfl) rfl fun a R => ?_
    refine op_guard R rfl rfl rfl rfl ?_
    refine op_val R (rn_pickT R rfl (nt g44) rfl) rfl fun a R => ?_
    refine op_val R (rn_pickF R rfl rfl rfl) rfl fun a R => ?_
    refine omv R rfl rfl fun a R => ?_
    rcases ite_cases h with ⟨g59, h⟩ | ⟨g59, h⟩
    ·refine op_pass R rfl rfl rfl (nft g59) (fun a R => ?_) (by intro s hs; cases hs; rfl)
     refine op_pass R rfl rfl rfl (nft g59) (fun a R => ?_) (by intro s hs; cases hs; rfl)
     refine op_pass R rfl rfl rfl (nft g59) (fun a R => ?_) (by intro s hs; cases hs; rfl)
     refine op_val R (rn_pickT R rfl g59 rfl) rfl fun a R => ?_
     refine wpList_nil ?_
     refine then_normal ?_
     exact ⟨true, R.weak ⟨rfl, rfl, rfl, rfl, rfl, rfl, trivial⟩, h⟩
    ·refine op_guard R rfl rfl rfl g59 ?_
     refine omv R rfl rfl fun a R => ?_
     refine op_guard R rfl rfl rfl g59 ?_
     refine op_val R (rn_len R rfl Try.underlying34) rfl fun a R => ?_
     refine op_guard R rfl rfl rfl g59 ?_
     refine op_val R (rn_bin (v := .bool (decide (((x2.len : Nat) : Int) > 2097152))) R rfl rfl rfl) rfl fun a R => ?_
     refine op_val R (rn_pickF R rfl g59 rfl) rfl fun a R => ?_
     refine wpList_nil ?_
     refine then_normal ?_
     exact ⟨(decide (((x2.len : Nat) : Int) > 2097152)), R.weak ⟨rfl, rfl, rfl, rfl, rfl, rfl, trivial⟩, h⟩
  ·rintro a w ⟨y12_52, R, h⟩
   unfold drawer_Disk_Append.k12 at h
   rcases ite_cases h with ⟨g13, h⟩ | ⟨g13, h⟩
   ·refine wp_condT R (congrArg (fun b => some (Value.bool b)) g13) ?_
    refine wp_seq ?_
    refine wp_region_lit ?_
    obtain ⟨q14, f14, h⟩ := h
    refine op_unit R (rn_st R rfl rfl rfl sz69 q14 f14) fun a R => ?_
    refine wpList_nil ?_
    refine then_normal ?_
    refine wp_ret ?_
    refine then_ret ?_
    refine postD_ret R ?_
    obtain ⟨r15, cr15, h⟩ := h
    exact lv_nil (results_cell R rfl rfl Try.underlying69 rfl cr15) ⟨r15, rfl, h⟩
   ·refine wp_condF R (congrArg (fun b => some (Value.bool b)) g13) ?_
    refine wp_skip ?_
    refine then_normal ?_
    refine wp_seq ?_
    refine wp_region_lit ?_
    refine omv R rfl rfl fun a R => ?_
    refine omv R rfl rfl fun a R => ?_
    refine op_val R (rn_len R rfl Try.underlying34) rfl fun a R => ?_
    refine op_val R (rn_bin (v := .int .i64 (IntKind.i64.wrap (((x2.len : Nat) : Int) + 1))) R rfl rfl rfl) rfl fun a R => ?_
    refine op_call R (rn_calls R rfl cf63) rfl ?_
    refine call_mono (s_drawer_Disk_paid _ _ _ _ h) ?_
    rintro _ w43 ⟨x58_18_0, x58_18_1, rfl, h⟩ a R
    refine omv R rfl rfl fun a R => ?_
    refine op_val R (rn_ext R rfl rfl) rfl fun a R => ?_
    refine op_val R (rn_ext R rfl rfl) rfl fun a R => ?_
    obtain ⟨x10_19, e20, h⟩ := al_e h
    refine op_val (v := .pointer (some x10_19)) R (by rw [e20]; exact rn_al R ze4) rfl fun a R => ?_
    refine oas R rfl rfl fun a R => ?_
    obtain ⟨q21, f21, h⟩ := h
    refine op_unit R (rn_st R rfl rfl rfl sz4 q21 f21) fun a R => ?_
    refine wpList_nil ?_
    refine then_normal ?_
    refine seq_join (fun a w => ∃ y22_9 : Int, Rep a 87 [(0, .pointer x0), (1, .string x1), (2, Sl.val x2), (6, .pointer (some x6_1)), (8, .pointer x22_10), (9, .int .i64 y22_9), (10, .pointer (some x10_19))] [] ∧ drawer_Disk_Append.k22 x0 x1 x2 x6_1 x22_10 x10_19 y22_9 Q w) ?_ ?_
    ·refine wp_seq ?_
     refine wp_region_lit ?_
     obtain ⟨x61_40, cx61_40, h⟩ := h
     refine old R rfl Try.underlying4 rfl cx61_40 rfl fun a R => ?_
     refine op_val R (rn_un (v := .bool (!x61_40)) R rfl rfl) rfl fun a R => ?_
     refine wpList_nil ?_
     refine then_normal ?_
     rcases ite_cases h with ⟨g41, h⟩ | ⟨g41, h⟩
     ·refine wp_condF R (congrArg (fun b => some (Value.bool b)) (nf g41)) ?_
      refine wp_skip ?_
      refine then_normal ?_
      exact ⟨x58_18_0, R.weak ⟨rfl, rfl, rfl, rfl, rfl, rfl, rfl, trivial⟩, h⟩
     ·refine wp_condT R (congrArg (fun b => some (Value.bool b)) (nt g41)) ?_
      refine wp_region_lit ?_
      refine omv R rfl rfl fun a R => ?_
      refine op_val R (rn_len R rfl Try.underlying34) rfl fun a R => ?_
      refine oas R rfl rfl fun a R => ?_
      refine wpList_nil ?_
      refine then_normal ?_
      exact ⟨((x2.len : Nat) : Int), R.weak ⟨rfl, rfl, rfl, rfl, rfl, rfl, rfl, trivial⟩, h⟩
    ·rintro a w ⟨y22_9, R, h⟩
     unfold drawer_Disk_Append.k22 at h
     refine wp_seq ?_
     refine wp_region_lit ?_
     refine op_val R (rn_fn (us := []) R rfl rfl) rfl fun a R => ?_
     refine op_defer R (rn_df (vs := []) R rfl rfl) fun a R => ?_
     refine wpList_nil ?_
     refine then_normal ?_
     refine seq_join (fun a w => ∃ y23_8 : Option Addr, Rep a 87 [(2, Sl.val x2), (6, .pointer (some x6_1)), (8, .pointer y23_8), (9, .int .i64 y22_9), (10, .pointer (some x10_19))] [⟨.fn (.func 64) [.pointer (some x10_19), .pointer (some x6_1)].toArray, #[] ++ [].toArray⟩] ∧ drawer_Disk_Append.k23 x2 x6_1 x10_19 y22_9 y23_8 Q w) ?_ ?_
     ·refine wp_seq ?_
      refine wp_region_lit ?_
      refine omv R rfl rfl fun a R => ?_
      refine op_val R (rn_nilPE R rfl rfl Try.underlying93) rfl fun a R => ?_
      refine wpList_nil ?_
      refine then_normal ?_
      rcases ite_cases h with ⟨g34, h⟩ | ⟨g34, h⟩
      ·refine wp_condT R (congrArg (fun b => some (Value.bool b)) g34) ?_
       refine wp_seq ?_
       refine wp_region_lit ?_
       refine op_val R (rn_build (r := .agg #[.slice none 0 0, .int .i64 0]) R rfl (fun w => by kernel_rfl)) rfl fun a R => ?_
       obtain ⟨x69_35, e36, h⟩ := al_e h
       refine op_val (v := .pointer (some x69_35)) R (by rw [e36]; exact rn_bx (x := (.tmp 68)) (t := 98) R rfl) rfl fun a R => ?_
       refine oas R rfl rfl fun a R => ?_
       refine wpList_nil ?_
       refine then_normal ?_
       refine wp_region_lit ?_
       refine omv R rfl rfl fun a R => ?_
       obtain ⟨x71_37, cx71_37, h⟩ := h
       refine onl R rfl cx71_37 rfl fun a R => ?_
       refine ofd R rfl fd96_0 rfl fun a R => ?_
       obtain ⟨x73_38, cx73_38, h⟩ := h
       refine old R rfl Try.underlying94 rfl cx73_38 rfl fun a R => ?_
       refine omv R rfl rfl fun a R => ?_
       refine omv R rfl rfl fun a R => ?_
       obtain ⟨w39, c39, h⟩ := h
       refine op_unit R (rn_mapUpdate R rfl rfl rfl c39) fun a R => ?_
       refine wpList_nil ?_
       refine then_normal ?_
       exact ⟨(some x69_35), R.weak ⟨rfl, rfl, rfl, rfl, rfl, trivial⟩, h⟩
      ·refine wp_condF R (congrArg (fun b => some (Value.bool b)) g34) ?_
       refine wp_skip ?_
       refine then_normal ?_
       exact ⟨x22_10, R.weak ⟨rfl, rfl, rfl, rfl, rfl, trivial⟩, h⟩
     ·rintro a w ⟨y23_8, R, h⟩
      unfold drawer_Disk_Append.k23 at h
      refine wp_seq ?_
      refine region_start mo fun inv => ?_
      obtain ⟨x78_24, cx78_24, h⟩ := h
      obtain ⟨x80_25, cx80_25, h⟩ := h
      obtain ⟨s26_0, s26_1, h⟩ := h
      refine seg_held (n := 9) (f := 9) (g := 3) (fun w : World => w.cell? (x78_24.add 0) = some (Sl.val x80_25) ∧ True) (by kernel_rfl) fun inv => ?_
      have hS0 : (fun w : World => w.cell? (x78_24.add 0) = some (Sl.val x80_25) ∧ True) _ := ⟨cx80_25, trivial⟩
      refine dr_val (i := 0) R (waits_dom (by kernel_rfl) (by kernel_rfl)) (by kernel_rfl) inv rfl (by decide) (by kernel_rfl) (by kernel_rfl) (fun _ _ _ h => h) wanted_none (fun w' hS => rn_mv R rfl) hS0 rfl fun inv a R => ?_
      refine dr_val (i := 1) R (waits_dom (by kernel_rfl) (by kernel_rfl)) (by kernel_rfl) inv rfl (by decide) (by kernel_rfl) (by kernel_rfl) (fun _ _ _ h => h) wanted_none (fun w' hS => rn_mv R rfl) hS0 rfl fun inv a R => ?_
      refine dr_val (i := 2) R (waits_dom (by kernel_rfl) (by kernel_rfl)) (by kernel_rfl) inv rfl (by decide) (by kernel_rfl) (by kernel_rfl) (fun _ _ _ h => h) wanted_none (fun w' hS => rn_nil R rfl cx78_24) hS0 rfl fun inv a R => ?_
      refine dr_val (i := 3) R (waits_dom (by kernel_rfl) (by kernel_rfl)) (by kernel_rfl) inv rfl (by decide) (by kernel_rfl) (by kernel_rfl) (fun _ _ _ h => h) wanted_none (fun w' hS => rn_fld R rfl fd98_0) hS0 rfl fun inv a R => ?_
      refine dr_val (i := 4) R (waits_dom (by kernel_rfl) (by kernel_rfl)) (by kernel_rfl) inv rfl (by decide) (by kernel_rfl) (by kernel_rfl) (fun _ _ _ h => h) wanted_none (fun w' hS => rn_ld R rfl Try.underlying34 rfl (hS.1)) hS0 rfl fun inv a R => ?_
      refine dr_val (i := 5) R (waits_dom (by kernel_rfl) (by kernel_rfl)) (by kernel_rfl) inv rfl (by decide) (by kernel_rfl) (by kernel_rfl) (fun _ _ _ h => h) wanted_none (fun w' hS => rn_mv R rfl) hS0 rfl fun inv a R => ?_
      refine dr_val (i := 6) R (waits_dom (by kernel_rfl) (by kernel_rfl)) (by kernel_rfl) inv rfl (by decide) (by kernel_rfl) (by kernel_rfl) (fun _ _ _ h => h) wanted_none (fun w' hS => rn_mv R rfl) hS0 rfl fun inv a R => ?_
      refine dr_val (i := 7) R (waits_dom (by kernel_rfl) (by kernel_rfl)) (by kernel_rfl) inv rfl (by decide) (by kernel_rfl) (by kernel_rfl) (fun _ _ _ h => h) wanted_none (fun w' hS => rn_sl R rfl rfl (evo R rfl) rfl (fun w => bounds2 (lo := none) (hi := (some (.i64, y22_9))) 0 (Int.toNat y22_9) ⟨s26_0, s26_1, rfl⟩ rfl w) Try.underlying34 sz5) hS0 rfl fun inv a R => ?_
      obtain ⟨x84_28, w27, cx84_28, h⟩ := h
      obtain ⟨hS0, h⟩ := h
      refine dr_run (i := 8) R inv rfl (by decide) (by kernel_rfl) wanted_none (rn_bi (vs := [Sl.val x80_25, Sl.val (cutSl ⟨x2.p, x2.len, x2.cap⟩ 1 0 (Int.toNat y22_9) x2.cap)]) R rfl (fun _ => rfl) cx84_28) hS0 rfl fun inv a R => ?_
      refine seg_end (by kernel_rfl) ?_
      refine any_tail 9 (by kernel_rfl) ?_
      obtain ⟨x85_29, cx85_29, h⟩ := h
      refine onl R rfl cx85_29 rfl fun a R => ?_
      refine ofd R rfl fd98_0 rfl fun a R => ?_
      obtain ⟨q30, f30, h⟩ := h
      refine op_unit R (rn_st R rfl rfl rfl sz34 q30 f30) fun a R => ?_
      refine wpList_nil ?_
      refine then_normal ?_
      refine wp_seq ?_
      refine wp_region_lit ?_
      obtain ⟨q31, f31, h⟩ := h
      refine op_unit R (rn_st R rfl rfl rfl sz69 q31 f31) fun a R => ?_
      refine wpList_nil ?_
      refine then_normal ?_
      refine wp_ret ?_
      refine postD_ret R ?_
      refine lv_cons rfl rfl (fun w => by kernel_rfl) (fun u => sD_drawer_Disk_Append_1 _ _ _ _ h u) ?_
      rintro _ w33 ⟨rfl, h⟩
      obtain ⟨r32, cr32, h⟩ := h
      exact lv_nil (results_cell R rfl rfl Try.underlying69 rfl cr32) ⟨r32, rfl, h⟩
theorem s_drawer_Disk_Append (x0 : Option Addr) (x1 : ByteArray) (x2 : Sl) (Q : Int → World → Prop) (w : World) (h : drawer_Disk_Append x0 x1 x2 Q w) :
    Calls Try.prog 14 #[.pointer x0, .string x1, Sl.val x2] w (Rets fun v w => ∃ r0 : Int, v = (.int .i64 r0 : Value) ∧ Q r0 w) :=
  calls_bodyD (args := [.pointer x0, .string x1, Sl.val x2]) Try.func14 rfl rfl (Nat.le_of_ble_eq_true rfl) (L := [(0, .pointer x0), (1, .string x1), (2, Sl.val x2)]) (by simp [starts]) (b_drawer_Disk_Append x0 x1 x2 Q w h rfl)

/-! (levyref19.Disk).first -/

def levyref19_Disk_first (x0 : Option Addr) (x1 : ByteArray) (Q : Int → World → Prop) (w : World) : Prop :=
  levyref19_named x1 (fun x7_1_0 w => (if x7_1_0 = true then nn x0 fun x11_3 => ld Value.bool w (x11_3.add 1) fun x13_4 => (if x13_4 = true then Q 190 w else nn x0 fun x15_6 => ld (Value.int .i64) w (x15_6.add 4) fun x17_7 => (if (decide (x17_7 > 0)) = true then nn x0 fun x20_10 => ld (Value.int .i64) w (x20_10.add 3) fun x22_11 => (if (decide (x22_11 > 0)) = true then nn x0 fun x25_14 => ld (Value.int .i64) w (x25_14.add 3) fun x27_15 => nn x0 fun x29_17 => st w (x29_17.add 3) (.int .i64 (IntKind.i64.wrap (x27_15 - 1))) fun w => Q 0 w else nn x0 fun x32_19 => ld (Value.int .i64) w (x32_19.add 4) fun x34_20 => nn x0 fun x36_22 => st w (x36_22.add 4) (.int .i64 (IntKind.i64.wrap (x34_20 - 1))) fun w => Q 191 w) else Q 0 w)) else Q 192 w)) w

theorem b_levyref19_Disk_first (x0 : Option Addr) (x1 : ByteArray) (Q : Int → World → Prop) (w : World) (h : levyref19_Disk_first x0 x1 Q w) {c : Code} (hb : Try.f65.body = some c) :
 ∀ a, Rep a 38 [(0, .pointer x0), (1, .string x1)] [] → c.wp Try.prog (bodyPost Try.prog Try.f65 (Rets fun v w => ∃ r0 : Int, v = (.int .i64 r0 : Value) ∧ Q r0 w)) a w := by
 intro a R
 obtain rfl := Option.some.inj hb
 unfold levyref19_Disk_first at h
 refine wp_seq ?_
 refine wp_region_lit ?_
 refine oas R rfl rfl fun a R => ?_
 refine wpList_nil ?_
 refine then_normal ?_
 refine wp_seq ?_
 refine wp_region_lit ?_
 refine omv R rfl rfl fun a R => ?_
 refine op_call R (rn_calls R rfl cf37) rfl ?_
 refine call_mono (s_levyref19_named _ _ _ h) ?_
 rintro _ w24 ⟨x7_1_0, rfl, h⟩ a R
 refine oas R rfl rfl fun a R => ?_
 refine wpList_nil ?_
 refine then_normal ?_
 refine wp_seq ?_
 refine wp_seq ?_
 refine wp_region_lit ?_
 refine omv R rfl rfl fun a R => ?_
 refine op_val R (rn_un (v := .bool (!x7_1_0)) R rfl rfl) rfl fun a R => ?_
 refine wpList_nil ?_
 refine then_normal ?_
 rcases ite_cases h with ⟨g2, h⟩ | ⟨g2, h⟩
 ·refine wp_condF R (congrArg (fun b => some (Value.bool b)) (nf g2)) ?_
  refine wp_skip ?_
  refine then_normal ?_
  refine wp_seq ?_
  refine wp_seq ?_
  refine wp_region_lit ?_
  refine omv R rfl rfl fun a R => ?_
  obtain ⟨x11_3, cx11_3, h⟩ := h
  refine onl R rfl cx11_3 rfl fun a R => ?_
  refine ofd R rfl fd100_1 rfl fun a R => ?_
  obtain ⟨x13_4, cx13_4, h⟩ := h
  refine old R rfl Try.underlying4 rfl cx13_4 rfl fun a R => ?_
  refine wpList_nil ?_
  refine then_normal ?_
  rcases ite_cases h with ⟨g5, h⟩ | ⟨g5, h⟩
  ·refine wp_condT R (congrArg (fun b => some (Value.bool b)) g5) ?_
   refine wp_seq ?_
   refine wp_region_lit ?_
   refine oas R rfl rfl fun a R => ?_
   refine wpList_nil ?_
   refine then_normal ?_
   refine wp_ret ?_
   refine then_ret ?_
   exact post_ret R rfl rfl ⟨190, rfl, h⟩
  ·refine wp_condF R (congrArg (fun b => some (Value.bool b)) g5) ?_
   refine wp_skip ?_
   refine then_normal ?_
   refine wp_seq ?_
   refine wp_seq ?_
   refine wp_region_lit ?_
   refine omv R rfl rfl fun a R => ?_
   obtain ⟨x15_6, cx15_6, h⟩ := h
   refine onl R rfl cx15_6 rfl fun a R => ?_
   refine ofd R rfl fd100_4 rfl fun a R => ?_
   obtain ⟨x17_7, cx17_7, h⟩ := h
   refine old R rfl Try.underlying3 rfl cx17_7 rfl fun a R => ?_
   refine op_val R (rn_bin (v := .bool (decide (x17_7 > 0))) R rfl rfl rfl) rfl fun a R => ?_
   refine wpList_nil ?_
   refine then_normal ?_
   rcases ite_cases h with ⟨g9, h⟩ | ⟨g9, h⟩
   ·refine wp_condT R (congrArg (fun b => some (Value.bool b)) g9) ?_
    refine wp_seq ?_
    refine wp_seq ?_
    refine wp_region_lit ?_
    refine omv R rfl rfl fun a R => ?_
    obtain ⟨x20_10, cx20_10, h⟩ := h
    refine onl R rfl cx20_10 rfl fun a R => ?_
    refine ofd R rfl fd100_3 rfl fun a R => ?_
    obtain ⟨x22_11, cx22_11, h⟩ := h
    refine old R rfl Try.underlying3 rfl cx22_11 rfl fun a R => ?_
    refine op_val R (rn_bin (v := .bool (decide (x22_11 > 0))) R rfl rfl rfl) rfl fun a R => ?_
    refine wpList_nil ?_
    refine then_normal ?_
    rcases ite_cases h with ⟨g13, h⟩ | ⟨g13, h⟩
    ·refine wp_condT R (congrArg (fun b => some (Value.bool b)) g13) ?_
     refine wp_seq ?_
     refine wp_region_lit ?_
     refine omv R rfl rfl fun a R => ?_
     obtain ⟨x25_14, cx25_14, h⟩ := h
     refine onl R rfl cx25_14 rfl fun a R => ?_
     refine ofd R rfl fd100_3 rfl fun a R => ?_
     obtain ⟨x27_15, cx27_15, h⟩ := h
     refine old R rfl Try.underlying3 rfl cx27_15 rfl fun a R => ?_
     refine op_val R (rn_bin (v := .int .i64 (IntKind.i64.wrap (x27_15 - 1))) R rfl rfl rfl) rfl fun a R => ?_
     obtain ⟨x29_17, cx29_17, h⟩ := h
     refine onl R rfl cx29_17 rfl fun a R => ?_
     refine ofd R rfl fd100_3 rfl fun a R => ?_
     obtain ⟨q18, f18, h⟩ := h
     refine op_unit R (rn_st R rfl rfl rfl sz3 q18 f18) fun a R => ?_
     refine wpList_nil ?_
     refine then_normal ?_
     refine wp_seq ?_
     refine wp_region_lit ?_
     refine oas R rfl rfl fun a R => ?_
     refine wpList_nil ?_
     refine then_normal ?_
     refine wp_ret ?_
     refine then_ret ?_
     refine then_ret ?_
     exact post_ret R rfl rfl ⟨0, rfl, h⟩
    ·refine wp_condF R (congrArg (fun b => some (Value.bool b)) g13) ?_
     refine wp_skip ?_
     refine then_normal ?_
     refine wp_seq ?_
     refine wp_region_lit ?_
     refine omv R rfl rfl fun a R => ?_
     obtain ⟨x32_19, cx32_19, h⟩ := h
     refine onl R rfl cx32_19 rfl fun a R => ?_
     refine ofd R rfl fd100_4 rfl fun a R => ?_
     obtain ⟨x34_20, cx34_20, h⟩ := h
     refine old R rfl Try.underlying3 rfl cx34_20 rfl fun a R => ?_
     refine op_val R (rn_bin (v := .int .i64 (IntKind.i64.wrap (x34_20 - 1))) R rfl rfl rfl) rfl fun a R => ?_
     obtain ⟨x36_22, cx36_22, h⟩ := h
     refine onl R rfl cx36_22 rfl fun a R => ?_
     refine ofd R rfl fd100_4 rfl fun a R => ?_
     obtain ⟨q23, f23, h⟩ := h
     refine op_unit R (rn_st R rfl rfl rfl sz3 q23 f23) fun a R => ?_
     refine wpList_nil ?_
     refine then_normal ?_
     refine wp_seq ?_
     refine wp_region_lit ?_
     refine oas R rfl rfl fun a R => ?_
     refine wpList_nil ?_
     refine then_normal ?_
     refine wp_ret ?_
     refine then_ret ?_
     exact post_ret R rfl rfl ⟨191, rfl, h⟩
   ·refine wp_condF R (congrArg (fun b => some (Value.bool b)) g9) ?_
    refine wp_skip ?_
    refine then_normal ?_
    refine wp_seq ?_
    refine wp_region_lit ?_
    refine oas R rfl rfl fun a R => ?_
    refine wpList_nil ?_
    refine then_normal ?_
    refine wp_ret ?_
    exact post_ret R rfl rfl ⟨0, rfl, h⟩
 ·refine wp_condT R (congrArg (fun b => some (Value.bool b)) (nt g2)) ?_
  refine wp_seq ?_
  refine wp_region_lit ?_
  refine oas R rfl rfl fun a R => ?_
  refine wpList_nil ?_
  refine then_normal ?_
  refine wp_ret ?_
  refine then_ret ?_
  exact post_ret R rfl rfl ⟨192, rfl, h⟩
theorem s_levyref19_Disk_first (x0 : Option Addr) (x1 : ByteArray) (Q : Int → World → Prop) (w : World) (h : levyref19_Disk_first x0 x1 Q w) :
    Calls Try.prog 65 #[.pointer x0, .string x1] w (Rets fun v w => ∃ r0 : Int, v = (.int .i64 r0 : Value) ∧ Q r0 w) :=
  calls_body (args := [.pointer x0, .string x1]) Try.func65 rfl rfl (Nat.le_of_ble_eq_true rfl) (L := [(0, .pointer x0), (1, .string x1)]) (by simp [starts]) (b_levyref19_Disk_first x0 x1 Q w h rfl)

/-! (levyref19.Disk).falls -/

def levyref19_Disk_falls (x0 : Option Addr) (Q : World → Prop) (w : World) : Prop :=
  nn x0 fun x3_1 => st w (x3_1.add 1) (.bool true) fun w => nn x0 fun x6_3 => st w (x6_3.add 2) (.int .i64 (-1)) fun w => nn x0 fun x9_5 => st w (x9_5.add 3) (.int .i64 0) fun w => nn x0 fun x12_7 => st w (x12_7.add 4) (.int .i64 0) fun w => Q  w

theorem b_levyref19_Disk_falls (x0 : Option Addr) (Q : World → Prop) (w : World) (h : levyref19_Disk_falls x0 Q w) {c : Code} (hb : Try.f72.body = some c) :
 ∀ a, Rep a 14 [(0, .pointer x0)] [] → c.wp Try.prog (bodyPost Try.prog Try.f72 (Rets fun v w => v = (.tuple #[] : Value) ∧ Q w)) a w := by
 intro a R
 obtain rfl := Option.some.inj hb
 unfold levyref19_Disk_falls at h
 refine wp_seq ?_
 refine wp_region_lit ?_
 refine omv R rfl rfl fun a R => ?_
 obtain ⟨x3_1, cx3_1, h⟩ := h
 refine onl R rfl cx3_1 rfl fun a R => ?_
 refine ofd R rfl fd100_1 rfl fun a R => ?_
 obtain ⟨q2, f2, h⟩ := h
 refine op_unit R (rn_st R rfl rfl rfl sz4 q2 f2) fun a R => ?_
 refine wpList_nil ?_
 refine then_normal ?_
 refine wp_seq ?_
 refine wp_region_lit ?_
 refine omv R rfl rfl fun a R => ?_
 obtain ⟨x6_3, cx6_3, h⟩ := h
 refine onl R rfl cx6_3 rfl fun a R => ?_
 refine ofd R rfl fd100_2 rfl fun a R => ?_
 obtain ⟨q4, f4, h⟩ := h
 refine op_unit R (rn_st R rfl rfl rfl sz3 q4 f4) fun a R => ?_
 refine wpList_nil ?_
 refine then_normal ?_
 refine wp_seq ?_
 refine wp_region_lit ?_
 refine omv R rfl rfl fun a R => ?_
 obtain ⟨x9_5, cx9_5, h⟩ := h
 refine onl R rfl cx9_5 rfl fun a R => ?_
 refine ofd R rfl fd100_3 rfl fun a R => ?_
 obtain ⟨q6, f6, h⟩ := h
 refine op_unit R (rn_st R rfl rfl rfl sz3 q6 f6) fun a R => ?_
 refine wpList_nil ?_
 refine then_normal ?_
 refine wp_region_lit ?_
 refine omv R rfl rfl fun a R => ?_
 obtain ⟨x12_7, cx12_7, h⟩ := h
 refine onl R rfl cx12_7 rfl fun a R => ?_
 refine ofd R rfl fd100_4 rfl fun a R => ?_
 obtain ⟨q8, f8, h⟩ := h
 refine op_unit R (rn_st R rfl rfl rfl sz3 q8 f8) fun a R => ?_
 refine wpList_nil ?_
 exact post_end R rfl rfl ⟨rfl, h⟩
theorem s_levyref19_Disk_falls (x0 : Option Addr) (Q : World → Prop) (w : World) (h : levyref19_Disk_falls x0 Q w) :
    Calls Try.prog 72 #[.pointer x0] w (Rets fun v w => v = (.tuple #[] : Value) ∧ Q w) :=
  calls_body (args := [.pointer x0]) Try.func72 rfl rfl (Nat.le_of_ble_eq_true rfl) (L := [(0, .pointer x0)]) (by simp [starts]) (b_levyref19_Disk_falls x0 Q w h rfl)

/-! (levyref19.Disk).pays -/

def levyref19_Disk_pays (x0 : Option Addr) (x1 : Int) (Q : Bool → Int → World → Prop) (w : World) : Prop :=
  nn x0 fun x8_1 => ld (Value.int .i64) w (x8_1.add 2) fun x10_2 => (if (decide (x10_2 < 0)) = true then Q true 0 w else nn x0 fun x14_5 => ld (Value.int .i64) w (x14_5.add 2) fun x16_6 => (if (decide (x1 ≤ x16_6)) = true then nn x0 fun x20_9 => ld (Value.int .i64) w (x20_9.add 2) fun x22_10 => nn x0 fun x25_12 => st w (x25_12.add 2) (.int .i64 (IntKind.i64.wrap (x22_10 - x1))) fun w => Q true 0 w else nn x0 fun x28_14 => ld (Value.int .i64) w (x28_14.add 2) fun x30_15 => levyref19_Disk_falls x0 (fun  w => Q false x30_15 w) w))

theorem b_levyref19_Disk_pays (x0 : Option Addr) (x1 : Int) (Q : Bool → Int → World → Prop) (w : World) (h : levyref19_Disk_pays x0 x1 Q w) {c : Code} (hb : Try.f66.body = some c) :
 ∀ a, Rep a 34 [(0, .pointer x0), (1, .int .i64 x1)] [] → c.wp Try.prog (bodyPost Try.prog Try.f66 (Rets fun v w => ∃ r0 : Bool, ∃ r1 : Int, v = (.tuple #[.bool r0, .int .i64 r1] : Value) ∧ Q r0 r1 w)) a w := by
 intro a R
 obtain rfl := Option.some.inj hb
 unfold levyref19_Disk_pays at h
 refine wp_seq ?_
 refine wp_region_lit ?_
 refine oas R rfl rfl fun a R => ?_
 refine oas R rfl rfl fun a R => ?_
 refine wpList_nil ?_
 refine then_normal ?_
 refine wp_seq ?_
 refine wp_seq ?_
 refine wp_region_lit ?_
 refine omv R rfl rfl fun a R => ?_
 obtain ⟨x8_1, cx8_1, h⟩ := h
 refine onl R rfl cx8_1 rfl fun a R => ?_
 refine ofd R rfl fd100_2 rfl fun a R => ?_
 obtain ⟨x10_2, cx10_2, h⟩ := h
 refine old R rfl Try.underlying3 rfl cx10_2 rfl fun a R => ?_
 refine op_val R (rn_bin (v := .bool (decide (x10_2 < 0))) R rfl rfl rfl) rfl fun a R => ?_
 refine wpList_nil ?_
 refine then_normal ?_
 rcases ite_cases h with ⟨g4, h⟩ | ⟨g4, h⟩
 ·refine wp_condT R (congrArg (fun b => some (Value.bool b)) g4) ?_
  refine wp_seq ?_
  refine wp_region_lit ?_
  refine oas R rfl rfl fun a R => ?_
  refine oas R rfl rfl fun a R => ?_
  refine wpList_nil ?_
  refine then_normal ?_
  refine wp_ret ?_
  refine then_ret ?_
  exact post_ret R rfl rfl ⟨true, 0, rfl, h⟩
 ·refine wp_condF R (congrArg (fun b => some (Value.bool b)) g4) ?_
  refine wp_skip ?_
  refine then_normal ?_
  refine wp_seq ?_
  refine wp_seq ?_
  refine wp_region_lit ?_
  refine omv R rfl rfl fun a R => ?_
  refine omv R rfl rfl fun a R => ?_
  obtain ⟨x14_5, cx14_5, h⟩ := h
  refine onl R rfl cx14_5 rfl fun a R => ?_
  refine ofd R rfl fd100_2 rfl fun a R => ?_
  obtain ⟨x16_6, cx16_6, h⟩ := h
  refine old R rfl Try.underlying3 rfl cx16_6 rfl fun a R => ?_
  refine op_val R (rn_bin (v := .bool (decide (x1 ≤ x16_6))) R rfl rfl rfl) rfl fun a R => ?_
  refine wpList_nil ?_
  refine then_normal ?_
  rcases ite_cases h with ⟨g8, h⟩ | ⟨g8, h⟩
  ·refine wp_condT R (congrArg (fun b => some (Value.bool b)) g8) ?_
   refine wp_seq ?_
   refine wp_region_lit ?_
   refine omv R rfl rfl fun a R => ?_
   refine omv R rfl rfl fun a R => ?_
   obtain ⟨x20_9, cx20_9, h⟩ := h
   refine onl R rfl cx20_9 rfl fun a R => ?_
   refine ofd R rfl fd100_2 rfl fun a R => ?_
   obtain ⟨x22_10, cx22_10, h⟩ := h
   refine old R rfl Try.underlying3 rfl cx22_10 rfl fun a R => ?_
   refine omv R rfl rfl fun a R => ?_
   refine op_val R (rn_bin (v := .int .i64 (IntKind.i64.wrap (x22_10 - x1))) R rfl rfl rfl) rfl fun a R => ?_
   obtain ⟨x25_12, cx25_12, h⟩ := h
   refine onl R rfl cx25_12 rfl fun a R => ?_
   refine ofd R rfl fd100_2 rfl fun a R => ?_
   obtain ⟨q13, f13, h⟩ := h
   refine op_unit R (rn_st R rfl rfl rfl sz3 q13 f13) fun a R => ?_
   refine wpList_nil ?_
   refine then_normal ?_
   refine wp_seq ?_
   refine wp_region_lit ?_
   refine oas R rfl rfl fun a R => ?_
   refine oas R rfl rfl fun a R => ?_
   refine wpList_nil ?_
   refine then_normal ?_
   refine wp_ret ?_
   refine then_ret ?_
   exact post_ret R rfl rfl ⟨true, 0, rfl, h⟩
  ·refine wp_condF R (congrArg (fun b => some (Value.bool b)) g8) ?_
   refine wp_skip ?_
   refine then_normal ?_
   refine wp_seq ?_
   refine wp_region_lit ?_
   refine omv R rfl rfl fun a R => ?_
   obtain ⟨x28_14, cx28_14, h⟩ := h
   refine onl R rfl cx28_14 rfl fun a R => ?_
   refine ofd R rfl fd100_2 rfl fun a R => ?_
   obtain ⟨x30_15, cx30_15, h⟩ := h
   refine old R rfl Try.underlying3 rfl cx30_15 rfl fun a R => ?_
   refine oas R rfl rfl fun a R => ?_
   refine wpList_nil ?_
   refine then_normal ?_
   refine wp_seq ?_
   refine wp_region_lit ?_
   refine omv R rfl rfl fun a R => ?_
   refine op_call R (rn_calls R rfl cf72) rfl ?_
   refine call_mono (s_levyref19_Disk_falls _ _ _ h) ?_
   rintro _ w17 ⟨rfl, h⟩ a R
   refine wpList_nil ?_
   refine then_normal ?_
   refine wp_seq ?_
   refine wp_region_lit ?_
   refine omv R rfl rfl fun a R => ?_
   refine oas R rfl rfl fun a R => ?_
   refine oas R rfl rfl fun a R => ?_
   refine wpList_nil ?_
   refine then_normal ?_
   refine wp_ret ?_
   exact post_ret R rfl rfl ⟨false, x30_15, rfl, h⟩
theorem s_levyref19_Disk_pays (x0 : Option Addr) (x1 : Int) (Q : Bool → Int → World → Prop) (w : World) (h : levyref19_Disk_pays x0 x1 Q w) :
    Calls Try.prog 66 #[.pointer x0, .int .i64 x1] w (Rets fun v w => ∃ r0 : Bool, ∃ r1 : Int, v = (.tuple #[.bool r0, .int .i64 r1] : Value) ∧ Q r0 r1 w) :=
  calls_body (args := [.pointer x0, .int .i64 x1]) Try.func66 rfl rfl (Nat.le_of_ble_eq_true rfl) (L := [(0, .pointer x0), (1, .int .i64 x1)]) (by simp [starts]) (b_levyref19_Disk_pays x0 x1 Q w h rfl)

/-! (levyref19.Disk).Append -/

def levyref19_Disk_Append.k12 (x0 : Option Addr) (x2 : Sl) (x58_10_0 : Bool) (y11_12 : Int) (y12_8 : Int) (Q : Int → World → Prop) (w : World) : Prop :=
  nn x0 fun x77_13 => ld Sl.val w (x77_13.add 0) fun x79_14 => ix x79_14.p x79_14.len y12_8 3 fun x81_16 => ld Sl.val w (x81_16.add 1) fun x83_17 => levyref19_copied x83_17 (fun x84_18_0 w => nn x0 fun x86_19 => ld Sl.val (World.drew w) (x86_19.add 0) fun x88_20 => (0 ≤ y11_12 ∧ y11_12 ≤ ((x2.cap : Nat) : Int) ∧ rn Try.prog Sl.val (Builtin.append_ #[34, 34] 34 [Sl.val x84_18_0, Sl.val (cutSl ⟨x2.p, x2.len, x2.cap⟩ 1 0 (Int.toNat y11_12) x2.cap)].toArray) (World.drew w) fun x94_23 w => ((World.cell? w (x86_19.add 0) = some (Sl.val x88_20) ∧ True) ∧ ix x88_20.p x88_20.len y12_8 3 fun x95_25 => st w (x95_25.add 1) (Sl.val x94_23) fun w => (if x58_10_0 = true then Q 0 w else Q 190 w)))) w

def levyref19_Disk_Append.k11 (x0 : Option Addr) (x1 : ByteArray) (x2 : Sl) (x23_4_0 : Int) (x23_4_1 : Bool) (x58_10_0 : Bool) (y11_12 : Int) (Q : Int → World → Prop) (w : World) : Prop :=
  (if x23_4_1 = true then levyref19_Disk_Append.k12 x0 x2 x58_10_0 y11_12 x23_4_0 Q w else levyref19_Disk_add x0 x1 (Sl.mk none 0 0) 0 (fun  w => levyref19_Disk_place x0 x1 (fun x73_31_0 x73_31_1 w => levyref19_Disk_Append.k12 x0 x2 x58_10_0 y11_12 x73_31_0 Q w) w) w)

def levyref19_Disk_Append.k6 (x0 : Option Addr) (x1 : ByteArray) (x2 : Sl) (x23_4_0 : Int) (x23_4_1 : Bool) (y6_52 : Bool) (Q : Int → World → Prop) (w : World) : Prop :=
  (if y6_52 = true then Q 194 w else levyref19_Disk_pays x0 (IntKind.i64.wrap (((x2.len : Nat) : Int) + 1)) (fun x58_10_0 x58_10_1 w => (if x58_10_0 = true then levyref19_Disk_Append.k11 x0 x1 x2 x23_4_0 x23_4_1 x58_10_0 ((x2.len : Nat) : Int) Q w else levyref19_Disk_Append.k11 x0 x1 x2 x23_4_0 x23_4_1 x58_10_0 x58_10_1 Q w)) w)

def levyref19_Disk_Append.k5 (x0 : Option Addr) (x1 : ByteArray) (x2 : Sl) (x23_4_0 : Int) (x23_4_1 : Bool) (y5_10 : Int) (Q : Int → World → Prop) (w : World) : Prop :=
  (if (decide ((IntKind.i64.wrap (y5_10 + ((x2.len : Nat) : Int))) > 2097152)) = true then levyref19_Disk_Append.k6 x0 x1 x2 x23_4_0 x23_4_1 true Q w else (if x23_4_1 = true then levyref19_Disk_Append.k6 x0 x1 x2 x23_4_0 x23_4_1 false Q w else nn x0 fun x46_42 => ld Sl.val w (x46_42.add 0) fun x48_43 => levyref19_Disk_Append.k6 x0 x1 x2 x23_4_0 x23_4_1 (decide (((x48_43.len : Nat) : Int) ≥ 40)) Q w))

def levyref19_Disk_Append (x0 : Option Addr) (x1 : ByteArray) (x2 : Sl) (Q : Int → World → Prop) (w : World) : Prop :=
  levyref19_Disk_first x0 x1 (fun x16_1_0 w => (if (x16_1_0 != 0) = true then Q x16_1_0 w else levyref19_Disk_place x0 x1 (fun x23_4_0 x23_4_1 w => (if x23_4_1 = true then nn x0 fun x28_47 => ld Sl.val w (x28_47.add 0) fun x30_48 => ix x30_48.p x30_48.len x23_4_0 3 fun x32_50 => ld Sl.val w (x32_50.add 1) fun x34_51 => levyref19_Disk_Append.k5 x0 x1 x2 x23_4_0 x23_4_1 ((x34_51.len : Nat) : Int) Q w else levyref19_Disk_Append.k5 x0 x1 x2 x23_4_0 x23_4_1 0 Q w)) w)) w

theorem b_levyref19_Disk_Append (x0 : Option Addr) (x1 : ByteArray) (x2 : Sl) (Q : Int → World → Prop) (w : World) (h : levyref19_Disk_Append x0 x1 x2 Q w) {c : Code} (hb : Try.f16.body = some c) :
 ∀ a, Rep a 99 [(0, .pointer x0), (1, .string x1), (2, Sl.val x2)] [] → c.wp Try.prog (bodyPost Try.prog Try.f16 (Rets fun v w => ∃ r0 : Int, v = (.int .i64 r0 : Value) ∧ Q r0 w)) a w := by
 intro a R
 obtain rfl := Option.some.inj hb
 unfold levyref19_Disk_Append at h
 refine wp_seq ?_
 refine wp_region_lit ?_
 refine oas R rfl rfl fun a R => ?_
 refine wpList_nil ?_
 refine then_normal ?_
 refine wp_seq ?_
 refine wp_region_lit ?_
 refine omv R rfl rfl fun a R => ?_
 refine omv R rfl rfl fun a R => ?_
 refine op_call R (rn_calls R rfl cf65) rfl ?_
 refine call_mono (s_levyref19_Disk_first _ _ _ _ h) ?_
 rintro _ w54 ⟨x16_1_0, rfl, h⟩ a R
 refine oas R rfl rfl fun a R => ?_
 refine wpList_nil ?_
 refine then_normal ?_
 refine wp_seq ?_
 refine wp_seq ?_
 refine wp_region_lit ?_
 refine omv R rfl rfl fun a R => ?_
 refine op_val R (rn_bin (v := .bool (x16_1_0 != 0)) R rfl rfl rfl) rfl fun a R => ?_
 refine wpList_nil ?_
 refine then_normal ?_
 rcases ite_cases h with ⟨g3, h⟩ | ⟨g3, h⟩
 ·refine wp_condT R (congrArg (fun b => some (Value.bool b)) g3) ?_
  refine wp_seq ?_
  refine wp_region_lit ?_
  refine omv R rfl rfl fun a R => ?_
  refine oas R rfl rfl fun a R => ?_
  refine wpList_nil ?_
  refine then_normal ?_
  refine wp_ret ?_
  refine then_ret ?_
  exact post_ret R rfl rfl ⟨x16_1_0, rfl, h⟩
 ·refine wp_condF R (congrArg (fun b => some (Value.bool b)) g3) ?_
  refine wp_skip ?_
  refine then_normal ?_
  refine wp_seq ?_
  refine wp_region_lit ?_
  refine omv R rfl rfl fun a R => ?_
  refine omv R rfl rfl fun a R => ?_
  refine op_call R (rn_calls R rfl cf38) rfl ?_
  refine call_mono (s_levyref19_Disk_place _ _ _ _ h) ?_
  rintro _ w53 ⟨x23_4_0, x23_4_1, rfl, h⟩ a R
  refine omv R rfl rfl fun a R => ?_
  refine op_val R (rn_ext R rfl rfl) rfl fun a R => ?_
  refine op_val R (rn_ext R rfl rfl) rfl fun a R => ?_
  refine oas R rfl rfl fun a R => ?_
  refine oas R rfl rfl fun a R => ?_
  refine wpList_nil ?_
  refine then_normal ?_
  refine wp_seq ?_
  refine wp_region_lit ?_
  refine oas R rfl rfl fun a R => ?_
  refine wpList_nil ?_
  refine then_normal ?_
  refine seq_join (fun a w => ∃ y5_10 : Int, Rep a 99 [(0, .pointer x0), (1, .string x1), (2, Sl.val x2), (8, .int .i64 x23_4_0), (9, .bool x23_4_1), (10, .int .i64 y5_10)] [] ∧ levyref19_Disk_Append.k5 x0 x1 x2 x23_4_0 x23_4_1 y5_10 Q w) ?_ ?_
  ·refine wp_seq ?_
   refine wp_region_lit ?_
   refine omv R rfl rfl fun a R => ?_
   refine wpList_nil ?_
   refine then_normal ?_
   rcases ite_cases h with ⟨g46, h⟩ | ⟨g46, h⟩
   ·refine wp_condT R (congrArg (fun b => some (Value.bool b)) g46) ?_
    refine wp_region_lit ?_
    refine omv R rfl rfl fun a R => ?_
    obtain ⟨x28_47, cx28_47, h⟩ := h
    refine onl R rfl cx28_47 rfl fun a R => ?_
    refine ofd R rfl fd100_0 rfl fun a R => ?_
    obtain ⟨x30_48, cx30_48, h⟩ := h
    refine old R rfl Try.underlying22 rfl cx30_48 rfl fun a R => ?_
    refine omv R rfl rfl fun a R => ?_
    obtain ⟨b49, x32_50, p49, i49, j49, e49, h⟩ := ix_e h
    refine op_val (v := .pointer (some x32_50)) R (by rw [e49]; exact rn_ixs (x := (.tmp 30)) (y := (.tmp 31)) R rfl p49 rfl Try.underlying22 sz74 i49 j49) rfl fun a R => ?_
    refine ofd R rfl fd74_1 rfl fun a R => ?_
    obtain ⟨x34_51, cx34_51, h⟩ := h
    refine old R rfl Try.underlying34 rfl cx34_51 rfl fun a R => ?_
    refine op_val R (rn_len R rfl Try.underlying34) rfl fun a R => ?_
    refine oas R rfl rfl fun a R => ?_
    refine wpList_nil ?_
    refine then_normal ?_
    exact ⟨((x34_51.len : Nat) : Int), R.weak ⟨rfl, rfl, rfl, rfl, rfl, rfl, trivial⟩, h⟩
   ·refine wp_condF R (congrArg (fun b => some (Value.bool b)) g46) ?_
    refine wp_skip ?_
    refine then_normal ?_
    exact ⟨0, R.weak ⟨rfl, rfl, rfl, rfl, rfl, rfl, trivial⟩, h⟩
  ·rintro a w ⟨y5_10, R, h⟩
   unfold levyref19_Disk_Append.k5 at h
   refine wp_seq ?_
   refine seq_join (fun a w => ∃ y6_52 : Bool, Rep a 99 [(0, .pointer x0), (1, .string x1), (2, Sl.val x2), (8, .int .i64 x23_4_0), (9, .bool x23_4_1), (52, .bool y6_52)] [] ∧ levyref19_Disk_Append.k6 x0 x1 x2 x23_4_0 x23_4_1 y6_52 Q w) ?_ ?_
   ·refine wp_region_lit ?_
    refine omv R rfl rfl fun a R => ?_
    refine omv R rfl rfl fun a R => ?_
    refine op_val R (rn_len R rfl Try.underlying34) rfl fun a R => ?_
    refine op_val R (rn_bin (v := .int .i64 (IntKind.i64.wrap (y5_10 + ((x2.len : Nat) : Int)))) R rfl rfl rfl) rfl fun a R => ?_
    refine op_val R (rn_bin (v := .bool (decide ((IntKind.i64.wrap (y5_10 + ((x2.len : Nat) : Int))) > 2097152))) R rfl rfl rfl) rfl fun a R => ?_
    refine omv R rfl rfl fun a R => ?_
    rcases ite_cases h with ⟨g40, h⟩ | ⟨g40, h⟩
    ·refine op_pass R rfl rfl rfl (nft g40) (fun a R => ?_) (by intro s hs; cases hs; rfl)
     refine op_pass R rfl rfl rfl (nft g40) (fun a R => ?_) (by intro s hs; cases hs; rfl)
     refine op_pass R rfl rfl rfl (nft g40) (fun a R => ?_) (by intro s hs; cases hs; rfl)
     refine op_pass0 R rfl rfl rfl (fun a R => ?_) (by intro s hs; cases hs; rfl)
     refine op_pass0 R rfl rfl rfl (fun a R => ?_) (by intro s hs; cases hs; rfl)
     refine op_pass0 R rfl rfl rfl (fun a R => ?_) (by intro s hs; cases hs; rfl)
     refine op_pass0 R rfl rfl rfl (fun a R => ?_) (by intro s hs; cases hs; rfl)
     refine op_pass0 R rfl rfl rfl (fun a R => ?_) (by intro s hs; cases hs; rfl)
     refine op_pass0 R rfl rfl rfl (fun a R => ?_) (by intro s hs; cases hs; rfl)
     refine op_pass R rfl rfl rfl (nft g40) (fun a R => ?_) (by intro s hs; cases hs; rfl)
     refine op_val R (rn_pickT R rfl g40 rfl) rfl fun a R => ?_
     refine wpList_nil ?_
     refine then_normal ?_
     exact ⟨true, R.weak ⟨rfl, rfl, rfl, rfl, rfl, rfl, trivial⟩, h⟩
    ·refine op_guard R rfl rfl rfl g40 ?_
     refine omv R rfl rfl fun a R => ?_
     refine op_guard R rfl rfl rfl g40 ?_
     refine op_val R (rn_un (v := .bool (!x23_4_1)) R rfl rfl) rfl fun a R => ?_
     refine op_guard R rfl rfl rfl g40 ?_
     refine omv R rfl rfl fun a R => ?_
     rcases ite_cases h with ⟨g41, h⟩ | ⟨g41, h⟩
     ·refine op_pass R rfl rfl rfl (ntf (nf g41)) (fun a R => ?_) (by intro s hs; cases hs; rfl)
      refine op_pass R rfl rfl rfl (ntf (nf g41)) (fun a R => ?_) (by intro s hs; cases hs; rfl)
      refine op_pass R rfl rfl rfl (ntf (nf g41)) (fun a R => ?_) (by intro s hs; cases hs; rfl)
      refine op_pass R rfl rfl rfl (ntf (nf g41)) (fun a R => ?_) (by intro s hs; cases hs; rfl)
      refine op_pass R rfl rfl rfl (ntf (nf g41)) (fun a R => ?_) (by intro s hs; cases hs; rfl)
      refine op_pass R rfl rfl rfl (ntf (nf g41)) (fun a R => ?_) (by intro s hs; cases hs; rfl)
      refine op_guard R rfl rfl rfl g40 ?_
      refine op_val R (rn_pickF R rfl (nf g41) rfl) rfl fun a R => ?_
      refine op_val R (rn_pickF R rfl g40 rfl) rfl fun a R => ?_
      refine wpList_nil ?_
      refine then_normal ?_
      exact ⟨false, R.weak ⟨rfl, rfl, rfl, rfl, rfl, rfl, trivial⟩, h⟩
     ·refine op_guard R rfl rfl rfl (nt g41) ?_
      refine omv R rfl rfl fun a R => ?_
      refine op_guard R rfl rfl rfl (nt g41) ?_
      obtain ⟨x46_42, cx46_42, h⟩ := h
      refine onl R rfl cx46_42 rfl fun a R => ?_
      refine op_guard R rfl rfl rfl (nt g41) ?_
      refine ofd R rfl fd100_0 rfl fun a R => ?_
      refine op_guard R rfl rfl rfl (nt g41) ?_
      obtain ⟨x48_43, cx48_43, h⟩ := h
      refine old R rfl Try.underlying22 rfl cx48_43 rfl fun a R => ?_
      refine op_guard R rfl rfl rfl (nt g41) ?_
      refine op_val R (rn_len R rfl Try.underlying22) rfl fun a R => ?_
      refine op_guard R rfl rfl rfl (nt g41) ?_
      refine op_val R (rn_bin (v := .bool (decide (((x48_43.len : Nat) : Int) ≥ 40))) R rfl rfl rfl) rfl fun a R => ?_
      refine op_guard R rfl rfl rfl g40 ?_
      refine op_val R (rn_pickT R rfl (nt g41) rfl) rfl fun a R => ?_
      refine op_val R (rn_pickF R rfl g40 rfl) rfl fun a R => ?_
      refine wpList_nil ?_
      refine then_normal ?_
      exact ⟨(decide (((x48_43.len : Nat) : Int) ≥ 40)), R.weak ⟨rfl, rfl, rfl, rfl, rfl, rfl, trivial⟩, h⟩
   ·rintro a w ⟨y6_52, R, h⟩
    unfold levyref19_Disk_Append.k6 at h
    rcases ite_cases h with ⟨g7, h⟩ | ⟨g7, h⟩
    ·refine wp_condT R (congrArg (fun b => some (Value.bool b)) g7) ?_
     refine wp_seq ?_
     refine wp_region_lit ?_
     refine oas R rfl rfl fun a R => ?_
     refine wpList_nil ?_
     refine then_normal ?_
     refine wp_ret ?_
     refine then_ret ?_
     exact post_ret R rfl rfl ⟨194, rfl, h⟩
    ·refine wp_condF R (congrArg (fun b => some (Value.bool b)) g7) ?_
     refine wp_skip ?_
     refine then_normal ?_
     refine wp_seq ?_
     refine wp_region_lit ?_
     refine omv R rfl rfl fun a R => ?_
     refine omv R rfl rfl fun a R => ?_
     refine op_val R (rn_len R rfl Try.underlying34) rfl fun a R => ?_
     refine op_val R (rn_bin (v := .int .i64 (IntKind.i64.wrap (((x2.len : Nat) : Int) + 1))) R rfl rfl rfl) rfl fun a R => ?_
     refine op_call R (rn_calls R rfl cf66) rfl ?_
     refine call_mono (s_levyref19_Disk_pays _ _ _ _ h) ?_
     rintro _ w36 ⟨x58_10_0, x58_10_1, rfl, h⟩ a R
     refine omv R rfl rfl fun a R => ?_
     refine op_val R (rn_ext R rfl rfl) rfl fun a R => ?_
     refine op_val R (rn_ext R rfl rfl) rfl fun a R => ?_
     refine oas R rfl rfl fun a R => ?_
     refine oas R rfl rfl fun a R => ?_
     refine wpList_nil ?_
     refine then_normal ?_
     refine seq_join (fun a w => ∃ y11_12 : Int, Rep a 99 [(0, .pointer x0), (1, .string x1), (2, Sl.val x2), (8, .int .i64 x23_4_0), (9, .bool x23_4_1), (11, .bool x58_10_0), (12, .int .i64 y11_12)] [] ∧ levyref19_Disk_Append.k11 x0 x1 x2 x23_4_0 x23_4_1 x58_10_0 y11_12 Q w) ?_ ?_
     ·refine wp_seq ?_
      refine wp_region_lit ?_
      refine omv R rfl rfl fun a R => ?_
      refine wpList_nil ?_
      refine then_normal ?_
      rcases ite_cases h with ⟨g34, h⟩ | ⟨g34, h⟩
      ·refine wp_condT R (congrArg (fun b => some (Value.bool b)) g34) ?_
       refine wp_region_lit ?_
       refine omv R rfl rfl fun a R => ?_
       refine op_val R (rn_len R rfl Try.underlying34) rfl fun a R => ?_
       refine oas R rfl rfl fun a R => ?_
       refine wpList_nil ?_
       refine then_normal ?_
       exact ⟨((x2.len : Nat) : Int), R.weak ⟨rfl, rfl, rfl, rfl, rfl, rfl, rfl, trivial⟩, h⟩
      ·refine wp_condF R (congrArg (fun b => some (Value.bool b)) g34) ?_
       refine wp_skip ?_
       refine then_normal ?_
       exact ⟨x58_10_1, R.weak ⟨rfl, rfl, rfl, rfl, rfl, rfl, rfl, trivial⟩, h⟩
     ·rintro a w ⟨y11_12, R, h⟩
      unfold levyref19_Disk_Append.k11 at h
      refine seq_join (fun a w => ∃ y12_8 : Int, Rep a 99 [(0, .pointer x0), (2, Sl.val x2), (8, .int .i64 y12_8), (11, .bool x58_10_0), (12, .int .i64 y11_12)] [] ∧ levyref19_Disk_Append.k12 x0 x2 x58_10_0 y11_12 y12_8 Q w) ?_ ?_
      ·refine wp_seq ?_
       refine wp_region_lit ?_
       refine omv R rfl rfl fun a R => ?_
       refine op_val R (rn_un (v := .bool (!x23_4_1)) R rfl rfl) rfl fun a R => ?_
       refine wpList_nil ?_
       refine then_normal ?_
       rcases ite_cases h with ⟨g29, h⟩ | ⟨g29, h⟩
       ·refine wp_condF R (congrArg (fun b => some (Value.bool b)) (nf g29)) ?_
        refine wp_skip ?_
        refine then_normal ?_
        exact ⟨x23_4_0, R.weak ⟨rfl, rfl, rfl, rfl, rfl, trivial⟩, h⟩
       ·refine wp_condT R (congrArg (fun b => some (Value.bool b)) (nt g29)) ?_
        refine wp_seq ?_
        refine wp_region_lit ?_
        refine omv R rfl rfl fun a R => ?_
        refine omv R rfl rfl fun a R => ?_
        refine op_val R (rn_build (r := .agg #[.string x1, .slice none 0 0, .int .i64 0]) R rfl (fun w => by kernel_rfl)) rfl fun a R => ?_
        refine op_call R (rn_calls R rfl cf39) rfl ?_
        refine call_mono (s_levyref19_Disk_add _ _ (Sl.mk none 0 0) _ _ _ h) ?_
        rintro _ w33 ⟨rfl, h⟩ a R
        refine wpList_nil ?_
        refine then_normal ?_
        refine wp_region_lit ?_
        refine omv R rfl rfl fun a R => ?_
        refine omv R rfl rfl fun a R => ?_
        refine op_call R (rn_calls R rfl cf38) rfl ?_
        refine call_mono (s_levyref19_Disk_place _ _ _ _ h) ?_
        rintro _ w32 ⟨x73_31_0, x73_31_1, rfl, h⟩ a R
        refine omv R rfl rfl fun a R => ?_
        refine op_val R (rn_ext R rfl rfl) rfl fun a R => ?_
        refine op_val R (rn_ext R rfl rfl) rfl fun a R => ?_
        refine oas R rfl rfl fun a R => ?_
        refine wpList_nil ?_
        refine then_normal ?_
        exact ⟨x73_31_0, R.weak ⟨rfl, rfl, rfl, rfl, rfl, trivial⟩, h⟩
      ·rintro a w ⟨y12_8, R, h⟩
       unfold levyref19_Disk_Append.k12 at h
       refine wp_seq ?_
       refine wp_region_lit ?_
       refine omv R rfl rfl fun a R => ?_
       obtain ⟨x77_13, cx77_13, h⟩ := h
       refine onl R rfl cx77_13 rfl fun a R => ?_
       refine ofd R rfl fd100_0 rfl fun a R => ?_
       obtain ⟨x79_14, cx79_14, h⟩ := h
       refine old R rfl Try.underlying22 rfl cx79_14 rfl fun a R => ?_
       refine omv R rfl rfl fun a R => ?_
       obtain ⟨b15, x81_16, p15, i15, j15, e15, h⟩ := ix_e h
       refine op_val (v := .pointer (some x81_16)) R (by rw [e15]; exact rn_ixs (x := (.tmp 79)) (y := (.tmp 80)) R rfl p15 rfl Try.underlying22 sz74 i15 j15) rfl fun a R => ?_
       refine ofd R rfl fd74_1 rfl fun a R => ?_
       obtain ⟨x83_17, cx83_17, h⟩ := h
       refine old R rfl Try.underlying34 rfl cx83_17 rfl fun a R => ?_
       refine op_call R (rn_calls R rfl cf36) rfl ?_
       refine call_mono (s_levyref19_copied _ _ _ h) ?_
       rintro _ w28 ⟨x84_18_0, rfl, h⟩ a R
       refine oas R rfl rfl fun a R => ?_
       refine wpList_nil ?_
       refine then_normal ?_
       refine wp_seq ?_
       refine region_start mo fun inv => ?_
       obtain ⟨x86_19, cx86_19, h⟩ := h
       obtain ⟨x88_20, cx88_20, h⟩ := h
       obtain ⟨s21_0, s21_1, h⟩ := h
       refine seg_held (n := 10) (f := 10) (g := 3) (fun w : World => w.cell? (x86_19.add 0) = some (Sl.val x88_20) ∧ True) (by kernel_rfl) fun inv => ?_
       have hS0 : (fun w : World => w.cell? (x86_19.add 0) = some (Sl.val x88_20) ∧ True) _ := ⟨cx88_20, trivial⟩
       refine dr_val (i := 0) R (waits_dom (by kernel_rfl) (by kernel_rfl)) (by kernel_rfl) inv rfl (by decide) (by kernel_rfl) (by kernel_rfl) (fun _ _ _ h => h) wanted_none (fun w' hS => rn_mv R rfl) hS0 rfl fun inv a R => ?_
       refine dr_val (i := 1) R (waits_dom (by kernel_rfl) (by kernel_rfl)) (by kernel_rfl) inv rfl (by decide) (by kernel_rfl) (by kernel_rfl) (fun _ _ _ h => h) wanted_none (fun w' hS => rn_nil R rfl cx86_19) hS0 rfl fun inv a R => ?_
       refine dr_val (i := 2) R (waits_dom (by kernel_rfl) (by kernel_rfl)) (by kernel_rfl) inv rfl (by decide) (by kernel_rfl) (by kernel_rfl) (fun _ _ _ h => h) wanted_none (fun w' hS => rn_fld R rfl fd100_0) hS0 rfl fun inv a R => ?_
       refine dr_val (i := 3) R (waits_dom (by kernel_rfl) (by kernel_rfl)) (by kernel_rfl) inv rfl (by decide) (by kernel_rfl) (by kernel_rfl) (fun _ _ _ h => h) wanted_none (fun w' hS => rn_ld R rfl Try.underlying22 rfl (hS.1)) hS0 rfl fun inv a R => ?_
       refine dr_val (i := 4) R (waits_dom (by kernel_rfl) (by kernel_rfl)) (by kernel_rfl) inv rfl (by decide) (by kernel_rfl) (by kernel_rfl) (fun _ _ _ h => h) wanted_none (fun w' hS => rn_mv R rfl) hS0 rfl fun inv a R => ?_
       refine dr_val (i := 5) R (waits_dom (by kernel_rfl) (by kernel_rfl)) (by kernel_rfl) inv rfl (by decide) (by kernel_rfl) (by kernel_rfl) (fun _ _ _ h => h) wanted_none (fun w' hS => rn_mv R rfl) hS0 rfl fun inv a R => ?_
       refine dr_val (i := 6) R (waits_dom (by kernel_rfl) (by kernel_rfl)) (by kernel_rfl) inv rfl (by decide) (by kernel_rfl) (by kernel_rfl) (fun _ _ _ h => h) wanted_none (fun w' hS => rn_mv R rfl) hS0 rfl fun inv a R => ?_
       refine dr_val (i := 7) R (waits_dom (by kernel_rfl) (by kernel_rfl)) (by kernel_rfl) inv rfl (by decide) (by kernel_rfl) (by kernel_rfl) (fun _ _ _ h => h) wanted_none (fun w' hS => rn_mv R rfl) hS0 rfl fun inv a R => ?_
       refine dr_val (i := 8) R (waits_dom (by kernel_rfl) (by kernel_rfl)) (by kernel_rfl) inv rfl (by decide) (by kernel_rfl) (by kernel_rfl) (fun _ _ _ h => h) wanted_none (fun w' hS => rn_sl R rfl rfl (evo R rfl) rfl (fun w => bounds2 (lo := none) (hi := (some (.i64, y11_12))) 0 (Int.toNat y11_12) ⟨s21_0, s21_1, rfl⟩ rfl w) Try.underlying34 sz5) hS0 rfl fun inv a R => ?_
       obtain ⟨x94_23, w22, cx94_23, h⟩ := h
       obtain ⟨hS0, h⟩ := h
       refine dr_run (i := 9) R inv rfl (by decide) (by kernel_rfl) wanted_none (rn_bi (vs := [Sl.val x84_18_0, Sl.val (cutSl ⟨x2.p, x2.len, x2.cap⟩ 1 0 (Int.toNat y11_12) x2.cap)]) R rfl (fun _ => rfl) cx94_23) hS0 rfl fun inv a R => ?_
       refine seg_end (by kernel_rfl) ?_
       refine any_tail 10 (by kernel_rfl) ?_
       obtain ⟨b24, x95_25, p24, i24, j24, e24, h⟩ := ix_e h
       refine op_val (v := .pointer (some x95_25)) R (by rw [e24]; exact rn_ixs (x := (.tmp 88)) (y := (.tmp 89)) R rfl p24 rfl Try.underlying22 sz74 i24 j24) rfl fun a R => ?_
       refine ofd R rfl fd74_1 rfl fun a R => ?_
       obtain ⟨q26, f26, h⟩ := h
       refine op_unit R (rn_st R rfl rfl rfl sz34 q26 f26) fun a R => ?_
       refine wpList_nil ?_
       refine then_normal ?_
       refine wp_seq ?_
       refine wp_seq ?_
       refine wp_region_lit ?_
       refine omv R rfl rfl fun a R => ?_
       refine op_val R (rn_un (v := .bool (!x58_10_0)) R rfl rfl) rfl fun a R => ?_
       refine wpList_nil ?_
       refine then_normal ?_
       rcases ite_cases h with ⟨g27, h⟩ | ⟨g27, h⟩
       ·refine wp_condF R (congrArg (fun b => some (Value.bool b)) (nf g27)) ?_
        refine wp_skip ?_
        refine then_normal ?_
        refine wp_seq ?_
        refine wp_region_lit ?_
        refine oas R rfl rfl fun a R => ?_
        refine wpList_nil ?_
        refine then_normal ?_
        refine wp_ret ?_
        exact post_ret R rfl rfl ⟨0, rfl, h⟩
       ·refine wp_condT R (congrArg (fun b => some (Value.bool b)) (nt g27)) ?_
        refine wp_seq ?_
        refine wp_region_lit ?_
        refine oas R rfl rfl fun a R => ?_
        refine wpList_nil ?_
        refine then_normal ?_
        refine wp_ret ?_
        refine then_ret ?_
        exact post_ret R rfl rfl ⟨190, rfl, h⟩
theorem s_levyref19_Disk_Append (x0 : Option Addr) (x1 : ByteArray) (x2 : Sl) (Q : Int → World → Prop) (w : World) (h : levyref19_Disk_Append x0 x1 x2 Q w) :
    Calls Try.prog 16 #[.pointer x0, .string x1, Sl.val x2] w (Rets fun v w => ∃ r0 : Int, v = (.int .i64 r0 : Value) ∧ Q r0 w) :=
  calls_body (args := [.pointer x0, .string x1, Sl.val x2]) Try.func16 rfl rfl (Nat.le_of_ble_eq_true rfl) (L := [(0, .pointer x0), (1, .string x1), (2, Sl.val x2)]) (by simp [starts]) (b_levyref19_Disk_Append x0 x1 x2 Q w h rfl)

end Go.Proofs.Ytjnifnlkicajhaa.Fs
