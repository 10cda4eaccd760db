/-
  Written by a program of this claim (wip/gen/gen.py): what each Go function asks of the world, as a plain predicate, and that it is enough. No condition is put on any statement here.
-/
import Derived.Test.YtjnifnlkicajhaaDoorVcDraw
import Derived.Test.YtjnifnlkicajhaaDoorFacts
set_option linter.unusedVariables false
set_option maxRecDepth 100000
set_option maxHeartbeats 2000000
namespace Go.Proofs.YtjnifnlkicajhaaDoor.Fs
open Go Vc

/-! slices.Clone[[]byte,byte] -/

def slices_Clone_byte_byte (x0 : Sl) (Q : Sl → World → Prop) (w : World) : Prop :=
  (if (Option.isNone x0.p) = true then Q (Sl.mk none 0 0) w else al w (.cells #[] 5) fun x5_2 w => rn Tryd.prog Sl.val (Builtin.append_ #[29, 29] 29 [.slice (some x5_2) 0 0, Sl.val x0].toArray) w fun x7_5 w => Q x7_5 w)

theorem b_slices_Clone_byte_byte (x0 : Sl) (Q : Sl → World → Prop) (w : World) (h : slices_Clone_byte_byte x0 Q w) {c : Code} (hb : Tryd.f29.body = some c) :
 ∀ a, Rep a 8 [(0, Sl.val x0)] [] → c.wp Tryd.prog (bodyPost Tryd.prog Tryd.f29 (Rets fun v w => ∃ r0 : Sl, v = (Sl.val r0 : Value) ∧ Q r0 w)) a w := by
 intro a R
 obtain rfl := Option.some.inj hb
 unfold slices_Clone_byte_byte at h
 refine wp_seq ?_
 refine wp_region_lit ?_
 refine oas R rfl rfl fun a R => ?_
 refine wpList_nil ?_
 refine then_normal ?_
 refine wp_seq ?_
 refine wp_seq ?_
 refine wp_region_lit ?_
 refine omv R rfl rfl fun a R => ?_
 refine op_val R (rn_nilSE R rfl rfl Tryd.underlying29) rfl fun a R => ?_
 refine wpList_nil ?_
 refine then_normal ?_
 rcases ite_cases h with ⟨g1, h⟩ | ⟨g1, h⟩
 ·refine wp_condT R (congrArg (fun b => some (Value.bool b)) g1) ?_
  refine wp_seq ?_
  refine wp_region_lit ?_
  refine oas R rfl rfl fun a R => ?_
  refine wpList_nil ?_
  refine then_normal ?_
  refine wp_ret ?_
  refine then_ret ?_
  exact post_ret R rfl rfl ⟨(Sl.mk none 0 0), rfl, h⟩
 ·refine wp_condF R (congrArg (fun b => some (Value.bool b)) g1) ?_
  refine wp_skip ?_
  refine then_normal ?_
  refine wp_seq ?_
  refine wp_region_lit ?_
  obtain ⟨x5_2, e3, h⟩ := al_e h
  refine op_val (v := .slice (some x5_2) 0 0) R (by rw [e3]; exact rn_buildSlice (t := 29) (len := 0) (xs := []) (cells := #[]) (e := 5) R rfl (fun w => by kernel_rfl)) rfl fun a R => ?_
  refine omv R rfl rfl fun a R => ?_
  obtain ⟨x7_5, w4, cx7_5, h⟩ := h
  refine op_val R (rn_bi (vs := [.slice (some x5_2) 0 0, Sl.val x0]) R rfl (fun _ => rfl) cx7_5) rfl fun a R => ?_
  refine oas R rfl rfl fun a R => ?_
  refine wpList_nil ?_
  refine then_normal ?_
  refine wp_ret ?_
  exact post_ret R rfl rfl ⟨x7_5, rfl, h⟩
theorem s_slices_Clone_byte_byte (x0 : Sl) (Q : Sl → World → Prop) (w : World) (h : slices_Clone_byte_byte x0 Q w) :
    Calls Tryd.prog 29 #[Sl.val x0] w (Rets fun v w => ∃ r0 : Sl, v = (Sl.val r0 : Value) ∧ Q r0 w) :=
  calls_body (args := [Sl.val x0]) Tryd.func29 rfl rfl (Nat.le_of_ble_eq_true rfl) (L := [(0, Sl.val x0)]) (by simp [starts]) (b_slices_Clone_byte_byte x0 Q w h rfl)

/-! drawer.named -/

def drawer_named.k3  (Q : Bool → World → Prop) (w : World) : Prop :=
  Q true w

def drawer_named.k9 (x0 : ByteArray) (z5_15 : Int) (K5 : Int → World → Prop) (y9_39 : Bool) (Q : Bool → World → Prop) (w : World) : Prop :=
  (if y9_39 = true then Q false w else K5 (IntKind.i64.wrap (z5_15 + 1)) w)

def drawer_named.l5 (x0 : ByteArray) (z5_15 : Int) (Q : Bool → World → Prop) (K5 : Int → World → Prop) (w : World) : Prop :=
  (if (decide (z5_15 < ((ByteArray.size x0 : Nat) : Int))) = true then ((0 : Int) ≤ z5_15 ∧ z5_15 < (ByteArray.size x0 : Int) ∧ (if (decide ((byteAt x0 z5_15) ≥ 97)) = true then (if (decide ((byteAt x0 z5_15) ≤ 122)) = true then drawer_named.k9 x0 z5_15 K5 (!true) Q w else (if (decide ((byteAt x0 z5_15) ≥ 48)) = true then (if (decide ((byteAt x0 z5_15) ≤ 57)) = true then drawer_named.k9 x0 z5_15 K5 (!true) Q w else drawer_named.k9 x0 z5_15 K5 (!((byteAt x0 z5_15) == 45)) Q w) else drawer_named.k9 x0 z5_15 K5 (!((byteAt x0 z5_15) == 45)) Q w)) else (if (decide ((byteAt x0 z5_15) ≥ 48)) = true then (if (decide ((byteAt x0 z5_15) ≤ 57)) = true then drawer_named.k9 x0 z5_15 K5 (!true) Q w else drawer_named.k9 x0 z5_15 K5 (!((byteAt x0 z5_15) == 45)) Q w) else drawer_named.k9 x0 z5_15 K5 (!((byteAt x0 z5_15) == 45)) Q w))) else drawer_named.k3  Q w)

def drawer_named.k1 (x0 : ByteArray) (y1_12 : Bool) (Q : Bool → World → Prop) (w : World) : Prop :=
  (if y1_12 = true then Q false w else (Fix (σ := Int) (fun Ks s w => drawer_named.l5 x0 s Q (fun z5_15 w => Ks z5_15 w) w) 0 w))

def drawer_named (x0 : ByteArray) (Q : Bool → World → Prop) (w : World) : Prop :=
  (if (decide (((ByteArray.size x0 : Nat) : Int) < 1)) = true then drawer_named.k1 x0 true Q w else drawer_named.k1 x0 (decide (((ByteArray.size x0 : Nat) : Int) > 12)) Q w)

theorem b_drawer_named (x0 : ByteArray) (Q : Bool → World → Prop) (w : World) (h : drawer_named x0 Q w) {c : Code} (hb : Tryd.f35.body = some c) :
 ∀ a, Rep a 41 [(0, .string x0)] [] → c.wp Tryd.prog (bodyPost Tryd.prog Tryd.f35 (Rets fun v w => ∃ r0 : Bool, v = (.bool r0 : Value) ∧ Q r0 w)) a w := by
 intro a R
 obtain rfl := Option.some.inj hb
 unfold drawer_named at h
 refine wp_seq ?_
 refine wp_region_lit ?_
 refine oas R rfl rfl fun a R => ?_
 refine wpList_nil ?_
 refine then_normal ?_
 refine wp_seq ?_
 refine seq_join (fun a w => ∃ y1_12 : Bool, Rep a 41 [(0, .string x0), (12, .bool y1_12)] [] ∧ drawer_named.k1 x0 y1_12 Q w) ?_ ?_
 ·refine wp_region_lit ?_
  refine omv R rfl rfl fun a R => ?_
  refine op_val R (rn_lenS R rfl Tryd.underlying9) rfl fun a R => ?_
  refine op_val R (rn_bin (v := .bool (decide (((ByteArray.size x0 : Nat) : Int) < 1))) R rfl rfl rfl) rfl fun a R => ?_
  refine omv R rfl rfl fun a R => ?_
  rcases ite_cases h with ⟨g30, h⟩ | ⟨g30, h⟩
  ·refine op_pass R rfl rfl rfl (nft g30) (fun a R => ?_) (by intro s hs; cases hs; rfl)
   refine op_pass R rfl rfl rfl (nft g30) (fun a R => ?_) (by intro s hs; cases hs; rfl)
   refine op_pass R rfl rfl rfl (nft g30) (fun a R => ?_) (by intro s hs; cases hs; rfl)
   refine op_val R (rn_pickT R rfl g30 rfl) rfl fun a R => ?_
   refine wpList_nil ?_
   refine then_normal ?_
   exact ⟨true, R.weak ⟨rfl, rfl, trivial⟩, h⟩
  ·refine op_guard R rfl rfl rfl g30 ?_
   refine omv R rfl rfl fun a R => ?_
   refine op_guard R rfl rfl rfl g30 ?_
   refine op_val R (rn_lenS R rfl Tryd.underlying9) rfl fun a R => ?_
   refine op_guard R rfl rfl rfl g30 ?_
   refine op_val R (rn_bin (v := .bool (decide (((ByteArray.size x0 : Nat) : Int) > 12))) R rfl rfl rfl) rfl fun a R => ?_
   refine op_val R (rn_pickF R rfl g30 rfl) rfl fun a R => ?_
   refine wpList_nil ?_
   refine then_normal ?_
   exact ⟨(decide (((ByteArray.size x0 : Nat) : Int) > 12)), R.weak ⟨rfl, rfl, trivial⟩, h⟩
 ·rintro a w ⟨y1_12, R, h⟩
  unfold drawer_named.k1 at h
  rcases ite_cases h with ⟨g2, h⟩ | ⟨g2, h⟩
  ·refine wp_condT R (congrArg (fun b => some (Value.bool b)) g2) ?_
   refine wp_seq ?_
   refine wp_region_lit ?_
   refine oas R rfl rfl fun a R => ?_
   refine wpList_nil ?_
   refine then_normal ?_
   refine wp_ret ?_
   refine then_ret ?_
   exact post_ret R rfl rfl ⟨false, rfl, h⟩
  ·refine wp_condF R (congrArg (fun b => some (Value.bool b)) g2) ?_
   refine wp_skip ?_
   refine then_normal ?_
   refine seq_join (fun a w => Rep a 41 [] [] ∧ drawer_named.k3  Q w) ?_ ?_
   ·refine wp_seq ?_
    refine wp_region_lit ?_
    refine omv R rfl rfl fun a R => ?_
    refine op_val R (rn_lenS R rfl Tryd.underlying9) rfl fun a R => ?_
    refine omv R rfl rfl fun a R => ?_
    refine wpList_nil ?_
    refine then_normal ?_
    refine wp_block ?_
    refine wp_fix (σ := Int) (fun s a => Rep a 41 [(0, .string x0), (14, .int .i64 ((ByteArray.size x0 : Nat) : Int)), (15, .int .i64 s)] []) h (R.weak ⟨rfl, rfl, rfl, trivial⟩) ?_
    rintro Ks C z5_15 a w hC R h
    have R : Rep a 41 [(0, .string x0), (14, .int .i64 ((ByteArray.size x0 : Nat) : Int)), (15, .int .i64 z5_15)] [] := R
    have h : drawer_named.l5 x0 z5_15 Q (fun z5_15 w => Ks z5_15 w) w := h
    generalize hK5 : (fun z5_15 w => Ks z5_15 w) = K5 at h
    unfold drawer_named.l5 at h
    refine wp_seq ?_
    refine wp_region_lit ?_
    refine op_val R (rn_bin (v := .bool (decide (z5_15 < ((ByteArray.size x0 : Nat) : Int)))) R rfl rfl rfl) rfl fun a R => ?_
    refine wpList_nil ?_
    refine then_normal ?_
    refine wp_seq ?_
    rcases ite_cases h with ⟨g7, h⟩ | ⟨g7, h⟩
    ·refine wp_condT R (congrArg (fun b => some (Value.bool b)) g7) ?_
     refine wp_skip ?_
     refine then_normal ?_
     refine wp_seq ?_
     refine wp_block ?_
     refine wp_seq ?_
     refine wp_region_lit ?_
     refine omv R rfl rfl fun a R => ?_
     refine oas R rfl rfl fun a R => ?_
     refine wpList_nil ?_
     refine then_normal ?_
     refine wp_seq ?_
     refine wp_region_lit ?_
     refine omv R rfl rfl fun a R => ?_
     refine omv R rfl rfl fun a R => ?_
     obtain ⟨i8, j8, h⟩ := h
     refine op_val R (rn_ixS R rfl rfl Tryd.underlying9 i8 j8) rfl fun a R => ?_
     refine oas R rfl rfl fun a R => ?_
     refine wpList_nil ?_
     refine then_normal ?_
     refine seq_join (fun a w => ∃ y9_39 : Bool, Rep a 41 [(0, .string x0), (14, .int .i64 ((ByteArray.size x0 : Nat) : Int)), (15, .int .i64 z5_15), (39, .bool y9_39)] [] ∧ drawer_named.k9 x0 z5_15 K5 y9_39 Q w) ?_ ?_
     ·refine wp_region_lit ?_
      refine omv R rfl rfl fun a R => ?_
      refine op_val R (rn_bin (v := .bool (decide ((byteAt x0 z5_15) ≥ 97))) R rfl rfl rfl) rfl fun a R => ?_
      refine omv R rfl rfl fun a R => ?_
      rcases ite_cases h with ⟨g13, h⟩ | ⟨g13, h⟩
      ·refine op_guard R rfl rfl rfl g13 ?_
       refine omv R rfl rfl fun a R => ?_
       refine op_guard R rfl rfl rfl g13 ?_
       refine op_val R (rn_bin (v := .bool (decide ((byteAt x0 z5_15) ≤ 122))) R rfl rfl rfl) rfl fun a R => ?_
       refine op_val R (rn_pickT R rfl g13 rfl) rfl fun a R => ?_
       refine omv R rfl rfl fun a R => ?_
       rcases ite_cases h with ⟨g15, h⟩ | ⟨g15, h⟩
       ·refine op_pass R rfl rfl rfl (nft g15) (fun a R => ?_) (by intro s hs; cases hs; rfl)
        refine op_pass R rfl rfl rfl (nft g15) (fun a R => ?_) (by intro s hs; cases hs; rfl)
        refine op_pass R rfl rfl rfl (nft g15) (fun a R => ?_) (by intro s hs; cases hs; rfl)
        refine op_pass0 R rfl rfl rfl (fun a R => ?_) (by intro s hs; cases hs; rfl)
        refine op_pass0 R rfl rfl rfl (fun a R => ?_) (by intro s hs; cases hs; rfl)
        refine op_pass R rfl rfl rfl (nft g15) (fun a R => ?_) (by intro s hs; cases hs; rfl)
        refine op_val R (rn_pickT R rfl g15 rfl) rfl fun a R => ?_
        refine omv R rfl rfl fun a R => ?_
        refine op_pass R rfl rfl rfl (nft rfl) (fun a R => ?_) (by intro s hs; cases hs; rfl)
        refine op_pass R rfl rfl rfl (nft rfl) (fun a R => ?_) (by intro s hs; cases hs; rfl)
        refine op_val R (rn_pickT R rfl rfl rfl) rfl fun a R => ?_
        refine op_val R (rn_un (v := .bool (!true)) R rfl rfl) rfl fun a R => ?_
        refine wpList_nil ?_
        refine then_normal ?_
        exact ⟨(!true), R.weak ⟨rfl, rfl, rfl, rfl, trivial⟩, h⟩
       ·refine op_guard R rfl rfl rfl g15 ?_
        refine omv R rfl rfl fun a R => ?_
        refine op_guard R rfl rfl rfl g15 ?_
        refine op_val R (rn_bin (v := .bool (decide ((byteAt x0 z5_15) ≥ 48))) R rfl rfl rfl) rfl fun a R => ?_
        refine op_guard R rfl rfl rfl g15 ?_
        refine omv R rfl rfl fun a R => ?_
        rcases ite_cases h with ⟨g17, h⟩ | ⟨g17, h⟩
        ·refine op_guard R rfl rfl rfl g17 ?_
         refine omv R rfl rfl fun a R => ?_
         refine op_guard R rfl rfl rfl g17 ?_
         refine op_val R (rn_bin (v := .bool (decide ((byteAt x0 z5_15) ≤ 57))) R rfl rfl rfl) rfl fun a R => ?_
         refine op_guard R rfl rfl rfl g15 ?_
         refine op_val R (rn_pickT R rfl g17 rfl) rfl fun a R => ?_
         refine op_val R (rn_pickF R rfl g15 rfl) rfl fun a R => ?_
         refine omv R rfl rfl fun a R => ?_
         rcases ite_cases h with ⟨g19, h⟩ | ⟨g19, h⟩
         ·refine op_pass R rfl rfl rfl (nft g19) (fun a R => ?_) (by intro s hs; cases hs; rfl)
          refine op_pass R rfl rfl rfl (nft g19) (fun a R => ?_) (by intro s hs; cases hs; rfl)
          refine op_val R (rn_pickT R rfl g19 rfl) rfl fun a R => ?_
          refine op_val R (rn_un (v := .bool (!true)) R rfl rfl) rfl fun a R => ?_
          refine wpList_nil ?_
          refine then_normal ?_
          exact ⟨(!true), R.weak ⟨rfl, rfl, rfl, rfl, trivial⟩, h⟩
         ·refine op_guard R rfl rfl rfl g19 ?_
          refine omv R rfl rfl fun a R => ?_
          refine op_guard R rfl rfl rfl g19 ?_
          refine op_val R (rn_bin (v := .bool ((byteAt x0 z5_15) == 45)) R rfl rfl rfl) rfl fun a R => ?_
          refine op_val R (rn_pickF R rfl g19 rfl) rfl fun a R => ?_
          refine op_val R (rn_un (v := .bool (!((byteAt x0 z5_15) == 45))) R rfl rfl) rfl fun a R => ?_
          refine wpList_nil ?_
          refine then_normal ?_
          exact ⟨(!((byteAt x0 z5_15) == 45)), R.weak ⟨rfl, rfl, rfl, rfl, trivial⟩, h⟩
        ·refine op_pass R rfl rfl rfl (ntf g17) (fun a R => ?_) (by intro s hs; cases hs; rfl)
         refine op_pass R rfl rfl rfl (ntf g17) (fun a R => ?_) (by intro s hs; cases hs; rfl)
         refine op_guard R rfl rfl rfl g15 ?_
         refine op_val R (rn_pickF R rfl g17 rfl) rfl fun a R => ?_
         refine op_val R (rn_pickF R rfl g15 rfl) rfl fun a R => ?_
         refine omv R rfl rfl fun a R => ?_
         refine op_guard R rfl rfl rfl rfl ?_
         refine omv R rfl rfl fun a R => ?_
         refine op_guard R rfl rfl rfl rfl ?_
         refine op_val R (rn_bin (v := .bool ((byteAt x0 z5_15) == 45)) R rfl rfl rfl) rfl fun a R => ?_
         refine op_val R (rn_pickF R rfl rfl rfl) rfl fun a R => ?_
         refine op_val R (rn_un (v := .bool (!((byteAt x0 z5_15) == 45))) R rfl rfl) rfl fun a R => ?_
         refine wpList_nil ?_
         refine then_normal ?_
         exact ⟨(!((byteAt x0 z5_15) == 45)), R.weak ⟨rfl, rfl, rfl, rfl, trivial⟩, h⟩
      ·refine op_pass R rfl rfl rfl (ntf g13) (fun a R => ?_) (by intro s hs; cases hs; rfl)
       refine op_pass R rfl rfl rfl (ntf g13) (fun a R => ?_) (by intro s hs; cases hs; rfl)
       refine op_val R (rn_pickF R rfl g13 rfl) rfl fun a R => ?_
       refine omv R rfl rfl fun a R => ?_
       refine op_guard R rfl rfl rfl rfl ?_
       refine omv R rfl rfl fun a R => ?_
       refine op_guard R rfl rfl rfl rfl ?_
       refine op_val R (rn_bin (v := .bool (decide ((byteAt x0 z5_15) ≥ 48))) R rfl rfl rfl) rfl fun a R => ?_
       refine op_guard R rfl rfl rfl rfl ?_
       refine omv R rfl rfl fun a R => ?_
       rcases ite_cases h with ⟨g23, h⟩ | ⟨g23, h⟩
       ·refine op_guard R rfl rfl rfl g23 ?_
        refine omv R rfl rfl fun a R => ?_
        refine op_guard R rfl rfl rfl g23 ?_
        refine op_val R (rn_bin (v := .bool (decide ((byteAt x0 z5_15) ≤ 57))) R rfl rfl rfl) rfl fun a R => ?_
        refine op_guard R rfl rfl rfl rfl ?_
        refine op_val R (rn_pickT R rfl g23 rfl) rfl fun a R => ?_
        refine op_val R (rn_pickF R rfl rfl rfl) rfl fun a R => ?_
        refine omv R rfl rfl fun a R => ?_
        rcases ite_cases h with ⟨g25, h⟩ | ⟨g25, h⟩
        ·refine op_pass R rfl rfl rfl (nft g25) (fun a R => ?_) (by intro s hs; cases hs; rfl)
         refine op_pass R rfl rfl rfl (nft g25) (fun a R => ?_) (by intro s hs; cases hs; rfl)
         refine op_val R (rn_pickT R rfl g25 rfl) rfl fun a R => ?_
         refine op_val R (rn_un (v := .bool (!true)) R rfl rfl) rfl fun a R => ?_
         refine wpList_nil ?_
         refine then_normal ?_
         exact ⟨(!true), R.weak ⟨rfl, rfl, rfl, rfl, trivial⟩, h⟩
        ·refine op_guard R rfl rfl rfl g25 ?_
         refine omv R rfl rfl fun a R => ?_
         refine op_guard R rfl rfl rfl g25 ?_
         refine op_val R (rn_bin (v := .bool ((byteAt x0 z5_15) == 45)) R rfl rfl rfl) rfl fun a R => ?_
         refine op_val R (rn_pickF R rfl g25 rfl) rfl fun a R => ?_
         refine op_val R (rn_un (v := .bool (!((byteAt x0 z5_15) == 45))) R rfl rfl) rfl fun a R => ?_
         refine wpList_nil ?_
         refine then_normal ?_
         exact ⟨(!((byteAt x0 z5_15) == 45)), R.weak ⟨rfl, rfl, rfl, rfl, trivial⟩, h⟩
       ·refine op_pass R rfl rfl rfl (ntf g23) (fun a R => ?_) (by intro s hs; cases hs; rfl)
        refine op_pass R rfl rfl rfl (ntf g23) (fun a R => ?_) (by intro s hs; cases hs; rfl)
        refine op_guard R rfl rfl rfl rfl ?_
        refine op_val R (rn_pickF R rfl g23 rfl) rfl fun a R => ?_
        refine op_val R (rn_pickF R rfl rfl rfl) rfl fun a R => ?_
        refine omv R rfl rfl fun a R => ?_
        refine op_guard R rfl rfl rfl rfl ?_
        refine omv R rfl rfl fun a R => ?_
        refine op_guard R rfl rfl rfl rfl ?_
        refine op_val R (rn_bin (v := .bool ((byteAt x0 z5_15) == 45)) R rfl rfl rfl) rfl fun a R => ?_
        refine op_val R (rn_pickF R rfl rfl rfl) rfl fun a R => ?_
        refine op_val R (rn_un (v := .bool (!((byteAt x0 z5_15) == 45))) R rfl rfl) rfl fun a R => ?_
        refine wpList_nil ?_
        refine then_normal ?_
        exact ⟨(!((byteAt x0 z5_15) == 45)), R.weak ⟨rfl, rfl, rfl, rfl, trivial⟩, h⟩
     ·rintro a w ⟨y9_39, R, h⟩
      unfold drawer_named.k9 at h
      rcases ite_cases h with ⟨g10, h⟩ | ⟨g10, h⟩
      ·refine wp_condT R (congrArg (fun b => some (Value.bool b)) g10) ?_
       refine wp_seq ?_
       refine wp_region_lit ?_
       refine oas R rfl rfl fun a R => ?_
       refine wpList_nil ?_
       refine then_normal ?_
       refine wp_ret ?_
       refine block_ret ?_
       refine then_ret ?_
       refine then_ret ?_
       refine block_ret ?_
       refine then_ret ?_
       exact post_ret R rfl rfl ⟨false, rfl, h⟩
      ·refine wp_condF R (congrArg (fun b => some (Value.bool b)) g10) ?_
       refine wp_skip ?_
       refine block_normal ?_
       refine then_normal ?_
       refine wp_region_lit ?_
       refine op_val R (rn_bin (v := .int .i64 (IntKind.i64.wrap (z5_15 + 1))) R rfl rfl rfl) rfl fun a R => ?_
       refine omv R rfl rfl fun a R => ?_
       refine wpList_nil ?_
       refine then_normal ?_
       exact hC (IntKind.i64.wrap (z5_15 + 1)) _ _ (R.weak ⟨rfl, rfl, rfl, trivial⟩) (by rw [← hK5] at h; exact h)
    ·refine wp_condF R (congrArg (fun b => some (Value.bool b)) g7) ?_
     refine wp_exit ?_
     refine then_exit ?_
     refine then_exit ?_
     refine block_eq ?_
     refine then_normal ?_
     exact ⟨R.weak trivial, h⟩
   ·rintro a w ⟨R, h⟩
    unfold drawer_named.k3 at h
    refine wp_seq ?_
    refine wp_region_lit ?_
    refine oas R rfl rfl fun a R => ?_
    refine wpList_nil ?_
    refine then_normal ?_
    refine wp_ret ?_
    exact post_ret R rfl rfl ⟨true, rfl, h⟩
theorem s_drawer_named (x0 : ByteArray) (Q : Bool → World → Prop) (w : World) (h : drawer_named x0 Q w) :
    Calls Tryd.prog 35 #[.string x0] w (Rets fun v w => ∃ r0 : Bool, v = (.bool r0 : Value) ∧ Q r0 w) :=
  calls_body (args := [.string x0]) Tryd.func35 rfl rfl (Nat.le_of_ble_eq_true rfl) (L := [(0, .string x0)]) (by simp [starts]) (b_drawer_named x0 Q w h rfl)

/-! drawer.NewDisk -/

def drawer_NewDisk.k8 (x12_6 : Addr) (Q : Option Addr → Int → World → Prop) (w : World) : Prop :=
  Q (some x12_6) 0 w

def drawer_NewDisk.k19 (x0 : Sl) (x12_6 : Addr) (z10_15 : Int) (K10 : Int → World → Prop) (x6_16 : Addr) (y19_51 : Bool) (Q : Option Addr → Int → World → Prop) (w : World) : Prop :=
  (if y19_51 = true then Q none 195 w else ld Value.map (World.drew w) (x12_6.add 0) fun x55_21 => ld Value.string (World.drew w) (x6_16.add 0) fun x57_22 => ld Sl.val (World.drew w) (x6_16.add 1) fun x59_23 => ld (Value.int .i64) (World.drew w) (x6_16.add 2) fun x62_24 => slices_Clone_byte_byte x59_23 (fun x60_25_0 w => ((World.cell? w (x12_6.add 0) = some (.map x55_21) ∧ World.cell? w (x6_16.add 0) = some (.string x57_22) ∧ World.cell? w (x6_16.add 1) = some (Sl.val x59_23) ∧ World.cell? w (x6_16.add 2) = some (.int .i64 x62_24) ∧ True) ∧ al w (.cells #[Sl.val x60_25_0, .int .i64 x62_24] 78) fun x64_26 w => ((World.cell? w (x12_6.add 0) = some (.map x55_21) ∧ World.cell? w (x6_16.add 0) = some (.string x57_22) ∧ World.cell? w (x6_16.add 1) = some (Sl.val x59_23) ∧ World.cell? w (x6_16.add 2) = some (.int .i64 x62_24) ∧ True) ∧ rn0 Tryd.prog (Instr.mapUpdate 73 (.map x55_21) (.string x57_22) (.pointer (some x64_26))) w fun w => K10 (IntKind.i64.wrap (z10_15 + 1)) w))) (World.drew w))

def drawer_NewDisk.l10 (x0 : Sl) (x12_6 : Addr) (z10_15 : Int) (Q : Option Addr → Int → World → Prop) (K10 : Int → World → Prop) (w : World) : Prop :=
  (if (decide (z10_15 < ((x0.len : Nat) : Int))) = true then ix x0.p x0.len z10_15 3 fun x17_14 => ld Value.string w (x17_14.add 0) fun x18_15_0 => ld Sl.val w (x17_14.add 1) fun x18_15_1 => ld (Value.int .i64) w (x17_14.add 2) fun x18_15_2 => al w (.cells #[.string ⟨#[]⟩, .slice none 0 0, .int .i64 0] 42) fun x6_16 w => stN w x6_16 [.string x18_15_0, Sl.val x18_15_1, .int .i64 x18_15_2] fun w => ld Value.map (World.drew w) (x12_6.add 0) fun x22_31 => ld Value.string (World.drew w) (x6_16.add 0) fun x24_32 => rn Tryd.prog Value.pointer (Instr.lookup 73 (.map x22_31) (.string x24_32) false) (World.drew w) fun x25_33 w => (if (Option.isNone x25_33) = true then ld Value.string w (x6_16.add 0) fun x29_36 => drawer_named x29_36 (fun x30_37_0 w => (if x30_37_0 = true then ld Sl.val w (x6_16.add 1) fun x35_39 => (if (decide (((x35_39.len : Nat) : Int) > 2097152)) = true then drawer_NewDisk.k19 x0 x12_6 z10_15 K10 x6_16 true Q w else ld (Value.int .i64) w (x6_16.add 2) fun x41_43 => (if (decide (x41_43 < 0)) = true then drawer_NewDisk.k19 x0 x12_6 z10_15 K10 x6_16 true Q w else ld (Value.int .i64) w (x6_16.add 2) fun x46_46 => ld Sl.val w (x6_16.add 1) fun x48_47 => drawer_NewDisk.k19 x0 x12_6 z10_15 K10 x6_16 (decide (x46_46 > ((x48_47.len : Nat) : Int))) Q w)) else drawer_NewDisk.k19 x0 x12_6 z10_15 K10 x6_16 true Q w)) w else drawer_NewDisk.k19 x0 x12_6 z10_15 K10 x6_16 true Q w) else drawer_NewDisk.k8 x12_6 Q w)

def drawer_NewDisk (x0 : Sl) (Q : Option Addr → Int → World → Prop) (w : World) : Prop :=
  (if (decide (((x0.len : Nat) : Int) > 40)) = true then Q none 195 w else al w (.map #[] 0) fun x10_4 w => al w (.cells #[.map (some x10_4.block), .bool false, .bool false, .int .i64 0, .int .i64 0, .int .i64 0] 75) fun x12_6 w => (Fix (σ := Int) (fun Ks s w => drawer_NewDisk.l10 x0 x12_6 s Q (fun z10_15 w => Ks z10_15 w) w) 0 w))

theorem b_drawer_NewDisk (x0 : Sl) (Q : Option Addr → Int → World → Prop) (w : World) (h : drawer_NewDisk x0 Q w) {c : Code} (hb : Tryd.f21.body = some c) :
 ∀ a, Rep a 67 [(0, Sl.val x0)] [] → c.wp Tryd.prog (bodyPost Tryd.prog Tryd.f21 (Rets fun v w => ∃ r0 : Option Addr, ∃ r1 : Int, v = (.tuple #[.pointer r0, .int .i64 r1] : Value) ∧ Q r0 r1 w)) a w := by
 intro a R
 obtain rfl := Option.some.inj hb
 unfold drawer_NewDisk at h
 refine wp_seq ?_
 refine wp_region_lit ?_
 refine oas R rfl rfl fun a R => ?_
 refine oas R rfl rfl fun a R => ?_
 refine wpList_nil ?_
 refine then_normal ?_
 refine wp_seq ?_
 refine wp_seq ?_
 refine wp_region_lit ?_
 refine omv R rfl rfl fun a R => ?_
 refine op_val R (rn_len R rfl Tryd.underlying39) rfl fun a R => ?_
 refine op_val R (rn_bin (v := .bool (decide (((x0.len : Nat) : Int) > 40))) R rfl rfl rfl) rfl fun a R => ?_
 refine wpList_nil ?_
 refine then_normal ?_
 rcases ite_cases h with ⟨g3, h⟩ | ⟨g3, h⟩
 ·refine wp_condT R (congrArg (fun b => some (Value.bool b)) g3) ?_
  refine wp_seq ?_
  refine wp_region_lit ?_
  refine oas R rfl rfl fun a R => ?_
  refine oas R rfl rfl fun a R => ?_
  refine wpList_nil ?_
  refine then_normal ?_
  refine wp_ret ?_
  refine then_ret ?_
  exact post_ret R rfl rfl ⟨none, 195, rfl, h⟩
 ·refine wp_condF R (congrArg (fun b => some (Value.bool b)) g3) ?_
  refine wp_skip ?_
  refine then_normal ?_
  refine wp_seq ?_
  refine wp_region_lit ?_
  obtain ⟨x10_4, e5, h⟩ := al_e h
  refine op_val (v := .map (some x10_4.block)) R (by rw [e5]; exact rn_mapM R) rfl fun a R => ?_
  refine op_val R (rn_build (r := .agg #[.map (some x10_4.block), .bool false, .bool false, .int .i64 0, .int .i64 0, .int .i64 0]) R rfl (fun w => by kernel_rfl)) rfl fun a R => ?_
  obtain ⟨x12_6, e7, h⟩ := al_e h
  refine op_val (v := .pointer (some x12_6)) R (by rw [e7]; exact rn_bx (x := (.tmp 11)) (t := 75) R rfl) rfl fun a R => ?_
  refine oas R rfl rfl fun a R => ?_
  refine wpList_nil ?_
  refine then_normal ?_
  refine seq_join (fun a w => Rep a 67 [(4, .pointer (some x12_6))] [] ∧ drawer_NewDisk.k8 x12_6 Q w) ?_ ?_
  ·refine wp_seq ?_
   refine wp_region_lit ?_
   refine omv R rfl rfl fun a R => ?_
   refine op_val R (rn_len R rfl Tryd.underlying39) rfl fun a R => ?_
   refine omv R rfl rfl fun a R => ?_
   refine wpList_nil ?_
   refine then_normal ?_
   refine wp_block ?_
   refine wp_fix (σ := Int) (fun s a => Rep a 67 [(4, .pointer (some x12_6)), (13, Sl.val x0), (14, .int .i64 ((x0.len : Nat) : Int)), (15, .int .i64 s)] []) h (R.weak ⟨rfl, rfl, rfl, rfl, trivial⟩) ?_
   rintro Ks C z10_15 a w hC R h
   have R : Rep a 67 [(4, .pointer (some x12_6)), (13, Sl.val x0), (14, .int .i64 ((x0.len : Nat) : Int)), (15, .int .i64 z10_15)] [] := R
   have h : drawer_NewDisk.l10 x0 x12_6 z10_15 Q (fun z10_15 w => Ks z10_15 w) w := h
   generalize hK10 : (fun z10_15 w => Ks z10_15 w) = K10 at h
   unfold drawer_NewDisk.l10 at h
   refine wp_seq ?_
   refine wp_region_lit ?_
   refine op_val R (rn_bin (v := .bool (decide (z10_15 < ((x0.len : Nat) : Int)))) R rfl rfl rfl) rfl fun a R => ?_
   refine wpList_nil ?_
   refine then_normal ?_
   refine wp_seq ?_
   rcases ite_cases h with ⟨g12, h⟩ | ⟨g12, h⟩
   ·refine wp_condT R (congrArg (fun b => some (Value.bool b)) g12) ?_
    refine wp_skip ?_
    refine then_normal ?_
    refine wp_seq ?_
    refine wp_block ?_
    refine wp_seq ?_
    refine wp_region_lit ?_
    obtain ⟨b13, x17_14, p13, i13, j13, e13, h⟩ := ix_e h
    refine op_val (v := .pointer (some x17_14)) R (by rw [e13]; exact rn_ixs (x := (.tmp 13)) (y := (.tmp 15)) R rfl p13 rfl Tryd.underlying39 sz42 i13 j13) rfl fun a R => ?_
    obtain ⟨x18_15_0, cx18_15_0, x18_15_1, cx18_15_1, x18_15_2, cx18_15_2, h⟩ := h
    refine op_val R (rn_ldN (cs := [.string x18_15_0, Sl.val x18_15_1, .int .i64 x18_15_2]) R rfl Tryd.underlying42 rfl sz42 ⟨cx18_15_0, cx18_15_1, cx18_15_2, trivial⟩) rfl fun a R => ?_
    obtain ⟨x6_16, e17, h⟩ := al_e h
    refine op_val (v := .pointer (some x6_16)) R (by rw [e17]; exact rn_al R ze42) rfl fun a R => ?_
    obtain ⟨q18, h⟩ := h
    refine op_unit R (rn_stN (vs := [.string x18_15_0, Sl.val x18_15_1, .int .i64 x18_15_2]) R rfl rfl (ao ⟨rfl, rfl, rfl, trivial⟩) sz42 q18) fun a R => ?_
    refine wpList_nil ?_
    refine then_normal ?_
    refine wp_seq ?_
    refine seq_join (fun a w => ∃ y19_51 : Bool, Rep a 67 [(4, .pointer (some x12_6)), (6, .pointer (some x6_16)), (13, Sl.val x0), (14, .int .i64 ((x0.len : Nat) : Int)), (15, .int .i64 z10_15), (51, .bool y19_51)] [] ∧ drawer_NewDisk.k19 x0 x12_6 z10_15 K10 x6_16 y19_51 Q w) ?_ ?_
    ·refine region_start mo fun inv => ?_
     refine seg_same (n := 6) (f := 6) (g := 27) (by kernel_rfl) fun inv => ?_
     refine dr_val (i := 0) R (waits_dom (by kernel_rfl) (by kernel_rfl)) (by kernel_rfl) inv rfl (by decide) (by kernel_rfl) (by kernel_rfl) (fun _ _ _ h => h) wanted_none (fun w' hS => rn_mv R rfl) rfl (by decide) fun inv a R => ?_
     refine dr_val (i := 1) R (waits_dom (by kernel_rfl) (by kernel_rfl)) (by kernel_rfl) inv rfl (by decide) (by kernel_rfl) (by kernel_rfl) (fun _ _ _ h => h) wanted_none (fun w' hS => rn_nil R rfl rfl) rfl (by decide) fun inv a R => ?_
     refine dr_val (i := 2) R (waits_dom (by kernel_rfl) (by kernel_rfl)) (by kernel_rfl) inv rfl (by decide) (by kernel_rfl) (by kernel_rfl) (fun _ _ _ h => h) wanted_none (fun w' hS => rn_fld R rfl fd75_0) rfl (by decide) fun inv a R => ?_
     obtain ⟨x22_31, cx22_31, h⟩ := h
     refine dr_val (i := 3) R (waits_dom (by kernel_rfl) (by kernel_rfl)) (by kernel_rfl) inv rfl (by decide) (by kernel_rfl) (by kernel_rfl) (fun _ _ _ h => h) wanted_none (fun w' hS => rn_ld R rfl Tryd.underlying73 rfl (cell_heap' hS cx22_31)) rfl (by decide) fun inv a R => ?_
     refine dr_val (i := 4) R (waits_dom (by kernel_rfl) (by kernel_rfl)) (by kernel_rfl) inv rfl (by decide) (by kernel_rfl) (by kernel_rfl) (fun _ _ _ h => h) wanted_none (fun w' hS => rn_fld R rfl fd42_0) rfl (by decide) fun inv a R => ?_
     obtain ⟨x24_32, cx24_32, h⟩ := h
     refine dr_val (i := 5) R (waits_dom (by kernel_rfl) (by kernel_rfl)) (by kernel_rfl) inv rfl (by decide) (by kernel_rfl) (by kernel_rfl) (fun _ _ _ h => h) wanted_none (fun w' hS => rn_ld R rfl Tryd.underlying9 rfl (cell_heap' hS cx24_32)) rfl (by decide) fun inv a R => ?_
     refine seg_end (by kernel_rfl) ?_
     obtain ⟨x25_33, w34, cx25_33, h⟩ := h
     refine any_val (i := 6) R rfl (by kernel_rfl) wanted_none (rn_lookup R rfl rfl cx25_33) rfl fun a R => ?_
     refine any_val (i := 7) R rfl (by kernel_rfl) wanted_none (rn_nilPN R rfl rfl Tryd.underlying72) rfl fun a R => ?_
     refine any_val (i := 8) R rfl (by kernel_rfl) wanted_none (rn_mv R rfl) rfl fun a R => ?_
     rcases ite_cases h with ⟨g35, h⟩ | ⟨g35, h⟩
     ·refine any_val (i := 9) R rfl (by kernel_rfl) (wanted_yes R rfl rfl rfl (nf g35)) (rn_fld R rfl fd42_0) rfl fun a R => ?_
      obtain ⟨x29_36, cx29_36, h⟩ := h
      refine any_val (i := 10) R rfl (by kernel_rfl) (wanted_yes R rfl rfl rfl (nf g35)) (rn_ld R rfl Tryd.underlying9 rfl cx29_36) rfl fun a R => ?_
      refine any_call (i := 11) R rfl (by kernel_rfl) (wanted_yes R rfl rfl rfl (nf g35)) (rn_calls R rfl cf35) rfl ?_
      refine call_mono (s_drawer_named _ _ _ h) ?_
      rintro _ w50 ⟨x30_37_0, rfl, h⟩ a R
      refine any_val (i := 12) R rfl (by kernel_rfl) (wanted_yes R rfl rfl rfl (nf g35)) (rn_un (v := .bool (!x30_37_0)) R rfl rfl) rfl fun a R => ?_
      refine any_val (i := 13) R rfl (by kernel_rfl) wanted_none (rn_pickF R rfl (nf g35) rfl) rfl fun a R => ?_
      refine any_val (i := 14) R rfl (by kernel_rfl) wanted_none (rn_mv R rfl) rfl fun a R => ?_
      rcases ite_cases h with ⟨g38, h⟩ | ⟨g38, h⟩
      ·refine any_val (i := 15) R rfl (by kernel_rfl) (wanted_yes R rfl rfl rfl (nf g38)) (rn_fld R rfl fd42_1) rfl fun a R => ?_
       obtain ⟨x35_39, cx35_39, h⟩ := h
       refine any_val (i := 16) R rfl (by kernel_rfl) (wanted_yes R rfl rfl rfl (nf g38)) (rn_ld R rfl Tryd.underlying29 rfl cx35_39) rfl fun a R => ?_
       refine any_val (i := 17) R rfl (by kernel_rfl) (wanted_yes R rfl rfl rfl (nf g38)) (rn_len R rfl Tryd.underlying29) rfl fun a R => ?_
       refine any_val (i := 18) R rfl (by kernel_rfl) (wanted_yes R rfl rfl rfl (nf g38)) (rn_bin (v := .bool (decide (((x35_39.len : Nat) : Int) > 2097152))) R rfl rfl rfl) rfl fun a R => ?_
       refine any_val (i := 19) R rfl (by kernel_rfl) wanted_none (rn_pickF R rfl (nf g38) rfl) rfl fun a R => ?_
       refine any_val (i := 20) R rfl (by kernel_rfl) wanted_none (rn_mv R rfl) rfl fun a R => ?_
       rcases ite_cases h with ⟨g42, h⟩ | ⟨g42, h⟩
       ·refine any_pass (i := 21) R rfl (by kernel_rfl) (wanted_no R rfl rfl rfl (nft g42)) rfl fun a R => ?_
        refine any_pass (i := 22) R rfl (by kernel_rfl) (wanted_no R rfl rfl rfl (nft g42)) rfl fun a R => ?_
        refine any_pass (i := 23) R rfl (by kernel_rfl) (wanted_no R rfl rfl rfl (nft g42)) rfl fun a R => ?_
        refine any_val (i := 24) R rfl (by kernel_rfl) wanted_none (rn_pickT R rfl g42 rfl) rfl fun a R => ?_
        refine any_val (i := 25) R rfl (by kernel_rfl) wanted_none (rn_mv R rfl) rfl fun a R => ?_
        refine seg_same (n := 31) (f := 5) (g := 2) (by kernel_rfl) fun inv => ?_
        refine dr_pass (i := 26) R (waits_dom (by kernel_rfl) (by kernel_rfl)) (by kernel_rfl) inv rfl (by decide) (by kernel_rfl) (by kernel_rfl) (fun _ _ _ h => h) (wanted_no R rfl rfl rfl (nft rfl)) rfl rfl fun inv a R => ?_
        refine dr_pass (i := 27) R (waits_dom (by kernel_rfl) (by kernel_rfl)) (by kernel_rfl) inv rfl (by decide) (by kernel_rfl) (by kernel_rfl) (fun _ _ _ h => h) (wanted_no R rfl rfl rfl (nft rfl)) rfl rfl fun inv a R => ?_
        refine dr_pass (i := 28) R (waits_dom (by kernel_rfl) (by kernel_rfl)) (by kernel_rfl) inv rfl (by decide) (by kernel_rfl) (by kernel_rfl) (fun _ _ _ h => h) (wanted_no R rfl rfl rfl (nft rfl)) rfl rfl fun inv a R => ?_
        refine dr_pass (i := 29) R (waits_dom (by kernel_rfl) (by kernel_rfl)) (by kernel_rfl) inv rfl (by decide) (by kernel_rfl) (by kernel_rfl) (fun _ _ _ h => h) (wanted_no R rfl rfl rfl (nft rfl)) rfl rfl fun inv a R => ?_
        refine dr_pass (i := 30) R (waits_dom (by kernel_rfl) (by kernel_rfl)) (by kernel_rfl) inv rfl (by decide) (by kernel_rfl) (by kernel_rfl) (fun _ _ _ h => h) (wanted_no R rfl rfl rfl (nft rfl)) rfl rfl fun inv a R => ?_
        refine seg_end (by kernel_rfl) ?_
        refine any_tail 31 (by kernel_rfl) ?_
        refine op_pass R rfl rfl rfl (nft rfl) (fun a R => ?_) (by intro s hs; cases hs; rfl)
        refine op_val R (rn_pickT R rfl rfl rfl) rfl fun a R => ?_
        refine wpList_nil ?_
        refine then_normal ?_
        exact ⟨true, R.weak ⟨rfl, rfl, rfl, rfl, rfl, rfl, trivial⟩, h⟩
       ·refine any_val (i := 21) R rfl (by kernel_rfl) (wanted_yes R rfl rfl rfl g42) (rn_fld R rfl fd42_2) rfl fun a R => ?_
        obtain ⟨x41_43, cx41_43, h⟩ := h
        refine any_val (i := 22) R rfl (by kernel_rfl) (wanted_yes R rfl rfl rfl g42) (rn_ld R rfl Tryd.underlying3 rfl cx41_43) rfl fun a R => ?_
        refine any_val (i := 23) R rfl (by kernel_rfl) (wanted_yes R rfl rfl rfl g42) (rn_bin (v := .bool (decide (x41_43 < 0))) R rfl rfl rfl) rfl fun a R => ?_
        refine any_val (i := 24) R rfl (by kernel_rfl) wanted_none (rn_pickF R rfl g42 rfl) rfl fun a R => ?_
        refine any_val (i := 25) R rfl (by kernel_rfl) wanted_none (rn_mv R rfl) rfl fun a R => ?_
        refine seg_same (n := 31) (f := 5) (g := 2) (by kernel_rfl) fun inv => ?_
        rcases ite_cases h with ⟨g45, h⟩ | ⟨g45, h⟩
        ·refine dr_pass (i := 26) R (waits_dom (by kernel_rfl) (by kernel_rfl)) (by kernel_rfl) inv rfl (by decide) (by kernel_rfl) (by kernel_rfl) (fun _ _ _ h => h) (wanted_no R rfl rfl rfl (nft g45)) rfl rfl fun inv a R => ?_
         refine dr_pass (i := 27) R (waits_dom (by kernel_rfl) (by kernel_rfl)) (by kernel_rfl) inv rfl (by decide) (by kernel_rfl) (by kernel_rfl) (fun _ _ _ h => h) (wanted_no R rfl rfl rfl (nft g45)) rfl rfl fun inv a R => ?_
         refine dr_pass (i := 28) R (waits_dom (by kernel_rfl) (by kernel_rfl)) (by kernel_rfl) inv rfl (by decide) (by kernel_rfl) (by kernel_rfl) (fun _ _ _ h => h) (wanted_no R rfl rfl rfl (nft g45)) rfl rfl fun inv a R => ?_
         refine dr_pass (i := 29) R (waits_dom (by kernel_rfl) (by kernel_rfl)) (by kernel_rfl) inv rfl (by decide) (by kernel_rfl) (by kernel_rfl) (fun _ _ _ h => h) (wanted_no R rfl rfl rfl (nft g45)) rfl rfl fun inv a R => ?_
         refine dr_pass (i := 30) R (waits_dom (by kernel_rfl) (by kernel_rfl)) (by kernel_rfl) inv rfl (by decide) (by kernel_rfl) (by kernel_rfl) (fun _ _ _ h => h) (wanted_no R rfl rfl rfl (nft g45)) rfl rfl fun inv a R => ?_
         refine seg_end (by kernel_rfl) ?_
         refine any_tail 31 (by kernel_rfl) ?_
         refine op_pass R rfl rfl rfl (nft g45) (fun a R => ?_) (by intro s hs; cases hs; rfl)
         refine op_val R (rn_pickT R rfl g45 rfl) rfl fun a R => ?_
         refine wpList_nil ?_
         refine then_normal ?_
         exact ⟨true, R.weak ⟨rfl, rfl, rfl, rfl, rfl, rfl, trivial⟩, h⟩
        ·refine dr_val (i := 26) R (waits_dom (by kernel_rfl) (by kernel_rfl)) (by kernel_rfl) inv rfl (by decide) (by kernel_rfl) (by kernel_rfl) (fun _ _ _ h => h) (wanted_yes R rfl rfl rfl g45) (fun w' hS => rn_fld R rfl fd42_2) rfl (by decide) fun inv a R => ?_
         obtain ⟨x46_46, cx46_46, h⟩ := h
         refine dr_val (i := 27) R (waits_dom (by kernel_rfl) (by kernel_rfl)) (by kernel_rfl) inv rfl (by decide) (by kernel_rfl) (by kernel_rfl) (fun _ _ _ h => h) (wanted_yes R rfl rfl rfl g45) (fun w' hS => rn_ld R rfl Tryd.underlying3 rfl (cell_heap' hS cx46_46)) rfl (by decide) fun inv a R => ?_
         refine dr_val (i := 28) R (waits_dom (by kernel_rfl) (by kernel_rfl)) (by kernel_rfl) inv rfl (by decide) (by kernel_rfl) (by kernel_rfl) (fun _ _ _ h => h) (wanted_yes R rfl rfl rfl g45) (fun w' hS => rn_fld R rfl fd42_1) rfl (by decide) fun inv a R => ?_
         obtain ⟨x48_47, cx48_47, h⟩ := h
         refine dr_val (i := 29) R (waits_dom (by kernel_rfl) (by kernel_rfl)) (by kernel_rfl) inv rfl (by decide) (by kernel_rfl) (by kernel_rfl) (fun _ _ _ h => h) (wanted_yes R rfl rfl rfl g45) (fun w' hS => rn_ld R rfl Tryd.underlying29 rfl (cell_heap' hS cx48_47)) rfl (by decide) fun inv a R => ?_
         refine dr_val (i := 30) R (waits_dom (by kernel_rfl) (by kernel_rfl)) (by kernel_rfl) inv rfl (by decide) (by kernel_rfl) (by kernel_rfl) (fun _ _ _ h => h) (wanted_yes R rfl rfl rfl g45) (fun w' hS => rn_len R rfl Tryd.underlying29) rfl (by decide) fun inv a R => ?_
         refine seg_end (by kernel_rfl) ?_
         refine any_tail 31 (by kernel_rfl) ?_
         refine op_guard R rfl rfl rfl g45 ?_
         refine op_val R (rn_bin (v := .bool (decide (x46_46 > ((x48_47.len : Nat) : Int)))) R rfl rfl rfl) rfl fun a R => ?_
         refine op_val R (rn_pickF R rfl g45 rfl) rfl fun a R => ?_
         refine wpList_nil ?_
         refine then_normal ?_
         exact ⟨(decide (x46_46 > ((x48_47.len : Nat) : Int))), R.weak ⟨rfl, rfl, rfl, rfl, rfl, rfl, trivial⟩, h⟩
      ·refine any_pass (i := 15) R rfl (by kernel_rfl) (wanted_no R rfl rfl rfl (nft (nt g38))) rfl fun a R => ?_
       refine any_pass (i := 16) R rfl (by kernel_rfl) (wanted_no R rfl rfl rfl (nft (nt g38))) rfl fun a R => ?_
       refine any_pass (i := 17) R rfl (by kernel_rfl) (wanted_no R rfl rfl rfl (nft (nt g38))) rfl fun a R => ?_
       refine any_pass (i := 18) R rfl (by kernel_rfl) (wanted_no R rfl rfl rfl (nft (nt g38))) rfl fun a R => ?_
       refine any_val (i := 19) R rfl (by kernel_rfl) wanted_none (rn_pickT R rfl (nt g38) rfl) rfl fun a R => ?_
       refine any_val (i := 20) R rfl (by kernel_rfl) wanted_none (rn_mv R rfl) rfl fun a R => ?_
       refine any_pass (i := 21) R rfl (by kernel_rfl) (wanted_no R rfl rfl rfl (nft rfl)) rfl fun a R => ?_
       refine any_pass (i := 22) R rfl (by kernel_rfl) (wanted_no R rfl rfl rfl (nft rfl)) rfl fun a R => ?_
       refine any_pass (i := 23) R rfl (by kernel_rfl) (wanted_no R rfl rfl rfl (nft rfl)) rfl fun a R => ?_
       refine any_val (i := 24) R rfl (by kernel_rfl) wanted_none (rn_pickT R rfl rfl rfl) rfl fun a R => ?_
       refine any_val (i := 25) R rfl (by kernel_rfl) wanted_none (rn_mv R rfl) rfl fun a R => ?_
       refine seg_same (n := 31) (f := 5) (g := 2) (by kernel_rfl) fun inv => ?_
       refine dr_pass (i := 26) R (waits_dom (by kernel_rfl) (by kernel_rfl)) (by kernel_rfl) inv rfl (by decide) (by kernel_rfl) (by kernel_rfl) (fun _ _ _ h => h) (wanted_no R rfl rfl rfl (nft rfl)) rfl rfl fun inv a R => ?_
       refine dr_pass (i := 27) R (waits_dom (by kernel_rfl) (by kernel_rfl)) (by kernel_rfl) inv rfl (by decide) (by kernel_rfl) (by kernel_rfl) (fun _ _ _ h => h) (wanted_no R rfl rfl rfl (nft rfl)) rfl rfl fun inv a R => ?_
       refine dr_pass (i := 28) R (waits_dom (by kernel_rfl) (by kernel_rfl)) (by kernel_rfl) inv rfl (by decide) (by kernel_rfl) (by kernel_rfl) (fun _ _ _ h => h) (wanted_no R rfl rfl rfl (nft rfl)) rfl rfl fun inv a R => ?_
       refine dr_pass (i := 29) R (waits_dom (by kernel_rfl) (by kernel_rfl)) (by kernel_rfl) inv rfl (by decide) (by kernel_rfl) (by kernel_rfl) (fun _ _ _ h => h) (wanted_no R rfl rfl rfl (nft rfl)) rfl rfl fun inv a R => ?_
       refine dr_pass (i := 30) R (waits_dom (by kernel_rfl) (by kernel_rfl)) (by kernel_rfl) inv rfl (by decide) (by kernel_rfl) (by kernel_rfl) (fun _ _ _ h => h) (wanted_no R rfl rfl rfl (nft rfl)) rfl rfl fun inv a R => ?_
       refine seg_end (by kernel_rfl) ?_
       refine any_tail 31 (by kernel_rfl) ?_
       refine op_pass R rfl rfl rfl (nft rfl) (fun a R => ?_) (by intro s hs; cases hs; rfl)
       refine op_val R (rn_pickT R rfl rfl rfl) rfl fun a R => ?_
       refine wpList_nil ?_
       refine then_normal ?_
       exact ⟨true, R.weak ⟨rfl, rfl, rfl, rfl, rfl, rfl, trivial⟩, h⟩
     ·refine any_pass (i := 9) R rfl (by kernel_rfl) (wanted_no R rfl rfl rfl (nft (nt g35))) rfl fun a R => ?_
      refine any_pass (i := 10) R rfl (by kernel_rfl) (wanted_no R rfl rfl rfl (nft (nt g35))) rfl fun a R => ?_
      refine any_pass (i := 11) R rfl (by kernel_rfl) (wanted_no R rfl rfl rfl (nft (nt g35))) rfl fun a R => ?_
      refine any_pass (i := 12) R rfl (by kernel_rfl) (wanted_no R rfl rfl rfl (nft (nt g35))) rfl fun a R => ?_
      refine any_val (i := 13) R rfl (by kernel_rfl) wanted_none (rn_pickT R rfl (nt g35) rfl) rfl fun a R => ?_
      refine any_val (i := 14) R rfl (by kernel_rfl) wanted_none (rn_mv R rfl) rfl fun a R => ?_
      refine any_pass (i := 15) R rfl (by kernel_rfl) (wanted_no R rfl rfl rfl (nft rfl)) rfl fun a R => ?_
      refine any_pass (i := 16) R rfl (by kernel_rfl) (wanted_no R rfl rfl rfl (nft rfl)) rfl fun a R => ?_
      refine any_pass (i := 17) R rfl (by kernel_rfl) (wanted_no R rfl rfl rfl (nft rfl)) rfl fun a R => ?_
      refine any_pass (i := 18) R rfl (by kernel_rfl) (wanted_no R rfl rfl rfl (nft rfl)) rfl fun a R => ?_
      refine any_val (i := 19) R rfl (by kernel_rfl) wanted_none (rn_pickT R rfl rfl rfl) rfl fun a R => ?_
      refine any_val (i := 20) R rfl (by kernel_rfl) wanted_none (rn_mv R rfl) rfl fun a R => ?_
      refine any_pass (i := 21) R rfl (by kernel_rfl) (wanted_no R rfl rfl rfl (nft rfl)) rfl fun a R => ?_
      refine any_pass (i := 22) R rfl (by kernel_rfl) (wanted_no R rfl rfl rfl (nft rfl)) rfl fun a R => ?_
      refine any_pass (i := 23) R rfl (by kernel_rfl) (wanted_no R rfl rfl rfl (nft rfl)) rfl fun a R => ?_
      refine any_val (i := 24) R rfl (by kernel_rfl) wanted_none (rn_pickT R rfl rfl rfl) rfl fun a R => ?_
      refine any_val (i := 25) R rfl (by kernel_rfl) wanted_none (rn_mv R rfl) rfl fun a R => ?_
      refine seg_same (n := 31) (f := 5) (g := 2) (by kernel_rfl) fun inv => ?_
      refine dr_pass (i := 26) R (waits_dom (by kernel_rfl) (by kernel_rfl)) (by kernel_rfl) inv rfl (by decide) (by kernel_rfl) (by kernel_rfl) (fun _ _ _ h => h) (wanted_no R rfl rfl rfl (nft rfl)) rfl rfl fun inv a R => ?_
      refine dr_pass (i := 27) R (waits_dom (by kernel_rfl) (by kernel_rfl)) (by kernel_rfl) inv rfl (by decide) (by kernel_rfl) (by kernel_rfl) (fun _ _ _ h => h) (wanted_no R rfl rfl rfl (nft rfl)) rfl rfl fun inv a R => ?_
      refine dr_pass (i := 28) R (waits_dom (by kernel_rfl) (by kernel_rfl)) (by kernel_rfl) inv rfl (by decide) (by kernel_rfl) (by kernel_rfl) (fun _ _ _ h => h) (wanted_no R rfl rfl rfl (nft rfl)) rfl rfl fun inv a R => ?_
      refine dr_pass (i := 29) R (waits_dom (by kernel_rfl) (by kernel_rfl)) (by kernel_rfl) inv rfl (by decide) (by kernel_rfl) (by kernel_rfl) (fun _ _ _ h => h) (wanted_no R rfl rfl rfl (nft rfl)) rfl rfl fun inv a R => ?_
      refine dr_pass (i := 30) R (waits_dom (by kernel_rfl) (by kernel_rfl)) (by kernel_rfl) inv rfl (by decide) (by kernel_rfl) (by kernel_rfl) (fun _ _ _ h => h) (wanted_no R rfl rfl rfl (nft rfl)) rfl rfl fun inv a R => ?_
      refine seg_end (by kernel_rfl) ?_
      refine any_tail 31 (by kernel_rfl) ?_
      refine op_pass R rfl rfl rfl (nft rfl) (fun a R => ?_) (by intro s hs; cases hs; rfl)
      refine op_val R (rn_pickT R rfl rfl rfl) rfl fun a R => ?_
      refine wpList_nil ?_
      refine then_normal ?_
      exact ⟨true, R.weak ⟨rfl, rfl, rfl, rfl, rfl, rfl, trivial⟩, h⟩
    ·rintro a w ⟨y19_51, R, h⟩
     unfold drawer_NewDisk.k19 at h
     rcases ite_cases h with ⟨g20, h⟩ | ⟨g20, h⟩
     ·refine wp_condT R (congrArg (fun b => some (Value.bool b)) g20) ?_
      refine wp_seq ?_
      refine wp_region_lit ?_
      refine oas R rfl rfl fun a R => ?_
      refine oas R rfl rfl fun a R => ?_
      refine wpList_nil ?_
      refine then_normal ?_
      refine wp_ret ?_
      refine then_ret ?_
      refine block_ret ?_
      refine then_ret ?_
      refine then_ret ?_
      refine block_ret ?_
      refine then_ret ?_
      exact post_ret R rfl rfl ⟨none, 195, rfl, h⟩
     ·refine wp_condF R (congrArg (fun b => some (Value.bool b)) g20) ?_
      refine wp_skip ?_
      refine then_normal ?_
      refine region_start mo fun inv => ?_
      obtain ⟨x55_21, cx55_21, h⟩ := h
      obtain ⟨x57_22, cx57_22, h⟩ := h
      obtain ⟨x59_23, cx59_23, h⟩ := h
      obtain ⟨x62_24, cx62_24, h⟩ := h
      refine seg_held (n := 13) (f := 13) (g := 1) (fun w : World => w.cell? (x12_6.add 0) = some (.map x55_21) ∧ w.cell? (x6_16.add 0) = some (.string x57_22) ∧ w.cell? (x6_16.add 1) = some (Sl.val x59_23) ∧ w.cell? (x6_16.add 2) = some (.int .i64 x62_24) ∧ True) (by kernel_rfl) fun inv => ?_
      have hS0 : (fun w : World => w.cell? (x12_6.add 0) = some (.map x55_21) ∧ w.cell? (x6_16.add 0) = some (.string x57_22) ∧ w.cell? (x6_16.add 1) = some (Sl.val x59_23) ∧ w.cell? (x6_16.add 2) = some (.int .i64 x62_24) ∧ True) _ := ⟨cx55_21, cx57_22, cx59_23, cx62_24, trivial⟩
      refine dr_val (i := 0) R (waits_dom (by kernel_rfl) (by kernel_rfl)) (by kernel_rfl) inv rfl (by decide) (by kernel_rfl) (by kernel_rfl) (fun _ _ _ h => h) wanted_none (fun w' hS => rn_mv R rfl) hS0 rfl fun inv a R => ?_
      refine dr_val (i := 1) R (waits_dom (by kernel_rfl) (by kernel_rfl)) (by kernel_rfl) inv rfl (by decide) (by kernel_rfl) (by kernel_rfl) (fun _ _ _ h => h) wanted_none (fun w' hS => rn_nil R rfl rfl) hS0 rfl fun inv a R => ?_
      refine dr_val (i := 2) R (waits_dom (by kernel_rfl) (by kernel_rfl)) (by kernel_rfl) inv rfl (by decide) (by kernel_rfl) (by kernel_rfl) (fun _ _ _ h => h) wanted_none (fun w' hS => rn_fld R rfl fd75_0) hS0 rfl fun inv a R => ?_
      refine dr_val (i := 3) R (waits_dom (by kernel_rfl) (by kernel_rfl)) (by kernel_rfl) inv rfl (by decide) (by kernel_rfl) (by kernel_rfl) (fun _ _ _ h => h) wanted_none (fun w' hS => rn_ld R rfl Tryd.underlying73 rfl (hS.1)) hS0 rfl fun inv a R => ?_
      refine dr_val (i := 4) R (waits_dom (by kernel_rfl) (by kernel_rfl)) (by kernel_rfl) inv rfl (by decide) (by kernel_rfl) (by kernel_rfl) (fun _ _ _ h => h) wanted_none (fun w' hS => rn_fld R rfl fd42_0) hS0 rfl fun inv a R => ?_
      refine dr_val (i := 5) R (waits_dom (by kernel_rfl) (by kernel_rfl)) (by kernel_rfl) inv rfl (by decide) (by kernel_rfl) (by kernel_rfl) (fun _ _ _ h => h) wanted_none (fun w' hS => rn_ld R rfl Tryd.underlying9 rfl (hS.2.1)) hS0 rfl fun inv a R => ?_
      refine dr_val (i := 6) R (waits_dom (by kernel_rfl) (by kernel_rfl)) (by kernel_rfl) inv rfl (by decide) (by kernel_rfl) (by kernel_rfl) (fun _ _ _ h => h) wanted_none (fun w' hS => rn_fld R rfl fd42_1) hS0 rfl fun inv a R => ?_
      refine dr_val (i := 7) R (waits_dom (by kernel_rfl) (by kernel_rfl)) (by kernel_rfl) inv rfl (by decide) (by kernel_rfl) (by kernel_rfl) (fun _ _ _ h => h) wanted_none (fun w' hS => rn_ld R rfl Tryd.underlying29 rfl (hS.2.2.1)) hS0 rfl fun inv a R => ?_
      refine dr_val (i := 9) R (waits_dom (by kernel_rfl) (by kernel_rfl)) (by kernel_rfl) inv rfl (by decide) (by kernel_rfl) (by kernel_rfl) (fun _ _ _ h => h) wanted_none (fun w' hS => rn_fld R rfl fd42_2) hS0 rfl fun inv a R => ?_
      refine dr_val (i := 10) R (waits_dom (by kernel_rfl) (by kernel_rfl)) (by kernel_rfl) inv rfl (by decide) (by kernel_rfl) (by kernel_rfl) (fun _ _ _ h => h) wanted_none (fun w' hS => rn_ld R rfl Tryd.underlying3 rfl (hS.2.2.2.1)) hS0 rfl fun inv a R => ?_
      refine dr_call (i := 8) R inv rfl (by decide) (by kernel_rfl) wanted_none (rn_calls R rfl cf29) rfl ?_
      refine call_mono (s_slices_Clone_byte_byte _ _ _ h) ?_
      rintro _ w30 ⟨x60_25_0, rfl, hS0, h⟩
      refine ⟨hS0, fun a inv R => ?_⟩
      refine dr_val (i := 11) R (waits_dom (by kernel_rfl) (by kernel_rfl)) (by kernel_rfl) inv rfl (by decide) (by kernel_rfl) (by kernel_rfl) (fun _ _ _ h => h) wanted_none (fun w' hS => rn_build (r := .agg #[Sl.val x60_25_0, .int .i64 x62_24]) R rfl (fun w => by kernel_rfl)) hS0 rfl fun inv a R => ?_
      obtain ⟨x64_26, e27, h⟩ := al_e h
      obtain ⟨hS0, h⟩ := h
      refine dr_run (v := .pointer (some x64_26)) (i := 12) R inv rfl (by decide) (by kernel_rfl) wanted_none (by rw [e27]; exact rn_bx (x := (.tmp 63)) (t := 78) R rfl) hS0 rfl fun inv a R => ?_
      refine seg_end (by kernel_rfl) ?_
      refine any_tail 13 (by kernel_rfl) ?_
      obtain ⟨w28, c28, h⟩ := h
      refine op_unit R (rn_mapUpdate R rfl rfl rfl c28) fun a R => ?_
      refine wpList_nil ?_
      refine block_normal ?_
      refine then_normal ?_
      refine wp_region_lit ?_
      refine op_val R (rn_bin (v := .int .i64 (IntKind.i64.wrap (z10_15 + 1))) R rfl rfl rfl) rfl fun a R => ?_
      refine omv R rfl rfl fun a R => ?_
      refine wpList_nil ?_
      refine then_normal ?_
      exact hC (IntKind.i64.wrap (z10_15 + 1)) _ _ (R.weak ⟨rfl, rfl, rfl, rfl, trivial⟩) (by rw [← hK10] at h; exact h)
   ·refine wp_condF R (congrArg (fun b => some (Value.bool b)) g12) ?_
    refine wp_exit ?_
    refine then_exit ?_
    refine then_exit ?_
    refine block_eq ?_
    refine then_normal ?_
    exact ⟨R.weak ⟨rfl, trivial⟩, h⟩
  ·rintro a w ⟨R, h⟩
   unfold drawer_NewDisk.k8 at h
   refine wp_seq ?_
   refine wp_region_lit ?_
   refine omv R rfl rfl fun a R => ?_
   refine oas R rfl rfl fun a R => ?_
   refine oas R rfl rfl fun a R => ?_
   refine wpList_nil ?_
   refine then_normal ?_
   refine wp_ret ?_
   exact post_ret R rfl rfl ⟨(some x12_6), 0, rfl, h⟩
theorem s_drawer_NewDisk (x0 : Sl) (Q : Option Addr → Int → World → Prop) (w : World) (h : drawer_NewDisk x0 Q w) :
    Calls Tryd.prog 21 #[Sl.val x0] w (Rets fun v w => ∃ r0 : Option Addr, ∃ r1 : Int, v = (.tuple #[.pointer r0, .int .i64 r1] : Value) ∧ Q r0 r1 w) :=
  calls_body (args := [Sl.val x0]) Tryd.func21 rfl rfl (Nat.le_of_ble_eq_true rfl) (L := [(0, Sl.val x0)]) (by simp [starts]) (b_drawer_NewDisk x0 Q w h rfl)

/-! levylaw19.begin -/

def levylaw19_begin.k2 (x0 : Int) (x7_1_0 : Option Addr) (y2_15 : Bool) (Q : Option Addr → World → Prop) (w : World) : Prop :=
  (if y2_15 = true then Q none w else al w (.cells #[.pointer x7_1_0, .pointer none, .int .u32 x0, .slice none 0 0, .slice none 0 0, .slice none 0 0, .slice none 0 0, .bool false] 32) fun x19_4 w => Q (some x19_4) w)

def levylaw19_begin (x0 : Int) (Q : Option Addr → World → Prop) (w : World) : Prop :=
  drawer_NewDisk (Sl.mk none 0 0) (fun x7_1_0 x7_1_1 w => (if (Option.isNone x7_1_0) = true then levylaw19_begin.k2 x0 x7_1_0 true Q w else levylaw19_begin.k2 x0 x7_1_0 (x7_1_1 != 0) Q w)) w

theorem b_levylaw19_begin (x0 : Int) (Q : Option Addr → World → Prop) (w : World) (h : levylaw19_begin x0 Q w) {c : Code} (hb : Tryd.f7.body = some c) :
 ∀ a, Rep a 21 [(0, .int .u32 x0)] [] → c.wp Tryd.prog (bodyPost Tryd.prog Tryd.f7 (Rets fun v w => ∃ r0 : Option Addr, v = (.pointer r0 : Value) ∧ Q r0 w)) a w := by
 intro a R
 obtain rfl := Option.some.inj hb
 unfold levylaw19_begin at h
 refine wp_seq ?_
 refine wp_region_lit ?_
 refine oas R rfl rfl fun a R => ?_
 refine wpList_nil ?_
 refine then_normal ?_
 refine wp_seq ?_
 refine wp_region_lit ?_
 refine op_call R (rn_calls R rfl cf21) rfl ?_
 refine call_mono (s_drawer_NewDisk (Sl.mk none 0 0) _ _ h) ?_
 rintro _ w8 ⟨x7_1_0, x7_1_1, rfl, h⟩ a R
 refine omv R rfl rfl fun a R => ?_
 refine op_val R (rn_ext R rfl rfl) rfl fun a R => ?_
 refine op_val R (rn_ext R rfl rfl) rfl fun a R => ?_
 refine oas R rfl rfl fun a R => ?_
 refine oas R rfl rfl fun a R => ?_
 refine wpList_nil ?_
 refine then_normal ?_
 refine wp_seq ?_
 refine seq_join (fun a w => ∃ y2_15 : Bool, Rep a 21 [(0, .int .u32 x0), (3, .pointer x7_1_0), (15, .bool y2_15)] [] ∧ levylaw19_begin.k2 x0 x7_1_0 y2_15 Q w) ?_ ?_
 ·refine wp_region_lit ?_
  refine omv R rfl rfl fun a R => ?_
  refine op_val R (rn_nilPE R rfl rfl Tryd.underlying27) rfl fun a R => ?_
  refine omv R rfl rfl fun a R => ?_
  rcases ite_cases h with ⟨g6, h⟩ | ⟨g6, h⟩
  ·refine op_pass R rfl rfl rfl (nft g6) (fun a R => ?_) (by intro s hs; cases hs; rfl)
   refine op_pass R rfl rfl rfl (nft g6) (fun a R => ?_) (by intro s hs; cases hs; rfl)
   refine op_val R (rn_pickT R rfl g6 rfl) rfl fun a R => ?_
   refine wpList_nil ?_
   refine then_normal ?_
   exact ⟨true, R.weak ⟨rfl, rfl, rfl, trivial⟩, h⟩
  ·refine op_guard R rfl rfl rfl g6 ?_
   refine omv R rfl rfl fun a R => ?_
   refine op_guard R rfl rfl rfl g6 ?_
   refine op_val R (rn_bin (v := .bool (x7_1_1 != 0)) R rfl rfl rfl) rfl fun a R => ?_
   refine op_val R (rn_pickF R rfl g6 rfl) rfl fun a R => ?_
   refine wpList_nil ?_
   refine then_normal ?_
   exact ⟨(x7_1_1 != 0), R.weak ⟨rfl, rfl, rfl, trivial⟩, h⟩
 ·rintro a w ⟨y2_15, R, h⟩
  unfold levylaw19_begin.k2 at h
  rcases ite_cases h with ⟨g3, h⟩ | ⟨g3, h⟩
  ·refine wp_condT R (congrArg (fun b => some (Value.bool b)) g3) ?_
   refine wp_seq ?_
   refine wp_region_lit ?_
   refine oas R rfl rfl fun a R => ?_
   refine wpList_nil ?_
   refine then_normal ?_
   refine wp_ret ?_
   refine then_ret ?_
   exact post_ret R rfl rfl ⟨none, rfl, h⟩
  ·refine wp_condF R (congrArg (fun b => some (Value.bool b)) g3) ?_
   refine wp_skip ?_
   refine then_normal ?_
   refine wp_seq ?_
   refine wp_region_lit ?_
   refine omv R rfl rfl fun a R => ?_
   refine omv R rfl rfl fun a R => ?_
   refine op_val R (rn_build (r := .agg #[.pointer x7_1_0, .pointer none, .int .u32 x0, .slice none 0 0, .slice none 0 0, .slice none 0 0, .slice none 0 0, .bool false]) R rfl (fun w => by kernel_rfl)) rfl fun a R => ?_
   obtain ⟨x19_4, e5, h⟩ := al_e h
   refine op_val (v := .pointer (some x19_4)) R (by rw [e5]; exact rn_bx (x := (.tmp 18)) (t := 32) R rfl) rfl fun a R => ?_
   refine oas R rfl rfl fun a R => ?_
   refine wpList_nil ?_
   refine then_normal ?_
   refine wp_seq ?_
   refine wp_region_lit ?_
   refine omv R rfl rfl fun a R => ?_
   refine oas R rfl rfl fun a R => ?_
   refine wpList_nil ?_
   refine then_normal ?_
   refine wp_ret ?_
   exact post_ret R rfl rfl ⟨(some x19_4), rfl, h⟩
theorem s_levylaw19_begin (x0 : Int) (Q : Option Addr → World → Prop) (w : World) (h : levylaw19_begin x0 Q w) :
    Calls Tryd.prog 7 #[.int .u32 x0] w (Rets fun v w => ∃ r0 : Option Addr, v = (.pointer r0 : Value) ∧ Q r0 w) :=
  calls_body (args := [.int .u32 x0]) Tryd.func7 rfl rfl (Nat.le_of_ble_eq_true rfl) (L := [(0, .int .u32 x0)]) (by simp [starts]) (b_levylaw19_begin x0 Q w h rfl)

/-! levylaw19.record -/

def levylaw19_record (x0 : Int) (x1 : Sl) (Q : Int → Sl → World → Prop) (w : World) : Prop :=
  al w (.cells #[.int .u8 0, .slice none 0 0] 37) fun x4_1 w => rn Tryd.prog Sl.val (Builtin.append_ #[29, 29] 29 [.slice none 0 0, Sl.val x1].toArray) w fun x8_4 w => stN w x4_1 [.int .u8 (IntKind.u8.wrap x0), Sl.val x8_4] fun w => ld (Value.int .u8) w (x4_1.add 0) fun r6_0 => ld Sl.val w (x4_1.add 1) fun r6_1 => Q r6_0 r6_1 w

theorem b_levylaw19_record (x0 : Int) (x1 : Sl) (Q : Int → Sl → World → Prop) (w : World) (h : levylaw19_record x0 x1 Q w) {c : Code} (hb : Tryd.f10.body = some c) :
 ∀ a, Rep a 10 [(0, .int .i64 x0), (1, Sl.val x1)] [] → c.wp Tryd.prog (bodyPost Tryd.prog Tryd.f10 (Rets fun v w => ∃ r0 : Int, ∃ r1 : Sl, v = (.agg #[.int .u8 r0, Sl.val r1] : Value) ∧ Q r0 r1 w)) a w := by
 intro a R
 obtain rfl := Option.some.inj hb
 unfold levylaw19_record at h
 refine wp_seq ?_
 refine wp_region_lit ?_
 obtain ⟨x4_1, e2, h⟩ := al_e h
 refine op_val (v := .pointer (some x4_1)) R (by rw [e2]; exact rn_al R ze37) rfl fun a R => ?_
 refine wpList_nil ?_
 refine then_normal ?_
 refine wp_seq ?_
 refine wp_region_lit ?_
 refine omv R rfl rfl fun a R => ?_
 refine op_val R (rn_cvI R rfl Tryd.underlying3 Tryd.underlying5) rfl fun a R => ?_
 refine omv R rfl rfl fun a R => ?_
 obtain ⟨x8_4, w3, cx8_4, h⟩ := h
 refine op_val R (rn_bi (vs := [.slice none 0 0, Sl.val x1]) R rfl (fun _ => rfl) cx8_4) rfl fun a R => ?_
 refine op_val R (rn_build (r := .agg #[.int .u8 (IntKind.u8.wrap x0), Sl.val x8_4]) R rfl (fun w => by kernel_rfl)) rfl fun a R => ?_
 obtain ⟨q5, h⟩ := h
 refine op_unit R (rn_stN (vs := [.int .u8 (IntKind.u8.wrap x0), Sl.val x8_4]) R rfl rfl (ao ⟨rfl, rfl, trivial⟩) sz37 q5) fun a R => ?_
 refine wpList_nil ?_
 refine then_normal ?_
 refine wp_ret ?_
 obtain ⟨r6_0, cr6_0, h⟩ := h
 obtain ⟨r6_1, cr6_1, h⟩ := h
 exact post_retC [.agg #[.int .u8 r6_0, Sl.val r6_1]] R rfl ⟨lcN Tryd.underlying37 rfl rfl sz37 ⟨cr6_0, cr6_1, trivial⟩, trivial⟩ ⟨r6_0, r6_1, rfl, h⟩
theorem s_levylaw19_record (x0 : Int) (x1 : Sl) (Q : Int → Sl → World → Prop) (w : World) (h : levylaw19_record x0 x1 Q w) :
    Calls Tryd.prog 10 #[.int .i64 x0, Sl.val x1] w (Rets fun v w => ∃ r0 : Int, ∃ r1 : Sl, v = (.agg #[.int .u8 r0, Sl.val r1] : Value) ∧ Q r0 r1 w) :=
  calls_body (args := [.int .i64 x0, Sl.val x1]) Tryd.func10 rfl rfl (Nat.le_of_ble_eq_true rfl) (L := [(0, .int .i64 x0), (1, Sl.val x1)]) (by simp [starts]) (b_levylaw19_record x0 x1 Q w h rfl)

/-! (drawer.Disk).failed -/

def drawer_Disk_failed (x0 : Option Addr) (Q : Bool → World → Prop) (w : World) : Prop :=
  nn x0 fun x4_1 => ld (Value.int .i64) w (x4_1.add 5) fun x6_2 => (if (decide (x6_2 ≤ 0)) = true then Q false w else nn x0 fun x9_5 => ld (Value.int .i64) w (x9_5.add 4) fun x11_6 => (if (decide (x11_6 > 0)) = true then nn x0 fun x14_9 => ld (Value.int .i64) w (x14_9.add 4) fun x16_10 => nn x0 fun x18_12 => st w (x18_12.add 4) (.int .i64 (IntKind.i64.wrap (x16_10 - 1))) fun w => Q false w else nn x0 fun x21_14 => ld (Value.int .i64) w (x21_14.add 5) fun x23_15 => nn x0 fun x25_17 => st w (x25_17.add 5) (.int .i64 (IntKind.i64.wrap (x23_15 - 1))) fun w => Q true w))

theorem b_drawer_Disk_failed (x0 : Option Addr) (Q : Bool → World → Prop) (w : World) (h : drawer_Disk_failed x0 Q w) {c : Code} (hb : Tryd.f58.body = some c) :
 ∀ a, Rep a 27 [(0, .pointer x0)] [] → c.wp Tryd.prog (bodyPost Tryd.prog Tryd.f58 (Rets fun v w => ∃ r0 : Bool, v = (.bool r0 : Value) ∧ Q r0 w)) a w := by
 intro a R
 obtain rfl := Option.some.inj hb
 unfold drawer_Disk_failed at h
 refine wp_seq ?_
 refine wp_region_lit ?_
 refine oas R rfl rfl fun a R => ?_
 refine wpList_nil ?_
 refine then_normal ?_
 refine wp_seq ?_
 refine wp_seq ?_
 refine wp_region_lit ?_
 refine omv R rfl rfl fun a R => ?_
 obtain ⟨x4_1, cx4_1, h⟩ := h
 refine onl R rfl cx4_1 rfl fun a R => ?_
 refine ofd R rfl fd75_5 rfl fun a R => ?_
 obtain ⟨x6_2, cx6_2, h⟩ := h
 refine old R rfl Tryd.underlying3 rfl cx6_2 rfl fun a R => ?_
 refine op_val R (rn_bin (v := .bool (decide (x6_2 ≤ 0))) R rfl rfl rfl) rfl fun a R => ?_
 refine wpList_nil ?_
 refine then_normal ?_
 rcases ite_cases h with ⟨g4, h⟩ | ⟨g4, h⟩
 ·refine wp_condT R (congrArg (fun b => some (Value.bool b)) g4) ?_
  refine wp_seq ?_
  refine wp_region_lit ?_
  refine oas R rfl rfl fun a R => ?_
  refine wpList_nil ?_
  refine then_normal ?_
  refine wp_ret ?_
  refine then_ret ?_
  exact post_ret R rfl rfl ⟨false, rfl, h⟩
 ·refine wp_condF R (congrArg (fun b => some (Value.bool b)) g4) ?_
  refine wp_skip ?_
  refine then_normal ?_
  refine wp_seq ?_
  refine wp_seq ?_
  refine wp_region_lit ?_
  refine omv R rfl rfl fun a R => ?_
  obtain ⟨x9_5, cx9_5, h⟩ := h
  refine onl R rfl cx9_5 rfl fun a R => ?_
  refine ofd R rfl fd75_4 rfl fun a R => ?_
  obtain ⟨x11_6, cx11_6, h⟩ := h
  refine old R rfl Tryd.underlying3 rfl cx11_6 rfl fun a R => ?_
  refine op_val R (rn_bin (v := .bool (decide (x11_6 > 0))) R rfl rfl rfl) rfl fun a R => ?_
  refine wpList_nil ?_
  refine then_normal ?_
  rcases ite_cases h with ⟨g8, h⟩ | ⟨g8, h⟩
  ·refine wp_condT R (congrArg (fun b => some (Value.bool b)) g8) ?_
   refine wp_seq ?_
   refine wp_region_lit ?_
   refine omv R rfl rfl fun a R => ?_
   obtain ⟨x14_9, cx14_9, h⟩ := h
   refine onl R rfl cx14_9 rfl fun a R => ?_
   refine ofd R rfl fd75_4 rfl fun a R => ?_
   obtain ⟨x16_10, cx16_10, h⟩ := h
   refine old R rfl Tryd.underlying3 rfl cx16_10 rfl fun a R => ?_
   refine op_val R (rn_bin (v := .int .i64 (IntKind.i64.wrap (x16_10 - 1))) R rfl rfl rfl) rfl fun a R => ?_
   obtain ⟨x18_12, cx18_12, h⟩ := h
   refine onl R rfl cx18_12 rfl fun a R => ?_
   refine ofd R rfl fd75_4 rfl fun a R => ?_
   obtain ⟨q13, f13, h⟩ := h
   refine op_unit R (rn_st R rfl rfl rfl sz3 q13 f13) fun a R => ?_
   refine wpList_nil ?_
   refine then_normal ?_
   refine wp_seq ?_
   refine wp_region_lit ?_
   refine oas R rfl rfl fun a R => ?_
   refine wpList_nil ?_
   refine then_normal ?_
   refine wp_ret ?_
   refine then_ret ?_
   exact post_ret R rfl rfl ⟨false, rfl, h⟩
  ·refine wp_condF R (congrArg (fun b => some (Value.bool b)) g8) ?_
   refine wp_skip ?_
   refine then_normal ?_
   refine wp_seq ?_
   refine wp_region_lit ?_
   refine omv R rfl rfl fun a R => ?_
   obtain ⟨x21_14, cx21_14, h⟩ := h
   refine onl R rfl cx21_14 rfl fun a R => ?_
   refine ofd R rfl fd75_5 rfl fun a R => ?_
   obtain ⟨x23_15, cx23_15, h⟩ := h
   refine old R rfl Tryd.underlying3 rfl cx23_15 rfl fun a R => ?_
   refine op_val R (rn_bin (v := .int .i64 (IntKind.i64.wrap (x23_15 - 1))) R rfl rfl rfl) rfl fun a R => ?_
   obtain ⟨x25_17, cx25_17, h⟩ := h
   refine onl R rfl cx25_17 rfl fun a R => ?_
   refine ofd R rfl fd75_5 rfl fun a R => ?_
   obtain ⟨q18, f18, h⟩ := h
   refine op_unit R (rn_st R rfl rfl rfl sz3 q18 f18) fun a R => ?_
   refine wpList_nil ?_
   refine then_normal ?_
   refine wp_seq ?_
   refine wp_region_lit ?_
   refine oas R rfl rfl fun a R => ?_
   refine wpList_nil ?_
   refine then_normal ?_
   refine wp_ret ?_
   exact post_ret R rfl rfl ⟨true, rfl, h⟩
theorem s_drawer_Disk_failed (x0 : Option Addr) (Q : Bool → World → Prop) (w : World) (h : drawer_Disk_failed x0 Q w) :
    Calls Tryd.prog 58 #[.pointer x0] w (Rets fun v w => ∃ r0 : Bool, v = (.bool r0 : Value) ∧ Q r0 w) :=
  calls_body (args := [.pointer x0]) Tryd.func58 rfl rfl (Nat.le_of_ble_eq_true rfl) (L := [(0, .pointer x0)]) (by simp [starts]) (b_drawer_Disk_failed x0 Q w h rfl)

/-! (drawer.Disk).ahead -/

def drawer_Disk_ahead (x0 : Option Addr) (x1 : ByteArray) (Q : Int → World → Prop) (w : World) : Prop :=
  drawer_named x1 (fun x7_1_0 w => (if x7_1_0 = true then nn x0 fun x11_3 => ld Value.bool w (x11_3.add 1) fun x13_4 => (if x13_4 = true then Q 190 w else drawer_Disk_failed x0 (fun x16_6_0 w => (if x16_6_0 = true then Q 191 w else Q 0 w)) w) else Q 192 w)) w

theorem b_drawer_Disk_ahead (x0 : Option Addr) (x1 : ByteArray) (Q : Int → World → Prop) (w : World) (h : drawer_Disk_ahead x0 x1 Q w) {c : Code} (hb : Tryd.f46.body = some c) :
 ∀ a, Rep a 17 [(0, .pointer x0), (1, .string x1)] [] → c.wp Tryd.prog (bodyPost Tryd.prog Tryd.f46 (Rets fun v w => ∃ r0 : Int, v = (.int .i64 r0 : Value) ∧ Q r0 w)) a w := by
 intro a R
 obtain rfl := Option.some.inj hb
 unfold drawer_Disk_ahead at h
 refine wp_seq ?_
 refine wp_region_lit ?_
 refine oas R rfl rfl fun a R => ?_
 refine wpList_nil ?_
 refine then_normal ?_
 refine wp_seq ?_
 refine wp_block ?_
 refine wp_seq ?_
 refine wp_region_lit ?_
 refine omv R rfl rfl fun a R => ?_
 refine op_call R (rn_calls R rfl cf35) rfl ?_
 refine call_mono (s_drawer_named _ _ _ h) ?_
 rintro _ w9 ⟨x7_1_0, rfl, h⟩ a R
 refine op_val R (rn_un (v := .bool (!x7_1_0)) R rfl rfl) rfl fun a R => ?_
 refine oas R rfl rfl fun a R => ?_
 refine wpList_nil ?_
 refine then_normal ?_
 rcases ite_cases h with ⟨g2, h⟩ | ⟨g2, h⟩
 ·refine wp_condF R (congrArg (fun b => some (Value.bool b)) (nf g2)) ?_
  refine wp_seq ?_
  refine wp_region_lit ?_
  refine omv R rfl rfl fun a R => ?_
  obtain ⟨x11_3, cx11_3, h⟩ := h
  refine onl R rfl cx11_3 rfl fun a R => ?_
  refine ofd R rfl fd75_1 rfl fun a R => ?_
  obtain ⟨x13_4, cx13_4, h⟩ := h
  refine old R rfl Tryd.underlying4 rfl cx13_4 rfl fun a R => ?_
  refine oas R rfl rfl fun a R => ?_
  refine wpList_nil ?_
  refine then_normal ?_
  rcases ite_cases h with ⟨g5, h⟩ | ⟨g5, h⟩
  ·refine wp_condT R (congrArg (fun b => some (Value.bool b)) g5) ?_
   refine wp_seq ?_
   refine wp_region_lit ?_
   refine oas R rfl rfl fun a R => ?_
   refine wpList_nil ?_
   refine then_normal ?_
   refine wp_ret ?_
   refine block_ret ?_
   refine then_ret ?_
   exact post_ret R rfl rfl ⟨190, rfl, h⟩
  ·refine wp_condF R (congrArg (fun b => some (Value.bool b)) g5) ?_
   refine wp_seq ?_
   refine wp_region_lit ?_
   refine omv R rfl rfl fun a R => ?_
   refine op_call R (rn_calls R rfl cf58) rfl ?_
   refine call_mono (s_drawer_Disk_failed _ _ _ h) ?_
   rintro _ w8 ⟨x16_6_0, rfl, h⟩ a R
   refine oas R rfl rfl fun a R => ?_
   refine wpList_nil ?_
   refine then_normal ?_
   rcases ite_cases h with ⟨g7, h⟩ | ⟨g7, h⟩
   ·refine wp_condT R (congrArg (fun b => some (Value.bool b)) g7) ?_
    refine wp_seq ?_
    refine wp_region_lit ?_
    refine oas R rfl rfl fun a R => ?_
    refine wpList_nil ?_
    refine then_normal ?_
    refine wp_ret ?_
    refine block_ret ?_
    refine then_ret ?_
    exact post_ret R rfl rfl ⟨191, rfl, h⟩
   ·refine wp_condF R (congrArg (fun b => some (Value.bool b)) g7) ?_
    refine wp_skip ?_
    refine block_normal ?_
    refine then_normal ?_
    refine wp_seq ?_
    refine wp_region_lit ?_
    refine oas R rfl rfl fun a R => ?_
    refine wpList_nil ?_
    refine then_normal ?_
    refine wp_ret ?_
    exact post_ret R rfl rfl ⟨0, rfl, h⟩
 ·refine wp_condT R (congrArg (fun b => some (Value.bool b)) (nt g2)) ?_
  refine wp_seq ?_
  refine wp_region_lit ?_
  refine oas R rfl rfl fun a R => ?_
  refine wpList_nil ?_
  refine then_normal ?_
  refine wp_ret ?_
  refine block_ret ?_
  refine then_ret ?_
  exact post_ret R rfl rfl ⟨192, rfl, h⟩
theorem s_drawer_Disk_ahead (x0 : Option Addr) (x1 : ByteArray) (Q : Int → World → Prop) (w : World) (h : drawer_Disk_ahead x0 x1 Q w) :
    Calls Tryd.prog 46 #[.pointer x0, .string x1] w (Rets fun v w => ∃ r0 : Int, v = (.int .i64 r0 : Value) ∧ Q r0 w) :=
  calls_body (args := [.pointer x0, .string x1]) Tryd.func46 rfl rfl (Nat.le_of_ble_eq_true rfl) (L := [(0, .pointer x0), (1, .string x1)]) (by simp [starts]) (b_drawer_Disk_ahead x0 x1 Q w h rfl)

/-! (drawer.Disk).Crash -/

def drawer_Disk_Crash (x0 : Option Addr) (Q : World → Prop) (w : World) : Prop :=
  nn x0 fun x7_1 => st w (x7_1.add 1) (.bool true) fun w => nn x0 fun x9_3 => st w (x9_3.add 2) (.bool false) fun w => nn x0 fun x11_5 => st w (x11_5.add 3) (.int .i64 0) fun w => nn x0 fun x13_7 => st w (x13_7.add 4) (.int .i64 0) fun w => nn x0 fun x15_9 => st w (x15_9.add 5) (.int .i64 0) fun w => Q  w

theorem b_drawer_Disk_Crash (x0 : Option Addr) (Q : World → Prop) (w : World) (h : drawer_Disk_Crash x0 Q w) {c : Code} (hb : Tryd.f31.body = some c) :
 ∀ a, Rep a 17 [(0, .pointer x0)] [] → c.wp Tryd.prog (bodyPost Tryd.prog Tryd.f31 (Rets fun v w => v = (.tuple #[] : Value) ∧ Q w)) a w := by
 intro a R
 obtain rfl := Option.some.inj hb
 unfold drawer_Disk_Crash at h
 refine wp_region_lit ?_
 refine omv R rfl rfl fun a R => ?_
 refine omv R rfl rfl fun a R => ?_
 refine omv R rfl rfl fun a R => ?_
 refine omv R rfl rfl fun a R => ?_
 refine omv R rfl rfl fun a R => ?_
 obtain ⟨x7_1, cx7_1, h⟩ := h
 refine onl R rfl cx7_1 rfl fun a R => ?_
 refine ofd R rfl fd75_1 rfl fun a R => ?_
 obtain ⟨q2, f2, h⟩ := h
 refine op_unit R (rn_st R rfl rfl rfl sz4 q2 f2) fun a R => ?_
 obtain ⟨x9_3, cx9_3, h⟩ := h
 refine onl R rfl cx9_3 rfl fun a R => ?_
 refine ofd R rfl fd75_2 rfl fun a R => ?_
 obtain ⟨q4, f4, h⟩ := h
 refine op_unit R (rn_st R rfl rfl rfl sz4 q4 f4) fun a R => ?_
 obtain ⟨x11_5, cx11_5, h⟩ := h
 refine onl R rfl cx11_5 rfl fun a R => ?_
 refine ofd R rfl fd75_3 rfl fun a R => ?_
 obtain ⟨q6, f6, h⟩ := h
 refine op_unit R (rn_st R rfl rfl rfl sz3 q6 f6) fun a R => ?_
 obtain ⟨x13_7, cx13_7, h⟩ := h
 refine onl R rfl cx13_7 rfl fun a R => ?_
 refine ofd R rfl fd75_4 rfl fun a R => ?_
 obtain ⟨q8, f8, h⟩ := h
 refine op_unit R (rn_st R rfl rfl rfl sz3 q8 f8) fun a R => ?_
 obtain ⟨x15_9, cx15_9, h⟩ := h
 refine onl R rfl cx15_9 rfl fun a R => ?_
 refine ofd R rfl fd75_5 rfl fun a R => ?_
 obtain ⟨q10, f10, h⟩ := h
 refine op_unit R (rn_st R rfl rfl rfl sz3 q10 f10) fun a R => ?_
 refine wpList_nil ?_
 exact post_end R rfl rfl ⟨rfl, h⟩
theorem s_drawer_Disk_Crash (x0 : Option Addr) (Q : World → Prop) (w : World) (h : drawer_Disk_Crash x0 Q w) :
    Calls Tryd.prog 31 #[.pointer x0] w (Rets fun v w => v = (.tuple #[] : Value) ∧ Q w) :=
  calls_body (args := [.pointer x0]) Tryd.func31 rfl rfl (Nat.le_of_ble_eq_true rfl) (L := [(0, .pointer x0)]) (by simp [starts]) (b_drawer_Disk_Crash x0 Q w h rfl)

/-! (drawer.Disk).paid -/

def drawer_Disk_paid (x0 : Option Addr) (x1 : Int) (Q : Int → Bool → World → Prop) (w : World) : Prop :=
  nn x0 fun x8_1 => ld Value.bool w (x8_1.add 2) fun x10_2 => (if x10_2 = true then nn x0 fun x15_4 => ld (Value.int .i64) w (x15_4.add 3) fun x17_5 => (if (decide (x1 ≤ x17_5)) = true then nn x0 fun x20_8 => ld (Value.int .i64) w (x20_8.add 3) fun x22_9 => nn x0 fun x25_11 => st w (x25_11.add 3) (.int .i64 (IntKind.i64.wrap (x22_9 - x1))) fun w => Q x1 false w else nn x0 fun x29_13 => ld (Value.int .i64) w (x29_13.add 3) fun x31_14 => drawer_Disk_Crash x0 (fun  w => Q x31_14 true w) w) else Q x1 false w)

theorem b_drawer_Disk_paid (x0 : Option Addr) (x1 : Int) (Q : Int → Bool → World → Prop) (w : World) (h : drawer_Disk_paid x0 x1 Q w) {c : Code} (hb : Tryd.f47.body = some c) :
 ∀ a, Rep a 35 [(0, .pointer x0), (1, .int .i64 x1)] [] → c.wp Tryd.prog (bodyPost Tryd.prog Tryd.f47 (Rets fun v w => ∃ r0 : Int, ∃ r1 : Bool, v = (.tuple #[.int .i64 r0, .bool r1] : Value) ∧ Q r0 r1 w)) a w := by
 intro a R
 obtain rfl := Option.some.inj hb
 unfold drawer_Disk_paid at h
 refine wp_seq ?_
 refine wp_region_lit ?_
 refine oas R rfl rfl fun a R => ?_
 refine oas R rfl rfl fun a R => ?_
 refine wpList_nil ?_
 refine then_normal ?_
 refine wp_seq ?_
 refine wp_seq ?_
 refine wp_region_lit ?_
 refine omv R rfl rfl fun a R => ?_
 obtain ⟨x8_1, cx8_1, h⟩ := h
 refine onl R rfl cx8_1 rfl fun a R => ?_
 refine ofd R rfl fd75_2 rfl fun a R => ?_
 obtain ⟨x10_2, cx10_2, h⟩ := h
 refine old R rfl Tryd.underlying4 rfl cx10_2 rfl fun a R => ?_
 refine op_val R (rn_un (v := .bool (!x10_2)) R rfl rfl) rfl fun a R => ?_
 refine wpList_nil ?_
 refine then_normal ?_
 rcases ite_cases h with ⟨g3, h⟩ | ⟨g3, h⟩
 ·refine wp_condF R (congrArg (fun b => some (Value.bool b)) (nf g3)) ?_
  refine wp_skip ?_
  refine then_normal ?_
  refine wp_seq ?_
  refine wp_seq ?_
  refine wp_region_lit ?_
  refine omv R rfl rfl fun a R => ?_
  refine omv R rfl rfl fun a R => ?_
  obtain ⟨x15_4, cx15_4, h⟩ := h
  refine onl R rfl cx15_4 rfl fun a R => ?_
  refine ofd R rfl fd75_3 rfl fun a R => ?_
  obtain ⟨x17_5, cx17_5, h⟩ := h
  refine old R rfl Tryd.underlying3 rfl cx17_5 rfl fun a R => ?_
  refine op_val R (rn_bin (v := .bool (decide (x1 ≤ x17_5))) R rfl rfl rfl) rfl fun a R => ?_
  refine wpList_nil ?_
  refine then_normal ?_
  rcases ite_cases h with ⟨g7, h⟩ | ⟨g7, h⟩
  ·refine wp_condT R (congrArg (fun b => some (Value.bool b)) g7) ?_
   refine wp_seq ?_
   refine wp_region_lit ?_
   refine omv R rfl rfl fun a R => ?_
   obtain ⟨x20_8, cx20_8, h⟩ := h
   refine onl R rfl cx20_8 rfl fun a R => ?_
   refine ofd R rfl fd75_3 rfl fun a R => ?_
   obtain ⟨x22_9, cx22_9, h⟩ := h
   refine old R rfl Tryd.underlying3 rfl cx22_9 rfl fun a R => ?_
   refine omv R rfl rfl fun a R => ?_
   refine op_val R (rn_bin (v := .int .i64 (IntKind.i64.wrap (x22_9 - x1))) R rfl rfl rfl) rfl fun a R => ?_
   obtain ⟨x25_11, cx25_11, h⟩ := h
   refine onl R rfl cx25_11 rfl fun a R => ?_
   refine ofd R rfl fd75_3 rfl fun a R => ?_
   obtain ⟨q12, f12, h⟩ := h
   refine op_unit R (rn_st R rfl rfl rfl sz3 q12 f12) fun a R => ?_
   refine wpList_nil ?_
   refine then_normal ?_
   refine wp_seq ?_
   refine wp_region_lit ?_
   refine omv R rfl rfl fun a R => ?_
   refine oas R rfl rfl fun a R => ?_
   refine oas R rfl rfl fun a R => ?_
   refine wpList_nil ?_
   refine then_normal ?_
   refine wp_ret ?_
   refine then_ret ?_
   exact post_ret R rfl rfl ⟨x1, false, rfl, h⟩
  ·refine wp_condF R (congrArg (fun b => some (Value.bool b)) g7) ?_
   refine wp_skip ?_
   refine then_normal ?_
   refine wp_seq ?_
   refine wp_region_lit ?_
   refine omv R rfl rfl fun a R => ?_
   obtain ⟨x29_13, cx29_13, h⟩ := h
   refine onl R rfl cx29_13 rfl fun a R => ?_
   refine ofd R rfl fd75_3 rfl fun a R => ?_
   obtain ⟨x31_14, cx31_14, h⟩ := h
   refine old R rfl Tryd.underlying3 rfl cx31_14 rfl fun a R => ?_
   refine oas R rfl rfl fun a R => ?_
   refine wpList_nil ?_
   refine then_normal ?_
   refine wp_seq ?_
   refine wp_region_lit ?_
   refine omv R rfl rfl fun a R => ?_
   refine op_call R (rn_calls R rfl cf31) rfl ?_
   refine call_mono (s_drawer_Disk_Crash _ _ _ h) ?_
   rintro _ w16 ⟨rfl, h⟩ a R
   refine wpList_nil ?_
   refine then_normal ?_
   refine wp_seq ?_
   refine wp_region_lit ?_
   refine omv R rfl rfl fun a R => ?_
   refine oas R rfl rfl fun a R => ?_
   refine oas R rfl rfl fun a R => ?_
   refine wpList_nil ?_
   refine then_normal ?_
   refine wp_ret ?_
   exact post_ret R rfl rfl ⟨x31_14, true, rfl, h⟩
 ·refine wp_condT R (congrArg (fun b => some (Value.bool b)) (nt g3)) ?_
  refine wp_seq ?_
  refine wp_region_lit ?_
  refine omv R rfl rfl fun a R => ?_
  refine oas R rfl rfl fun a R => ?_
  refine oas R rfl rfl fun a R => ?_
  refine wpList_nil ?_
  refine then_normal ?_
  refine wp_ret ?_
  refine then_ret ?_
  exact post_ret R rfl rfl ⟨x1, false, rfl, h⟩
theorem s_drawer_Disk_paid (x0 : Option Addr) (x1 : Int) (Q : Int → Bool → World → Prop) (w : World) (h : drawer_Disk_paid x0 x1 Q w) :
    Calls Tryd.prog 47 #[.pointer x0, .int .i64 x1] w (Rets fun v w => ∃ r0 : Int, ∃ r1 : Bool, v = (.tuple #[.int .i64 r0, .bool r1] : Value) ∧ Q r0 r1 w) :=
  calls_body (args := [.pointer x0, .int .i64 x1]) Tryd.func47 rfl rfl (Nat.le_of_ble_eq_true rfl) (L := [(0, .pointer x0), (1, .int .i64 x1)]) (by simp [starts]) (b_drawer_Disk_paid x0 x1 Q w h rfl)

/-! (drawer.Disk).Append$1 -/

def drawer_Disk_Append_1 (x0 : Addr) (x1 : Addr) (Q : World → Prop) (w : World) : Prop :=
  ld Value.bool w x0 fun x2_1 => (if x2_1 = true then st w x1 (.int .i64 190) fun w => Q  w else Q  w)

theorem b_drawer_Disk_Append_1 (x0 : Addr) (x1 : Addr) (Q : World → Prop) (w : World) (h : drawer_Disk_Append_1 x0 x1 Q w) {c : Code} (hb : Tryd.f48.body = some c) :
 ∀ a, Rep a 3 [(0, .pointer (some x0)), (1, .pointer (some x1))] [] → c.wp Tryd.prog (bodyPost Tryd.prog Tryd.f48 (Rets fun v w => v = (.tuple #[] : Value) ∧ Q w)) a w := by
 intro a R
 obtain rfl := Option.some.inj hb
 unfold drawer_Disk_Append_1 at h
 refine wp_seq ?_
 refine wp_region_lit ?_
 obtain ⟨x2_1, cx2_1, h⟩ := h
 refine old R rfl Tryd.underlying4 rfl cx2_1 rfl fun a R => ?_
 refine wpList_nil ?_
 refine then_normal ?_
 rcases ite_cases h with ⟨g2, h⟩ | ⟨g2, h⟩
 ·refine wp_condT R (congrArg (fun b => some (Value.bool b)) g2) ?_
  refine wp_region_lit ?_
  obtain ⟨q3, f3, h⟩ := h
  refine op_unit R (rn_st R rfl rfl rfl sz34 q3 f3) fun a R => ?_
  refine wpList_nil ?_
  exact post_end R rfl rfl ⟨rfl, h⟩
 ·refine wp_condF R (congrArg (fun b => some (Value.bool b)) g2) ?_
  refine wp_skip ?_
  exact post_end R rfl rfl ⟨rfl, h⟩
theorem s_drawer_Disk_Append_1 (x0 : Addr) (x1 : Addr) (Q : World → Prop) (w : World) (h : drawer_Disk_Append_1 x0 x1 Q w) :
    Calls Tryd.prog 48 #[.pointer (some x0), .pointer (some x1)] w (Rets fun v w => v = (.tuple #[] : Value) ∧ Q w) :=
  calls_body (args := [.pointer (some x0), .pointer (some x1)]) Tryd.func48 rfl rfl (Nat.le_of_ble_eq_true rfl) (L := [(0, .pointer (some x0)), (1, .pointer (some x1))]) (by simp [starts]) (b_drawer_Disk_Append_1 x0 x1 Q w h rfl)

theorem sD_drawer_Disk_Append_1 (x0 : Addr) (x1 : Addr) (Q : World → Prop) (w : World) (h : drawer_Disk_Append_1 x0 x1 Q w) (u : FrameMode) :
    CallsD Tryd.prog 48 #[.pointer (some x0), .pointer (some x1)] u w (fun e u' w' => u' = u ∧ Rets (fun v w => v = (.tuple #[] : Value) ∧ Q w) e w') :=
  callsD_body (args := [.pointer (some x0), .pointer (some x1)]) Tryd.func48 rfl rfl (Nat.le_of_ble_eq_true rfl) (L := [(0, .pointer (some x0)), (1, .pointer (some x1))]) (by simp [starts]) (b_drawer_Disk_Append_1 x0 x1 Q w h rfl)

/-! (drawer.Disk).Append -/

def drawer_Disk_Append.k23 (x2 : Sl) (x6_1 : Addr) (x10_19 : Addr) (y22_9 : Int) (y23_8 : Option Addr) (Q : Int → World → Prop) (w : World) : Prop :=
  nn y23_8 fun x78_24 => ld Sl.val (World.drew w) (x78_24.add 0) fun x80_25 => ((0 : Int) ≤ y22_9 ∧ y22_9 ≤ ((x2.cap : Nat) : Int) ∧ rn Tryd.prog Sl.val (Builtin.append_ #[29, 29] 29 [Sl.val x80_25, Sl.val (cutSl ⟨x2.p, x2.len, x2.cap⟩ 1 0 (Int.toNat y22_9) x2.cap)].toArray) (World.drew w) fun x84_28 w => ((World.cell? w (x78_24.add 0) = some (Sl.val x80_25) ∧ True) ∧ nn y23_8 fun x85_29 => st w (x85_29.add 0) (Sl.val x84_28) fun w => st w x6_1 (.int .i64 0) fun w => drawer_Disk_Append_1 x10_19 x6_1 (fun w => ld (Value.int .i64) w x6_1 fun r32 => Q r32 w) w))

def drawer_Disk_Append.k22 (x0 : Option Addr) (x1 : ByteArray) (x2 : Sl) (x6_1 : Addr) (x22_10 : Option Addr) (x10_19 : Addr) (y22_9 : Int) (Q : Int → World → Prop) (w : World) : Prop :=
  (if (Option.isNone x22_10) = true then al w (.cells #[.slice none 0 0, .int .i64 0] 78) fun x69_35 w => nn x0 fun x71_37 => ld Value.map w (x71_37.add 0) fun x73_38 => rn0 Tryd.prog (Instr.mapUpdate 73 (.map x73_38) (.string x1) (.pointer (some x69_35))) w fun w => drawer_Disk_Append.k23 x2 x6_1 x10_19 y22_9 (some x69_35) Q w else drawer_Disk_Append.k23 x2 x6_1 x10_19 y22_9 x22_10 Q w)

def drawer_Disk_Append.k12 (x0 : Option Addr) (x1 : ByteArray) (x2 : Sl) (x6_1 : Addr) (x22_10 : Option Addr) (y12_52 : Bool) (Q : Int → World → Prop) (w : World) : Prop :=
  (if y12_52 = true then st w x6_1 (.int .i64 194) fun w => ld (Value.int .i64) w x6_1 fun r15 => Q r15 w else drawer_Disk_paid x0 (IntKind.i64.wrap (((x2.len : Nat) : Int) + 1)) (fun x58_18_0 x58_18_1 w => al w (.cells #[.bool false] 4) fun x10_19 w => st w x10_19 (.bool x58_18_1) fun w => ld Value.bool w x10_19 fun x61_40 => (if x61_40 = true then drawer_Disk_Append.k22 x0 x1 x2 x6_1 x22_10 x10_19 x58_18_0 Q w else drawer_Disk_Append.k22 x0 x1 x2 x6_1 x22_10 x10_19 ((x2.len : Nat) : Int) Q w)) w)

def drawer_Disk_Append (x0 : Option Addr) (x1 : ByteArray) (x2 : Sl) (Q : Int → World → Prop) (w : World) : Prop :=
  al w (.cells #[.int .i64 0] 34) fun x6_1 w => drawer_Disk_ahead x0 x1 (fun x13_3_0 w => (if (x13_3_0 != 0) = true then st w x6_1 (.int .i64 x13_3_0) fun w => ld (Value.int .i64) w x6_1 fun r7 => Q r7 w else nn x0 fun x18_8 => ld Value.map w (x18_8.add 0) fun x20_9 => rn Tryd.prog Value.pointer (Instr.lookup 73 (.map x20_9) (.string x1) false) w fun x22_10 w => (if (Option.isNone x22_10) = true then nn x0 fun x27_45 => ld Value.map w (x27_45.add 0) fun x29_46 => rn Tryd.prog (Value.int .i64) (Builtin.len_ #[73] 3 [.map x29_46].toArray) w fun x30_48 w => (if (decide (x30_48 ≥ 40)) = true then drawer_Disk_Append.k12 x0 x1 x2 x6_1 x22_10 true Q w else drawer_Disk_Append.k12 x0 x1 x2 x6_1 x22_10 (decide (((x2.len : Nat) : Int) > 2097152)) Q w) else nn x22_10 fun x38_53 => ld Sl.val w (x38_53.add 0) fun x40_54 => (if (decide ((IntKind.i64.wrap (((x40_54.len : Nat) : Int) + ((x2.len : Nat) : Int))) > 2097152)) = true then drawer_Disk_Append.k12 x0 x1 x2 x6_1 x22_10 true Q w else drawer_Disk_Append.k12 x0 x1 x2 x6_1 x22_10 (decide (((x2.len : Nat) : Int) > 2097152)) Q w)))) w

theorem b_drawer_Disk_Append (x0 : Option Addr) (x1 : ByteArray) (x2 : Sl) (Q : Int → World → Prop) (w : World) (h : drawer_Disk_Append x0 x1 x2 Q w) {c : Code} (hb : Tryd.f36.body = some c) :
 ∀ a, Rep a 87 [(0, .pointer x0), (1, .string x1), (2, Sl.val x2)] [] → c.wp Tryd.prog (np (bodyPostD Tryd.prog Tryd.f36 (Rets fun v w => ∃ r0 : Int, v = (.int .i64 r0 : Value) ∧ Q r0 w))) a w := by
 intro a R
 obtain rfl := Option.some.inj hb
 unfold drawer_Disk_Append at h
 refine wp_seq ?_
 refine wp_region_lit ?_
 obtain ⟨x6_1, e2, h⟩ := al_e h
 refine op_val (v := .pointer (some x6_1)) R (by rw [e2]; exact rn_al R ze34) rfl fun a R => ?_
 refine wpList_nil ?_
 refine then_normal ?_
 refine wp_seq ?_
 refine wp_seq ?_
 refine wp_region_lit ?_
 refine omv R rfl rfl fun a R => ?_
 refine omv R rfl rfl fun a R => ?_
 refine op_call R (rn_calls R rfl cf46) rfl ?_
 refine call_mono (s_drawer_Disk_ahead _ _ _ _ h) ?_
 rintro _ w62 ⟨x13_3_0, rfl, h⟩ a R
 refine oas R rfl rfl fun a R => ?_
 refine wpList_nil ?_
 refine then_normal ?_
 refine wp_seq ?_
 refine wp_region_lit ?_
 refine omv R rfl rfl fun a R => ?_
 refine op_val R (rn_bin (v := .bool (x13_3_0 != 0)) R rfl rfl rfl) rfl fun a R => ?_
 refine wpList_nil ?_
 refine then_normal ?_
 rcases ite_cases h with ⟨g5, h⟩ | ⟨g5, h⟩
 ·refine wp_condT R (congrArg (fun b => some (Value.bool b)) g5) ?_
  refine wp_seq ?_
  refine wp_region_lit ?_
  refine omv R rfl rfl fun a R => ?_
  obtain ⟨q6, f6, h⟩ := h
  refine op_unit R (rn_st R rfl rfl rfl sz34 q6 f6) fun a R => ?_
  refine wpList_nil ?_
  refine then_normal ?_
  refine wp_ret ?_
  refine then_ret ?_
  refine postD_ret R ?_
  obtain ⟨r7, cr7, h⟩ := h
  exact lv_nil (results_cell R rfl rfl Tryd.underlying34 rfl cr7) ⟨r7, rfl, h⟩
 ·refine wp_condF R (congrArg (fun b => some (Value.bool b)) g5) ?_
  refine wp_skip ?_
  refine then_normal ?_
  refine wp_seq ?_
  refine wp_region_lit ?_
  refine omv R rfl rfl fun a R => ?_
  obtain ⟨x18_8, cx18_8, h⟩ := h
  refine onl R rfl cx18_8 rfl fun a R => ?_
  refine ofd R rfl fd75_0 rfl fun a R => ?_
  obtain ⟨x20_9, cx20_9, h⟩ := h
  refine old R rfl Tryd.underlying73 rfl cx20_9 rfl fun a R => ?_
  refine omv R rfl rfl fun a R => ?_
  obtain ⟨x22_10, w11, cx22_10, h⟩ := h
  refine op_val R (rn_lookup R rfl rfl cx22_10) rfl fun a R => ?_
  refine oas R rfl rfl fun a R => ?_
  refine wpList_nil ?_
  refine then_normal ?_
  refine wp_seq ?_
  refine seq_join (fun a w => ∃ y12_52 : Bool, Rep a 87 [(0, .pointer x0), (1, .string x1), (2, Sl.val x2), (6, .pointer (some x6_1)), (8, .pointer x22_10), (52, .bool y12_52)] [] ∧ drawer_Disk_Append.k12 x0 x1 x2 x6_1 x22_10 y12_52 Q w) ?_ ?_
  ·refine wp_region_lit ?_
   refine omv R rfl rfl fun a R => ?_
   refine op_val R (rn_nilPE R rfl rfl Tryd.underlying72) rfl fun a R => ?_
   refine omv R rfl rfl fun a R => ?_
   rcases ite_cases h with ⟨g44, h⟩ | ⟨g44, h⟩
   ·refine op_guard R rfl rfl rfl g44 ?_
    refine omv R rfl rfl fun a R => ?_
    refine op_guard R rfl rfl rfl g44 ?_
    obtain ⟨x27_45, cx27_45, h⟩ := h
    refine onl R rfl cx27_45 rfl fun a R => ?_
    refine op_guard R rfl rfl rfl g44 ?_
    refine ofd R rfl fd75_0 rfl fun a R => ?_
    refine op_guard R rfl rfl rfl g44 ?_
    obtain ⟨x29_46, cx29_46, h⟩ := h
    refine old R rfl Tryd.underlying73 rfl cx29_46 rfl fun a R => ?_
    refine op_guard R rfl rfl rfl g44 ?_
    obtain ⟨x30_48, w47, cx30_48, h⟩ := h
    refine op_val R (rn_bi (vs := [.map x29_46]) R rfl (fun _ => rfl) cx30_48) rfl fun a R => ?_
    refine op_guard R rfl rfl rfl g44 ?_
    refine op_val R (rn_bin (v := .bool (decide (x30_48 ≥ 40))) R rfl rfl rfl) rfl fun a R => ?_
    refine op_val R (rn_pickT R rfl g44 rfl) rfl fun a R => ?_
    refine omv R rfl rfl fun a R => ?_
    rcases ite_cases h with ⟨g50, h⟩ | ⟨g50, h⟩
    ·refine op_pass R rfl rfl rfl (nft g50) (fun a R => ?_) (by intro s hs; cases hs; rfl)
     refine op_pass R rfl rfl rfl (nft g50) (fun a R => ?_) (by intro s hs; cases hs; rfl)
     refine op_pass R rfl rfl rfl (nft g50) (fun a R => ?_) (by intro s hs; cases hs; rfl)
     refine op_pass0 R rfl rfl rfl (fun a R => ?_) (by intro s hs; cases hs; rfl)
     refine op_pass0 R rfl rfl rfl (fun a R => ?_) (by intro s hs; cases hs; rfl)
     refine op_pass0 R rfl rfl rfl (fun a R => ?_) (by intro s hs; cases hs; rfl)
     refine op_pass0 R rfl rfl rfl (fun a R => ?_) (by intro s hs; cases hs; rfl)
     refine op_pass0 R rfl rfl rfl (fun a R => ?_) (by intro s hs; cases hs; rfl)
     refine op_pass0 R rfl rfl rfl (fun a R => ?_) (by intro s hs; cases hs; rfl)
     refine op_pass0 R rfl rfl rfl (fun a R => ?_) (by intro s hs; cases hs; rfl)
     refine op_pass0 R rfl rfl rfl (fun a R => ?_) (by intro s hs; cases hs; rfl)
     refine op_pass0 R rfl rfl rfl (fun a R => ?_) (by intro s hs; cases hs; rfl)
     refine op_pass R rfl rfl rfl (nft g50) (fun a R => ?_) (by intro s hs; cases hs; rfl)
     refine op_val R (rn_pickT R rfl g50 rfl) rfl fun a R => ?_
     refine omv R rfl rfl fun a R => ?_
     refine op_pass R rfl rfl rfl (nft rfl) (fun a R => ?_) (by intro s hs; cases hs; rfl)
     refine op_pass R rfl rfl rfl (nft rfl) (fun a R => ?_) (by intro s hs; cases hs; rfl)
     refine op_pass R rfl rfl rfl (nft rfl) (fun a R => ?_) (by intro s hs; cases hs; rfl)
     refine op_val R (rn_pickT R rfl rfl rfl) rfl fun a R => ?_
     refine wpList_nil ?_
     refine then_normal ?_
     exact ⟨true, R.weak ⟨rfl, rfl, rfl, rfl, rfl, rfl, trivial⟩, h⟩
    ·refine op_guard R rfl rfl rfl g50 ?_
     refine omv R rfl rfl fun a R => ?_
     refine op_guard R rfl rfl rfl g50 ?_
     refine op_val R (rn_nilPN R rfl rfl Tryd.underlying72) rfl fun a R => ?_
     refine op_guard R rfl rfl rfl g50 ?_
     refine omv R rfl rfl fun a R => ?_
     refine op_pass R rfl rfl rfl (ntf (nf g44)) (fun a R => ?_) (by intro s hs; cases hs; rfl)
     refine op_pass R rfl rfl rfl (ntf (nf g44)) (fun a R => ?_) (by intro s hs; cases hs; rfl)
     refine op_pass R rfl rfl rfl (ntf (nf g44)) (fun a R => ?_) (by intro s hs; cases hs; rfl)
     refine op_pass R rfl rfl rfl (ntf (nf g44)) (fun a R => ?_) (by intro s hs; cases hs; rfl)
     refine op_pass R rfl rfl rfl (ntf (nf g44)) (fun a R => ?_) (by intro s hs; cases hs; rfl)
     refine op_pass R rfl rfl rfl (ntf (nf g44)) (fun a R => ?_) (by intro s hs; cases hs; rfl)
     refine op_pass R rfl rfl rfl (ntf (nf g44)) (fun a R => ?_) (by intro s hs; cases hs; rfl)
     refine op_pass R rfl rfl rfl (ntf (nf g44)) (fun a R => ?_) (by intro s hs; cases hs; rfl)
     refine op_pass R rfl rfl rfl (ntf (nf g44)) (fun a R => ?_) (by intro s hs; cases hs; rfl)
     refine op_guard R rfl rfl rfl g50 ?_
     refine op_val R (rn_pickF R rfl (nf g44) rfl) rfl fun a R => ?_
     refine op_val R (rn_pickF R rfl g50 rfl) rfl fun a R => ?_
     refine omv R rfl rfl fun a R => ?_
     refine op_guard R rfl rfl rfl rfl ?_
     refine omv R rfl rfl fun a R => ?_
     refine op_guard R rfl rfl rfl rfl ?_
     refine op_val R (rn_len R rfl Tryd.underlying29) rfl fun a R => ?_
     refine op_guard R rfl rfl rfl rfl ?_
     refine op_val R (rn_bin (v := .bool (decide (((x2.len : Nat) : Int) > 2097152))) R rfl rfl rfl) rfl fun a R => ?_
     refine op_val R (rn_pickF R rfl rfl rfl) rfl fun a R => ?_
     refine wpList_nil ?_
     refine then_normal ?_
     exact ⟨(decide (((x2.len : Nat) : Int) > 2097152)), R.weak ⟨rfl, rfl, rfl, rfl, rfl, rfl, trivial⟩, h⟩
   ·refine op_pass R rfl rfl rfl (ntf g44) (fun a R => ?_) (by intro s hs; cases hs; rfl)
    refine op_pass R rfl rfl rfl (ntf g44) (fun a R => ?_) (by intro s hs; cases hs; rfl)
    refine op_pass R rfl rfl rfl (ntf g44) (fun a R => ?_) (by intro s hs; cases hs; rfl)
    refine op_pass R rfl rfl rfl (ntf g44) (fun a R => ?_) (by intro s hs; cases hs; rfl)
    refine op_pass R rfl rfl rfl (ntf g44) (fun a R => ?_) (by intro s hs; cases hs; rfl)
    refine op_pass R rfl rfl rfl (ntf g44) (fun a R => ?_) (by intro s hs; cases hs; rfl)
    refine op_val R (rn_pickF R rfl g44 rfl) rfl fun a R => ?_
    refine omv R rfl rfl fun a R => ?_
    refine op_guard R rfl rfl rfl rfl ?_
    refine omv R rfl rfl fun a R => ?_
    refine op_guard R rfl rfl rfl rfl ?_
    refine op_val R (rn_nilPN R rfl rfl Tryd.underlying72) rfl fun a R => ?_
    refine op_guard R rfl rfl rfl rfl ?_
    refine omv R rfl rfl fun a R => ?_
    refine op_guard R rfl rfl rfl (nt g44) ?_
    refine omv R rfl rfl fun a R => ?_
    refine op_guard R rfl rfl rfl (nt g44) ?_
    obtain ⟨x38_53, cx38_53, h⟩ := h
    refine onl R rfl cx38_53 rfl fun a R => ?_
    refine op_guard R rfl rfl rfl (nt g44) ?_
    refine ofd R rfl fd78_0 rfl fun a R => ?_
    refine op_guard R rfl rfl rfl (nt g44) ?_
    obtain ⟨x40_54, cx40_54, h⟩ := h
    refine old R rfl Tryd.underlying29 rfl cx40_54 rfl fun a R => ?_
    refine op_guard R rfl rfl rfl (nt g44) ?_
    refine op_val R (rn_len R rfl Tryd.underlying29) rfl fun a R => ?_
    refine op_guard R rfl rfl rfl (nt g44) ?_
    refine omv R rfl rfl fun a R => ?_
    refine op_guard R rfl rfl rfl (nt g44) ?_
    refine op_val R (rn_len R rfl Tryd.underlying29) rfl fun a R => ?_
    refine op_guard R rfl rfl rfl (nt g44) ?_
    refine op_val R (rn_bin (v := .int .i64 (IntKind.i64.wrap (((x40_54.len : Nat) : Int) + ((x2.len : Nat) : Int)))) R rfl rfl rfl) rfl fun a R => ?_
    refine op_guard R rfl rfl rfl (nt g44) ?_
    refine op_val R (rn_bin (v := .bool (decide ((IntKind.i64.wrap (((x40_54.len : Nat) : Int) + ((x2.len : Nat) : Int))) > 2097152))) R rfl rfl rfl) rfl fun a R => ?_
    refine op_guard R rfl rfl rfl rfl ?_
    refine op_val R (rn_pickT R rfl (nt g44) rfl) rfl fun a R => ?_
    refine op_val R (rn_pickF R rfl rfl rfl) rfl fun a R => ?_
    refine omv R rfl rfl fun a R => ?_
    rcases ite_cases h with ⟨g59, h⟩ | ⟨g59, h⟩
    ·refine op_pass R rfl rfl rfl (nft g59) (fun a R => ?_) (by intro s hs; cases hs; rfl)
     refine op_pass R rfl rfl rfl (nft g59) (fun a R => ?_) (by intro s hs; cases hs; rfl)
     refine op_pass R rfl rfl rfl (nft g59) (fun a R => ?_) (by intro s hs; cases hs; rfl)
     refine op_val R (rn_pickT R rfl g59 rfl) rfl fun a R => ?_
     refine wpList_nil ?_
     refine then_normal ?_
     exact ⟨true, R.weak ⟨rfl, rfl, rfl, rfl, rfl, rfl, trivial⟩, h⟩
    ·refine op_guard R rfl rfl rfl g59 ?_
     refine omv R rfl rfl fun a R => ?_
     refine op_guard R rfl rfl rfl g59 ?_
     refine op_val R (rn_len R rfl Tryd.underlying29) rfl fun a R => ?_
     refine op_guard R rfl rfl rfl g59 ?_
     refine op_val R (rn_bin (v := .bool (decide (((x2.len : Nat) : Int) > 2097152))) R rfl rfl rfl) rfl fun a R => ?_
     refine op_val R (rn_pickF R rfl g59 rfl) rfl fun a R => ?_
     refine wpList_nil ?_
     refine then_normal ?_
     exact ⟨(decide (((x2.len : Nat) : Int) > 2097152)), R.weak ⟨rfl, rfl, rfl, rfl, rfl, rfl, trivial⟩, h⟩
  ·rintro a w ⟨y12_52, R, h⟩
   unfold drawer_Disk_Append.k12 at h
   rcases ite_cases h with ⟨g13, h⟩ | ⟨g13, h⟩
   ·refine wp_condT R (congrArg (fun b => some (Value.bool b)) g13) ?_
    refine wp_seq ?_
    refine wp_region_lit ?_
    obtain ⟨q14, f14, h⟩ := h
    refine op_unit R (rn_st R rfl rfl rfl sz34 q14 f14) fun a R => ?_
    refine wpList_nil ?_
    refine then_normal ?_
    refine wp_ret ?_
    refine then_ret ?_
    refine postD_ret R ?_
    obtain ⟨r15, cr15, h⟩ := h
    exact lv_nil (results_cell R rfl rfl Tryd.underlying34 rfl cr15) ⟨r15, rfl, h⟩
   ·refine wp_condF R (congrArg (fun b => some (Value.bool b)) g13) ?_
    refine wp_skip ?_
    refine then_normal ?_
    refine wp_seq ?_
    refine wp_region_lit ?_
    refine omv R rfl rfl fun a R => ?_
    refine omv R rfl rfl fun a R => ?_
    refine op_val R (rn_len R rfl Tryd.underlying29) rfl fun a R => ?_
    refine op_val R (rn_bin (v := .int .i64 (IntKind.i64.wrap (((x2.len : Nat) : Int) + 1))) R rfl rfl rfl) rfl fun a R => ?_
    refine op_call R (rn_calls R rfl cf47) rfl ?_
    refine call_mono (s_drawer_Disk_paid _ _ _ _ h) ?_
    rintro _ w43 ⟨x58_18_0, x58_18_1, rfl, h⟩ a R
    refine omv R rfl rfl fun a R => ?_
    refine op_val R (rn_ext R rfl rfl) rfl fun a R => ?_
    refine op_val R (rn_ext R rfl rfl) rfl fun a R => ?_
    obtain ⟨x10_19, e20, h⟩ := al_e h
    refine op_val (v := .pointer (some x10_19)) R (by rw [e20]; exact rn_al R ze4) rfl fun a R => ?_
    refine oas R rfl rfl fun a R => ?_
    obtain ⟨q21, f21, h⟩ := h
    refine op_unit R (rn_st R rfl rfl rfl sz4 q21 f21) fun a R => ?_
    refine wpList_nil ?_
    refine then_normal ?_
    refine seq_join (fun a w => ∃ y22_9 : Int, Rep a 87 [(0, .pointer x0), (1, .string x1), (2, Sl.val x2), (6, .pointer (some x6_1)), (8, .pointer x22_10), (9, .int .i64 y22_9), (10, .pointer (some x10_19))] [] ∧ drawer_Disk_Append.k22 x0 x1 x2 x6_1 x22_10 x10_19 y22_9 Q w) ?_ ?_
    ·refine wp_seq ?_
     refine wp_region_lit ?_
     obtain ⟨x61_40, cx61_40, h⟩ := h
     refine old R rfl Tryd.underlying4 rfl cx61_40 rfl fun a R => ?_
     refine op_val R (rn_un (v := .bool (!x61_40)) R rfl rfl) rfl fun a R => ?_
     refine wpList_nil ?_
     refine then_normal ?_
     rcases ite_cases h with ⟨g41, h⟩ | ⟨g41, h⟩
     ·refine wp_condF R (congrArg (fun b => some (Value.bool b)) (nf g41)) ?_
      refine wp_skip ?_
      refine then_normal ?_
      exact ⟨x58_18_0, R.weak ⟨rfl, rfl, rfl, rfl, rfl, rfl, rfl, trivial⟩, h⟩
     ·refine wp_condT R (congrArg (fun b => some (Value.bool b)) (nt g41)) ?_
      refine wp_region_lit ?_
      refine omv R rfl rfl fun a R => ?_
      refine op_val R (rn_len R rfl Tryd.underlying29) rfl fun a R => ?_
      refine oas R rfl rfl fun a R => ?_
      refine wpList_nil ?_
      refine then_normal ?_
      exact ⟨((x2.len : Nat) : Int), R.weak ⟨rfl, rfl, rfl, rfl, rfl, rfl, rfl, trivial⟩, h⟩
    ·rintro a w ⟨y22_9, R, h⟩
     unfold drawer_Disk_Append.k22 at h
     refine wp_seq ?_
     refine wp_region_lit ?_
     refine op_val R (rn_fn (us := []) R rfl rfl) rfl fun a R => ?_
     refine op_defer R (rn_df (vs := []) R rfl rfl) fun a R => ?_
     refine wpList_nil ?_
     refine then_normal ?_
     refine seq_join (fun a w => ∃ y23_8 : Option Addr, Rep a 87 [(2, Sl.val x2), (6, .pointer (some x6_1)), (8, .pointer y23_8), (9, .int .i64 y22_9), (10, .pointer (some x10_19))] [⟨.fn (.func 48) [.pointer (some x10_19), .pointer (some x6_1)].toArray, #[] ++ [].toArray⟩] ∧ drawer_Disk_Append.k23 x2 x6_1 x10_19 y22_9 y23_8 Q w) ?_ ?_
     ·refine wp_seq ?_
      refine wp_region_lit ?_
      refine omv R rfl rfl fun a R => ?_
      refine op_val R (rn_nilPE R rfl rfl Tryd.underlying72) rfl fun a R => ?_
      refine wpList_nil ?_
      refine then_normal ?_
      rcases ite_cases h with ⟨g34, h⟩ | ⟨g34, h⟩
      ·refine wp_condT R (congrArg (fun b => some (Value.bool b)) g34) ?_
       refine wp_seq ?_
       refine wp_region_lit ?_
       refine op_val R (rn_build (r := .agg #[.slice none 0 0, .int .i64 0]) R rfl (fun w => by kernel_rfl)) rfl fun a R => ?_
       obtain ⟨x69_35, e36, h⟩ := al_e h
       refine op_val (v := .pointer (some x69_35)) R (by rw [e36]; exact rn_bx (x := (.tmp 68)) (t := 78) R rfl) rfl fun a R => ?_
       refine oas R rfl rfl fun a R => ?_
       refine wpList_nil ?_
       refine then_normal ?_
       refine wp_region_lit ?_
       refine omv R rfl rfl fun a R => ?_
       obtain ⟨x71_37, cx71_37, h⟩ := h
       refine onl R rfl cx71_37 rfl fun a R => ?_
       refine ofd R rfl fd75_0 rfl fun a R => ?_
       obtain ⟨x73_38, cx73_38, h⟩ := h
       refine old R rfl Tryd.underlying73 rfl cx73_38 rfl fun a R => ?_
       refine omv R rfl rfl fun a R => ?_
       refine omv R rfl rfl fun a R => ?_
       obtain ⟨w39, c39, h⟩ := h
       refine op_unit R (rn_mapUpdate R rfl rfl rfl c39) fun a R => ?_
       refine wpList_nil ?_
       refine then_normal ?_
       exact ⟨(some x69_35), R.weak ⟨rfl, rfl, rfl, rfl, rfl, trivial⟩, h⟩
      ·refine wp_condF R (congrArg (fun b => some (Value.bool b)) g34) ?_
       refine wp_skip ?_
       refine then_normal ?_
       exact ⟨x22_10, R.weak ⟨rfl, rfl, rfl, rfl, rfl, trivial⟩, h⟩
     ·rintro a w ⟨y23_8, R, h⟩
      unfold drawer_Disk_Append.k23 at h
      refine wp_seq ?_
      refine region_start mo fun inv => ?_
      obtain ⟨x78_24, cx78_24, h⟩ := h
      obtain ⟨x80_25, cx80_25, h⟩ := h
      obtain ⟨s26_0, s26_1, h⟩ := h
      refine seg_held (n := 9) (f := 9) (g := 3) (fun w : World => w.cell? (x78_24.add 0) = some (Sl.val x80_25) ∧ True) (by kernel_rfl) fun inv => ?_
      have hS0 : (fun w : World => w.cell? (x78_24.add 0) = some (Sl.val x80_25) ∧ True) _ := ⟨cx80_25, trivial⟩
      refine dr_val (i := 0) R (waits_dom (by kernel_rfl) (by kernel_rfl)) (by kernel_rfl) inv rfl (by decide) (by kernel_rfl) (by kernel_rfl) (fun _ _ _ h => h) wanted_none (fun w' hS => rn_mv R rfl) hS0 rfl fun inv a R => ?_
      refine dr_val (i := 1) R (waits_dom (by kernel_rfl) (by kernel_rfl)) (by kernel_rfl) inv rfl (by decide) (by kernel_rfl) (by kernel_rfl) (fun _ _ _ h => h) wanted_none (fun w' hS => rn_mv R rfl) hS0 rfl fun inv a R => ?_
      refine dr_val (i := 2) R (waits_dom (by kernel_rfl) (by kernel_rfl)) (by kernel_rfl) inv rfl (by decide) (by kernel_rfl) (by kernel_rfl) (fun _ _ _ h => h) wanted_none (fun w' hS => rn_nil R rfl cx78_24) hS0 rfl fun inv a R => ?_
      refine dr_val (i := 3) R (waits_dom (by kernel_rfl) (by kernel_rfl)) (by kernel_rfl) inv rfl (by decide) (by kernel_rfl) (by kernel_rfl) (fun _ _ _ h => h) wanted_none (fun w' hS => rn_fld R rfl fd78_0) hS0 rfl fun inv a R => ?_
      refine dr_val (i := 4) R (waits_dom (by kernel_rfl) (by kernel_rfl)) (by kernel_rfl) inv rfl (by decide) (by kernel_rfl) (by kernel_rfl) (fun _ _ _ h => h) wanted_none (fun w' hS => rn_ld R rfl Tryd.underlying29 rfl (hS.1)) hS0 rfl fun inv a R => ?_
      refine dr_val (i := 5) R (waits_dom (by kernel_rfl) (by kernel_rfl)) (by kernel_rfl) inv rfl (by decide) (by kernel_rfl) (by kernel_rfl) (fun _ _ _ h => h) wanted_none (fun w' hS => rn_mv R rfl) hS0 rfl fun inv a R => ?_
      refine dr_val (i := 6) R (waits_dom (by kernel_rfl) (by kernel_rfl)) (by kernel_rfl) inv rfl (by decide) (by kernel_rfl) (by kernel_rfl) (fun _ _ _ h => h) wanted_none (fun w' hS => rn_mv R rfl) hS0 rfl fun inv a R => ?_
      refine dr_val (i := 7) R (waits_dom (by kernel_rfl) (by kernel_rfl)) (by kernel_rfl) inv rfl (by decide) (by kernel_rfl) (by kernel_rfl) (fun _ _ _ h => h) wanted_none (fun w' hS => rn_sl R rfl rfl (evo R rfl) rfl (fun w => bounds2 (lo := none) (hi := (some (.i64, y22_9))) 0 (Int.toNat y22_9) ⟨s26_0, s26_1, rfl⟩ rfl w) Tryd.underlying29 sz5) hS0 rfl fun inv a R => ?_
      obtain ⟨x84_28, w27, cx84_28, h⟩ := h
      obtain ⟨hS0, h⟩ := h
      refine dr_run (i := 8) R inv rfl (by decide) (by kernel_rfl) wanted_none (rn_bi (vs := [Sl.val x80_25, Sl.val (cutSl ⟨x2.p, x2.len, x2.cap⟩ 1 0 (Int.toNat y22_9) x2.cap)]) R rfl (fun _ => rfl) cx84_28) hS0 rfl fun inv a R => ?_
      refine seg_end (by kernel_rfl) ?_
      refine any_tail 9 (by kernel_rfl) ?_
      obtain ⟨x85_29, cx85_29, h⟩ := h
      refine onl R rfl cx85_29 rfl fun a R => ?_
      refine ofd R rfl fd78_0 rfl fun a R => ?_
      obtain ⟨q30, f30, h⟩ := h
      refine op_unit R (rn_st R rfl rfl rfl sz29 q30 f30) fun a R => ?_
      refine wpList_nil ?_
      refine then_normal ?_
      refine wp_seq ?_
      refine wp_region_lit ?_
      obtain ⟨q31, f31, h⟩ := h
      refine op_unit R (rn_st R rfl rfl rfl sz34 q31 f31) fun a R => ?_
      refine wpList_nil ?_
      refine then_normal ?_
      refine wp_ret ?_
      refine postD_ret R ?_
      refine lv_cons rfl rfl (fun w => by kernel_rfl) (fun u => sD_drawer_Disk_Append_1 _ _ _ _ h u) ?_
      rintro _ w33 ⟨rfl, h⟩
      obtain ⟨r32, cr32, h⟩ := h
      exact lv_nil (results_cell R rfl rfl Tryd.underlying34 rfl cr32) ⟨r32, rfl, h⟩
theorem s_drawer_Disk_Append (x0 : Option Addr) (x1 : ByteArray) (x2 : Sl) (Q : Int → World → Prop) (w : World) (h : drawer_Disk_Append x0 x1 x2 Q w) :
    Calls Tryd.prog 36 #[.pointer x0, .string x1, Sl.val x2] w (Rets fun v w => ∃ r0 : Int, v = (.int .i64 r0 : Value) ∧ Q r0 w) :=
  calls_bodyD (args := [.pointer x0, .string x1, Sl.val x2]) Tryd.func36 rfl rfl (Nat.le_of_ble_eq_true rfl) (L := [(0, .pointer x0), (1, .string x1), (2, Sl.val x2)]) (by simp [starts]) (b_drawer_Disk_Append x0 x1 x2 Q w h rfl)

/-! (drawer.Disk).change -/

def drawer_Disk_change (x0 : Option Addr) (x1 : ByteArray) (x2 : Value) (Q : Int → World → Prop) (w : World) : Prop :=
  drawer_Disk_ahead x0 x1 (fun x13_1_0 w => (if (x13_1_0 != 0) = true then Q x13_1_0 w else nn x0 fun x18_4 => ld Value.map w (x18_4.add 0) fun x20_5 => rn Tryd.prog Value.pointer (Instr.lookup 73 (.map x20_5) (.string x1) false) w fun x22_6 w => (if (Option.isNone x22_6) = true then Q 193 w else drawer_Disk_paid x0 1 (fun x27_9_0 x27_9_1 w => (if x27_9_1 = true then Q 190 w else cv Tryd.prog x2 [.pointer x22_6] w (fun v w => v = (.tuple #[] : Value) ∧ Q 0 w))) w))) w

theorem b_drawer_Disk_change (x0 : Option Addr) (x1 : ByteArray) (x2 : Value) (Q : Int → World → Prop) (w : World) (h : drawer_Disk_change x0 x1 x2 Q w) {c : Code} (hb : Tryd.f49.body = some c) :
 ∀ a, Rep a 34 [(0, .pointer x0), (1, .string x1), (2, x2)] [] → c.wp Tryd.prog (bodyPost Tryd.prog Tryd.f49 (Rets fun v w => ∃ r0 : Int, v = (.int .i64 r0 : Value) ∧ Q r0 w)) a w := by
 intro a R
 obtain rfl := Option.some.inj hb
 unfold drawer_Disk_change at h
 refine wp_seq ?_
 refine wp_region_lit ?_
 refine oas R rfl rfl fun a R => ?_
 refine wpList_nil ?_
 refine then_normal ?_
 refine wp_seq ?_
 refine wp_seq ?_
 refine wp_region_lit ?_
 refine omv R rfl rfl fun a R => ?_
 refine omv R rfl rfl fun a R => ?_
 refine op_call R (rn_calls R rfl cf46) rfl ?_
 refine call_mono (s_drawer_Disk_ahead _ _ _ _ h) ?_
 rintro _ w14 ⟨x13_1_0, rfl, h⟩ a R
 refine oas R rfl rfl fun a R => ?_
 refine wpList_nil ?_
 refine then_normal ?_
 refine wp_seq ?_
 refine wp_region_lit ?_
 refine omv R rfl rfl fun a R => ?_
 refine op_val R (rn_bin (v := .bool (x13_1_0 != 0)) R rfl rfl rfl) rfl fun a R => ?_
 refine wpList_nil ?_
 refine then_normal ?_
 rcases ite_cases h with ⟨g3, h⟩ | ⟨g3, h⟩
 ·refine wp_condT R (congrArg (fun b => some (Value.bool b)) g3) ?_
  refine wp_seq ?_
  refine wp_region_lit ?_
  refine omv R rfl rfl fun a R => ?_
  refine oas R rfl rfl fun a R => ?_
  refine wpList_nil ?_
  refine then_normal ?_
  refine wp_ret ?_
  refine then_ret ?_
  exact post_ret R rfl rfl ⟨x13_1_0, rfl, h⟩
 ·refine wp_condF R (congrArg (fun b => some (Value.bool b)) g3) ?_
  refine wp_skip ?_
  refine then_normal ?_
  refine wp_seq ?_
  refine wp_region_lit ?_
  refine omv R rfl rfl fun a R => ?_
  obtain ⟨x18_4, cx18_4, h⟩ := h
  refine onl R rfl cx18_4 rfl fun a R => ?_
  refine ofd R rfl fd75_0 rfl fun a R => ?_
  obtain ⟨x20_5, cx20_5, h⟩ := h
  refine old R rfl Tryd.underlying73 rfl cx20_5 rfl fun a R => ?_
  refine omv R rfl rfl fun a R => ?_
  obtain ⟨x22_6, w7, cx22_6, h⟩ := h
  refine op_val R (rn_lookup R rfl rfl cx22_6) rfl fun a R => ?_
  refine oas R rfl rfl fun a R => ?_
  refine wpList_nil ?_
  refine then_normal ?_
  refine wp_seq ?_
  refine wp_seq ?_
  refine wp_region_lit ?_
  refine omv R rfl rfl fun a R => ?_
  refine op_val R (rn_nilPE R rfl rfl Tryd.underlying72) rfl fun a R => ?_
  refine wpList_nil ?_
  refine then_normal ?_
  rcases ite_cases h with ⟨g8, h⟩ | ⟨g8, h⟩
  ·refine wp_condT R (congrArg (fun b => some (Value.bool b)) g8) ?_
   refine wp_seq ?_
   refine wp_region_lit ?_
   refine oas R rfl rfl fun a R => ?_
   refine wpList_nil ?_
   refine then_normal ?_
   refine wp_ret ?_
   refine then_ret ?_
   exact post_ret R rfl rfl ⟨193, rfl, h⟩
  ·refine wp_condF R (congrArg (fun b => some (Value.bool b)) g8) ?_
   refine wp_skip ?_
   refine then_normal ?_
   refine wp_seq ?_
   refine wp_seq ?_
   refine wp_region_lit ?_
   refine omv R rfl rfl fun a R => ?_
   refine op_call R (rn_calls R rfl cf47) rfl ?_
   refine call_mono (s_drawer_Disk_paid _ _ _ _ h) ?_
   rintro _ w13 ⟨x27_9_0, x27_9_1, rfl, h⟩ a R
   refine omv R rfl rfl fun a R => ?_
   refine op_val R (rn_ext R rfl rfl) rfl fun a R => ?_
   refine op_val R (rn_ext R rfl rfl) rfl fun a R => ?_
   refine oas R rfl rfl fun a R => ?_
   refine oas R rfl rfl fun a R => ?_
   refine wpList_nil ?_
   refine then_normal ?_
   refine wp_seq ?_
   refine wp_region_lit ?_
   refine omv R rfl rfl fun a R => ?_
   refine wpList_nil ?_
   refine then_normal ?_
   rcases ite_cases h with ⟨g10, h⟩ | ⟨g10, h⟩
   ·refine wp_condT R (congrArg (fun b => some (Value.bool b)) g10) ?_
    refine wp_seq ?_
    refine wp_region_lit ?_
    refine oas R rfl rfl fun a R => ?_
    refine wpList_nil ?_
    refine then_normal ?_
    refine wp_ret ?_
    refine then_ret ?_
    exact post_ret R rfl rfl ⟨190, rfl, h⟩
   ·refine wp_condF R (congrArg (fun b => some (Value.bool b)) g10) ?_
    refine wp_skip ?_
    refine then_normal ?_
    refine wp_seq ?_
    refine wp_region_lit ?_
    refine omv R rfl rfl fun a R => ?_
    refine omv R rfl rfl fun a R => ?_
    obtain ⟨fid11, cap11, hf11, hc11, h⟩ := h
    refine op_call R (rn_callv R rfl hf11 rfl hc11) rfl ?_
    refine call_mono (h) ?_
    rintro _ w12 ⟨rfl, h⟩ a R
    refine wpList_nil ?_
    refine then_normal ?_
    refine wp_seq ?_
    refine wp_region_lit ?_
    refine oas R rfl rfl fun a R => ?_
    refine wpList_nil ?_
    refine then_normal ?_
    refine wp_ret ?_
    exact post_ret R rfl rfl ⟨0, rfl, h⟩
theorem s_drawer_Disk_change (x0 : Option Addr) (x1 : ByteArray) (x2 : Value) (Q : Int → World → Prop) (w : World) (h : drawer_Disk_change x0 x1 x2 Q w) :
    Calls Tryd.prog 49 #[.pointer x0, .string x1, x2] w (Rets fun v w => ∃ r0 : Int, v = (.int .i64 r0 : Value) ∧ Q r0 w) :=
  calls_body (args := [.pointer x0, .string x1, x2]) Tryd.func49 rfl rfl (Nat.le_of_ble_eq_true rfl) (L := [(0, .pointer x0), (1, .string x1), (2, x2)]) (by simp [starts]) (b_drawer_Disk_change x0 x1 x2 Q w h rfl)

end Go.Proofs.YtjnifnlkicajhaaDoor.Fs
