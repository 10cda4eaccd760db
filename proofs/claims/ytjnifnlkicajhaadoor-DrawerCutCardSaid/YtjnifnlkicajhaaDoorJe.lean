/-
  The journal's names as the program makes and reads them. No condition is put on any statement here.
-/
import Derived.Test.YtjnifnlkicajhaaDoorJc
import Derived.Test.YtjnifnlkicajhaaDoorJd
namespace Go.Proofs.YtjnifnlkicajhaaDoor.Jn
open Go Vc Hp Fs Da Pm Dd
set_option maxRecDepth 4000

theorem gPow : Tryd.prog.globalNamed "internal/strconv.uint64pow10" = some 0 := by kernel_rfl
/-- the table of powers, in a block of colour 0 -/
structure Tab (w : World) (c : Col) : Prop where
  tab : Lib.TabIs Tryd.prog w "internal/strconv.uint64pow10" .u64 Lib.pow10Tab
  col : c 0 = 0
theorem Tab.lt {w c} (h : Tab w c) : 0 < w.heap.size := by
  have h1 := h.tab
  unfold Lib.TabIs World.var? at h1
  rw [gPow] at h1
  cases hh : w.heap[0]? with
  | none => simp [hh] at h1
  | some o => exact (Array.getElem?_eq_some_iff.1 hh).1
theorem Tab.chg {w c M w' c'} (h : Tab w c) (hc : Chg M w w') (he : Ext w c c') (hm : ∀ b, c b = 0 → ¬ M b) : Tab w' c' := by
  refine ⟨?_, (he _ h.lt).trans h.col⟩
  have h1 := h.tab
  unfold Lib.TabIs World.var? at h1 ⊢
  rw [gPow] at h1 ⊢
  simp only [Option.bind_some] at h1 ⊢
  rw [hc.same _ h.lt (hm _ h.col)]
  exact h1
theorem Tab.new {w c w' c'} (h : Tab w c) (hc : Chg (fun _ => False) w w') (he : Ext w c c') : Tab w' c' := h.chg hc he (fun _ _ => id)
theorem Tab.far {w c w' c'} (h : Tab w c) (S : Sofar w c w' c') : Tab w' c' := h.new S.ch S.ex
theorem Tab.eff {w c j w' c'} (h : Tab w c) (hc : Eff j w c w' c') (hj : ¬ j 0) : Tab w' c' := h.chg hc.chg hc.ext (fun b hb => by rw [hb]; exact hj)
theorem Tab.drew {w c} (h : Tab w c) : Tab w.drew c := ⟨h.tab, h.col⟩

theorem bex (s : ByteArray) (i j : Nat) : (s.extract i j).data.toList = (s.data.toList.take j).drop i := by
  simp [ByteArray.data_extract, Array.toList_extract, List.extract, List.drop_take]
theorem bapp (s t : ByteArray) : (s ++ t).data.toList = s.data.toList ++ t.data.toList := by simp
theorem bext {s t : ByteArray} (h : s.data.toList = t.data.toList) : s = t := WideShapes.bytes_inj h
open Go.Sort Go.RowKit in
theorem far_grow {w : World} {c : Col} {k : Nat} {os} : Sofar w c (grow (w.drewN k) os) c := ⟨⟨rfl, rfl, rfl, by show w.heap.size ≤ (w.heap ++ os).size; simp, fun b hb _ => by show (w.heap ++ os)[b]? = _; rw [Array.getElem?_append_left hb]⟩, Ext.refl _ _⟩
theorem far_bytes {w : World} {c : Col} {e s} : Sofar w c (Lib.bytesWorld w e s) c := ⟨⟨rfl, rfl, rfl, by rw [Lib.bytesWorld_size]; omega, fun b hb _ => Lib.bytesWorld_at_old _ _ _ _ hb⟩, Ext.refl _ _⟩

theorem name_spec {w c} {g : Nat} {Q : ByteArray → World → Prop} (T : Tab w c) (hg : g < 100000000) (H : ∀ w', Sofar w c w' c → Q (nameP g) w') : drawer_name (g : Int) Q w := by
  unfold drawer_name
  refine (Tryd.strconv_Itoa (g : Int) (by omega) (by omega) w T.tab).mono fun e w' ⟨he, k, os, hw⟩ => ?_
  subst he
  subst hw
  rw [Lib.itoa_nonneg]
  have hn := nDigits_le hg
  have h1 := Lib.nDigits_pos g
  have hsz : ByteArray.size ⟨(Lib.decDigits g).toArray⟩ = Lib.nDigits g := by show (Lib.decDigits g).toArray.size = _; rw [List.size_toArray, Lib.decDigits_length]
  refine ⟨_, rfl, ?_⟩
  rw [hsz, Da.wrap_small (i := 8 - ((Lib.nDigits g : Nat) : Int)) (by omega) (by omega)]
  have em : (if 8 - ((Lib.nDigits g : Nat) : Int) > 0 then 8 - ((Lib.nDigits g : Nat) : Int) else 0) = ((8 - Lib.nDigits g : Nat) : Int) := by split <;> omega
  rw [em, Int.toNat_natCast]
  have e8 : ByteArray.size ⟨#[48, 48, 48, 48, 48, 48, 48, 48]⟩ = 8 := rfl
  have e4 : ByteArray.size ⟨#[108, 111, 103, 45]⟩ = 4 := rfl
  have hx : ByteArray.size (ByteArray.extract ⟨#[48, 48, 48, 48, 48, 48, 48, 48]⟩ 0 (8 - Lib.nDigits g)) ≤ 8 := by rw [ByteArray.size_extract, e8]; omega
  rw [ByteArray.size_append, e8, e4]
  refine ⟨by omega, by omega, by omega, by omega, ?_⟩
  have : (⟨#[108, 111, 103, 45]⟩ ++ ByteArray.extract ⟨#[48, 48, 48, 48, 48, 48, 48, 48]⟩ 0 (8 - Lib.nDigits g)) ++ ⟨(Lib.decDigits g).toArray⟩ = nameP g := by
    refine bext ?_
    rw [bapp, bapp, bex]
    show [108, 111, 103, 45] ++ (([48, 48, 48, 48, 48, 48, 48, 48] : List UInt8).take (8 - Lib.nDigits g)).drop 0 ++ Lib.decDigits g = nameL g
    rw [List.drop_zero, show ([48, 48, 48, 48, 48, 48, 48, 48] : List UInt8) = List.replicate 8 48 from rfl, List.take_replicate, show min (8 - Lib.nDigits g) 8 = 8 - Lib.nDigits g by omega, List.append_assoc]
    rfl
  rw [this]
  exact H _ far_grow

theorem sEq_self (x : ByteArray) : sEq x x = true := by unfold sEq; exact beq_self_eq_true _
theorem generation_spec {w c} {g : Nat} {Q : Int → World → Prop} (T : Tab w c) (hg : g < 100000000) (H : ∀ w', Sofar w c w' c → Q (g : Int) w') : drawer_generation (nameP g) Q w := by
  have hsz := nameP_size hg
  unfold drawer_generation
  rw [hsz, if_neg (by decide)]
  refine ⟨by omega, by omega, ?_⟩
  have e4 : ByteArray.extract (nameP g) 0 (Int.toNat 4) = ⟨#[108, 111, 103, 45]⟩ := by
    refine bext ?_
    rw [bex]
    show ((nameL g).take 4).drop 0 = _
    rfl
  rw [e4, sEq_self]
  unfold drawer_generation.k1
  rw [Bool.not_true, if_neg (by exact Bool.false_ne_true), hsz]
  refine ⟨by omega, by omega, ?_⟩
  have ep : (ByteArray.extract (nameP g) (Int.toNat 4) 12).data.toList = pad g := by
    rw [bex]
    show ((nameL g).take 12).drop 4 = _
    have hp := pad_len hg
    rw [List.take_of_length_le (by rw [nameL, List.length_append]; unfold pad at hp; rw [hp]; decide)]
    rfl
  have hps : (ByteArray.extract (nameP g) (Int.toNat 4) 12).size ≤ 9223372036854775806 := by rw [ByteArray.size_extract, hsz]; omega
  refine (Tryd.strconv_ParseUint_10_at32_ok _ hps g (by rw [ep]; exact parse_pad hg) w).mono fun e w' ⟨he, hw⟩ => ?_
  subst he
  have S : Sofar w c w' c := by
    rcases hw with rfl | rfl
    · exact Sofar.refl _ _
    · exact far_bytes
  refine ⟨_, _, rfl, ?_⟩
  refine ⟨false, w', by kernel_rfl, by kernel_rfl, ?_⟩
  dsimp only
  rw [if_neg (by exact Bool.false_ne_true), Da.wrap_small (i := (g : Int)) (by omega) (by omega)]
  refine name_spec (T.far S) hg fun w2 S2 => ?_
  rw [sEq_self]
  unfold drawer_generation.k5
  rw [Bool.not_true, if_neg (by exact Bool.false_ne_true), Da.wrap_small (i := (g : Int)) (by omega) (by omega)]
  exact H w2 (S.new S2.ch S2.ex)
end Go.Proofs.YtjnifnlkicajhaaDoor.Jn
