/-
  The program's disk: the names; new memory: make, copy, slices.Clone. No condition is put on any statement here.
-/
import Derived.Test.YtjnifnlkicajhaaDoorDg
import Derived.Test.YtjnifnlkicajhaaDoorSl
import Derived.Sort.KeysCollected
import Derived.Sort.OwnSorted
namespace Go.Proofs.YtjnifnlkicajhaaDoor.Dd
open Go Vc Hp Fs Da Pm
set_option maxRecDepth 4000

theorem Reads.new {w w' sz s vs} (h : Reads w sz s vs) (hc : Chg (fun _ => False) w w') : Reads w' sz s vs :=
  (Src.chg (c := fun _ => 0) (c' := fun _ => 0) (j := 0) ⟨h, fun _ _ _ => rfl⟩ hc (fun _ _ => rfl) (fun _ _ => id)).1
theorem fresh {w w1 w2 M} (h : Chg (fun _ => False) w w1) (h' : Chg M w1 w2) (hm : ∀ b, M b → w.heap.size ≤ b) : Chg (fun _ => False) w w2 :=
  ⟨h'.os.trans h.os, h'.tape.trans h.tape, h'.output.trans h.output, Nat.le_trans h.size h'.size, fun b hb _ => (h'.same b (Nat.lt_of_lt_of_le hb h.size) (fun hh => by have := hm b hh; omega)).trans (h.same b hb id)⟩
theorem freshX {w w1 w2 M c c1 c2} (h : Chg (fun _ => False) w w1) (he : Ext w c c1) (he' : Ext w1 c1 c2) (_h' : Chg M w1 w2) : Ext w c c2 := fun b hb => (he' b (Nat.lt_of_lt_of_le hb h.size)).trans (he b hb)

/-- make([]T, n, cap): cells of whatever the zero is -/
theorem make_any {w c k T e z sz by' n cap} {K : Sl → World → Prop} (ht : Tryd.prog.underlying T = some (.slice e)) (hi : (Tryd.prog.info? e).map (fun i => (i.zero, i.size, i.bytes)) = some (some z, sz, by')) (h1 : n ≤ cap) (h2 : cap * (by' + 1) ≤ 140737488355328)
    (hk : ∀ g cur w' c', Own w' c' g k (.cells cur e (0, 0)) → cur.size = cap * sz → Chg (fun _ => False) w w' → Ext w c c' → w.heap.size ≤ g → K ⟨some ⟨g, 0, none⟩, n, cap⟩ w') :
    rn Tryd.prog Sl.val (Instr.makeSlice T (.int .i64 (n : Int)) (.int .i64 (cap : Int))) w K := by
  obtain ⟨i, hi', hz, hs, hb⟩ := info_of hi
  subst hs
  subst hb
  rw [Nat.mul_add, Nat.mul_one, Nat.mul_comm] at h2
  have hb' : (i.bytes : Int) * (cap : Int) ≤ 281474976710656 := by
    have : ((i.bytes * cap : Nat) : Int) ≤ 281474976710656 := by omega
    rwa [Int.natCast_mul] at this
  have hr := run_make (P := Tryd.prog) w T e i z ht hi' hz .i64 .i64 (n : Int) (cap : Int) (by omega) (by omega) hb' (by omega)
  simp only [Int.toNat_natCast] at hr
  exact ⟨⟨some ⟨w.heap.size, 0, none⟩, n, cap⟩, _, hr, (al_own (c := c) (K := fun a w => K ⟨some a, n, cap⟩ w) k fun b w' c' ho hc he hb => hk b _ w' c' ho (size_madeCells _ _) hc he hb : al w _ _)⟩
theorem copy_full {w c k g e T cur n cap src vs} {ty : TypeId} {K : Int → World → Prop} (ht : Tryd.prog.underlying T = some (.slice e)) (hi : (Tryd.prog.info? e).map (·.size) = some 1) (ho : Own w c g k (.cells cur e (0, 0))) (hcur : n ≤ cur.size) (hx : Reads w 1 src vs) (hl : src.len = n) (h1 : ∀ u ∈ vs, u.oneCell' = true)
    (hk : ∀ w', Own w' c g k (.cells (vs ++ cur.toList.drop n).toArray e (0, 0)) → Chg (· = g) w w' → K (n : Int) w') :
    rn Tryd.prog (Value.int .i64) (Builtin.copy_ #[T, T] ty [Sl.val ⟨some ⟨g, 0, none⟩, n, cap⟩, src.val].toArray) w K := by
  have hvl : vs.length = n := by rw [hx.1, hl, Nat.mul_one]
  have hf := run_firstCells (P := Tryd.prog) hx
  have hst := run_storeCells_at Tryd.prog g 0 e vs 0 cur w ho.at' (by omega) h1
  cases hq : Tryd.prog.info? e with
  | none => simp [hq] at hi
  | some i =>
    have hs : i.size = 1 := by simpa [hq] using hi
    have key : (Builtin.copy_ #[T, T] ty [Sl.val ⟨some ⟨g, 0, none⟩, n, cap⟩, src.val].toArray).run Tryd.prog w = .ok (.int .i64 (n : Int)) (w.setRow g (vs ++ cur.toList.drop n).toArray) := by
      simp only [Sl.val, hl] at hf
      simp only [Nat.add_zero, Nat.zero_add, List.take_zero, List.nil_append, hvl] at hst
      simp [Builtin.copy_, run_underlying ht, Builtin.lenOf, sizeOf, typeInfo, hq, hs, Sl.val, hl, hf, hst, goInt]
    exact ⟨_, _, key, hk _ ⟨setRow_heap w g cur _ e _ ho.at', ho.col⟩ (setRow_chg _ _ _)⟩
theorem clone_spec {w c k x} {b : List UInt8} {Q : Sl → World → Prop} (hx : Reads w 1 x (b.map u8)) (hb : b.length ≤ 1099511627776)
    (H : ∀ w' c' s', Row w' c' k 5 1 s' (b.map u8) → Chg (fun _ => False) w w' → Ext w c c' → (∀ g, Sl.blk s' = some g → w.heap.size ≤ g) → Q s' w') : slices_Clone_byte_byte x Q w := by
  unfold slices_Clone_byte_byte
  have hl : x.len = b.length := by have := hx.1; simp at this; omega
  cases hp : x.p with
  | none =>
    rw [if_pos (by rfl)]
    have hb0 : b = [] := by
      rcases hx.2 with ⟨_, h0⟩ | ⟨a, h0, _⟩
      · exact List.eq_nil_of_length_eq_zero (by omega)
      · rw [hp] at h0; cases h0
    subst hb0
    exact H w c _ (Row.nil _ _ _ _ _) (Chg.refl _ _) (Ext.refl _ _) (fun g hg => by cases (show (none : Option Nat) = some g from hg))
  | some a0 =>
    rw [if_neg (by exact Bool.false_ne_true)]
    refine al_own (c := c) k fun g w1 c1 o1 ch1 ex1 hg1 => ?_
    refine append_bytes (s := ⟨some ⟨g, 0, none⟩, 0, 0⟩) (b := []) (c := c1) (k := k) ⟨rfl, Nat.le_refl _, Nat.zero_le _, .inr ⟨g, #[], rfl, o1, rfl, rfl⟩⟩ (Reads.new hx ch1) (by show 0 + x.len ≤ _; omega) fun s' w2 c2 hrow hch hex hbl hlen => ?_
    refine H w2 c2 s' hrow (fresh ch1 hch fun bb hbb => ?_) (freshX ch1 ex1 hex hch) fun gg hgg => ?_
    · obtain rfl : g = bb := Option.some.inj (show some g = some bb from hbb)
      exact hg1
    · rcases hbl gg hgg with h | h
      · obtain rfl : g = gg := Option.some.inj (show some g = some gg from h)
        exact hg1
      · exact Nat.le_trans ch1.size h

/-! ### the names, in order -/
theorem iS : (Tryd.prog.info? 9).map (fun i => (i.zero, i.size, i.bytes)) = some (some (.string ⟨#[]⟩), 1, 16) := by kernel_rfl
theorem range_map {w c k kk m es cl l} {K : Addr → World → Prop} (h : MapS w c m k es cl l) (hk : ∀ r w' c', Own w' c' r kk (.mapIter (some m) cl #[] cl) → Chg (fun _ => False) w w' → Ext w c c' → w.heap.size ≤ r → K ⟨r, 0, none⟩ w') :
    rn Tryd.prog (fun z => Value.pointer (some z)) (Instr.range 73 (.map (some m))) w K :=
  ⟨_, _, Hp.run_range_map Tryd.underlying73 h, (al_own (c := c) (K := K) kk hk : al w _ _)⟩

open Go.Sort Go.RowKit in
theorem sort_row {w c k s} {ss : List (List UInt8)} {Q : World → Prop} (h : Row w c k 9 1 s (ss.map encStr)) (hb : ss.length < 1099511627776)
    (H : ∀ w', Row w' c k 9 1 s ((ss.mergeSort fun x y => decide (x ≤ y)).map encStr) → Chg (fun b => Sl.blk s = some b) w w' → Q w') :
    Calls Tryd.prog 41 #[Sl.val s] w (Rets fun v w => v = (.tuple #[] : Value) ∧ Q w) := by
  obtain ⟨h1, h2, h3, h4⟩ := id h
  have hl : s.len = ss.length := by simp at h1; omega
  rcases h4 with ⟨hp, h0, hc⟩ | ⟨g, cs, hp, ho, hcs, ht⟩
  · have hss : ss = [] := List.eq_nil_of_length_eq_zero (by omega)
    subst hss
    have e1 : Sl.val s = .slice none 0 0 := by unfold Sl.val; rw [hp, h0, hc]
    rw [e1]
    refine (Tryd.slices_Sort_string_none none 0 w).mono fun e w' ⟨he, hw⟩ => ?_
    subst he
    refine ⟨rfl, ?_⟩
    rw [hw]
    exact H w (by simpa using h) (Chg.refl _ _)
  · have e1 : Sl.val s = .slice (some ⟨g, 0, none⟩) ss.length s.cap := by unfold Sl.val; rw [hp, hl]
    rw [e1]
    simp only [Nat.mul_one] at ht hcs
    have hH : Holds encStr w g 0 ss.toArray := by
      intro j hj
      simp at hj
      refine ⟨?_, ho.free _⟩
      rw [Nat.zero_add, ho.cell j]
      have : (cs.toList.take s.len)[j]? = (ss.map encStr)[j]? := by rw [ht]
      rw [List.getElem?_take, if_pos (by omega)] at this
      simp at this
      rw [this]
      simp [hj]
    refine (Tryd.slices_Sort_string g 0 s.cap ss w hH ho.lt (by omega)).mono fun e w' ⟨he, n, os, hw⟩ => ?_
    subst he
    have hlen : (ss.mergeSort fun x y => decide (x ≤ y)).length = ss.length := List.length_mergeSort _
    generalize (ss.mergeSort fun x y => decide (x ≤ y)) = ts at *
    have hheap : ∀ b, b < w.heap.size → w'.heap[b]? = (w.heap.modify g (onCells (putCells encStr 0 ts.toArray)))[b]? := by
      intro b hb
      subst hw
      show ((w.heap.modify g _) ++ os)[b]? = _
      rw [Array.getElem?_append_left (by simpa using hb)]
    have hg : w'.heap[g]? = some (.cells (putCells encStr 0 ts.toArray cs) 9 (0, 0)) := by
      rw [hheap g ho.lt, Array.getElem?_modify, if_pos rfl, ho.at']
      rfl
    have hsz : w.heap.size ≤ w'.heap.size := by
      subst hw
      show _ ≤ ((w.heap.modify g _) ++ os).size
      simp
    refine ⟨rfl, H w' ⟨by simp [hlen, hl], h2, h3, .inr ⟨g, _, hp, ⟨hg, ho.col⟩, by simpa [putCells] using hcs, ?_⟩⟩ ⟨by subst hw; rfl, by subst hw; rfl, by subst hw; rfl, hsz, fun b hb hne => ?_⟩⟩
    · rw [Nat.mul_one, hl, ← hlen]
      exact take_putCells cs ts (by omega)
    · rw [hheap b hb, Array.getElem?_modify, if_neg]
      rintro rfl
      exact hne (by unfold Sl.blk; rw [hp]; rfl)
end Go.Proofs.YtjnifnlkicajhaaDoor.Dd
