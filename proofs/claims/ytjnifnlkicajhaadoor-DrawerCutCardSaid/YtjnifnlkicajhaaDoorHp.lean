/-
  Blocks of memory, and who owns them: each block bears a colour (a number that this proof gives it); what a call may turn is told by colours. No condition is put on any statement here.
-/
import Derived.Test.YtjnifnlkicajhaaDoorVcDraw
import Derived.Laws.Append
import Derived.Laws.CopyRow
import Derived.Laws.AppendOwn
namespace Go.Proofs.YtjnifnlkicajhaaDoor.Hp
open Go Vc

abbrev Col := Nat → Nat

/-- Block b holds o and has colour k. -/
structure Own (w : World) (c : Col) (b k : Nat) (o : Obj) : Prop where
  at' : w.heap[b]? = some o
  col : c b = k

/-- What changed from w to w', of what was there, lies in M. -/
structure Chg (M : Nat → Prop) (w w' : World) : Prop where
  os : w'.os = w.os
  tape : w'.tape = w.tape
  output : w'.output = w.output
  size : w.heap.size ≤ w'.heap.size
  same : ∀ b, b < w.heap.size → ¬ M b → w'.heap[b]? = w.heap[b]?

/-- The colours of what was there stay. -/
def Ext (w : World) (c c' : Col) : Prop := ∀ b, b < w.heap.size → c' b = c b

/-- Only blocks of these colours change, and new ones come. -/
structure Eff (j : Nat → Prop) (w : World) (c : Col) (w' : World) (c' : Col) : Prop where
  chg : Chg (fun b => j (c b)) w w'
  ext : Ext w c c'

theorem Own.lt {w c b k o} (h : Own w c b k o) : b < w.heap.size := (Array.getElem?_eq_some_iff.1 h.at').1
theorem Own.ne {w c b k o b' k' o'} (h : Own w c b k o) (h' : Own w c b' k' o') (hne : o ≠ o') : b ≠ b' := by
  rintro rfl
  exact hne (Option.some.inj (h.at'.symm.trans h'.at'))
theorem Own.neT {w c b k cs t f b' k' cs' t' f'} (h : Own w c b k (.cells cs t f)) (h' : Own w c b' k' (.cells cs' t' f')) (hne : t ≠ t') : b ≠ b' :=
  h.ne h' (fun e => by injection e with _ e _; exact hne e)
theorem Own.neM {w c b k cs t f b' k' es cl} (h : Own w c b k (.cells cs t f)) (h' : Own w c b' k' (.map es cl)) : b ≠ b' := h.ne h' (fun e => by cases e)
theorem Own.neC {w c b k o b' k' o'} (h : Own w c b k o) (h' : Own w c b' k' o') (hne : k ≠ k') : b ≠ b' := by
  rintro rfl
  exact hne (h.col.symm.trans h'.col)

theorem Chg.refl (M : Nat → Prop) (w : World) : Chg M w w := ⟨rfl, rfl, rfl, Nat.le_refl _, fun _ _ _ => rfl⟩
theorem Chg.trans {M a b c} (h : Chg M a b) (h' : Chg M b c) : Chg M a c :=
  ⟨h'.os.trans h.os, h'.tape.trans h.tape, h'.output.trans h.output, Nat.le_trans h.size h'.size, fun i hi hm => (h'.same i (Nat.lt_of_lt_of_le hi h.size) hm).trans (h.same i hi hm)⟩
theorem Chg.mono {M M' : Nat → Prop} {a b} (h : Chg M a b) (hm : ∀ i, i < a.heap.size → M i → M' i) : Chg M' a b :=
  ⟨h.os, h.tape, h.output, h.size, fun i hi hn => h.same i hi (fun x => hn (hm i hi x))⟩
theorem Ext.refl (w : World) (c : Col) : Ext w c c := fun _ _ => rfl
theorem Ext.trans {M a b c0 c1 c2} (h : Ext a c0 c1) (hs : Chg M a b) (h' : Ext b c1 c2) : Ext a c0 c2 := fun i hi => (h' i (Nat.lt_of_lt_of_le hi hs.size)).trans (h i hi)
theorem Own.chg {w c b k o M w' c'} (h : Own w c b k o) (hc : Chg M w w') (he : Ext w c c') (hm : ¬ M b) : Own w' c' b k o :=
  ⟨(hc.same b h.lt hm).trans h.at', (he b h.lt).trans h.col⟩
theorem Own.chg' {w c b k o M w'} (h : Own w c b k o) (hc : Chg M w w') (hm : ¬ M b) : Own w' c b k o := h.chg hc (Ext.refl _ _) hm
theorem Own.eff {w c b k o j w' c'} (h : Own w c b k o) (hc : Eff j w c w' c') (hm : ¬ j k) : Own w' c' b k o :=
  h.chg hc.chg hc.ext (by rw [h.col]; exact hm)
theorem Eff.refl (j : Nat → Prop) (w : World) (c : Col) : Eff j w c w c := ⟨Chg.refl _ _, Ext.refl _ _⟩
theorem Eff.trans {j a c b c1 d c2} (h : Eff j a c b c1) (h' : Eff j b c1 d c2) : Eff j a c d c2 := by
  refine ⟨⟨h'.chg.os.trans h.chg.os, h'.chg.tape.trans h.chg.tape, h'.chg.output.trans h.chg.output, Nat.le_trans h.chg.size h'.chg.size, fun i hi hm => ?_⟩, h.ext.trans h.chg h'.ext⟩
  refine (h'.chg.same i (Nat.lt_of_lt_of_le hi h.chg.size) ?_).trans (h.chg.same i hi hm)
  rw [h.ext i hi]
  exact hm
theorem Eff.mono {j j' : Nat → Prop} {a c b c1} (h : Eff j a c b c1) (hj : ∀ k, j k → j' k) : Eff j' a c b c1 := ⟨h.chg.mono (fun _ _ => hj _), h.ext⟩
theorem Eff.of {j : Nat → Prop} {M a c b c1} (h : Chg M a b) (he : Ext a c c1) (hm : ∀ i, i < a.heap.size → M i → j (c i)) : Eff j a c b c1 := ⟨h.mono hm, he⟩
/-- one more block turned, which is of such a colour, or new -/
theorem Eff.one {j : Nat → Prop} {a c b c1 d i} (h : Eff j a c b c1) (h' : Chg (· = i) b d) (hi : i < a.heap.size → j (c1 i)) : Eff j a c d c1 := by
  refine ⟨⟨h'.os.trans h.chg.os, h'.tape.trans h.chg.tape, h'.output.trans h.chg.output, Nat.le_trans h.chg.size h'.size, fun x hx hm => ?_⟩, fun x hx => h.ext x hx⟩
  refine (h'.same x (Nat.lt_of_lt_of_le hx h.chg.size) ?_).trans (h.chg.same x hx hm)
  rintro rfl
  have := hi hx
  rw [h.ext _ hx] at this
  exact hm this
/-- new blocks alone -/
theorem Eff.new {j : Nat → Prop} {a c b c1 d c2} (h : Eff j a c b c1) (h' : Chg (fun _ => False) b d) (he : Ext b c1 c2) : Eff j a c d c2 :=
  h.trans ⟨h'.mono (fun _ _ x => x.elim), he⟩
theorem Eff.drew {j : Nat → Prop} {a c b c1} (h : Eff j a c b c1) : Eff j a c b.drew c1 := ⟨⟨h.chg.os, h.chg.tape, h.chg.output, h.chg.size, h.chg.same⟩, h.ext⟩
theorem Own.drew {w c b k o} (h : Own w c b k o) : Own w.drew c b k o := ⟨h.at', h.col⟩
theorem Chg.drew {M a b} (h : Chg M a b) : Chg M a b.drew := ⟨h.os, h.tape, h.output, h.size, h.same⟩

/-! ### single steps -/
theorem add_mk (b o n : Nat) : Addr.add ⟨b, o, none⟩ n = ⟨b, o + n, none⟩ := Addr.add_lit b o n
theorem Own.cell {w c b k cs t f} (h : Own w c b k (.cells cs t f)) (i : Nat) : w.cell? ⟨b, i, none⟩ = cs[i]? := by simp [World.cell?, h.at']
theorem Own.free {w c b k cs t} (h : Own w c b k (.cells cs t (0, 0))) (i : Nat) : w.frozen? ⟨b, i, none⟩ = false := by simp [World.frozen?, h.at']

theorem ld_own {w c b k cs t i} {α : Type} {f : α → Value} {x : α} {K : α → Prop} (h : Own w c b k (.cells cs t (0, 0))) (hv : cs[i]? = some (f x)) (hk : K x) : ld f w (Addr.add ⟨b, 0, none⟩ i) K :=
  ⟨x, by rw [add_mk, Nat.zero_add, h.cell i]; exact hv, hk⟩
theorem ld_own0 {w c b k cs t} {α : Type} {f : α → Value} {x : α} {K : α → Prop} (h : Own w c b k (.cells cs t (0, 0))) (hv : cs[0]? = some (f x)) (hk : K x) : ld f w ⟨b, 0, none⟩ K :=
  ⟨x, by rw [h.cell 0]; exact hv, hk⟩
theorem nn_some {a : Addr} {K : Addr → Prop} (h : K a) : nn (some a) K := ⟨a, rfl, h⟩

theorem setCell_at {w : World} {b i : Nat} {v : Value} {cs : Array Value} {t : TypeId} {f : Nat × Nat} (h : w.heap[b]? = some (.cells cs t f)) : (w.setCell ⟨b, i, none⟩ v).heap[b]? = some (.cells (cs.setIfInBounds i v) t f) := by
  simp [World.setCell, Array.getElem?_modify, h]
theorem setCell_chg (w : World) (b i : Nat) (v : Value) : Chg (· = b) w (w.setCell ⟨b, i, none⟩ v) :=
  ⟨rfl, rfl, rfl, by simp [World.setCell], fun x _ hx => by
    simp only [World.setCell, Array.getElem?_modify]
    rw [if_neg (fun e => hx e.symm)]⟩
theorem st_own {w c b k cs t i v} {K : World → Prop} (h : Own w c b k (.cells cs t (0, 0))) (hi : i < cs.size) (hk : ∀ w', Own w' c b k (.cells (cs.setIfInBounds i v) t (0, 0)) → Chg (· = b) w w' → w'.heap.size = w.heap.size → K w') :
    st w (Addr.add ⟨b, 0, none⟩ i) v K := by
  rw [add_mk, Nat.zero_add]
  refine ⟨by rw [h.cell i]; simp [hi], h.free i, hk _ ⟨setCell_at h.at', h.col⟩ (setCell_chg _ _ _ _) (by simp [World.setCell])⟩
theorem st_own0 {w c b k cs t v} {K : World → Prop} (h : Own w c b k (.cells cs t (0, 0))) (hi : 0 < cs.size) (hk : ∀ w', Own w' c b k (.cells (cs.setIfInBounds 0 v) t (0, 0)) → Chg (· = b) w w' → w'.heap.size = w.heap.size → K w') :
    st w ⟨b, 0, none⟩ v K := by
  refine ⟨by rw [h.cell 0]; simp [hi], h.free 0, hk _ ⟨setCell_at h.at', h.col⟩ (setCell_chg _ _ _ _) (by simp [World.setCell])⟩

def paint (c : Col) (b k : Nat) : Col := fun x => if x = b then k else c x
theorem al_own {w c o} {K : Addr → World → Prop} (k : Nat) (hk : ∀ b w' c', Own w' c' b k o → Chg (fun _ => False) w w' → Ext w c c' → w.heap.size ≤ b → K ⟨b, 0, none⟩ w') : al w o K := by
  refine hk w.heap.size (w.alloc o) (paint c w.heap.size k) ⟨heap_alloc_new w _, by simp [paint]⟩ ⟨rfl, rfl, rfl, by simp, fun b hb _ => by show (w.heap.push o)[b]? = _; rw [Array.getElem?_push, if_neg (by omega)]⟩ (fun b hb => ?_) (Nat.le_refl _)
  simp only [paint]
  rw [if_neg (by omega)]

/-! ### slices of the call's own -/
/-- Slice s, of elements of type t with sz cells, whose block has colour k: nil, or the head of a block; the cells of its elements. -/
def Row (w : World) (c : Col) (k t sz : Nat) (s : Sl) (vs : List Value) : Prop :=
  vs.length = s.len * sz ∧ s.len ≤ s.cap ∧ s.cap ≤ maxLen ∧
  ((s.p = none ∧ s.len = 0 ∧ s.cap = 0) ∨ ∃ g cs, s.p = some ⟨g, 0, none⟩ ∧ Own w c g k (.cells cs t (0, 0)) ∧ cs.size = s.cap * sz ∧ cs.toList.take (s.len * sz) = vs)

/-- a slice's block -/
def Sl.blk (s : Sl) : Option Nat := s.p.map (·.block)

theorem Row.nil (w : World) (c : Col) (k t sz : Nat) : Row w c k t sz ⟨none, 0, 0⟩ [] := ⟨by simp, Nat.le_refl _, Nat.zero_le _, .inl ⟨rfl, rfl, rfl⟩⟩
theorem Row.chg {w c k t sz s vs M w' c'} (h : Row w c k t sz s vs) (hc : Chg M w w') (he : Ext w c c') (hm : ∀ g, Sl.blk s = some g → ¬ M g) : Row w' c' k t sz s vs := by
  obtain ⟨h1, h2, h3, h4⟩ := h
  refine ⟨h1, h2, h3, ?_⟩
  rcases h4 with h4 | ⟨g, cs, hp, ho, rest⟩
  · exact .inl h4
  · exact .inr ⟨g, cs, hp, ho.chg hc he (hm g (by simp [Sl.blk, hp])), rest⟩
theorem Row.eff {w c k t sz s vs j w' c'} (h : Row w c k t sz s vs) (hc : Eff j w c w' c') (hm : ¬ j k) : Row w' c' k t sz s vs := by
  obtain ⟨h1, h2, h3, h4⟩ := h
  refine ⟨h1, h2, h3, ?_⟩
  rcases h4 with h4 | ⟨g, cs, hp, ho, rest⟩
  · exact .inl h4
  · exact .inr ⟨g, cs, hp, ho.eff hc hm, rest⟩
theorem Row.drew {w c k t sz s vs} (h : Row w c k t sz s vs) : Row w.drew c k t sz s vs := by
  obtain ⟨h1, h2, h3, h4⟩ := h
  refine ⟨h1, h2, h3, ?_⟩
  rcases h4 with h4 | ⟨g, cs, hp, ho, rest⟩
  · exact .inl h4
  · exact .inr ⟨g, cs, hp, ho.drew, rest⟩
/-- the block of a row, whatever it is -/
theorem Row.blk {w c k t sz s vs g} (h : Row w c k t sz s vs) (hg : Sl.blk s = some g) : ∃ cs, Own w c g k (.cells cs t (0, 0)) := by
  obtain ⟨_, _, _, h4⟩ := h
  rcases h4 with ⟨hp, _⟩ | ⟨g', cs, hp, ho, _⟩
  · simp [Sl.blk, hp] at hg
  · simp [Sl.blk, hp] at hg
    subst hg
    exact ⟨cs, ho⟩
theorem Row.ne {w c k t sz s vs b k' o} (h : Row w c k t sz s vs) (ho : Own w c b k' o) (hne : ∀ cs, o ≠ .cells cs t (0, 0)) : Sl.blk s ≠ some b := by
  intro e
  obtain ⟨cs, h1⟩ := h.blk e
  exact hne cs (Option.some.inj (ho.at'.symm.trans h1.at'))
theorem Row.neC {w c k t sz s vs b k' o} (h : Row w c k t sz s vs) (ho : Own w c b k' o) (hne : k ≠ k') : Sl.blk s ≠ some b := by
  intro e
  obtain ⟨cs, h1⟩ := h.blk e
  exact hne (h1.col.symm.trans ho.col)

/-- The cells of a slice as they are read: whoever owns them. -/
def Reads (w : World) (sz : Nat) (s : Sl) (vs : List Value) : Prop :=
  vs.length = s.len * sz ∧ ((s.p = none ∧ s.len = 0) ∨ ∃ a, s.p = some a ∧ ∀ j u, vs[j]? = some u → w.cell? (a.add j) = some u)
theorem Row.reads {w c k t sz s vs} (h : Row w c k t sz s vs) : Reads w sz s vs := by
  obtain ⟨h1, h2, h3, h4⟩ := h
  refine ⟨h1, ?_⟩
  rcases h4 with ⟨a, b, _⟩ | ⟨g, cs, hp, ho, hs, ht⟩
  · exact .inl ⟨a, b⟩
  · refine .inr ⟨_, hp, fun j u hu => ?_⟩
    rw [add_mk, Nat.zero_add, ho.cell j]
    rw [← ht, List.getElem?_take] at hu
    split at hu
    · simpa using hu
    · cases hu

/-! ### append -/
theorem run_firstCells {P : Program} {w : World} {sz : Nat} {x : Sl} {ns : List Value} (h : Reads w sz x ns) : (Builtin.firstCells sz x.len x.val).run P w = .ok ns.toArray w := by
  obtain ⟨h1, h2⟩ := h
  rcases h2 with ⟨hp, hl⟩ | ⟨a, hp, hc⟩
  · have : ns = [] := List.eq_nil_of_length_eq_zero (by rw [h1, hl, Nat.zero_mul])
    subst this
    simp [Sl.val, hp, Builtin.firstCells]
  · have := run_firstCells_some (P := P) w sz x.len a x.len x.cap ns h1 hc
    simpa [Sl.val, hp] using this

theorem setRow_chg (w : World) (g : Nat) (cs : Array Value) : Chg (· = g) w (w.setRow g cs) :=
  ⟨rfl, rfl, rfl, by simp [World.setRow], fun x _ hx => by
    simp only [World.setRow, Array.getElem?_modify]
    rw [if_neg (fun e => hx e.symm)]⟩

theorem append_row {P : Program} {w : World} {c : Col} {k T e : Nat} {i : TypeInfo} {z : Value} {sz by' : Nat} (ty : TypeId) (ht : P.underlying T = some (.slice e)) (hi : P.info? e = some i) (hz : i.zero = some z)
    (hs : i.size = sz) (hb : i.bytes = by') (hzs : z.cells.size = sz) {s x : Sl} {vs ns : List Value} (h : Row w c k e sz s vs) (hx : Reads w sz x ns) (h1 : ∀ u ∈ ns, u.oneCell' = true)
    (hm : s.len + x.len ≤ maxLen) (hbytes : (s.len + x.len) * by' ≤ 140737488355328) :
    ∃ s' w' c', (Builtin.append_ #[T, T] ty #[s.val, x.val]).run P w = .ok s'.val w' ∧ Row w' c' k e sz s' (vs ++ ns) ∧ Chg (fun b => Sl.blk s = some b) w w' ∧ Ext w c c' ∧
      (∀ g, Sl.blk s' = some g → Sl.blk s = some g ∨ w.heap.size ≤ g) ∧ s'.len = s.len + x.len := by
  subst hs
  subst hb
  obtain ⟨hl, hlc, hcm, hr⟩ := h
  have hxl := hx.1
  have hsmall : ((s.len + x.len : Nat) : Int) ≤ 9223372036854775807 := by simp only [maxLen] at hm; omega
  -- a new block
  have fresh : ∀ old, old < s.len + x.len → ∀ W, W = w.drew.alloc (.cells (vs.toArray ++ ns.toArray ++ Builtin.zeroCells z.cells (grownCap w (s.len + x.len) old e - (s.len + x.len))) e) →
      ∃ c', Row W c' k e i.size ⟨some ⟨w.heap.size, 0, none⟩, s.len + x.len, grownCap w (s.len + x.len) old e⟩ (vs ++ ns) ∧ Chg (fun b => Sl.blk s = some b) w W ∧ Ext w c c' := by
    intro old ho W hW
    subst hW
    have hge := grownCap_ge w (s.len + x.len) old e
    refine ⟨paint c w.heap.size k, ⟨by rw [List.length_append, hl, hxl, Nat.add_mul], hge, grownCap_le_maxLen w _ old e hm, .inr ⟨w.heap.size, _, rfl, ⟨heap_alloc_new w.drew _, by simp [paint]⟩, ?_, ?_⟩⟩, ⟨rfl, rfl, rfl, by simp, fun b hb _ => ?_⟩, fun b hb => ?_⟩
    · simp only [Array.size_append, List.size_toArray, size_zeroCells, hzs, hl, hxl, ← Nat.add_mul]
      congr 1
      omega
    · simp only [Array.toList_append]
      have : (s.len + x.len) * i.size = (vs ++ ns).length := by rw [List.length_append, hl, hxl, Nat.add_mul]
      rw [this]
      exact List.take_left
    · show (w.heap.push _)[b]? = _
      rw [Array.getElem?_push, if_neg (by omega)]
    · simp only [paint]
      rw [if_neg (by omega)]
  have hfit : ∀ old, old < s.len + x.len → Builtin.nextslicecap (s.len + x.len) old * i.bytes ≤ 281474976710656 := fun old ho => growslice_fits ho hbytes
  obtain ⟨sp, sl, sc⟩ := s
  obtain ⟨xp, xl, xc⟩ := x
  simp only [Sl.val] at *
  rcases hx.2 with ⟨hp, hl0⟩ | ⟨a, hp, hc⟩
  · -- nothing is appended
    have hp : xp = none := hp
    have hl0 : xl = 0 := hl0
    subst hp hl0
    have : ns = [] := List.eq_nil_of_length_eq_zero (by rw [hxl]; simp)
    subst this
    refine ⟨⟨sp, sl, sc⟩, w, c, ?_, by simpa using ⟨hl, hlc, hcm, hr⟩, Chg.refl _ _, Ext.refl _ _, fun g hg => .inl hg, by simp⟩
    have hf := run_firstCells (P := P) (w := w) (sz := i.size) (x := ⟨none, 0, xc⟩) (ns := []) ⟨by simp, .inl ⟨rfl, rfl⟩⟩
    simp only [Sl.val] at hf
    rcases hr with ⟨hp, _, _⟩ | ⟨g, cs, hp, _⟩
    · have hp : sp = none := hp
      subst hp
      simp [Builtin.append_, run_underlying ht, sizeOf, typeInfo, hi, Builtin.lenOf, hlc, hf]
    · have hp : sp = some ⟨g, 0, none⟩ := hp
      subst hp
      simp [Builtin.append_, run_underlying ht, sizeOf, typeInfo, hi, Builtin.lenOf, hlc, hf, storeCells]
  · have hp : xp = some a := hp
    subst hp
    rcases hr with ⟨hp, h0, hc0⟩ | ⟨g, cs, hp, ho, hcs, htk⟩
    · have hp : sp = none := hp
      have h0 : sl = 0 := h0
      have hc0 : sc = 0 := hc0
      subst hp h0 hc0
      have : vs = [] := List.eq_nil_of_length_eq_zero (by rw [hl]; simp)
      subst this
      by_cases hx0 : xl = 0
      · subst hx0
        have : ns = [] := List.eq_nil_of_length_eq_zero (by rw [hxl]; simp)
        subst this
        refine ⟨⟨none, 0, 0⟩, w, c, ?_, Row.nil _ _ _ _ _, Chg.refl _ _, Ext.refl _ _, fun g hg => .inl hg, by simp⟩
        simp [Builtin.append_, run_underlying ht, sizeOf, typeInfo, hi, Builtin.lenOf, Builtin.firstCells, loadCells, loadCellsFrom]
      · have hr := run_append_nil (P := P) w T ty e i z ht hi hz a xl xc ns hxl hc (by omega) (by omega) (by have := hbytes; simp only [Nat.zero_add] at this; omega)
        obtain ⟨c', f1, f2, f3⟩ := fresh 0 (by omega) _ rfl
        simp only [Nat.zero_add, List.nil_append, Array.empty_append] at f1 f2 hr
        exact ⟨_, _, c', hr, by simpa using f1, by simpa using f2, f3, fun g hg => .inr (by simp [Sl.blk] at hg; omega), by simp⟩
    · have hp : sp = some ⟨g, 0, none⟩ := hp
      subst hp
      by_cases hroom : sl + xl ≤ sc
      · have hft : sl * i.size + ns.length ≤ cs.size := by rw [hxl, hcs, ← Nat.add_mul]; exact Nat.mul_le_mul_right _ hroom
        have hr := run_append_room (P := P) w T ty e i ht hi g sl sc cs ho.at' a xl xc ns hxl hc h1 hroom hft
        refine ⟨⟨some ⟨g, 0, none⟩, sl + xl, sc⟩, _, c, hr, ⟨by rw [List.length_append, hl, hxl, Nat.add_mul], hroom, hcm, .inr ⟨g, _, rfl, ⟨setRow_heap w g cs _ e _ ho.at', ho.col⟩, ?_, ?_⟩⟩, (setRow_chg _ _ _).mono (fun b _ hb => by simp [Sl.blk, hb]), Ext.refl _ _, fun g' hg => .inl (by simpa [Sl.blk] using hg), rfl⟩
        · simp only [List.size_toArray, List.length_append, List.length_take, List.length_drop, Array.length_toList]
          have hcs : cs.size = sc * i.size := hcs
          omega
        · have e1 : (cs.toList.take (sl * i.size)).length = sl * i.size := by
            simp only [List.length_take, Array.length_toList]; omega
          have e2 : (sl + xl) * i.size = (cs.toList.take (sl * i.size) ++ ns).length := by
            rw [List.length_append, e1, hxl, Nat.add_mul]
          rw [e2, List.take_left]
          have htk : cs.toList.take (sl * i.size) = vs := htk
          rw [htk]
      · have hr := run_append_grow (P := P) w T ty e i z ht hi hz ⟨g, 0, none⟩ sl sc vs hl (fun j u hu => by
            have h5 : Row w c k e i.size ⟨some ⟨g, 0, none⟩, sl, sc⟩ vs := ⟨hl, hlc, hcm, .inr ⟨g, cs, rfl, ho, hcs, htk⟩⟩
            rcases h5.reads.2 with ⟨hp, _⟩ | ⟨a', hp, hh⟩
            · cases hp
            · simp only at hp
              obtain rfl := Option.some.inj hp
              exact hh j u hu) a xl xc ns hxl hc (by omega) (by omega) (hfit sc (by omega))
        obtain ⟨c', f1, f2, f3⟩ := fresh sc (by omega) _ rfl
        exact ⟨_, _, c', hr, f1, f2, f3, fun g' hg => .inr (by simp [Sl.blk] at hg; omega), rfl⟩
end Go.Proofs.YtjnifnlkicajhaaDoor.Hp
