/-
  Lists of records in memory; the journal as it is found on the disk: seek's first half. No condition is put on any statement here.
-/
import Derived.Test.YtjnifnlkicajhaaDoorJe
namespace Go.Proofs.YtjnifnlkicajhaaDoor.Jn
open Go Vc Hp Fs Da Pm Dd
set_option maxRecDepth 4000

/-- a loop whose measure is told by the relation -/
theorem fix_n {σ : Type} {B : (σ → World → Prop) → σ → World → Prop} (I : Nat → σ → World → Prop)
    (round : ∀ n s w (K : σ → World → Prop), I n s w → (∀ n' s' w', n' < n → I n' s' w' → K s' w') → B K s w) {n : Nat} {s : σ} {w : World} (h : I n s w) : Fix B s w := by
  have key : ∀ k n s w, I n s w → n < k → FixN B k s w := by
    intro k
    induction k with
    | zero => intro n s w _ hk; omega
    | succ k ih =>
      intro n s w hI hk
      exact round n s w _ hI fun n' s' w' hn hI' => ih n' s' w' hI' (by omega)
  exact ⟨n + 1, key _ _ _ _ h (by omega)⟩

/-! ### lists of records -/
def rcells (rl : List (Rec × Sl)) : List Value := rl.flatMap fun p => [.int .u8 (p.1.kind.toNat : Int), p.2.val]
theorem rcells_len (rl : List (Rec × Sl)) : (rcells rl).length = rl.length * 2 := by
  unfold rcells
  induction rl with
  | nil => rfl
  | cons p l ih => simp only [List.flatMap_cons, List.length_append, List.length_cons, List.length_nil, ih]; omega
theorem rcells_snoc (rl : List (Rec × Sl)) (p : Rec × Sl) : rcells (rl ++ [p]) = rcells rl ++ [.int .u8 (p.1.kind.toNat : Int), p.2.val] := by
  unfold rcells
  simp
theorem rcells_at {rl : List (Rec × Sl)} {i : Nat} (h : i < rl.length) : (rcells rl)[i * 2]? = some (.int .u8 (rl[i].1.kind.toNat : Int)) ∧ (rcells rl)[i * 2 + 1]? = some rl[i].2.val := by
  induction rl generalizing i with
  | nil => cases h
  | cons p l ih =>
    have e : rcells (p :: l) = [.int .u8 (p.1.kind.toNat : Int), p.2.val] ++ rcells l := by unfold rcells; simp
    rcases i with _ | i
    · rw [e]; exact ⟨rfl, rfl⟩
    · have := ih (i := i) (by simpa using h)
      rw [e]
      rw [List.getElem?_append_right (by simp; omega), List.getElem?_append_right (by simp; omega)]
      simp only [List.length_cons, List.length_nil, List.getElem_cons_succ]
      rw [show (i + 1) * 2 - (0 + 1 + 1) = i * 2 by omega, show (i + 1) * 2 + 1 - (0 + 1 + 1) = i * 2 + 1 by omega]
      exact this
theorem iR : (Tryd.prog.info? 37).map (fun i => (i.zero, i.size, i.bytes)) = some (some (.agg #[.int .u8 0, .slice none 0 0]), 2, 32) := by kernel_rfl
/-- a list of records of one's own -/
structure RRow (w : World) (c : Col) (k : Nat) (s : Sl) (rl : List (Rec × Sl)) : Prop where
  row : Row w c k 37 2 s (rcells rl)
  data : ∀ p ∈ rl, Row w c k 5 1 p.2 (p.1.body.map u8)
theorem RRow.nil (w : World) (c : Col) (k : Nat) : RRow w c k ⟨none, 0, 0⟩ [] := ⟨Row.nil _ _ _ _ _, fun p hp => by cases hp⟩
theorem RRow.chg {w c k s rl M w' c'} (h : RRow w c k s rl) (hc : Chg M w w') (he : Ext w c c') (h1 : ∀ g, Sl.blk s = some g → ¬ M g) (h2 : ∀ p ∈ rl, ∀ g, Sl.blk p.2 = some g → ¬ M g) : RRow w' c' k s rl :=
  ⟨h.row.chg hc he h1, fun p hp => (h.data p hp).chg hc he (h2 p hp)⟩
theorem RRow.new {w c k s rl w' c'} (h : RRow w c k s rl) (hc : Chg (fun _ => False) w w') (he : Ext w c c') : RRow w' c' k s rl := h.chg hc he (fun _ _ => id) (fun _ _ _ _ => id)
theorem RRow.eff {w c k s rl j w' c'} (h : RRow w c k s rl) (hc : Eff j w c w' c') (hj : ¬ j k) : RRow w' c' k s rl := ⟨h.row.eff hc hj, fun p hp => (h.data p hp).eff hc hj⟩
theorem RRow.drew {w c k s rl} (h : RRow w c k s rl) : RRow w.drew c k s rl := ⟨h.row.drew, fun p hp => (h.data p hp).drew⟩
theorem RRow.len {w c k s rl} (h : RRow w c k s rl) : s.len = rl.length := by have := h.row.1; rw [rcells_len] at this; omega
/-- another block of cells turns -/
theorem RRow.off {w c k s rl w' b k' cs t} (h : RRow w c k s rl) (hc : Chg (· = b) w w') (ho : Own w c b k' (.cells cs t (0, 0))) (h1 : t ≠ 37 ∨ k ≠ k') (h2 : t ≠ 5 ∨ k ≠ k') : RRow w' c k s rl := by
  refine h.chg hc (Ext.refl _ _) (fun g hg hh => ?_) (fun p hp g hg hh => ?_)
  · obtain ⟨cs', ho'⟩ := h.row.blk hg
    rcases h1 with h1 | h1
    · exact ho.neT ho' h1 hh.symm
    · exact ho'.neC ho h1 hh
  · obtain ⟨cs', ho'⟩ := (h.data p hp).blk hg
    rcases h2 with h2 | h2
    · exact ho.neT ho' h2 hh.symm
    · exact ho'.neC ho h2 hh
theorem Row.off {w c k t sz s vs w' b k' cs t'} (h : Row w c k t sz s vs) (hc : Chg (· = b) w w') (ho : Own w c b k' (.cells cs t' (0, 0))) (h1 : t' ≠ t ∨ k ≠ k') : Row w' c k t sz s vs := by
  refine h.chg hc (Ext.refl _ _) (fun g hg hh => ?_)
  obtain ⟨cs', ho'⟩ := h.blk hg
  rcases h1 with h1 | h1
  · exact ho.neT ho' h1 hh.symm
  · exact ho'.neC ho h1 hh
/-- one more record -/
theorem RRow.snoc {w c k s rl b q} {r : Rec} {ty : TypeId} {K : Sl → World → Prop} (h : RRow w c k s rl) (hf : Own w c b k (.cells #[.int .u8 (r.kind.toNat : Int), q.val] 37 (0, 0))) (hd : Row w c k 5 1 q (r.body.map u8)) (hl : rl.length ≤ 1099511627776)
    (hk : ∀ s' w' c', RRow w' c' k s' (rl ++ [(r, q)]) → Chg (fun b => Sl.blk s = some b) w w' → Ext w c c' → (∀ g, Sl.blk s' = some g → Sl.blk s = some g ∨ w.heap.size ≤ g) → K s' w') :
    rn Tryd.prog Sl.val (Builtin.append_ #[30, 30] ty [s.val, .slice (some ⟨b, 0, none⟩) 1 1].toArray) w K := by
  have hsl := h.len
  have src : Reads w 2 ⟨some ⟨b, 0, none⟩, 1, 1⟩ [.int .u8 (r.kind.toNat : Int), q.val] := ⟨rfl, .inr ⟨_, rfl, fun j u hu => by rw [add_mk, Nat.zero_add, hf.cell]; rw [← hu]; simp⟩⟩
  have hone : ∀ u ∈ [Value.int .u8 (r.kind.toNat : Int), q.val], u.oneCell' = true := by
    intro u hu
    simp only [List.mem_cons, List.not_mem_nil, or_false] at hu
    rcases hu with rfl | rfl <;> rfl
  have hfit : (s.len + (⟨some ⟨b, 0, none⟩, 1, 1⟩ : Sl).len) * (32 + 1) ≤ 140737488355328 := by dsimp only; omega
  refine append_any (s := s) (x := ⟨some ⟨b, 0, none⟩, 1, 1⟩) ty Tryd.underlying30 iR rfl h.row src hone hfit fun s' w' c' hrow hch hex hbl hlen => ?_
  have ne : ∀ {q vs}, Row w c k 5 1 q vs → ∀ g, Sl.blk q = some g → ¬ Sl.blk s = some g := fun {q vs} hr g hg hs => by
    obtain ⟨cs, ho⟩ := hr.blk hg
    obtain ⟨cs', ho'⟩ := h.row.blk hs
    exact ho.neT ho' (by decide) rfl
  refine hk s' w' c' ⟨by rw [rcells_snoc]; exact hrow, fun p hp => ?_⟩ hch hex hbl
  rcases List.mem_append.1 hp with hp | hp
  · exact (h.data p hp).chg hch hex (ne (h.data p hp))
  · rw [List.mem_singleton.1 hp]
    exact hd.chg hch hex (ne hd)

/-! ### the journal that is found -/
structure JF where
  gen : Nat
  sum : Nat
  summary : List UInt8
  size : Nat
  all : Nat
  sure : Nat
def JF.none : JF := ⟨0, 0, [], 0, 0, 0⟩
/-- the greatest generation that can be read among some files -/
def Best (P : PF → Prop) (j : JF) : Prop :=
  (j = JF.none ∧ ∀ f, P f → whole f.data 0 = none) ∨
  (1 ≤ j.gen ∧ ∃ f, P f ∧ f.name = nameP j.gen ∧ (∃ k, whole f.data 0 = some (j.sum, k, j.summary)) ∧ j.size = j.summary.length + 18 ∧ j.all = f.data.length ∧ j.sure = f.sure ∧
    ∀ f' g', P f' → f'.name = nameP g' → whole f'.data 0 = none ∨ g' ≤ j.gen)
def recsOf (fs : List PF) (j : JF) : List Rec :=
  if j.gen = 0 then [] else match Pm.get fs (nameP j.gen) with
  | some f => reads j.sum (f.data.length + 1) (f.data.drop j.size) 1
  | none => []
theorem Best.zero : Best (fun _ => False) JF.none := .inl ⟨rfl, fun _ h => h.elim⟩
theorem Best.skip {P : PF → Prop} {j : JF} {f : PF} {g : Nat} (h : Best P j) (hf : f.name = nameP g) (h1 : 1 ≤ g) (hs : g ≤ j.gen ∨ whole f.data 0 = none) : Best (fun x => P x ∨ x = f) j := by
  rcases h with ⟨rfl, h2⟩ | ⟨h2, f0, h3, h4, h5, h6, h7, h8, h9⟩
  · refine .inl ⟨rfl, fun x hx => ?_⟩
    rcases hx with hx | rfl
    · exact h2 x hx
    · rcases hs with hs | hs
      · exact absurd hs (by show ¬ g ≤ 0; omega)
      · exact hs
  · refine .inr ⟨h2, f0, .inl h3, h4, h5, h6, h7, h8, fun f' g' hf' hn => ?_⟩
    rcases hf' with hf' | rfl
    · exact h9 f' g' hf' hn
    · rcases hs with hs | hs
      · right
        rw [hf] at hn
        rw [← nameP_inj hn]; exact hs
      · exact .inl hs
theorem Best.take {P : PF → Prop} {j : JF} {f : PF} {g s : Nat} {k : UInt8} {bd : List UInt8} (h : Best P j) (hf : f.name = nameP g) (hs : j.gen < g) (hw : whole f.data 0 = some (s, k, bd)) : Best (fun x => P x ∨ x = f) ⟨g, s, bd, bd.length + 18, f.data.length, f.sure⟩ := by
  refine .inr ⟨by dsimp only; omega, f, .inr rfl, hf, ⟨k, hw⟩, rfl, rfl, rfl, fun f' g' hf' hn => ?_⟩
  rcases hf' with hf' | rfl
  · rcases h with ⟨rfl, h2⟩ | ⟨h2, f0, h3, h4, h5, h6, h7, h8, h9⟩
    · exact .inl (h2 f' hf')
    · rcases h9 f' g' hf' hn with h10 | h10
      · exact .inl h10
      · exact .inr (by dsimp only; omega)
  · rw [hf] at hn
    exact .inr (Nat.le_of_eq (nameP_inj hn).symm)
theorem Best.congr {P P' : PF → Prop} {j : JF} (h : Best P j) (he : ∀ f, P f ↔ P' f) : Best P' j := by
  have : P = P' := funext fun f => propext (he f)
  rw [← this]; exact h
end Go.Proofs.YtjnifnlkicajhaaDoor.Jn
