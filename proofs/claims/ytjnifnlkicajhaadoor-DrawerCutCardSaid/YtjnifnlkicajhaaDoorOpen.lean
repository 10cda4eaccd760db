/-
  What the arguments of a law hold: slices of bytes, of numbers, of texts, of structs, opened to the lists that they are read as; a reading behind a call that turned nothing of what was there. No condition is put on any statement here.
-/
import Derived.Test.YtjnifnlkicajhaaDoorDe
import Derived.Test.YtjnifnlkicajhaaDoorRows
import Derived.ProofKit
import Derived.OpenShut
import Derived.JoinedCond
import Derived.Deep.Slices
import Derived.Deep.Fields
namespace Go.Proofs.YtjnifnlkicajhaaDoor.Opn
open Go Go.ChangeShapes Go.WideShapes Go.Deep Go.RowKit Vc Hp Da Dd
set_option linter.unusedVariables false
section
variable {H : Type} {enc : TypeId × Value → H} {w : World} {base : Nat} {spare : Nat → Bool} {held : Bool}

/-! ### bulk -/
theorem one_le (d : DataW H) : 1 ≤ Rows.uptoBulk d := by
  cases d with
  | lit l => cases l <;> simp [Rows.uptoBulk]
  | nil => simp [Rows.uptoBulk]
  | ptr d => simp [Rows.uptoBulk]
  | slice elems spare => simp [Rows.uptoBulk]
  | agg parts => simp [Rows.uptoBulk]
  | iface t d => simp [Rows.uptoBulk]
  | map entries => simp [Rows.uptoBulk]
  | held h => simp [Rows.uptoBulk]
theorem part_le {d : DataW H} {l : List (DataW H)} (h : d ∈ l) : Rows.uptoBulk d ≤ Rows.uptoBulkAll l := by
  induction l with
  | nil => cases h
  | cons x r ih =>
    simp only [Rows.uptoBulkAll]
    cases List.mem_cons.1 h with
    | inl e => subst e; omega
    | inr e => have := ih e; omega
theorem length_le (l : List (DataW H)) : l.length ≤ Rows.uptoBulkAll l := by
  induction l with
  | nil => simp [Rows.uptoBulkAll]
  | cons x r ih => have := one_le x; simp only [Rows.uptoBulkAll, List.length_cons]; omega
theorem bulk_len {D : Nat → DataW H} {len : Nat} {rest : List (DataW H)} : len ≤ Rows.uptoBulk (.slice ((List.range len).map D) rest) := by
  have := length_le ((List.range len).map D)
  rw [List.length_map, List.length_range] at this
  simp only [Rows.uptoBulk]
  omega
theorem bulk_elem {D : Nat → DataW H} {len i : Nat} {rest : List (DataW H)} (hi : i < len) : Rows.uptoBulk (D i) ≤ Rows.uptoBulk (.slice ((List.range len).map D) rest) := by
  have := part_le (List.mem_map.2 ⟨i, List.mem_range.2 hi, rfl⟩ : D i ∈ (List.range len).map D)
  simp only [Rows.uptoBulk]
  omega
theorem bulk_field {ys : List (DataW H × List MemPlace)} {j : Nat} {y : DataW H × List MemPlace} (h : ys[j]? = some y) : Rows.uptoBulk y.1 ≤ Rows.uptoBulk (.agg (ys.map (·.1))) := by
  have := part_le (List.mem_map.2 ⟨y, List.mem_of_getElem? h, rfl⟩ : y.1 ∈ ys.map (·.1))
  simp only [Rows.uptoBulk]
  omega

theorem bulk_str {s : ByteArray} : s.size ≤ Rows.uptoBulk (DataW.lit (H := H) (.string s.data.toList)) := by
  have e : s.data.toList.length = s.size := by rw [Array.length_toList]; rfl
  simp only [Rows.uptoBulk]
  omega

/-! ### slices -/
theorem src_range {a : Addr} {len cap sz : Nat} {vs : List Value} (hl : vs.length = len * sz) (h : ∀ j u, vs[j]? = some u → w.cell? (a.add j) = some u) : Src w (fun _ => 0) 0 sz ⟨some a, len, cap⟩ vs :=
  ⟨⟨hl, .inr ⟨a, rfl, h⟩⟩, fun _ _ _ => rfl⟩
theorem src_nil {sz : Nat} : Src w (fun _ => 0) 0 sz ⟨none, 0, 0⟩ [] := ⟨⟨by simp, .inl ⟨rfl, rfl⟩⟩, fun _ _ h => absurd rfl h⟩

def byteOf : Value → UInt8
  | .int _ n => UInt8.ofNat n.toNat
  | _ => 0
def intOf : Value → Int
  | .int _ n => n
  | _ => 0
theorem open_bytes {fuel : Nat} {cs : List Value} {x : DataW H × List MemPlace} (h : DataW.trod enc Tryd.prog w base spare held fuel 29 cs = some x) :
    ∃ (s : Sl) (b : List UInt8), cs = [s.val] ∧ s.len ≤ s.cap ∧ b.length ≤ Rows.uptoBulk x.1 ∧ Src w (fun _ => 0) 0 1 s (b.map u8) := by
  rcases open_slice1 Tryd.underlying29 (by kernel_rfl) h with ⟨rfl, rfl⟩ | ⟨a, len, cap, m, n, V, D, Pl, rfl, hb, hl, hm, hmm, rfl, hV⟩
  · exact ⟨⟨none, 0, 0⟩, [], rfl, Nat.le_refl _, by simp, src_nil⟩
  · have hlm : len ≤ m := by rw [hmm]; split <;> omega
    refine ⟨⟨some a, len, cap⟩, (List.range len).map fun i => byteOf (V i), rfl, hl, by rw [List.length_map, List.length_range]; exact bulk_len, src_range (by simp) fun j u hj => ?_⟩
    rw [List.map_map, List.getElem?_map] at hj
    obtain ⟨i, hi, rfl⟩ := Option.map_eq_some_iff.1 hj
    obtain ⟨hi1, hi2⟩ := List.getElem?_eq_some_iff.1 hi
    rw [List.length_range] at hi1
    rw [List.getElem_range] at hi2
    subst hi2
    obtain ⟨hc, ht⟩ := hV j (by omega)
    obtain ⟨z, hz, _, hw⟩ := DataW.trod_int Tryd.underlying5 ht
    obtain hz : V j = .int .u8 z := by simpa using hz
    rw [hc, hz]
    have hz' : 0 ≤ z ∧ z ≤ 255 := by simpa [Lit.wf, IntKind.min, IntKind.max, IntKind.signed, IntKind.bits] using hw
    simp only [Function.comp_apply, hz, byteOf, u8]
    congr 2
    have : (UInt8.ofNat z.toNat).toNat = z.toNat := by
      rw [UInt8.toNat_ofNat']
      omega
    rw [this]
    omega
theorem open_ints {fuel : Nat} {cs : List Value} {x : DataW H × List MemPlace} (h : DataW.trod enc Tryd.prog w base spare held fuel 33 cs = some x) :
    ∃ (s : Sl) (b : List Int), cs = [s.val] ∧ s.len ≤ s.cap ∧ b.length ≤ Rows.uptoBulk x.1 ∧ (∀ z ∈ b, -9223372036854775808 ≤ z ∧ z ≤ 9223372036854775807) ∧ Src w (fun _ => 0) 0 1 s (b.map (Value.int .i64)) := by
  rcases open_slice1 Tryd.underlying33 (by kernel_rfl) h with ⟨rfl, rfl⟩ | ⟨a, len, cap, m, n, V, D, Pl, rfl, hb, hl, hm, hmm, rfl, hV⟩
  · exact ⟨⟨none, 0, 0⟩, [], rfl, Nat.le_refl _, by simp, by simp, src_nil⟩
  · have hlm : len ≤ m := by rw [hmm]; split <;> omega
    have key : ∀ i, i < len → V i = .int .i64 (intOf (V i)) ∧ w.cell? (a.add i) = some (V i) ∧ -9223372036854775808 ≤ intOf (V i) ∧ intOf (V i) ≤ 9223372036854775807 := fun i hi => by
      obtain ⟨hc, ht⟩ := hV i (by omega)
      obtain ⟨z, hz, _, hw⟩ := DataW.trod_int Tryd.underlying3 ht
      obtain hz : V i = .int .i64 z := by simpa using hz
      have hz' : -9223372036854775808 ≤ z ∧ z ≤ 9223372036854775807 := by simpa [Lit.wf, IntKind.min, IntKind.max, IntKind.signed, IntKind.bits] using hw
      rw [hz]
      exact ⟨rfl, by rw [← hz]; exact hc, hz'⟩
    refine ⟨⟨some a, len, cap⟩, (List.range len).map fun i => intOf (V i), rfl, hl, by rw [List.length_map, List.length_range]; exact bulk_len, fun z hz => ?_, src_range (by simp) fun j u hj => ?_⟩
    · obtain ⟨i, hi, rfl⟩ := List.mem_map.1 hz
      exact (key i (List.mem_range.1 hi)).2.2
    · rw [List.map_map, List.getElem?_map] at hj
      obtain ⟨i, hi, rfl⟩ := Option.map_eq_some_iff.1 hj
      obtain ⟨hi1, hi2⟩ := List.getElem?_eq_some_iff.1 hi
      rw [List.length_range] at hi1
      rw [List.getElem_range] at hi2
      subst hi2
      obtain ⟨h1, h2, _⟩ := key j hi1
      rw [h2]
      exact congrArg some h1

/-- a slice of structs of one-cell fields, at each index and field -/
theorem open_slice_fields {t e : TypeId} {fs : Array Field} {P : Program} {fuel : Nat} {cs : List Value} {x : DataW H × List MemPlace} (ht : P.underlying t = some (.slice e)) (he : P.underlying e = some (.struct fs))
    (hone : oneCellFields P fs = true) (hC : P.cellsOf e = fs.size) (h : DataW.trod enc P w base spare held fuel t cs = some x) :
    (cs = [.slice none 0 0] ∧ x = (.nil, [])) ∨
    ∃ (a : Addr) (len cap : Nat) (D : Nat → DataW H) (rest : List (DataW H)), cs = [.slice (some a) len cap] ∧ len ≤ cap ∧ x.1 = .slice ((List.range len).map D) rest ∧
      ∀ i, i < len → ∃ (ys : List (DataW H × List MemPlace)) (n : Nat), D i = .agg (ys.map (·.1)) ∧
        ∀ (j : Nat) (f : Field), fs[j]? = some f → ∃ (v : Value) (y : DataW H × List MemPlace), w.cell? (a.add (i * fs.size + j)) = some v ∧ ys[j]? = some y ∧ DataW.trod enc P w base spare held n f.type [v] = some y := by
  rcases open_slice ht h with h0 | ⟨a, len, cap, m, n, D, Pl, hcs, hb, hl, hm, hmm, hx, hi⟩
  · exact .inl h0
  · have hlm : len ≤ m := by rw [hmm]; split <;> omega
    refine .inr ⟨a, len, cap, D, _, hcs, hl, by rw [hx], fun i hil => ?_⟩
    obtain ⟨cs', hc, ht'⟩ := hi i (by omega)
    rw [hC] at hc
    obtain ⟨ys, n', hn', hy, hlen, hyl, hf⟩ := DataW.trod_struct he ht'
    obtain ⟨_, hcl, hat⟩ := World.cells?_some hc
    simp only [Prod.mk.injEq] at hy
    refine ⟨ys, n', hy.1, fun j f hj => ?_⟩
    obtain ⟨ho, hk⟩ := hone_of hone j f hj
    have hjl : j < fs.size := (Array.getElem?_eq_some_iff.1 hj).1
    have hcell := hat j hjl
    have hv : cs'[j]? = some (cs'[j]'(by omega)) := List.getElem?_eq_getElem (by omega)
    have h1 := hf j f hj
    rw [ho, hk] at h1
    have hone' : (cs'.drop j).take 1 = [cs'[j]'(by omega)] := by
      rw [List.drop_eq_getElem_cons (by omega)]
      rfl
    rw [hone'] at h1
    have hys : ys[j]? = some (ys[j]'(by omega)) := List.getElem?_eq_getElem (by omega)
    refine ⟨_, _, ?_, hys, h1.trans hys⟩
    rw [← Go.Deep.add_add, hcell, hv]
/-- cells of a row of n records of sz cells each -/
theorem src_rows {α : Type} {a : Addr} {len cap sz : Nat} (hz : 0 < sz) {f : α → List Value} {l : List α} (hl : l.length = len) (hf : ∀ x ∈ l, (f x).length = sz)
    (h : ∀ i (hi : i < l.length), ∀ j u, (f l[i])[j]? = some u → w.cell? (a.add (i * sz + j)) = some u) : Src w (fun _ => 0) 0 sz ⟨some a, len, cap⟩ (l.flatMap f) := by
  have hlen : ∀ (l : List α), (∀ x ∈ l, (f x).length = sz) → (l.flatMap f).length = l.length * sz := by
    intro l hf
    induction l with
    | nil => simp
    | cons x r ih =>
      rw [List.flatMap_cons, List.length_append, ih (fun y hy => hf y (List.mem_cons_of_mem _ hy)), hf x (by simp), List.length_cons, Nat.add_mul]
      omega
  have hat : ∀ (l : List α), (∀ x ∈ l, (f x).length = sz) → ∀ j u, (l.flatMap f)[j]? = some u → ∃ (i k : Nat) (hi : i < l.length), j = i * sz + k ∧ (f l[i])[k]? = some u := by
    intro l hf
    induction l with
    | nil => intro j u h; simp at h
    | cons x r ih =>
      intro j u h
      rw [List.flatMap_cons, List.getElem?_append] at h
      split at h
      · exact ⟨0, j, by simp, by omega, h⟩
      · obtain ⟨i, k, hi, hj, hu⟩ := ih (fun y hy => hf y (List.mem_cons_of_mem _ hy)) _ _ h
        have := hf x (by simp)
        refine ⟨i + 1, k, by simpa using hi, ?_, by simpa using hu⟩
        rw [Nat.add_mul]
        omega
  refine src_range (by rw [hlen l hf, hl]) fun j u hj => ?_
  obtain ⟨i, k, hi, rfl, hu⟩ := hat l hf j u hj
  exact h i hi k u hu

/-! ### behind the call -/
variable {P : Program}
theorem below_of {c : Col} {j : Nat → Prop} {W W' : World} {c' : Col} (h : Eff j W c W' c') (h0 : ∀ b, ¬ j (c b)) : Below W.heap.size W W' :=
  ⟨h.chg.os, h.chg.tape, h.chg.output, h.chg.size, fun k hk => h.chg.same k hk (h0 k)⟩
theorem post_of_below {f : Func} {s : ChangeSpec} {apart fresh handsOn again : Bool} {W W' : World} {args : Array Value} {v : Value} {ds gs : List (DataW H)} {before pa pv : List MemPlace}
    (hW : DataW.Whole enc P f.params.toList s.vars apart W args.toList ds gs before)
    (hres : ∀ (b : Nat) (sp : Nat → Bool) (hd : Bool), DataW.TrodAll enc P W' b sp hd f.resultTypes.toList (v.resultList f.resultTypes.size) (s.fn H (ds ++ gs)).results [])
    (hargs : ∀ sp : Nat → Bool, (∀ p ∈ before, sp p.block = true) → DataW.TrodAll enc P W' 0 sp true f.params.toList args.toList (s.fn H (ds ++ gs)).args pa)
    (hvars : ∀ sp : Nat → Bool, (∀ p ∈ before, sp p.block = true) → DataW.TrodVars enc P W' sp s.vars (s.fn H (ds ++ gs)).vars pv)
    (hps : before = pa ++ pv) (hb : Below W.heap.size W W')
    (hok : ∀ (j : Nat) (t : TypeId) (r : Value), f.resultTypes[j]? = some t → (v.resultList f.resultTypes.size)[j]? = some r → Value.okWide P W' .any 0 t r) :
    s.post enc P f apart fresh handsOn again W args v W' := by
  have hold : ∀ p ∈ before, (fun b => decide (b < W.heap.size)) p.block = true := fun p hp => by simpa using hW.lt p hp
  have hlt := hW.lt
  refine ⟨ds, gs, before, [], pa, pv, hW, hres _ _ _, hargs _ hold, hvars _ hold, World.keptBut_mono (fun p hp => ⟨hp, ?_⟩) (hb.frame (· ∈ before)), fun _ => ?_⟩
  · rw [hps, List.mem_append] at hp
    exact Or.inr hp
  · obtain ⟨_, _, _, _, _, hz, hn⟩ := hW
    refine ⟨hok, _, _, ([] ++ pa) ++ pv, ⟨[] ++ pa, pv, trodAll_append (hargs _ (fun _ _ => rfl)) (hres _ _ _), hvars _ (fun _ _ => rfl), rfl, ?_, ?_⟩, ?_⟩
    · intro b off hp
      have hp' : MemPlace.cell b off ∈ before := by rw [hps]; simpa using hp
      rw [hb.frozen (hlt _ hp')]
      exact hz b off hp'
    · intro ha
      have := hn ha
      rw [hps] at this
      simpa using this
    · intro p hp _
      rw [hps]
      simpa using hp
end
end Go.Proofs.YtjnifnlkicajhaaDoor.Opn
