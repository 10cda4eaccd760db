/-
  The program's disk: the calls that turn one file. No condition is put on any statement here.
-/
import Derived.Test.YtjnifnlkicajhaaDoorDd
namespace Go.Proofs.YtjnifnlkicajhaaDoor.Dd
open Go Vc Hp Fs Da Pm
set_option maxRecDepth 4000

theorem iB : (Tryd.prog.info? 5).map (fun i => (i.zero, i.size, i.bytes)) = some (some (.int .u8 0), 1, 1) := by kernel_rfl
theorem zF : ∀ w, (zeroValue 72).run Tryd.prog w = .ok (.pointer none) w := fun w => by kernel_rfl

/-! ### bytes that are read, of a colour -/
/-- A slice that is read, in a block of colour j. -/
def Src (w : World) (c : Col) (j sz : Nat) (s : Sl) (vs : List Value) : Prop := Reads w sz s vs ∧ ∀ a, s.p = some a → vs ≠ [] → c a.block = j
theorem cell_same {w w' : World} {a : Addr} (h : w'.heap[a.block]? = w.heap[a.block]?) : w'.cell? a = w.cell? a := by simp only [World.cell?, h]
theorem add_block (a : Addr) (n : Nat) : (a.add n).block = a.block := by unfold Addr.add; split <;> rfl
theorem cell_lt {w : World} {a : Addr} {v : Value} (h : w.cell? a = some v) : a.block < w.heap.size := by
  unfold World.cell? at h
  split at h
  · rename_i hb
    exact (Array.getElem?_eq_some_iff.1 hb).1
  · cases h
theorem Src.chg {w c j sz s vs M w' c'} (h : Src w c j sz s vs) (hc : Chg M w w') (he : Ext w c c') (hm : ∀ b, c b = j → ¬ M b) : Src w' c' j sz s vs := by
  obtain ⟨⟨h1, h2⟩, h3⟩ := h
  have key : ∀ a i u, s.p = some a → vs[i]? = some u → w.cell? (a.add i) = some u → w'.cell? (a.add i) = some u ∧ a.block < w.heap.size := by
    intro a i u hp hi hu
    have hne : vs ≠ [] := by rintro rfl; simp at hi
    have hlt := cell_lt hu
    rw [add_block] at hlt
    refine ⟨?_, hlt⟩
    rw [← hu]
    refine cell_same ?_
    rw [add_block]
    exact hc.same _ hlt (hm _ (h3 a hp hne))
  refine ⟨⟨h1, ?_⟩, fun a hp hne => ?_⟩
  · rcases h2 with h2 | ⟨a, hp, hh⟩
    · exact .inl h2
    · exact .inr ⟨a, hp, fun i u hi => (key a i u hp hi (hh i u hi)).1⟩
  · rcases h2 with h2 | ⟨a', hp', hh⟩
    · rw [h2.1] at hp; cases hp
    · obtain rfl : a' = a := Option.some.inj (hp'.symm.trans hp)
      cases hv : vs with
      | nil => exact absurd hv hne
      | cons u r =>
        have h0 : vs[0]? = some u := by rw [hv]; rfl
        have := (key a' 0 u hp h0 (hh 0 u h0)).2
        rw [he _ this]
        exact h3 _ hp hne
theorem Src.eff {w c j sz s vs i w' c'} (h : Src w c j sz s vs) (hc : Eff i w c w' c') (hj : ¬ i j) : Src w' c' j sz s vs := h.chg hc.chg hc.ext (fun b hb => by rw [hb]; exact hj)
theorem Src.drew {w c j sz s vs} (h : Src w c j sz s vs) : Src w.drew c j sz s vs := h
theorem Row.src {w c k t sz s vs} (h : Row w c k t sz s vs) : Src w c k sz s vs := by
  refine ⟨h.reads, fun a hp hne => ?_⟩
  obtain ⟨cs, ho⟩ := h.blk (g := a.block) (by simp [Sl.blk, hp])
  exact ho.col
theorem Src.take {w c j sz s vs} (h : Src w c j sz s vs) {n : Nat} (hn : n ≤ s.len) (cap : Nat) : Src w c j sz (cutSl ⟨s.p, s.len, cap⟩ sz 0 n cap) (vs.take (n * sz)) := by
  obtain ⟨⟨h1, h2⟩, h3⟩ := h
  have hp : (cutSl ⟨s.p, s.len, cap⟩ sz 0 n cap).p = s.p := by
    unfold cutSl
    dsimp only
    split
    · rfl
    · rw [Nat.zero_mul]
      cases s.p with
      | none => rfl
      | some a => simp [Addr.add]
  have hl : (cutSl ⟨s.p, s.len, cap⟩ sz 0 n cap).len = n := rfl
  refine ⟨⟨?_, ?_⟩, fun a ha hne => ?_⟩
  · rw [hl, List.length_take, h1]
    exact Nat.min_eq_left (Nat.mul_le_mul_right _ hn)
  · rw [hp, hl]
    rcases h2 with ⟨h2, h4⟩ | ⟨a, ha, hh⟩
    · exact .inl ⟨h2, by omega⟩
    · refine .inr ⟨a, ha, fun i u hi => hh i u ?_⟩
      rw [List.getElem?_take] at hi
      split at hi
      · exact hi
      · cases hi
  · rw [hp] at ha
    exact h3 a ha (by rintro rfl; simp at hne)
theorem Row.take {w c k t sz s vs} (h : Row w c k t sz s vs) {n : Nat} (hn : n ≤ s.len) : Row w c k t sz (cutSl ⟨s.p, s.len, s.cap⟩ sz 0 n s.cap) (vs.take (n * sz)) ∧ Sl.blk (cutSl ⟨s.p, s.len, s.cap⟩ sz 0 n s.cap) = Sl.blk s := by
  obtain ⟨h1, h2, h3, h4⟩ := h
  have hp : (cutSl ⟨s.p, s.len, s.cap⟩ sz 0 n s.cap).p = s.p := by
    unfold cutSl
    dsimp only
    split
    · rfl
    · rw [Nat.zero_mul]
      cases s.p with
      | none => rfl
      | some a => simp [Addr.add]
  have hl : (cutSl ⟨s.p, s.len, s.cap⟩ sz 0 n s.cap).len = n := rfl
  have hc : (cutSl ⟨s.p, s.len, s.cap⟩ sz 0 n s.cap).cap = s.cap := rfl
  refine ⟨⟨?_, by rw [hl, hc]; omega, by rw [hc]; exact h3, ?_⟩, by unfold Sl.blk; rw [hp]⟩
  · rw [hl, List.length_take, h1]
    exact Nat.min_eq_left (Nat.mul_le_mul_right _ hn)
  · rw [hp, hl, hc]
    rcases h4 with ⟨a, b, e⟩ | ⟨g, cs, hp, ho, hcs, ht⟩
    · exact .inl ⟨a, by omega, e⟩
    · refine .inr ⟨g, cs, hp, ho, hcs, ?_⟩
      rw [← ht, List.take_take]
      congr 1
      exact (Nat.min_eq_left (Nat.mul_le_mul_right _ hn)).symm
theorem one_u8 (b : List UInt8) : ∀ u ∈ b.map u8, u.oneCell' = true := by
  intro u hu
  obtain ⟨x, _, rfl⟩ := List.mem_map.1 hu
  rfl
theorem info_of {t : TypeId} {z : Value} {sz by' : Nat} (h : (Tryd.prog.info? t).map (fun i => (i.zero, i.size, i.bytes)) = some (some z, sz, by')) : ∃ i, Tryd.prog.info? t = some i ∧ i.zero = some z ∧ i.size = sz ∧ i.bytes = by' := by
  cases hi : Tryd.prog.info? t with
  | none => rw [hi] at h; cases h
  | some i =>
    rw [hi] at h
    simp only [Option.map_some, Option.some.injEq, Prod.mk.injEq] at h
    exact ⟨i, rfl, h.1, h.2.1, h.2.2⟩
theorem append_any {w c k e T sz by' z s x vs ns} {K : Sl → World → Prop} (ty : TypeId) (ht : Tryd.prog.underlying T = some (.slice e)) (hi : (Tryd.prog.info? e).map (fun i => (i.zero, i.size, i.bytes)) = some (some z, sz, by')) (hzs : z.cells.size = sz)
    (h : Row w c k e sz s vs) (hx : Reads w sz x ns) (h1 : ∀ u ∈ ns, u.oneCell' = true) (hm : (s.len + x.len) * (by' + 1) ≤ 140737488355328)
    (hk : ∀ s' w' c', Row w' c' k e sz s' (vs ++ ns) → Chg (fun b => Sl.blk s = some b) w w' → Ext w c c' → (∀ g, Sl.blk s' = some g → Sl.blk s = some g ∨ w.heap.size ≤ g) → s'.len = s.len + x.len → K s' w') :
    rn Tryd.prog Sl.val (Builtin.append_ #[T, T] ty [s.val, x.val].toArray) w K := by
  obtain ⟨i, h2, h3, h4, h5⟩ := info_of hi
  rw [Nat.mul_add, Nat.mul_one] at hm
  obtain ⟨s', w', c', hr, h6, h7, h8, h9, h10⟩ := append_row (P := Tryd.prog) ty ht h2 h3 h4 h5 hzs h hx h1 (by simp only [maxLen]; omega) (by omega)
  exact ⟨s', w', hr, hk s' w' c' h6 h7 h8 h9 h10⟩
theorem append_bytes {w c k s x ns} {b : List UInt8} {K : Sl → World → Prop} (h : Row w c k 5 1 s (b.map u8)) (hx : Reads w 1 x (ns.map u8)) (hm : s.len + x.len ≤ 70368744177664)
    (hk : ∀ s' w' c', Row w' c' k 5 1 s' ((b ++ ns).map u8) → Chg (fun b => Sl.blk s = some b) w w' → Ext w c c' → (∀ g, Sl.blk s' = some g → Sl.blk s = some g ∨ w.heap.size ≤ g) → s'.len = s.len + x.len → K s' w') :
    rn Tryd.prog Sl.val (Builtin.append_ #[29, 29] 29 [s.val, x.val].toArray) w K :=
  append_any 29 Tryd.underlying29 iB rfl h hx (one_u8 ns) (by omega) (by rw [List.map_append] at hk; exact hk)

/-! ### a file is looked up, turned, added, taken away -/
theorem look {w c k m L x} {K : Option Addr → World → Prop} (h : Files w c k m L) (hk : K ((fget L x).map fun e => ⟨e.fb, 0, none⟩) w) : rn Tryd.prog Value.pointer (Instr.lookup 73 (.map (some m)) (.string x) false) w K := by
  obtain ⟨es, cl, hM⟩ := h.map
  refine ⟨_, w, ?_, hk⟩
  rw [lookup_map Tryd.underlying73 Tryd.underlying9 hM zF x, kget_ent]
  cases fget L x <;> rfl
theorem count {w c k m L} {ty : TypeId} {K : Int → World → Prop} (h : Files w c k m L) (hk : K (L.length : Int) w) : rn Tryd.prog (Value.int .i64) (Builtin.len_ #[73] ty [.map (some m)].toArray) w K := by
  obtain ⟨es, cl, hM⟩ := h.map
  refine ⟨_, w, ?_, hk⟩
  rw [len_map Tryd.underlying73 hM ty, List.length_map]

def fset (L : List FE) (e' : FE) : List FE := L.map fun x => if x.name = e'.name then e' else x
theorem name_inj {L : List FE} (hn : (L.map FE.name).Nodup) {x y : FE} (hx : x ∈ L) (hy : y ∈ L) (h : x.name = y.name) : x = y := by
  induction L with
  | nil => cases hx
  | cons a L ih =>
    simp only [List.map_cons, List.nodup_cons] at hn
    rcases List.mem_cons.1 hx with hx' | hx' <;> rcases List.mem_cons.1 hy with hy' | hy'
    · rw [hx', hy']
    · subst hx'; exact absurd (List.mem_map.2 ⟨y, hy', h.symm⟩) hn.1
    · subst hy'; exact absurd (List.mem_map.2 ⟨x, hx', h⟩) hn.1
    · exact ih hn.2 hx' hy'
theorem Apart.symm {a b : FE} (h : Apart a b) : Apart b a := ⟨fun e => h.1 e.symm, fun g hb ha => h.2 g ha hb⟩
theorem pair_of {L : List FE} (h : L.Pairwise Apart) {x y : FE} (hx : x ∈ L) (hy : y ∈ L) (hne : x ≠ y) : Apart x y := by
  induction h with
  | nil => cases hx
  | cons h _ ih =>
    rcases List.mem_cons.1 hx with rfl | hx' <;> rcases List.mem_cons.1 hy with rfl | hy'
    · exact absurd rfl hne
    · exact h _ hy'
    · exact (h _ hx').symm
    · exact ih hx' hy'
theorem Files.upd {w c k m L w' c' e e'} (h : Files w c k m L) (he : e ∈ L) (hc : Chg (fun b => b = e.fb ∨ Sl.blk e.s = some b) w w') (hx : Ext w c c') (hn : e'.name = e.name) (hfb : e'.fb = e.fb) (hf : FileAt w' c' k e')
    (hs : ∀ g, Sl.blk e'.s = some g → Sl.blk e.s = some g ∨ w.heap.size ≤ g) : Files w' c' k m (fset L e') := by
  obtain ⟨es, cl, hM⟩ := h.map
  have hnd := h.nodup
  have hfe := h.files e he
  have hmb : m ≠ e.fb := fun x => hfe.own.neM hM.own x.symm
  have hms : Sl.blk e.s ≠ some m := fun x => by
    obtain ⟨cs, ho⟩ := hfe.row.blk x
    exact ho.neM hM.own rfl
  have same : ∀ x ∈ L, x.name = e'.name → x = e := fun x hx' hxn => name_inj hnd hx' he (hxn.trans hn)
  refine ⟨⟨es, cl, ?_⟩, fun x hx' => ?_, ?_⟩
  · have : (fset L e').map FE.ent = L.map FE.ent := by
      unfold fset
      rw [List.map_map]
      refine List.map_congr_left fun x hx' => ?_
      simp only [Function.comp_apply]
      split
      · rename_i hxn
        rw [same x hx' hxn]
        simp [FE.ent, hn, hfb]
      · rfl
    rw [this]
    exact MapS.chg hM hc hx (fun hh => by rcases hh with hh | hh <;> contradiction)
  · unfold fset at hx'
    obtain ⟨y, hy, rfl⟩ := List.mem_map.1 hx'
    split
    · exact hf
    · rename_i hyn
      have hne : y ≠ e := by rintro rfl; exact hyn hn.symm
      have hap := pair_of h.apart hy he hne
      refine (h.files y hy).chg hc hx (fun hh => ?_) (fun g hg hh => ?_)
      · rcases hh with hh | hh
        · exact hap.1 hh
        · obtain ⟨cs, ho⟩ := hfe.row.blk hh
          exact ho.neT (h.files y hy).own (by decide) rfl
      · rcases hh with hh | hh
        · obtain ⟨cs, ho⟩ := (h.files y hy).row.blk hg
          exact ho.neT hfe.own (by decide) hh
        · exact hap.2 g hg hh
  · unfold fset
    rw [List.pairwise_map]
    have hrow : ∀ y ∈ L, ∀ g, Sl.blk y.s = some g → g < w.heap.size := fun y hy g hg => by
      obtain ⟨cs, ho⟩ := (h.files y hy).row.blk hg
      exact ho.lt
    refine h.apart.imp_of_mem fun {a b} ha hb hab => ?_
    by_cases h1 : a.name = e'.name <;> by_cases h2 : b.name = e'.name
    · exact absurd ((congrArg FE.fb (same a ha h1)).trans (congrArg FE.fb (same b hb h2)).symm) hab.1
    · rw [if_pos h1, if_neg h2]
      rw [same a ha h1] at hab
      refine ⟨by rw [hfb]; exact hab.1, fun g hg hgb => ?_⟩
      rcases hs g hg with h3 | h3
      · exact hab.2 g h3 hgb
      · have := hrow b hb g hgb; omega
    · rw [if_neg h1, if_pos h2]
      rw [same b hb h2] at hab
      refine ⟨by rw [hfb]; exact hab.1, fun g hg hgb => ?_⟩
      rcases hs g hgb with h3 | h3
      · exact hab.2 g hg h3
      · have := hrow a ha g hg; omega
    · rw [if_neg h1, if_neg h2]; exact hab
theorem fset_pf {L : List FE} {e e' : FE} {g : PF → PF} (hn : (L.map FE.name).Nodup) (he : e ∈ L) (hne : e'.name = e.name) (hg : e'.pf = g e.pf) : (fset L e').map FE.pf = setf (L.map FE.pf) e.name g := by
  unfold fset setf
  rw [List.map_map, List.map_map]
  refine List.map_congr_left fun x hx => ?_
  simp only [Function.comp_apply]
  by_cases h : x.name = e.name
  · have h1 : x.pf.name = e.name := h
    rw [if_pos (h.trans hne.symm), if_pos h1, hg, name_inj hn hx he h]
  · have h1 : ¬ x.pf.name = e.name := h
    rw [if_neg (fun x => h (x.trans hne)), if_neg h1]
theorem DDisk.upd {w c k d m L A w' c' e e' g} (h : DDisk w c k d m L A) (he : e ∈ L) (hc : Chg (fun b => b = e.fb ∨ Sl.blk e.s = some b) w w') (hx : Ext w c c') (hn : e'.name = e.name) (hfb : e'.fb = e.fb) (hf : FileAt w' c' k e')
    (hs : ∀ g, Sl.blk e'.s = some g → Sl.blk e.s = some g ∨ w.heap.size ≤ g) (hg : e'.pf = g e.pf) : DDisk w' c' k d m (fset L e') { A with files := setf A.files e.name g } := by
  obtain ⟨a, u, ho, h1, h2⟩ := h.own
  have hfe := h.files.files e he
  refine ⟨⟨a, u, ho.chg hc hx (fun hh => ?_), h1, h2⟩, h.files.upd he hc hx hn hfb hf hs, ?_⟩
  · rcases hh with hh | hh
    · exact ho.neT hfe.own (by decide) hh
    · obtain ⟨cs, ho'⟩ := hfe.row.blk hh
      exact ho.neT ho' (by decide) rfl
  · rw [fset_pf h.files.nodup he hn hg]
    exact h.perm.map _
end Go.Proofs.YtjnifnlkicajhaaDoor.Dd
