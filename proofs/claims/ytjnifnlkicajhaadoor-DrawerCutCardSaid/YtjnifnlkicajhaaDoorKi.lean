/-
  The law in plain words: each step keeps what holds. No program in sight. No condition is put on any statement here.
-/
import Derived.Test.YtjnifnlkicajhaaDoorKh
namespace Go.Proofs.YtjnifnlkicajhaaDoor.Kp
open Go Vc Hp Da Pm Dd Jn Kw

/-! ### a disk on which nothing fails -/
structure Well (A : PD) : Prop where
  up : A.down = false
  units : A.units < 0
  calls : A.calls ≤ 0
theorem Well.first {A : PD} (h : Well A) (x : ByteArray) : (A.first x).2 = A ∧ ((A.first x).1 = 0 ∨ (A.first x).1 = 192) := by
  unfold PD.first
  split
  · exact ⟨rfl, .inr rfl⟩
  rw [if_neg (by rw [h.up]; decide), if_pos h.calls]
  exact ⟨rfl, .inl rfl⟩
theorem Well.pay {A : PD} (h : Well A) (c : Int) : A.pay c = (true, c, A) := by
  unfold PD.pay
  rw [if_pos h.units]
theorem Well.change {A : PD} (h : Well A) (x : ByteArray) (g : List PF → List PF) : ((A.change x g).1 = 0 ∨ (A.change x g).1 = 192 ∨ (A.change x g).1 = 193) ∧ Well (A.change x g).2 := by
  obtain ⟨h1, h2⟩ := h.first x
  unfold PD.change
  split
  · rw [h1]; exact ⟨by omega, h⟩
  dsimp only
  rw [h1]
  split
  · exact ⟨.inr (.inr rfl), h⟩
  rw [h.pay]
  exact ⟨.inl rfl, ⟨h.up, h.units, h.calls⟩⟩
theorem Well.append {A : PD} (h : Well A) (x : ByteArray) (b : List UInt8) : ((A.append x b).1 = 0 ∨ (A.append x b).1 = 192 ∨ (A.append x b).1 = 194) ∧ Well (A.append x b).2 := by
  obtain ⟨h1, h2⟩ := h.first x
  unfold PD.append
  split
  · rw [h1]; exact ⟨by omega, h⟩
  dsimp only
  rw [h1]
  split
  all_goals
    split
    · exact ⟨.inr (.inr rfl), h⟩
    rw [h.pay]
    exact ⟨.inl rfl, ⟨h.up, h.units, h.calls⟩⟩
theorem Well.lay {A : PD} (h : Well A) (x : ByteArray) (b : List UInt8) : ((layP A x b).1 ≠ 190 ∧ (layP A x b).1 ≠ 191) ∧ Well (layP A x b).2 := by
  have h1 := h.append x b
  have h2 := h1.2.change x fun l => setf l x fun f => { f with sure := f.data.length }
  unfold layP
  split
  · exact ⟨⟨by omega, by omega⟩, h1.2⟩
  · unfold PD.sync
    exact ⟨⟨by omega, by omega⟩, h2.2⟩
theorem Well.rm : ∀ (g : Nat) (l : List ByteArray) {A : PD}, Well A → ((rmP g l A).1 ≠ 190 ∧ (rmP g l A).1 ≠ 191) ∧ Well (rmP g l A).2
  | _, [], _, h => ⟨⟨by simp [rmP], by simp [rmP]⟩, h⟩
  | g, n :: r, A, h => by
    have h1 := h.change n fun l => rem l n
    unfold rmP
    split
    · exact Well.rm g r h
    unfold PD.remove
    split
    · exact ⟨⟨by omega, by omega⟩, h1.2⟩
    · exact Well.rm g r h1.2
theorem Well.cut {A : PD} (h : Well A) (j : JF) (z : Nat) : ((cutP A j z).1 ≠ 190 ∧ (cutP A j z).1 ≠ 191) ∧ Well (cutP A j z).2 := by
  unfold cutP
  split
  · have h1 := h.change (nameP j.gen) fun l => setf l (nameP j.gen) fun f => { f with data := f.data.take (z : Int).toNat, sure := min f.sure (cutTo (z : Int) f.data.length) }
    unfold PD.trim
    exact ⟨⟨by omega, by omega⟩, h1.2⟩
  · exact ⟨⟨(by decide : (0 : Int) ≠ 190), (by decide : (0 : Int) ≠ 191)⟩, h⟩
theorem Well.sure {A : PD} (h : Well A) (j : JF) (z : Nat) : ((sureP A j z).1 ≠ 190 ∧ (sureP A j z).1 ≠ 191) ∧ Well (sureP A j z).2 := by
  unfold sureP
  split
  · have h1 := h.change (nameP j.gen) fun l => setf l (nameP j.gen) fun f => { f with sure := f.data.length }
    unfold PD.sync
    exact ⟨⟨by omega, by omega⟩, h1.2⟩
  · exact ⟨⟨(by decide : (0 : Int) ≠ 190), (by decide : (0 : Int) ≠ 191)⟩, h⟩
theorem Well.mend {A : PD} (h : Well A) (j : JF) (z : Nat) : ((mendP A j z).1 ≠ 190 ∧ (mendP A j z).1 ≠ 191) ∧ Well (mendP A j z).2 := by
  have h1 := h.cut j z
  have h2 := h1.2.sure j z
  unfold mendP
  split
  · exact h1
  split
  · exact h2
  · exact Well.rm _ _ h2.2
theorem Well.opens {A : PD} (h : Well A) (sum : Nat) (j : JF) : ((openP A sum j).1 ≠ 190 ∧ (openP A sum j).1 ≠ 191) ∧ Well (openP A sum j).2.1 := by
  have h1 := h.mend j (j.size + sizeR (recsOf A.files j))
  have h2 := h1.2.lay (nameP 1) (piece 0 sum 0 [])
  unfold openP
  rw [if_neg (by rw [h.up]; decide)]
  split
  · exact ⟨⟨(by decide : (198 : Int) ≠ 190), (by decide : (198 : Int) ≠ 191)⟩, h⟩
  split
  · exact h1
  split
  · exact h2
  · exact ⟨⟨(by decide : (0 : Int) ≠ 190), (by decide : (0 : Int) ≠ 191)⟩, h1.2⟩
theorem well_restart (A : PD) (keep : List Int) : Well (A.restart keep) := ⟨rfl, (by decide : (-1 : Int) < 0), (by decide : (0 : Int) ≤ 0)⟩

/-! ### files -/
theorem kept_eq (keep : List Int) (i : Nat) (f : PF) (hs : f.sure ≤ f.data.length) : ∃ n, f.sure ≤ n ∧ n ≤ f.data.length ∧ kept keep i f = ⟨f.name, f.data.take n, n⟩ := by
  unfold kept
  dsimp only
  refine ⟨f.sure + _, Nat.le_add_right _ _, ?_, rfl⟩
  split <;> omega
theorem tail_take {sum : Nat} {R late : List Rec} {i n : Nat} : (tailOf sum R late i).take n = tailOf sum R late (min n i) := by
  cases late with
  | nil => simp [tailOf]
  | cons r l => simp only [tailOf, List.take_take]
theorem shape_restart {st : LS} {g : Nat} {A : PD} (hsh : Shape st g A.files) (keep : List Int) : Shape st g (A.restart keep).files := by
  rcases hsh with ⟨i, s, hfs, hs1, hs2⟩ | ⟨hlate, S', i, s, hfold, hfs, hs⟩
  · obtain ⟨n, hn1, hn2, hk⟩ := kept_eq keep 0 ⟨nameP g, enc st.sum st.S st.R ++ tailOf st.sum st.R st.late i, s⟩ hs2
    dsimp only at hn1 hn2
    have h1 : (A.restart keep).files = [⟨nameP g, (enc st.sum st.S st.R ++ tailOf st.sum st.R st.late i).take n, n⟩] := by
      unfold PD.restart
      rw [hfs]
      simp [hk]
    have h2 : (enc st.sum st.S st.R ++ tailOf st.sum st.R st.late i).take n = enc st.sum st.S st.R ++ tailOf st.sum st.R st.late (min (n - (enc st.sum st.S st.R).length) i) := by
      rw [List.take_append, List.take_of_length_le (by omega), tail_take]
    refine .inl ⟨min (n - (enc st.sum st.S st.R).length) i, n, by rw [h1, h2], by omega, ?_⟩
    rw [← h2, List.length_take]
    omega
  · obtain ⟨n, hn1, hn2, hk⟩ := kept_eq keep 0 ⟨nameP g, enc st.sum st.S st.R, (enc st.sum st.S st.R).length⟩ (Nat.le_refl _)
    obtain ⟨n', hn1', hn2', hk'⟩ := kept_eq keep 1 ⟨nameP (g + 1), (piece 0 st.sum 0 S').take i, s⟩ hs
    dsimp only at hn1 hn2 hn1' hn2'
    refine .inr ⟨hlate, S', min n' i, n', hfold, ?_, ?_⟩
    · unfold PD.restart
      rw [hfs]
      simp [hk, hk', List.take_take]
      constructor
      · rw [List.take_of_length_le (by omega)]
      · omega
    · rw [List.length_take] at hn2' ⊢
      omega
theorem clean_restart {sum S R g} {A : PD} (h : Clean sum S R g A.files) (keep : List Int) : Clean sum S R g (A.restart keep).files := by
  obtain ⟨n, hn1, hn2, hk⟩ := kept_eq keep 0 ⟨nameP g, enc sum S R, (enc sum S R).length⟩ (Nat.le_refl _)
  dsimp only at hn1 hn2
  unfold Clean PD.restart at *
  rw [h]
  simp [hk]
  constructor
  · rw [List.take_of_length_le (by omega)]
  · omega

theorem lay2_room {A : PD} {g : Nat} {d b : List UInt8} {s : Nat} (hg : g + 1 < 100000000) (hf : A.files = [⟨nameP g, d, s⟩]) (hb : b.length ≤ 2097152) : (layP A (nameP (g + 1)) b).1 ≠ 194 := by
  have hn := nameP_named hg
  have hfi := A.first_files (nameP (g + 1))
  have hc := first_cases (A := A) hn
  have ha : (A.append (nameP (g + 1)) b).1 ≠ 194 := by
    unfold PD.append
    split
    · omega
    dsimp only
    rw [hfi, hf, get1']
    dsimp only
    rw [if_neg (by simp; omega)]
    dsimp only
    split <;> decide
  unfold layP
  split
  · exact ha
  · rename_i h0
    rcases append_cases (A := A) (b := b) hn with ⟨he, _⟩ | ⟨he, i, hi, hfl⟩
    · omega
    · rw [hf, get1'] at hfl
      dsimp only at hfl
      rw [ins2 hg] at hfl
      rcases change_cases (A := (A.append (nameP (g + 1)) b).2) (x := nameP (g + 1)) (g := fun l => setf l (nameP (g + 1)) fun f => { f with sure := f.data.length }) hn (by rw [hfl, get2']; rfl) with ⟨h1, _⟩ | ⟨h1, _⟩
      · unfold PD.sync; omega
      · unfold PD.sync; omega

/-! ### steps -/
theorem Inv.files {n : Nat} {st : LS} {A' : PD} (h : Inv n st) (hA : A'.Ok) (hf : A'.files = st.A.files) : Inv (n + 1) { st with A := A' } := by
  obtain ⟨g, h1, h2, h3, h4⟩ := h.gen
  refine ⟨hA, ⟨h.fit.sum, h.fit.S, h.fit.R, h.fit.late, h.fit.folded, h.fit.l1, h.fit.f1, h.fit.soft, h.fit.cnt⟩, Nat.le_succ_of_le h.len, g, h1, by omega, ?_, fun D hD => ?_⟩
  · show Shape st g A'.files
    rw [hf]; exact h3
  · obtain ⟨a1, a2, a3, a4, a5⟩ := h4 D hD
    refine ⟨a1, a2, a3, a4, fun hs => ?_⟩
    obtain ⟨b1, b2, b3⟩ := a5 hs
    exact ⟨b1, b2, by show Clean _ _ _ _ A'.files; rw [hf]; exact b3⟩
theorem Inv.restart {n : Nat} {st : LS} (h : Inv n st) (keep : List Int) : Inv (n + 1) { st with A := st.A.restart keep } := by
  obtain ⟨g, h1, h2, h3, h4⟩ := h.gen
  refine ⟨h.ok.restart keep, ⟨h.fit.sum, h.fit.S, h.fit.R, h.fit.late, h.fit.folded, h.fit.l1, h.fit.f1, h.fit.soft, h.fit.cnt⟩, Nat.le_succ_of_le h.len, g, h1, by omega, shape_restart h3 keep, fun D hD => ?_⟩
  obtain ⟨a1, a2, a3, a4, a5⟩ := h4 D hD
  refine ⟨a1, a2, a3, a4, fun hs => ?_⟩
  obtain ⟨b1, b2, b3⟩ := a5 hs
  exact ⟨b1, b2, clean_restart b3 keep⟩
theorem Inv.gens {n : Nat} {st : LS} (h : Inv n st) (hn : n ≤ 8388608) : Gens st.A.files := by
  obtain ⟨g, h1, h2, h3, _⟩ := h.gen
  exact h3.gens h1 (by omega)
theorem Inv.up {n m : Nat} {st : LS} (h : Inv n st) (hm : n ≤ m) : Inv m st := by
  obtain ⟨g, h1, h2, h3, h4⟩ := h.gen
  exact ⟨h.ok, h.fit, Nat.le_trans h.len hm, g, h1, by omega, h3, h4⟩

theorem open_down {A : PD} {sum : Nat} {j : JF} (h : A.down = true) : openP A sum j = (190, A, 0) := by unfold openP; rw [if_pos h]
theorem Inv.openC {n : Nat} {st : LS} (h : Inv n st) (hn : n ≤ 8388608) : OpenC st := by
  obtain ⟨g, h1, h2, h3, h4⟩ := h.gen
  intro j hj
  cases hd : st.A.down with
  | true =>
    rw [open_down hd]
    exact ⟨.inr (.inl rfl), fun h => absurd h (by decide : (190 : Int) ≠ 0)⟩
  | false =>
    rcases open_cases h.fit h.ok h1 (by omega) h3 hd (hj hd) with ⟨e, _⟩ | ⟨e, hm, _⟩
    · exact ⟨by omega, fun h0 => by omega⟩
    · exact ⟨.inl e, fun _ => hm⟩
theorem Inv.openR {n : Nat} {st st' : LS} (h : Inv n st) (hn : n ≤ 8388608) (hr : OpenR st st') : Inv (n + 1) st' := by
  obtain ⟨g, h1, h2, h3, h4⟩ := h.gen
  obtain ⟨j, hj, hr⟩ := hr
  have hlen := h.len
  have drNone : ∀ {B : PD}, B.Ok → Shape st g B.files → Inv (n + 1) { st with A := B, dr := none } := fun hB hs =>
    ⟨hB, ⟨h.fit.sum, h.fit.S, h.fit.R, h.fit.late, h.fit.folded, h.fit.l1, h.fit.f1, h.fit.soft, h.fit.cnt⟩, Nat.le_succ_of_le h.len, g, h1, by omega, hs, fun D hD => by cases hD⟩
  cases hd : st.A.down with
  | true =>
    rcases hr with ⟨_, rfl⟩ | ⟨hd', _⟩
    · rw [open_down hd]
      exact drNone h.ok h3
    · rw [hd] at hd'; cases hd'
  | false =>
    rcases open_cases h.fit h.ok h1 (by omega) h3 hd (hj hd) with ⟨e, hs⟩ | ⟨e, hm, eg, hg, hS, hR, hRl, hc⟩
    · rcases hr with ⟨_, rfl⟩ | ⟨_, e0, _⟩
      · exact drNone (openP_ok h.ok _ _) hs
      · omega
    · rcases hr with ⟨e0, _⟩ | ⟨_, _, rfl⟩
      · exact absurd e e0
      · refine ⟨openP_ok h.ok _ _, ⟨h.fit.sum, hS, hR, fun r hr => (by cases hr), fun r hr => (by cases hr), Nat.zero_le _, Nat.zero_le _, rfl, by show (recsOf st.A.files j).length ≤ _; omega⟩, by show (recsOf st.A.files j).length ≤ _; omega, j.gen, by omega, by omega, .inl hc.torn, fun D hD => ?_⟩
        obtain rfl := Option.some.inj hD
        exact ⟨rfl, eg, rfl, fun h => (by cases h), fun _ => ⟨rfl, rfl, hc⟩⟩
theorem Inv.otherC {n : Nat} {st : LS} (h : Inv n st) (hn : n ≤ 8388608) (keep : List Int) : OtherC st keep := by
  obtain ⟨g, h1, h2, h3, h4⟩ := h.gen
  intro j hj
  have hw := well_restart (copyP st.A) keep
  have hs : Shape st g ((copyP st.A).restart keep).files := shape_restart h3 keep
  have hok := (copyP_ok h.ok).restart keep
  have hcase := open_cases (st := { st with A := (copyP st.A).restart keep }) (g := g) (j := j) ⟨h.fit.sum, h.fit.S, h.fit.R, h.fit.late, h.fit.folded, h.fit.l1, h.fit.f1, h.fit.soft, h.fit.cnt⟩ hok h1 (by omega) hs hw.up hj
  have ho := (hw.opens st.sum j).1
  rcases hcase with ⟨e, _⟩ | ⟨e, hm, _⟩
  · dsimp only at e
    omega
  · exact ⟨e, hm⟩
theorem Inv.put {n : Nat} {st : LS} {D : DW} (h : Inv n st) (hn : n ≤ 8388608) (hD : st.dr = some D) (kind : UInt8) (body : List UInt8) :
    PutC st ⟨kind, body⟩ (putP st.A D kind body) ∧ Inv (n + 1) (putL st ⟨kind, body⟩ (putP st.A D kind body)) := by
  obtain ⟨g, h1, h2, h3, h4⟩ := h.gen
  obtain ⟨a1, a2, a3, a4, a5⟩ := h4 D hD
  have hlen := h.len
  have same : Inv (n + 1) { st with A := st.A, dr := some D } := by
    have := h.files h.ok rfl
    rw [← hD]
    exact this
  have hok := putP_ok h.ok D kind body
  cases hst : D.stuck with
  | true =>
    have e : putP st.A D kind body = (196, st.A, D) := by unfold putP; rw [if_pos hst]
    rw [e]
    exact ⟨a4 hst, same⟩
  | false =>
    by_cases hlong : 1048576 < body.length
    · have e : putP st.A D kind body = (197, st.A, D) := by unfold putP; rw [if_neg (by rw [hst]; decide), if_pos hlong]
      rw [e]
      exact ⟨hlong, same⟩
    · obtain ⟨b1, b2, b3⟩ := a5 hst
      have e : putP st.A D kind body = if (layP st.A (nameP g) (piece (st.R.length + 1) st.sum kind body)).1 ≠ 0 then ((layP st.A (nameP g) (piece (st.R.length + 1) st.sum kind body)).1, (layP st.A (nameP g) (piece (st.R.length + 1) st.sum kind body)).2, { D with stuck := true }) else
          (0, (layP st.A (nameP g) (piece (st.R.length + 1) st.sum kind body)).2, { D with len := D.len + 1, stuck := false }) := by
        unfold putP
        rw [if_neg (by rw [hst]; decide), if_neg hlong, a1, a2, a3]
      obtain ⟨i, s', hfl, hs', he, he0⟩ := lay1 (A := st.A) (b := piece (st.R.length + 1) st.sum kind body) (by omega) b3
      rw [e] at hok ⊢
      by_cases h0 : (layP st.A (nameP g) (piece (st.R.length + 1) st.sum kind body)).1 = 0
      · rw [if_neg (by simpa using h0)] at hok ⊢
        obtain ⟨hi, hsl⟩ := he0 h0
        have henc : enc st.sum st.S st.R ++ (piece (st.R.length + 1) st.sum kind body).take i = enc st.sum st.S (st.R ++ [⟨kind, body⟩]) := by rw [List.take_of_length_le hi, enc_snoc]
        rw [henc] at hfl hsl
        rw [hsl] at hfl
        refine ⟨⟨b1, b2, by show D.len + 1 = _; rw [a3]⟩, hok, ⟨h.fit.sum, h.fit.S, fun r hr => ?_, h.fit.late, h.fit.folded, h.fit.l1, h.fit.f1, h.fit.soft, by show (st.R ++ [_]).length ≤ _; rw [List.length_append]; simp; omega⟩, by show (st.R ++ [_]).length ≤ _; rw [List.length_append]; simp; omega, g, h1, by omega, ?_, fun D' hD' => ?_⟩
        · rcases List.mem_append.1 hr with hr | hr
          · exact h.fit.R r hr
          · rw [List.mem_singleton.1 hr]; show body.length ≤ _; omega
        · exact .inl (Clean.torn hfl)
        · obtain rfl := Option.some.inj hD'
          exact ⟨a1, a2, by show D.len + 1 = (st.R ++ [_]).length; rw [List.length_append, a3]; rfl, fun h => (by cases h), fun _ => ⟨b1, b2, hfl⟩⟩
      · rw [if_pos h0] at hok ⊢
        refine ⟨?_, ?_⟩
        · unfold PutC
          dsimp only
          rw [if_neg h0, if_neg (by omega), if_neg (by omega)]
          omega
        · unfold putL
          dsimp only
          rw [if_neg h0, if_neg (by omega)]
          refine ⟨hok, ⟨h.fit.sum, h.fit.S, h.fit.R, fun r hr => by rw [List.mem_singleton.1 hr]; show body.length ≤ _; omega, h.fit.folded, Nat.le_refl _, h.fit.f1, h.fit.soft, h.fit.cnt⟩, Nat.le_succ_of_le h.len, g, h1, by omega, .inl ⟨i, s', hfl, ?_, ?_⟩, fun D' hD' => ?_⟩
          · show (enc st.sum st.S st.R).length ≤ s'
            rcases hs' with hs' | hs'
            · omega
            · rw [hs', List.length_append]; omega
          · show s' ≤ (enc st.sum st.S st.R ++ (piece (st.R.length + 1) st.sum kind body).take i).length
            rcases hs' with hs' | hs'
            · rw [hs', List.length_append]; omega
            · omega
          · obtain rfl := Option.some.inj hD'
            exact ⟨a1, a2, a3, fun _ => .inl rfl, fun h => (by cases h)⟩
theorem Inv.fold {n : Nat} {st : LS} {D : DW} (h : Inv n st) (hn : n ≤ 8388608) (hD : st.dr = some D) (b : List UInt8) :
    FoldC st b (foldP st.A D b) ∧ Inv (n + 1) (foldL st b (foldP st.A D b)) := by
  obtain ⟨g, h1, h2, h3, h4⟩ := h.gen
  obtain ⟨a1, a2, a3, a4, a5⟩ := h4 D hD
  have hlen := h.len
  have same : Inv (n + 1) { st with A := st.A, dr := some D } := by
    have := h.files h.ok rfl
    rw [← hD]
    exact this
  have hok := foldP_ok h.ok D b
  cases hst : D.stuck with
  | true =>
    have e : foldP st.A D b = (196, st.A, D) := by unfold foldP; rw [if_pos hst]
    rw [e]
    exact ⟨a4 hst, same⟩
  | false =>
    by_cases hlong : 1048576 < b.length
    · have e : foldP st.A D b = (197, st.A, D) := by unfold foldP; rw [if_neg (by rw [hst]; decide), if_pos hlong]
      rw [e]
      exact ⟨hlong, same⟩
    · obtain ⟨b1, b2, b3⟩ := a5 hst
      have e : foldP st.A D b = if (layP st.A (nameP (g + 1)) (piece 0 st.sum 0 b)).1 ≠ 0 then ((layP st.A (nameP (g + 1)) (piece 0 st.sum 0 b)).1, (layP st.A (nameP (g + 1)) (piece 0 st.sum 0 b)).2, { D with stuck := true }) else
          if ((layP st.A (nameP (g + 1)) (piece 0 st.sum 0 b)).2.remove (nameP g)).1 ≠ 0 then (((layP st.A (nameP (g + 1)) (piece 0 st.sum 0 b)).2.remove (nameP g)).1, ((layP st.A (nameP (g + 1)) (piece 0 st.sum 0 b)).2.remove (nameP g)).2, { D with stuck := true }) else
          (0, ((layP st.A (nameP (g + 1)) (piece 0 st.sum 0 b)).2.remove (nameP g)).2, { D with gen := D.gen + 1, len := 0, stuck := false }) := by
        unfold foldP
        rw [if_neg (by rw [hst]; decide), if_neg hlong, if_neg (by omega), a1, a2]
      obtain ⟨he, hcase⟩ := lay2 (A := st.A) (g := g) (b := piece 0 st.sum 0 b) (by omega) b3
      have hpl := piece_len 0 st.sum 0 b
      have hno := lay2_room (A := st.A) (g := g) (b := piece 0 st.sum 0 b) (by omega) b3 (by rw [hpl]; omega)
      -- it failed
      have failed : ∀ {x : Int} {B : PD}, (x = 190 ∨ x = 191) → B.Ok → Shape { st with folded := [b] } g B.files → FoldC st b (x, B, { D with stuck := true }) ∧ Inv (n + 1) (foldL st b (x, B, { D with stuck := true })) := fun {x B} hx hB hsh => by
        constructor
        · unfold FoldC
          dsimp only
          rw [if_neg (by omega), if_neg (by omega), if_neg (by omega)]
          omega
        · unfold foldL
          dsimp only
          rw [if_neg (by omega), if_neg (by omega)]
          refine ⟨hB, ⟨h.fit.sum, h.fit.S, h.fit.R, h.fit.late, fun y hy => by rw [List.mem_singleton.1 hy]; omega, h.fit.l1, Nat.le_refl _, by show (x == 194) = false; rw [beq_eq_false_iff_ne]; omega, h.fit.cnt⟩, Nat.le_succ_of_le h.len, g, h1, by omega, hsh, fun D' hD' => ?_⟩
          obtain rfl := Option.some.inj hD'
          exact ⟨a1, a2, a3, fun _ => .inr rfl, fun h => (by cases h)⟩
      rw [e] at hok ⊢
      by_cases h0 : (layP st.A (nameP (g + 1)) (piece 0 st.sum 0 b)).1 = 0
      · rw [if_neg (by simpa using h0)] at hok ⊢
        obtain ⟨i, s', hfl, hs', he0⟩ : ∃ i s', (layP st.A (nameP (g + 1)) (piece 0 st.sum 0 b)).2.files = [⟨nameP g, enc st.sum st.S st.R, (enc st.sum st.S st.R).length⟩, ⟨nameP (g + 1), (piece 0 st.sum 0 b).take i, s'⟩] ∧ s' ≤ ((piece 0 st.sum 0 b).take i).length ∧ ((layP st.A (nameP (g + 1)) (piece 0 st.sum 0 b)).1 = 0 → (piece 0 st.sum 0 b).length ≤ i ∧ s' = ((piece 0 st.sum 0 b).take i).length) := by
          rcases hcase with ⟨h, _⟩ | h
          · exact absurd h0 h
          · exact h
        obtain ⟨hi, hsl⟩ := he0 h0
        have hfl' := hfl
        rw [List.take_of_length_le hi] at hfl hsl
        rcases remove2a (A := (layP st.A (nameP (g + 1)) (piece 0 st.sum 0 b)).2) (g := g) (by omega) hfl with ⟨e1, e2⟩ | ⟨e1, e2⟩
        · rw [if_neg (by rw [e1]; decide)] at hok ⊢
          have henc : enc st.sum b [] = piece 0 st.sum 0 b := by simp [enc, pieces]
          have hclean : Clean st.sum b [] (g + 1) ((layP st.A (nameP (g + 1)) (piece 0 st.sum 0 b)).2.remove (nameP g)).2.files := by
            unfold Clean
            rw [henc, e2, hsl]
          refine ⟨⟨b1, b2, rfl⟩, hok, ⟨h.fit.sum, by show b.length ≤ _; omega, fun r hr => (by cases hr), h.fit.late, h.fit.folded, h.fit.l1, h.fit.f1, h.fit.soft, Nat.zero_le _⟩, Nat.zero_le _, g + 1, by omega, by omega, .inl hclean.torn, fun D' hD' => ?_⟩
          obtain rfl := Option.some.inj hD'
          exact ⟨a1, by show D.gen + 1 = g + 1; rw [a2], rfl, fun h => (by cases h), fun _ => ⟨b1, b2, hclean⟩⟩
        · rw [if_pos (by omega)] at hok ⊢
          refine failed e1 hok ?_
          rw [e2]
          exact .inr ⟨b1, b, i, s', rfl, hfl', hs'⟩
      · rw [if_pos h0] at hok ⊢
        refine failed (he.resolve_left h0 |>.imp_right fun h => h.resolve_right hno) hok ?_
        rcases hcase with ⟨_, hfl⟩ | ⟨i, s', hfl, hs', _⟩
        · rw [hfl]
          exact .inl (Clean.torn rfl)
        · exact .inr ⟨b1, b, i, s', rfl, hfl, hs'⟩
theorem Inv.step {n : Nat} {st : LS} (h : Inv n st) (hn : n ≤ 8388608) (kind x y : Int) (data : List UInt8) (keep : List Int) (hx : -maxI - 1 ≤ x ∧ x ≤ maxI) (hy : -maxI - 1 ≤ y ∧ y ≤ maxI) :
    StepC st kind x data keep ∧ ∀ st', StepR st kind x y data keep st' → Inv (n + 1) st' := by
  refine ⟨⟨fun _ => h.openC hn, fun _ => h.otherC hn keep, fun _ D hD => (h.put hn hD (kindOf x) data).1, fun _ D hD => (h.fold hn hD data).1⟩, fun st' hr => ?_⟩
  unfold StepR at hr
  split at hr
  · rw [hr]; exact h.files (h.ok.arm hx.1 hx.2) (by unfold PD.arm; split <;> rfl)
  split at hr
  · rw [hr]; exact h.files (h.ok.rig hx hy) (by unfold PD.rig; split; rfl; split <;> rfl)
  split at hr
  · rw [hr]; exact h.files h.ok.fall rfl
  split at hr
  · rw [hr]; exact h.restart keep
  split at hr
  · exact h.openR hn hr
  split at hr
  · rw [hr]; exact h.up (Nat.le_succ n)
  split at hr
  · cases hd : st.dr with
    | none => rw [hd] at hr; rw [hr]; exact h.up (Nat.le_succ n)
    | some D => rw [hd] at hr; rw [hr]; exact (h.put hn hd (kindOf x) data).2
  split at hr
  · cases hd : st.dr with
    | none => rw [hd] at hr; rw [hr]; exact h.up (Nat.le_succ n)
    | some D => rw [hd] at hr; rw [hr]; exact (h.fold hn hd data).2
  · rw [hr]; exact h.up (Nat.le_succ n)
theorem Inv.drs {n : Nat} {st : LS} (h : Inv n st) (hn : n ≤ 8388608) : ∀ D, st.dr = some D → D.gen < 100000000 ∧ D.len < 4294967295 := fun D hD => by
  obtain ⟨g, h1, h2, h3, h4⟩ := h.gen
  obtain ⟨a1, a2, a3, _⟩ := h4 D hD
  have := h.len
  omega
end Go.Proofs.YtjnifnlkicajhaaDoor.Kp
