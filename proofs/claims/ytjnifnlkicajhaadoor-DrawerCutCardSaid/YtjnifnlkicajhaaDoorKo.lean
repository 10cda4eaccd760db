/-
  The law in plain words: where nothing fails: Open, Fold and Put go well. No program in sight. No condition is put on any statement here.
-/
import Derived.Test.YtjnifnlkicajhaaDoorKj
namespace Go.Proofs.YtjnifnlkicajhaaDoor.Kp
open Go Vc Hp Da Pm Dd Jn Kw

theorem open_well {n : Nat} {st st' : LS} (h : Inv n st) (hn : n ≤ 8388608) (hw : Well st.A) (hr : OpenR st st') :
    Well st'.A ∧ (∃ D, st'.dr = some D ∧ D.stuck = false) ∧ MayP st st'.S st'.R ∧ st'.late = [] ∧ st'.folded = [] ∧ st'.sum = st.sum := by
  obtain ⟨g, h1, h2, h3, h4⟩ := h.gen
  obtain ⟨j, hj, hr⟩ := hr
  have ho := hw.opens st.sum j
  rcases open_cases h.fit h.ok h1 (by omega) h3 hw.up (hj hw.up) with ⟨e, _⟩ | ⟨e, hm, _⟩
  · have := ho.1
    omega
  · rcases hr with ⟨e0, _⟩ | ⟨_, _, rfl⟩
    · exact absurd e e0
    · exact ⟨ho.2, ⟨_, rfl, rfl⟩, hm, rfl, rfl, rfl⟩
theorem fold_well {n : Nat} {st : LS} {D : DW} {b : List UInt8} (h : Inv n st) (hn : n ≤ 8388608) (hw : Well st.A) (hD : st.dr = some D) (hs : D.stuck = false) (hb : b.length ≤ 1048576) :
    (foldP st.A D b).1 = 0 ∧ Well (foldP st.A D b).2.1 ∧ (foldP st.A D b).2.2.stuck = false := by
  obtain ⟨g, h1, h2, h3, h4⟩ := h.gen
  obtain ⟨a1, a2, a3, a4, a5⟩ := h4 D hD
  obtain ⟨b1, b2, b3⟩ := a5 hs
  have e : foldP st.A D b = if (layP st.A (nameP (g + 1)) (piece 0 st.sum 0 b)).1 ≠ 0 then ((layP st.A (nameP (g + 1)) (piece 0 st.sum 0 b)).1, (layP st.A (nameP (g + 1)) (piece 0 st.sum 0 b)).2, { D with stuck := true }) else
      if ((layP st.A (nameP (g + 1)) (piece 0 st.sum 0 b)).2.remove (nameP g)).1 ≠ 0 then (((layP st.A (nameP (g + 1)) (piece 0 st.sum 0 b)).2.remove (nameP g)).1, ((layP st.A (nameP (g + 1)) (piece 0 st.sum 0 b)).2.remove (nameP g)).2, { D with stuck := true }) else
      (0, ((layP st.A (nameP (g + 1)) (piece 0 st.sum 0 b)).2.remove (nameP g)).2, { D with gen := D.gen + 1, len := 0, stuck := false }) := by
    unfold foldP
    rw [if_neg (by rw [hs]; decide), if_neg (by omega), if_neg (by omega), a1, a2]
  obtain ⟨he, hcase⟩ := lay2 (A := st.A) (g := g) (b := piece 0 st.sum 0 b) (by omega) b3
  have hpl := piece_len 0 st.sum 0 b
  have hno := lay2_room (A := st.A) (g := g) (b := piece 0 st.sum 0 b) (by omega) b3 (by rw [hpl]; omega)
  have hl := hw.lay (nameP (g + 1)) (piece 0 st.sum 0 b)
  have hl1 := hl.1
  have h0 : (layP st.A (nameP (g + 1)) (piece 0 st.sum 0 b)).1 = 0 := by
    rcases he with h | h | h | h
    · exact h
    · exact absurd h hl1.1
    · exact absurd h hl1.2
    · exact absurd h hno
  rcases hcase with ⟨hx, _⟩ | ⟨i, s', hfl, _, _⟩
  · exact absurd h0 hx
  have hr := hl.2.change (nameP g) fun l => rem l (nameP g)
  have hr0 : ((layP st.A (nameP (g + 1)) (piece 0 st.sum 0 b)).2.remove (nameP g)).1 = 0 := by
    rcases remove2a (A := (layP st.A (nameP (g + 1)) (piece 0 st.sum 0 b)).2) (g := g) (by omega) hfl with ⟨e1, _⟩ | ⟨e1, _⟩
    · exact e1
    · have hr1 : ((layP st.A (nameP (g + 1)) (piece 0 st.sum 0 b)).2.remove (nameP g)).1 = 0 ∨ ((layP st.A (nameP (g + 1)) (piece 0 st.sum 0 b)).2.remove (nameP g)).1 = 192 ∨ ((layP st.A (nameP (g + 1)) (piece 0 st.sum 0 b)).2.remove (nameP g)).1 = 193 := hr.1
      omega
  rw [e, if_neg (by rw [h0]; decide), if_neg (by rw [hr0]; decide)]
  exact ⟨rfl, hr.2, rfl⟩
theorem lay1_room {A : PD} {g : Nat} {d b : List UInt8} {s : Nat} (hg : g < 100000000) (hf : A.files = [⟨nameP g, d, s⟩]) (hb : d.length + b.length ≤ 2097152) : (layP A (nameP g) b).1 ≠ 194 := by
  have hn := nameP_named hg
  have hfi := A.first_files (nameP g)
  have hc := first_cases (A := A) hn
  have ha : (A.append (nameP g) b).1 ≠ 194 := by
    unfold PD.append
    split
    · omega
    dsimp only
    rw [hfi, hf, get1]
    dsimp only
    rw [if_neg (by omega)]
    dsimp only
    split <;> decide
  unfold layP
  split
  · exact ha
  · rename_i h0
    rcases append_cases (A := A) (b := b) hn with ⟨he, _⟩ | ⟨he, i, hi, hfl⟩
    · omega
    · rw [hf, get1] at hfl
      have hfl : (A.append (nameP g) b).2.files = [⟨nameP g, d ++ b.take i, s⟩] := by rw [hfl]; simp [setf]
      rcases change_cases (A := (A.append (nameP g) b).2) (x := nameP g) (g := fun l => setf l (nameP g) fun f => { f with sure := f.data.length }) hn (by rw [hfl, get1]; rfl) with ⟨h1, _⟩ | ⟨h1, _⟩
      · unfold PD.sync; omega
      · unfold PD.sync; omega
theorem put_well {n : Nat} {st : LS} {D : DW} {k : UInt8} {b : List UInt8} (h : Inv n st) (hn : n ≤ 8388608) (hw : Well st.A) (hD : st.dr = some D) (hs : D.stuck = false) (hb : b.length ≤ 1048576) (hz : (enc st.sum st.S st.R).length + b.length + 18 ≤ 2097152) :
    (putP st.A D k b).1 = 0 ∧ Well (putP st.A D k b).2.1 ∧ (putP st.A D k b).2.2.stuck = false := by
  obtain ⟨g, h1, h2, h3, h4⟩ := h.gen
  obtain ⟨a1, a2, a3, a4, a5⟩ := h4 D hD
  obtain ⟨b1, b2, b3⟩ := a5 hs
  have e : putP st.A D k b = if (layP st.A (nameP g) (piece (st.R.length + 1) st.sum k b)).1 ≠ 0 then ((layP st.A (nameP g) (piece (st.R.length + 1) st.sum k b)).1, (layP st.A (nameP g) (piece (st.R.length + 1) st.sum k b)).2, { D with stuck := true }) else
      (0, (layP st.A (nameP g) (piece (st.R.length + 1) st.sum k b)).2, { D with len := D.len + 1, stuck := false }) := by
    unfold putP
    rw [if_neg (by rw [hs]; decide), if_neg (by omega), a1, a2, a3]
  obtain ⟨i, s', hfl, hs', he, he0⟩ := lay1 (A := st.A) (b := piece (st.R.length + 1) st.sum k b) (by omega) b3
  have hpl := piece_len (st.R.length + 1) st.sum k b
  have hno := lay1_room (A := st.A) (g := g) (b := piece (st.R.length + 1) st.sum k b) (by omega) b3 (by rw [hpl]; omega)
  have hl := hw.lay (nameP g) (piece (st.R.length + 1) st.sum k b)
  have hl1 := hl.1
  have h0 : (layP st.A (nameP g) (piece (st.R.length + 1) st.sum k b)).1 = 0 := by
    rcases he with h | h | h | h
    · exact h
    · exact absurd h hl1.1
    · exact absurd h hl1.2
    · exact absurd h hno
  rw [e, if_neg (by rw [h0]; decide)]
  exact ⟨rfl, hl.2, rfl⟩
theorem may_same {st : LS} {b : List UInt8} {l : List Rec} (h : MayP st b l) (hl : st.late = []) (hf : st.folded = []) : b = st.S ∧ l = st.R := by
  rcases h with ⟨h1, h2 | ⟨h2, _⟩⟩ | ⟨h, _⟩
  · exact ⟨h1, h2⟩
  · rw [hl] at h2; cases h2
  · rw [hf] at h; cases h
end Go.Proofs.YtjnifnlkicajhaaDoor.Kp
