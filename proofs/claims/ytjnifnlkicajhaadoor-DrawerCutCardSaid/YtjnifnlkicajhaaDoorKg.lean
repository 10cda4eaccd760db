/-
  The drawer's disk in plain words: what each call can leave. No program in sight. No condition is put on any statement here.
-/
import Derived.Test.YtjnifnlkicajhaaDoorKd
namespace Go.Proofs.YtjnifnlkicajhaaDoor.Kp
open Go Vc Hp Da Pm Dd Jn Kw

theorem first_cases {A : PD} {x : ByteArray} (hn : namedB x = true) : (A.first x).1 = 0 ∨ (A.first x).1 = 190 ∨ (A.first x).1 = 191 := by
  unfold PD.first
  rw [if_neg (by rw [hn]; decide)]
  repeat' split
  all_goals simp
theorem change_cases {A : PD} {x : ByteArray} {g : List PF → List PF} (hn : namedB x = true) (hg : (Pm.get A.files x).isNone = false) :
    ((A.change x g).1 = 0 ∧ (A.change x g).2.files = g A.files) ∨ (((A.change x g).1 = 190 ∨ (A.change x g).1 = 191) ∧ (A.change x g).2.files = A.files) := by
  have hf := A.first_files x
  have hc := first_cases (A := A) hn
  unfold PD.change
  split
  · rename_i h0
    exact .inr ⟨by omega, hf⟩
  dsimp only
  rw [hf, hg]
  simp only [Bool.false_eq_true, if_false]
  have hp := (A.first x).2.pay_files 1
  split
  · exact .inl ⟨rfl, by dsimp only; rw [hp, hf]⟩
  · exact .inr ⟨.inl rfl, by rw [hp, hf]⟩
theorem append_cases {A : PD} {x : ByteArray} {b : List UInt8} (hn : namedB x = true) :
    (((A.append x b).1 = 190 ∨ (A.append x b).1 = 191 ∨ (A.append x b).1 = 194) ∧ (A.append x b).2.files = A.files) ∨
    (((A.append x b).1 = 0 ∨ (A.append x b).1 = 190) ∧ ∃ i, ((A.append x b).1 = 0 → b.length ≤ i) ∧ (A.append x b).2.files = match Pm.get A.files x with
      | none => ins ⟨x, b.take i, 0⟩ A.files
      | some _ => setf A.files x fun f => { f with data := f.data ++ b.take i }) := by
  have hf := A.first_files x
  have hc := first_cases (A := A) hn
  unfold PD.append
  split
  · rename_i h0
    exact .inl ⟨by omega, hf⟩
  dsimp only
  rw [hf]
  have hp := (A.first x).2.pay_files ((b.length : Int) + 1)
  rw [hf] at hp
  generalize (A.first x).2.pay ((b.length : Int) + 1) = q at *
  cases hg : Pm.get A.files x with
  | none =>
    dsimp only
    split
    · exact .inl ⟨.inr (.inr rfl), hf⟩
    · right
      dsimp only
      rw [hp]
      cases hq : q.1 with
      | true => exact ⟨.inl rfl, b.length, fun _ => Nat.le_refl _, by simp⟩
      | false => exact ⟨.inr rfl, q.2.1.toNat, fun h => absurd h (by decide), by simp⟩
  | some f =>
    dsimp only
    split
    · exact .inl ⟨.inr (.inr rfl), hf⟩
    · right
      dsimp only
      rw [hp]
      cases hq : q.1 with
      | true => exact ⟨.inl rfl, b.length, fun _ => Nat.le_refl _, by simp⟩
      | false => exact ⟨.inr rfl, q.2.1.toNat, fun h => absurd h (by decide), by simp⟩

/-! ### one file, two files -/
theorem nne {g : Nat} : nameP g ≠ nameP (g + 1) := fun h => by have := nameP_inj h; omega
theorem nne' {g : Nat} : nameP (g + 1) ≠ nameP g := fun h => nne h.symm
theorem get1 {g : Nat} {d : List UInt8} {s : Nat} : Pm.get [⟨nameP g, d, s⟩] (nameP g) = some ⟨nameP g, d, s⟩ := by simp [Pm.get]
theorem get1' {g : Nat} {d : List UInt8} {s : Nat} : Pm.get [⟨nameP g, d, s⟩] (nameP (g + 1)) = none := by simp [Pm.get, nne]
theorem get2 {g : Nat} {d q : List UInt8} {s t : Nat} : Pm.get [⟨nameP g, d, s⟩, ⟨nameP (g + 1), q, t⟩] (nameP g) = some ⟨nameP g, d, s⟩ := by simp [Pm.get]
theorem get2' {g : Nat} {d q : List UInt8} {s t : Nat} : Pm.get [⟨nameP g, d, s⟩, ⟨nameP (g + 1), q, t⟩] (nameP (g + 1)) = some ⟨nameP (g + 1), q, t⟩ := by simp [Pm.get, nne]
theorem ins2 {g : Nat} (h : g + 1 < 100000000) {d q : List UInt8} {s t : Nat} : ins ⟨nameP (g + 1), q, t⟩ [⟨nameP g, d, s⟩] = [⟨nameP g, d, s⟩, ⟨nameP (g + 1), q, t⟩] := by
  simp only [ins]
  rw [if_pos (nameP_lt (Nat.lt_succ_self g) h)]

theorem lay1 {A : PD} {g : Nat} {d b : List UInt8} {s : Nat} (hg : g < 100000000) (hf : A.files = [⟨nameP g, d, s⟩]) :
    ∃ i s', (layP A (nameP g) b).2.files = [⟨nameP g, d ++ b.take i, s'⟩] ∧ (s' = s ∨ s' = (d ++ b.take i).length) ∧ ((layP A (nameP g) b).1 = 0 ∨ (layP A (nameP g) b).1 = 190 ∨ (layP A (nameP g) b).1 = 191 ∨ (layP A (nameP g) b).1 = 194) ∧
      ((layP A (nameP g) b).1 = 0 → b.length ≤ i ∧ s' = (d ++ b.take i).length) := by
  have hn := nameP_named hg
  unfold layP
  rcases append_cases (A := A) (b := b) hn with ⟨he, hfl⟩ | ⟨he, i, hi, hfl⟩
  · rw [if_pos (by omega), hfl, hf]
    exact ⟨0, s, by simp, .inl rfl, by omega, fun h => by omega⟩
  · rw [hf, get1] at hfl
    have hfl : (A.append (nameP g) b).2.files = [⟨nameP g, d ++ b.take i, s⟩] := by rw [hfl]; simp [setf]
    by_cases h0 : (A.append (nameP g) b).1 = 0
    · rw [if_neg (by simpa using h0)]
      rcases change_cases (A := (A.append (nameP g) b).2) (g := fun l => setf l (nameP g) fun f => { f with sure := f.data.length }) hn (by rw [hfl, get1]; rfl) with ⟨h1, h2⟩ | ⟨h1, h2⟩
      · refine ⟨i, (d ++ b.take i).length, ?_, .inr rfl, .inl h1, fun _ => ⟨hi h0, rfl⟩⟩
        unfold PD.sync
        rw [h2, hfl]
        simp [setf]
      · refine ⟨i, s, ?_, .inl rfl, ?_, fun h => ?_⟩
        · unfold PD.sync
          rw [h2, hfl]
        · unfold PD.sync; omega
        · unfold PD.sync at h; omega
    · rw [if_pos h0]
      exact ⟨i, s, hfl, .inl rfl, by omega, fun h => absurd h h0⟩
theorem lay2 {A : PD} {g : Nat} {d b : List UInt8} {s : Nat} (hg : g + 1 < 100000000) (hf : A.files = [⟨nameP g, d, s⟩]) :
    ((layP A (nameP (g + 1)) b).1 = 0 ∨ (layP A (nameP (g + 1)) b).1 = 190 ∨ (layP A (nameP (g + 1)) b).1 = 191 ∨ (layP A (nameP (g + 1)) b).1 = 194) ∧
    (((layP A (nameP (g + 1)) b).1 ≠ 0 ∧ (layP A (nameP (g + 1)) b).2.files = [⟨nameP g, d, s⟩]) ∨
      ∃ i s', (layP A (nameP (g + 1)) b).2.files = [⟨nameP g, d, s⟩, ⟨nameP (g + 1), b.take i, s'⟩] ∧ s' ≤ (b.take i).length ∧ ((layP A (nameP (g + 1)) b).1 = 0 → b.length ≤ i ∧ s' = (b.take i).length)) := by
  have hn := nameP_named hg
  unfold layP
  rcases append_cases (A := A) (b := b) hn with ⟨he, hfl⟩ | ⟨he, i, hi, hfl⟩
  · rw [if_pos (by omega), hfl, hf]
    exact ⟨by omega, .inl ⟨by omega, rfl⟩⟩
  · rw [hf, get1'] at hfl
    dsimp only at hfl
    rw [ins2 hg] at hfl
    by_cases h0 : (A.append (nameP (g + 1)) b).1 = 0
    · rw [if_neg (by simpa using h0)]
      rcases change_cases (A := (A.append (nameP (g + 1)) b).2) (g := fun l => setf l (nameP (g + 1)) fun f => { f with sure := f.data.length }) hn (by rw [hfl, get2']; rfl) with ⟨h1, h2⟩ | ⟨h1, h2⟩
      · refine ⟨.inl h1, .inr ⟨i, (b.take i).length, ?_, Nat.le_refl _, fun _ => ⟨hi h0, rfl⟩⟩⟩
        unfold PD.sync
        rw [h2, hfl]
        simp [setf, nne]
      · unfold PD.sync
        refine ⟨by omega, .inr ⟨i, 0, ?_, Nat.zero_le _, fun h => by omega⟩⟩
        rw [h2, hfl]
    · rw [if_pos h0]
      exact ⟨by omega, .inr ⟨i, 0, hfl, Nat.zero_le _, fun h => absurd h h0⟩⟩
theorem remove2a {A : PD} {g : Nat} {d q : List UInt8} {s t : Nat} (hg : g < 100000000) (hf : A.files = [⟨nameP g, d, s⟩, ⟨nameP (g + 1), q, t⟩]) :
    ((A.remove (nameP g)).1 = 0 ∧ (A.remove (nameP g)).2.files = [⟨nameP (g + 1), q, t⟩]) ∨ (((A.remove (nameP g)).1 = 190 ∨ (A.remove (nameP g)).1 = 191) ∧ (A.remove (nameP g)).2.files = A.files) := by
  rcases change_cases (A := A) (g := fun l => rem l (nameP g)) (nameP_named hg) (by rw [hf, get2]; rfl) with ⟨h1, h2⟩ | h
  · refine .inl ⟨h1, ?_⟩
    unfold PD.remove
    rw [h2, hf]
    simp [rem, nne']
  · exact .inr h
theorem remove2b {A : PD} {g : Nat} {d q : List UInt8} {s t : Nat} (hg : g + 1 < 100000000) (hf : A.files = [⟨nameP g, d, s⟩, ⟨nameP (g + 1), q, t⟩]) :
    ((A.remove (nameP (g + 1))).1 = 0 ∧ (A.remove (nameP (g + 1))).2.files = [⟨nameP g, d, s⟩]) ∨ (((A.remove (nameP (g + 1))).1 = 190 ∨ (A.remove (nameP (g + 1))).1 = 191) ∧ (A.remove (nameP (g + 1))).2.files = A.files) := by
  rcases change_cases (A := A) (g := fun l => rem l (nameP (g + 1))) (nameP_named hg) (by rw [hf, get2']; rfl) with ⟨h1, h2⟩ | h
  · refine .inl ⟨h1, ?_⟩
    unfold PD.remove
    rw [h2, hf]
    simp [rem, nne]
  · exact .inr h
theorem best_eq {fs : List PF} {j : JF} {f : PF} {g s : Nat} {k : UInt8} {bd : List UInt8} (hB : Best (· ∈ fs) j) (hf : f ∈ fs) (hn : f.name = nameP g) (h1 : 1 ≤ g) (hw : whole f.data 0 = some (s, k, bd))
    (ho : ∀ f' ∈ fs, f' = f ∨ whole f'.data 0 = none ∨ ∃ g', f'.name = nameP g' ∧ g' < g) : j = ⟨g, s, bd, bd.length + 18, f.data.length, f.sure⟩ := by
  rcases hB with ⟨_, h2⟩ | ⟨h2, f0, h3, h4, ⟨k0, h5⟩, h6, h7, h8, h9⟩
  · have := h2 f hf
    rw [hw] at this
    cases this
  · have hfmax : g ≤ j.gen := by
      rcases h9 f g hf hn with h | h
      · rw [hw] at h; cases h
      · exact h
    rcases ho f0 h3 with rfl | h | ⟨g', h, h'⟩
    · rw [hn] at h4
      have e1 := nameP_inj h4
      rw [hw] at h5
      obtain ⟨rfl, _, rfl⟩ : s = j.sum ∧ k = k0 ∧ bd = j.summary := by simpa using h5
      cases j
      simp only at *
      subst h6 h7 h8 e1
      rfl
    · rw [h5] at h; cases h
    · rw [h] at h4
      have := nameP_inj h4
      omega
end Go.Proofs.YtjnifnlkicajhaaDoor.Kp
