/-
  The law's made. No condition is put on any statement here.
-/
import Derived.Test.YtjnifnlkicajhaaLf
namespace Go.Proofs.Ytjnifnlkicajhaa.La
open Go Vc Hp Fs Da Pm Dd Rd
set_option maxRecDepth 4000

structure GI (w : World) (c : Col) (k : Nat) (s : Sl) (gl : List (AF × Sl)) (v : World) (gl' : List (AF × Sl)) : Prop where
  inf : InF v c k s gl'
  snd : gl'.map (·.2) = gl.map (·.2)
  nm : gl'.map (·.1.name) = gl.map (·.1.name)
  eff : Eff (· = k) w c v c

/-- all bytes of all files are raised -/
theorem raise_spec {w c k s gl o1 o2} {y : Bool} {Q : Option Addr → Bool → World → Prop} (h : InF w c k s gl) (hl : gl.length ≤ 1099511627776) (hb : ∀ p ∈ gl, p.2.len ≤ 1099511627776)
    (H : ∀ v gl', GI w c k s gl v gl' → levylaw19_made.k7 s o1 o2 y Q v) : levylaw19_made.k6 s o1 o2 y Q w := by
  have hsl := h.len
  unfold levylaw19_made.k6
  refine Fix.intro (fun (z : Int) v => ∃ (i : Nat) (gl' : List (AF × Sl)), z = i ∧ i ≤ gl.length ∧ GI w c k s gl v gl') (fun z _ => gl.length - z.toNat) ?_ ⟨0, gl, rfl, Nat.zero_le _, h, rfl, rfl, Eff.refl _ _ _⟩
  rintro z v K ⟨i, gl', rfl, hi, I⟩ hK
  unfold levylaw19_made.l26
  by_cases hlt : i < gl.length
  · rw [if_pos (by rw [decide_eq_true_eq]; omega)]
    have hq : ∀ {gl'' : List (AF × Sl)}, gl''.map (·.2) = gl.map (·.2) → ∃ h' : i < gl''.length, gl''[i].2 = gl[i].2 := fun {gl''} e => by
      have hl := congrArg List.length e
      simp at hl
      refine ⟨by omega, ?_⟩
      have : (gl''.map (·.2))[i]'(by simp; omega) = (gl.map (·.2))[i]'(by simpa using hlt) := by simp only [e]
      simpa using this
    have hqb := hb _ (List.getElem_mem hlt)
    refine Fix.intro (fun (z : Int) v => ∃ (p : Nat) (gl' : List (AF × Sl)), z = p ∧ p ≤ (gl[i]).2.len ∧ GI w c k s gl v gl') (fun z _ => (gl[i]).2.len - z.toNat) ?_ ⟨0, gl', rfl, Nat.zero_le _, I⟩
    rintro z v' K' ⟨p, gl2, rfl, hp, I2⟩ hK'
    obtain ⟨hi2, hq2⟩ := hq I2.snd
    have hcell := (fcells_at hi2).2.1
    rw [hq2] at hcell
    unfold levylaw19_made.l32
    refine ix_f (off := 1) I2.inf.src.row.1 hi2 hcell ?_
    by_cases hlt2 : p < (gl[i]).2.len
    · rw [if_pos (by rw [decide_eq_true_eq]; omega)]
      have I3 := I2.inf.drew
      have hd := I3.data _ (List.getElem_mem hi2)
      rw [hq2] at hd
      have hdl := hd.len
      refine ix_f (w := v'.drew) (off := 1) I3.src.row.1 hi2 hcell (ix_f (w := v'.drew) (off := 1) I3.src.row.1 hi2 hcell ?_)
      refine ix_ld (w := v'.drew) (x := (((gl2[i]).1.data[p]'(by omega)).toNat : Int)) hd.src.1 (by simp [show p < (gl2[i]).1.data.length by omega]) ?_
      refine I3.turn hd hlt2 fun w' gl3 hi3 hs3 hn3 he3 => ?_
      rw [Da.wrap_small (i := (p : Int) + 1) (by omega) (by omega)]
      exact hK' _ _ ⟨p + 1, gl3, by omega, hlt2, hi3, hs3.trans I2.snd, hn3.trans I2.nm, I2.eff.drew.trans he3⟩ (by omega)
    · rw [if_neg (by rw [decide_eq_true_eq]; omega)]
      unfold levylaw19_made.k30
      rw [Da.wrap_small (i := (i : Int) + 1) (by omega) (by omega)]
      exact hK _ _ ⟨i + 1, gl2, by omega, hlt, I2⟩ (by omega)
  · rw [if_neg (by rw [decide_eq_true_eq]; omega)]
    exact H v gl' I

/-- the two disks, if there are any -/
def Two (w : World) (c : Col) (p q : Option Addr) : Prop := (p = none ∧ q = none) ∨ ∃ A d m L b z gl, p = some ⟨d, 0, none⟩ ∧ q = some ⟨b, 0, none⟩ ∧ DDisk w c 1 d m L A ∧ RDisk w c 2 b z gl A ∧ A.Ok
theorem Two.eff {w c p q j w' c'} (h : Two w c p q) (hc : Eff j w c w' c') (h1 : ¬ j 1) (h2 : ¬ j 2) : Two w' c' p q := by
  rcases h with h | ⟨A, d, m, L, b, z, gl, e1, e2, h3, h4, h5⟩
  · exact .inl h
  · exact .inr ⟨A, d, m, L, b, z, gl, e1, e2, h3.eff hc h1, h4.eff hc h2, h5⟩
theorem nilRoom {w c k r} (o : Own w c r k (.cells #[.slice none 0 0, .slice none 0 0, .slice none 0 0, .slice none 0 0, .slice none 0 0, .slice none 0 0, .slice none 0 0, .slice none 0 0, .slice none 0 0, .slice none 0 0, .slice none 0 0, .slice none 0 0, .slice none 0 0, .slice none 0 0, .slice none 0 0, .slice none 0 0, .slice none 0 0, .slice none 0 0, .slice none 0 0, .slice none 0 0, .slice none 0 0] 65 (0, 0))) : Room w c k r noSl noSl noSl [] [] [] :=
  ⟨o, Row.nil _ _ _ _ _, Row.nil _ _ _ _ _, Row.nil _ _ _ _ _, fun s hs => (by cases hs), fun s hs => (by cases hs), fun s hs => (by cases hs)⟩
theorem heapEff {w w' : World} (c : Col) (h : w' = w ∨ (Chg (fun _ => False) w w' ∧ w'.heap = w.heap)) : Chg (fun _ => False) w w' := by
  rcases h with rfl | h
  · exact Chg.refl _ _
  · exact h.1

theorem made_k7 {w c s gl o1 o2} {Q : Option Addr → Bool → World → Prop} (h : InF w c 3 s gl) (hl : gl.length ≤ 1099511627776) (hn : ∀ p ∈ gl, p.1.name.size < 9223372036854775807)
    (H : ∀ w' c' pb, Own w' c' pb 6 (.cells #[.pointer o2, .pointer none, .pointer o1, .pointer none] 32 (0, 0)) → Eff (fun k => k = 4 ∨ k = 5) w c w' c' → Q (some ⟨pb, 0, none⟩) true w') : levylaw19_made.k7 s o1 o2 true Q w := by
  have k10 : ∀ v c', Eff (fun k => k = 4 ∨ k = 5) w c v c' → levylaw19_made.k10 o1 o2 true false Q v := by
    intro v c' E
    unfold levylaw19_made.k10
    rw [if_neg Bool.false_ne_true]
    exact al_own (c := c') (K := fun a w => Q (some a) true w) 6 fun pb w1 c1 o1 ch1 ex1 hb1 => H w1 c1 pb o1 (E.new ch1 ex1)
  unfold levylaw19_made.k7
  refine rnewDisk_spec (j := 3) 5 h.src (by decide) hn (fun hm w1 c1 E1 => ?_) fun A hm w1 c1 b z gl1 R1 E1 => ?_
  · have E1' := E1.mono (j' := fun k => k = 4 ∨ k = 5) (fun _ => .inr)
    have h1 := h.eff E1 (by decide)
    refine newDisk_spec (j := 3) 4 h1.src (fun _ w2 c2 ch2 ex2 => ?_) fun A' hm' => ?_
    · rw [if_neg (by simp), if_neg (by simp), if_pos (by rfl)]
      exact k10 w2 c2 (E1'.new ch2 ex2)
    · rw [hm] at hm'; cases hm'
  · have E1' := E1.mono (j' := fun k => k = 4 ∨ k = 5) (fun _ => .inr)
    have h1 := h.eff E1 (by decide)
    have hA := make_ok hm
    refine newDisk_spec (j := 3) 4 h1.src (fun hm' => ?_) fun A' hm' w2 c2 d m L D2 ch2 ex2 => ?_
    · rw [hm] at hm'; cases hm'
    · rw [hm] at hm'
      obtain rfl := Option.some.inj hm'
      rw [if_neg (by simp), if_neg (by simp), if_neg (by simp)]
      refine Dd.files_spec 7 D2 hA fun w3 c3 s3 f3 F3 e3 ch3 ex3 => ?_
      have R3 := (R1.new ch2 ex2).new ch3 ex3
      refine rfiles_spec 7 R3 hA fun w4 c4 s4 f4 F4 e4 ch4 ex4 => ?_
      have F3' := F3.new ch4 ex4
      have hc := hA.count
      refine sameFiles_spec F3'.src F4.src (e3.trans e4.symm) (by have := congrArg List.length e3; simp at this; omega) fun w5 hw5 => ?_
      have ch5 := heapEff c4 hw5
      exact k10 w5 c4 ((((E1'.new ch2 ex2).new ch3 ex3).new ch4 ex4).new ch5 (Ext.refl _ _))
end Go.Proofs.Ytjnifnlkicajhaa.La
