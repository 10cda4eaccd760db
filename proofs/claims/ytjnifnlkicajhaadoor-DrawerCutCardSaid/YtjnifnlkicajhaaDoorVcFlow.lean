/-
  The rules of control: bodies, loops, regions that draw their order, deferred calls; for frames that are known by a list. No condition is put on any statement here.
-/
import Derived.Test.YtjnifnlkicajhaaDoorVcOps
namespace Go.Proofs.YtjnifnlkicajhaaDoor.Vc
open Go

/-- Rounds: at most so many. -/
def FixN {σ : Type} (B : (σ → World → Prop) → σ → World → Prop) : Nat → σ → World → Prop
  | 0, _, _ => False
  | k + 1, s, w => B (FixN B k) s w
/-- A loop: some number of rounds is enough. -/
def Fix {σ : Type} (B : (σ → World → Prop) → σ → World → Prop) (s : σ) (w : World) : Prop := ∃ k, FixN B k s w

/-- A loop by a relation and a measure. -/
theorem Fix.intro {σ : Type} {B : (σ → World → Prop) → σ → World → Prop} (I : σ → World → Prop) (m : σ → World → Nat)
    (round : ∀ s w (K : σ → World → Prop), I s w → (∀ s' w', I s' w' → m s' w' < m s w → K s' w') → B K s w) {s : σ} {w : World} (h : I s w) : Fix B s w := by
  have key : ∀ k s w, I s w → m s w < k → FixN B k s w := by
    intro k
    induction k with
    | zero => intro s w _ hk; omega
    | succ k ih =>
      intro s w hI hk
      exact round s w _ hI fun s' w' hI' hm => ih s' w' hI' (by omega)
  exact ⟨_, key (m s w + 1) s w h (by omega)⟩

section
variable {P : Program} {Q : Exit → Act → World → Prop} {a : Act} {w : World}

theorem wp_loop_fix {c : Code} (G : Nat → Act → World → Prop) (h0 : ∀ a w, ¬ G 0 a w) (round : ∀ k a w, G (k + 1) a w → c.wp P (Exit.then (fun a' w' => G k a' w') Q) a w) {k : Nat} (h : G k a w) :
    (Code.loop c).wp P Q a w := by
  classical
  have least : ∀ a w, (∃ k, G k a w) → ∃ k, G k a w ∧ ∀ j, j < k → ¬ G j a w := by
    intro a w ⟨k, hk⟩
    induction k using Nat.strongRecOn with
    | _ k ih =>
      by_cases hh : ∃ j, j < k ∧ G j a w
      · obtain ⟨j, hj, hg⟩ := hh
        exact ih j hj hg
      · exact ⟨k, hk, fun j hj hg => hh ⟨j, hj, hg⟩⟩
  let μ : Act → World → Nat := fun a w => if h : ∃ k, G k a w then Classical.choose (least a w h) else 0
  have hμ : ∀ a w, (∃ k, G k a w) → G (μ a w) a w ∧ ∀ j, j < μ a w → ¬ G j a w := by
    intro a w h
    have := Classical.choose_spec (least a w h)
    simpa [μ, h] using this
  refine wp_loop (fun a w => ∃ k, G k a w) μ ⟨k, h⟩ fun a w hI => ?_
  obtain ⟨hg, hmin⟩ := hμ a w hI
  cases e : μ a w with
  | zero => rw [e] at hg; exact absurd hg (h0 a w)
  | succ k =>
    rw [e] at hg
    refine Code.wp_mono (fun x a' w' hx => ?_) (round k a w hg)
    cases x with
    | normal =>
      refine ⟨⟨k, hx⟩, ?_⟩
      have h2 := hμ a' w' ⟨k, hx⟩
      rcases Nat.lt_or_ge k (μ a' w') with h3 | h3
      · exact absurd hx (h2.2 k h3)
      · exact Nat.lt_succ_of_le h3
    | _ => exact hx

/-- A loop, told by its rounds. -/
theorem wp_fix {σ : Type} {c : Code} {B : (σ → World → Prop) → σ → World → Prop} {s : σ} (rel : σ → Act → Prop) (h : Fix B s w) (hs : rel s a)
    (round : ∀ (K : σ → World → Prop) (C : Act → World → Prop) (s : σ) (a : Act) (w : World), (∀ s a w, rel s a → K s w → C a w) → rel s a → B K s w → c.wp P (Exit.then C Q) a w) : (Code.loop c).wp P Q a w := by
  obtain ⟨k, hk⟩ := h
  refine wp_loop_fix (fun k a w => ∃ s, rel s a ∧ FixN B k s w) (fun a w ⟨s, _, h⟩ => h) (fun k a w ⟨s, hr, h⟩ => ?_) (k := k) ⟨s, hs, hk⟩
  exact round (FixN B k) _ s a w (fun s' a' w' hr' h' => ⟨s', hr', h'⟩) hr h

theorem wp_condT {c : Operand} {x y : Code} {n : Nat} {L : List (Nat × Value)} {d : List Deferred} (R : Rep a n L d) (hc : ev L c = some (.bool true)) (h : x.wp P Q a w) : (Code.cond c x y).wp P Q a w := wp_cond_true (R.ev hc) h
theorem wp_condF {c : Operand} {x y : Code} {n : Nat} {L : List (Nat × Value)} {d : List Deferred} (R : Rep a n L d) (hc : ev L c = some (.bool false)) (h : y.wp P Q a w) : (Code.cond c x y).wp P Q a w := wp_cond_false (R.ev hc) h

/-- The body of a function. -/
theorem calls_body {f : FuncId} {fn : Func} {c : Code} {args : List Value} {R : Value → World → Prop} {n : Nat} {L : List (Nat × Value)} (hf : P.funcs[f]? = some fn) (hb : fn.body = some c) (hn : fn.ntmps = n) (hl : args.length ≤ n) (hL : starts args L)
    (h : ∀ a, Rep a n L [] → c.wp P (bodyPost P fn (Rets R)) a w) : Calls P f args.toArray w (Rets R) :=
  calls_of_wp hf hb (h _ (by rw [hn]; exact Rep.start args n hl (starts_assoc hL)))

/-- no panic gets out -/
def np (Q : Exit → Act → World → Prop) : Exit → Act → World → Prop
  | .panic _, _, _ => False
  | e, a, w => Q e a w
theorem np_mono {c : Code} {Q : Exit → Act → World → Prop} {a : Act} {w : World} (h : c.wp P (np Q) a w) : c.wp P Q a w :=
  Code.wp_mono (fun e a w h => by cases e <;> first | exact h | exact h.elim) h
theorem calls_bodyD {f : FuncId} {fn : Func} {c : Code} {args : List Value} {R : Value → World → Prop} {n : Nat} {L : List (Nat × Value)} (hf : P.funcs[f]? = some fn) (hb : fn.body = some c) (hn : fn.ntmps = n) (hl : args.length ≤ n) (hL : starts args L)
    (h : ∀ a, Rep a n L [] → c.wp P (np (bodyPostD P fn (Rets R))) a w) : Calls P f args.toArray w (Rets R) :=
  calls_of_wp_defers hf hb (np_mono (h _ (by rw [hn]; exact Rep.start args n hl (starts_assoc hL))))

theorem Rep.getD {n : Nat} {L : List (Nat × Value)} {d : List Deferred} {t : Nat} {v : Value} (R : Rep a n L d) (h : assoc L t = some v) : a.tmps.getD t undef = v := by
  have := R.2.2 t v h
  simp [Array.getD_eq_getD_getElem?, this]

/-- the results, all in slots -/
def resL (L : List (Nat × Value)) : List ResultVar → Option (List Value)
  | [] => some []
  | .tmp t :: r => match assoc L t, resL L r with
    | some v, some vs => some (v :: vs)
    | _, _ => none
  | _ :: _ => none
def packed : List Value → Value
  | [v] => v
  | vs => .tuple vs.toArray

theorem run_mapM_tmps {n : Nat} {L : List (Nat × Value)} {d : List Deferred} (R : Rep a n L d) (P : Program) (w : World) (g : ResultVar → Sem Value) (hg : ∀ t, g (.tmp t) = pure (a.tmps.getD t undef)) :
    ∀ (rs : List ResultVar) (vs : List Value), resL L rs = some vs → (rs.mapM g).run P w = Result.ok vs w
  | [], vs, h => by
    simp only [resL, Option.some.injEq] at h
    subst h
    rfl
  | .tmp t :: r, vs, h => by
    unfold resL at h
    split at h
    · rename_i v us h1 h2
      simp only [Option.some.injEq] at h
      subst h
      have ih := run_mapM_tmps R P w g hg r us h2
      rw [List.mapM_cons]
      simp only [Sem.run_bind, hg, Sem.run_pure, Result.andThen_ok, ih, R.getD h1]
    · cases h
  | .cell _ _ :: r, vs, h => by simp [resL] at h

theorem results_L {fn : Func} {n : Nat} {L : List (Nat × Value)} {d : List Deferred} {rs : List ResultVar} {vs : List Value} (R : Rep a n L d) (hr : fn.results = rs.toArray) (h : resL L rs = some vs) : (results fn a.tmps).run P w = .ok (packed vs) w := by
  unfold results
  rw [hr]
  simp only [List.mapM_toArray, Sem.run_bind, Sem.run_map]
  rw [run_mapM_tmps R P w _ (fun t => rfl) rs vs h]
  simp only [Result.andThen_ok]
  match vs with
  | [] => rfl
  | [v] => rfl
  | v :: u :: r => simp [packed]

theorem post_ret {fn : Func} {Rr : Value → World → Prop} {n : Nat} {L : List (Nat × Value)} {rs : List ResultVar} {vs : List Value} (R : Rep a n L []) (hr : fn.results = rs.toArray) (h : resL L rs = some vs) (hR : Rr (packed vs) w) :
    bodyPost P fn (Rets Rr) .ret a w := ⟨R.2.1, packed vs, results_L R hr h, hR⟩
theorem post_end {fn : Func} {Rr : Value → World → Prop} {n : Nat} {L : List (Nat × Value)} {rs : List ResultVar} {vs : List Value} (R : Rep a n L []) (hr : fn.results = rs.toArray) (h : resL L rs = some vs) (hR : Rr (packed vs) w) :
    bodyPost P fn (Rets Rr) .normal a w := ⟨R.2.1, packed vs, results_L R hr h, hR⟩
/-- a deferred closure's body -/
theorem callsD_body {f : FuncId} {fn : Func} {c : Code} {args : List Value} {R : Value → World → Prop} {n : Nat} {L : List (Nat × Value)} {u : FrameMode} (hf : P.funcs[f]? = some fn) (hb : fn.body = some c) (hn : fn.ntmps = n) (hl : args.length ≤ n) (hL : starts args L)
    (h : ∀ a, Rep a n L [] → c.wp P (bodyPost P fn (Rets R)) a w) : CallsD P f args.toArray u w fun e u' w' => u' = u ∧ Rets R e w' :=
  callsD_of_wp hf hb (h _ (by rw [hn]; exact Rep.start args n hl (starts_assoc hL)))
theorem postD_ret {fn : Func} {R : Ending → World → Prop} {n : Nat} {L : List (Nat × Value)} {d : List Deferred} (Rp : Rep a n L d) (h : Leaves P fn a.tmps R d .returning w) : np (bodyPostD P fn R) .ret a w := by
  show Leaves P fn a.tmps R a.defers .returning w
  rw [Rp.2.1]; exact h
theorem postD_end {fn : Func} {R : Ending → World → Prop} {n : Nat} {L : List (Nat × Value)} {d : List Deferred} (Rp : Rep a n L d) (h : Leaves P fn a.tmps R d .returning w) : np (bodyPostD P fn R) .normal a w := by
  show Leaves P fn a.tmps R a.defers .returning w
  rw [Rp.2.1]; exact h
theorem lv_nil {fn : Func} {tmps : Array Value} {R : Value → World → Prop} {v : Value} (hr : (results fn tmps).run P w = .ok v w) (h : R v w) : Leaves P fn tmps (Rets R) [] .returning w := ⟨v, hr, h⟩
theorem lv_cons {fn : Func} {tmps : Array Value} {R : Value → World → Prop} {D : Deferred} {ds : List Deferred} {fv : Fn} {cap : Array Value} {f : FuncId} {args : Array Value} {R1 : Value → World → Prop} (ht : D.target = .fn fv cap) (_hh : f = f) (hi : ∀ w, (invoke D.target D.args).run P w = .ok (.enter f args) w)
    (hc : ∀ u, CallsD P f args u w fun e u' w' => u' = u ∧ Rets R1 e w') (k : ∀ v w', R1 v w' → Leaves P fn tmps (Rets R) ds .returning w') : Leaves P fn tmps (Rets R) (D :: ds) .returning w := by
  refine ⟨by simp, fv, cap, f, args, ht, hi w, ?_⟩
  intro c cs hm
  obtain ⟨e, u', w', fr, ⟨hu, hR⟩, rest⟩ := hc .returning c cs hm
  refine ⟨e, u', w', fr, ?_, rest⟩
  subst hu
  cases e with
  | returned v => exact k _ _ hR
  | panicked ch => exact hR.elim
  | outgrown => exact hR.elim
/-- one result, in a cell -/
theorem results_cell {fn : Func} {n : Nat} {L : List (Nat × Value)} {d : List Deferred} {x : Tmp} {t : TypeId} {ad : Addr} {v : Value} {D : TypeDesc} (R : Rep a n L d) (hr : fn.results = #[.cell x t]) (hx : assoc L x = some (.pointer (some ad)))
    (hu : P.underlying t = some D) (hD : nonAgg D = true) (hc : w.cell? ad = some v) : (results fn a.tmps).run P w = .ok v w := by
  have h1 := R.getD hx
  have h2 := run_loadVar1 hu hD hc
  simp only [Array.getD_eq_getD_getElem?] at h1
  simp [results, hr, h1, asAddr, h2]
/-- the results, in slots and in cells -/
def resC (P : Program) (w : World) (L : List (Nat × Value)) : List ResultVar → List Value → Prop
  | [], [] => True
  | .tmp t :: r, v :: vs => assoc L t = some v ∧ resC P w L r vs
  | .cell t T :: r, v :: vs => (∃ ad, assoc L t = some (.pointer (some ad)) ∧ (loadVar T ad).run P w = .ok v w) ∧ resC P w L r vs
  | _, _ => False
theorem run_mapM_res {n : Nat} {L : List (Nat × Value)} {d : List Deferred} (R : Rep a n L d) (P : Program) (w : World) (g : ResultVar → Sem Value) (hg : ∀ t, g (.tmp t) = pure (a.tmps.getD t undef))
    (hc : ∀ t T, g (.cell t T) = do loadVar T (← asAddr (a.tmps.getD t undef))) :
    ∀ (rs : List ResultVar) (vs : List Value), resC P w L rs vs → (rs.mapM g).run P w = Result.ok vs w
  | [], [], _ => rfl
  | [], _ :: _, h => h.elim
  | .tmp _ :: _, [], h => h.elim
  | .cell _ _ :: _, [], h => h.elim
  | .tmp t :: r, v :: vs, h => by
    have ih := run_mapM_res R P w g hg hc r vs h.2
    rw [List.mapM_cons]
    simp only [Sem.run_bind, hg, Sem.run_pure, Result.andThen_ok, ih, R.getD h.1]
  | .cell t T :: r, v :: vs, h => by
    have ih := run_mapM_res R P w g hg hc r vs h.2
    obtain ⟨ad, h1, h2⟩ := h.1
    rw [List.mapM_cons]
    simp only [Sem.run_bind, hc, Sem.run_pure, R.getD h1]
    simp [asAddr, h2, ih]
theorem results_C {fn : Func} {n : Nat} {L : List (Nat × Value)} {d : List Deferred} {rs : List ResultVar} {vs : List Value} (R : Rep a n L d) (hr : fn.results = rs.toArray) (h : resC P w L rs vs) : (results fn a.tmps).run P w = .ok (packed vs) w := by
  unfold results
  rw [hr]
  simp only [List.mapM_toArray, Sem.run_bind, Sem.run_map]
  rw [run_mapM_res R P w _ (fun t => rfl) (fun t T => rfl) rs vs h]
  simp only [Result.andThen_ok]
  match vs with
  | [] => rfl
  | [v] => rfl
  | v :: u :: r => simp [packed]
theorem post_retC {fn : Func} {Rr : Value → World → Prop} {n : Nat} {L : List (Nat × Value)} {rs : List ResultVar} (vs : List Value) (R : Rep a n L []) (hr : fn.results = rs.toArray) (h : resC P w L rs vs) (hR : Rr (packed vs) w) :
    bodyPost P fn (Rets Rr) .ret a w := ⟨R.2.1, packed vs, results_C R hr h, hR⟩
theorem post_endC {fn : Func} {Rr : Value → World → Prop} {n : Nat} {L : List (Nat × Value)} {rs : List ResultVar} (vs : List Value) (R : Rep a n L []) (hr : fn.results = rs.toArray) (h : resC P w L rs vs) (hR : Rr (packed vs) w) :
    bodyPost P fn (Rets Rr) .normal a w := ⟨R.2.1, packed vs, results_C R hr h, hR⟩
theorem lc1 {t : TypeId} {D : TypeDesc} (hu : P.underlying t = some D) (hD : nonAgg D = true) {ad : Addr} {v : Value} {L : List (Nat × Value)} {x : Nat} (hx : assoc L x = some (.pointer (some ad))) (hc : w.cell? ad = some v) :
    ∃ ad, assoc L x = some (.pointer (some ad)) ∧ (loadVar t ad).run P w = .ok v w := ⟨ad, hx, run_loadVar1 hu hD hc⟩
theorem lcN {t : TypeId} {D : TypeDesc} (hu : P.underlying t = some D) (hD : nonAgg D = false) {ad : Addr} {cs : List Value} {L : List (Nat × Value)} {x : Nat} (hx : assoc L x = some (.pointer (some ad))) (hz : (P.info? t).map (·.size) = some cs.length) (hc : cellsAt w ad 0 cs) :
    ∃ ad, assoc L x = some (.pointer (some ad)) ∧ (loadVar t ad).run P w = .ok (.agg cs.toArray) w := ⟨ad, hx, run_loadVarN hu hD hz hc⟩
end
end Go.Proofs.YtjnifnlkicajhaaDoor.Vc
