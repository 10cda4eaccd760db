/-
  Regions whose order is open: a head of operations of which those that only look are taken first, while a condition on the world is kept, and a tail whose order is fixed. No condition is put on any statement here.
-/
import Derived.Test.YtjnifnlkicajhaaDoorVcFlow
import Derived.StillTail
namespace Go.Proofs.YtjnifnlkicajhaaDoor.Vc
open Go

section
variable {P : Program} {ops : Array Oper} {Q : Exit → Act → World → Prop} {md : Region.Mode} {S : World → Prop} {n : Nat} {E : Array Bool → Act → World → Prop}

/-- Whatever of the head comes up: the condition holds behind it; behind the head, E. -/
def head (P : Program) (md : Region.Mode) (ops : Array Oper) (Q : Exit → Act → World → Prop) (S : World → Prop) (n : Nat) (E : Array Bool → Act → World → Prop) : Nat → Array Bool → Act → World → Prop
  | 0, listed, a, w => E listed a w
  | f + 1, listed, a, w =>
    Region.ready md ops listed ≠ [] ∧ ∀ i ∈ Region.ready md ops listed, i < n ∧ wpOp P ops Q i (fun a' w' => S w' ∧ head P md ops Q S n E f (listed.setIfInBounds i true) a' w') a w

theorem wpAny_of_headE {g : Nat} {Q' : Exit → Act → World → Prop} (hE : ∀ listed a w, E listed a w → wpAny P md ops Q' g listed a w) :
    ∀ (f : Nat) (listed : Array Bool) (a : Act) (w : World), head P md ops Q' S n E f listed a w → wpAny P md ops Q' (f + g) listed a w
  | 0, listed, a, w, h => by rw [Nat.zero_add]; exact hE _ _ _ h
  | f + 1, listed, a, w, h => by
    rw [show f + 1 + g = (f + g) + 1 by omega]
    exact ⟨fun h0 => absurd h0 h.1, fun i hi => wpOp_mono (fun a' w' h' => wpAny_of_headE hE f _ a' w' h'.2) (h.2 i hi).2⟩

/-- while the head is not through, nothing of the tail may come up -/
def Waits (md : Region.Mode) (ops : Array Oper) (n : Nat) : Prop :=
  ∀ listed, HeadInv md ops n listed → ∀ i, i < n → listed.getD i true = false → ∀ j ∈ Region.ready md ops listed, j < n

theorem waits_tail (hs : Region.sinkB md ops n = true) (hc : Region.chainB md ops n = true) (hn : n < ops.size) : Waits md ops n := by
  intro listed inv i hi hun j hj
  rcases Nat.lt_or_ge j n with h | h
  · exact h
  · exact absurd hj (tail_waits hs hc hn inv _ i rfl hi hun j h)
theorem waits_all (hn : n = ops.size) : Waits md ops n := by
  intro listed _ i _ _ j hj
  obtain ⟨_, oj, hoj, _⟩ := mem_ready.1 hj
  rw [hn]
  exact (Array.getElem?_eq_some_iff.1 hoj).1

theorem head_first {i : Nat} {oi : Oper} {v : Value} (hi : ops[i]? = some oi) (hsel : ∀ (j : Nat) (o : Oper) cs b, ops[j]? = some o → o.op ≠ .select cs b)
    (hQ : ∀ c a w, Q (.panic c) (a.put oi.dst v) w → Q (.panic c) a w) (hw : Waits md ops n) (hin : i < n)
    (hdone : ∀ listed a w, E listed a w → ∀ j ∈ Region.ready md ops listed, n ≤ j) :
    ∀ (f : Nat) (listed : Array Bool) (a : Act) (w : World), HeadInv md ops n listed →
      (∀ j oj, ops[j]? = some oj → j ≠ i → listed.getD j true = false → (∀ e ∈ oj.after, Region.binds md e = true → e.on ≠ i) → oi.apart ops oj = true) →
      i ∈ Region.ready md ops listed → YieldsIf P ops S oi v a → S w →
      head P md ops Q S n E f (listed.setIfInBounds i true) (a.put oi.dst v) w → head P md ops Q S n E (f + 1) listed a w := by
  intro f
  induction f with
  | zero =>
    intro listed a w inv _ hr hy hS H
    have hun := (mem_ready.1 hr).1
    refine ⟨fun h => (by rw [h] at hr; cases hr), fun j hj => ?_⟩
    have hjn := hw listed inv i hin hun j hj
    refine ⟨hjn, ?_⟩
    by_cases hji : j = i
    · subst hji; exact hy.wpOp hi hS ⟨hS, H⟩
    · have := hdone _ _ _ H j (ready_mono hj hji)
      omega
  | succ f ih =>
    intro listed a w inv hfree hr hy hS H
    have hun := (mem_ready.1 hr).1
    refine ⟨fun h => (by rw [h] at hr; cases hr), fun j hj => ?_⟩
    have hjn := hw listed inv i hin hun j hj
    refine ⟨hjn, ?_⟩
    by_cases hji : j = i
    · subst hji; exact hy.wpOp hi hS ⟨hS, H⟩
    · have h1 := (H.2 j (ready_mono hj hji)).2
      obtain ⟨hjun, oj, hoj, hall⟩ := mem_ready.1 hj
      have hnot : ∀ e ∈ oj.after, Region.binds md e = true → e.on ≠ i := fun e he hb heq => by
        have h1 := hall e he hb
        rw [heq, getD_both hun] at h1
        cases h1
      have h2 := wpOp_putIf hoj (hfree j oj hoj hji hjun hnot) (fun cs b => hsel i oi cs b hi) (fun cs b => hsel j oj cs b hoj) hQ hy h1
      have hfree' : ∀ k ok, ops[k]? = some ok → k ≠ i → (listed.setIfInBounds j true).getD k true = false →
          (∀ e ∈ ok.after, Region.binds md e = true → e.on ≠ i) → oi.apart ops ok = true := fun k ok hk hki hun' hno => by
        refine hfree k ok hk hki ?_ hno
        by_cases hjk : j = k
        · subst hjk; exact hjun
        · rw [getD_set_ne true hjk] at hun'; exact hun'
      refine wpOp_mono (fun a' w' h3 => ⟨h3.2.1, ih (listed.setIfInBounds j true) a' w' (inv.set hj hjn) hfree' (ready_mono hr (Ne.symm hji)) h3.1 h3.2.1 ?_⟩) h2
      rw [Array.setIfInBounds_comm _ _ hji]
      exact h3.2.2

/-- nothing else may come up -/
theorem head_one {i : Nat} {f : Nat} {listed : Array Bool} {a : Act} {w : World} (hr : Region.ready md ops listed = [i]) (hin : i < n)
    (h : wpOp P ops Q i (fun a' w' => S w' ∧ head P md ops Q S n E f (listed.setIfInBounds i true) a' w') a w) : head P md ops Q S n E (f + 1) listed a w := by
  refine ⟨by rw [hr]; simp, fun j hj => ?_⟩
  rw [hr] at hj
  have : j = i := by simpa using hj
  subst this
  exact ⟨hin, h⟩

/-- every later operation waits for one from n on -/
def domB (md : Region.Mode) (ops : Array Oper) (n : Nat) : Bool :=
  (List.range ops.size).all fun t => decide (t ≤ n) || (List.range t).any fun j => decide (n ≤ j) && Region.waitsFor md ops t j

theorem waits_dom (hs : Region.sinkB md ops n = true) (hc : domB md ops n = true) : Waits md ops n := by
  intro listed inv i hi hun t hr
  rcases Nat.lt_or_ge t n with h | h
  · exact h
  obtain ⟨_, ot, hot, hall⟩ := mem_ready.1 hr
  have htlt : t < ops.size := (Array.getElem?_eq_some_iff.1 hot).1
  exfalso
  rcases Nat.lt_or_ge n t with h1 | h1
  · have h2 := List.all_eq_true.1 hc t (List.mem_range.2 htlt)
    simp only [Bool.or_eq_true, decide_eq_true_eq] at h2
    rcases h2 with h2 | h2
    · omega
    · obtain ⟨j, hj, hj2⟩ := List.any_eq_true.1 h2
      simp only [Bool.and_eq_true, decide_eq_true_eq] at hj2
      have hjt := List.mem_range.1 hj
      obtain ⟨oj, hoj, e, he, hb, hon⟩ := Region.waitsFor_spec hj2.2
      have : oj = ot := Option.some.inj (hoj.symm.trans hot)
      subst this
      have h3 := hall e he hb
      rw [hon] at h3
      have h4 := inv.tail j hj2.1 (by omega)
      rw [getD_both h4] at h3
      cases h3
  · have : t = n := by omega
    subst this
    -- the last of the unlisted ones below t has something that waits for it
    have key : ∀ (d i : Nat), t - i = d → i < t → listed.getD i true = false → False := by
      intro d
      induction d using Nat.strongRecOn with
      | _ d ih =>
        intro i hd hi hun
        have h1 := List.all_eq_true.1 hs i (List.mem_range.2 hi)
        obtain ⟨j, hj, hj2⟩ := List.any_eq_true.1 h1
        simp only [Bool.and_eq_true, decide_eq_true_eq] at hj2
        obtain ⟨oj, hoj, e, he, hb, hon⟩ := Region.waitsFor_spec hj2.2
        have hjle : j ≤ t := by have := List.mem_range.1 hj; omega
        by_cases hjt : j = t
        · subst hjt
          have : oj = ot := Option.some.inj (hoj.symm.trans hot)
          subst this
          have h2 := hall e he hb
          rw [hon, getD_both hun] at h2
          cases h2
        · cases hl : listed.getD j false with
          | true =>
            have h2 := inv.closed j oj hoj hl e he hb
            rw [hon, getD_both hun] at h2
            cases h2
          | false =>
            have hjs : j < listed.size := by rw [inv.size]; omega
            exact ih (t - j) (by omega) j rfl (by omega) (getD_in hjs hl)
    exact key _ i rfl hi hun

/-- all below n are listed -/
def below (n : Nat) (listed : Array Bool) : Bool := (List.range n).all fun i => listed.getD i false
theorem below_ready {n : Nat} {listed : Array Bool} (h : below n listed = true) (j : Nat) (hj : j ∈ Region.ready md ops listed) : n ≤ j := by
  rcases Nat.lt_or_ge j n with h1 | h1
  · have h2 := List.all_eq_true.1 h j (List.mem_range.2 h1)
    have h3 := (mem_ready.1 hj).1
    rw [getD_both h3] at h2
    cases h2
  · exact h1

def segE (P : Program) (l : List Oper) (Q : Exit → Act → World → Prop) (n g : Nat) (listed : Array Bool) (a : Act) (w : World) : Prop :=
  below n listed = true ∧ wpAny P .any l.toArray Q g listed a w

theorem region_start {id : Nat} {a : Act} {w : World} {l : List Oper} (hm : P.follows .mixedOrders = true)
    (h : HeadInv .any l.toArray 0 (Array.replicate l.length false) → wpAny P .any l.toArray Q l.length (Array.replicate l.length false) a w.drew) : (Code.region id l.toArray true).wp P Q a w :=
  wp_region_any hm (h ⟨by simp, fun j oj _ hl => (by rw [getD_replicate_false] at hl; cases hl), fun t _ ht => getD_in (by simpa using ht) (getD_replicate_false _ _)⟩)

/-- no more is known of the listed ones than that they are closed -/
def invB (md : Region.Mode) (ops : Array Oper) (n : Nat) (listed : Array Bool) : Bool :=
  decide (listed.size = ops.size) && ((List.range ops.size).all fun j => !listed.getD j false || match ops[j]? with
    | some o => o.after.all fun e => !Region.binds md e || listed.getD e.on false
    | none => true) && (List.range ops.size).all fun t => decide (t < n) || !listed.getD t true
theorem invB_spec {n : Nat} {listed : Array Bool} (h : invB md ops n listed = true) : HeadInv md ops n listed := by
  simp only [invB, Bool.and_eq_true, decide_eq_true_eq] at h
  obtain ⟨⟨h1, h2⟩, h3⟩ := h
  refine ⟨h1, fun j oj hj hl e he hb => ?_, fun t ht hlt => ?_⟩
  · have hjlt : j < ops.size := (Array.getElem?_eq_some_iff.1 hj).1
    have h4 := List.all_eq_true.1 h2 j (List.mem_range.2 hjlt)
    rw [hl, hj] at h4
    simp only [Bool.not_true, Bool.false_or] at h4
    have h5 := Array.all_eq_true'.1 h4 e he
    simpa [hb] using h5
  · have h4 := List.all_eq_true.1 h3 t (List.mem_range.2 hlt)
    simp only [Bool.or_eq_true, decide_eq_true_eq, Bool.not_eq_true'] at h4
    rcases h4 with h4 | h4
    · omega
    · exact h4

/-- a segment whose operations leave the heap as it is -/
theorem seg_same {l : List Oper} {a : Act} {w : World} {listed : Array Bool} {f g n : Nat} (hi : invB .any l.toArray n listed = true)
    (h : HeadInv .any l.toArray n listed → head P .any l.toArray Q (fun w' => w'.heap = w.heap) n (segE P l Q n g) f listed a w) : wpAny P .any l.toArray Q (f + g) listed a w :=
  wpAny_of_headE (fun _ _ _ hE => hE.2) _ _ _ _ (h (invB_spec hi))
theorem seg_held {l : List Oper} {a : Act} {w : World} {listed : Array Bool} {f g n : Nat} (S : World → Prop) (hi : invB .any l.toArray n listed = true)
    (h : HeadInv .any l.toArray n listed → head P .any l.toArray Q S n (segE P l Q n g) f listed a w) : wpAny P .any l.toArray Q (f + g) listed a w :=
  wpAny_of_headE (fun _ _ _ hE => hE.2) _ _ _ _ (h (invB_spec hi))
theorem seg_end {l : List Oper} {a : Act} {w : World} {listed : Array Bool} {g n : Nat} {S : World → Prop} (hb : below n listed = true) (h : wpAny P .any l.toArray Q g listed a w) : head P .any l.toArray Q S n (segE P l Q n g) 0 listed a w := ⟨hb, h⟩
theorem any_tail {l : List Oper} {a : Act} {w : World} {listed : Array Bool} (n : Nat) (hB : Region.seqB .any l.toArray (l.drop n).length n listed = true) (h : wpList P l.toArray Q (l.drop n) a w) : wpAny P .any l.toArray Q (l.drop n).length listed a w :=
  wpAny_of_seq (md := .any) (Q' := Q) (l.drop n) n listed a w (fun j => by simp [List.getElem?_drop]) hB h
theorem any_done {l : List Oper} {a : Act} {w : World} {listed : Array Bool} (f : Nat) (hr : Region.ready .any l.toArray listed = []) (h : Q .normal a w) : wpAny P .any l.toArray Q f listed a w := wpAny_done hr h f
theorem cell_heap {w w' : World} (h : w'.heap = w.heap) {a : Addr} : w'.cell? a = w.cell? a := by simp [World.cell?, h]
theorem cell_heap' {w w' : World} {a : Addr} {v : Value} (h : w'.heap = w.heap) (hc : w.cell? a = some v) : w'.cell? a = some v := (cell_heap h).trans hc
theorem cells_heap {w w' : World} {a : Addr} (h : w'.heap = w.heap) : ∀ {cs : List Value} {i : Nat}, cellsAt w a i cs → cellsAt w' a i cs
  | [], _, _ => trivial
  | _ :: _, _, hc => ⟨cell_heap' h hc.1, cells_heap h hc.2⟩
end

section
variable {P : Program} {l : List Oper} {Q : Exit → Act → World → Prop} {S : World → Prop} {n m : Nat} {a : Act} {L : List (Nat × Value)} {d : List Deferred} {w : World} {f g : Nat} {listed : Array Bool}
  {i dst : Nat} {op : Op} {ty : TypeId} {pos : String} {after : Array Edge}

theorem dr_yield {v : Value} {gd : Option (Nat × Bool)} {odst : Option Nat} (R : Rep a m L d) (hW : Waits .any l.toArray n) (hsel : Region.noSelect l.toArray = true) (inv : HeadInv .any l.toArray n listed)
    (hi : l.toArray[i]? = some ⟨odst, op, ty, pos, after, gd⟩) (hin : i < n) (hf : Region.free .any l.toArray listed i = true) (hrd : (Region.ready .any l.toArray listed).contains i = true)
    (hQ : ∀ c a w, Q (.panic c) (a.put odst v) w → Q (.panic c) a w)
    (hy : YieldsIf P l.toArray S ⟨odst, op, ty, pos, after, gd⟩ v a) (hS : S w)
    (k : HeadInv .any l.toArray n (listed.setIfInBounds i true) → head P .any l.toArray Q S n (segE P l Q n g) f (listed.setIfInBounds i true) (a.put odst v) w) :
    head P .any l.toArray Q S n (segE P l Q n g) (f + 1) listed a w := by
  have hr : i ∈ Region.ready .any l.toArray listed := by simpa using hrd
  have _ := R
  exact head_first hi (Region.noSelect_spec hsel) hQ hW hin (fun listed _ _ hE => below_ready hE.1) f listed a w inv (Region.free_spec hi hf) hr hy hS (k (inv.set hr hin))

/-- an operation without a guard, or whose guard says yes -/
theorem dr_val {v : Value} {gd : Option (Nat × Bool)} (R : Rep a m L d) (hW : Waits .any l.toArray n) (hsel : Region.noSelect l.toArray = true) (inv : HeadInv .any l.toArray n listed)
    (hi : l.toArray[i]? = some ⟨some dst, op, ty, pos, after, gd⟩) (hin : i < n) (hf : Region.free .any l.toArray listed i = true) (hrd : (Region.ready .any l.toArray listed).contains i = true)
    (hQ : ∀ c a w, Q (.panic c) (a.put (some dst) v) w → Q (.panic c) a w)
    (hwt : Region.wanted ⟨some dst, op, ty, pos, after, gd⟩ (yielded l.toArray a.tmps) = true) (hv : ∀ w, S w → (execOp a.eval ⟨some dst, op, ty, pos, after, gd⟩).run P w = .ok (.value v) w) (hS : S w) (hd : Nat.blt dst m = true)
    (k : HeadInv .any l.toArray n (listed.setIfInBounds i true) → ∀ a, Rep a m ((dst, v) :: L) d → head P .any l.toArray Q S n (segE P l Q n g) f (listed.setIfInBounds i true) a w) :
    head P .any l.toArray Q S n (segE P l Q n g) (f + 1) listed a w :=
  dr_yield R hW hsel inv hi hin hf hrd hQ (.inl ⟨hwt, hv⟩) hS fun inv' => k inv' _ (R.put _ _ hd)

/-- an operation whose guard says no -/
theorem dr_pass {j : Nat} {b : Bool} (R : Rep a m L d) (hW : Waits .any l.toArray n) (hsel : Region.noSelect l.toArray = true) (inv : HeadInv .any l.toArray n listed)
    (hi : l.toArray[i]? = some ⟨some dst, op, ty, pos, after, some (j, b)⟩) (hin : i < n) (hf : Region.free .any l.toArray listed i = true) (hrd : (Region.ready .any l.toArray listed).contains i = true)
    (hQ : ∀ c a w, Q (.panic c) (a.put (some dst) undef) w → Q (.panic c) a w)
    (hwt : Region.wanted ⟨some dst, op, ty, pos, after, some (j, b)⟩ (yielded l.toArray a.tmps) = false) (hS : S w) (hd : Nat.blt dst m = true)
    (k : HeadInv .any l.toArray n (listed.setIfInBounds i true) → ∀ a, Rep a m ((dst, undef) :: L) d → head P .any l.toArray Q S n (segE P l Q n g) f (listed.setIfInBounds i true) a w) :
    head P .any l.toArray Q S n (segE P l Q n g) (f + 1) listed a w :=
  dr_yield R hW hsel inv hi hin hf hrd hQ (.inr ⟨hwt, rfl⟩) hS fun inv' => k inv' _ (R.put _ _ hd)

theorem wanted_none {dst' : Option Nat} {y : Nat → Option Bool} : Region.wanted ⟨dst', op, ty, pos, after, none⟩ y = true := by simp [Region.wanted]
theorem wanted_yes {dst' : Option Nat} {j t : Nat} {b b' : Bool} {o : Oper} {ops : Array Oper} (R : Rep a m L d) (ho : ops[j]? = some o) (hd : o.dst = some t) (hv : assoc L t = some (.bool b')) (hb : b' = b) : Region.wanted ⟨dst', op, ty, pos, after, some (j, b)⟩ (yielded ops a.tmps) = true := by
  simp [Region.wanted, yielded_rep R ho hd hv, hb]
theorem wanted_no {dst' : Option Nat} {j t : Nat} {b b' : Bool} {o : Oper} {ops : Array Oper} (R : Rep a m L d) (ho : ops[j]? = some o) (hd : o.dst = some t) (hv : assoc L t = some (.bool b')) (hb : b' ≠ b) : Region.wanted ⟨dst', op, ty, pos, after, some (j, b)⟩ (yielded ops a.tmps) = false := by
  simp [Region.wanted, yielded_rep R ho hd hv, hb]
theorem wanted_no0 {dst' : Option Nat} {j t : Nat} {b : Bool} {o : Oper} {ops : Array Oper} (R : Rep a m L d) (ho : ops[j]? = some o) (hd : o.dst = some t) (hv : assoc L t = some undef) : Region.wanted ⟨dst', op, ty, pos, after, some (j, b)⟩ (yielded ops a.tmps) = false := by
  have h1 := R.2.2 t _ hv
  simp [Region.wanted, yielded, ho, hd, h1, undef]

/-- the one operation that may come up: a call -/
theorem dr_call {fn : FuncId} {args : Array Value} {w1 : World} {gd : Option (Nat × Bool)} (R : Rep a m L d) (inv : HeadInv .any l.toArray n listed) (hi : l.toArray[i]? = some ⟨some dst, op, ty, pos, after, gd⟩) (hin : i < n)
    (hrd : Region.ready .any l.toArray listed = [i]) (hwt : Region.wanted ⟨some dst, op, ty, pos, after, gd⟩ (yielded l.toArray a.tmps) = true)
    (hr : (execOp a.eval ⟨some dst, op, ty, pos, after, gd⟩).run P w = .ok (.enter fn args) w1) (hd : Nat.blt dst m = true)
    (hc : Calls P fn args w1 (Rets fun v w' => S w' ∧ ∀ a, HeadInv .any l.toArray n (listed.setIfInBounds i true) → Rep a m ((dst, v) :: L) d → head P .any l.toArray Q S n (segE P l Q n g) f (listed.setIfInBounds i true) a w')) :
    head P .any l.toArray Q S n (segE P l Q n g) (f + 1) listed a w := by
  refine head_one hrd hin ?_
  have hri : i ∈ Region.ready .any l.toArray listed := by rw [hrd]; simp
  unfold wpOp
  simp only [hi, hwt, if_true]
  refine .inl ?_
  unfold Oper.wp
  rw [hr]
  refine hc.mono fun en w' hr => ?_
  cases en with
  | returned v => exact ⟨hr.1, hr.2 _ (inv.set hri hin) (R.put _ _ hd)⟩
  | panicked ch => exact hr.elim
  | outgrown => exact hr.elim
/-- the one operation that may come up: one that yields a value and another world -/
theorem dr_run {v : Value} {w1 : World} {gd : Option (Nat × Bool)} (R : Rep a m L d) (inv : HeadInv .any l.toArray n listed) (hi : l.toArray[i]? = some ⟨some dst, op, ty, pos, after, gd⟩) (hin : i < n)
    (hrd : Region.ready .any l.toArray listed = [i]) (hwt : Region.wanted ⟨some dst, op, ty, pos, after, gd⟩ (yielded l.toArray a.tmps) = true)
    (hr : (execOp a.eval ⟨some dst, op, ty, pos, after, gd⟩).run P w = .ok (.value v) w1) (hS : S w1) (hd : Nat.blt dst m = true)
    (k : HeadInv .any l.toArray n (listed.setIfInBounds i true) → ∀ a, Rep a m ((dst, v) :: L) d → head P .any l.toArray Q S n (segE P l Q n g) f (listed.setIfInBounds i true) a w1) :
    head P .any l.toArray Q S n (segE P l Q n g) (f + 1) listed a w := by
  refine head_one hrd hin ?_
  have hri : i ∈ Region.ready .any l.toArray listed := by rw [hrd]; simp
  unfold wpOp
  simp only [hi, hwt, if_true]
  refine .inl ?_
  unfold Oper.wp
  rw [hr]
  exact ⟨hS, k (inv.set hri hin) _ (R.put _ _ hd)⟩
/-- between segments: the one operation that may come up -/
theorem any_val {v : Value} {w1 : World} {gd : Option (Nat × Bool)} (R : Rep a m L d) (hi : l.toArray[i]? = some ⟨some dst, op, ty, pos, after, gd⟩)
    (hrd : Region.ready .any l.toArray listed = [i]) (hwt : Region.wanted ⟨some dst, op, ty, pos, after, gd⟩ (yielded l.toArray a.tmps) = true)
    (hr : (execOp a.eval ⟨some dst, op, ty, pos, after, gd⟩).run P w = .ok (.value v) w1) (hd : Nat.blt dst m = true)
    (k : ∀ a, Rep a m ((dst, v) :: L) d → wpAny P .any l.toArray Q f (listed.setIfInBounds i true) a w1) : wpAny P .any l.toArray Q (f + 1) listed a w := by
  refine ⟨fun h0 => (by rw [hrd] at h0; cases h0), fun j hj => ?_⟩
  rw [hrd] at hj
  have : j = i := by simpa using hj
  subst this
  unfold wpOp
  simp only [hi, hwt, if_true]
  refine .inl ?_
  unfold Oper.wp
  rw [hr]
  exact k _ (R.put _ _ hd)
theorem any_unit {w1 : World} {gd : Option (Nat × Bool)} (R : Rep a m L d) (hi : l.toArray[i]? = some ⟨none, op, ty, pos, after, gd⟩)
    (hrd : Region.ready .any l.toArray listed = [i]) (hwt : Region.wanted ⟨none, op, ty, pos, after, gd⟩ (yielded l.toArray a.tmps) = true)
    (hr : (execOp a.eval ⟨none, op, ty, pos, after, gd⟩).run P w = .ok .skip w1)
    (k : ∀ a, Rep a m L d → wpAny P .any l.toArray Q f (listed.setIfInBounds i true) a w1) : wpAny P .any l.toArray Q (f + 1) listed a w := by
  refine ⟨fun h0 => (by rw [hrd] at h0; cases h0), fun j hj => ?_⟩
  rw [hrd] at hj
  have : j = i := by simpa using hj
  subst this
  unfold wpOp
  simp only [hi, hwt, if_true]
  refine .inl ?_
  unfold Oper.wp
  rw [hr]
  exact k _ R
theorem any_call {fn : FuncId} {args : Array Value} {w1 : World} {gd : Option (Nat × Bool)} (R : Rep a m L d) (hi : l.toArray[i]? = some ⟨some dst, op, ty, pos, after, gd⟩)
    (hrd : Region.ready .any l.toArray listed = [i]) (hwt : Region.wanted ⟨some dst, op, ty, pos, after, gd⟩ (yielded l.toArray a.tmps) = true)
    (hr : (execOp a.eval ⟨some dst, op, ty, pos, after, gd⟩).run P w = .ok (.enter fn args) w1) (hd : Nat.blt dst m = true)
    (hc : Calls P fn args w1 (Rets fun v w' => ∀ a, Rep a m ((dst, v) :: L) d → wpAny P .any l.toArray Q f (listed.setIfInBounds i true) a w')) : wpAny P .any l.toArray Q (f + 1) listed a w := by
  refine ⟨fun h0 => (by rw [hrd] at h0; cases h0), fun j hj => ?_⟩
  rw [hrd] at hj
  have : j = i := by simpa using hj
  subst this
  unfold wpOp
  simp only [hi, hwt, if_true]
  refine .inl ?_
  unfold Oper.wp
  rw [hr]
  refine hc.mono fun en w' hr => ?_
  cases en with
  | returned v => exact hr _ (R.put _ _ hd)
  | panicked ch => exact hr.elim
  | outgrown => exact hr.elim
/-- the one that may come up, and its guard says no -/
theorem any_pass {j : Nat} {b : Bool} (R : Rep a m L d) (hi : l.toArray[i]? = some ⟨some dst, op, ty, pos, after, some (j, b)⟩)
    (hrd : Region.ready .any l.toArray listed = [i]) (hwt : Region.wanted ⟨some dst, op, ty, pos, after, some (j, b)⟩ (yielded l.toArray a.tmps) = false) (hd : Nat.blt dst m = true)
    (k : ∀ a, Rep a m ((dst, undef) :: L) d → wpAny P .any l.toArray Q f (listed.setIfInBounds i true) a w) : wpAny P .any l.toArray Q (f + 1) listed a w := by
  refine ⟨fun h0 => (by rw [hrd] at h0; cases h0), fun j hj => ?_⟩
  rw [hrd] at hj
  have : j = i := by simpa using hj
  subst this
  unfold wpOp
  simp only [hi, hwt, Bool.false_eq_true, if_false]
  exact k _ (R.put _ _ hd)
/-- one that may come up -/
def one (P : Program) (l : List Oper) (Q : Exit → Act → World → Prop) (S : World → Prop) (n g f : Nat) (listed : Array Bool) (a : Act) (w : World) (i : Nat) : Prop :=
  wpOp P l.toArray Q i (fun a' w' => S w' ∧ head P .any l.toArray Q S n (segE P l Q n g) f (listed.setIfInBounds i true) a' w') a w
def allOf (K : Nat → Prop) : List Nat → Prop
  | [] => True
  | i :: r => K i ∧ allOf K r
theorem allOf_mem {K : Nat → Prop} : ∀ {is : List Nat}, allOf K is → ∀ i ∈ is, K i
  | _ :: _, h, i, hi => by
    rcases List.mem_cons.1 hi with rfl | hi
    · exact h.1
    · exact allOf_mem h.2 i hi
/-- several may come up -/
theorem head_alt (is : List Nat) (hrd : Region.ready .any l.toArray listed = is) (hne : is ≠ []) (hin : ∀ i ∈ is, i < n) (h : allOf (one P l Q S n g f listed a w) is) : head P .any l.toArray Q S n (segE P l Q n g) (f + 1) listed a w := by
  refine ⟨by rw [hrd]; exact hne, fun j hj => ?_⟩
  rw [hrd] at hj
  exact ⟨hin j hj, allOf_mem h j hj⟩
theorem one_call {fn : FuncId} {args : Array Value} {w1 : World} {gd : Option (Nat × Bool)} (R : Rep a m L d) (inv : HeadInv .any l.toArray n listed) (hi : l.toArray[i]? = some ⟨some dst, op, ty, pos, after, gd⟩) (hin : i < n)
    (hrd : (Region.ready .any l.toArray listed).contains i = true) (hwt : Region.wanted ⟨some dst, op, ty, pos, after, gd⟩ (yielded l.toArray a.tmps) = true)
    (hr : (execOp a.eval ⟨some dst, op, ty, pos, after, gd⟩).run P w = .ok (.enter fn args) w1) (hd : Nat.blt dst m = true)
    (hc : Calls P fn args w1 (Rets fun v w' => S w' ∧ ∀ a, HeadInv .any l.toArray n (listed.setIfInBounds i true) → Rep a m ((dst, v) :: L) d → head P .any l.toArray Q S n (segE P l Q n g) f (listed.setIfInBounds i true) a w')) :
    one P l Q S n g f listed a w i := by
  have hri : i ∈ Region.ready .any l.toArray listed := by simpa using hrd
  unfold one wpOp
  simp only [hi, hwt, if_true]
  refine .inl ?_
  unfold Oper.wp
  rw [hr]
  refine hc.mono fun en w' hr => ?_
  cases en with
  | returned v => exact ⟨hr.1, hr.2 _ (inv.set hri hin) (R.put _ _ hd)⟩
  | panicked ch => exact hr.elim
  | outgrown => exact hr.elim
theorem one_run {v : Value} {w1 : World} {gd : Option (Nat × Bool)} (R : Rep a m L d) (inv : HeadInv .any l.toArray n listed) (hi : l.toArray[i]? = some ⟨some dst, op, ty, pos, after, gd⟩) (hin : i < n)
    (hrd : (Region.ready .any l.toArray listed).contains i = true) (hwt : Region.wanted ⟨some dst, op, ty, pos, after, gd⟩ (yielded l.toArray a.tmps) = true)
    (hr : (execOp a.eval ⟨some dst, op, ty, pos, after, gd⟩).run P w = .ok (.value v) w1) (hS : S w1) (hd : Nat.blt dst m = true)
    (k : HeadInv .any l.toArray n (listed.setIfInBounds i true) → ∀ a, Rep a m ((dst, v) :: L) d → head P .any l.toArray Q S n (segE P l Q n g) f (listed.setIfInBounds i true) a w1) :
    one P l Q S n g f listed a w i := by
  have hri : i ∈ Region.ready .any l.toArray listed := by simpa using hrd
  unfold one wpOp
  simp only [hi, hwt, if_true]
  refine .inl ?_
  unfold Oper.wp
  rw [hr]
  exact ⟨hS, k (inv.set hri hin) _ (R.put _ _ hd)⟩
theorem one_unit {w1 : World} {gd : Option (Nat × Bool)} (R : Rep a m L d) (inv : HeadInv .any l.toArray n listed) (hi : l.toArray[i]? = some ⟨none, op, ty, pos, after, gd⟩) (hin : i < n)
    (hrd : (Region.ready .any l.toArray listed).contains i = true) (hwt : Region.wanted ⟨none, op, ty, pos, after, gd⟩ (yielded l.toArray a.tmps) = true)
    (hr : (execOp a.eval ⟨none, op, ty, pos, after, gd⟩).run P w = .ok .skip w1) (hS : S w1)
    (k : HeadInv .any l.toArray n (listed.setIfInBounds i true) → ∀ a, Rep a m L d → head P .any l.toArray Q S n (segE P l Q n g) f (listed.setIfInBounds i true) a w1) :
    one P l Q S n g f listed a w i := by
  have hri : i ∈ Region.ready .any l.toArray listed := by simpa using hrd
  unfold one wpOp
  simp only [hi, hwt, if_true]
  refine .inl ?_
  unfold Oper.wp
  rw [hr]
  exact ⟨hS, k (inv.set hri hin) _ R⟩
end
end Go.Proofs.YtjnifnlkicajhaaDoor.Vc
