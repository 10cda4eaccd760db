/-
  A small verification layer over the walk's rules: a frame is known by a list of slots and values ('Rep'); each operation, call, loop and region has one rule; what a Go function needs of the world is written out as a plain predicate. No condition is put on any statement here.
-/
import Derived.WalkKit
import Derived.Orders
import Derived.OrdersHeld
namespace Go.Proofs.YtjnifnlkicajhaaDoor.Vc
open Go

/-! ### frames -/
def assoc : List (Nat × Value) → Nat → Option Value
  | [], _ => none
  | (s, v) :: r, t => bif Nat.beq s t then some v else assoc r t

def ev (L : List (Nat × Value)) : Operand → Option Value
  | .tmp t => assoc L t
  | .const v => some v
  | .global g => some (.pointer (some ⟨g, 0, none⟩))
  | .func f => some (.func (.func f) #[] #[])

/-- The frame has n slots, no others than these deferred calls, and holds what the list says. -/
def Rep (a : Act) (n : Nat) (L : List (Nat × Value)) (d : List Deferred) : Prop :=
  a.tmps.size = n ∧ a.defers = d ∧ ∀ t v, assoc L t = some v → a.tmps[t]? = some v

theorem Rep.ev {a : Act} {n : Nat} {L : List (Nat × Value)} {d : List Deferred} (R : Rep a n L d) {x : Operand} {v : Value} (h : Vc.ev L x = some v) : a.eval x = v := by
  cases x with
  | tmp t =>
    have := R.2.2 t v h
    simp [Act.eval, Array.getD_eq_getD_getElem?, this]
  | const u => simpa [Vc.ev, Act.eval] using h
  | global g => simpa [Vc.ev, Act.eval] using h
  | func f => simpa [Vc.ev, Act.eval] using h

theorem Rep.put {a : Act} {n : Nat} {L : List (Nat × Value)} {d : List Deferred} (R : Rep a n L d) (t : Nat) (v : Value) (ht' : Nat.blt t n = true) : Rep (a.put (some t) v) n ((t, v) :: L) d := by
  have ht : t < n := Nat.le_of_ble_eq_true ht'
  obtain ⟨h1, h2, h3⟩ := R
  refine ⟨by simp [Act.put, h1], h2, fun s u hs => ?_⟩
  simp only [assoc] at hs
  cases e : Nat.beq t s with
  | true =>
    have : t = s := Nat.eq_of_beq_eq_true e
    subst this
    simp only [e, cond_true, Option.some.injEq] at hs
    subst hs
    simp [Act.put, h1, ht]
  | false =>
    simp only [e, cond_false] at hs
    have hne : t ≠ s := by
      intro e'
      subst e'
      rw [Nat.beq_refl] at e
      exact Bool.noConfusion e
    have := h3 s u hs
    simp [Act.put, hne, this]

theorem Rep.put0 {a : Act} {n : Nat} {L : List (Nat × Value)} {d : List Deferred} (R : Rep a n L d) (v : Value) : Rep (a.put none v) n L d := R

def sub (L : List (Nat × Value)) : List (Nat × Value) → Prop
  | [] => True
  | (t, v) :: r => assoc L t = some v ∧ sub L r

theorem sub_assoc {L : List (Nat × Value)} : ∀ {L' : List (Nat × Value)}, sub L L' → ∀ t v, assoc L' t = some v → assoc L t = some v
  | [], _, t, v, h => by simp [assoc] at h
  | (s, u) :: r, h, t, v, ha => by
    simp only [assoc] at ha
    cases e : Nat.beq s t with
    | true =>
      have : s = t := Nat.eq_of_beq_eq_true e
      subst this
      simp only [e, cond_true, Option.some.injEq] at ha
      subst ha
      exact h.1
    | false =>
      simp only [e, cond_false] at ha
      exact sub_assoc h.2 t v ha

theorem Rep.weak {a : Act} {n : Nat} {L : List (Nat × Value)} {d : List Deferred} (R : Rep a n L d) {L' : List (Nat × Value)} (h : sub L L') : Rep a n L' d :=
  ⟨R.1, R.2.1, fun t v ht => R.2.2 t v (sub_assoc h t v ht)⟩

theorem Rep.start (args : List Value) (n : Nat) (hn : args.length ≤ n) {L : List (Nat × Value)} (h : ∀ t v, assoc L t = some v → args[t]? = some v) :
    Rep { tmps := args.toArray ++ Array.replicate (n - args.toArray.size) undef, defers := [] } n L [] := by
  refine ⟨by simp; omega, rfl, fun t v ht => ?_⟩
  have h1 := h t v ht
  have hlt : t < args.length := by
    rcases Nat.lt_or_ge t args.length with h | h
    · exact h
    · rw [List.getElem?_eq_none h] at h1; cases h1
  simp only
  rw [Array.getElem?_append_left (by simpa using hlt)]
  simpa using h1

def starts (args : List Value) : List (Nat × Value) → Prop
  | [] => True
  | (t, v) :: r => args[t]? = some v ∧ starts args r
theorem starts_assoc {args : List Value} : ∀ {L' : List (Nat × Value)}, starts args L' → ∀ t v, assoc L' t = some v → args[t]? = some v
  | [], _, t, v, h => by simp [assoc] at h
  | (s, u) :: r, h, t, v, ha => by
    simp only [assoc] at ha
    cases e : Nat.beq s t with
    | true =>
      have : s = t := Nat.eq_of_beq_eq_true e
      subst this
      simp only [e, cond_true, Option.some.injEq] at ha
      subst ha
      exact h.1
    | false =>
      simp only [e, cond_false] at ha
      exact starts_assoc h.2 t v ha

/-! ### one operation of a region whose order is fixed -/
section
variable {P : Program} {ops : Array Oper} {Q : Exit → Act → World → Prop} {rest : List Oper} {a : Act} {n : Nat} {L : List (Nat × Value)} {d : List Deferred} {w : World}
  {dst : Nat} {op : Op} {ty : TypeId} {pos : String} {after : Array Edge}

theorem yielded_rep (R : Rep a n L d) {j t : Nat} {o : Oper} {b : Bool} (ho : ops[j]? = some o) (hd : o.dst = some t) (hv : assoc L t = some (.bool b)) : yielded ops a.tmps j = some b := by
  have := R.2.2 t _ hv
  simp [yielded, ho, hd, this]

/-- an operation that yields a value -/
theorem op_val {v : Value} {w' : World} (R : Rep a n L d) (hr : (execOp a.eval ⟨some dst, op, ty, pos, after, none⟩).run P w = .ok (.value v) w') (hd : Nat.blt dst n = true)
    (k : ∀ a, Rep a n ((dst, v) :: L) d → wpList P ops Q rest a w') : wpList P ops Q (⟨some dst, op, ty, pos, after, none⟩ :: rest) a w := by
  refine wpList_plain rfl fun K hK => ?_
  unfold Oper.wp
  rw [hr]
  exact hK _ _ (k _ (R.put _ _ hd))

/-- an operation without a result -/
theorem op_unit {w' : World} (R : Rep a n L d) (hr : (execOp a.eval ⟨none, op, ty, pos, after, none⟩).run P w = .ok .skip w')
    (k : ∀ a, Rep a n L d → wpList P ops Q rest a w') : wpList P ops Q (⟨none, op, ty, pos, after, none⟩ :: rest) a w := by
  refine wpList_plain rfl fun K hK => ?_
  unfold Oper.wp
  rw [hr]
  exact hK _ _ (k _ R)

/-- a value whose result is not kept -/
theorem op_drop {v : Value} {w' : World} (R : Rep a n L d) (hr : (execOp a.eval ⟨none, op, ty, pos, after, none⟩).run P w = .ok (.value v) w')
    (k : ∀ a, Rep a n L d → wpList P ops Q rest a w') : wpList P ops Q (⟨none, op, ty, pos, after, none⟩ :: rest) a w := by
  refine wpList_plain rfl fun K hK => ?_
  unfold Oper.wp
  rw [hr]
  exact hK _ _ (k _ R)

/-- a guarded operation whose guard says yes: as if it had none -/
theorem op_guard {dst' : Option Nat} {j : Nat} {b b' : Bool} {t : Nat} {o : Oper} (R : Rep a n L d) (ho : ops[j]? = some o) (hd : o.dst = some t) (hv : assoc L t = some (.bool b')) (hb : b' = b)
    (k : wpList P ops Q (⟨dst', op, ty, pos, after, none⟩ :: rest) a w) : wpList P ops Q (⟨dst', op, ty, pos, after, some (j, b)⟩ :: rest) a w := by
  have hw : Region.wanted ⟨dst', op, ty, pos, after, some (j, b)⟩ (yielded ops a.tmps) = true := by
    simp [Region.wanted, yielded_rep R ho hd hv, hb]
  unfold wpList
  rw [if_pos hw]
  unfold wpList at k
  rw [if_pos (by simp [Region.wanted])] at k
  exact k

/-- a guarded operation whose guard says no -/
theorem op_pass {dst' : Option Nat} {j : Nat} {b b' : Bool} {t : Nat} {o : Oper} (R : Rep a n L d) (ho : ops[j]? = some o) (hd : o.dst = some t) (hv : assoc L t = some (.bool b')) (hb : b' ≠ b)
    (k : ∀ a, Rep a n (match dst' with | some s => (s, undef) :: L | none => L) d → wpList P ops Q rest a w) (hs : ∀ s, dst' = some s → Nat.blt s n = true) :
    wpList P ops Q (⟨dst', op, ty, pos, after, some (j, b)⟩ :: rest) a w := by
  have hw : Region.wanted ⟨dst', op, ty, pos, after, some (j, b)⟩ (yielded ops a.tmps) = false := by
    simp [Region.wanted, yielded_rep R ho hd hv, hb]
  refine wpList_skip hw ?_
  cases dst' with
  | none => exact k _ R
  | some s => exact k _ (R.put _ _ (hs s rfl))

/-- a guarded operation whose guard was itself passed over -/
theorem op_pass0 {dst' : Option Nat} {j : Nat} {b : Bool} {t : Nat} {o : Oper} (R : Rep a n L d) (ho : ops[j]? = some o) (hd : o.dst = some t) (hv : assoc L t = some undef)
    (k : ∀ a, Rep a n (match dst' with | some s => (s, undef) :: L | none => L) d → wpList P ops Q rest a w) (hs : ∀ s, dst' = some s → Nat.blt s n = true) :
    wpList P ops Q (⟨dst', op, ty, pos, after, some (j, b)⟩ :: rest) a w := by
  have h1 := R.2.2 t _ hv
  have hw : Region.wanted ⟨dst', op, ty, pos, after, some (j, b)⟩ (yielded ops a.tmps) = false := by
    simp [Region.wanted, yielded, ho, hd, h1, undef]
  refine wpList_skip hw ?_
  cases dst' with
  | none => exact k _ R
  | some s => exact k _ (R.put _ _ (hs s rfl))
end
end Go.Proofs.YtjnifnlkicajhaaDoor.Vc
