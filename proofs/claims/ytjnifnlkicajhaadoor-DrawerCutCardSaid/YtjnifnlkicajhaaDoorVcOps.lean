/-
  The rules of the single operations, for frames that are known by a list. Each says what the operation asks of the world and what it leaves. No condition is put on any statement here.
-/
import Derived.Test.YtjnifnlkicajhaaDoorVc
namespace Go.Proofs.YtjnifnlkicajhaaDoor.Vc
open Go

/-- A slice's value. -/
structure Sl where
  p : Option Addr
  len : Nat
  cap : Nat
def Sl.val (s : Sl) : Value := .slice s.p s.len s.cap
@[simp] theorem Sl.val_mk (p : Option Addr) (l c : Nat) : Sl.val ⟨p, l, c⟩ = .slice p l c := rfl

def nonAgg : TypeDesc → Bool
  | .struct _ | .array _ _ => false
  | _ => true

/-- cells that lie one behind the other -/
def cellsAt (w : World) (a : Addr) : Nat → List Value → Prop
  | _, [] => True
  | i, v :: r => w.cell? (a.add i) = some v ∧ cellsAt w a (i + 1) r

/-- may be written, one behind the other -/
def writable (w : World) (a : Addr) (i n : Nat) : Prop := ∀ j, j < n → (∃ v, w.cell? (a.add (i + j)) = some v) ∧ w.frozen? (a.add (i + j)) = false
def setCells (w : World) (a : Addr) : Nat → List Value → World
  | _, [] => w
  | i, v :: r => setCells (w.setCell (a.add i) v) a (i + 1) r

section
variable {P : Program} {w : World}

theorem run_loadCells {a : Addr} : ∀ (cs : List Value) (i : Nat) (acc : Array Value), cellsAt w a i cs → (loadCellsFrom a i cs.length acc).run P w = .ok (acc ++ cs.toArray) w
  | [], i, acc, _ => by simp [loadCellsFrom]
  | v :: r, i, acc, h => by
    have ih := run_loadCells r (i + 1) (acc.push v) h.2
    simp only [List.length_cons, loadCellsFrom]
    have h1 : (load (a.add i)).run P w = .ok v w := by simp [load, Sem.run, h.1]
    simp only [Sem.run_bind, h1, Result.andThen, ih]
    simp

theorem run_loadVar1 {t : TypeId} {D : TypeDesc} (hu : P.underlying t = some D) (hD : nonAgg D = true) {a : Addr} {v : Value} (hc : w.cell? a = some v) : (loadVar t a).run P w = .ok v w := by
  cases D <;> simp [nonAgg] at hD <;> simp [loadVar, isAgg, run_underlying hu, load, Sem.run, hc]

theorem size_info {t : TypeId} {k : Nat} (h : (P.info? t).map (·.size) = some k) : ∃ i, P.info? t = some i ∧ i.size = k := by
  cases e : P.info? t with
  | none => rw [e] at h; cases h
  | some i => rw [e] at h; exact ⟨i, rfl, Option.some.inj h⟩

theorem run_loadVarN {t : TypeId} {D : TypeDesc} (hu : P.underlying t = some D) (hD : nonAgg D = false) {a : Addr} {cs : List Value} (hz : (P.info? t).map (·.size) = some cs.length)
    (hc : cellsAt w a 0 cs) : (loadVar t a).run P w = .ok (.agg cs.toArray) w := by
  obtain ⟨i, hi, hs⟩ := size_info hz
  have h := run_loadCells (P := P) cs 0 #[] hc
  cases D <;> simp [nonAgg] at hD <;> simp [loadVar, isAgg, run_underlying hu, sizeOf, typeInfo, hi, hs, loadCells, h]

theorem run_store1 {a : Addr} {v : Value} (h1 : v.oneCell' = true) (hc : (w.cell? a).isSome = true) (hf : w.frozen? a = false) : (store a v).run P w = .ok () (w.setCell a v) := by
  obtain ⟨u, hu⟩ := Option.isSome_iff_exists.1 hc
  cases v <;> simp [Value.oneCell'] at h1 <;> simp [store, Sem.run, hu, hf]

theorem writable.tail {a : Addr} {i n : Nat} (h : writable w a i (n + 1)) (v : Value) : writable (w.setCell (a.add i) v) a (i + 1) n := by
  intro j hj
  obtain ⟨⟨u, hu⟩, hf⟩ := h (j + 1) (by omega)
  have e : i + 1 + j = i + (j + 1) := by omega
  rw [e]
  refine ⟨?_, by simpa using hf⟩
  by_cases hq : a.add (i + (j + 1)) = a.add i
  · rw [hq] at hu ⊢
    exact ⟨v, World.cell?_setCell_same w _ v hu⟩
  · exact ⟨u, by rw [World.cell?_setCell_other _ _ _ _ (Ne.symm hq)]; exact hu⟩

theorem run_storeCells {a : Addr} : ∀ (vs : List Value) (i : Nat) (w : World), (∀ v ∈ vs, v.oneCell' = true) → writable w a i vs.length → (storeCells a vs i).run P w = .ok () (setCells w a i vs)
  | [], i, w, _, _ => by simp [storeCells, setCells]
  | v :: r, i, w, h1, hw => by
    have h0 := hw 0 (by simp)
    simp only [Nat.add_zero] at h0
    have hs := run_store1 (P := P) (w := w) (a := a.add i) (v := v) (h1 v (by simp)) (by obtain ⟨⟨u, hu⟩, _⟩ := h0; simp [hu]) h0.2
    have ih := run_storeCells r (i + 1) (w.setCell (a.add i) v) (fun u hu => h1 u (by simp [hu])) (hw.tail v)
    simp only [storeCells, Sem.run_bind, hs, Result.andThen, ih, setCells]
end

def byteAt (s : ByteArray) (i : Int) : Int := ((s.data.getD i.toNat 0).toNat : Int)
def cutSl (s : Sl) (sz l h m : Nat) : Sl := ⟨if m = l then s.p else s.p.map (·.add (l * sz)), h - l, m - l⟩
def evl (L : List (Nat × Value)) : List Operand → Option (List Value)
  | [] => some []
  | x :: r => match ev L x, evl L r with
    | some v, some vs => some (v :: vs)
    | _, _ => none

theorem Rep.evl {a : Act} {n : Nat} {L : List (Nat × Value)} {d : List Deferred} (R : Rep a n L d) : ∀ {xs : List Operand} {vs : List Value}, Vc.evl L xs = some vs → xs.map a.eval = vs
  | [], vs, h => by simp [Vc.evl] at h; simp [h]
  | x :: r, vs, h => by
    unfold Vc.evl at h
    split at h
    · rename_i v us h1 h2
      simp only [Option.some.injEq] at h
      subst h
      simp [R.ev h1, R.evl h2]
    · cases h
theorem Rep.eva {a : Act} {n : Nat} {L : List (Nat × Value)} {d : List Deferred} (R : Rep a n L d) {xs : List Operand} {vs : List Value} (h : Vc.evl L xs = some vs) : xs.toArray.map a.eval = vs.toArray := by
  simp [R.evl h]

section
variable {P : Program} {ops : Array Oper} {Q : Exit → Act → World → Prop} {rest : List Oper} {a : Act} {n : Nat} {L : List (Nat × Value)} {d : List Deferred} {w : World}
  {dst : Option Nat} {ty : TypeId} {pos : String} {after : Array Edge} {gd : Option (Nat × Bool)}

theorem rn_mv {x : Operand} {v : Value} (R : Rep a n L d) (hx : ev L x = some v) :
    (execOp a.eval ⟨dst, .move x, ty, pos, after, gd⟩).run P w = .ok (.value v) w := by simp [execOp, R.ev hx]
theorem rn_as {x : Operand} {v : Value} (R : Rep a n L d) (hx : ev L x = some v) :
    (execOp a.eval ⟨dst, .assign x, ty, pos, after, gd⟩).run P w = .ok (.value v) w := by simp [execOp, R.ev hx]
theorem rn_pickT {c x y : Operand} {v : Value} {b : Bool} (R : Rep a n L d) (hc : ev L c = some (.bool b)) (hb : b = true) (hx : ev L x = some v) :
    (execOp a.eval ⟨dst, .pick c x y, ty, pos, after, gd⟩).run P w = .ok (.value v) w := by simp [execOp, R.ev hc, R.ev hx, asBool, hb]
theorem rn_pickF {c x y : Operand} {v : Value} {b : Bool} (R : Rep a n L d) (hc : ev L c = some (.bool b)) (hb : b = false) (hy : ev L y = some v) :
    (execOp a.eval ⟨dst, .pick c x y, ty, pos, after, gd⟩).run P w = .ok (.value v) w := by simp [execOp, R.ev hc, R.ev hy, asBool, hb]
theorem rn_ld {t : TypeId} {D : TypeDesc} {x : Operand} {ad : Addr} {v : Value} (R : Rep a n L d) (hx : ev L x = some (.pointer (some ad))) (hu : P.underlying t = some D) (hD : nonAgg D = true)
    (hc : w.cell? ad = some v) :
    (execOp a.eval ⟨dst, .load t x, ty, pos, after, gd⟩).run P w = .ok (.value v) w := by simp [execOp, R.ev hx, Instr.loadAt, Instr.sureAddr, run_loadVar1 hu hD hc]
theorem rn_ldN {t : TypeId} {D : TypeDesc} {x : Operand} {ad : Addr} {cs : List Value} (R : Rep a n L d) (hx : ev L x = some (.pointer (some ad))) (hu : P.underlying t = some D) (hD : nonAgg D = false)
    (hz : (P.info? t).map (·.size) = some cs.length) (hc : cellsAt w ad 0 cs) :
    (execOp a.eval ⟨dst, .load t x, ty, pos, after, gd⟩).run P w = .ok (.value (.agg cs.toArray)) w := by simp [execOp, R.ev hx, Instr.loadAt, Instr.sureAddr, run_loadVarN hu hD hz hc]
theorem rn_st {t : TypeId} {x y : Operand} {ad : Addr} {v : Value} (R : Rep a n L d) (hx : ev L x = some (.pointer (some ad))) (hy : ev L y = some v) (h1 : v.oneCell' = true)
    (hz : (P.info? t).map (·.size) = some 1) (hc : (w.cell? ad).isSome = true) (hf : w.frozen? ad = false) :
    (execOp a.eval ⟨dst, .store t x y, ty, pos, after, gd⟩).run P w = .ok (.skip) (w.setCell ad v) := by
  obtain ⟨i, hi, hs⟩ := size_info hz
  have hv1 : v.cells = #[v] := by cases v <;> simp [Value.oneCell'] at h1 <;> rfl
  have h := run_store1 (P := P) h1 hc hf
  simp [execOp, R.ev hx, R.ev hy, Instr.storeAt, Instr.sureAddr, storeVar, hv1, sizeOf, typeInfo, hi, hs, storeCells, h, Addr.add_zero']
theorem rn_stN {t : TypeId} {x y : Operand} {ad : Addr} {vs : List Value} (R : Rep a n L d) (hx : ev L x = some (.pointer (some ad))) (hy : ev L y = some (.agg vs.toArray)) (h1 : ∀ v ∈ vs, v.oneCell' = true)
    (hz : (P.info? t).map (·.size) = some vs.length) (hw : writable w ad 0 vs.length) :
    (execOp a.eval ⟨dst, .store t x y, ty, pos, after, gd⟩).run P w = .ok (.skip) (setCells w ad 0 vs) := by
  obtain ⟨i, hi, hs⟩ := size_info hz
  have h := run_storeCells (P := P) vs 0 w h1 hw
  simp [execOp, R.ev hx, R.ev hy, Instr.storeAt, Instr.sureAddr, storeVar, Value.cells, sizeOf, typeInfo, hi, hs, h]
theorem rn_nil {x : Operand} {ad : Addr} {p : Option Addr} (R : Rep a n L d) (hx : ev L x = some (.pointer p)) (hp : p = some ad) :
    (execOp a.eval ⟨dst, .nilCheck x, ty, pos, after, gd⟩).run P w = .ok (.value (.pointer (some ad))) w := by simp [execOp, R.ev hx, hp]
theorem rn_nilF {x : Operand} {f : FuncId} {c e : Array Value} (R : Rep a n L d) (hx : ev L x = some (.func (.func f) c e)) :
    (execOp a.eval ⟨dst, .nilCheck x, ty, pos, after, gd⟩).run P w = .ok (.value (.func (.func f) c e)) w := by simp [execOp, R.ev hx]
theorem rn_fld {s : TypeId} {f off : Nat} {x : Operand} {ad : Addr} (R : Rep a n L d) (hx : ev L x = some (.pointer (some ad))) (hf : ∀ (ad : Addr) (w : World), (Instr.fieldAt s (.pointer (some ad)) f).run P w = .ok (.pointer (some (ad.add off))) w) :
    (execOp a.eval ⟨dst, .fieldAddr s x f, ty, pos, after, gd⟩).run P w = .ok (.value (.pointer (some (ad.add off)))) w := by simp [execOp, R.ev hx, hf]
theorem rn_ixs {t e : TypeId} {x y : Operand} {ad : Addr} {len cap : Nat} {kd : IntKind} {j : Int} {sz : Nat} {p : Option Addr} (R : Rep a n L d) (hx : ev L x = some (.slice p len cap)) (hp : p = some ad) (hy : ev L y = some (.int kd j))
    (hu : P.underlying t = some (.slice e)) (hz : (P.info? e).map (·.size) = some sz) (h0 : 0 ≤ j) (h1 : j < len) :
    (execOp a.eval ⟨dst, .indexAddr t x y, ty, pos, after, gd⟩).run P w = .ok (.value (.pointer (some (ad.add (j.toNat * sz))))) w := by
  obtain ⟨i, hi, hs⟩ := size_info hz
  simp [execOp, R.ev hx, hp, R.ev hy, Instr.indexAt, asIntOf, run_underlying hu, h0, h1, sizeOf, typeInfo, hi, hs]
theorem rn_ixa {t e : TypeId} {x y : Operand} {ad : Addr} {len : Nat} {kd : IntKind} {j : Int} {sz : Nat} (R : Rep a n L d) (hx : ev L x = some (.pointer (some ad))) (hy : ev L y = some (.int kd j))
    (hu : P.underlying t = some (.array len e)) (hz : (P.info? e).map (·.size) = some sz) (h0 : 0 ≤ j) (h1 : j < len) :
    (execOp a.eval ⟨dst, .indexAddr t x y, ty, pos, after, gd⟩).run P w = .ok (.value (.pointer (some (ad.add (j.toNat * sz))))) w := by
  obtain ⟨i, hi, hs⟩ := size_info hz
  simp [execOp, R.ev hx, R.ev hy, Instr.indexAt, Instr.sureAddr, asIntOf, run_underlying hu, h0, h1, sizeOf, typeInfo, hi, hs]
theorem rn_ixS {t : TypeId} {x y : Operand} {s : ByteArray} {kd : IntKind} {j : Int} (R : Rep a n L d) (hx : ev L x = some (.string s)) (hy : ev L y = some (.int kd j))
    (hu : P.underlying t = some .string) (h0 : 0 ≤ j) (h1 : j < s.size) :
    (execOp a.eval ⟨dst, .index t x y, ty, pos, after, gd⟩).run P w = .ok (.value (.int .u8 (byteAt s j))) w := by
  have hlt : j.toNat < s.size := by omega
  have hlt' : j.toNat < s.data.size := hlt
  have e : s[j.toNat]? = some (s.data.getD j.toNat 0) := by
    rw [getElem?_pos s j.toNat hlt]
    have e2 : s.data.getD j.toNat 0 = s.data[j.toNat] := by rw [Array.getD_eq_getD_getElem?, Array.getElem?_eq_getElem hlt']; rfl
    rw [e2]
    rfl
  simp [execOp, R.ev hx, R.ev hy, Instr.index, asIntOf, run_underlying hu, h0, e, byteAt]
theorem rn_bin {b : BinOp} {t u : TypeId} {x y : Operand} {k1 k2 : IntKind} {i j : Int} {v : Value} (R : Rep a n L d) (hx : ev L x = some (.int k1 i)) (hy : ev L y = some (.int k2 j)) (hr : binOp b t (.int k1 i) (.int k2 j) = pure v) :
    (execOp a.eval ⟨dst, .binOp b t x y u, ty, pos, after, gd⟩).run P w = .ok (.value v) w := by simp [execOp, R.ev hx, R.ev hy, eqGuard_at_int, hr]
theorem rn_binS {b : BinOp} {t u : TypeId} {x y : Operand} {i j : ByteArray} {v : Value} (R : Rep a n L d) (hx : ev L x = some (.string i)) (hy : ev L y = some (.string j)) (hr : Op.stringOp b i j = pure v) :
    (execOp a.eval ⟨dst, .binOp b t x y u, ty, pos, after, gd⟩).run P w = .ok (.value v) w := by
  have e : binOp b t (.string i) (.string j) = Op.stringOp b i j := by cases b <;> rfl
  simp [execOp, R.ev hx, R.ev hy, eqGuard_at_string, e, hr]
/-- any other comparison: as the machine reckons it -/
theorem rn_binR {b : BinOp} {t u : TypeId} {x y : Operand} {i j : Value} {v : Value} {w' : World} (R : Rep a n L d) (hx : ev L x = some i) (hy : ev L y = some j) (hg : (eqGuard b t x y i j).run P w = .ok () w) (hr : (binOp b t i j).run P w = .ok v w') :
    (execOp a.eval ⟨dst, .binOp b t x y u, ty, pos, after, gd⟩).run P w = .ok (.value v) w' := by
  simp [execOp, R.ev hx, R.ev hy, hg, hr]
theorem eqIn_ptr {t e : TypeId} (k : Nat) (p : Option Addr) (hu : P.underlying t = some (.pointer e)) : (Op.equalIn (k + 1) t (.pointer p) (.pointer none)).run P w = .ok p.isNone w := by
  cases p <;> simp [Op.equalIn, run_underlying hu]
theorem eqIn_sl {t e : TypeId} (k : Nat) (p : Option Addr) (l c : Nat) (hu : P.underlying t = some (.slice e)) : (Op.equalIn (k + 1) t (.slice p l c) (.slice none 0 0)).run P w = .ok p.isNone w := by
  cases p <;> simp [Op.equalIn, run_underlying hu]
theorem eqIn_map {t e f : TypeId} (k : Nat) (p : Option Nat) (hu : P.underlying t = some (.map e f)) : (Op.equalIn (k + 1) t (.map p) (.map none)).run P w = .ok p.isNone w := by
  cases p <;> simp [Op.equalIn, run_underlying hu]
theorem eqIn_bool {t : TypeId} (k : Nat) (p q : Bool) (hu : P.underlying t = some .bool) : (Op.equalIn (k + 1) t (.bool p) (.bool q)).run P w = .ok (p == q) w := by
  simp [Op.equalIn, run_underlying hu]
theorem rn_nilPE {t u e : TypeId} {x y : Operand} {p : Option Addr} (R : Rep a n L d) (hx : ev L x = some (.pointer p)) (hy : ev L y = some (.pointer none)) (hu : P.underlying t = some (.pointer e)) :
    (execOp a.eval ⟨dst, .binOp .eql t x y u, ty, pos, after, gd⟩).run P w = .ok (.value (.bool (Option.isNone p))) w := by
  have h := eqIn_ptr (P := P) (w := w) 9999 p hu
  have e1 : ∀ u v, Op.equal t u v = Op.equalIn (9999 + 1) t u v := fun _ _ => rfl
  simp only [execOp, R.ev hx, R.ev hy, eqGuard_at_pointer, binOp, e1]
  simp [h]
theorem rn_nilPN {t u e : TypeId} {x y : Operand} {p : Option Addr} (R : Rep a n L d) (hx : ev L x = some (.pointer p)) (hy : ev L y = some (.pointer none)) (hu : P.underlying t = some (.pointer e)) :
    (execOp a.eval ⟨dst, .binOp .neq t x y u, ty, pos, after, gd⟩).run P w = .ok (.value (.bool (!(Option.isNone p)))) w := by
  have h := eqIn_ptr (P := P) (w := w) 9999 p hu
  have e1 : ∀ u v, Op.equal t u v = Op.equalIn (9999 + 1) t u v := fun _ _ => rfl
  simp only [execOp, R.ev hx, R.ev hy, eqGuard_at_pointer, binOp, e1]
  simp [h]
theorem rn_nilSE {t u e : TypeId} {x y : Operand} {p : Option Addr} {l c : Nat} (R : Rep a n L d) (hx : ev L x = some (.slice p l c)) (hy : ev L y = some (.slice none 0 0)) (hu : P.underlying t = some (.slice e)) :
    (execOp a.eval ⟨dst, .binOp .eql t x y u, ty, pos, after, gd⟩).run P w = .ok (.value (.bool (Option.isNone p))) w := by
  have h := eqIn_sl (P := P) (w := w) 9999 p l c hu
  have e1 : ∀ u v, Op.equal t u v = Op.equalIn (9999 + 1) t u v := fun _ _ => rfl
  simp only [execOp, R.ev hx, R.ev hy, eqGuard_at_slice, binOp, e1]
  simp [h]
theorem rn_nilSN {t u e : TypeId} {x y : Operand} {p : Option Addr} {l c : Nat} (R : Rep a n L d) (hx : ev L x = some (.slice p l c)) (hy : ev L y = some (.slice none 0 0)) (hu : P.underlying t = some (.slice e)) :
    (execOp a.eval ⟨dst, .binOp .neq t x y u, ty, pos, after, gd⟩).run P w = .ok (.value (.bool (!(Option.isNone p)))) w := by
  have h := eqIn_sl (P := P) (w := w) 9999 p l c hu
  have e1 : ∀ u v, Op.equal t u v = Op.equalIn (9999 + 1) t u v := fun _ _ => rfl
  simp only [execOp, R.ev hx, R.ev hy, eqGuard_at_slice, binOp, e1]
  simp [h]
theorem rn_nilME {t u e f : TypeId} {x y : Operand} {p : Option Nat} (R : Rep a n L d) (hx : ev L x = some (.map p)) (hy : ev L y = some (.map none)) (hu : P.underlying t = some (.map e f)) :
    (execOp a.eval ⟨dst, .binOp .eql t x y u, ty, pos, after, gd⟩).run P w = .ok (.value (.bool (Option.isNone p))) w := by
  have h := eqIn_map (P := P) (w := w) 9999 p hu
  have e1 : ∀ u v, Op.equal t u v = Op.equalIn (9999 + 1) t u v := fun _ _ => rfl
  simp only [execOp, R.ev hx, R.ev hy, eqGuard_at_map, binOp, e1]
  simp [h]
theorem rn_boolE {t u : TypeId} {x y : Operand} {p q : Bool} (R : Rep a n L d) (hx : ev L x = some (.bool p)) (hy : ev L y = some (.bool q)) (hu : P.underlying t = some .bool) :
    (execOp a.eval ⟨dst, .binOp .eql t x y u, ty, pos, after, gd⟩).run P w = .ok (.value (.bool (p == q))) w := by
  have h := eqIn_bool (P := P) (w := w) 9999 p q hu
  have e1 : ∀ u v, Op.equal t u v = Op.equalIn (9999 + 1) t u v := fun _ _ => rfl
  simp only [execOp, R.ev hx, R.ev hy, eqGuard_at_bool, binOp, e1]
  simp [h]
theorem rn_boolN {t u : TypeId} {x y : Operand} {p q : Bool} (R : Rep a n L d) (hx : ev L x = some (.bool p)) (hy : ev L y = some (.bool q)) (hu : P.underlying t = some .bool) :
    (execOp a.eval ⟨dst, .binOp .neq t x y u, ty, pos, after, gd⟩).run P w = .ok (.value (.bool (p != q))) w := by
  have h := eqIn_bool (P := P) (w := w) 9999 p q hu
  have e1 : ∀ u v, Op.equal t u v = Op.equalIn (9999 + 1) t u v := fun _ _ => rfl
  simp only [execOp, R.ev hx, R.ev hy, eqGuard_at_bool, binOp, e1]
  simp [h, bne]
theorem rn_loadR {t : TypeId} {x : Operand} {u r : Value} {w' : World} (R : Rep a n L d) (hx : ev L x = some u) (hr : (Instr.loadAt t u).run P w = .ok r w') :
    (execOp a.eval ⟨dst, .load t x, ty, pos, after, gd⟩).run P w = .ok (.value r) w' := by simp [execOp, R.ev hx, hr]
theorem rn_entry {x : Operand} {u r : Value} {w' : World} (R : Rep a n L d) (hx : ev L x = some u) (hr : (Instr.entry u).run P w = .ok r w') :
    (execOp a.eval ⟨dst, .entry x, ty, pos, after, gd⟩).run P w = .ok (.value r) w' := by simp [execOp, R.ev hx, hr]
theorem rn_un {b : UnOp} {t : TypeId} {x : Operand} {u v : Value} (R : Rep a n L d) (hx : ev L x = some u) (hr : Op.unary b u = pure v) :
    (execOp a.eval ⟨dst, .unOp b t x, ty, pos, after, gd⟩).run P w = .ok (.value v) w := by simp [execOp, R.ev hx, hr]
theorem rn_cvI {s t : TypeId} {x : Operand} {k1 k2 : IntKind} {i : Int} {D : TypeDesc} (R : Rep a n L d) (hx : ev L x = some (.int k1 i)) (hs : P.underlying s = some D) (ht : P.underlying t = some (.int k2)) :
    (execOp a.eval ⟨dst, .convert s t x, ty, pos, after, gd⟩).run P w = .ok (.value (.int k2 (k2.wrap i))) w := by simp [execOp, R.ev hx, convert, run_underlying hs, run_underlying ht, Conv.intToInt]
theorem rn_al {t : TypeId} {z : Value} (R : Rep a n L d) (hz : ∀ w, (zeroValue t).run P w = .ok z w) :
    (execOp a.eval ⟨dst, .alloc t, ty, pos, after, gd⟩).run P w = .ok (.value (.pointer (some ⟨w.heap.size, 0, none⟩))) (w.alloc (.cells z.cells t)) := by simp [execOp, Instr.alloc, hz, newVar, newRow]
theorem rn_bx {t : TypeId} {x : Operand} {v : Value} (R : Rep a n L d) (hx : ev L x = some v) :
    (execOp a.eval ⟨dst, .box t x, ty, pos, after, gd⟩).run P w = .ok (.value (.pointer (some ⟨w.heap.size, 0, none⟩))) (w.alloc (.cells v.cells t)) := by simp [execOp, R.ev hx, Instr.box, newVar, newRow]
theorem rn_mapM {t : TypeId} (R : Rep a n L d) :
    (execOp a.eval ⟨dst, .makeMap t none, ty, pos, after, gd⟩).run P w = .ok (.value (.map (some w.heap.size))) (w.alloc (.map #[] 0)) := by simp [execOp, Instr.makeMap]
theorem rn_fn {f : Fn} {xs ys : List Operand} {us vs : List Value} (R : Rep a n L d) (hx : evl L xs = some us) (hy : evl L ys = some vs) :
    (execOp a.eval ⟨dst, .makeFunc f xs.toArray ys.toArray, ty, pos, after, gd⟩).run P w = .ok (.value (.func f us.toArray vs.toArray)) w := by simp only [execOp, R.eva hx, R.eva hy, Instr.makeFunc]; rfl
theorem rn_ext {x : Operand} {i : Nat} {vs : Array Value} {v : Value} (R : Rep a n L d) (hx : ev L x = some (.tuple vs)) (hv : vs[i]? = some v) :
    (execOp a.eval ⟨dst, .extract x i, ty, pos, after, gd⟩).run P w = .ok (.value v) w := by simp [execOp, R.ev hx, Instr.extract, hv]
theorem rn_len {t r : TypeId} {x : Operand} {p : Option Addr} {l c : Nat} (R : Rep a n L d) (hx : ev L x = some (.slice p l c)) (hu : P.underlying t = some (.slice r)) :
    (execOp a.eval ⟨dst, .call ⟨.builtin .len, #[x], #[t]⟩, ty, pos, after, gd⟩).run P w = .ok (.value (.int .i64 (l : Int))) w := by simp [execOp, resolve, invoke, builtin, R.ev hx, Builtin.len_, run_underlying hu, goInt]
theorem rn_lenS {t : TypeId} {x : Operand} {s : ByteArray} (R : Rep a n L d) (hx : ev L x = some (.string s)) (hu : P.underlying t = some .string) :
    (execOp a.eval ⟨dst, .call ⟨.builtin .len, #[x], #[t]⟩, ty, pos, after, gd⟩).run P w = .ok (.value (.int .i64 (s.size : Int))) w := by simp [execOp, resolve, invoke, builtin, R.ev hx, Builtin.len_, run_underlying hu, goInt]
theorem rn_min {k1 : IntKind} {ts : Array TypeId} {x y : Operand} {i j : Int} (R : Rep a n L d) (hx : ev L x = some (.int k1 i)) (hy : ev L y = some (.int k1 j)) :
    (execOp a.eval ⟨dst, .call ⟨.builtin .min, #[x, y], ts⟩, ty, pos, after, gd⟩).run P w = .ok (.value (.int k1 (if j < i then j else i))) w := by simp [execOp, resolve, invoke, builtin, R.ev hx, R.ev hy, Builtin.min_, Builtin.min2]
theorem rn_max {k1 : IntKind} {ts : Array TypeId} {x y : Operand} {i j : Int} (R : Rep a n L d) (hx : ev L x = some (.int k1 i)) (hy : ev L y = some (.int k1 j)) :
    (execOp a.eval ⟨dst, .call ⟨.builtin .max, #[x, y], ts⟩, ty, pos, after, gd⟩).run P w = .ok (.value (.int k1 (if j > i then j else i))) w := by simp [execOp, resolve, invoke, builtin, R.ev hx, R.ev hy, Builtin.max_, Builtin.max2]
/-- a builtin as the machine reckons it: append, copy, delete, len of a map -/
theorem rn_bi {b : Builtin} {ts : Array TypeId} {xs : List Operand} {vs : List Value} {v : Value} {w' : World} (R : Rep a n L d) (hx : evl L xs = some vs) {s : Sem Value}
    (hb : ∀ c, builtin b ts ty c vs.toArray = (do pure (.value (← s)))) (hr : s.run P w = .ok v w') :
    (execOp a.eval ⟨dst, .call ⟨.builtin b, xs.toArray, ts⟩, ty, pos, after, gd⟩).run P w = .ok (.value v) w' := by simp only [execOp, resolve, R.eva hx, pure_bind, invoke, hb]; simp [hr]
theorem rn_bi0 {b : Builtin} {ts : Array TypeId} {xs : List Operand} {vs : List Value} {v : Value} {w' : World} (R : Rep a n L d) (hx : evl L xs = some vs) {s : Sem Value}
    (hb : ∀ c, builtin b ts ty c vs.toArray = (do pure (.value (← s)))) (hr : s.run P w = .ok v w') :
    (execOp a.eval ⟨dst, .call ⟨.builtin b, xs.toArray, ts⟩, ty, pos, after, gd⟩).run P w = .ok (.value v) w' := by simp only [execOp, resolve, R.eva hx, pure_bind, invoke, hb]; simp [hr]
theorem rn_df {x : Operand} {ts : Array TypeId} {xs : List Operand} {vs : List Value} {f : FuncId} {c e : Array Value} (R : Rep a n L d) (hx : ev L x = some (.func (.func f) c e)) (hv : evl L xs = some vs) :
    (execOp a.eval ⟨dst, .defer ⟨.value x, xs.toArray, ts⟩, ty, pos, after, gd⟩).run P w = .ok (.defer ⟨.fn (.func f) e, c ++ vs.toArray⟩) w := by
  simp only [execOp, resolve, R.eva hv, R.ev hx, Deferred.ofValue]; rfl
theorem rn_call {x : Operand} {ts : Array TypeId} {xs : List Operand} {vs : List Value} {f : FuncId} {c e : Array Value} (R : Rep a n L d) (hx : ev L x = some (.func (.func f) c e)) (hv : evl L xs = some vs)
    (hf : ∀ args w, (callFunc f args).run P w = .ok (.enter f args) w) :
    (execOp a.eval ⟨dst, .call ⟨.value x, xs.toArray, ts⟩, ty, pos, after, gd⟩).run P w = .ok (.enter f (c ++ vs.toArray ++ e)) w := by
  simp only [execOp, resolve, R.eva hv, R.ev hx, Deferred.ofValue, pure_bind, invoke, hf]
theorem rn_lookup {t : TypeId} {x y : Operand} {u v r : Value} {b : Bool} {w' : World} (R : Rep a n L d) (hx : ev L x = some u) (hy : ev L y = some v) (hr : (Instr.lookup t u v b).run P w = .ok r w') :
    (execOp a.eval ⟨dst, .lookup t x y b, ty, pos, after, gd⟩).run P w = .ok (.value r) w' := by simp [execOp, R.ev hx, R.ev hy, hr]
theorem rn_mapUpdate {t : TypeId} {x y z : Operand} {u v q : Value} {w' : World} (R : Rep a n L d) (hx : ev L x = some u) (hy : ev L y = some v) (hz : ev L z = some q) (hr : (Instr.mapUpdate t u v q).run P w = .ok () w') :
    (execOp a.eval ⟨dst, .mapUpdate t x y z, ty, pos, after, gd⟩).run P w = .ok .skip w' := by simp [execOp, R.ev hx, R.ev hy, R.ev hz, hr]
theorem rn_insert {t : TypeId} {x y z : Operand} {u v q : Value} {w' : World} (R : Rep a n L d) (hx : ev L x = some u) (hy : ev L y = some v) (hz : ev L z = some q) (hr : (Instr.mapUpdate t u v q).run P w = .ok () w') :
    (execOp a.eval ⟨dst, .insert t x y z, ty, pos, after, gd⟩).run P w = .ok .skip w' := by simp [execOp, R.ev hx, R.ev hy, R.ev hz, hr]
theorem rn_range {t : TypeId} {x : Operand} {u r : Value} {w' : World} (R : Rep a n L d) (hx : ev L x = some u) (hr : (Instr.range t u).run P w = .ok r w') :
    (execOp a.eval ⟨dst, .range t x, ty, pos, after, gd⟩).run P w = .ok (.value r) w' := by simp [execOp, R.ev hx, hr]
theorem rn_next {x : Operand} {u r : Value} {b : Bool} {w' : World} (R : Rep a n L d) (hx : ev L x = some u) (hr : (Instr.next u b ty).run P w = .ok r w') :
    (execOp a.eval ⟨dst, .next x b, ty, pos, after, gd⟩).run P w = .ok (.value r) w' := by simp [execOp, R.ev hx, hr]
theorem rn_makeSlice {t : TypeId} {x y : Operand} {u v r : Value} {w' : World} (R : Rep a n L d) (hx : ev L x = some u) (hy : ev L y = some v) (hr : (Instr.makeSlice t u v).run P w = .ok r w') :
    (execOp a.eval ⟨dst, .makeSlice t x y, ty, pos, after, gd⟩).run P w = .ok (.value r) w' := by simp [execOp, R.ev hx, R.ev hy, hr]
theorem rn_convert {s t : TypeId} {x : Operand} {u r : Value} {w' : World} (R : Rep a n L d) (hx : ev L x = some u) (hr : (convert s t u).run P w = .ok r w') :
    (execOp a.eval ⟨dst, .convert s t x, ty, pos, after, gd⟩).run P w = .ok (.value r) w' := by simp [execOp, R.ev hx, hr]
theorem rn_iface {t : TypeId} {x : Operand} {u r : Value} (R : Rep a n L d) (hx : ev L x = some u) (hr : ∀ w, (Instr.makeInterface t u).run P w = .ok r w) :
    (execOp a.eval ⟨dst, .makeInterface t x, ty, pos, after, gd⟩).run P w = .ok (.value r) w := by simp [execOp, R.ev hx, hr]
theorem rn_typeAssert {s t : TypeId} {x : Operand} {b : Bool} {u r : Value} {w' : World} (R : Rep a n L d) (hx : ev L x = some u) (hr : (Instr.typeAssert u s t b).run P w = .ok r w') :
    (execOp a.eval ⟨dst, .typeAssert x s t b, ty, pos, after, gd⟩).run P w = .ok (.value r) w' := by simp [execOp, R.ev hx, hr]
theorem rn_field {t : TypeId} {x : Operand} {i : Nat} {u r : Value} (R : Rep a n L d) (hx : ev L x = some u) (hr : ∀ w, (Instr.field t u i).run P w = .ok r w) :
    (execOp a.eval ⟨dst, .field t x i, ty, pos, after, gd⟩).run P w = .ok (.value r) w := by simp [execOp, R.ev hx, hr]
theorem rn_indexR {t : TypeId} {x y : Operand} {u v r : Value} {w' : World} (R : Rep a n L d) (hx : ev L x = some u) (hy : ev L y = some v) (hr : (Instr.index t u v).run P w = .ok r w') :
    (execOp a.eval ⟨dst, .index t x y, ty, pos, after, gd⟩).run P w = .ok (.value r) w' := by simp [execOp, R.ev hx, R.ev hy, hr]
/-- parts of a literal -/
def evp (L : List (Nat × Value)) : List (Nat × Operand) → Option (List (Nat × Value))
  | [] => some []
  | (i, x) :: r => match ev L x, evp L r with
    | some v, some vs => some ((i, v) :: vs)
    | _, _ => none
theorem Rep.evp {a : Act} {n : Nat} {L : List (Nat × Value)} {d : List Deferred} (R : Rep a n L d) : ∀ {xs : List (Nat × Operand)} {vs : List (Nat × Value)}, Vc.evp L xs = some vs → xs.map (fun (i, x) => (i, a.eval x)) = vs
  | [], vs, h => by simp [Vc.evp] at h; simp [h]
  | (i, x) :: r, vs, h => by
    unfold Vc.evp at h
    split at h
    · rename_i v us h1 h2
      simp only [Option.some.injEq] at h
      subst h
      simp [R.ev h1, R.evp h2]
    · cases h
theorem rn_build {t : TypeId} {xs : List (Nat × Operand)} {vs : List (Nat × Value)} {r : Value} (R : Rep a n L d) (hx : evp L xs = some vs) (hr : ∀ w, (Instr.build t vs.toArray).run P w = .ok r w) :
    (execOp a.eval ⟨dst, .build t xs.toArray, ty, pos, after, gd⟩).run P w = .ok (.value r) w := by
  have e : (xs.toArray.map fun (i, x) => (i, a.eval x)) = vs.toArray := by simp only [List.map_toArray]; exact congrArg _ (R.evp hx)
  simp only [execOp, e]
  simp [hr]
theorem rn_buildSlice {t : TypeId} {len : Nat} {xs : List (Nat × Operand)} {vs : List (Nat × Value)} {e : TypeId} {cells : Array Value} (R : Rep a n L d) (hx : evp L xs = some vs) (hr : ∀ w, (Instr.buildSlice t len vs.toArray).run P w = .ok (.slice (some ⟨w.heap.size, 0, none⟩) len len) (w.alloc (.cells cells e))) :
    (execOp a.eval ⟨dst, .buildSlice t len xs.toArray, ty, pos, after, gd⟩).run P w = .ok (.value (.slice (some ⟨w.heap.size, 0, none⟩) len len)) (w.alloc (.cells cells e)) := by
  have e : (xs.toArray.map fun (i, x) => (i, a.eval x)) = vs.toArray := by simp only [List.map_toArray]; exact congrArg _ (R.evp hx)
  simp only [execOp, e]
  simp [hr]
theorem rn_slS {t : TypeId} {x : Operand} {lo hi : Option Operand} {s : ByteArray} {l h : Nat} {vl vh : Option Value} (R : Rep a n L d) (hx : ev L x = some (.string s)) (hl : lo.map a.eval = vl) (hh : hi.map a.eval = vh)
    (hr : ∀ w, (Instr.sliceBounds false s.size s.size vl vh none).run P w = .ok (l, h, s.size) w) (hu : P.underlying t = some .string) :
    (execOp a.eval ⟨dst, .slice t x lo hi none, ty, pos, after, gd⟩).run P w = .ok (.value (.string (s.extract l h))) w := by
  simp [execOp, R.ev hx, hl, hh, Instr.sliceAt, Instr.slice, run_underlying hu, hr]
/-- a slice is cut: the bounds in their numbers -/
theorem rn_sl {t e : TypeId} {x : Operand} {lo hi mx : Option Operand} {p : Option Addr} {len cap l h m sz : Nat} {vl vh vm : Option Value} (R : Rep a n L d) (hx : ev L x = some (.slice p len cap)) (hl : lo.map a.eval = vl) (hh : hi.map a.eval = vh) (hm : mx.map a.eval = vm)
    (hr : ∀ w, (Instr.sliceBounds true len cap vl vh vm).run P w = .ok (l, h, m) w) (hu : P.underlying t = some (.slice e)) (hz : (P.info? e).map (·.size) = some sz) :
    (execOp a.eval ⟨dst, .slice t x lo hi mx, ty, pos, after, gd⟩).run P w = .ok (.value (cutSl ⟨p, len, cap⟩ sz l h m).val) w := by
  obtain ⟨i, hi', hs⟩ := size_info hz
  simp [execOp, R.ev hx, hl, hh, hm, Instr.sliceAt, Instr.slice, run_underlying hu, hr, sizeOf, typeInfo, hi', hs, cutSl, Sl.val]
theorem evo {x : Operand} {v : Value} (R : Rep a n L d) (hx : ev L x = some v) : (some x).map a.eval = some v := by simp [R.ev hx]
end

theorem run_sliceBound {P : Program} {k : IntKind} {j : Int} {y : Nat} {c : BoundsCode} (h0 : 0 ≤ j) (h1 : j ≤ y) (w : World) : (Instr.sliceBound (.int k j) y c).run P w = .ok j.toNat w := by
  simp [Instr.sliceBound, asIntOf, h0, h1]
/-- x[lo:hi], either left out -/
theorem bounds2 {P : Program} {b : Bool} {len cap : Nat} {lo hi : Option (IntKind × Int)} (l h : Nat) (hh : match hi with | some x => 0 ≤ x.2 ∧ x.2 ≤ cap ∧ h = x.2.toNat | none => h = len) (hl : match lo with | some x => 0 ≤ x.2 ∧ x.2 ≤ h ∧ l = x.2.toNat | none => l = 0) (w : World) :
    (Instr.sliceBounds b len cap (lo.map fun x => .int x.1 x.2) (hi.map fun x => .int x.1 x.2) none).run P w = .ok (l, h, cap) w := by
  cases hi with
  | none =>
    subst hh
    cases lo with
    | none => subst hl; cases b <;> simp [Instr.sliceBounds]
    | some x => obtain ⟨h0, h1, rfl⟩ := hl; cases b <;> simp [Instr.sliceBounds, run_sliceBound h0 h1]
  | some y =>
    obtain ⟨g0, g1, rfl⟩ := hh
    cases lo with
    | none => subst hl; cases b <;> simp [Instr.sliceBounds, run_sliceBound g0 g1]
    | some x => obtain ⟨h0, h1, rfl⟩ := hl; cases b <;> simp [Instr.sliceBounds, run_sliceBound h0 h1, run_sliceBound g0 g1]
/-- x[lo:hi:max] -/
theorem bounds3 {P : Program} {b : Bool} {len cap : Nat} {k1 k2 : IntKind} {hi mx : Int} (m0 : 0 ≤ mx) (m1 : mx ≤ cap) (h0 : 0 ≤ hi) (h1 : hi ≤ mx) (w : World) :
    (Instr.sliceBounds b len cap none (some (.int k1 hi)) (some (.int k2 mx))).run P w = .ok (0, hi.toNat, mx.toNat) w := by
  have e : hi ≤ (mx.toNat : Int) := by omega
  cases b <;> simp [Instr.sliceBounds, run_sliceBound m0 m1, run_sliceBound h0 e]

section
variable {P : Program} {ops : Array Oper} {Q : Exit → Act → World → Prop} {rest : List Oper} {a : Act} {n : Nat} {L : List (Nat × Value)} {d : List Deferred} {w : World}
  {dst : Nat} {op : Op} {ty : TypeId} {pos : String} {after : Array Edge}
theorem op_defer {D : Deferred} (R : Rep a n L d) (hr : (execOp a.eval ⟨none, op, ty, pos, after, none⟩).run P w = .ok (.defer D) w) (k : ∀ a, Rep a n L (D :: d) → wpList P ops Q rest a w) :
    wpList P ops Q (⟨none, op, ty, pos, after, none⟩ :: rest) a w := by
  refine wpList_plain rfl fun K hK => ?_
  unfold Oper.wp
  rw [hr]
  exact hK _ _ (k _ ⟨R.1, by simp [Act.put, R.2.1], R.2.2⟩)

/-- what a call must come to -/
def Rets (R : Value → World → Prop) : Ending → World → Prop
  | .returned v, w => R v w
  | _, _ => False

theorem op_call {f : FuncId} {args : Array Value} {w1 : World} (R : Rep a n L d) (hr : (execOp a.eval ⟨some dst, op, ty, pos, after, none⟩).run P w = .ok (.enter f args) w1) (hd : Nat.blt dst n = true)
    (hc : Calls P f args w1 (Rets fun v w' => ∀ a, Rep a n ((dst, v) :: L) d → wpList P ops Q rest a w')) :
    wpList P ops Q (⟨some dst, op, ty, pos, after, none⟩ :: rest) a w := by
  refine wpList_plain rfl fun K hK => ?_
  unfold Oper.wp
  rw [hr]
  refine hc.mono fun en w' hr => ?_
  cases en with
  | returned v => exact hK _ _ (hr _ (R.put _ _ hd))
  | panicked ch => exact hr.elim
  | outgrown => exact hr.elim
theorem op_call0 {f : FuncId} {args : Array Value} {w1 : World} (R : Rep a n L d) (hr : (execOp a.eval ⟨none, op, ty, pos, after, none⟩).run P w = .ok (.enter f args) w1)
    (hc : Calls P f args w1 (Rets fun _ w' => ∀ a, Rep a n L d → wpList P ops Q rest a w')) :
    wpList P ops Q (⟨none, op, ty, pos, after, none⟩ :: rest) a w := by
  refine wpList_plain rfl fun K hK => ?_
  unfold Oper.wp
  rw [hr]
  refine hc.mono fun en w' hr => ?_
  cases en with
  | returned v => exact hK _ _ (hr _ R)
  | panicked ch => exact hr.elim
  | outgrown => exact hr.elim
end

section
variable {P : Program} {ops : Array Oper} {Q : Exit → Act → World → Prop} {rest : List Oper} {a : Act} {n : Nat} {L : List (Nat × Value)} {d : List Deferred} {w : World}
  {dst : Nat} {ty : TypeId} {pos : String} {after : Array Edge}
theorem omv {x : Operand} {v : Value} (R : Rep a n L d) (hx : ev L x = some v) (hd : Nat.blt dst n = true) (k : ∀ a, Rep a n ((dst, v) :: L) d → wpList P ops Q rest a w) : wpList P ops Q (⟨some dst, .move x, ty, pos, after, none⟩ :: rest) a w := op_val R (rn_mv R hx) hd k
theorem oas {x : Operand} {v : Value} (R : Rep a n L d) (hx : ev L x = some v) (hd : Nat.blt dst n = true) (k : ∀ a, Rep a n ((dst, v) :: L) d → wpList P ops Q rest a w) : wpList P ops Q (⟨some dst, .assign x, ty, pos, after, none⟩ :: rest) a w := op_val R (rn_as R hx) hd k
theorem old {t : TypeId} {D : TypeDesc} {x : Operand} {ad : Addr} {v : Value} (R : Rep a n L d) (hx : ev L x = some (.pointer (some ad))) (hu : P.underlying t = some D) (hD : nonAgg D = true) (hc : w.cell? ad = some v) (hd : Nat.blt dst n = true)
    (k : ∀ a, Rep a n ((dst, v) :: L) d → wpList P ops Q rest a w) : wpList P ops Q (⟨some dst, .load t x, ty, pos, after, none⟩ :: rest) a w := op_val R (rn_ld R hx hu hD hc) hd k
theorem ofd {s : TypeId} {f off : Nat} {x : Operand} {ad : Addr} (R : Rep a n L d) (hx : ev L x = some (.pointer (some ad))) (hf : ∀ (ad : Addr) (w : World), (Instr.fieldAt s (.pointer (some ad)) f).run P w = .ok (.pointer (some (ad.add off))) w) (hd : Nat.blt dst n = true)
    (k : ∀ a, Rep a n ((dst, .pointer (some (ad.add off))) :: L) d → wpList P ops Q rest a w) : wpList P ops Q (⟨some dst, .fieldAddr s x f, ty, pos, after, none⟩ :: rest) a w := op_val R (rn_fld R hx hf) hd k
theorem onl {x : Operand} {ad : Addr} {p : Option Addr} (R : Rep a n L d) (hx : ev L x = some (.pointer p)) (hp : p = some ad) (hd : Nat.blt dst n = true)
    (k : ∀ a, Rep a n ((dst, .pointer (some ad)) :: L) d → wpList P ops Q rest a w) : wpList P ops Q (⟨some dst, .nilCheck x, ty, pos, after, none⟩ :: rest) a w := op_val R (rn_nil R hx hp) hd k
end

def allOne : List Value → Prop
  | [] => True
  | v :: r => v.oneCell' = true ∧ allOne r
theorem ao : ∀ {vs : List Value}, allOne vs → ∀ v ∈ vs, v.oneCell' = true
  | [], _, v, h => by cases h
  | x :: r, ha, v, h => by
    rcases List.mem_cons.1 h with rfl | h
    · exact ha.1
    · exact ao ha.2 v h

/-! ### what is asked, in words -/
def ld {α : Type} (f : α → Value) (w : World) (a : Addr) (K : α → Prop) : Prop := ∃ x, w.cell? a = some (f x) ∧ K x
def st (w : World) (a : Addr) (v : Value) (K : World → Prop) : Prop := (w.cell? a).isSome = true ∧ w.frozen? a = false ∧ K (w.setCell a v)
def stN (w : World) (a : Addr) (vs : List Value) (K : World → Prop) : Prop := writable w a 0 vs.length ∧ K (setCells w a 0 vs)
def al (w : World) (o : Obj) (K : Addr → World → Prop) : Prop := K ⟨w.heap.size, 0, none⟩ (w.alloc o)
def nn (p : Option Addr) (K : Addr → Prop) : Prop := ∃ a, p = some a ∧ K a
def ix (p : Option Addr) (len : Nat) (i : Int) (sz : Nat) (K : Addr → Prop) : Prop := ∃ a, p = some a ∧ 0 ≤ i ∧ i < len ∧ K (a.add (i.toNat * sz))
/-- a run of the machine's own, and what it yields -/
def rn {α : Type} (P : Program) (f : α → Value) (s : Sem Value) (w : World) (K : α → World → Prop) : Prop := ∃ x w', s.run P w = .ok (f x) w' ∧ K x w'
def rn0 (P : Program) (s : Sem Unit) (w : World) (K : World → Prop) : Prop := ∃ w', s.run P w = .ok () w' ∧ K w'
/-- the next round of a range over a map -/
def nx (P : Program) (a : Addr) (w : World) (K : Bool → World → Prop) : Prop := ∃ b vs w', (Instr.next (.pointer (some a)) false 0).run P w = .ok (.tuple (Value.bool b :: vs).toArray) w' ∧ K b w'
def en {α β : Type} (P : Program) (f : α → Value) (g : β → Value) (a : Addr) (w : World) (K : α → β → Prop) : Prop := ∃ x y, (Instr.entry (.pointer (some a))).run P w = .ok (.tuple #[f x, g y]) w ∧ K x y
def rn2 {α β : Type} (P : Program) (f : α → Value) (g : β → Value) (s : Sem Value) (w : World) (K : α → β → World → Prop) : Prop := ∃ x y w', s.run P w = .ok (.tuple #[f x, g y]) w' ∧ K x y w'
def rnb (P : Program) (g : Sem Unit) (s : Sem Value) (w : World) (K : Bool → World → Prop) : Prop := ∃ b w', g.run P w = .ok () w ∧ s.run P w = .ok (.bool b) w' ∧ K b w'
/-- a call of a function's value -/
def cv (P : Program) (f : Value) (args : List Value) (w : World) (K : Value → World → Prop) : Prop :=
  ∃ fid caps, f = .func (.func fid) #[] (List.toArray caps) ∧ (∀ args w, (callFunc fid args).run P w = .ok (.enter fid args) w) ∧ Calls P fid (args ++ caps).toArray w (Rets K)
def sEq (x y : ByteArray) : Bool := x.toList == y.toList
def sLt (x y : ByteArray) : Bool := Op.bytesLess x.toList y.toList
def sLe (x y : ByteArray) : Bool := Op.bytesLess x.toList y.toList || x.toList == y.toList
theorem str_add {x y : ByteArray} (h : x.size + y.size ≤ 9223372036854775807) : Op.stringOp .add x y = pure (.string (x ++ y)) := by
  have h2 : ¬ (((x.size + y.size : Nat) : Int) > IntKind.i64.max) := by rw [IntKind.max_i64]; omega
  simp only [Op.stringOp]
  rw [if_neg h2]
theorem bin_quo {t : TypeId} {k : IntKind} {x y : Int} (h : y ≠ 0) : binOp .quo t (.int k x) (.int k y) = pure (.int k (k.wrap (Int.tdiv x y))) := by simp [binOp, Op.intDiv, h]
theorem bin_rem {t : TypeId} {k : IntKind} {x y : Int} (h : y ≠ 0) : binOp .rem t (.int k x) (.int k y) = pure (.int k (Int.tmod x y)) := by simp [binOp, Op.intDiv, h]
theorem bin_shl {t : TypeId} {k yk : IntKind} {x y : Int} (h : 0 ≤ y) : binOp .shl t (.int k x) (.int yk y) = pure (.int k (k.wrap (x * 2 ^ (min y.toNat k.bits)))) := by
  have h2 : ¬ y < 0 := by omega
  simp [binOp, Op.shift, h2]
theorem bin_shr {t : TypeId} {k yk : IntKind} {x y : Int} (h : 0 ≤ y) : binOp .shr t (.int k x) (.int yk y) = pure (.int k (Int.fdiv x (2 ^ (min y.toNat k.bits)))) := by
  have h2 : ¬ y < 0 := by omega
  simp [binOp, Op.shift, h2]
theorem al_e {w : World} {o : Obj} {K : Addr → World → Prop} (h : al w o K) : ∃ a, a = (⟨w.heap.size, 0, none⟩ : Addr) ∧ K a (w.alloc o) := ⟨_, rfl, h⟩
theorem ix_e {p : Option Addr} {len : Nat} {i : Int} {sz : Nat} {K : Addr → Prop} (h : ix p len i sz K) : ∃ b y, p = some b ∧ 0 ≤ i ∧ i < len ∧ y = b.add (i.toNat * sz) ∧ K y := by
  obtain ⟨b, h1, h2, h3, h4⟩ := h
  exact ⟨b, _, h1, h2, h3, rfl, h4⟩
theorem ite_cases {b : Bool} {A B : Prop} (h : if b = true then A else B) : (b = true ∧ A) ∨ (b = false ∧ B) := by
  cases b with
  | true => exact .inl ⟨rfl, h⟩
  | false => exact .inr ⟨rfl, h⟩
theorem nt {b : Bool} (h : b = false) : (!b) = true := by rw [h]; rfl
theorem nf {b : Bool} (h : b = true) : (!b) = false := by rw [h]; rfl
theorem ntf {b : Bool} (h : b = false) : b ≠ true := by rw [h]; exact Bool.noConfusion
theorem nft {b : Bool} (h : b = true) : b ≠ false := by rw [h]; exact Bool.noConfusion
theorem call_mono {P : Program} {f : FuncId} {args : Array Value} {w : World} {R R' : Value → World → Prop} (h : Calls P f args w (Rets R)) (k : ∀ v w', R v w' → R' v w') : Calls P f args w (Rets R') :=
  h.mono fun e w' he => by cases e <;> first | exact k _ _ he | exact he.elim
section
variable {P : Program} {a : Act} {n : Nat} {L : List (Nat × Value)} {d : List Deferred} {w : World} {dst : Option Nat} {ty : TypeId} {pos : String} {after : Array Edge} {gd : Option (Nat × Bool)}
theorem rn_calls {f : FuncId} {ts : Array TypeId} {xs : List Operand} {vs : List Value} (R : Rep a n L d) (hv : evl L xs = some vs) (hf : ∀ args w, (callFunc f args).run P w = .ok (.enter f args) w) :
    (execOp a.eval ⟨dst, .call ⟨.value (.func f), xs.toArray, ts⟩, ty, pos, after, gd⟩).run P w = .ok (.enter f vs.toArray) w := by
  have h := rn_call (P := P) (w := w) (dst := dst) (ty := ty) (pos := pos) (after := after) (gd := gd) (ts := ts) (x := .func f) (c := #[]) (e := #[]) R rfl hv hf
  simpa using h
theorem rn_callc {f : FuncId} {ts : Array TypeId} {x : Operand} {xs : List Operand} {vs cs : List Value} (R : Rep a n L d) (hx : ev L x = some (.func (.func f) #[] cs.toArray)) (hv : evl L xs = some vs) (hf : ∀ args w, (callFunc f args).run P w = .ok (.enter f args) w) :
    (execOp a.eval ⟨dst, .call ⟨.value x, xs.toArray, ts⟩, ty, pos, after, gd⟩).run P w = .ok (.enter f (vs ++ cs).toArray) w := by
  have h := rn_call (P := P) (w := w) (dst := dst) (ty := ty) (pos := pos) (after := after) (gd := gd) (ts := ts) (c := #[]) R hx hv hf
  simpa using h
end
section
variable {P : Program} {a : Act} {n : Nat} {L : List (Nat × Value)} {d : List Deferred} {w : World} {dst : Option Nat} {ty : TypeId} {pos : String} {after : Array Edge} {gd : Option (Nat × Bool)}
theorem rn_callv {f : Value} {fid : FuncId} {ts : Array TypeId} {x : Operand} {xs : List Operand} {vs cs : List Value} (R : Rep a n L d) (hx : ev L x = some f) (hf' : f = .func (.func fid) #[] cs.toArray) (hv : evl L xs = some vs) (hf : ∀ args w, (callFunc fid args).run P w = .ok (.enter fid args) w) :
    (execOp a.eval ⟨dst, .call ⟨.value x, xs.toArray, ts⟩, ty, pos, after, gd⟩).run P w = .ok (.enter fid (vs ++ cs).toArray) w := by
  subst hf'
  exact rn_callc R hx hv hf
end
section
variable {P : Program} {Q : Exit → Act → World → Prop} {a : Act} {w : World} {next : Act → World → Prop}
theorem then_normal (h : next a w) : Exit.then next Q .normal a w := h
theorem then_exit {i : Nat} (h : Q (.exit i) a w) : Exit.then next Q (.exit i) a w := h
theorem then_ret (h : Q .ret a w) : Exit.then next Q .ret a w := h
theorem block_normal {i : Nat} (h : Q .normal a w) : Exit.inBlock i Q .normal a w := h
theorem block_ret {i : Nat} (h : Q .ret a w) : Exit.inBlock i Q .ret a w := h
theorem block_eq {i : Nat} (h : Q .normal a w) : Exit.inBlock i Q (.exit i) a w := by simpa [Exit.inBlock] using h
theorem block_ne {i j : Nat} (hne : j ≠ i) (h : Q (.exit j) a w) : Exit.inBlock i Q (.exit j) a w := by simpa [Exit.inBlock, hne] using h
theorem seq_join {x y : Code} (M : Act → World → Prop) (h1 : x.wp P (Exit.then M Q) a w) (h2 : ∀ a w, M a w → y.wp P Q a w) : (Code.seq x y).wp P Q a w :=
  wp_seq (Code.wp_mono (fun e a w h => by cases e <;> first | exact h2 _ _ h | exact h) h1)
theorem seq_join2 {x y z : Code} (M : Act → World → Prop) (h1 : x.wp P (Exit.then (fun a w => y.wp P (Exit.then M Q) a w) Q) a w) (h2 : ∀ a w, M a w → z.wp P Q a w) : (Code.seq x (Code.seq y z)).wp P Q a w :=
  wp_seq (Code.wp_mono (fun e a w h => by cases e <;> first | exact seq_join M h h2 | exact h) h1)
end
end Go.Proofs.YtjnifnlkicajhaaDoor.Vc
