/-
  Maps with texts as keys, in blocks of known colour: looked up, written, deleted from, counted, ranged over. No condition is put on any statement here.
-/
import Derived.Test.YtjnifnlkicajhaaDoorHp
namespace Go.Proofs.YtjnifnlkicajhaaDoor.Hp
open Go Vc

theorem beq_bytes (a b : ByteArray) : (a == b) = decide (a = b) := by
  rw [beq_toListBytes, ByteArray.toList_eq, ByteArray.toList_eq, Bool.eq_iff_iff]
  simp only [beq_iff_eq, decide_eq_true_eq]
  exact ⟨fun h => WideShapes.bytes_inj h, fun h => by rw [h]⟩
theorem sEq_eq (a b : ByteArray) : sEq a b = decide (a = b) := by
  rw [← beq_bytes, beq_toListBytes]; rfl

/-- key and value at a text, and its place -/
def kget (l : List (ByteArray × Value)) (x : ByteArray) : Option Value := (l.find? fun p => decide (p.1 = x)).map (·.2)

def ent (es : List MapEntry) (l : List (ByteArray × Value)) : Prop := es.map (fun e => (e.key, e.val)) = l.map fun p => (Value.string p.1, p.2)

/-- Block m is a map that holds these texts, each once, with these values. -/
structure MapS (w : World) (c : Col) (m k : Nat) (es : Array MapEntry) (cl : Nat) (l : List (ByteArray × Value)) : Prop where
  own : Own w c m k (.map es cl)
  ents : ent es.toList l
  keys : (l.map (·.1)).Nodup
  born : (es.toList.map (·.born)).Nodup
  old : ∀ e ∈ es.toList, e.born < cl

theorem ent_cons {e : MapEntry} {es : List MapEntry} {l : List (ByteArray × Value)} (h : ent (e :: es) l) : ∃ x v l', l = (x, v) :: l' ∧ e.key = .string x ∧ e.val = v ∧ ent es l' := by
  unfold ent at h
  cases l with
  | nil => simp at h
  | cons p l' =>
    simp only [List.map_cons, List.cons.injEq, Prod.mk.injEq] at h
    exact ⟨p.1, p.2, l', rfl, h.1.1, h.1.2, h.2⟩

theorem findNow_ent : ∀ {es : List MapEntry} {l : List (ByteArray × Value)} (x : ByteArray) (i : Nat), ent es l →
    (kget l x = none ∧ Instr.findNow .string (.string x) es i = some none) ∨ (∃ j v, l[j]? = some (x, v) ∧ kget l x = some v ∧ (∃ e, es[j]? = some e ∧ e.key = .string x ∧ e.val = v) ∧ Instr.findNow .string (.string x) es i = some (some (i + j, v)))
  | [], l, x, i, h => by
    have : l = [] := by cases l <;> simp [ent] at h ⊢
    subst this
    exact .inl ⟨rfl, rfl⟩
  | e :: es, l, x, i, h => by
    obtain ⟨y, v, l', rfl, hk, hv, h'⟩ := ent_cons h
    by_cases hxy : x = y
    · subst hxy
      refine .inr ⟨0, v, rfl, by simp [kget], ⟨e, rfl, hk, hv⟩, ?_⟩
      simp [Instr.findNow, hk, Instr.sameNow, beq_bytes, hv]
    · have hyx : ¬ y = x := fun e => hxy e.symm
      have hs : Instr.findNow .string (.string x) (e :: es) i = Instr.findNow .string (.string x) es (i + 1) := by
        simp [Instr.findNow, hk, Instr.sameNow, beq_bytes, hxy]
      have hg : kget ((y, v) :: l') x = kget l' x := by simp [kget, List.find?_cons, hyx]
      rcases findNow_ent x (i + 1) h' with ⟨h1, h2⟩ | ⟨j, u, h1, h2, h3, h4⟩
      · exact .inl ⟨by rw [hg]; exact h1, by rw [hs]; exact h2⟩
      · exact .inr ⟨j + 1, u, by simpa using h1, by rw [hg]; exact h2, by simpa using h3, by rw [hs, h4]; simp only [Nat.add_assoc, Nat.add_comm 1 j]⟩

def setObj' (w : World) (m : Nat) (o : Obj) : World := { w with heap := w.heap.setIfInBounds m o }
theorem run_getM {P : Program} {w : World} {m : Nat} {es : Array MapEntry} {cl : Nat} (h : w.heap[m]? = some (.map es cl)) : (getObj m).run P w = .ok (.map es cl) w := by simp [getObj, Sem.run, h]
theorem run_setM {P : Program} {w : World} {m : Nat} {es : Array MapEntry} {cl : Nat} {o : Obj} (h : w.heap[m]? = some (.map es cl)) : (setObj m o).run P w = .ok () (setObj' w m o) := by simp [setObj, Sem.run, h, setObj']
theorem run_check' {P : Program} {K : TypeId} (hK : P.underlying K = some .string) (b : Bool) (x : ByteArray) (w : World) (n : Nat) : (Instr.checkKey b (n + 1) K (.string x)).run P w = .ok () w := by
  simp [Instr.checkKey, run_underlying hK]

section
variable {P : Program} {w : World} {c : Col} {m k : Nat} {es : Array MapEntry} {cl : Nat} {l : List (ByteArray × Value)} {T K E : TypeId} (hT : P.underlying T = some (.map K E)) (hK : P.underlying K = some .string)
include hT hK

omit hT in
theorem run_check (b : Bool) (x : ByteArray) (w : World) : (Instr.checkKey b 10000 K (.string x)).run P w = .ok () w := run_check' hK b x w 9999

theorem lookup_map (h : MapS w c m k es cl l) {z : Value} (hz : ∀ w, (zeroValue E).run P w = .ok z w) (x : ByteArray) :
    (Instr.lookup T (.map (some m)) (.string x) false).run P w = .ok ((kget l x).getD z) w := by
  have hc := run_check (P := P) hK
  rcases findNow_ent x 0 h.ents with ⟨h1, h2⟩ | ⟨j, v, h1, h2, h3, h4⟩
  · simp [Instr.lookup, run_underlying hT, run_getM h.own.at', hc, Instr.findKey, run_underlying hK, h2, hz, h1]
  · simp [Instr.lookup, run_underlying hT, run_getM h.own.at', hc, Instr.findKey, run_underlying hK, h4, h2]

theorem lookup_map_ok (h : MapS w c m k es cl l) {z : Value} (hz : ∀ w, (zeroValue E).run P w = .ok z w) (x : ByteArray) :
    (Instr.lookup T (.map (some m)) (.string x) true).run P w = .ok (.tuple #[(kget l x).getD z, .bool (kget l x).isSome]) w := by
  have hc := run_check (P := P) hK
  rcases findNow_ent x 0 h.ents with ⟨h1, h2⟩ | ⟨j, v, h1, h2, h3, h4⟩
  · simp [Instr.lookup, run_underlying hT, run_getM h.own.at', hc, Instr.findKey, run_underlying hK, h2, hz, h1]
  · simp [Instr.lookup, run_underlying hT, run_getM h.own.at', hc, Instr.findKey, run_underlying hK, h4, h2]

omit hK in
theorem len_map (h : MapS w c m k es cl l) (ty : TypeId) : (Builtin.len_ #[T] ty [Value.map (some m)].toArray).run P w = .ok (.int .i64 (l.length : Int)) w := by
  have hl : es.size = l.length := by
    have := congrArg List.length h.ents
    simpa using this
  simp [Builtin.len_, run_underlying hT, run_getM h.own.at', goInt, hl]
end

theorem setObj_chg (w : World) (m : Nat) (o : Obj) : Chg (· = m) w (setObj' w m o) :=
  ⟨rfl, rfl, rfl, by simp [setObj'], fun x _ hx => by
    simp only [setObj']
    rw [Array.getElem?_setIfInBounds_ne (fun e => hx e.symm)]⟩
theorem setObj_own {w : World} {c : Col} {m k : Nat} {o o' : Obj} (h : Own w c m k o) : Own (setObj' w m o') c m k o' := by
  refine ⟨?_, h.col⟩
  simp only [setObj']
  rw [Array.getElem?_setIfInBounds_self_of_lt h.lt]

section
variable {P : Program} {w : World} {c : Col} {m k : Nat} {es : Array MapEntry} {cl : Nat} {l : List (ByteArray × Value)} {T K E : TypeId} (hT : P.underlying T = some (.map K E)) (hK : P.underlying K = some .string)
include hT hK

/-- a new text -/
theorem update_new (h : MapS w c m k es cl l) (x : ByteArray) (v : Value) (hx : kget l x = none) :
    ∃ es', (Instr.mapUpdate T (.map (some m)) (.string x) v).run P w = .ok () (setObj' w m (.map es' (cl + 1))) ∧ MapS (setObj' w m (.map es' (cl + 1))) c m k es' (cl + 1) (l ++ [(x, v)]) := by
  have hc := run_check (P := P) hK
  rcases findNow_ent x 0 h.ents with ⟨h1, h2⟩ | ⟨j, u, h1, h2, h3, h4⟩
  · refine ⟨es.push ⟨.string x, v, cl⟩, ?_, ⟨setObj_own h.own, ?_, ?_, ?_, ?_⟩⟩
    · simp [Instr.mapUpdate, run_underlying hT, run_getM h.own.at', hc, Instr.findKey, run_underlying hK, h2, run_setM h.own.at']
    · unfold ent
      have := h.ents
      unfold ent at this
      simp [this]
    · rw [List.map_append, List.nodup_append]
      refine ⟨h.keys, by simp, fun a ha b hb => ?_⟩
      simp at hb
      subst hb
      rintro rfl
      obtain ⟨p, hp, hpx⟩ := List.mem_map.1 ha
      unfold kget at hx
      rw [Option.map_eq_none_iff, List.find?_eq_none] at hx
      have := hx p hp
      simp at this
      exact this hpx
    · simp only [Array.toList_push, List.map_append, List.map_cons, List.map_nil]
      rw [List.nodup_append]
      refine ⟨h.born, by simp, fun a ha b hb => ?_⟩
      simp at hb
      subst hb
      obtain ⟨e, he, rfl⟩ := List.mem_map.1 ha
      have := h.old e he
      omega
    · intro e he
      simp only [Array.toList_push, List.mem_append, List.mem_singleton] at he
      rcases he with he | rfl
      · have := h.old e he; omega
      · simp
  · rw [hx] at h2; cases h2
end

theorem erase_map {α β : Type} (f : α → β) : ∀ (l : List α) (j : Nat), (l.eraseIdx j).map f = (l.map f).eraseIdx j
  | [], _ => rfl
  | _ :: _, 0 => rfl
  | a :: l, j + 1 => by simp [erase_map f l j]
theorem erase_ent : ∀ {es : List MapEntry} {l : List (ByteArray × Value)} (j : Nat), ent es l → ent (es.eraseIdx j) (l.eraseIdx j)
  | [], l, j, h => by
    have : l = [] := by cases l <;> simp [ent] at h ⊢
    subst this
    exact rfl
  | e :: es, l, j, h => by
    obtain ⟨y, v, l', rfl, hk, hv, h'⟩ := ent_cons h
    cases j with
    | zero => exact h'
    | succ j =>
      have := erase_ent j h'
      simp only [List.eraseIdx_cons_succ]
      unfold ent at this ⊢
      simp [this, hk, hv]

def without (l : List (ByteArray × Value)) (x : ByteArray) : List (ByteArray × Value) := l.filter fun p => !decide (p.1 = x)

theorem without_none : ∀ {l : List (ByteArray × Value)} {x : ByteArray}, kget l x = none → without l x = l := by
  intro l x h
  unfold kget at h
  rw [Option.map_eq_none_iff, List.find?_eq_none] at h
  unfold without
  rw [List.filter_eq_self]
  intro p hp
  have := h p hp
  simpa using this

theorem without_erase : ∀ {l : List (ByteArray × Value)} {x : ByteArray} {j : Nat} {v : Value}, l[j]? = some (x, v) → (l.map (·.1)).Nodup → without l x = l.eraseIdx j
  | [], x, j, v, h, _ => by simp at h
  | p :: l, x, 0, v, h, hn => by
    simp at h
    subst h
    simp only [List.map_cons, List.nodup_cons] at hn
    have h2 : without l x = l := by
      unfold without
      rw [List.filter_eq_self]
      intro q hq
      have : q.1 ≠ x := fun e => hn.1 (by rw [← e]; exact List.mem_map.2 ⟨q, hq, rfl⟩)
      simpa using this
    unfold without at h2 ⊢
    simp [h2]
  | p :: l, x, j + 1, v, h, hn => by
    simp at h
    simp only [List.map_cons, List.nodup_cons] at hn
    have hne : p.1 ≠ x := by
      rintro rfl
      exact hn.1 (List.mem_map.2 ⟨(p.1, v), List.mem_of_getElem? h, rfl⟩)
    have ih := without_erase h hn.2
    unfold without at ih ⊢
    simp [hne, ih]

theorem delete_map {P : Program} {w : World} {c : Col} {m k : Nat} {es : Array MapEntry} {cl : Nat} {l : List (ByteArray × Value)} {T K E : TypeId} (hT : P.underlying T = some (.map K E)) (hK : P.underlying K = some .string) (h : MapS w c m k es cl l) (x : ByteArray) (ty : TypeId) (ks : Array TypeId) (hks : ks[0]? = some T) :
    ∃ es', (Builtin.delete_ ks ty [Value.map (some m), .string x].toArray).run P w = .ok (.tuple #[]) (setObj' w m (.map es' cl)) ∧ MapS (setObj' w m (.map es' cl)) c m k es' cl (without l x) := by
  have hc := run_check (P := P) hK
  rcases findNow_ent x 0 h.ents with ⟨h1, h2⟩ | ⟨j, v, h1, h2, h3, h4⟩
  · refine ⟨es, ?_, ?_⟩
    · simp [Builtin.delete_, hks, run_underlying hT, run_getM h.own.at', hc, Instr.findKey, run_underlying hK, h2, run_setM h.own.at']
    · rw [without_none h1]
      exact ⟨setObj_own h.own, h.ents, h.keys, h.born, h.old⟩
  · refine ⟨es.eraseIdxIfInBounds j, ?_, ?_⟩
    · simp [Builtin.delete_, hks, run_underlying hT, run_getM h.own.at', hc, Instr.findKey, run_underlying hK, h4, run_setM h.own.at']
    · have he : (es.eraseIdxIfInBounds j).toList = es.toList.eraseIdx j := by
        simp only [Array.eraseIdxIfInBounds]
        split
        · simp
        · rename_i hj
          rw [List.eraseIdx_of_length_le (by simpa using hj)]
      rw [without_erase h1 h.keys]
      refine ⟨setObj_own h.own, by rw [he]; exact erase_ent j h.ents, ?_, ?_, ?_⟩
      · rw [erase_map]
        exact h.keys.sublist (List.eraseIdx_sublist _ _)
      · rw [he, erase_map]
        exact h.born.sublist (List.eraseIdx_sublist _ _)
      · intro e hm
        rw [he] at hm
        exact h.old e (List.mem_of_mem_eraseIdx hm)

/-! ### ranging -/
theorem run_range_map {P : Program} {w : World} {c : Col} {m k : Nat} {es : Array MapEntry} {cl : Nat} {l : List (ByteArray × Value)} {T K E : TypeId} (hT : P.underlying T = some (.map K E)) (h : MapS w c m k es cl l) :
    (Instr.range T (.map (some m))).run P w = .ok (.pointer (some ⟨w.heap.size, 0, none⟩)) (w.alloc (.mapIter (some m) cl #[] cl)) := by
  simp [Instr.range, run_underlying hT, run_getM h.own.at']

theorem run_getI {P : Program} {w : World} {r : Nat} {m : Option Nat} {a : Nat} {s : Array Nat} {b : Nat} (h : w.heap[r]? = some (.mapIter m a s b)) : (getObj r).run P w = .ok (.mapIter m a s b) w := by simp [getObj, Sem.run, h]
theorem run_setI {P : Program} {w : World} {r : Nat} {m : Option Nat} {a : Nat} {s : Array Nat} {b : Nat} {o : Obj} (h : w.heap[r]? = some (.mapIter m a s b)) : (setObj r o).run P w = .ok () (setObj' w r o) := by simp [setObj, Sem.run, h, setObj']

theorem nx_map {P : Program} {w : World} {c : Col} {m k r k2 : Nat} {es : Array MapEntry} {cl : Nat} {l : List (ByteArray × Value)} {seen : Array Nat} {K : Bool → World → Prop} (h : MapS w c m k es cl l)
    (hi : Own w c r k2 (.mapIter (some m) cl seen cl)) (hover : (∀ e ∈ es.toList, e.born ∈ seen.toList) → K false w)
    (hgo : ∀ e ∈ es.toList, e.born ∉ seen.toList → ∀ w', Own w' c r k2 (.mapIter (some m) cl (seen.push e.born) cl) → Chg (· = r) w w' → K true w') : nx P ⟨r, 0, none⟩ w K := by
  have hall : (!seen.isEmpty && !es.isEmpty && es.all (·.born ≥ cl)) = false := by
    cases hes : es.toList with
    | nil => simp [Array.isEmpty, show es = #[] from by rw [← Array.toArray_toList (xs := es), hes]]
    | cons e r =>
      have h1 := h.old e (by rw [hes]; simp)
      have : es.all (·.born ≥ cl) = false := by
        rw [← Array.all_toList, hes]
        simp only [List.all_cons, Bool.and_eq_false_iff, decide_eq_false_iff_not]
        left; omega
      simp [this]
  have hnew : (es.filter fun e => !seen.contains e.born).filter (·.born ≥ cl) = #[] := by
    rw [← Array.toList_inj]
    simp only [Array.toList_filter]
    rw [List.filter_eq_nil_iff]
    intro e he
    have := h.old e (List.mem_filter.1 he).1
    simp; omega
  have hold : (es.filter fun e => !seen.contains e.born).filter (·.born < cl) = es.filter fun e => !seen.contains e.born := by
    rw [← Array.toList_inj]
    simp only [Array.toList_filter]
    rw [List.filter_eq_self]
    intro e he
    have := h.old e (List.mem_filter.1 he).1
    simp; omega
  generalize hleft : (es.filter fun e => !seen.contains e.born) = left at *
  have hrun : (Instr.next (.pointer (some ⟨r, 0, none⟩)) false 0).run P w =
      ((choose (.mapNext ((if left.isEmpty then #[none] else #[]) ++ left.map some).size)).run P w).andThen fun t w1 =>
        (match ((if left.isEmpty then #[none] else #[]) ++ left.map some)[t]? with
          | some (some e) => (do setObj r (.mapIter (some m) cl (seen.push e.born) cl); pure (.tuple #[.bool true, e.key, e.val]) : Sem Value)
          | some none => pure (.tuple #[.bool false])
          | none => stuck "Next: no such candidate").run P w1 := by
    simp only [Instr.next, Sem.run_bind, run_getI hi.at', Result.andThen_ok, run_getM h.own.at', hall, Bool.false_eq_true, if_false, hleft, hold, hnew, Array.append_empty]
    congr 1
  by_cases hem : left = #[]
  · subst hem
    refine ⟨false, [], w, ?_, hover fun e he => ?_⟩
    · rw [hrun]
      simp [choose, Sem.run, Question.forced]
    · apply Classical.byContradiction
      intro hns
      have : e ∈ (es.filter fun e => !seen.contains e.born).toList := by
        rw [Array.toList_filter, List.mem_filter]
        refine ⟨he, ?_⟩
        simpa using hns
      rw [hleft] at this
      simp at this
  · have hemp : left.isEmpty = false := by
      cases hb : left.isEmpty with
      | true => exact absurd (by simpa using hb) hem
      | false => rfl
    have hsz : 0 < left.size := Array.size_pos_iff.2 hem
    have pick : ∀ t w1, t < left.size → w1.heap = w.heap → w1.os = w.os → w1.tape = w.tape → w1.output = w.output →
        ∃ b vs w', ((match ((if left.isEmpty then #[none] else #[]) ++ left.map some)[t]? with
          | some (some e) => (do setObj r (.mapIter (some m) cl (seen.push e.born) cl); pure (.tuple #[.bool true, e.key, e.val]) : Sem Value)
          | some none => pure (.tuple #[.bool false])
          | none => stuck "Next: no such candidate").run P w1) = .ok (.tuple (Value.bool b :: vs).toArray) w' ∧ K b w' := by
      intro t w1 ht e1 e2 e3 e4
      have hget : ((if left.isEmpty then #[none] else #[]) ++ left.map some)[t]? = some (some left[t]) := by
        simp [hemp, ht]
      rw [hget]
      have hmem : left[t] ∈ es.toList ∧ left[t].born ∉ seen.toList := by
        have h1 : left[t] ∈ left.toList := Array.mem_toList_iff.2 (Array.getElem_mem ht)
        have h2 : left[t] ∈ (es.filter fun e => !seen.contains e.born).toList := by rw [hleft]; exact h1
        rw [Array.toList_filter, List.mem_filter] at h2
        refine ⟨h2.1, by simpa using h2.2⟩
      have hi1 : Own w1 c r k2 (.mapIter (some m) cl seen cl) := ⟨by rw [e1]; exact hi.at', hi.col⟩
      refine ⟨true, [left[t].key, left[t].val], setObj' w1 r (.mapIter (some m) cl (seen.push left[t].born) cl), ?_, ?_⟩
      · simp [run_setI hi1.at']
      · refine hgo _ hmem.1 hmem.2 _ (setObj_own hi1) ?_
        have := setObj_chg w1 r (.mapIter (some m) cl (seen.push left[t].born) cl)
        exact ⟨this.os.trans e2, this.tape.trans e3, this.output.trans e4, by rw [← e1]; exact this.size, fun x hx hne => by rw [this.same x (by rw [e1]; exact hx) hne, e1]⟩
    have hcs : ((if left.isEmpty then #[none] else #[]) ++ left.map some).size = left.size := by simp [hemp]
    unfold nx
    rw [hrun, hcs]
    by_cases h1 : left.size ≤ 1
    · have : (choose (.mapNext left.size)).run P w = .ok 0 w := by simp [choose, Sem.run, Question.forced, h1]
      rw [this]
      exact pick 0 w hsz rfl rfl rfl rfl
    · have : (choose (.mapNext left.size)).run P w = .ok ((w.tape w.drawn (.mapNext left.size)) % left.size) w.drew := by
        show (if (Question.mapNext left.size).forced then _ else _) = _
        rw [if_neg (by simpa [Question.forced] using h1)]
        rfl
      rw [this]
      exact pick _ w.drew (Nat.mod_lt _ hsz) rfl rfl rfl rfl

theorem en_map {P : Program} {w : World} {c : Col} {m k r k2 : Nat} {es : Array MapEntry} {cl : Nat} {l : List (ByteArray × Value)} {seen : Array Nat} {α β : Type} {f : α → Value} {g : β → Value} {K : α → β → Prop} (h : MapS w c m k es cl l)
    {e : MapEntry} (he : e ∈ es.toList) (hi : Own w c r k2 (.mapIter (some m) cl (seen.push e.born) cl)) {x : α} {y : β} (hx : e.key = f x) (hy : e.val = g y) (hk : K x y) : en P f g ⟨r, 0, none⟩ w K := by
  have hf : es.find? (fun a => a.born == e.born) = some e := by
    rw [← Array.find?_toList]
    have hn := h.born
    generalize es.toList = L at he hn
    induction L with
    | nil => cases he
    | cons a L ih =>
      simp only [List.map_cons, List.nodup_cons] at hn
      rcases List.mem_cons.1 he with rfl | he
      · simp
      · have hne : a.born ≠ e.born := fun eq => hn.1 (by rw [eq]; exact List.mem_map.2 ⟨e, he, rfl⟩)
        rw [List.find?_cons_of_neg (by simpa using hne)]
        exact ih he hn.2
  refine ⟨x, y, ?_, hk⟩
  simp [Instr.entry, run_getI hi.at', run_getM h.own.at', hf, hx, hy]
end Go.Proofs.YtjnifnlkicajhaaDoor.Hp
