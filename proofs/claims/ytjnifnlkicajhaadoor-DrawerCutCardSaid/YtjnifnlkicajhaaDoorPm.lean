/-
  The disk as a list of files in the order of their names: what each call does to it, in plain words. No program in sight. No condition is put on any statement here.
-/
import Derived.Test.YtjnifnlkicajhaaDoorDa
import Derived.Sort.Walk0
namespace Go.Proofs.YtjnifnlkicajhaaDoor.Pm
open Go Vc Hp Da

/-! ### texts in order -/
theorem sLt_dec (a b : ByteArray) : sLt a b = decide (a.data.toList < b.data.toList) := by
  unfold sLt
  rw [bytesLess_eq, ByteArray.toList_eq, ByteArray.toList_eq]
theorem sLt_irrefl (a : ByteArray) : sLt a a = false := by
  rw [sLt_dec, decide_eq_false_iff_not]
  exact List.lt_irrefl _
theorem sLt_trans {a b c : ByteArray} (h : sLt a b = true) (h' : sLt b c = true) : sLt a c = true := by
  rw [sLt_dec, decide_eq_true_eq] at *
  exact List.lt_trans h h'
theorem sLt_tri {a b : ByteArray} (h : sLt a b = false) (h' : sLt b a = false) : a = b := by
  rw [sLt_dec, decide_eq_false_iff_not] at *
  exact WideShapes.bytes_inj (List.le_antisymm (List.not_lt.1 h') (List.not_lt.1 h))
theorem sLt_asymm {a b : ByteArray} (h : sLt a b = true) : sLt b a = false := by
  cases hb : sLt b a with
  | false => rfl
  | true => exact absurd (sLt_trans h hb) (by rw [sLt_irrefl]; exact Bool.false_ne_true)

/-! ### files -/
structure PF where
  name : ByteArray
  data : List UInt8
  sure : Nat

def get (l : List PF) (x : ByteArray) : Option PF := l.find? fun f => decide (f.name = x)
def setf (l : List PF) (x : ByteArray) (g : PF → PF) : List PF := l.map fun f => if f.name = x then g f else f
def rem (l : List PF) (x : ByteArray) : List PF := l.filter fun f => !decide (f.name = x)
def ins (f : PF) : List PF → List PF
  | [] => [f]
  | g :: l => if sLt g.name f.name = true then g :: ins f l else f :: g :: l
def Srt (l : List PF) : Prop := l.Pairwise fun a b => sLt a.name b.name = true
def names (l : List PF) : List ByteArray := l.map (·.name)

theorem Srt.nodup {l : List PF} (h : Srt l) : (names l).Nodup := by
  unfold names List.Nodup
  rw [List.pairwise_map]
  exact h.imp fun {a b} hab he => by rw [he, sLt_irrefl] at hab; cases hab
theorem get_none {l : List PF} {x : ByteArray} : get l x = none ↔ x ∉ names l := by
  unfold get names
  simp [List.find?_eq_none]
theorem get_some {l : List PF} {x : ByteArray} {f : PF} (h : get l x = some f) : f ∈ l ∧ f.name = x := by
  unfold get at h
  exact ⟨List.mem_of_find?_eq_some h, by simpa using List.find?_some h⟩
theorem get_mem {l : List PF} {f : PF} (hn : (names l).Nodup) (h : f ∈ l) : get l f.name = some f := by
  induction l with
  | nil => cases h
  | cons a l ih =>
    unfold names at hn
    simp only [List.map_cons, List.nodup_cons] at hn
    unfold get
    rcases List.mem_cons.1 h with rfl | h
    · simp
    · have hne : ¬ a.name = f.name := fun e => hn.1 (by rw [e]; exact List.mem_map.2 ⟨f, h, rfl⟩)
      rw [List.find?_cons_of_neg (by simpa using hne)]
      exact ih hn.2 h
theorem names_perm {l l' : List PF} (h : l.Perm l') : (names l).Perm (names l') := h.map _
theorem get_perm {l l' : List PF} (h : l.Perm l') (hn : (names l').Nodup) (x : ByteArray) : get l x = get l' x := by
  cases h' : get l' x with
  | none =>
    rw [get_none] at h' ⊢
    exact fun hx => h' ((names_perm h).mem_iff.1 hx)
  | some f =>
    obtain ⟨hf, rfl⟩ := get_some h'
    exact get_mem ((names_perm h).nodup_iff.2 hn) (h.mem_iff.2 hf)
theorem ins_perm (f : PF) : ∀ l : List PF, (ins f l).Perm (f :: l)
  | [] => .refl _
  | g :: l => by
    unfold ins
    split
    · exact ((ins_perm f l).cons g).trans (.swap f g l)
    · exact .refl _
theorem ins_srt {f : PF} : ∀ {l : List PF}, Srt l → f.name ∉ names l → Srt (ins f l)
  | [], _, _ => by unfold ins Srt; exact List.pairwise_singleton _ _
  | g :: l, h, hn => by
    unfold Srt at h
    rw [List.pairwise_cons] at h
    unfold names at hn
    simp only [List.map_cons, List.mem_cons, not_or] at hn
    unfold ins Srt
    split
    · rename_i hg
      rw [List.pairwise_cons]
      refine ⟨fun a ha => ?_, ins_srt h.2 hn.2⟩
      rcases List.mem_cons.1 ((ins_perm f l).mem_iff.1 ha) with rfl | ha
      · exact hg
      · exact h.1 a ha
    · rename_i hg
      have hfg : sLt f.name g.name = true := by
        cases hb : sLt f.name g.name with
        | true => rfl
        | false => exact absurd (sLt_tri hb (by simpa using hg)) hn.1
      rw [List.pairwise_cons]
      refine ⟨fun a ha => ?_, List.pairwise_cons.2 h⟩
      rcases List.mem_cons.1 ha with rfl | ha
      · exact hfg
      · exact sLt_trans hfg (h.1 a ha)
theorem names_setf {l : List PF} {x : ByteArray} {g : PF → PF} (hg : ∀ f, (g f).name = f.name) : names (setf l x g) = names l := by
  unfold names setf
  rw [List.map_map]
  refine List.map_congr_left fun f _ => ?_
  simp only [Function.comp_apply]
  split
  · exact hg f
  · rfl
theorem setf_srt {l : List PF} {x : ByteArray} {g : PF → PF} (hg : ∀ f, (g f).name = f.name) (h : Srt l) : Srt (setf l x g) := by
  have h1 : (names l).Pairwise (fun a b => sLt a b = true) := by unfold names; rw [List.pairwise_map]; exact h
  rw [← names_setf (x := x) hg] at h1
  unfold names at h1
  rw [List.pairwise_map] at h1
  exact h1
theorem rem_srt {l : List PF} {x : ByteArray} (h : Srt l) : Srt (rem l x) := h.sublist List.filter_sublist
theorem srt_unique : ∀ {l l' : List PF}, Srt l → Srt l' → l.Perm l' → l = l'
  | [], l', _, _, hp => (List.nil_perm.1 hp).symm
  | a :: l, [], _, _, hp => by cases List.perm_nil.1 hp
  | a :: l, b :: l', h, h', hp => by
    have hab : a = b := by
      rcases List.mem_cons.1 (hp.mem_iff.1 List.mem_cons_self) with e | ha
      · exact e
      · rcases List.mem_cons.1 (hp.mem_iff.2 List.mem_cons_self) with e | hb
        · exact e.symm
        · have h1 := (List.pairwise_cons.1 h').1 a ha
          have h2 := (List.pairwise_cons.1 h).1 b hb
          exact absurd (sLt_trans h1 h2) (by rw [sLt_irrefl]; exact Bool.false_ne_true)
    subst hab
    rw [srt_unique (List.pairwise_cons.1 h).2 (List.pairwise_cons.1 h').2 hp.cons_inv]

/-! ### the disk -/
/-- units: -1: it is not armed. -/
structure PD where
  files : List PF
  down : Bool
  units : Int
  after : Int
  calls : Int

def maxI : Int := 9223372036854775807
structure PD.Ok (d : PD) : Prop where
  srt : Srt d.files
  data : ∀ f ∈ d.files, f.data.length ≤ 2097152 ∧ f.sure ≤ f.data.length
  count : d.files.length ≤ 40
  units : -1 ≤ d.units ∧ d.units ≤ maxI
  after : d.after ≤ maxI ∧ -maxI - 1 ≤ d.after
  calls : d.calls ≤ maxI ∧ -maxI - 1 ≤ d.calls

def PD.fall (d : PD) : PD := { d with down := true, units := -1, after := 0, calls := 0 }
/-- what is looked at first: the number; 0: go on -/
def PD.first (d : PD) (x : ByteArray) : Int × PD :=
  if namedB x = false then (192, d) else if d.down = true then (190, d) else if d.calls ≤ 0 then (0, d)
  else if 0 < d.after then (0, { d with after := d.after - 1 }) else (191, { d with calls := d.calls - 1 })
/-- is it paid, how much, and what is left -/
def PD.pay (d : PD) (cost : Int) : Bool × Int × PD :=
  if d.units < 0 then (true, cost, d) else if cost ≤ d.units then (true, cost, { d with units := d.units - cost }) else (false, d.units, d.fall)
def PD.append (d : PD) (x : ByteArray) (b : List UInt8) : Int × PD :=
  if (d.first x).1 ≠ 0 then d.first x else
  let d1 := (d.first x).2
  match get d1.files x with
  | none => if 40 ≤ d1.files.length ∨ 2097152 < b.length then (194, d1) else
    let p := d1.pay (b.length + 1)
    (if p.1 = true then 0 else 190, { p.2.2 with files := ins ⟨x, if p.1 = true then b else b.take p.2.1.toNat, 0⟩ p.2.2.files })
  | some f => if 2097152 < f.data.length + b.length then (194, d1) else
    let p := d1.pay (b.length + 1)
    (if p.1 = true then 0 else 190, { p.2.2 with files := setf p.2.2.files x fun f => { f with data := f.data ++ if p.1 = true then b else b.take p.2.1.toNat } })
def PD.change (d : PD) (x : ByteArray) (g : List PF → List PF) : Int × PD :=
  if (d.first x).1 ≠ 0 then d.first x else
  let d1 := (d.first x).2
  if (get d1.files x).isNone = true then (193, d1) else
  let p := d1.pay 1
  if p.1 = true then (0, { p.2.2 with files := g p.2.2.files }) else (190, p.2.2)
def PD.sync (d : PD) (x : ByteArray) : Int × PD := d.change x fun l => setf l x fun f => { f with sure := f.data.length }
def cutTo (size : Int) (n : Nat) : Nat := min size.toNat n
def PD.trim (d : PD) (x : ByteArray) (size : Int) : Int × PD := d.change x fun l => setf l x fun f => { f with data := f.data.take size.toNat, sure := min f.sure (cutTo size f.data.length) }
def PD.remove (d : PD) (x : ByteArray) : Int × PD := d.change x fun l => rem l x
def PD.read (d : PD) (x : ByteArray) : Int × List UInt8 :=
  if namedB x = false then (192, []) else if d.down = true then (190, []) else match get d.files x with
    | none => (193, [])
    | some f => (0, f.data)
def PD.arm (d : PD) (units : Int) : PD := if d.down = true then d else { d with units := if 0 ≤ units then units else -1 }
def PD.rig (d : PD) (after calls : Int) : PD := if d.down = true then d else if after < 0 ∨ calls ≤ 0 then { d with after := 0, calls := 0 } else { d with after := after, calls := calls }
/-- how much of what isn't sure stays of file i -/
def kept (keep : List Int) (i : Nat) (f : PF) : PF :=
  let k := if keep.length = 0 then 0 else min (keep.getD (i % keep.length) 0).toNat (f.data.length - f.sure)
  { f with data := f.data.take (f.sure + k), sure := f.sure + k }
def PD.restart (d : PD) (keep : List Int) : PD := { d with files := d.files.mapIdx (kept keep), down := false, units := -1, after := 0, calls := 0 }

theorem PD.Ok.fall {d : PD} (h : d.Ok) : d.fall.Ok := ⟨h.srt, h.data, h.count, by simp [PD.fall, maxI], by simp [PD.fall, maxI], by simp [PD.fall, maxI]⟩
theorem PD.Ok.first {d : PD} (h : d.Ok) (x : ByteArray) : (d.first x).2.Ok := by
  have ha := h.after
  have hc := h.calls
  unfold maxI at ha hc
  unfold PD.first
  split
  · exact h
  split
  · exact h
  split
  · exact h
  split
  · exact ⟨h.srt, h.data, h.count, h.units, by unfold maxI; dsimp only; omega, h.calls⟩
  · exact ⟨h.srt, h.data, h.count, h.units, h.after, by unfold maxI; dsimp only; omega⟩
theorem PD.first_files (d : PD) (x : ByteArray) : (d.first x).2.files = d.files := by
  unfold PD.first
  repeat' split
  all_goals rfl
theorem PD.Ok.pay {d : PD} (h : d.Ok) {cost : Int} (hc : 0 ≤ cost) : (d.pay cost).2.2.Ok := by
  have hu := h.units
  unfold maxI at hu
  unfold PD.pay
  split
  · exact h
  split
  · exact ⟨h.srt, h.data, h.count, by unfold maxI; dsimp only; omega, h.after, h.calls⟩
  · exact h.fall
theorem PD.pay_files (d : PD) (cost : Int) : (d.pay cost).2.2.files = d.files := by
  unfold PD.pay
  repeat' split
  all_goals rfl
theorem PD.Ok.files {d : PD} (h : d.Ok) {l : List PF} (hs : Srt l) (hd : ∀ f ∈ l, f.data.length ≤ 2097152 ∧ f.sure ≤ f.data.length) (hc : l.length ≤ 40) : PD.Ok { d with files := l } := ⟨hs, hd, hc, h.units, h.after, h.calls⟩

theorem setf_mem {l : List PF} {x : ByteArray} {g : PF → PF} {f : PF} (h : f ∈ setf l x g) : f ∈ l ∨ ∃ f' ∈ l, f'.name = x ∧ f = g f' := by
  unfold setf at h
  obtain ⟨f', hf, rfl⟩ := List.mem_map.1 h
  split
  · rename_i hx; exact .inr ⟨f', hf, hx, rfl⟩
  · exact .inl hf
theorem setf_length (l : List PF) (x : ByteArray) (g : PF → PF) : (setf l x g).length = l.length := by unfold setf; simp

theorem PD.Ok.append {d : PD} (h : d.Ok) (x : ByteArray) (b : List UInt8) : (d.append x b).2.Ok := by
  have h1 := h.first x
  have hf := d.first_files x
  unfold PD.append
  split
  · exact h1
  dsimp only
  have h2 := h1.pay (cost := (b.length : Int) + 1) (by omega)
  have hf2 := (d.first x).2.pay_files ((b.length : Int) + 1)
  generalize (d.first x).2.pay ((b.length : Int) + 1) = p at *
  have hb : (if p.1 = true then b else b.take p.2.1.toNat).length ≤ b.length := by
    split
    · exact Nat.le_refl _
    · rw [List.length_take]; omega
  generalize (if p.1 = true then b else b.take p.2.1.toNat) = bb at *
  cases hg : get (d.first x).2.files x with
  | none =>
    dsimp only
    split
    · exact h1
    · rename_i hno
      refine h2.files (ins_srt h2.srt ?_) (fun f hm => ?_) ?_
      · rw [hf2]; exact get_none.1 hg
      · rcases List.mem_cons.1 ((ins_perm _ _).mem_iff.1 hm) with rfl | hm
        · exact ⟨by dsimp only; omega, Nat.zero_le _⟩
        · exact h2.data f hm
      · rw [(ins_perm _ _).length_eq, hf2]
        simp only [List.length_cons]; omega
  | some f0 =>
    dsimp only
    split
    · exact h1
    · rename_i hno
      obtain ⟨hm0, hn0⟩ := get_some hg
      refine h2.files (setf_srt (fun _ => rfl) h2.srt) (fun f hm => ?_) (by rw [setf_length]; exact h2.count)
      rcases setf_mem hm with hm | ⟨f', hm', hn, rfl⟩
      · exact h2.data f hm
      · have : f' = f0 := by
          have h3 := get_mem h2.srt.nodup hm'
          rw [hn, hf2, hg] at h3
          exact (Option.some.inj h3).symm
        subst this
        have := h2.data f' hm'
        simp only [List.length_append]
        omega
theorem PD.Ok.change {d : PD} (h : d.Ok) (x : ByteArray) {g : List PF → List PF} (hg : ∀ l, Srt l → (∀ f ∈ l, f.data.length ≤ 2097152 ∧ f.sure ≤ f.data.length) → l.length ≤ 40 → Srt (g l) ∧ (∀ f ∈ g l, f.data.length ≤ 2097152 ∧ f.sure ≤ f.data.length) ∧ (g l).length ≤ 40) : (d.change x g).2.Ok := by
  have h1 := h.first x
  unfold PD.change
  split
  · exact h1
  dsimp only
  split
  · exact h1
  have h2 := h1.pay (cost := 1) (by omega)
  split
  · have := hg _ h2.srt h2.data h2.count
    exact h2.files this.1 this.2.1 this.2.2
  · exact h2
theorem PD.Ok.sync {d : PD} (h : d.Ok) (x : ByteArray) : (d.sync x).2.Ok := by
  refine h.change x fun l hs hd hc => ⟨setf_srt (fun _ => rfl) hs, fun f hm => ?_, by rw [setf_length]; exact hc⟩
  rcases setf_mem hm with hm | ⟨f', hm', hn, rfl⟩
  · exact hd f hm
  · exact ⟨(hd f' hm').1, Nat.le_refl _⟩
theorem PD.Ok.trim {d : PD} (h : d.Ok) (x : ByteArray) (n : Int) : (d.trim x n).2.Ok := by
  refine h.change x fun l hs hd hc => ⟨setf_srt (fun _ => rfl) hs, fun f hm => ?_, by rw [setf_length]; exact hc⟩
  rcases setf_mem hm with hm | ⟨f', hm', hn, rfl⟩
  · exact hd f hm
  · have := hd f' hm'
    refine ⟨?_, ?_⟩ <;> simp only [cutTo, List.length_take] <;> omega
theorem PD.Ok.remove {d : PD} (h : d.Ok) (x : ByteArray) : (d.remove x).2.Ok := by
  refine h.change x fun l hs hd hc => ⟨rem_srt hs, fun f hm => hd f (List.mem_filter.1 hm).1, Nat.le_trans (List.length_filter_le _ _) hc⟩
theorem PD.Ok.arm {d : PD} (h : d.Ok) {u : Int} (h0 : -maxI - 1 ≤ u) (h1 : u ≤ maxI) : (d.arm u).Ok := by
  unfold PD.arm
  split
  · exact h
  · refine ⟨h.srt, h.data, h.count, ?_, h.after, h.calls⟩
    unfold maxI at *
    dsimp only
    split <;> omega
theorem PD.Ok.rig {d : PD} (h : d.Ok) {a c : Int} (h0 : -maxI - 1 ≤ a ∧ a ≤ maxI) (h1 : -maxI - 1 ≤ c ∧ c ≤ maxI) : (d.rig a c).Ok := by
  unfold PD.rig
  split
  · exact h
  split
  · exact ⟨h.srt, h.data, h.count, h.units, by simp [maxI], by simp [maxI]⟩
  · exact ⟨h.srt, h.data, h.count, h.units, by unfold maxI at *; dsimp only; omega, by unfold maxI at *; dsimp only; omega⟩
theorem kept_ok {keep : List Int} {i : Nat} {f : PF} (h : f.data.length ≤ 2097152 ∧ f.sure ≤ f.data.length) : (kept keep i f).data.length ≤ 2097152 ∧ (kept keep i f).sure ≤ (kept keep i f).data.length := by
  unfold kept
  dsimp only
  rw [List.length_take]
  split <;> omega
theorem PD.Ok.restart {d : PD} (h : d.Ok) (keep : List Int) : (d.restart keep).Ok := by
  refine ⟨?_, fun f hm => ?_, ?_, by simp [PD.restart, maxI], by simp [PD.restart, maxI], by simp [PD.restart, maxI]⟩
  · have h1 : (names d.files).Pairwise (fun a b => sLt a b = true) := by unfold names; rw [List.pairwise_map]; exact h.srt
    have h2 : names (d.files.mapIdx (kept keep)) = names d.files := by
      unfold names
      apply List.ext_getElem (by simp)
      intro i h1 h2
      simp [kept]
    rw [← h2] at h1
    unfold names at h1
    rw [List.pairwise_map] at h1
    exact h1
  · obtain ⟨i, hi, rfl⟩ := List.mem_mapIdx.1 hm
    exact kept_ok (h.data _ (List.getElem_mem hi))
  · show (d.files.mapIdx (kept keep)).length ≤ 40
    rw [List.length_mapIdx]; exact h.count
end Go.Proofs.YtjnifnlkicajhaaDoor.Pm
