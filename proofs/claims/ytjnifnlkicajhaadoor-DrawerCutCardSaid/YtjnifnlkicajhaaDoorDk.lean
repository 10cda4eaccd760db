/-
  The program's disk: Files; lists of files as they are read. No condition is put on any statement here.
-/
import Derived.Test.YtjnifnlkicajhaaDoorDj
namespace Go.Proofs.YtjnifnlkicajhaaDoor.Dd
open Go Vc Hp Fs Da Pm
set_option maxRecDepth 4000

/-- a file as it comes in a list -/
structure AF where
  name : ByteArray
  data : List UInt8
  sure : Int
def _root_.Go.Proofs.YtjnifnlkicajhaaDoor.Pm.PF.af (f : PF) : AF := ⟨f.name, f.data, f.sure⟩
def fcells (fl : List (AF × Sl)) : List Value := fl.flatMap fun p => [.string p.1.name, p.2.val, .int .i64 p.1.sure]
theorem fcells_len (fl : List (AF × Sl)) : (fcells fl).length = fl.length * 3 := by
  unfold fcells
  induction fl with
  | nil => rfl
  | cons p l ih => simp only [List.flatMap_cons, List.length_append, List.length_cons, List.length_nil, ih]; omega
theorem fcells_snoc (fl : List (AF × Sl)) (p : AF × Sl) : fcells (fl ++ [p]) = fcells fl ++ [.string p.1.name, p.2.val, .int .i64 p.1.sure] := by
  unfold fcells
  simp
theorem fcells_at {fl : List (AF × Sl)} {i : Nat} (h : i < fl.length) : (fcells fl)[i * 3]? = some (.string fl[i].1.name) ∧ (fcells fl)[i * 3 + 1]? = some fl[i].2.val ∧ (fcells fl)[i * 3 + 2]? = some (.int .i64 fl[i].1.sure) := by
  induction fl generalizing i with
  | nil => cases h
  | cons p l ih =>
    have e : fcells (p :: l) = [.string p.1.name, p.2.val, .int .i64 p.1.sure] ++ fcells l := by unfold fcells; simp
    rcases i with _ | i
    · rw [e]; exact ⟨rfl, rfl, rfl⟩
    · have := ih (i := i) (by simpa using h)
      rw [e]
      rw [List.getElem?_append_right (by simp; omega), List.getElem?_append_right (by simp; omega), List.getElem?_append_right (by simp; omega)]
      simp only [List.length_cons, List.length_nil, List.getElem_cons_succ]
      rw [show (i + 1) * 3 - (0 + 1 + 1 + 1) = i * 3 by omega, show (i + 1) * 3 + 1 - (0 + 1 + 1 + 1) = i * 3 + 1 by omega, show (i + 1) * 3 + 2 - (0 + 1 + 1 + 1) = i * 3 + 2 by omega]
      exact this
theorem one_fcells (fl : List (AF × Sl)) : ∀ u ∈ fcells fl, u.oneCell' = true := by
  intro u hu
  unfold fcells at hu
  obtain ⟨p, _, hp⟩ := List.mem_flatMap.1 hu
  simp only [List.mem_cons, List.not_mem_nil, or_false] at hp
  rcases hp with rfl | rfl | rfl <;> rfl
theorem iA : (Tryd.prog.info? 42).map (fun i => (i.zero, i.size, i.bytes)) = some (some (.agg #[.string ⟨#[]⟩, .slice none 0 0, .int .i64 0]), 3, 48) := by kernel_rfl

/-- a list of files of one's own -/
structure FRow (w : World) (c : Col) (k : Nat) (s : Sl) (fl : List (AF × Sl)) : Prop where
  row : Row w c k 42 3 s (fcells fl)
  data : ∀ p ∈ fl, Row w c k 5 1 p.2 (p.1.data.map u8)
theorem FRow.chg {w c k s fl M w' c'} (h : FRow w c k s fl) (hc : Chg M w w') (he : Ext w c c') (h1 : ∀ g, Sl.blk s = some g → ¬ M g) (h2 : ∀ p ∈ fl, ∀ g, Sl.blk p.2 = some g → ¬ M g) : FRow w' c' k s fl :=
  ⟨h.row.chg hc he h1, fun p hp => (h.data p hp).chg hc he (h2 p hp)⟩
theorem FRow.new {w c k s fl w' c'} (h : FRow w c k s fl) (hc : Chg (fun _ => False) w w') (he : Ext w c c') : FRow w' c' k s fl := h.chg hc he (fun _ _ => id) (fun _ _ _ _ => id)
theorem FRow.eff {w c k s fl j w' c'} (h : FRow w c k s fl) (hc : Eff j w c w' c') (hj : ¬ j k) : FRow w' c' k s fl := ⟨h.row.eff hc hj, fun p hp => (h.data p hp).eff hc hj⟩
theorem FRow.drew {w c k s fl} (h : FRow w c k s fl) : FRow w.drew c k s fl := ⟨h.row.drew, fun p hp => (h.data p hp).drew⟩
theorem Row.lt {w c k t sz s vs g} (h : Row w c k t sz s vs) (hg : Sl.blk s = some g) : g < w.heap.size := by
  obtain ⟨cs, ho⟩ := h.blk hg
  exact ho.lt

/-- one more file -/
theorem FRow.snoc {w c k s fl b f q} {ty : TypeId} {K : Sl → World → Prop} (h : FRow w c k s fl) (hf : Own w c b k (.cells #[.string f.name, q.val, .int .i64 f.sure] 42 (0, 0))) (hd : Row w c k 5 1 q (f.data.map u8)) (hl : fl.length ≤ 1099511627776)
    (hk : ∀ s' w' c', FRow w' c' k s' (fl ++ [(f, q)]) → Chg (fun b => Sl.blk s = some b) w w' → Ext w c c' → (∀ g, Sl.blk s' = some g → Sl.blk s = some g ∨ w.heap.size ≤ g) → K s' w') :
    rn Tryd.prog Sl.val (Builtin.append_ #[39, 39] ty [s.val, .slice (some ⟨b, 0, none⟩) 1 1].toArray) w K := by
  have hsl : s.len = fl.length := by have := h.row.1; rw [fcells_len] at this; omega
  have src : Reads w 3 ⟨some ⟨b, 0, none⟩, 1, 1⟩ [.string f.name, q.val, .int .i64 f.sure] := ⟨rfl, .inr ⟨_, rfl, fun j u hu => by rw [add_mk, Nat.zero_add, hf.cell]; rw [← hu]; simp⟩⟩
  have hone : ∀ u ∈ [Value.string f.name, q.val, .int .i64 f.sure], u.oneCell' = true := by
    intro u hu
    simp only [List.mem_cons, List.not_mem_nil, or_false] at hu
    rcases hu with rfl | rfl | rfl <;> rfl
  have hfit : (s.len + (⟨some ⟨b, 0, none⟩, 1, 1⟩ : Sl).len) * (48 + 1) ≤ 140737488355328 := by dsimp only; omega
  refine append_any (s := s) (x := ⟨some ⟨b, 0, none⟩, 1, 1⟩) ty Tryd.underlying39 iA rfl h.row src hone hfit fun s' w' c' hrow hch hex hbl hlen => ?_
  have ne : ∀ {q vs}, Row w c k 5 1 q vs → ∀ g, Sl.blk q = some g → ¬ Sl.blk s = some g := fun {q vs} hr g hg hs => by
    obtain ⟨cs, ho⟩ := hr.blk hg
    obtain ⟨cs', ho'⟩ := h.row.blk hs
    exact ho.neT ho' (by decide) rfl
  refine hk s' w' c' ⟨by rw [fcells_snoc]; exact hrow, fun p hp => ?_⟩ hch hex hbl
  rcases List.mem_append.1 hp with hp | hp
  · exact (h.data p hp).chg hch hex (ne (h.data p hp))
  · rw [List.mem_singleton.1 hp]
    exact hd.chg hch hex (ne hd)

/-- all that changed is new -/
structure FI (w : World) (c : Col) (kk : Nat) (fs : List PF) (z : Sl) (i : Nat) (v : World) (c' : Col) (fl : List (AF × Sl)) : Prop where
  list : FRow v c' kk z fl
  what : fl.map (·.1) = (fs.take i).map PF.af
  ch : Chg (fun _ => False) w v
  ex : Ext w c c'
  blk : ∀ g, Sl.blk z = some g → w.heap.size ≤ g
  le : i ≤ fs.length

theorem files_spec {w c k d m L A} (kk : Nat) {Q : Sl → World → Prop} (h : DDisk w c k d m L A) (hA : A.Ok)
    (H : ∀ w' c' s' fl, FRow w' c' kk s' fl → fl.map (·.1) = A.files.map PF.af → Chg (fun _ => False) w w' → Ext w c c' → Q s' w') : drawer_Disk_Files (some ⟨d, 0, none⟩) Q w := by
  have hcount := hA.count
  unfold drawer_Disk_Files
  refine names_spec kk h hA fun w1 c1 s1 hrow ch1 ex1 => ?_
  have hsl : s1.len = A.files.length := by have := hrow.1; simp [names] at this; omega
  have start : FI w1 c1 kk A.files ⟨none, 0, 0⟩ 0 w1 c1 [] := ⟨⟨Row.nil _ _ _ _ _, fun p hp => by cases hp⟩, rfl, Chg.refl _ _, Ext.refl _ _, fun g hg => (by cases (show (none : Option Nat) = some g from hg)), Nat.zero_le _⟩
  refine Fix.intro (fun (z : Sl × Int) v => ∃ (i : Nat) (c' : Col) (fl : List (AF × Sl)), z.2 = i ∧ FI w1 c1 kk A.files z.1 i v c' fl) (fun z _ => A.files.length - z.2.toNat) ?_ ⟨0, c1, [], rfl, start⟩
  rintro ⟨z, zi⟩ v K ⟨i, c', fl, hzi, I⟩ hK
  have hzi : zi = (i : Int) := hzi
  subst hzi
  unfold drawer_Disk_Files.l4
  dsimp only
  by_cases hlt : i < A.files.length
  · rw [if_pos (by rw [decide_eq_true_eq]; omega)]
    have hrow' := hrow.chg I.ch I.ex (fun _ _ => id)
    refine ix_ld (x := A.files[i].name) hrow'.reads (by simp [names, hlt]) ?_
    have D := (h.new ch1 ex1).new I.ch I.ex
    obtain ⟨_, _, od, _⟩ := id D.own
    refine nn_some (ld_own od (x := some m) rfl (look D.files ?_))
    have hget : Pm.get A.files A.files[i].name = some A.files[i] := get_mem hA.srt.nodup (List.getElem_mem hlt)
    rw [D.get hA] at hget
    cases hf : fget L A.files[i].name with
    | none => rw [hf] at hget; cases hget
    | some e =>
      rw [hf] at hget
      have hpf : e.pf = A.files[i] := Option.some.inj hget
      obtain ⟨he, hen⟩ := fget_some hf
      have hd := (hA.data _ (List.getElem_mem hlt)).1
      rw [← hpf] at hd
      have hfe := D.files.files e he
      refine nn_some (ld_own hfe.own.drew rfl (nn_some (ld_own (x := (e.sure : Int)) hfe.own.drew rfl ?_)))
      refine clone_spec (c := c') (k := kk) hfe.row.drew.reads (by exact Nat.le_trans hd (by decide)) fun w2 c2 q hq ch2 ex2 hqb => ?_
      have ch2 := undrew ch2
      have ex2 : Ext v c' c2 := ex2
      have fe2 := hfe.own.chg ch2 ex2 id
      refine ⟨⟨by rw [add_mk, fe2.cell]; rfl, by rw [add_mk, fe2.cell]; rfl, trivial⟩, ?_⟩
      refine al_own (c := c2) kk fun b w3 c3 o3 ch3 ex3 hb3 => ?_
      have fe3 := fe2.chg ch3 ex3 id
      refine ⟨⟨by rw [add_mk, fe3.cell]; rfl, by rw [add_mk, fe3.cell]; rfl, trivial⟩, ?_⟩
      have l3 := (I.list.new ch2 ex2).new ch3 ex3
      have q3 := hq.chg ch3 ex3 (fun _ _ => id)
      have hfll : fl.length = i := by
        have := congrArg List.length I.what
        simp at this; omega
      have ef : A.files[i].af = ⟨A.files[i].name, e.data, e.sure⟩ := by rw [← hpf]; rfl
      refine l3.snoc (f := A.files[i].af) (q := q) (by rw [ef]; exact o3) (by rw [ef]; exact q3) (by omega) fun s' w4 c4 l4 ch4 ex4 hbl => ?_
      rw [Da.wrap_small (i := (i : Int) + 1) (by omega) (by omega)]
      have ch23 := fresh (fresh I.ch ch2 (fun _ => False.elim)) ch3 (fun _ => False.elim)
      have ex23 := freshX (fresh I.ch ch2 (fun _ => False.elim)) (freshX I.ch I.ex ex2 ch2) ex3 ch3
      refine hK _ _ ⟨i + 1, c4, fl ++ [(A.files[i].af, q)], by show ((i : Int) + 1) = ((i + 1 : Nat) : Int); omega, ⟨l4, ?_, fresh ch23 ch4 I.blk, freshX ch23 ex23 ex4 ch4, fun g hg => ?_, hlt⟩⟩ (by show A.files.length - ((i : Int) + 1).toNat < A.files.length - (i : Int).toNat; omega)
      · rw [List.map_append, I.what, List.take_succ_eq_append_getElem hlt, List.map_append]
        rfl
      · rcases hbl g hg with h1 | h1
        · exact I.blk g h1
        · exact Nat.le_trans ch23.size h1
  · rw [if_neg (by rw [decide_eq_true_eq]; omega)]
    unfold drawer_Disk_Files.k1
    have hi : i = A.files.length := by have := I.le; omega
    refine H v c' z fl I.list ?_ (fresh ch1 I.ch (fun _ => False.elim)) (freshX ch1 ex1 I.ex I.ch)
    rw [I.what, hi, List.take_length]
end Go.Proofs.YtjnifnlkicajhaaDoor.Dd
