/-
  The law's world: another machine over a copy of the disk. No condition is put on any statement here.
-/
import Derived.Test.YtjnifnlkicajhaaDoorKc
namespace Go.Proofs.YtjnifnlkicajhaaDoor.Kw
open Go Vc Hp Fs Da Pm Dd Jn
set_option maxRecDepth 4000

/-- a disk over these files -/
def copyP (A : PD) : PD := ⟨A.files, false, -1, 0, 0⟩
theorem copyP_ok {A : PD} (h : A.Ok) : (copyP A).Ok := ⟨h.srt, h.data, h.count, (by decide : (-1 : Int) ≤ -1 ∧ (-1 : Int) ≤ maxI), (by decide : (0 : Int) ≤ maxI ∧ -maxI - 1 ≤ 0), (by decide : (0 : Int) ≤ maxI ∧ -maxI - 1 ≤ 0)⟩
theorem mk_perm : ∀ (l acc : List PF), (∀ f ∈ l, namedB f.name = true ∧ f.data.length ≤ 2097152 ∧ f.sure ≤ f.data.length) → (names (acc ++ l)).Nodup → Srt acc → ∃ fs, mk (l.map PF.af) acc = some fs ∧ fs.Perm (acc ++ l) ∧ Srt fs
  | [], acc, _, _, hs => ⟨acc, rfl, by simp, hs⟩
  | f :: l, acc, hf, hn, hs => by
    obtain ⟨h1, h2, h3⟩ := hf f (by simp)
    have hnf : f.name ∉ names acc := fun hm => by
      unfold names at hn hm
      rw [List.map_append, List.nodup_append] at hn
      exact hn.2.2 _ hm _ (by simp) rfl
    have hget : Pm.get acc f.name = none := get_none.2 hnf
    have hb : bad acc f.af = false := by
      unfold bad PF.af
      rw [hget, h1]
      simp
      omega
    rw [List.map_cons, mk, if_neg (by rw [hb]; exact Bool.false_ne_true)]
    have he : (⟨f.af.name, f.af.data, f.af.sure.toNat⟩ : PF) = f := by
      unfold PF.af
      cases f
      simp
    rw [he]
    have hp := ins_perm f acc
    obtain ⟨fs, e1, e2, e3⟩ := mk_perm l (ins f acc) (fun g hg => hf g (by simp [hg])) (by
      have : (ins f acc ++ l).Perm (acc ++ f :: l) := (hp.append_right l).trans (List.perm_middle.symm)
      exact (names_perm this).nodup_iff.2 hn) (ins_srt hs hnf)
    exact ⟨fs, e1, e2.trans ((hp.append_right l).trans List.perm_middle.symm), e3⟩
theorem make_self {A : PD} (h : A.Ok) (hG : Gens A.files) : make (A.files.map PF.af) = some (copyP A) := by
  unfold make
  rw [List.length_map, if_neg (by have := h.count; omega)]
  obtain ⟨fs, e1, e2, e3⟩ := mk_perm A.files [] (fun f hf => by
    obtain ⟨g, _, h2, h3⟩ := hG f hf
    have := h.data f hf
    exact ⟨by rw [h3]; exact nameP_named h2, this.1, this.2⟩) (by simpa using h.srt.nodup) List.Pairwise.nil
  rw [e1, srt_unique e3 h.srt (by simpa using e2)]
  rfl
theorem restart_names (A : PD) (keep : List Int) : names (A.restart keep).files = names A.files := by
  unfold names PD.restart
  apply List.ext_getElem (by simp)
  intro i h1 h2
  simp [kept]

/-- another machine over a copy: what it is told may stand there -/
def OtherC (st : LS) (keep : List Int) : Prop := ∀ j, Best (· ∈ ((copyP st.A).restart keep).files) j → (openP ((copyP st.A).restart keep) st.sum j).1 = 0 ∧ MayP st j.summary (recsOf ((copyP st.A).restart keep).files j)

section
variable {w : World} {c : Col} {wb d m : Nat} {L : List FE} {st : LS} {p : Option Addr} {ss rs ls fs : Sl} {rl ll : List (Rec × Sl)} {fl : List (List UInt8 × Sl)}
theorem other_spec {ks : Sl} {keep : List Int} {jd : Nat} {Q : Bool → World → Prop} (h : Rp w c wb d m L st p ss rs ls fs rl ll fl) (hG : Gens st.A.files) (hs : st.sum < 4294967296) (hrl : rl.length ≤ 1099511627776)
    (src : Src w c jd 1 ks (keep.map (Value.int .i64))) (hj9 : jd ≠ 9) (C : OtherC st keep) (H : ∀ w' c', Rp w' c' wb d m L st p ss rs ls fs rl ll fl → Eff (fun q => q = 9) w c w' c' → Q true w') : levylaw19_world_other (some ⟨wb, 0, none⟩) ks Q w := by
  unfold levylaw19_world_other
  refine nn_some (ld_own h.own (x := some ⟨d, 0, none⟩) rfl ?_)
  refine files_spec 11 h.disk h.ok fun w1 c1 s1 fl1 F1 hf1 ch1 ex1 => ?_
  have S1 : Sofar w c w1 c1 := ⟨ch1, ex1⟩
  have hmk := make_self h.ok hG
  refine newDisk_spec 9 F1.src (fun hn => by rw [hf1, hmk] at hn; cases hn) fun A' hA' w2 c2 d2 m2 L2 D2 ch2 ex2 => ?_
  rw [hf1, hmk] at hA'
  obtain rfl : copyP st.A = A' := Option.some.inj hA'
  rw [if_neg (by exact Bool.false_ne_true)]
  unfold levylaw19_world_other.k5
  rw [if_neg (by decide)]
  have S2 := S1.new ch2 ex2
  have hok := copyP_ok h.ok
  refine restart_spec D2 hok (src.chg S2.ch S2.ex (fun _ _ => id)) hj9 fun w3 c3 L3 D3 E3 => ?_
  have h3 := (h.far S2).eff E3 (by intro k hk; omega)
  have E03 : Eff (fun q => q = 9) w c w3 c3 := S2.eff.trans E3
  refine nn_some (ld_own h3.own (x := (st.sum : Int)) rfl ?_)
  have hG3 : Gens ((copyP st.A).restart keep).files := Gens.of_names (fs := st.A.files) hG (restart_names (copyP st.A) keep)
  have hok3 := hok.restart keep
  refine Jn.open_spec 10 D3 hok3 h3.tab (by decide) (by decide) (by decide) hG3 (fun j hB hne w4 c4 L4 Dn => absurd (C j (hB rfl)).1 hne) (fun j hB he w4 c4 L4 o s1 s2 rl2 Dn W hr1 hr2 hrl2 => ?_)
  have h4 := h3.eff Dn.eff (by intro k hk; omega)
  rw [if_pos (by decide), if_neg (by exact Bool.false_ne_true)]
  have hfit := (recsOf_fit (j := j) hok3).2
  refine may_spec h4 hr1.reads (RSrc.of hr2) hr2.row.2.1 (by rw [← hrl2, List.length_map] at hfit; omega) hrl fun r w5 hr S5 => ?_
  have hr : r = true := hr (by rw [hrl2]; exact (C j hB).2)
  subst hr
  unfold levylaw19_world_other.k11
  exact H w5 c4 (h4.far (S5 c4)) ((E03.trans Dn.eff).new (S5 c4).ch (S5 c4).ex)

/-! ### one step -/
def PutC (st : LS) (r : Rec) (p : Int × PD × DW) : Prop :=
  if p.1 = 0 then st.late = [] ∧ st.folded = [] ∧ p.2.2.len = st.R.length + 1 else
  if p.1 = 196 then st.late.length = 1 ∨ st.folded.length = 1 else
  if p.1 = 197 then 1048576 < r.body.length else p.1 = 190 ∨ p.1 = 191 ∨ p.1 = 194
def putL (st : LS) (r : Rec) (p : Int × PD × DW) : LS :=
  if p.1 = 0 then { st with A := p.2.1, dr := some p.2.2, R := st.R ++ [r] } else
  if p.1 = 196 ∨ p.1 = 197 then { st with A := p.2.1, dr := some p.2.2 } else { st with A := p.2.1, dr := some p.2.2, late := [r] }
def FoldC (st : LS) (b : List UInt8) (p : Int × PD × DW) : Prop :=
  if p.1 = 0 then st.late = [] ∧ st.folded = [] ∧ p.2.2.len = 0 else
  if p.1 = 196 then st.late.length = 1 ∨ st.folded.length = 1 else
  if p.1 = 197 then 1048576 < b.length else p.1 = 190 ∨ p.1 = 191 ∨ p.1 = 194
def foldL (st : LS) (b : List UInt8) (p : Int × PD × DW) : LS :=
  if p.1 = 0 then { st with A := p.2.1, dr := some p.2.2, S := b, R := [] } else
  if p.1 = 196 ∨ p.1 = 197 then { st with A := p.2.1, dr := some p.2.2 } else { st with A := p.2.1, dr := some p.2.2, folded := [b], soft := p.1 == 194 }
theorem putP_ok {A : PD} (h : A.Ok) (D : DW) (k : UInt8) (b : List UInt8) : (putP A D k b).2.1.Ok := by
  unfold putP
  split
  · exact h
  split
  · exact h
  split
  · exact layP_ok h _ _
  · exact layP_ok h _ _
theorem foldP_ok {A : PD} (h : A.Ok) (D : DW) (b : List UInt8) : (foldP A D b).2.1.Ok := by
  unfold foldP
  split
  · exact h
  split
  · exact h
  split
  · exact h
  split
  · exact layP_ok h _ _
  split
  · exact (layP_ok h _ _).remove _
  · exact (layP_ok h _ _).remove _

/-- the world behind a call of the drawer -/
theorem Rp.drawer {w' c' L' B D o} (h : Rp w c wb d m L st p ss rs ls fs rl ll fl) (Dk : DDisk w' c' 1 d m L' B) (W : Drw w' c' 2 o d D) (E : Eff (fun q => q = 1 ∨ q = 2) w c w' c') (hB : B.Ok) (hp : p = some ⟨o, 0, none⟩) : Rp w' c' wb d m L' { st with A := B, dr := some D } p ss rs ls fs rl ll fl :=
  ⟨h.own.eff E (by decide), ⟨o, hp, W⟩, h.sm.eff E (by decide), h.recs.eff E (by decide), h.hrecs, h.late.eff E (by decide), h.hlate, h.fold.eff E (by decide), fun x hx => (h.foldd x hx).eff E (by decide), h.hfold, Dk, hB, h.tab.eff E (by decide)⟩
end
end Go.Proofs.YtjnifnlkicajhaaDoor.Kw
