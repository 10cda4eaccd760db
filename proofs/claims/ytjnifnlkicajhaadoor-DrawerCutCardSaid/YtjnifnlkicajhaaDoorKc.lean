/-
  The law's world: begin, open. No condition is put on any statement here.
-/
import Derived.Test.YtjnifnlkicajhaaDoorKb
namespace Go.Proofs.YtjnifnlkicajhaaDoor.Kw
open Go Vc Hp Fs Da Pm Dd Jn
set_option maxRecDepth 4000

def LS.zero (sum : Nat) : LS := ⟨⟨[], false, -1, 0, 0⟩, none, sum, [], [], [], [], false⟩
theorem ok_zero : (⟨[], false, -1, 0, 0⟩ : PD).Ok := ⟨List.Pairwise.nil, fun f hf => (by cases hf), by decide, by decide, by decide, by decide⟩
/-- what Open does to the law's world -/
def OpenR (st st' : LS) : Prop := ∃ j, (st.A.down = false → Best (· ∈ st.A.files) j) ∧
  (((openP st.A st.sum j).1 ≠ 0 ∧ st' = { st with A := (openP st.A st.sum j).2.1, dr := none }) ∨
   (st.A.down = false ∧ (openP st.A st.sum j).1 = 0 ∧ st' = { st with A := (openP st.A st.sum j).2.1, dr := some ⟨st.sum, (openP st.A st.sum j).2.2, (recsOf st.A.files j).length, false⟩, S := j.summary, R := recsOf st.A.files j, late := [], folded := [], soft := false }))
def OpenC (st : LS) : Prop := ∀ j, (st.A.down = false → Best (· ∈ st.A.files) j) →
  ((openP st.A st.sum j).1 = 0 ∨ (openP st.A st.sum j).1 = 190 ∨ (openP st.A st.sum j).1 = 191 ∨ (openP st.A st.sum j).1 = 194) ∧ ((openP st.A st.sum j).1 = 0 → MayP st j.summary (recsOf st.A.files j))
theorem openP_ok {A : PD} (h : A.Ok) (sum : Nat) (j : JF) : (openP A sum j).2.1.Ok := by
  unfold openP
  split
  · exact h
  split
  · exact h
  split
  · exact mendP_ok h _ _
  split
  · exact layP_ok (mendP_ok h _ _) _ _
  · exact mendP_ok h _ _

theorem reads_fit (sum : Nat) : ∀ (f : Nat) (b : List UInt8) (n : Nat), (∀ r ∈ reads sum f b n, r.body.length ≤ 1048576) ∧ (reads sum f b n).length ≤ f
  | 0, _, _ => ⟨fun r hr => (by cases hr), Nat.le_refl _⟩
  | f + 1, b, n => by
    rw [reads]
    split
    · rename_i s k bd hw
      split
      · have ih := reads_fit sum f (b.drop (bd.length + 18)) (n + 1)
        refine ⟨fun r hr => ?_, by simp only [List.length_cons]; omega⟩
        rcases List.mem_cons.1 hr with rfl | hr
        · exact (whole_some hw).2.1
        · exact ih.1 r hr
      · exact ⟨fun r hr => (by cases hr), by simp⟩
    · exact ⟨fun r hr => (by cases hr), by simp⟩
theorem recsOf_fit {A : PD} {j : JF} (h : A.Ok) : (∀ r ∈ recsOf A.files j, r.body.length ≤ 1048576) ∧ (recsOf A.files j).length ≤ 2097153 := by
  unfold recsOf
  split
  · exact ⟨fun r hr => (by cases hr), by simp⟩
  split
  · rename_i f hf
    have h1 := (h.data f (Pm.get_some hf).1).1
    have h2 := reads_fit j.sum (f.data.length + 1) (f.data.drop j.size) 1
    exact ⟨h2.1, by omega⟩
  · exact ⟨fun r hr => (by cases hr), by simp⟩
theorem _root_.Go.Proofs.YtjnifnlkicajhaaDoor.Jn.Best.fit {P : PF → Prop} {j : JF} (h : Best P j) : j.summary.length ≤ 1048576 := by
  rcases h with ⟨rfl, _⟩ | ⟨_, f, _, _, ⟨k, hk⟩, _⟩
  · exact Nat.zero_le _
  · exact (whole_some hk).2.1

section
variable {w : World} {c : Col} {wb d m : Nat} {L : List FE} {st : LS} {p : Option Addr} {ss rs ls fs : Sl} {rl ll : List (Rec × Sl)} {fl : List (List UInt8 × Sl)}
theorem Rp.disk' {w' c' L' B} (h : Rp w c wb d m L st p ss rs ls fs rl ll fl) (D : DDisk w' c' 1 d m L' B) (E : Eff (· = 1) w c w' c') (hB : B.Ok) : Rp w' c' wb d m L' { st with A := B } p ss rs ls fs rl ll fl :=
  ⟨h.own.eff E (by decide), h.drw.eff E (by decide), h.sm.eff E (by decide), h.recs.eff E (by decide), h.hrecs, h.late.eff E (by decide), h.hlate, h.fold.eff E (by decide), fun x hx => (h.foldd x hx).eff E (by decide), h.hfold, D, hB, h.tab.eff E (by decide)⟩
theorem Rp.upd {w' c' st' p' ss' rs' ls' fs' rl' ll' fl'} (h : Rp w c wb d m L st p ss rs ls fs rl ll fl) (E : Eff (· = 3) w c w' c')
    (o : Own w' c' wb 3 (.cells #[.pointer (some ⟨d, 0, none⟩), .pointer p', .int .u32 (st'.sum : Int), ss'.val, rs'.val, ls'.val, fs'.val, .bool st'.soft] 32 (0, 0))) (hA : st'.A = st.A)
    (drw : DrP w' c' d st'.dr p') (sm : Row w' c' 4 5 1 ss' (st'.S.map u8)) (recs : RRow w' c' 5 rs' rl') (hrecs : rl'.map (·.1) = st'.R) (late : RRow w' c' 6 ls' ll') (hlate : ll'.map (·.1) = st'.late)
    (fold : Row w' c' 7 29 1 fs' (fl'.map fun x => x.2.val)) (foldd : ∀ x ∈ fl', Row w' c' 7 5 1 x.2 (x.1.map u8)) (hfold : fl'.map (·.1) = st'.folded) : Rp w' c' wb d m L st' p' ss' rs' ls' fs' rl' ll' fl' :=
  ⟨o, drw, sm, recs, hrecs, late, hlate, fold, foldd, hfold, by rw [hA]; exact h.disk.eff E (by decide), by rw [hA]; exact h.ok, h.tab.eff E (by decide)⟩

theorem begin_spec {sum : Nat} {Q : Option Addr → World → Prop} (T : Tab w c) (H : ∀ w' c' wb d, Rep w' c' wb d (LS.zero sum) → Sofar w c w' c' → Q (some ⟨wb, 0, none⟩) w') : levylaw19_begin (sum : Int) Q w := by
  have src : FSrc w c 9 ⟨none, 0, 0⟩ [] := ⟨⟨⟨rfl, .inl ⟨rfl, rfl⟩⟩, fun a ha _ => (by cases ha)⟩, fun p hp => by cases hp⟩
  unfold levylaw19_begin
  refine newDisk_spec 1 src (fun h => by cases h) fun A hA w1 c1 d m L D ch ex => ?_
  obtain rfl : (⟨[], false, -1, 0, 0⟩ : PD) = A := Option.some.inj hA
  rw [if_neg (by exact Bool.false_ne_true)]
  unfold levylaw19_begin.k2
  rw [if_neg (by decide)]
  refine al_own (c := c1) 3 fun wb w2 c2 o2 ch2 ex2 _ => ?_
  have S := Sofar.new ⟨ch, ex⟩ ch2 ex2
  exact H w2 c2 wb d ⟨m, L, none, ⟨none, 0, 0⟩, ⟨none, 0, 0⟩, ⟨none, 0, 0⟩, ⟨none, 0, 0⟩, [], [], [], o2, rfl, Row.nil _ _ _ _ _, RRow.nil _ _ _, rfl, RRow.nil _ _ _, rfl, Row.nil _ _ _ _ _, fun x hx => (by cases hx), rfl, D.new ch2 ex2, ok_zero, T.far S⟩ S

theorem kindOf_nat (k : UInt8) : kindOf (k.toNat : Int) = k := by
  unfold kindOf
  have := k.toNat_lt
  rw [show ((k.toNat : Int) % 256).toNat = k.toNat by omega]
  exact UInt8.ofNat_toNat
/-- a record that is read: its cells, as long as their block stands -/
theorem rix2 {v c' k s rl i} {K : Addr → Prop} (h : RRow v c' k s rl) (hi : i < rl.length)
    (hk : ∀ a g, Sl.blk s = some g → c' g = k → (∀ v' : World, v'.heap[g]? = v.heap[g]? → v'.cell? (a.add 0) = some (.int .u8 (rl[i].1.kind.toNat : Int)) ∧ v'.cell? (a.add 1) = some rl[i].2.val) → K a) : ix s.p s.len (i : Int) 2 K := by
  have hl := h.len
  obtain ⟨h1, h2, h3, h4⟩ := h.row
  obtain ⟨e0, e1⟩ := rcells_at hi
  rcases h4 with ⟨_, h0, _⟩ | ⟨g, cs, hp, ho, hcs, ht⟩
  · omega
  · refine ⟨_, hp, by omega, by omega, hk _ g (by unfold Sl.blk; rw [hp]; rfl) ho.col fun v' hv => ?_⟩
    rw [Int.toNat_natCast]
    have hc : ∀ n u, (rcells rl)[n]? = some u → v'.cell? ⟨g, n, none⟩ = some u := fun n u hu => by
      rw [← ht, List.getElem?_take] at hu
      split at hu
      · simp only [World.cell?, hv, ho.at']
        simpa using hu
      · cases hu
    rw [add_mk, add_mk, add_mk]
    exact ⟨by rw [Nat.zero_add, Nat.add_zero]; exact hc _ _ e0, by rw [Nat.zero_add]; exact hc _ _ e1⟩

/-- the records that were told are copied -/
theorem open_loop {s2 : Sl} {rl2 : List (Rec × Sl)} {Q : Bool → World → Prop} (h : Rp w c wb d m L { st with R := [] } p ss ⟨none, 0, 0⟩ ls fs [] ll fl) (h2 : RRow w c 2 s2 rl2) (hb : rl2.length ≤ 4294967296)
    (hbb : ∀ x ∈ rl2, x.1.body.length ≤ 1048576)
    (H : ∀ w' c', Rep w' c' wb d { st with R := rl2.map (·.1), late := [], folded := [], soft := false } → Eff (fun q => q ≠ 0) w c w' c' → Q true w') :
    Fix (σ := Int) (fun Ks s w => levylaw19_world_open.l38 (some ⟨wb, 0, none⟩) s2 s Q (fun z38_7 w => Ks z38_7 w) w) 0 w := by
  have hl2 := h2.len
  refine Fix.intro (fun (z : Int) v => ∃ (i : Nat) (c' : Col) (rs : Sl) (rl : List (Rec × Sl)), z = i ∧ i ≤ rl2.length ∧ Rp v c' wb d m L { st with R := (rl2.map (·.1)).take i } p ss rs ls fs rl ll fl ∧ RRow v c' 2 s2 rl2 ∧ Eff (fun q => q ≠ 0) w c v c') (fun z _ => rl2.length - z.toNat) ?_
    ⟨0, c, ⟨none, 0, 0⟩, [], rfl, Nat.zero_le _, h, h2, Eff.refl _ _ _⟩
  rintro z v K ⟨i, c', rs, rl, rfl, hi, hv, h2v, E⟩ hK
  unfold levylaw19_world_open.l38
  by_cases hlt : i < rl2.length
  · rw [if_pos (by rw [decide_eq_true_eq]; omega)]
    have hv := hv.drew
    have h2v := h2v.drew
    have E : Eff (fun q => q ≠ 0) w c v.drew c' := E.drew
    generalize v.drew = v0 at *
    have hrll : rl.length = i := by
      have := congrArg List.length hv.hrecs
      simp at this
      omega
    refine nn_some (ld_own hv.own (x := rs) rfl ?_)
    refine rix2 h2v hlt fun a g hg hcg ha => ⟨_, (ha v0 rfl).1, rix2 h2v hlt fun a' g' hg' hcg' ha' => ⟨_, (ha' v0 rfl).2, ?_⟩⟩
    dsimp only
    have hkk := (rl2[i].1.kind).toNat_lt
    rw [Da.wrap_small (i := (rl2[i].1.kind.toNat : Int)) (by omega) (by omega)]
    have hdat := h2v.data _ (List.getElem_mem hlt)
    have hbl := hbb _ (List.getElem_mem hlt)
    have hglt : g < v0.heap.size := by obtain ⟨cs', ho'⟩ := h2v.row.blk hg; exact ho'.lt
    have hglt' : g' < v0.heap.size := by obtain ⟨cs', ho'⟩ := h2v.row.blk hg'; exact ho'.lt
    refine record_spec (c := c') 5 hdat.reads (by omega) fun w1 c1 q hq S1 => ?_
    rw [kindOf_nat]
    have facts : ∀ {v' : World} {c''}, Own v' c'' wb 3 (.cells #[.pointer (some ⟨d, 0, none⟩), .pointer p, .int .u32 (st.sum : Int), ss.val, rs.val, ls.val, fs.val, .bool st.soft] 32 (0, 0)) → v'.heap[g]? = v0.heap[g]? → v'.heap[g']? = v0.heap[g']? →
        (World.cell? v' (Addr.add ⟨wb, 0, none⟩ 4) = some (Sl.val rs) ∧ World.cell? v' (a.add 0) = some (.int .u8 (rl2[i].1.kind.toNat : Int)) ∧ World.cell? v' (a'.add 1) = some (Sl.val rl2[i].2) ∧ True) := fun o e1 e2 =>
      ⟨by rw [add_mk, o.cell]; rfl, (ha _ e1).1, (ha' _ e2).2, trivial⟩
    have hv1 := hv.far S1
    refine ⟨facts hv1.own (S1.ch.same _ hglt id) (S1.ch.same _ hglt' id), ?_⟩
    refine al_own (c := c1) 5 fun b w2 c2 o2 ch2 ex2 hb2 => ?_
    have S2 := S1.new ch2 ex2
    have hv2 := hv.far S2
    refine ⟨facts hv2.own (S2.ch.same _ hglt id) (S2.ch.same _ hglt' id), ?_⟩
    have h22 := h2v.new S2.ch S2.ex
    refine hv2.recs.snoc (r := ⟨rl2[i].1.kind, rl2[i].1.body⟩) o2 (hq.chg ch2 ex2 (fun _ _ => id)) (by omega) fun s3 w3 c3 R3 ch3 ex3 hbl3 => ?_
    have E3 : Eff (· = 5) w2 c2 w3 c3 := Eff.of ch3 ex3 fun g0 _ hg0 => by
      obtain ⟨cs', ho'⟩ := hv2.recs.row.blk hg0
      exact ho'.col
    have hown3 := hv2.own.eff E3 (by decide)
    have keep : ∀ {g0}, g0 < v0.heap.size → c' g0 = 2 → w3.heap[g0]? = v0.heap[g0]? := fun {g0} h0 hc0 => by
      have h1 : g0 < w2.heap.size := Nat.lt_of_lt_of_le h0 S2.ch.size
      rw [E3.chg.same g0 h1 (by rw [S2.ex g0 h0, hc0]; decide)]
      exact S2.ch.same _ h0 id
    refine ⟨facts hown3 (keep hglt hcg) (keep hglt' hcg'), ?_⟩
    refine nn_some (st_own hown3 (by simp) fun w4 o4 ch4 _ => ?_)
    have E4 : Eff (· = 3) w3 c3 w4 c3 := (Eff.refl _ _ _).one ch4 (fun _ => hown3.col)
    rw [Da.wrap_small (i := (i : Int) + 1) (by omega) (by omega)]
    have E24 : Eff (fun q => q = 5 ∨ q = 3) w2 c2 w4 c3 := (E3.mono fun q hq => .inl hq).trans (E4.mono fun q hq => .inr hq)
    refine hK _ _ ⟨i + 1, c3, s3, rl ++ [(⟨rl2[i].1.kind, rl2[i].1.body⟩, q)], by omega, hlt, ⟨o4, hv2.drw.eff E24 (by decide), hv2.sm.eff E24 (by decide), R3.eff E4 (by decide), ?_, hv2.late.eff E24 (by decide), hv2.hlate, hv2.fold.eff E24 (by decide), fun x hx => (hv2.foldd x hx).eff E24 (by decide), hv2.hfold,
      hv2.disk.eff E24 (by decide), hv2.ok, hv2.tab.eff E24 (by decide)⟩, h22.eff E24 (by decide), (E.new S2.ch S2.ex).trans (E24.mono fun q hq => by rcases hq with rfl | rfl <;> decide)⟩ (by omega)
    rw [List.map_append, hv.hrecs]
    show (rl2.map (·.1)).take i ++ [(⟨rl2[i].1.kind, rl2[i].1.body⟩ : Rec)] = (rl2.map (·.1)).take (i + 1)
    rw [List.take_add_one, List.getElem?_map, List.getElem?_eq_getElem hlt]
    rfl
  · rw [if_neg (by rw [decide_eq_true_eq]; omega)]
    have hall : (rl2.map (·.1)).take i = rl2.map (·.1) := List.take_of_length_le (by rw [List.length_map]; omega)
    rw [hall] at hv
    unfold levylaw19_world_open.k31
    refine nn_some (st_own hv.own (by simp) fun w4 o4 ch4 _ => nn_some (st_own o4 (by simp) fun w5 o5 ch5 _ => nn_some (st_own o5 (by simp) fun w6 o6 ch6 _ => ?_)))
    have E6 : Eff (· = 3) v c' w6 c' := (((Eff.refl _ _ _).one ch4 (fun _ => hv.own.col)).one ch5 (fun _ => hv.own.col)).one ch6 (fun _ => hv.own.col)
    exact H w6 c' ⟨m, L, p, ss, rs, ⟨none, 0, 0⟩, ⟨none, 0, 0⟩, rl, [], [], hv.upd (st' := { st with R := rl2.map (·.1), late := [], folded := [], soft := false }) E6 o6 rfl (hv.drw.eff E6 (by decide)) (hv.sm.eff E6 (by decide)) (hv.recs.eff E6 (by decide)) hv.hrecs (RRow.nil _ _ _) rfl (Row.nil _ _ _ _ _) (fun x hx => (by cases hx)) rfl⟩
      (E.trans (E6.mono fun q hq => by rw [hq]; decide))

theorem open_spec {Q : Bool → World → Prop} (h : Rp w c wb d m L st p ss rs ls fs rl ll fl) (hG : Gens st.A.files) (hs : st.sum < 4294967296) (hrl : rl.length ≤ 1099511627776) (C : OpenC st)
    (H : ∀ st', OpenR st st' → ∀ w' c', Rep w' c' wb d st' → Eff (fun q => q ≠ 0) w c w' c' → Q true w') : levylaw19_world_open (some ⟨wb, 0, none⟩) Q w := by
  unfold levylaw19_world_open
  have hd := h.drew
  refine nn_some (ld_own hd.own (x := some ⟨d, 0, none⟩) rfl (nn_some (ld_own hd.own (x := (st.sum : Int)) rfl ?_)))
  have E0 : Eff (fun q => q ≠ 0) w c w.drew c := (Eff.refl _ _ _).drew
  have hcount := h.ok.count
  refine Jn.open_spec 2 hd.disk hd.ok hd.tab (by decide) (by decide) (by decide) hG (fun j hB hne w1 c1 L1 Dn => ?_) (fun j hB he w1 c1 L1 o s1 s2 rl2 Dn W hr1 hr2 hrl2 => ?_)
  · have hj := C j hB
    have h1 := hd.disk' Dn.disk Dn.eff (openP_ok h.ok st.sum j)
    refine nn_some (st_own h1.own (by simp) fun w2 o2 ch2 _ => ?_)
    have E2 : Eff (· = 3) w1 c1 w2 c1 := (Eff.refl _ _ _).one ch2 (fun _ => h1.own.col)
    have R2 := h1.upd (st' := { st with A := (openP st.A st.sum j).2.1, dr := none }) (p' := none) E2 o2 rfl rfl (h1.sm.eff E2 (by decide)) (h1.recs.eff E2 (by decide)) h1.hrecs (h1.late.eff E2 (by decide)) h1.hlate (h1.fold.eff E2 (by decide)) (fun x hx => (h1.foldd x hx).eff E2 (by decide)) h1.hfold
    rw [if_pos (by simpa using hne), if_pos (by rfl), if_pos (by decide), if_pos (by decide)]
    have fin : Q true w2 := H _ ⟨j, hB, .inl ⟨hne, rfl⟩⟩ w2 c1 R2.rep ((E0.trans (Dn.eff.mono fun q hq => by rw [hq]; decide)).trans (E2.mono fun q hq => by rw [hq]; decide))
    unfold levylaw19_world_open.k10
    rcases hj.1 with he | he | he | he
    · exact absurd he hne
    · rw [he, if_pos (by decide)]; exact fin
    · rw [he, if_neg (by decide), if_pos (by decide)]; exact fin
    · rw [he, if_neg (by decide), if_neg (by decide)]; exact fin
  · have hj := C j (fun _ => hB)
    have hdown : st.A.down = false := by
      cases hdn : st.A.down with
      | false => rfl
      | true => unfold openP at he; rw [if_pos hdn] at he; exact absurd he (by decide : (190 : Int) ≠ 0)
    have h1 := hd.disk' Dn.disk Dn.eff (openP_ok h.ok st.sum j)
    refine nn_some (st_own h1.own (by simp) fun w2 o2 ch2 _ => ?_)
    have E2 : Eff (· = 3) w1 c1 w2 c1 := (Eff.refl _ _ _).one ch2 (fun _ => h1.own.col)
    have W2 := W.eff E2 (by decide)
    have hr12 := hr1.eff E2 (by decide)
    have hr22 := hr2.eff E2 (by decide)
    have R2 := h1.upd (st' := { st with A := (openP st.A st.sum j).2.1, dr := some ⟨st.sum, (openP st.A st.sum j).2.2, (recsOf st.A.files j).length, false⟩ }) (p' := some ⟨o, 0, none⟩) E2 o2 rfl ⟨o, rfl, W2⟩ (h1.sm.eff E2 (by decide)) (h1.recs.eff E2 (by decide)) h1.hrecs (h1.late.eff E2 (by decide)) h1.hlate (h1.fold.eff E2 (by decide)) (fun x hx => (h1.foldd x hx).eff E2 (by decide)) h1.hfold
    have E02 : Eff (fun q => q ≠ 0) w c w2 c1 := (E0.trans (Dn.eff.mono fun q hq => by rw [hq]; decide)).trans (E2.mono fun q hq => by rw [hq]; decide)
    rw [if_neg (by decide), if_neg (by exact Bool.false_ne_true)]
    have hrec2 : rl2.length ≤ 4294967296 ∧ (∀ x ∈ rl2, x.1.body.length ≤ 1048576) := by
      have h1 := recsOf_fit (j := j) h.ok
      rw [← hrl2] at h1
      exact ⟨by have := h1.2; rw [List.length_map] at this; omega, fun x hx => h1.1 x.1 (List.mem_map.2 ⟨x, hx, rfl⟩)⟩
    have hbest : j.summary.length ≤ 1099511627776 := by have := hB.fit; omega
    refine may_spec R2 hr12.reads (RSrc.of hr22) hr22.row.2.1 (by omega) hrl fun r w3 hr S3 => ?_
    have hr : r = true := hr (by rw [hrl2]; exact hj.2 he)
    subst hr
    rw [if_pos rfl]
    have R3 := R2.far (S3 c1)
    obtain ⟨o', ho', W3⟩ := R3.drw
    obtain rfl : o = o' := by injection ho' with h1; injection h1
    have hr13 := hr12.chg (S3 c1).ch (S3 c1).ex (fun _ _ => id)
    have hr23 := hr22.new (S3 c1).ch (S3 c1).ex
    refine len_spec W3 ?_
    rw [show ((((recsOf st.A.files j).length : Nat) : Int) != ((s2.len : Nat) : Int)) = false by rw [hr2.len, ← hrl2, List.length_map]; exact bne_self_eq_false _]
    unfold levylaw19_world_open.k23
    rw [if_neg (by exact Bool.false_ne_true)]
    refine copy_new (c := c1) 4 hr13.reads hbest fun w4 c4 s4 hr4 S4 => ?_
    have R4 := R3.far S4
    refine nn_some (st_own R4.own (by simp) fun w5 o5 ch5 _ => nn_some (st_own o5 (by simp) fun w6 o6 ch6 _ => ?_))
    have E6 : Eff (· = 3) w4 c4 w6 c4 := ((Eff.refl _ _ _).one ch5 (fun _ => R4.own.col)).one ch6 (fun _ => R4.own.col)
    have R6 := R4.upd (st' := { st with A := (openP st.A st.sum j).2.1, dr := some ⟨st.sum, (openP st.A st.sum j).2.2, (recsOf st.A.files j).length, false⟩, S := j.summary, R := [] }) (rl' := []) (rs' := ⟨none, 0, 0⟩) E6 o6 rfl (R4.drw.eff E6 (by decide)) (hr4.eff E6 (by decide)) (RRow.nil _ _ _) rfl (R4.late.eff E6 (by decide)) R4.hlate (R4.fold.eff E6 (by decide)) (fun x hx => (R4.foldd x hx).eff E6 (by decide)) R4.hfold
    refine open_loop (st := { st with A := (openP st.A st.sum j).2.1, dr := some ⟨st.sum, (openP st.A st.sum j).2.2, (recsOf st.A.files j).length, false⟩, S := j.summary }) R6 ((hr23.new S4.ch S4.ex).eff E6 (by decide)) hrec2.1 hrec2.2 fun w7 c7 R7 E7 => ?_
    rw [hrl2] at R7
    exact H _ ⟨j, (fun _ => hB), .inr ⟨hdown, he, rfl⟩⟩ w7 c7 R7 ((((E02.new (S3 c1).ch (S3 c1).ex).new S4.ch S4.ex).trans (E6.mono fun q hq => by rw [hq]; decide)).trans E7)
end
end Go.Proofs.YtjnifnlkicajhaaDoor.Kw
