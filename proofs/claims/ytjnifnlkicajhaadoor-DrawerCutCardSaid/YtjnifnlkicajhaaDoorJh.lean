/-
  The journal as it is found on the disk: seek, whole. No condition is put on any statement here.
-/
import Derived.Test.YtjnifnlkicajhaaDoorJg
namespace Go.Proofs.YtjnifnlkicajhaaDoor.Jn
open Go Vc Hp Fs Da Pm Dd
set_option maxRecDepth 4000

/-- all files bear names of generations -/
def Gens (fs : List PF) : Prop := ∀ f ∈ fs, ∃ g, 1 ≤ g ∧ g < 100000000 ∧ f.name = nameP g
theorem Best.gen {P : PF → Prop} {j : JF} (h : Best P j) (hP : ∀ f, P f → ∃ g, 1 ≤ g ∧ g < 100000000 ∧ f.name = nameP g) : j.gen < 100000000 ∧ j.sum < 4294967296 := by
  rcases h with ⟨rfl, _⟩ | ⟨_, f, h3, h4, ⟨k, h5⟩, _⟩
  · exact ⟨by decide, by decide⟩
  · obtain ⟨g, _, h2, h6⟩ := hP f h3
    rw [h6] at h4
    rw [← nameP_inj h4]
    exact ⟨h2, (whole_some h5).2.2⟩

section
variable {w : World} {c : Col} {k d m kk : Nat} {L : List FE} {A : PD} {Q : Int → Int → Sl → Sl → Int → Int → Int → World → Prop}
/-- what holds while the files are looked through -/
structure SI (w : World) (c : Col) (m kk r jb rb : Nat) (es : Array MapEntry) (cl : Nat) (A : PD) (v : World) (c' : Col) (done : List MapEntry) (j : JF) (s1 : Sl) : Prop where
  far : Sofar w c v c'
  it : Own v c' r kk (.mapIter (some m) cl (done.map (·.born)).toArray cl)
  found : Found v c' kk jb j s1 ⟨none, 0, 0⟩ []
  res : Own v c' rb kk (.cells (cells7 JF.none ⟨none, 0, 0⟩ ⟨none, 0, 0⟩ 0).toArray 82 (0, 0))
  sub : ∀ e ∈ done, e ∈ es.toList
  nd : (done.map (·.born)).Nodup
  best : Best (fun f => f ∈ A.files ∧ ∃ e ∈ done, e.key = .string f.name) j
theorem SI.step {r jb rb es cl v c' v2 c2 done j s1} (I : SI w c m kk r jb rb es cl A v c' done j s1) (S : Sofar v c' v2 c2) : SI w c m kk r jb rb es cl A v2 c2 done j s1 :=
  ⟨I.far.new S.ch S.ex, I.it.chg S.ch S.ex id, I.found.far S, I.res.chg S.ch S.ex id, I.sub, I.nd, I.best⟩

theorem seek_k5 {v c' jb rb j s1} (F : Found v c' kk jb j s1 ⟨none, 0, 0⟩ []) (S : Sofar w c v c') (o : Own v c' rb kk (.cells (cells7 JF.none ⟨none, 0, 0⟩ ⟨none, 0, 0⟩ 0).toArray 82 (0, 0))) (hne : jb ≠ rb) (hj : w.heap.size ≤ jb) (hr : w.heap.size ≤ rb)
    (D : DDisk w c k d m L A) (hA : A.Ok) (T : Tab w c) (hB : Best (· ∈ A.files) j) (hG : Gens A.files)
    (H : ∀ w' c' s2 rl, Found w' c' kk jb j s1 s2 rl → rl.map (·.1) = recsOf A.files j → Sofar w c w' c' → Q j.gen j.sum s1 s2 (j.size + sizeR (recsOf A.files j) : Nat) j.all j.sure w') :
    drawer_Disk_seek.k5 (some ⟨d, 0, none⟩) ⟨rb, 0, none⟩ ⟨jb, 0, none⟩ Q v := by
  have hg := (hB.gen hG).1
  have hsm := (hB.gen hG).2
  unfold drawer_Disk_seek.k5
  refine ld_own F.own (x := (j.gen : Int)) rfl ?_
  by_cases h0 : j.gen = 0
  · rw [if_pos (by rw [h0]; decide)]
    have hr0 : recsOf A.files j = [] := by unfold recsOf; rw [if_pos h0]
    refine seek_out S F o rfl hne hr (fun w' F' S' => ?_) rfl
    have := H w' c' ⟨none, 0, 0⟩ [] F' (by rw [hr0]; rfl) S'
    rw [hr0] at this
    exact this
  · rw [if_neg (by rw [beq_iff_eq]; omega)]
    obtain ⟨f, hfm, hfn, ⟨kd, hfw⟩, hsz, hall, hsure, hmax⟩ : ∃ f, f ∈ A.files ∧ f.name = nameP j.gen ∧ (∃ k, whole f.data 0 = some (j.sum, k, j.summary)) ∧ j.size = j.summary.length + 18 ∧ j.all = f.data.length ∧ j.sure = f.sure ∧ ∀ f' g', f' ∈ A.files → f'.name = nameP g' → whole f'.data 0 = none ∨ g' ≤ j.gen := by
      rcases hB with ⟨rfl, _⟩ | ⟨_, f, h⟩
      · exact absurd rfl h0
      · exact ⟨f, h⟩
    have hget : Pm.get A.files (nameP j.gen) = some f := by rw [← hfn]; exact get_mem hA.srt.nodup hfm
    have hrec : recsOf A.files j = reads j.sum (f.data.length + 1) (f.data.drop j.size) 1 := by unfold recsOf; rw [if_neg h0, hget]
    have hdl : f.data.length ≤ 2097152 := (hA.data f hfm).1
    have hle : j.size ≤ f.data.length := by have := (whole_some hfw).1; omega
    have Dv := (D.new S.ch S.ex).eff (j := fun _ => False) (w' := v.drew) (c' := c') (Eff.refl _ _ _).drew id
    obtain ⟨a, u, od, _, _⟩ := id Dv.own
    refine nn_some (ld_own od (x := some m) rfl (ld_own F.own.drew (x := (j.gen : Int)) rfl ?_))
    refine name_spec ((T.far S).drew) hg fun w2 S2 => ?_
    have D2 := Dv.new S2.ch S2.ex
    obtain ⟨a2, u2, od2, _, _⟩ := id D2.own
    have F2 := F.drew.far S2
    refine ⟨⟨by rw [add_mk, od2.cell]; rfl, by rw [add_mk, F2.own.cell]; rfl, trivial⟩, ?_⟩
    refine Dd.look D2.files ?_
    rw [D2.get hA] at hget
    cases hf : fget L (nameP j.gen) with
    | none => rw [hf] at hget; cases hget
    | some e =>
      rw [hf] at hget
      have hpf : e.pf = f := Option.some.inj hget
      subst hpf
      obtain ⟨he, hen⟩ := fget_some hf
      have hfe := D2.files.files e he
      refine nn_some (ld_own hfe.own rfl ?_)
      have S02 := S.drew.new S2.ch S2.ex
      have hread : Reads w 1 e.s (e.data.map u8) := (D.files.files e he).row.reads
      exact seek_loop (all := recsOf A.files j) (fuel := e.data.length + 1) (rl := []) ⟨S02, F2, o.drew.chg S2.ch S2.ex id, by rw [hrec]; rfl, hle, by show e.data.length < e.data.length + 1 + (j.size + 0); omega, fun g hg => (by cases (show (none : Option Nat) = some g from hg))⟩ hne hj hr hdl hsm hread hfe.row.2.1 H

theorem seek_spec (kk : Nat) (D : DDisk w c k d m L A) (hA : A.Ok) (T : Tab w c) (hG : Gens A.files)
    (H : ∀ j, Best (· ∈ A.files) j → ∀ w' c' s1 s2 rl, Row w' c' kk 5 1 s1 (j.summary.map u8) → RRow w' c' kk s2 rl → rl.map (·.1) = recsOf A.files j → Sofar w c w' c' → Q j.gen j.sum s1 s2 (j.size + sizeR (recsOf A.files j) : Nat) j.all j.sure w') :
    drawer_Disk_seek (some ⟨d, 0, none⟩) Q w := by
  unfold drawer_Disk_seek
  refine al_own (c := c) kk fun rb w1 c1 o1 ch1 ex1 hg1 => ?_
  refine al_own (c := c1) kk fun jb w2 c2 o2 ch2 ex2 hg2 => ?_
  have S2 : Sofar w c w2 c2 := Sofar.new ⟨ch1, ex1⟩ ch2 ex2
  have hne : jb ≠ rb := by have := o1.lt; omega
  have hj : w.heap.size ≤ jb := Nat.le_trans ch1.size hg2
  have D2 := D.new S2.ch S2.ex
  obtain ⟨a, u, od, _, _⟩ := id D2.own
  obtain ⟨es, cl, hM0⟩ := D.files.map
  have hM2 := MapS.chg hM0 S2.ch S2.ex id
  refine nn_some (ld_own od (x := some m) rfl (range_map (kk := kk) hM2 fun r w3 c3 or3 ch3 ex3 hr3 => ?_))
  have start : SI w c m kk r jb rb es cl A w3 c3 [] JF.none ⟨none, 0, 0⟩ :=
    ⟨S2.new ch3 ex3, or3, ⟨o2.chg ch3 ex3 id, Row.nil _ _ _ _ _, RRow.nil _ _ _⟩, (o1.chg ch2 ex2 id).chg ch3 ex3 id, fun e he => (by cases he), by simp, Best.zero.congr fun f => ⟨fun h => h.elim, fun h => by obtain ⟨_, e, he, _⟩ := h; cases he⟩⟩
  have hrn : w.heap.size ≤ r := Nat.le_trans S2.ch.size hr3
  refine fix_n (fun n _ v => ∃ c' done j s1, SI w c m kk r jb rb es cl A v c' done j s1 ∧ n = es.toList.length - done.length) ?_ ⟨c3, [], JF.none, ⟨none, 0, 0⟩, start, rfl⟩
  rintro n _ v K ⟨c', done, j, s1, I, rfl⟩ hK
  have hMv := MapS.chg hM0 I.far.ch I.far.ex id
  have Dv := D.new I.far.ch I.far.ex
  unfold drawer_Disk_seek.l61
  refine nx_map hMv I.it (fun hover => ?_) fun e he hnew v2 oi2 ch2 => ?_
  · rw [if_neg (by exact Bool.false_ne_true)]
    have hp : done.Perm es.toList := done_all hMv.born I.nd I.sub (by simpa using hover)
    have hB : Best (· ∈ A.files) j := I.best.congr fun f => ⟨fun h => h.1, fun h => ⟨h, by
      obtain ⟨x, hx, rfl⟩ := List.mem_map.1 (D.perm.mem_iff.2 h)
      have h2 := hMv.ents
      unfold ent at h2
      have h3 : (Value.string x.name, x.ent.2) ∈ (L.map FE.ent).map fun p => (Value.string p.1, p.2) := List.mem_map.2 ⟨x.ent, List.mem_map.2 ⟨x, hx, rfl⟩, rfl⟩
      rw [← h2] at h3
      obtain ⟨e, he, hee⟩ := List.mem_map.1 h3
      exact ⟨e, hp.mem_iff.2 he, (Prod.mk.inj hee).1⟩⟩⟩
    exact seek_k5 I.found I.far I.res hne hj hg1 D hA T hB hG fun w' c' s2 rl F hrl S => H j hB w' c' s1 s2 rl F.sm F.recs hrl S
  · rw [if_pos rfl]
    obtain ⟨f, hfL, hkey, hval, hfA⟩ := mentions Dv hMv he
    obtain ⟨g, hg1', hg2', hgn⟩ := hG _ hfA
    have hgn : f.name = nameP g := hgn
    have hlt : done.length < es.toList.length := by
      have hnn : (e.born :: done.map (·.born)).Nodup := List.nodup_cons.2 ⟨by simpa using hnew, I.nd⟩
      have := hnn.length_le_of_subset (l₂ := es.toList.map (·.born)) (fun b hb => by
        rcases List.mem_cons.1 hb with rfl | hb
        · exact List.mem_map.2 ⟨e, he, rfl⟩
        · obtain ⟨e, he, rfl⟩ := List.mem_map.1 hb
          exact List.mem_map.2 ⟨e, I.sub e he, rfl⟩)
      simp at this ⊢
      omega
    have hpush : ((done.map (·.born)).toArray.push e.born) = ((done ++ [e]).map (·.born)).toArray := by simp
    have S2 := I.far.own ch2 hrn
    have hM2 := MapS.chg hM0 S2.ch S2.ex id
    refine en_map hM2 he oi2 hkey hval ?_
    rw [hpush] at oi2
    rw [hgn]
    have hjr : jb ≠ r := fun e' => by
      have h1 := I.found.own.at'
      rw [e', I.it.at'] at h1
      cases h1
    have hrr : rb ≠ r := fun e' => by
      have h1 := I.res.at'
      rw [e', I.it.at'] at h1
      cases h1
    have Foff : Found v2 c' kk jb j s1 ⟨none, 0, 0⟩ [] := ⟨I.found.own.chg' ch2 hjr, I.found.sm.chg ch2 (Ext.refl _ _) (fun gg hg hh => by
      obtain ⟨cs', ho'⟩ := I.found.sm.blk hg
      have h1 := ho'.at'
      rw [hh, I.it.at'] at h1
      cases h1), RRow.nil _ _ _⟩
    have ro2 := I.res.chg' ch2 hrr
    refine generation_spec (T.far S2) hg2' fun v3 S3 => ?_
    have S03 := S2.new S3.ch S3.ex
    have D3 := D.new S03.ch S03.ex
    have hfe := D3.files.files f hfL
    refine nn_some (ld_own hfe.own rfl ?_)
    have hfdl : f.data.length ≤ 2097152 := (hA.data _ hfA).1
    have F3 := Foff.far S3
    have ro3 := ro2.chg S3.ch S3.ex id
    have oi3 := oi2.chg S3.ch S3.ex id
    -- what was found is looked at, and taken or left
    have fin : ∀ {v4 c4 x z rs} {kd : Int} {q : Sl}, Sofar v3 c' v4 c4 → whole f.data 0 = rs → (rs = none → z = 0) → (∀ s kd' bd, rs = some (s, kd', bd) → x = (s : Int) ∧ z = ((bd.length + 18 : Nat) : Int) ∧ Row v4 c4 kk 5 1 q (bd.map u8)) →
        al v4 (.cells #[.int .u8 0, .slice none 0 0] 37) fun x8_70 w => stN w x8_70 [.int .u8 kd, Sl.val q] fun w => ld (Value.int .i64) w (Addr.add ⟨jb, 0, none⟩ 0) fun x37_82 => (if (decide ((g : Int) ≤ x37_82)) = true then drawer_Disk_seek.k73 (some ⟨d, 0, none⟩) ⟨rb, 0, none⟩ ⟨jb, 0, none⟩ ⟨r, 0, none⟩ (fun w => K () w) (some ⟨f.fb, 0, none⟩) (g : Int) x z x8_70 true Q w else drawer_Disk_seek.k73 (some ⟨d, 0, none⟩) ⟨rb, 0, none⟩ ⟨jb, 0, none⟩ ⟨r, 0, none⟩ (fun w => K () w) (some ⟨f.fb, 0, none⟩) (g : Int) x z x8_70 (z == 0) Q w) := by
      intro v4 c4 x z rs kd q S4 hrs hz hr1
      refine al_own (c := c4) kk fun b v5 c5 o5 ch5 ex5 hb5 => ?_
      have S45 : Sofar v3 c' v5 c5 := S4.new ch5 ex5
      have S05 := S03.new S45.ch S45.ex
      have F5 := F3.far S45
      refine stN_own o5 rfl fun v6 o6 ch6 _ => ?_
      have hbn : w.heap.size ≤ b := Nat.le_trans (S03.new S4.ch S4.ex).ch.size hb5
      have S06 := S05.own ch6 hbn
      have hjb : jb ≠ b := F5.own.neT o5 (by decide)
      have F6 : Found v6 c5 kk jb j s1 ⟨none, 0, 0⟩ [] := ⟨F5.own.chg' ch6 hjb, Row.off F5.sm ch6 o5 (.inl (by decide)), RRow.nil _ _ _⟩
      have ro5 := ro3.chg S45.ch S45.ex id
      have ro6 := ro5.chg' ch6 (ro5.neT o5 (by decide))
      have oi5 := oi3.chg S45.ch S45.ex id
      have hrb : r ≠ b := fun e' => by
        have h1 := oi5.at'
        rw [e', o5.at'] at h1
        cases h1
      have oi6 := oi5.chg' ch6 hrb
      refine ld_own F6.own (x := (j.gen : Int)) rfl ?_
      have hsub : ∀ e' ∈ done ++ [e], e' ∈ es.toList := fun e' he' => by
        rcases List.mem_append.1 he' with h1 | h1
        · exact I.sub e' h1
        · rw [List.mem_singleton.1 h1]; exact he
      have hnd : ((done ++ [e]).map (·.born)).Nodup := by
        rw [List.map_append, List.nodup_append]
        refine ⟨I.nd, by simp, fun a ha b hb => ?_⟩
        simp at hb
        subst hb
        rintro rfl
        exact hnew (by simpa using ha)
      have hset : ∀ x, ((x ∈ A.files ∧ ∃ e ∈ done, e.key = .string x.name) ∨ x = f.pf) ↔ (x ∈ A.files ∧ ∃ e' ∈ done ++ [e], e'.key = .string x.name) := fun x => by
        constructor
        · rintro (⟨h1, e', h2, h3⟩ | rfl)
          · exact ⟨h1, e', List.mem_append_left _ h2, h3⟩
          · exact ⟨hfA, e, by simp, hkey⟩
        · rintro ⟨h1, e', h2, h3⟩
          rcases List.mem_append.1 h2 with h2 | h2
          · exact .inl ⟨h1, e', h2, h3⟩
          · right
            rw [List.mem_singleton.1 h2, hkey] at h3
            have hn : f.name = x.name := by simpa using h3
            have h4 := get_mem hA.srt.nodup h1
            have h5 := get_mem hA.srt.nodup hfA
            rw [show f.pf.name = x.name from hn] at h5
            exact (Option.some.inj (h5.symm.trans h4)).symm
      have hmeas : es.toList.length - (done ++ [e]).length < es.toList.length - done.length := by simp; simp at hlt; omega
      have left : (g ≤ j.gen ∨ whole f.data 0 = none) → K () v6 := fun hs => hK _ () v6 hmeas ⟨c5, done ++ [e], j, s1, ⟨S06, oi6, F6, ro6, hsub, hnd, (I.best.skip (f := f.pf) (g := g) hgn hg1' hs).congr hset⟩, rfl⟩
      unfold drawer_Disk_seek.k73
      by_cases hgj : g ≤ j.gen
      · rw [if_pos (by rw [decide_eq_true_eq]; omega), if_pos rfl]
        exact left (.inl hgj)
      · rw [if_neg (by rw [decide_eq_true_eq]; omega)]
        cases hrs' : rs with
        | none =>
          rw [hz hrs', if_pos (by decide)]
          exact left (.inr (hrs.trans hrs'))
        | some t =>
          obtain ⟨s, kd', bd⟩ := t
          obtain ⟨hx, hzz, hrow⟩ := hr1 s kd' bd hrs'
          subst hx
          subst hzz
          rw [if_neg (by rw [beq_iff_eq]; omega)]
          refine ld_own o6.drew rfl ?_
          have D6 := D.new S06.ch S06.ex
          have hfe6 := D6.files.files f hfL
          refine nn_some (ld_own hfe6.own.drew (x := f.s) rfl (nn_some (ld_own hfe6.own.drew (x := (f.sure : Int)) rfl ?_)))
          have hfl : f.s.len = f.data.length := by have := hfe6.row.1; simp at this; omega
          rw [hfl]
          refine stN_own F6.own.drew rfl fun v7 o7 ch7 _ => ?_
          have ch7' : Chg (· = jb) v6 v7 := ⟨ch7.os, ch7.tape, ch7.output, ch7.size, ch7.same⟩
          have hrow6 : Row v6 c5 kk 5 1 q (bd.map u8) := Row.off (hrow.chg ch5 ex5 (fun _ _ => id)) ch6 o5 (.inl (by decide))
          refine hK _ () v7 hmeas ⟨c5, done ++ [e], ⟨g, s, bd, bd.length + 18, f.data.length, f.sure⟩, q, ⟨S06.own ch7' hj, oi6.chg' ch7' hjr.symm, ⟨o7, Row.off hrow6 ch7' F6.own (.inl (by decide)), RRow.nil _ _ _⟩, ro6.chg' ch7' hne.symm, hsub, hnd, ?_⟩, rfl⟩
          exact (I.best.take (f := f.pf) (g := g) (k := kd') hgn (by omega) (hrs.trans hrs')).congr hset
    refine whole_spec kk (c := c') (n := 0) hfe.row.reads hfe.row.2.1 (by omega) (by omega) (fun hrs v4 c4 S4 => fin S4 hrs (fun _ => rfl) (fun s kd' bd hh => (by cases hh))) (fun s kd' bd hrs v4 c4 q hrow S4 => fin S4 hrs (fun hh => (by cases hh)) (fun s2 kd2 bd2 hh => by
      obtain ⟨rfl, rfl, rfl⟩ : s = s2 ∧ kd' = kd2 ∧ bd = bd2 := by simpa using hh
      exact ⟨rfl, rfl, hrow⟩))
end
end Go.Proofs.YtjnifnlkicajhaaDoor.Jn
