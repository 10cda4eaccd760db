/-
  The program's disk: the names in order. No condition is put on any statement here.
-/
import Derived.Test.YtjnifnlkicajhaaDoorDh
namespace Go.Proofs.YtjnifnlkicajhaaDoor.Dd
open Go Vc Hp Fs Da Pm
set_option maxRecDepth 4000

abbrev sB (x : ByteArray) : List UInt8 := x.data.toList
theorem encStr_sB (x : ByteArray) : encStr (sB x) = .string x := by
  show Value.string ⟨x.data.toList.toArray⟩ = _
  rw [Array.toArray_toList]
theorem sorted_names {l : List PF} (h : Srt l) : ((names l).map sB).Pairwise (fun x y => decide (x ≤ y) = true) := by
  unfold names
  rw [List.map_map, List.pairwise_map]
  refine h.imp fun {a b} hab => ?_
  rw [sLt_dec, decide_eq_true_eq] at hab
  rw [decide_eq_true_eq]
  exact List.le_of_lt hab
theorem done_all {es done : List MapEntry} (hb : (es.map (·.born)).Nodup) (hd : (done.map (·.born)).Nodup) (hs : ∀ e ∈ done, e ∈ es) (hall : ∀ e ∈ es, e.born ∈ done.map (·.born)) : done.Perm es := by
  have inj : ∀ {l : List MapEntry}, (l.map (·.born)).Nodup → l.Nodup := fun {l} h => by
    unfold List.Nodup at *
    rw [List.pairwise_map] at h
    exact h.imp fun {a b} hab e => hab (by rw [e])
  refine (List.perm_ext_iff_of_nodup (inj hd) (inj hb)).2 fun e => ⟨hs e, fun he => ?_⟩
  obtain ⟨e', he', hb'⟩ := List.mem_map.1 (hall e he)
  have : e' = e := by
    have h1 := hs e' he'
    clear hd hs hall he'
    induction es with
    | nil => cases he
    | cons a l ih =>
      simp only [List.map_cons, List.nodup_cons] at hb
      rcases List.mem_cons.1 he with rfl | he2 <;> rcases List.mem_cons.1 h1 with rfl | h12
      · rfl
      · exact absurd (List.mem_map.2 ⟨e', h12, hb'⟩) hb.1
      · exact absurd (List.mem_map.2 ⟨e, he2, hb'.symm⟩) hb.1
      · exact ih hb.2 he2 h12
  rw [← this]; exact he'

/-- what holds while the names are collected -/
structure NI (w : World) (c : Col) (m kk r : Nat) (es : Array MapEntry) (cl : Nat) (z : Sl) (v : World) (c' : Col) (done : List MapEntry) : Prop where
  it : Own v c' r kk (.mapIter (some m) cl (done.map (·.born)).toArray cl)
  row : Row v c' kk 9 1 z (done.map (·.key))
  ch : Chg (fun _ => False) w v
  ex : Ext w c c'
  sub : ∀ e ∈ done, e ∈ es.toList
  nd : (done.map (·.born)).Nodup
  blk : ∀ g, Sl.blk z = some g → w.heap.size ≤ g ∧ g ≠ r

theorem names_spec {w c k d m L A} (kk : Nat) {Q : Sl → World → Prop} (h : DDisk w c k d m L A) (hA : A.Ok)
    (H : ∀ w' c' s', Row w' c' kk 9 1 s' ((names A.files).map Value.string) → Chg (fun _ => False) w w' → Ext w c c' → Q s' w') : drawer_Disk_names (some ⟨d, 0, none⟩) Q w := by
  obtain ⟨a, u, od, _, _⟩ := id h.own
  obtain ⟨es, cl, hM⟩ := h.files.map
  have hesz : es.toList.length = A.files.length := by
    have h1 := congrArg List.length hM.ents
    have h2 := h.perm.length_eq
    simp only [List.length_map] at h1 h2
    omega
  have hcount := hA.count
  unfold drawer_Disk_names
  refine nn_some (ld_own od (x := some m) rfl (range_map (kk := kk) hM fun r w1 c1 or1 ch1 ex1 hr1 => ?_))
  have start : NI w c m kk r es cl ⟨none, 0, 0⟩ w1 c1 [] := ⟨or1, Row.nil _ _ _ _ _, ch1, ex1, fun e he => (by cases he), by simp, fun g hg => by cases (show (none : Option Nat) = some g from hg)⟩
  refine Fix.intro (fun (z : Sl) v => ∃ c' done, NI w c m kk r es cl z v c' done) (fun z _ => es.toList.length - z.len) ?_ ⟨c1, [], start⟩
  rintro z v K ⟨c', done, oi, hz, ch, ex, hs, hn, hblk⟩ hK
  have hMv := MapS.chg hM ch ex id
  have hzl : z.len = done.length := by have := hz.1; simp at this; omega
  have hdl : done.length ≤ es.toList.length := by
    have := hn.length_le_of_subset (l₂ := es.toList.map (·.born)) (fun b hb => by
      obtain ⟨e, he, rfl⟩ := List.mem_map.1 hb
      exact List.mem_map.2 ⟨e, hs e he, rfl⟩)
    simpa using this
  unfold drawer_Disk_names.l8
  refine nx_map hMv oi (fun hover => ?_) fun e he hne w2 oi2 ch2 => ?_
  · -- all have come
    rw [if_neg (by simp)]
    unfold drawer_Disk_names.k1
    have hp : done.Perm es.toList := done_all hM.born hn hs (by simpa using hover)
    have hkeys : ∃ xs : List ByteArray, done.map (·.key) = xs.map Value.string ∧ xs.Perm (names A.files) := by
      have h1 : (es.toList.map (·.key)) = (L.map FE.name).map Value.string := by
        have := congrArg (List.map (·.1)) hM.ents
        simpa [List.map_map, Function.comp_def, FE.ent] using this
      have h2 : (done.map (·.key)).Perm ((L.map FE.name).map Value.string) := by rw [← h1]; exact hp.map _
      let un : Value → ByteArray := fun v => match v with | .string x => x | _ => ⟨#[]⟩
      refine ⟨(done.map (·.key)).map un, ?_, ?_⟩
      · rw [List.map_map]
        refine ((List.map_congr_left fun v hv => ?_).trans (List.map_id _)).symm
        obtain ⟨x, _, rfl⟩ := List.mem_map.1 (h2.mem_iff.1 hv)
        rfl
      · have h3 := h2.map un
        have e3 : ((L.map FE.name).map Value.string).map un = L.map FE.name := by rw [List.map_map]; exact List.map_id _
        rw [e3, ← FE.names] at h3
        exact h3.trans (names_perm h.perm)
    obtain ⟨xs, hx1, hx2⟩ := hkeys
    have hx3 : xs.map Value.string = (xs.map sB).map encStr := by
      rw [List.map_map]
      exact List.map_congr_left fun x _ => (encStr_sB x).symm
    rw [hx1, hx3] at hz
    have hxl : xs.length ≤ 40 := by
      have := hx2.length_eq
      unfold names at this
      simp at this
      omega
    refine sort_row hz (by simp; omega) fun w2 hrow ch2 => ?_
    have hsort : ((xs.map sB).mergeSort fun x y => decide (x ≤ y)) = (names A.files).map sB := by
      have h1 : (xs.map sB).Perm ((names A.files).map sB) := hx2.map _
      exact (mergeSort_of_perm h1).trans (List.mergeSort_of_pairwise (sorted_names hA.srt))
    rw [hsort, List.map_map] at hrow
    have : (names A.files).map (encStr ∘ sB) = (names A.files).map Value.string := List.map_congr_left fun x _ => encStr_sB x
    rw [this] at hrow
    exact H w2 c' z hrow (fresh ch ch2 fun b hb => (hblk b hb).1) ex
  · rw [if_pos rfl]
    have hpush : ((done.map (·.born)).toArray.push e.born) = ((done ++ [e]).map (·.born)).toArray := by simp
    have ch2' := fresh ch ch2 fun b hb => by
      rw [hb]
      exact Nat.le_trans (by omega) hr1
    obtain ⟨x, hx⟩ : ∃ x, e.key = .string x := by
      have h1 : ∃ p ∈ L.map FE.ent, e.key = .string p.1 := by
        have := hM.ents
        unfold ent at this
        have h2 : (e.key, e.val) ∈ es.toList.map (fun e => (e.key, e.val)) := List.mem_map.2 ⟨e, he, rfl⟩
        rw [this] at h2
        obtain ⟨p, hp, hpe⟩ := List.mem_map.1 h2
        exact ⟨p, hp, by rw [← (Prod.mk.inj hpe).1]⟩
      obtain ⟨p, _, h2⟩ := h1
      exact ⟨p.1, h2⟩
    obtain ⟨q, hq⟩ : ∃ q, e.val = .pointer q := by
      have h2 : (e.key, e.val) ∈ es.toList.map (fun e => (e.key, e.val)) := List.mem_map.2 ⟨e, he, rfl⟩
      have := hM.ents
      unfold ent at this
      rw [this] at h2
      obtain ⟨p, hp, hpe⟩ := List.mem_map.1 h2
      obtain ⟨f, _, rfl⟩ := List.mem_map.1 hp
      exact ⟨some ⟨f.fb, 0, none⟩, by rw [← (Prod.mk.inj hpe).2]; rfl⟩
    have hM2 := MapS.chg hM ch2' ex id
    refine en_map hM2 he oi2 hx hq ?_
    rw [hpush] at oi2
    have hz2 := hz.chg ch2 (Ext.refl _ _) (fun g hg hh => (hblk g hg).2 hh)
    refine al_own (c := c') kk fun b w3 c3 o3 ch3 ex3 hb3 => ?_
    have hz3 := hz2.chg ch3 ex3 (fun _ _ => id)
    have oi3 := oi2.chg ch3 ex3 id
    have src : Reads w3 1 ⟨some ⟨b, 0, none⟩, 1, 1⟩ [Value.string x] := ⟨rfl, .inr ⟨_, rfl, fun j u hu => by
      have hj : j = 0 := by
        rcases j with _ | j
        · rfl
        · simp at hu
      subst hj
      rw [add_mk, o3.cell]
      simpa using hu⟩⟩
    have hfit : (z.len + (⟨some ⟨b, 0, none⟩, 1, 1⟩ : Sl).len) * (16 + 1) ≤ 140737488355328 := by dsimp only; omega
    have hone : ∀ u ∈ [Value.string x], u.oneCell' = true := fun u hu => by rw [List.mem_singleton.1 hu]; rfl
    refine append_any (s := z) (x := ⟨some ⟨b, 0, none⟩, 1, 1⟩) 70 Tryd.underlying70 iS rfl hz3 src hone hfit fun s' w4 c4 hrow ch4 ex4 hbl hlen => ?_
    have ch3' := fresh ch2' ch3 (fun _ => False.elim)
    have ex3' := freshX ch2' ex ex3 ch3
    have hri : ∀ g, Sl.blk z = some g → ¬ r = g := fun g hg hh => (hblk g hg).2 hh.symm
    have next : NI w c m kk r es cl s' w4 c4 (done ++ [e]) := by
      refine ⟨oi3.chg ch4 ex4 (fun hh => hri r hh rfl), ?_, fresh ch3' ch4 (fun b hb => (hblk b hb).1), freshX ch3' ex3' ex4 ch4, fun e' he' => ?_, ?_, fun g hg => ?_⟩
      · rw [List.map_append]
        rw [show ([e].map fun x => x.key) = [Value.string x] by simp [hx]]
        exact hrow
      · rcases List.mem_append.1 he' with h1 | h1
        · exact hs e' h1
        · rw [List.mem_singleton.1 h1]; exact he
      · rw [List.map_append, List.nodup_append]
        refine ⟨hn, by simp, fun a ha b hb => ?_⟩
        simp at hb
        subst hb
        rintro rfl
        exact hne (by simpa using ha)
      · rcases hbl g hg with h1 | h1
        · exact hblk g h1
        · have := oi3.lt
          have := ch3'.size
          omega
    refine hK s' w4 ⟨c4, done ++ [e], next⟩ ?_
    · show es.toList.length - s'.len < es.toList.length - z.len
      have hlt : done.length < es.toList.length := by
        have hnn : (e.born :: done.map (·.born)).Nodup := List.nodup_cons.2 ⟨by simpa using hne, hn⟩
        have := hnn.length_le_of_subset (l₂ := es.toList.map (·.born)) (fun b hb => by
          rcases List.mem_cons.1 hb with rfl | hb
          · exact List.mem_map.2 ⟨e, he, rfl⟩
          · obtain ⟨e, he, rfl⟩ := List.mem_map.1 hb
            exact List.mem_map.2 ⟨e, hs e he, rfl⟩)
        simp at this ⊢
        omega
      have : s'.len = z.len + 1 := hlen
      omega
end Go.Proofs.YtjnifnlkicajhaaDoor.Dd
