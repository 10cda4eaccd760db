/-
  The reference's disk: a list of files in order; where a name stands in it. No condition is put on any statement here.
-/
import Derived.Test.YtjnifnlkicajhaaDl
namespace Go.Proofs.Ytjnifnlkicajhaa.Rd
open Go Vc Hp Fs Da Pm Dd
set_option maxRecDepth 4000

/-! ### the place of a name -/
def pos : List PF → ByteArray → Nat
  | [], _ => 0
  | f :: l, x => if sLt f.name x = true then pos l x + 1 else 0
theorem pos_le : ∀ (l : List PF) (x : ByteArray), pos l x ≤ l.length
  | [], _ => Nat.le_refl _
  | f :: l, x => by
    unfold pos
    split
    · have := pos_le l x; simp; omega
    · simp
theorem pos_lt : ∀ {l : List PF} {x : ByteArray} {i : Nat} (h : i < l.length), i < pos l x → sLt l[i].name x = true
  | [], _, _, h, _ => by cases h
  | f :: l, x, i, h, hi => by
    unfold pos at hi
    split at hi
    · rename_i hf
      rcases i with _ | i
      · exact hf
      · exact pos_lt (l := l) (by simpa using h) (by omega)
    · omega
theorem pos_at : ∀ {l : List PF} {x : ByteArray} (h : pos l x < l.length), sLt (l[pos l x]'h).name x = false
  | [], _, h => by cases h
  | f :: l, x, h => by
    by_cases hf : sLt f.name x = true
    · have e : pos (f :: l) x = pos l x + 1 := by simp [pos, hf]
      have h' : pos l x < l.length := by rw [e] at h; simpa using h
      have := pos_at h'
      simp only [e, List.getElem_cons_succ]
      exact this
    · have e : pos (f :: l) x = 0 := by simp [pos, hf]
      simp only [e, List.getElem_cons_zero]
      simpa using hf
/-- it is there just if it stands at its place -/
theorem get_pos : ∀ {l : List PF} {x : ByteArray}, Srt l → (∀ f, Pm.get l x = some f → ∃ h : pos l x < l.length, l[pos l x] = f) ∧ (Pm.get l x = none → ∀ h : pos l x < l.length, l[pos l x].name ≠ x)
  | [], x, _ => ⟨fun f h => (by cases h), fun _ h => (by cases h)⟩
  | g :: l, x, hs => by
    unfold Srt at hs
    rw [List.pairwise_cons] at hs
    obtain ⟨ih1, ih2⟩ := get_pos (x := x) hs.2
    by_cases hx : g.name = x
    · have hp : pos (g :: l) x = 0 := by
        unfold pos
        rw [if_neg]
        rw [hx, sLt_irrefl]
        exact Bool.false_ne_true
      have hg : Pm.get (g :: l) x = some g := by unfold Pm.get; rw [List.find?_cons_of_pos (by simpa using hx)]
      refine ⟨fun f h => ?_, fun h => ?_⟩
      · rw [hg] at h
        obtain rfl := Option.some.inj h
        exact ⟨by rw [hp]; simp, by simp only [hp, List.getElem_cons_zero]⟩
      · rw [hg] at h; cases h
    · have hg : Pm.get (g :: l) x = Pm.get l x := by unfold Pm.get; rw [List.find?_cons_of_neg (by simpa using hx)]
      rw [hg]
      by_cases hlt : sLt g.name x = true
      · have hp : pos (g :: l) x = pos l x + 1 := by rw [pos, if_pos hlt]
        refine ⟨fun f h => ?_, fun h hl => ?_⟩
        · obtain ⟨h1, h2⟩ := ih1 f h
          exact ⟨by rw [hp]; simpa using h1, by simp only [hp, List.getElem_cons_succ]; exact h2⟩
        · simp only [hp, List.getElem_cons_succ]
          exact ih2 h (by rw [hp] at hl; simpa using hl)
      · have hp : pos (g :: l) x = 0 := by rw [pos, if_neg hlt]
        refine ⟨fun f h => ?_, fun h hl => by simp only [hp, List.getElem_cons_zero]; exact hx⟩
        obtain ⟨hf, hn⟩ := get_some h
        have := hs.1 f hf
        rw [hn] at this
        exact absurd this hlt
theorem ins_pos (f : PF) : ∀ l : List PF, ins f l = l.take (pos l f.name) ++ f :: l.drop (pos l f.name)
  | [] => rfl
  | g :: l => by
    unfold ins pos
    split
    · simp only [List.take_succ_cons, List.drop_succ_cons, List.cons_append]
      rw [ins_pos f l]
    · rfl
theorem nodup_at {l : List PF} {i j : Nat} (hn : (names l).Nodup) (hi : i < l.length) (hj : j < l.length) (h : l[i].name = l[j].name) : i = j := by
  unfold names List.Nodup at hn
  rw [List.pairwise_map] at hn
  rcases Nat.lt_trichotomy i j with hlt | rfl | hlt
  · exact absurd h (List.pairwise_iff_getElem.1 hn _ _ _ _ hlt)
  · rfl
  · exact absurd h.symm (List.pairwise_iff_getElem.1 hn _ _ _ _ hlt)
theorem setf_pos {l : List PF} {i : Nat} {g : PF → PF} (hn : (names l).Nodup) (hi : i < l.length) : setf l l[i].name g = l.set i (g l[i]) := by
  unfold setf
  apply List.ext_getElem (by simp)
  intro j h1 h2
  have hj : j < l.length := by simpa using h2
  simp only [List.getElem_map, List.getElem_set]
  by_cases h : i = j
  · subst h; simp
  · rw [if_neg h, if_neg (fun e => h (nodup_at hn hj hi e).symm)]
theorem rem_pos : ∀ {l : List PF} {i : Nat}, (names l).Nodup → (hi : i < l.length) → rem l l[i].name = l.take i ++ l.drop (i + 1)
  | [], _, _, h => by cases h
  | f :: l, 0, hn, _ => by
    unfold names at hn
    simp only [List.map_cons, List.nodup_cons] at hn
    unfold rem
    rw [List.getElem_cons_zero, List.filter_cons_of_neg (by simp)]
    simp only [List.take_zero, List.nil_append, List.drop_succ_cons, List.drop_zero]
    rw [List.filter_eq_self]
    intro g hg
    have : g.name ≠ f.name := fun e => hn.1 (by rw [← e]; exact List.mem_map.2 ⟨g, hg, rfl⟩)
    simpa using this
  | f :: l, i + 1, hn, h => by
    unfold names at hn
    simp only [List.map_cons, List.nodup_cons] at hn
    have hi : i < l.length := by simpa using h
    have hne : ¬ f.name = l[i].name := fun e => hn.1 (by rw [e]; exact List.mem_map.2 ⟨_, List.getElem_mem hi, rfl⟩)
    have ih := rem_pos hn.2 hi
    unfold rem at ih ⊢
    rw [List.getElem_cons_succ, List.filter_cons_of_pos (by simpa using hne)]
    simp only [List.take_succ_cons, List.drop_succ_cons, List.cons_append]
    rw [ih]

/-! ### in memory -/
structure RDisk (w : World) (c : Col) (k b : Nat) (s : Sl) (fl : List (AF × Sl)) (A : PD) : Prop where
  own : Own w c b k (.cells #[s.val, .bool A.down, .int .i64 A.units, .int .i64 A.after, .int .i64 A.calls] 100 (0, 0))
  list : FRow w c k s fl
  what : fl.map (·.1) = A.files.map PF.af

theorem RDisk.len {w c k b s fl A} (h : RDisk w c k b s fl A) : fl.length = A.files.length ∧ s.len = A.files.length := by
  have h1 := congrArg List.length h.what
  have h2 := h.list.row.1
  rw [fcells_len] at h2
  simp at h1
  omega
theorem RDisk.at {w c k b s fl A i} (h : RDisk w c k b s fl A) (hi : i < A.files.length) : ∃ h' : i < fl.length, fl[i].1 = A.files[i].af := by
  have hl := h.len
  refine ⟨by omega, ?_⟩
  have := List.getElem_map (l := fl) (fun p : AF × Sl => p.1) (i := i) (h := by simp; omega)
  rw [← this]
  simp only [h.what, List.getElem_map]
theorem RDisk.new {w c k b s fl A w' c'} (h : RDisk w c k b s fl A) (hc : Chg (fun _ => False) w w') (he : Ext w c c') : RDisk w' c' k b s fl A := ⟨h.own.chg hc he id, h.list.new hc he, h.what⟩
theorem RDisk.eff {w c k b s fl A j w' c'} (h : RDisk w c k b s fl A) (hc : Eff j w c w' c') (hj : ¬ j k) : RDisk w' c' k b s fl A := ⟨h.own.eff hc hj, h.list.eff hc hj, h.what⟩
theorem RDisk.drew {w c k b s fl A} (h : RDisk w c k b s fl A) : RDisk w.drew c k b s fl A := ⟨h.own.drew, h.list.drew, h.what⟩
theorem RDisk.offOwn {w c k b s fl A} (h : RDisk w c k b s fl A) : ∀ g, Sl.blk s = some g → g ≠ b := fun g hg e => by
  obtain ⟨cs, ho⟩ := h.list.row.blk hg
  exact ho.neT h.own (by decide) e
/-- a field of the struct, not the list -/
theorem r_st {w c b k s fl cs i v} {K : World → Prop} (ho : Own w c b k (.cells cs 100 (0, 0))) (hf : FRow w c k s fl) (hi : i < cs.size)
    (hk : ∀ w', Own w' c b k (.cells (cs.setIfInBounds i v) 100 (0, 0)) → FRow w' c k s fl → Chg (· = b) w w' → w'.heap.size = w.heap.size → K w') : st w (Addr.add ⟨b, 0, none⟩ i) v K :=
  st_own ho hi fun w' h1 h2 h3 => hk w' h1 (hf.chg h2 (Ext.refl _ _) (fun g hg e => by
    obtain ⟨cs, ho'⟩ := hf.row.blk hg
    exact ho'.neT ho (by decide) e) (fun p hp g hg e => by
    obtain ⟨cs, ho'⟩ := (hf.data p hp).blk hg
    exact ho'.neT ho (by decide) e)) h2 h3

theorem falls_spec {w c k b s fl A} {Q : World → Prop} (h : RDisk w c k b s fl A) (H : ∀ w', RDisk w' c k b s fl A.fall → Chg (· = b) w w' → w'.heap.size = w.heap.size → Q w') : levyref19_Disk_falls (some ⟨b, 0, none⟩) Q w := by
  unfold levyref19_Disk_falls
  refine nn_some (r_st h.own h.list (by simp) fun w1 o1 f1 c1 s1 => nn_some (r_st o1 f1 (by simp) fun w2 o2 f2 c2 s2 => nn_some (r_st o2 f2 (by simp) fun w3 o3 f3 c3 s3 => nn_some (r_st o3 f3 (by simp) fun w4 o4 f4 c4 s4 => ?_))))
  exact H w4 ⟨o4, f4, h.what⟩ (((c1.trans c2).trans c3).trans c4) (by rw [s4, s3, s2, s1])

theorem rnamed_spec {x : ByteArray} {Q : Bool → World → Prop} {w : World} (hx : x.size < 9223372036854775807) (h : Q (namedB x) w) : levyref19_named x Q w := by
  unfold levyref19_named
  refine Fix.intro (fun (z : Int) v => v = w ∧ ∃ i : Nat, z = i ∧ i ≤ x.size ∧ (x.data.toList.take i).all okc = true) (fun z _ => (x.size - z.toNat)) ?_ ⟨rfl, 0, rfl, Nat.zero_le _, by simp⟩
  rintro z v K ⟨rfl, i, rfl, hi, hall⟩ hK
  unfold levyref19_named.l8
  by_cases hlt : i < x.size
  · rw [if_pos (by rw [decide_eq_true_eq]; omega)]
    refine ⟨by omega, by omega, ?_⟩
    rw [byteAt_nat x i hlt]
    have hl : i < x.data.toList.length := by simpa using hlt
    have hta := take_all x.data.toList i hl
    have k9 : ∀ y, y = !(okc x.data.toList[i]) → levyref19_named.k13 x i K y Q v := by
      intro y hy
      unfold levyref19_named.k13
      cases hk : okc x.data.toList[i] with
      | true =>
        rw [hk] at hy
        simp only [hy, Bool.not_true, Bool.false_eq_true, if_false]
        rw [Da.wrap_small (i := (i : Int) + 1) (by omega) (by omega)]
        refine hK _ _ ⟨rfl, i + 1, by simp, by omega, by rw [hta, hall, hk]; rfl⟩ (by omega)
      | false =>
        rw [hk] at hy
        simp only [hy, Bool.not_false, if_true]
        have : namedB x = false := by
          unfold namedB
          rw [Bool.and_eq_false_iff]
          right
          rw [List.all_eq_false]
          exact ⟨_, List.getElem_mem hl, by rw [hk]; exact Bool.false_ne_true⟩
        rw [this] at h
        exact h
    generalize hb : x.data.toList[i] = b at *
    have hz : b.toNat < 256 := b.toNat_lt
    have kT : (97 ≤ b.toNat ∧ b.toNat ≤ 122) ∨ (48 ≤ b.toNat ∧ b.toNat ≤ 57) → levyref19_named.k13 x i K (!true) Q v := fun hp => k9 _ (by
      congr 1; symm; unfold okc; rw [decide_eq_true_eq]; omega)
    have kF : ¬ ((97 ≤ b.toNat ∧ b.toNat ≤ 122) ∨ (48 ≤ b.toNat ∧ b.toNat ≤ 57)) → levyref19_named.k13 x i K (!((b.toNat : Int) == 45)) Q v := fun hp => k9 _ (by
      congr 1; unfold okc; rw [Bool.eq_iff_iff, beq_iff_eq, decide_eq_true_eq]; omega)
    simp only [decide_eq_true_eq, ge_iff_le]
    repeat' split
    all_goals first
      | exact kT (by omega)
      | exact kF (by omega)
  · rw [if_neg (by rw [decide_eq_true_eq]; omega)]
    have hi' : i = x.size := by omega
    rw [hi', List.take_of_length_le (by simp)] at hall
    unfold levyref19_named.k1 levyref19_named.k2
    have hn : namedB x = decide (1 ≤ x.size ∧ x.size ≤ 12) := by unfold namedB; rw [hall, Bool.and_true]
    by_cases h1 : 1 ≤ x.size
    · rw [if_pos (by rw [decide_eq_true_eq]; omega)]
      have : decide (((x.size : Nat) : Int) ≤ 12) = namedB x := by rw [hn, Bool.eq_iff_iff, decide_eq_true_eq, decide_eq_true_eq]; omega
      rw [this]; exact h
    · rw [if_neg (by rw [decide_eq_true_eq]; omega)]
      have : false = namedB x := by rw [hn]; symm; rw [decide_eq_false_iff_not]; omega
      rw [this]; exact h
end Go.Proofs.Ytjnifnlkicajhaa.Rd
