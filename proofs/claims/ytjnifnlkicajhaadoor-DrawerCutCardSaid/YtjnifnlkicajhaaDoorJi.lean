/-
  The drawer's calls as functions of the disk; lay and mend. No condition is put on any statement here.
-/
import Derived.Test.YtjnifnlkicajhaaDoorJh
import Derived.Test.YtjnifnlkicajhaaDoorDf
import Derived.Test.YtjnifnlkicajhaaDoorDg
namespace Go.Proofs.YtjnifnlkicajhaaDoor.Jn
open Go Vc Hp Fs Da Pm Dd
set_option maxRecDepth 4000

/-! ### in plain words -/
def layP (A : PD) (x : ByteArray) (b : List UInt8) : Int × PD := if (A.append x b).1 ≠ 0 then A.append x b else (A.append x b).2.sync x
def rmP (g : Nat) : List ByteArray → PD → Int × PD
  | [], A => (0, A)
  | n :: r, A => if n = nameP g then rmP g r A else if (A.remove n).1 ≠ 0 then A.remove n else rmP g r (A.remove n).2
def cutP (A : PD) (j : JF) (size : Nat) : Int × PD := if 1 ≤ j.gen ∧ size < j.all then A.trim (nameP j.gen) size else (0, A)
def sureP (A : PD) (j : JF) (size : Nat) : Int × PD := if 1 ≤ j.gen ∧ j.sure < size then A.sync (nameP j.gen) else (0, A)
def mendP (A : PD) (j : JF) (size : Nat) : Int × PD :=
  if (cutP A j size).1 ≠ 0 then cutP A j size else
  if (sureP (cutP A j size).2 j size).1 ≠ 0 then sureP (cutP A j size).2 j size else
  rmP j.gen (names (sureP (cutP A j size).2 j size).2.files) (sureP (cutP A j size).2 j size).2
theorem layP_ok {A : PD} (h : A.Ok) (x : ByteArray) (b : List UInt8) : (layP A x b).2.Ok := by
  unfold layP
  split
  · exact h.append x b
  · exact (h.append x b).sync x
theorem cutP_ok {A : PD} (h : A.Ok) (j : JF) (size : Nat) : (cutP A j size).2.Ok := by
  unfold cutP
  split
  · exact h.trim _ _
  · exact h
theorem sureP_ok {A : PD} (h : A.Ok) (j : JF) (size : Nat) : (sureP A j size).2.Ok := by
  unfold sureP
  split
  · exact h.sync _
  · exact h
theorem rmP_ok : ∀ (g : Nat) (l : List ByteArray) {A : PD}, A.Ok → (rmP g l A).2.Ok
  | _, [], _, h => h
  | g, n :: r, A, h => by
    unfold rmP
    split
    · exact rmP_ok g r h
    split
    · exact h.remove n
    · exact rmP_ok g r (h.remove n)
theorem mendP_ok {A : PD} (h : A.Ok) (j : JF) (size : Nat) : (mendP A j size).2.Ok := by
  unfold mendP
  split
  · exact cutP_ok h j size
  split
  · exact sureP_ok (cutP_ok h j size) j size
  · exact rmP_ok _ _ (sureP_ok (cutP_ok h j size) j size)

theorem change_names {A : PD} {x : ByteArray} {g : List PF → List PF} (hg : ∀ l, names (g l) = names l) : names (A.change x g).2.files = names A.files := by
  unfold PD.change
  split
  · rw [PD.first_files]
  dsimp only
  split
  · rw [PD.first_files]
  split
  · dsimp only
    rw [hg, PD.pay_files, PD.first_files]
  · rw [PD.pay_files, PD.first_files]
theorem sync_names (A : PD) (x : ByteArray) : names (A.sync x).2.files = names A.files := change_names fun _ => names_setf fun _ => rfl
theorem trim_names (A : PD) (x : ByteArray) (n : Int) : names (A.trim x n).2.files = names A.files := change_names fun _ => names_setf fun _ => rfl
theorem Gens.of_names {fs fs' : List PF} (h : Gens fs) (hn : names fs' = names fs) : Gens fs' := by
  intro f hf
  have h1 : f.name ∈ names fs := by rw [← hn]; exact List.mem_map.2 ⟨f, hf, rfl⟩
  obtain ⟨f0, hf0, h2⟩ := List.mem_map.1 h1
  obtain ⟨g, h3, h4, h5⟩ := h f0 hf0
  exact ⟨g, h3, h4, by rw [← h2]; exact h5⟩

/-! ### the walk -/
section
variable {w : World} {c : Col} {k d m kk : Nat} {L : List FE} {A : PD} {Q : Int → World → Prop}
/-- what a call has done to the disk -/
structure Done (w : World) (c : Col) (k d m : Nat) (B : PD) (w' : World) (c' : Col) (L' : List FE) : Prop where
  disk : DDisk w' c' k d m L' B
  eff : Eff (· = k) w c w' c'
theorem Done.far {w' c' L' w2 c2 B} (h : Done w c k d m B w' c' L') (S : Sofar w' c' w2 c2) : Done w c k d m B w2 c2 L' := ⟨h.disk.new S.ch S.ex, h.eff.new S.ch S.ex⟩
theorem Sofar.eff {w' c'} {j : Nat → Prop} (S : Sofar w c w' c') : Eff j w c w' c' := (Eff.refl _ _ _).new S.ch S.ex
theorem Done.start (D : DDisk w c k d m L A) : Done w c k d m A w c L := ⟨D, Eff.refl _ _ _⟩

theorem lay_spec {x : ByteArray} {s : Sl} {b : List UInt8} {j : Nat} (D : DDisk w c k d m L A) (hA : A.Ok) (src : Src w c j 1 s (b.map u8)) (hj : j ≠ k) (hcap : s.len ≤ s.cap) (hb : b.length ≤ 1099511627776)
    (H : ∀ w' c' L', Done w c k d m (layP A x b).2 w' c' L' → Q (layP A x b).1 w') : drawer_Disk_lay (some ⟨d, 0, none⟩) x s Q w := by
  unfold drawer_Disk_lay
  refine append_spec D hA src hj hcap hb fun w1 c1 L1 D1 E1 => ?_
  unfold layP at H
  by_cases h0 : (A.append x b).1 = 0
  · rw [if_neg (by simp [h0])]
    rw [if_neg (by simp [h0])] at H
    refine sync_spec D1 (hA.append x b) fun w2 L2 D2 E2 => H w2 c1 L2 ⟨D2, E1.trans E2⟩
  · rw [if_pos (by simpa using h0)]
    rw [if_pos h0] at H
    exact H w1 c1 L1 ⟨D1, E1⟩

theorem ix_ld {w : World} {s : Sl} {vs : List Value} {i : Nat} {α : Type} {f : α → Value} {x : α} {K : α → Prop} (h : Reads w 1 s vs) (hv : vs[i]? = some (f x)) (hk : K x) : ix s.p s.len (i : Int) 1 fun a => ld f w a K := by
  obtain ⟨h1, h2⟩ := h
  have hi : i < vs.length := (List.getElem?_eq_some_iff.1 hv).1
  rw [Nat.mul_one] at h1
  rcases h2 with ⟨_, h0⟩ | ⟨a, hp, hh⟩
  · omega
  · refine ⟨a, hp, by omega, by omega, x, ?_, hk⟩
    rw [Int.toNat_natCast, Nat.mul_one]
    exact hh i _ hv

theorem mend_k4 {v c' jb cs gen} (Dn : Done w c k d m A v c' L) (hA : A.Ok) (T : Tab v c') (hk : k ≠ 0) (hkk : kk ≠ k) (o : Own v c' jb kk (.cells cs 82 (0, 0))) (hcs : cs[0]? = some (.int .i64 (gen : Nat))) (hgen : gen < 100000000) (hG : Gens A.files)
    (H : ∀ w' c' L', Done w c k d m (rmP gen (names A.files) A).2 w' c' L' → Q (rmP gen (names A.files) A).1 w') : drawer_Disk_mend.k4 (some ⟨d, 0, none⟩) ⟨jb, 0, none⟩ Q v := by
  unfold drawer_Disk_mend.k4
  refine names_spec kk Dn.disk hA fun w1 c1 s1 hrow ch1 ex1 => ?_
  have hcount := hA.count
  have hsl : s1.len = (names A.files).length := by have := hrow.1; simp at this; omega
  have hnl : (names A.files).length ≤ 40 := by unfold names; rw [List.length_map]; exact hcount
  have Dn1 := Dn.far ⟨ch1, ex1⟩
  have T1 := T.new ch1 ex1
  have o1 := o.chg ch1 ex1 id
  have hgn : ∀ n ∈ names A.files, ∃ g, 1 ≤ g ∧ g < 100000000 ∧ n = nameP g := fun n hn => by
    obtain ⟨f, hf, rfl⟩ := List.mem_map.1 hn
    exact hG f hf
  refine Fix.intro (fun (z : Int) v => ∃ (i : Nat) (c' : Col) (L' : List FE) (B : PD), z = i ∧ i ≤ (names A.files).length ∧ B.Ok ∧ Done w c k d m B v c' L' ∧ Tab v c' ∧ Own v c' jb kk (.cells cs 82 (0, 0)) ∧ Row v c' kk 9 1 s1 ((names A.files).map Value.string) ∧
      rmP gen (names A.files) A = rmP gen ((names A.files).drop i) B) (fun z _ => (names A.files).length - z.toNat) ?_ ⟨0, c1, L, A, rfl, Nat.zero_le _, hA, Dn1, T1, o1, hrow, rfl⟩
  rintro z v2 K ⟨i, c2, L2, B, rfl, hi, hB, Dn2, T2, o2, row2, hrm⟩ hK
  unfold drawer_Disk_mend.l8
  by_cases hlt : i < (names A.files).length
  · rw [if_pos (by rw [decide_eq_true_eq]; omega)]
    obtain ⟨g, hg1, hg2, hgn'⟩ := hgn _ (List.getElem_mem hlt)
    refine ix_ld (x := nameP g) row2.reads (by rw [List.getElem?_map, List.getElem?_eq_getElem hlt, hgn']; rfl) ?_
    refine generation_spec T2 hg2 fun v3 S3 => ?_
    have Dn3 := Dn2.far S3
    have o3 := o2.chg S3.ch S3.ex id
    have row3 := row2.chg S3.ch S3.ex (fun _ _ => id)
    have T3 := T2.far S3
    rw [if_pos (by rw [decide_eq_true_eq]; omega)]
    refine ld_own o3 (x := (gen : Int)) hcs ?_
    have hdrop : (names A.files).drop i = nameP g :: (names A.files).drop (i + 1) := by rw [List.drop_eq_getElem_cons hlt, hgn']
    rw [hdrop] at hrm
    have next : ∀ {v4 c4 L4 B4}, B4.Ok → Done w c k d m B4 v4 c4 L4 → Tab v4 c4 → Own v4 c4 jb kk (.cells cs 82 (0, 0)) → Row v4 c4 kk 9 1 s1 ((names A.files).map Value.string) → rmP gen (names A.files) A = rmP gen ((names A.files).drop (i + 1)) B4 → drawer_Disk_mend.k11 (some ⟨d, 0, none⟩) ⟨jb, 0, none⟩ s1 (i : Int) K Q v4 :=
      fun {v4 c4 L4 B4} hB4 Dn4 T4 o4 row4 hr4 => by
        unfold drawer_Disk_mend.k11
        rw [Da.wrap_small (i := (i : Int) + 1) (by omega) (by omega)]
        exact hK _ _ ⟨i + 1, c4, L4, B4, by omega, hlt, hB4, Dn4, T4, o4, row4, hr4⟩ (by omega)
    unfold drawer_Disk_mend.k17
    by_cases hgg : g = gen
    · subst hgg
      rw [show ((g : Int) != (g : Int)) = false from bne_self_eq_false _, if_neg (by exact Bool.false_ne_true)]
      rw [rmP, if_pos rfl] at hrm
      exact next hB Dn3 T3 o3 row3 hrm
    · rw [if_pos (by rw [bne_iff_ne]; omega)]
      rw [rmP, if_neg (fun e => hgg (nameP_inj e))] at hrm
      refine remove_spec Dn3.disk hB fun w5 c5 L5 D5 E5 => ?_
      by_cases h0 : (B.remove (nameP g)).1 = 0
      · rw [if_neg (by simp [h0])]
        rw [if_neg (by simp [h0])] at hrm
        exact next (hB.remove _) ⟨D5, Dn3.eff.trans E5⟩ (T3.eff E5 (by omega)) (o3.eff E5 hkk) (row3.eff E5 hkk) hrm
      · rw [if_pos (by simpa using h0)]
        rw [if_pos h0] at hrm
        have := H w5 c5 L5 (by rw [hrm]; exact ⟨D5, Dn3.eff.trans E5⟩)
        rw [hrm] at this
        exact this
  · rw [if_neg (by rw [decide_eq_true_eq]; omega)]
    unfold drawer_Disk_mend.k5
    have hi' : (names A.files).drop i = [] := List.drop_of_length_le (by omega)
    rw [hi', rmP] at hrm
    have := H v2 c2 L2 (by rw [hrm]; exact Dn2)
    rw [hrm] at this
    exact this

theorem mend_spec {j : JF} {s1 s2 : Sl} {size : Nat} (kk : Nat) (D : DDisk w c k d m L A) (hA : A.Ok) (T : Tab w c) (hk : k ≠ 0) (hkk : kk ≠ k) (hgen : j.gen < 100000000) (hG : Gens A.files)
    (H : ∀ w' c' L', Done w c k d m (mendP A j size).2 w' c' L' → Q (mendP A j size).1 w') :
    drawer_Disk_mend (some ⟨d, 0, none⟩) (j.gen : Int) (j.sum : Int) s1 s2 (size : Int) (j.all : Int) (j.sure : Int) Q w := by
  unfold drawer_Disk_mend
  refine al_own (c := c) kk fun jb w1 c1 o1 ch1 ex1 _ => ?_
  have Dn1 := (Done.start D).far ⟨ch1, ex1⟩
  have T1 := T.new ch1 ex1
  refine ld_own o1 (x := (j.gen : Int)) rfl ?_
  unfold mendP at H
  -- the last part
  have k4 : ∀ {v c' L' B}, Done w c k d m B v c' L' → B.Ok → Tab v c' → Own v c' jb kk (.cells #[.int .i64 (j.gen : Int), .int .u32 (j.sum : Int), s1.val, s2.val, .int .i64 (size : Int), .int .i64 (j.all : Int), .int .i64 (j.sure : Int)] 82 (0, 0)) → Gens B.files →
      (∀ w' c' L', Done w c k d m (rmP j.gen (names B.files) B).2 w' c' L' → Q (rmP j.gen (names B.files) B).1 w') → drawer_Disk_mend.k4 (some ⟨d, 0, none⟩) ⟨jb, 0, none⟩ Q v :=
    fun Dn hB Tv o hGB H => mend_k4 Dn hB Tv hk hkk o rfl hgen hGB H
  -- behind the cut
  have k3 : ∀ {v c' L' B}, Done w c k d m B v c' L' → B.Ok → Tab v c' → Own v c' jb kk (.cells #[.int .i64 (j.gen : Int), .int .u32 (j.sum : Int), s1.val, s2.val, .int .i64 (size : Int), .int .i64 (j.all : Int), .int .i64 (j.sure : Int)] 82 (0, 0)) → Gens B.files →
      (∀ w' c' L', Done w c k d m (if (sureP B j size).1 ≠ 0 then sureP B j size else rmP j.gen (names (sureP B j size).2.files) (sureP B j size).2).2 w' c' L' → Q (if (sureP B j size).1 ≠ 0 then sureP B j size else rmP j.gen (names (sureP B j size).2.files) (sureP B j size).2).1 w') → drawer_Disk_mend.k3 (some ⟨d, 0, none⟩) ⟨jb, 0, none⟩ Q v :=
    fun {v c' L' B} Dn hB Tv o hGB H => by
      unfold drawer_Disk_mend.k3
      refine ld_own o (x := (j.gen : Int)) rfl ?_
      have key : ∀ {y : Bool}, (y = true ↔ 1 ≤ j.gen ∧ j.sure < size) → drawer_Disk_mend.k29 (some ⟨d, 0, none⟩) ⟨jb, 0, none⟩ y Q v := fun {y} hy => by
        unfold drawer_Disk_mend.k29
        unfold sureP at H
        cases y with
        | true =>
          rw [if_pos (hy.1 rfl)] at H
          rw [if_pos rfl]
          refine ld_own o (x := (j.gen : Int)) rfl (name_spec Tv hgen fun w2 S2 => ?_)
          have Dn2 := Dn.far S2
          refine sync_spec Dn2.disk hB fun w3 L3 D3 E3 => ?_
          by_cases h0 : (B.sync (nameP j.gen)).1 = 0
          · rw [if_neg (by simp [h0])]
            rw [if_neg (by simp [h0])] at H
            exact k4 ⟨D3, Dn2.eff.trans E3⟩ (hB.sync _) ((Tv.far S2).eff E3 (by omega)) ((o.chg S2.ch S2.ex id).eff E3 hkk) (hGB.of_names (sync_names _ _)) H
          · rw [if_pos (by simpa using h0)]
            rw [if_pos h0] at H
            exact H w3 _ L3 ⟨D3, Dn2.eff.trans E3⟩
        | false =>
          rw [if_neg (fun h => Bool.false_ne_true (hy.2 h))] at H
          rw [if_neg (by exact Bool.false_ne_true)]
          exact k4 Dn hB Tv o hGB H
      by_cases h1 : 1 ≤ j.gen
      · rw [if_pos (by rw [decide_eq_true_eq]; omega)]
        refine ld_own o (x := (j.sure : Int)) rfl (ld_own o (x := (size : Int)) rfl ?_)
        exact key (by rw [decide_eq_true_eq]; omega)
      · rw [if_neg (by rw [decide_eq_true_eq]; omega)]
        exact key (by constructor <;> intro h; cases h; exact absurd h.1 h1)
  have key : ∀ {y : Bool}, (y = true ↔ 1 ≤ j.gen ∧ size < j.all) → drawer_Disk_mend.k44 (some ⟨d, 0, none⟩) ⟨jb, 0, none⟩ y Q w1 := fun {y} hy => by
    unfold drawer_Disk_mend.k44
    unfold cutP at H
    cases y with
    | true =>
      rw [if_pos (hy.1 rfl)] at H
      rw [if_pos rfl]
      refine ld_own o1.drew (x := (j.gen : Int)) rfl (ld_own o1.drew (x := (size : Int)) rfl (name_spec T1.drew hgen fun w2 S2 => ?_))
      have S12 : Sofar w1 c1 w2 c1 := (Sofar.refl _ _).drew.new S2.ch S2.ex
      have Dn2 := Dn1.far S12
      have o2 := o1.chg S12.ch S12.ex id
      refine ⟨⟨by rw [add_mk, o2.cell]; rfl, by rw [add_mk, o2.cell]; rfl, trivial⟩, ?_⟩
      refine trim_spec Dn2.disk hA fun w3 c3 L3 D3 E3 => ?_
      by_cases h0 : (A.trim (nameP j.gen) size).1 = 0
      · rw [if_neg (by simp [h0])]
        rw [if_neg (by simp [h0])] at H
        exact k3 ⟨D3, Dn2.eff.trans E3⟩ (hA.trim _ _) ((T1.far S12).eff E3 (by omega)) (o2.eff E3 hkk) (hG.of_names (trim_names _ _ _)) H
      · rw [if_pos (by simpa using h0)]
        rw [if_pos h0] at H
        exact H w3 c3 L3 ⟨D3, Dn2.eff.trans E3⟩
    | false =>
      rw [if_neg (fun h => Bool.false_ne_true (hy.2 h))] at H
      rw [if_neg (by exact Bool.false_ne_true)]
      exact k3 Dn1 hA T1 o1 hG H
  by_cases h1 : 1 ≤ j.gen
  · rw [if_pos (by rw [decide_eq_true_eq]; omega)]
    refine ld_own o1 (x := (size : Int)) rfl (ld_own o1 (x := (j.all : Int)) rfl ?_)
    exact key (by rw [decide_eq_true_eq]; omega)
  · rw [if_neg (by rw [decide_eq_true_eq]; omega)]
    exact key (by constructor <;> intro h; cases h; exact absurd h.1 h1)
end
end Go.Proofs.YtjnifnlkicajhaaDoor.Jn
