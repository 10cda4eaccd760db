/-
  The law in plain words: what holds of the disk and of what was told, behind every step. No program in sight. No condition is put on any statement here.
-/
import Derived.Test.YtjnifnlkicajhaaDoorKg
import Derived.Test.YtjnifnlkicajhaaDoorKe
namespace Go.Proofs.YtjnifnlkicajhaaDoor.Kp
open Go Vc Hp Da Pm Dd Jn Kw

def tailOf (sum : Nat) (R : List Rec) : List Rec → Nat → List UInt8
  | [], _ => []
  | r :: _, i => (piece (R.length + 1) sum r.kind r.body).take i
def Clean (sum : Nat) (S : List UInt8) (R : List Rec) (g : Nat) (fs : List PF) : Prop := fs = [⟨nameP g, enc sum S R, (enc sum S R).length⟩]
def Torn (sum : Nat) (S : List UInt8) (R late : List Rec) (g : Nat) (fs : List PF) : Prop :=
  ∃ i s, fs = [⟨nameP g, enc sum S R ++ tailOf sum R late i, s⟩] ∧ (enc sum S R).length ≤ s ∧ s ≤ (enc sum S R ++ tailOf sum R late i).length
def Both (sum : Nat) (S : List UInt8) (R : List Rec) (folded : List (List UInt8)) (g : Nat) (fs : List PF) : Prop :=
  ∃ S' i s, folded = [S'] ∧ fs = [⟨nameP g, enc sum S R, (enc sum S R).length⟩, ⟨nameP (g + 1), (piece 0 sum 0 S').take i, s⟩] ∧ s ≤ ((piece 0 sum 0 S').take i).length
/-- the disk behind any calls: g: the generation -/
def Shape (st : LS) (g : Nat) (fs : List PF) : Prop := Torn st.sum st.S st.R st.late g fs ∨ (st.late = [] ∧ Both st.sum st.S st.R st.folded g fs)
structure Fit (st : LS) : Prop where
  sum : st.sum < 4294967296
  S : st.S.length ≤ 1048576
  R : fits st.R
  late : fits st.late
  folded : ∀ b ∈ st.folded, b.length ≤ 1048576
  l1 : st.late.length ≤ 1
  f1 : st.folded.length ≤ 1
  soft : st.soft = false
  cnt : st.R.length ≤ 16777216
def DrOk (st : LS) (g : Nat) : Prop := ∀ D, st.dr = some D → D.sum = st.sum ∧ D.gen = g ∧ D.len = st.R.length ∧ (D.stuck = true → st.late.length = 1 ∨ st.folded.length = 1) ∧ (D.stuck = false → st.late = [] ∧ st.folded = [] ∧ Clean st.sum st.S st.R g st.A.files)
/-- n: how many steps at the most -/
structure Inv (n : Nat) (st : LS) : Prop where
  ok : st.A.Ok
  fit : Fit st
  len : st.R.length ≤ n
  gen : ∃ g, 1 ≤ g ∧ g ≤ n + 1 ∧ Shape st g st.A.files ∧ DrOk st g

theorem Clean.torn {sum S R g fs} {late : List Rec} (h : Clean sum S R g fs) : Torn sum S R late g fs := by
  refine ⟨0, (enc sum S R).length, ?_, Nat.le_refl _, by simp⟩
  have : tailOf sum R late 0 = [] := by cases late <;> simp [tailOf]
  rw [this, List.append_nil]
  exact h
theorem Shape.gens {st : LS} {g : Nat} {fs : List PF} (h : Shape st g fs) (h1 : 1 ≤ g) (h2 : g + 1 < 100000000) : Gens fs := by
  rcases h with ⟨i, s, rfl, _⟩ | ⟨_, S', i, s, _, rfl, _⟩
  · intro f hf
    rw [List.mem_singleton.1 hf]
    exact ⟨g, h1, by omega, rfl⟩
  · intro f hf
    rcases List.mem_cons.1 hf with rfl | hf
    · exact ⟨g, h1, by omega, rfl⟩
    · rw [List.mem_singleton.1 hf]
      exact ⟨g + 1, by omega, h2, rfl⟩

theorem whole_enc {sum : Nat} {S : List UInt8} {R : List Rec} (hs : sum < 4294967296) (hS : S.length ≤ 1048576) (t : List UInt8) : whole (enc sum S R ++ t) 0 = some (sum, 0, S) := by
  unfold enc
  rw [List.append_assoc]
  exact whole_piece (by omega) hs hS (fun _ => rfl) _
theorem reads_enc {sum : Nat} {S : List UInt8} {R : List Rec} (hs : sum < 4294967296) (hR : fits R) (hc : R.length ≤ 16777216) (t : List UInt8) {f : Nat} (hf : R.length ≤ f) :
    reads sum f ((enc sum S R ++ t).drop (S.length + 18)) 1 = R ++ reads sum (f - R.length) t (1 + R.length) := by
  have e : (enc sum S R ++ t).drop (S.length + 18) = pieces sum 1 R ++ t := by
    unfold enc
    rw [List.append_assoc]
    exact List.drop_left' (piece_len _ _ _ _)
  rw [e]
  have := reads_pieces hs t R (f - R.length) 1 hR (by omega) (by omega)
  rw [Nat.sub_add_cancel hf] at this
  exact this
theorem rm1 (g : Nat) (A : PD) : rmP g [nameP g] A = (0, A) := by simp [rmP]
theorem rm2b (g : Nat) (A : PD) : rmP g [nameP g, nameP (g + 1)] A = if (A.remove (nameP (g + 1))).1 ≠ 0 then A.remove (nameP (g + 1)) else (0, (A.remove (nameP (g + 1))).2) := by simp [rmP, nne']
theorem rm2a (g : Nat) (A : PD) : rmP (g + 1) [nameP g, nameP (g + 1)] A = if (A.remove (nameP g)).1 ≠ 0 then A.remove (nameP g) else (0, (A.remove (nameP g)).2) := by simp [rmP, nne]

/-- what is told of a torn end -/
theorem told {sum : Nat} {R : List Rec} {late : List Rec} (hs : sum < 4294967296) (hl : fits late) (hl1 : late.length ≤ 1) (hc : R.length ≤ 16777216) {i f : Nat} (hf : 2 ≤ f) :
    (reads sum f (tailOf sum R late i) (1 + R.length) = [] ) ∨ (late.length = 1 ∧ reads sum f (tailOf sum R late i) (1 + R.length) = late ∧ ∀ S, enc sum S R ++ tailOf sum R late i = enc sum S (R ++ late)) := by
  match late, hl1 with
  | [], _ => exact .inl (reads_none (whole_short (by simp [tailOf])))
  | [r], _ =>
    have h := reads_torn (sum := sum) hs (r := r) (hl r (by simp)) (n := R.length + 1) (f := f) (i := i) (by omega) (by omega) hf
    rw [Nat.add_comm 1]
    show reads sum f ((piece (R.length + 1) sum r.kind r.body).take i) (R.length + 1) = [] ∨ _
    rw [h]
    split
    · rename_i hi
      refine .inr ⟨rfl, ?_, fun S => ?_⟩
      · show reads sum f ((piece (R.length + 1) sum r.kind r.body).take i) (R.length + 1) = _
        rw [h, if_pos hi]
      · rw [enc_snoc]
        show _ ++ (piece (R.length + 1) sum r.kind r.body).take i = _
        rw [List.take_of_length_le (by rw [piece_len]; exact hi)]
    · exact .inl rfl

theorem openP_eq {A : PD} {sum : Nat} {j : JF} {R' : List Rec} {size : Nat} (hd : A.down = false) (hs : j.sum = sum) (hg : 1 ≤ j.gen) (hR : recsOf A.files j = R') (hz : j.size + sizeR R' = size) :
    openP A sum j = if (mendP A j size).1 ≠ 0 then ((mendP A j size).1, (mendP A j size).2, 0) else (0, (mendP A j size).2, j.gen) := by
  unfold openP
  rw [if_neg (by rw [hd]; decide), if_neg (by rintro ⟨_, h⟩; exact h hs), hR, hz]
  split
  · rfl
  · rw [if_neg (by omega)]

/-- the answer of Open in plain words: it fails and the shape stays; or it goes well, and the disk is clean -/
theorem open_cases {st : LS} {g : Nat} {j : JF} (hf : Fit st) (hA : st.A.Ok) (h1 : 1 ≤ g) (h2 : g + 1 < 100000000) (hsh : Shape st g st.A.files) (hd : st.A.down = false) (hB : Best (· ∈ st.A.files) j) :
    (((openP st.A st.sum j).1 = 190 ∨ (openP st.A st.sum j).1 = 191) ∧ Shape st g (openP st.A st.sum j).2.1.files) ∨
    ((openP st.A st.sum j).1 = 0 ∧ MayP st j.summary (recsOf st.A.files j) ∧ (openP st.A st.sum j).2.2 = j.gen ∧ (j.gen = g ∨ j.gen = g + 1) ∧ j.summary.length ≤ 1048576 ∧ fits (recsOf st.A.files j) ∧ (recsOf st.A.files j).length ≤ st.R.length + 1 ∧
      Clean st.sum j.summary (recsOf st.A.files j) j.gen (openP st.A st.sum j).2.1.files) := by
  rcases hsh with ⟨i, s, hfs, hs1, hs2⟩ | ⟨hlate, S', i, s, hfold, hfs, hs⟩
  · -- one file
    have hw := whole_enc (R := st.R) hf.sum hf.S (tailOf st.sum st.R st.late i)
    have hj := best_eq (g := g) hB (f := ⟨nameP g, enc st.sum st.S st.R ++ tailOf st.sum st.R st.late i, s⟩) (by rw [hfs]; simp) rfl h1 hw (by
      intro f' hf'
      rw [hfs] at hf'
      exact .inl (List.mem_singleton.1 hf'))
    have hR : recsOf st.A.files j = st.R ++ reads st.sum ((enc st.sum st.S st.R ++ tailOf st.sum st.R st.late i).length + 1 - st.R.length) (tailOf st.sum st.R st.late i) (1 + st.R.length) := by
      rw [hj]
      unfold recsOf
      rw [if_neg (by dsimp only; omega), hfs, get1]
      dsimp only
      have h3 := sizeR_ge st.R
      have h4 := enc_len st.sum st.S st.R
      exact reads_enc hf.sum hf.R hf.cnt _ (by rw [List.length_append]; omega)
    have hlen := enc_len st.sum st.S st.R
    have h3 := sizeR_ge st.R
    have hfuel : 2 ≤ (enc st.sum st.S st.R ++ tailOf st.sum st.R st.late i).length + 1 - st.R.length := by rw [List.length_append]; omega
    rcases told (i := i) hf.sum hf.late hf.l1 hf.cnt hfuel with ht | ⟨hl1, ht, hdata⟩
    · -- the end is cut off
      rw [ht, List.append_nil] at hR
      have he : openP st.A st.sum j = if (mendP st.A j (enc st.sum st.S st.R).length).1 ≠ 0 then ((mendP st.A j (enc st.sum st.S st.R).length).1, (mendP st.A j (enc st.sum st.S st.R).length).2, 0) else (0, (mendP st.A j (enc st.sum st.S st.R).length).2, j.gen) :=
        openP_eq hd (by rw [hj]) (by rw [hj]; exact h1) hR (by rw [hj, hlen])
      have hm : (((mendP st.A j (enc st.sum st.S st.R).length).1 = 190 ∨ (mendP st.A j (enc st.sum st.S st.R).length).1 = 191) ∧ Shape st g (mendP st.A j (enc st.sum st.S st.R).length).2.files) ∨
          ((mendP st.A j (enc st.sum st.S st.R).length).1 = 0 ∧ Clean st.sum st.S st.R g (mendP st.A j (enc st.sum st.S st.R).length).2.files) := by
        have hsure : ∀ B : PD, sureP B j (enc st.sum st.S st.R).length = (0, B) := fun B => by
          unfold sureP
          rw [if_neg]
          rintro ⟨_, h⟩
          rw [hj] at h
          exact absurd h (by dsimp only; omega)
        have hjg : j.gen = g := by rw [hj]
        unfold mendP
        rw [hsure]
        dsimp only
        by_cases hc : (enc st.sum st.S st.R).length < j.all
        · have hcut : cutP st.A j (enc st.sum st.S st.R).length = st.A.trim (nameP g) (enc st.sum st.S st.R).length := by
            unfold cutP
            rw [if_pos ⟨by rw [hj]; exact h1, hc⟩, hjg]
          rw [hcut, hjg]
          rcases change_cases (A := st.A) (x := nameP g) (g := fun l => setf l (nameP g) fun f => { f with data := f.data.take ((enc st.sum st.S st.R).length : Int).toNat, sure := min f.sure (cutTo ((enc st.sum st.S st.R).length : Int) f.data.length) }) (nameP_named (by omega)) (by rw [hfs, get1]; rfl) with ⟨e1, e2⟩ | ⟨e1, e2⟩
          · have hfl : (st.A.trim (nameP g) (enc st.sum st.S st.R).length).2.files = [⟨nameP g, enc st.sum st.S st.R, (enc st.sum st.S st.R).length⟩] := by
              unfold PD.trim
              rw [e2, hfs]
              simp only [setf, List.map_cons, List.map_nil, if_true]
              rw [Int.toNat_natCast, List.take_left' rfl]
              have : min s (cutTo ((enc st.sum st.S st.R).length : Int) (enc st.sum st.S st.R ++ tailOf st.sum st.R st.late i).length) = (enc st.sum st.S st.R).length := by
                unfold cutTo
                rw [Int.toNat_natCast]
                omega
              rw [this]
            have e1' : (st.A.trim (nameP g) (enc st.sum st.S st.R).length).1 = 0 := e1
            rw [if_neg (by rw [e1']; decide), if_neg (by decide)]
            rw [hfl]
            show ((rmP g [nameP g] _).1 = 190 ∨ _) ∧ _ ∨ _
            rw [show names [(⟨nameP g, enc st.sum st.S st.R, (enc st.sum st.S st.R).length⟩ : PF)] = [nameP g] from rfl, rm1]
            exact .inr ⟨rfl, hfl⟩
          · have e1' : (st.A.trim (nameP g) (enc st.sum st.S st.R).length).1 = 190 ∨ (st.A.trim (nameP g) (enc st.sum st.S st.R).length).1 = 191 := e1
            rw [if_pos (by omega)]
            refine .inl ⟨e1', ?_⟩
            have : (st.A.trim (nameP g) (enc st.sum st.S st.R).length).2.files = st.A.files := e2
            rw [this]
            exact .inl ⟨i, s, hfs, hs1, hs2⟩
        · have hcut : cutP st.A j (enc st.sum st.S st.R).length = (0, st.A) := by
            unfold cutP
            rw [if_neg (fun h => hc h.2)]
          rw [hcut]
          dsimp only
          rw [if_neg (by decide), if_neg (by decide)]
          rw [hfs, show names [(⟨nameP g, enc st.sum st.S st.R ++ tailOf st.sum st.R st.late i, s⟩ : PF)] = [nameP g] from rfl, hjg, rm1]
          refine .inr ⟨rfl, ?_⟩
          have hall : j.all = (enc st.sum st.S st.R ++ tailOf st.sum st.R st.late i).length := by rw [hj]
          rw [hall, List.length_append] at hc
          have htl : tailOf st.sum st.R st.late i = [] := List.eq_nil_of_length_eq_zero (by omega)
          rw [htl, List.append_nil] at hs2 hfs
          show st.A.files = _
          rw [hfs, show s = (enc st.sum st.S st.R).length by omega]
      rw [hR]
      have hjS : j.summary = st.S := by rw [hj]
      have hjg : j.gen = g := by rw [hj]
      rcases hm with ⟨e1, e2⟩ | ⟨e1, e2⟩
      · left
        rw [he, if_pos (by omega)]
        exact ⟨e1, e2⟩
      · right
        rw [he, if_neg (by rw [e1]; decide)]
        refine ⟨rfl, .inl ⟨hjS, .inl rfl⟩, rfl, .inl hjg, by rw [hjS]; exact hf.S, hf.R, by omega, ?_⟩
        rw [hjS, hjg]
        exact e2
    · -- the late one is there
      rw [ht] at hR
      have hlen' := enc_len st.sum st.S (st.R ++ st.late)
      have hd' := hdata st.S
      rw [hd'] at hs2 hfs
      have hjall : j.all = (enc st.sum st.S (st.R ++ st.late)).length := by rw [hj]; exact congrArg List.length hd'
      have he : openP st.A st.sum j = if (mendP st.A j (enc st.sum st.S (st.R ++ st.late)).length).1 ≠ 0 then ((mendP st.A j (enc st.sum st.S (st.R ++ st.late)).length).1, (mendP st.A j (enc st.sum st.S (st.R ++ st.late)).length).2, 0) else (0, (mendP st.A j (enc st.sum st.S (st.R ++ st.late)).length).2, j.gen) :=
        openP_eq hd (by rw [hj]) (by rw [hj]; exact h1) hR (by rw [hj, hlen'])
      have hjg : j.gen = g := by rw [hj]
      have hjs : j.sure = s := by rw [hj]
      have hjS : j.summary = st.S := by rw [hj]
      have hm : (((mendP st.A j (enc st.sum st.S (st.R ++ st.late)).length).1 = 190 ∨ (mendP st.A j (enc st.sum st.S (st.R ++ st.late)).length).1 = 191) ∧ Shape st g (mendP st.A j (enc st.sum st.S (st.R ++ st.late)).length).2.files) ∨
          ((mendP st.A j (enc st.sum st.S (st.R ++ st.late)).length).1 = 0 ∧ Clean st.sum st.S (st.R ++ st.late) g (mendP st.A j (enc st.sum st.S (st.R ++ st.late)).length).2.files) := by
        have hcut : cutP st.A j (enc st.sum st.S (st.R ++ st.late)).length = (0, st.A) := by
          unfold cutP
          rw [if_neg]
          rintro ⟨_, h⟩
          omega
        unfold mendP
        rw [hcut]
        dsimp only
        rw [if_neg (by decide)]
        by_cases hsl : s < (enc st.sum st.S (st.R ++ st.late)).length
        · have hsu : sureP st.A j (enc st.sum st.S (st.R ++ st.late)).length = st.A.sync (nameP g) := by
            unfold sureP
            rw [hjg, hjs, if_pos ⟨h1, hsl⟩]
          rw [hsu, hjg]
          rcases change_cases (A := st.A) (x := nameP g) (g := fun l => setf l (nameP g) fun f => { f with sure := f.data.length }) (nameP_named (by omega)) (by rw [hfs, get1]; rfl) with ⟨e1, e2⟩ | ⟨e1, e2⟩
          · have hfl : (st.A.sync (nameP g)).2.files = [⟨nameP g, enc st.sum st.S (st.R ++ st.late), (enc st.sum st.S (st.R ++ st.late)).length⟩] := by
              unfold PD.sync
              rw [e2, hfs]
              simp [setf]
            have e1' : (st.A.sync (nameP g)).1 = 0 := e1
            rw [if_neg (by rw [e1']; decide), hfl]
            rw [show names [(⟨nameP g, enc st.sum st.S (st.R ++ st.late), (enc st.sum st.S (st.R ++ st.late)).length⟩ : PF)] = [nameP g] from rfl, rm1]
            exact .inr ⟨rfl, hfl⟩
          · have e1' : (st.A.sync (nameP g)).1 = 190 ∨ (st.A.sync (nameP g)).1 = 191 := e1
            rw [if_pos (by omega)]
            refine .inl ⟨e1', ?_⟩
            have : (st.A.sync (nameP g)).2.files = st.A.files := e2
            rw [this]
            exact .inl ⟨i, s, by rw [hd']; exact hfs, hs1, by rw [hd']; exact hs2⟩
        · have hsu : sureP st.A j (enc st.sum st.S (st.R ++ st.late)).length = (0, st.A) := by
            unfold sureP
            rw [hjg, hjs, if_neg (fun h => hsl h.2)]
          rw [hsu]
          dsimp only
          rw [if_neg (by decide), hjg]
          rw [hfs, show names [(⟨nameP g, enc st.sum st.S (st.R ++ st.late), s⟩ : PF)] = [nameP g] from rfl, rm1]
          refine .inr ⟨rfl, ?_⟩
          show st.A.files = _
          rw [hfs, show s = (enc st.sum st.S (st.R ++ st.late)).length by omega]
      rw [hR]
      rcases hm with ⟨e1, e2⟩ | ⟨e1, e2⟩
      · left
        rw [he, if_pos (by omega)]
        exact ⟨e1, e2⟩
      · right
        rw [he, if_neg (by rw [e1]; decide)]
        refine ⟨rfl, .inl ⟨hjS, .inr ⟨hl1, rfl⟩⟩, rfl, .inl hjg, by rw [hjS]; exact hf.S, fun r hr => ?_, by rw [List.length_append]; omega, ?_⟩
        · rcases List.mem_append.1 hr with hr | hr
          · exact hf.R r hr
          · exact hf.late r hr
        · rw [hjS, hjg]
          exact e2
  · -- two files
    have hS' : S'.length ≤ 1048576 := hf.folded S' (by rw [hfold]; simp)
    have hw1 := whole_enc (S := st.S) (R := st.R) hf.sum hf.S []
    rw [List.append_nil] at hw1
    by_cases hi : S'.length + 18 ≤ i
    · -- the new one is whole
      rw [List.take_of_length_le (by rw [piece_len]; exact hi)] at hfs hs
      have hw2 := whole_piece (n := 0) (s := st.sum) (k := 0) (b := S') (by omega) hf.sum hS' (fun _ => rfl) []
      rw [List.append_nil] at hw2
      have hj := best_eq (g := g + 1) hB (f := ⟨nameP (g + 1), piece 0 st.sum 0 S', s⟩) (by rw [hfs]; simp) rfl (by omega) hw2 (by
        intro f' hf'
        rw [hfs] at hf'
        rcases List.mem_cons.1 hf' with rfl | hf'
        · exact .inr (.inr ⟨g, rfl, by omega⟩)
        · exact .inl (List.mem_singleton.1 hf'))
      have hjg : j.gen = g + 1 := by rw [hj]
      have hjs : j.sure = s := by rw [hj]
      have hjS : j.summary = S' := by rw [hj]
      have hjall : j.all = S'.length + 18 := by rw [hj]; exact piece_len _ _ _ _
      have hR : recsOf st.A.files j = [] := by
        rw [hj]
        unfold recsOf
        rw [if_neg (by dsimp only; omega), hfs, get2']
        dsimp only
        rw [List.drop_of_length_le (by rw [piece_len]; exact Nat.le_refl _)]
        exact reads_none (whole_short (by simp))
      have he : openP st.A st.sum j = if (mendP st.A j (S'.length + 18)).1 ≠ 0 then ((mendP st.A j (S'.length + 18)).1, (mendP st.A j (S'.length + 18)).2, 0) else (0, (mendP st.A j (S'.length + 18)).2, j.gen) :=
        openP_eq hd (by rw [hj]) (by rw [hjg]; omega) hR (by rw [hj]; simp [sizeR])
      have henc : enc st.sum S' [] = piece 0 st.sum 0 S' := by simp [enc, pieces]
      have hpl := piece_len 0 st.sum 0 S'
      -- the last part: the old one goes
      have last : ∀ B : PD, ∀ t, t ≤ S'.length + 18 → B.files = [⟨nameP g, enc st.sum st.S st.R, (enc st.sum st.S st.R).length⟩, ⟨nameP (g + 1), piece 0 st.sum 0 S', t⟩] → (t = S'.length + 18) →
          (((rmP (g + 1) (names B.files) B).1 = 190 ∨ (rmP (g + 1) (names B.files) B).1 = 191) ∧ Shape st g (rmP (g + 1) (names B.files) B).2.files) ∨ ((rmP (g + 1) (names B.files) B).1 = 0 ∧ Clean st.sum S' [] (g + 1) (rmP (g + 1) (names B.files) B).2.files) := fun B t ht hB' hte => by
        rw [hB', show names [(⟨nameP g, enc st.sum st.S st.R, (enc st.sum st.S st.R).length⟩ : PF), ⟨nameP (g + 1), piece 0 st.sum 0 S', t⟩] = [nameP g, nameP (g + 1)] from rfl, rm2a]
        rcases remove2a (A := B) (g := g) (by omega) hB' with ⟨e1, e2⟩ | ⟨e1, e2⟩
        · rw [if_neg (by rw [e1]; decide)]
          refine .inr ⟨rfl, ?_⟩
          unfold Clean
          rw [henc, hpl, ← hte]
          exact e2
        · rw [if_pos (by omega)]
          refine .inl ⟨e1, ?_⟩
          rw [e2]
          exact .inr ⟨hlate, S', i, t, hfold, by rw [hB', List.take_of_length_le (by rw [piece_len]; exact hi)], by rw [List.take_of_length_le (by rw [piece_len]; exact hi), hpl]; exact ht⟩
      have hm : (((mendP st.A j (S'.length + 18)).1 = 190 ∨ (mendP st.A j (S'.length + 18)).1 = 191) ∧ Shape st g (mendP st.A j (S'.length + 18)).2.files) ∨ ((mendP st.A j (S'.length + 18)).1 = 0 ∧ Clean st.sum S' [] (g + 1) (mendP st.A j (S'.length + 18)).2.files) := by
        have hcut : cutP st.A j (S'.length + 18) = (0, st.A) := by
          unfold cutP
          rw [if_neg]
          rintro ⟨_, h⟩
          omega
        unfold mendP
        rw [hcut]
        dsimp only
        rw [if_neg (by decide)]
        by_cases hsl : s < S'.length + 18
        · have hsu : sureP st.A j (S'.length + 18) = st.A.sync (nameP (g + 1)) := by
            unfold sureP
            rw [hjg, hjs, if_pos ⟨by omega, hsl⟩]
          rw [hsu, hjg]
          rcases change_cases (A := st.A) (x := nameP (g + 1)) (g := fun l => setf l (nameP (g + 1)) fun f => { f with sure := f.data.length }) (nameP_named h2) (by rw [hfs, get2']; rfl) with ⟨e1, e2⟩ | ⟨e1, e2⟩
          · have hfl : (st.A.sync (nameP (g + 1))).2.files = [⟨nameP g, enc st.sum st.S st.R, (enc st.sum st.S st.R).length⟩, ⟨nameP (g + 1), piece 0 st.sum 0 S', S'.length + 18⟩] := by
              unfold PD.sync
              rw [e2, hfs]
              simp [setf, nne, hpl]
            have e1' : (st.A.sync (nameP (g + 1))).1 = 0 := e1
            rw [if_neg (by rw [e1']; decide)]
            exact last _ _ (Nat.le_refl _) hfl rfl
          · have e1' : (st.A.sync (nameP (g + 1))).1 = 190 ∨ (st.A.sync (nameP (g + 1))).1 = 191 := e1
            rw [if_pos (by omega)]
            refine .inl ⟨e1', ?_⟩
            have : (st.A.sync (nameP (g + 1))).2.files = st.A.files := e2
            rw [this]
            exact .inr ⟨hlate, S', i, s, hfold, by rw [hfs, List.take_of_length_le (by rw [piece_len]; exact hi)], by rw [List.take_of_length_le (by rw [piece_len]; exact hi)]; exact hs⟩
        · have hsu : sureP st.A j (S'.length + 18) = (0, st.A) := by
            unfold sureP
            rw [hjg, hjs, if_neg (fun h => hsl h.2)]
          rw [hsu]
          dsimp only
          rw [if_neg (by decide), hjg]
          exact last _ _ (by omega) hfs (by omega)
      rw [hR]
      rcases hm with ⟨e1, e2⟩ | ⟨e1, e2⟩
      · left
        rw [he, if_pos (by omega)]
        exact ⟨e1, e2⟩
      · right
        rw [he, if_neg (by rw [e1]; decide)]
        refine ⟨rfl, .inr ⟨by rw [hjS]; exact hfold, rfl⟩, rfl, .inr hjg, by rw [hjS]; exact hS', fun r hr => (by cases hr), by simp, ?_⟩
        rw [hjS, hjg]
        exact e2
    · -- it is torn
      have hw2 := whole_cut (n := 0) (s := st.sum) (k := 0) (b := S') hS' (i := i) (m := 0) (by omega)
      have hj := best_eq (g := g) hB (f := ⟨nameP g, enc st.sum st.S st.R, (enc st.sum st.S st.R).length⟩) (by rw [hfs]; simp) rfl h1 hw1 (by
        intro f' hf'
        rw [hfs] at hf'
        rcases List.mem_cons.1 hf' with rfl | hf'
        · exact .inl rfl
        · rw [List.mem_singleton.1 hf']
          exact .inr (.inl hw2))
      have hjg : j.gen = g := by rw [hj]
      have hjs : j.sure = (enc st.sum st.S st.R).length := by rw [hj]
      have hjS : j.summary = st.S := by rw [hj]
      have hjall : j.all = (enc st.sum st.S st.R).length := by rw [hj]
      have hlen := enc_len st.sum st.S st.R
      have h3 := sizeR_ge st.R
      have hR : recsOf st.A.files j = st.R := by
        rw [hj]
        unfold recsOf
        rw [if_neg (by dsimp only; omega), hfs, get2]
        dsimp only
        have := reads_enc (S := st.S) (R := st.R) hf.sum hf.R hf.cnt [] (f := (enc st.sum st.S st.R).length + 1) (by omega)
        rw [List.append_nil] at this
        rw [this, reads_none (whole_short (by simp)), List.append_nil]
      have he : openP st.A st.sum j = if (mendP st.A j (enc st.sum st.S st.R).length).1 ≠ 0 then ((mendP st.A j (enc st.sum st.S st.R).length).1, (mendP st.A j (enc st.sum st.S st.R).length).2, 0) else (0, (mendP st.A j (enc st.sum st.S st.R).length).2, j.gen) :=
        openP_eq hd (by rw [hj]) (by rw [hjg]; omega) hR (by rw [hj, hlen])
      have hm : (((mendP st.A j (enc st.sum st.S st.R).length).1 = 190 ∨ (mendP st.A j (enc st.sum st.S st.R).length).1 = 191) ∧ Shape st g (mendP st.A j (enc st.sum st.S st.R).length).2.files) ∨
          ((mendP st.A j (enc st.sum st.S st.R).length).1 = 0 ∧ Clean st.sum st.S st.R g (mendP st.A j (enc st.sum st.S st.R).length).2.files) := by
        have hcut : cutP st.A j (enc st.sum st.S st.R).length = (0, st.A) := by
          unfold cutP
          rw [if_neg]
          rintro ⟨_, h⟩
          omega
        have hsure : sureP st.A j (enc st.sum st.S st.R).length = (0, st.A) := by
          unfold sureP
          rw [if_neg]
          rintro ⟨_, h⟩
          omega
        unfold mendP
        rw [hcut]
        dsimp only
        rw [if_neg (by decide), hsure]
        dsimp only
        rw [if_neg (by decide), hjg]
        rw [hfs, show names [(⟨nameP g, enc st.sum st.S st.R, (enc st.sum st.S st.R).length⟩ : PF), ⟨nameP (g + 1), (piece 0 st.sum 0 S').take i, s⟩] = [nameP g, nameP (g + 1)] from rfl, rm2b]
        rcases remove2b (A := st.A) (g := g) h2 hfs with ⟨e1, e2⟩ | ⟨e1, e2⟩
        · rw [if_neg (by rw [e1]; decide)]
          exact .inr ⟨rfl, e2⟩
        · rw [if_pos (by omega)]
          refine .inl ⟨e1, ?_⟩
          rw [e2]
          exact .inr ⟨hlate, S', i, s, hfold, hfs, hs⟩
      rw [hR]
      rcases hm with ⟨e1, e2⟩ | ⟨e1, e2⟩
      · left
        rw [he, if_pos (by omega)]
        exact ⟨e1, e2⟩
      · right
        rw [he, if_neg (by rw [e1]; decide)]
        refine ⟨rfl, .inl ⟨hjS, .inl rfl⟩, rfl, .inl hjg, by rw [hjS]; exact hf.S, hf.R, by omega, ?_⟩
        rw [hjS, hjg]
        exact e2
end Go.Proofs.YtjnifnlkicajhaaDoor.Kp
