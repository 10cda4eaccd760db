/-
  The program's disk: NewDisk. No condition is put on any statement here.
-/
import Derived.Test.YtjnifnlkicajhaaDoorDk
namespace Go.Proofs.YtjnifnlkicajhaaDoor.Dd
open Go Vc Hp Fs Da Pm
set_option maxRecDepth 4000

theorem setCells_own {c b k t} : ∀ (vs : List Value) (i : Nat) {w : World} {cs : Array Value}, Own w c b k (.cells cs t (0, 0)) → i + vs.length ≤ cs.size →
    ∃ cs', Own (setCells w ⟨b, 0, none⟩ i vs) c b k (.cells cs' t (0, 0)) ∧ cs'.size = cs.size ∧ (∀ j, j < vs.length → cs'[i + j]? = vs[j]?) ∧ (∀ j, j < i → cs'[j]? = cs[j]?) ∧ Chg (· = b) w (setCells w ⟨b, 0, none⟩ i vs) ∧ (setCells w ⟨b, 0, none⟩ i vs).heap.size = w.heap.size
  | [], i, w, cs, h, _ => ⟨cs, h, rfl, fun j hj => (by cases hj), fun _ _ => rfl, Chg.refl _ _, rfl⟩
  | v :: r, i, w, cs, h, hl => by
    simp only [List.length_cons] at hl
    have h1 : Own (w.setCell ⟨b, i, none⟩ v) c b k (.cells (cs.setIfInBounds i v) t (0, 0)) := ⟨setCell_at h.at', h.col⟩
    obtain ⟨cs', h2, h3, h4, h5, h6, h7⟩ := setCells_own r (i + 1) h1 (by simp; omega)
    have e : setCells w ⟨b, 0, none⟩ i (v :: r) = setCells (w.setCell ⟨b, i, none⟩ v) ⟨b, 0, none⟩ (i + 1) r := by
      show setCells (w.setCell (Addr.add ⟨b, 0, none⟩ i) v) ⟨b, 0, none⟩ (i + 1) r = _
      rw [add_mk, Nat.zero_add]
    rw [e]
    refine ⟨cs', h2, by rw [h3]; simp, fun j hj => ?_, fun j hj => ?_, (setCell_chg _ _ _ _).trans h6, by rw [h7]; simp [World.setCell]⟩
    · rcases j with _ | j
      · have := h5 i (by omega)
        rw [Nat.add_zero, this]
        simp [show i < cs.size by omega]
      · have := h4 j (by simp at hj; omega)
        rw [show i + (j + 1) = i + 1 + j by omega, this]
        simp
    · rw [h5 j (by omega), Array.getElem?_setIfInBounds_ne (by omega)]
theorem stN_own {w c b k t cs vs} {K : World → Prop} (h : Own w c b k (.cells cs t (0, 0))) (hl : cs.size = vs.length)
    (hk : ∀ w', Own w' c b k (.cells vs.toArray t (0, 0)) → Chg (· = b) w w' → w'.heap.size = w.heap.size → K w') : stN w ⟨b, 0, none⟩ vs K := by
  obtain ⟨cs', h1, h2, h3, _, h4, h5⟩ := setCells_own vs 0 h (by omega)
  have e : cs' = vs.toArray := by
    apply Array.ext_getElem?
    intro j
    by_cases hj : j < vs.length
    · have := h3 j hj
      rw [Nat.zero_add] at this
      simpa using this
    · rw [Array.getElem?_eq_none (by omega), Array.getElem?_eq_none (by simp; omega)]
  subst e
  refine ⟨fun j hj => ?_, hk _ h1 h4 h5⟩
  rw [add_mk, Nat.zero_add, Nat.zero_add, h.cell, h.free]
  exact ⟨⟨cs[j]'(by omega), by simp [show j < cs.size by omega]⟩, rfl⟩

/-! ### what NewDisk makes -/
def bad (acc : List PF) (f : AF) : Bool := (Pm.get acc f.name).isSome || !(namedB f.name) || decide (2097152 < f.data.length) || decide (f.sure < 0) || decide ((f.data.length : Int) < f.sure)
def mk : List AF → List PF → Option (List PF)
  | [], acc => some acc
  | f :: r, acc => if bad acc f = true then none else mk r (ins ⟨f.name, f.data, f.sure.toNat⟩ acc)
def make (l : List AF) : Option PD := if 40 < l.length then none else (mk l []).map fun fs => ⟨fs, false, -1, 0, 0⟩
theorem bad_not {acc : List PF} {f : AF} (h : bad acc f = false) : Pm.get acc f.name = none ∧ namedB f.name = true ∧ f.data.length ≤ 2097152 ∧ 0 ≤ f.sure ∧ f.sure ≤ f.data.length := by
  unfold bad at h
  simp only [Bool.or_eq_false_iff, decide_eq_false_iff_not, Bool.not_eq_false', Option.isSome_eq_false_iff, Option.isNone_iff_eq_none] at h
  obtain ⟨⟨⟨⟨h1, h2⟩, h3⟩, h4⟩, h5⟩ := h
  exact ⟨h1, h2, by omega, by omega, by omega⟩
theorem mk_ok : ∀ {l : List AF} {acc fs : List PF}, mk l acc = some fs → Srt acc → (∀ f ∈ acc, f.data.length ≤ 2097152 ∧ f.sure ≤ f.data.length) → acc.length + l.length ≤ 40 → Srt fs ∧ (∀ f ∈ fs, f.data.length ≤ 2097152 ∧ f.sure ≤ f.data.length) ∧ fs.length ≤ 40
  | [], acc, fs, h, hs, hd, hl => by
    obtain rfl := Option.some.inj h
    exact ⟨hs, hd, by simpa using hl⟩
  | f :: r, acc, fs, h, hs, hd, hl => by
    unfold mk at h
    split at h
    · cases h
    · rename_i hb
      obtain ⟨h1, h2, h3, h4, h5⟩ := bad_not (by simpa using hb)
      refine mk_ok h (ins_srt hs (get_none.1 h1)) (fun g hg => ?_) (by rw [(ins_perm _ _).length_eq]; simp at hl ⊢; omega)
      rcases List.mem_cons.1 ((ins_perm _ _).mem_iff.1 hg) with rfl | hg
      · exact ⟨h3, by dsimp only; omega⟩
      · exact hd g hg
theorem make_ok {l : List AF} {A : PD} (h : make l = some A) : A.Ok := by
  unfold make at h
  split at h
  · cases h
  · rename_i hl
    cases hm : mk l [] with
    | none => rw [hm] at h; cases h
    | some fs =>
      rw [hm] at h
      obtain rfl := Option.some.inj h
      obtain ⟨h1, h2, h3⟩ := mk_ok hm List.Pairwise.nil (fun f hf => by cases hf) (by simpa using hl)
      exact ⟨h1, h2, h3, by simp [maxI], by simp [maxI], by simp [maxI]⟩

/-- a list of files that is read -/
structure FSrc (w : World) (c : Col) (j : Nat) (s : Sl) (fl : List (AF × Sl)) : Prop where
  row : Src w c j 3 s (fcells fl)
  data : ∀ p ∈ fl, Src w c j 1 p.2 (p.1.data.map u8)
theorem FRow.src {w c k s fl} (h : FRow w c k s fl) : FSrc w c k s fl := ⟨Row.src h.row, fun p hp => Row.src (h.data p hp)⟩
theorem FSrc.chg {w c j s fl M w' c'} (h : FSrc w c j s fl) (hc : Chg M w w') (he : Ext w c c') (hm : ∀ b, c b = j → ¬ M b) : FSrc w' c' j s fl := ⟨h.row.chg hc he hm, fun p hp => (h.data p hp).chg hc he hm⟩
theorem FSrc.new {w c j s fl w' c'} (h : FSrc w c j s fl) (hc : Chg (fun _ => False) w w') (he : Ext w c c') : FSrc w' c' j s fl := h.chg hc he (fun _ _ => id)
theorem FSrc.eff {w c j s fl i w' c'} (h : FSrc w c j s fl) (hc : Eff i w c w' c') (hj : ¬ i j) : FSrc w' c' j s fl := ⟨h.row.eff hc hj, fun p hp => (h.data p hp).eff hc hj⟩

theorem ix3 {w : World} {s : Sl} {fl : List (AF × Sl)} {i : Nat} {K : ByteArray → Sl → Int → Prop} (h : Reads w 3 s (fcells fl)) (hi : i < fl.length) (hk : K fl[i].1.name fl[i].2 fl[i].1.sure) :
    ix s.p s.len (i : Int) 3 fun a => ld Value.string w (a.add 0) fun x => ld Sl.val w (a.add 1) fun y => ld (Value.int .i64) w (a.add 2) fun z => K x y z := by
  obtain ⟨h1, h2⟩ := h
  rw [fcells_len] at h1
  obtain ⟨e0, e1, e2⟩ := fcells_at hi
  rcases h2 with ⟨_, h0⟩ | ⟨a, hp, hh⟩
  · omega
  · refine ⟨a, hp, by omega, by omega, ?_⟩
    rw [Int.toNat_natCast]
    refine ⟨_, ?_, _, ?_, _, ?_, hk⟩
    · rw [Addr.add_add, Nat.add_zero]; exact hh _ _ e0
    · rw [Addr.add_add]; exact hh _ _ e1
    · rw [Addr.add_add]; exact hh _ _ e2

structure NDI (w : World) (c : Col) (k j d m : Nat) (s : Sl) (fl : List (AF × Sl)) (i : Nat) (v : World) (c' : Col) (L : List FE) (acc : List PF) : Prop where
  disk : DDisk v c' k d m L ⟨acc, false, -1, 0, 0⟩
  src : FSrc v c' j s fl
  ch : Chg (fun _ => False) w v
  ex : Ext w c c'
  new : w.heap.size ≤ m
  srt : Srt acc
  go : mk (fl.map (·.1)) [] = mk ((fl.map (·.1)).drop i) acc
  le : i ≤ fl.length

theorem newDisk_spec {w c j s fl} (k : Nat) {Q : Option Addr → Int → World → Prop} (src : FSrc w c j s fl)
    (H0 : make (fl.map (·.1)) = none → ∀ w' c', Chg (fun _ => False) w w' → Ext w c c' → Q none 195 w')
    (H1 : ∀ A, make (fl.map (·.1)) = some A → ∀ w' c' d m L, DDisk w' c' k d m L A → Chg (fun _ => False) w w' → Ext w c c' → Q (some ⟨d, 0, none⟩) 0 w') : drawer_NewDisk s Q w := by
  have hsl : s.len = fl.length := by have := src.row.1.1; rw [fcells_len] at this; omega
  unfold drawer_NewDisk
  unfold make at H0 H1
  rw [List.length_map] at H0 H1
  by_cases h40 : 40 < fl.length
  · rw [if_pos h40] at H0
    rw [if_pos (by rw [decide_eq_true_eq]; omega)]
    exact H0 rfl w c (Chg.refl _ _) (Ext.refl _ _)
  rw [if_neg h40] at H0 H1
  rw [if_neg (by rw [decide_eq_true_eq]; omega)]
  refine al_own (c := c) k fun m w1 c1 om ch1 ex1 hm1 => ?_
  refine al_own (c := c1) k fun d w2 c2 od ch2 ex2 hd2 => ?_
  have om2 := om.chg ch2 ex2 id
  have D2 : DDisk w2 c2 k d m [] ⟨[], false, -1, 0, 0⟩ := ⟨⟨false, 0, od, rfl, fun h => by cases h⟩, ⟨⟨#[], 0, om2, rfl, List.nodup_nil, List.nodup_nil, fun e he => (by cases he)⟩, fun e he => (by cases he), List.Pairwise.nil⟩, .refl _⟩
  have ch02 := fresh ch1 ch2 (fun _ => False.elim)
  have ex02 := freshX ch1 ex1 ex2 ch2
  have start : NDI w c k j d m s fl 0 w2 c2 [] [] := ⟨D2, (src.new ch1 ex1).new ch2 ex2, ch02, ex02, hm1, List.Pairwise.nil, rfl, Nat.zero_le _⟩
  refine Fix.intro (fun (z : Int) v => ∃ (i : Nat) (c' : Col) (L : List FE) (acc : List PF), z = i ∧ NDI w c k j d m s fl i v c' L acc) (fun z _ => fl.length - z.toNat) ?_ ⟨0, c2, [], [], rfl, start⟩
  rintro z v K ⟨i, c', L, acc, rfl, I⟩ hK
  unfold drawer_NewDisk.l10
  by_cases hlt : i < fl.length
  · rw [if_pos (by rw [decide_eq_true_eq]; omega)]
    refine ix3 I.src.row.1 hlt ?_
    have hdrop : (fl.map (·.1)).drop i = fl[i].1 :: (fl.map (·.1)).drop (i + 1) := by
      rw [List.drop_eq_getElem_cons (by simpa using hlt), List.getElem_map]
    have hgo := I.go
    rw [hdrop, mk] at hgo
    have hsrc := I.src.data _ (List.getElem_mem hlt)
    generalize hfq : fl[i] = fq at *
    obtain ⟨f, q⟩ := fq
    dsimp only at hgo hsrc ⊢
    have hql : q.len = f.data.length := by have := hsrc.1.1; simp at this; omega
    refine al_own (c := c') k fun b w3 c3 o3 ch3 ex3 hb3 => ?_
    refine stN_own o3 rfl fun w4 o4 ch4 hs4 => ?_
    have ch34 := fresh ch3 ch4 (fun bb hb => by rw [hb]; exact hb3)
    have D4 := I.disk.new ch34 ex3
    have src4 := I.src.new ch34 ex3
    have q4 := Reads.new hsrc.1 ch34
    obtain ⟨a4, u4, od4, _⟩ := id D4.own
    refine ld_own od4.drew (x := some m) rfl (ld_own (x := f.name) o4.drew rfl (look D4.files.drew ?_))
    have hget : Pm.get acc f.name = (fget L f.name).map FE.pf := by rw [← fget_pf, get_perm D4.perm I.srt.nodup]
    have chA := fresh I.ch ch34 (fun _ => False.elim)
    have exA := freshX I.ch I.ex ex3 ch34
    have chD : ∀ {v'}, Chg (fun _ => False) w v' → Chg (fun _ => False) w v'.drew := fun h => h.drew
    -- what is refused
    have keyT : bad acc f = true → drawer_NewDisk.k19 s ⟨d, 0, none⟩ i K ⟨b, 0, none⟩ true Q w4.drew := by
      intro hb
      rw [if_pos hb] at hgo
      unfold drawer_NewDisk.k19
      rw [if_pos rfl]
      rw [hgo] at H0
      exact H0 rfl w4.drew c3 (chD chA) exA
    have keyF : bad acc f = false → drawer_NewDisk.k19 s ⟨d, 0, none⟩ i K ⟨b, 0, none⟩ false Q w4.drew := by
      intro hb
      rw [if_neg (by rw [hb]; exact Bool.false_ne_true)] at hgo
      obtain ⟨g1, g2, g3, g4, g5⟩ := bad_not hb
      unfold drawer_NewDisk.k19
      rw [if_neg Bool.false_ne_true]
      refine ld_own od4.drew.drew (x := some m) rfl (ld_own (x := f.name) o4.drew.drew rfl (ld_own (x := q) o4.drew.drew rfl (ld_own (x := f.sure) o4.drew.drew rfl ?_)))
      refine clone_spec (c := c3) (k := k) (w := w4.drew.drew) (x := q) q4 (by exact Nat.le_trans g3 (by decide)) fun w5 c5 q5 hq5 ch5 ex5 hqb => ?_
      have ch5 := undrew (undrew ch5)
      have ex5 : Ext w4 c3 c5 := ex5
      have o5 := o4.chg ch5 ex5 id
      have od5 := od4.chg ch5 ex5 id
      have cells : ∀ {v cc}, Own v cc d k (.cells #[.map (some m), .bool false, .bool a4, .int .i64 u4, .int .i64 0, .int .i64 0] 75 (0, 0)) → Own v cc b k (.cells #[.string f.name, q.val, .int .i64 f.sure] 42 (0, 0)) → (World.cell? v (Addr.add ⟨d, 0, none⟩ 0) = some (.map (some m)) ∧ World.cell? v (Addr.add ⟨b, 0, none⟩ 0) = some (.string f.name) ∧ World.cell? v (Addr.add ⟨b, 0, none⟩ 1) = some q.val ∧ World.cell? v (Addr.add ⟨b, 0, none⟩ 2) = some (.int .i64 f.sure) ∧ True) :=
        fun hd hb => ⟨by rw [add_mk, hd.cell]; rfl, by rw [add_mk, hb.cell]; rfl, by rw [add_mk, hb.cell]; rfl, by rw [add_mk, hb.cell]; rfl, trivial⟩
      refine ⟨cells od5 o5, ?_⟩
      refine al_own (c := c5) k fun fb w6 c6 o6 ch6 ex6 hb6 => ?_
      refine ⟨cells (od5.chg ch6 ex6 id) (o5.chg ch6 ex6 id), ?_⟩
      have D6 := (D4.new ch5 ex5).new ch6 ex6
      have src6 := (src4.new ch5 ex5).new ch6 ex6
      have hsn : ((f.sure.toNat : Nat) : Int) = f.sure := Int.toNat_of_nonneg g4
      have hfn : fget L f.name = none := by
        rw [g1] at hget
        cases hf : fget L f.name with
        | none => rfl
        | some e => rw [hf] at hget; cases hget
      refine D6.add (e := ⟨f.name, fb, q5, f.data, f.sure.toNat⟩) ⟨by rw [hsn]; exact o6, hq5.chg ch6 ex6 (fun _ _ => id)⟩ hfn (fun y hy => ⟨?_, fun g hg hg' => ?_⟩) fun w7 D7 f7 ch7 hs7 => ?_
      · have := ((D4.new ch5 ex5).files.files y hy).own.lt
        show y.fb ≠ fb
        omega
      · have h1 := Row.lt (D4.files.files y hy).row hg
        have h2 := hqb g hg'
        have h3 : w4.drew.drew.heap.size = w4.heap.size := rfl
        omega
      rw [Da.wrap_small (i := (i : Int) + 1) (by omega) (by omega)]
      have chB := fresh (fresh chA ch5 (fun _ => False.elim)) ch6 (fun _ => False.elim)
      have exB := freshX (fresh chA ch5 (fun _ => False.elim)) (freshX chA exA ex5 ch5) ex6 ch6
      have chC := fresh chB ch7 (fun bb hb => by rw [hb]; exact I.new)
      refine hK _ _ ⟨i + 1, c6, _, _, by omega, ⟨D7, src.new chC exB, chC, exB, I.new, ins_srt I.srt (get_none.1 g1), hgo, hlt⟩⟩ (by omega)
    cases hf : fget L f.name with
    | some e =>
      rw [hf] at hget
      rw [if_neg (by exact Bool.false_ne_true)]
      exact keyT (by unfold bad; rw [hget]; rfl)
    | none =>
      rw [hf] at hget
      rw [if_pos (by rfl)]
      refine ld_own (x := f.name) o4.drew rfl (named_spec ?_)
      cases hn : namedB f.name with
      | false => exact keyT (by unfold bad; rw [hn]; simp)
      | true =>
        rw [if_pos rfl]
        refine ld_own (x := q) o4.drew rfl ?_
        by_cases h1 : 2097152 < f.data.length
        · rw [if_pos (by rw [decide_eq_true_eq]; omega)]
          exact keyT (by unfold bad; simp [h1])
        rw [if_neg (by rw [decide_eq_true_eq]; omega)]
        refine ld_own (x := f.sure) o4.drew rfl ?_
        by_cases h2 : f.sure < 0
        · rw [if_pos (by rw [decide_eq_true_eq]; omega)]
          exact keyT (by unfold bad; simp [h2])
        rw [if_neg (by rw [decide_eq_true_eq]; omega)]
        refine ld_own (x := f.sure) o4.drew rfl (ld_own (x := q) o4.drew rfl ?_)
        have hbad : bad acc f = decide (f.sure > ((q.len : Nat) : Int)) := by
          have : Pm.get acc f.name = none := hget
          unfold bad
          rw [this, hn, hql]
          simp [h1, h2]
        cases hd : decide (f.sure > ((q.len : Nat) : Int)) with
        | true => exact keyT (by rw [hbad, hd])
        | false => exact keyF (by rw [hbad, hd])
  · rw [if_neg (by rw [decide_eq_true_eq]; omega)]
    unfold drawer_NewDisk.k8
    have hi : i = fl.length := by have := I.le; omega
    have hgo := I.go
    rw [hi, List.drop_of_length_le (by simp), mk] at hgo
    refine H1 ⟨acc, false, -1, 0, 0⟩ (by rw [hgo]; rfl) v c' d m L I.disk I.ch I.ex
end Go.Proofs.YtjnifnlkicajhaaDoor.Dd
