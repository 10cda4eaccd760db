/-
  The reference's disk: its calls that touch no file; lists of files cut, joined, turned. No condition is put on any statement here.
-/
import Derived.Test.YtjnifnlkicajhaaRa
namespace Go.Proofs.Ytjnifnlkicajhaa.Rd
open Go Vc Hp Fs Da Pm Dd
set_option maxRecDepth 4000

theorem rfirst_spec {w c k b s fl A x} {Q : Int → World → Prop} (h : RDisk w c k b s fl A) (hA : A.Ok) (hx : x.size < 9223372036854775807) (H : ∀ w', RDisk w' c k b s fl (A.first x).2 → Chg (· = b) w w' → w'.heap.size = w.heap.size → Q (A.first x).1 w') :
    levyref19_Disk_first (some ⟨b, 0, none⟩) x Q w := by
  have hc := hA.calls
  have ha := hA.after
  unfold maxI at hc ha
  have ho := h.own
  unfold levyref19_Disk_first
  refine rnamed_spec hx ?_
  unfold PD.first at H
  cases hn : namedB x with
  | false =>
    rw [hn] at H
    exact H w h (Chg.refl _ _) rfl
  | true =>
    rw [hn] at H
    simp only [Bool.true_eq_false, if_false] at H
    simp only [if_true]
    refine nn_some (ld_own ho rfl ?_)
    cases hd : A.down with
    | true =>
      rw [hd] at H
      simp only [if_true] at H ⊢
      exact H w h (Chg.refl _ _) rfl
    | false =>
      rw [hd] at H ho
      simp only [Bool.false_eq_true, if_false] at H ⊢
      refine nn_some (ld_own ho rfl ?_)
      by_cases h3 : A.calls ≤ 0
      · rw [if_pos h3] at H
        rw [if_neg (by rw [decide_eq_true_eq]; omega)]
        exact H w h (Chg.refl _ _) rfl
      · rw [if_neg h3] at H
        rw [if_pos (by rw [decide_eq_true_eq]; omega)]
        refine nn_some (ld_own ho rfl ?_)
        by_cases h4 : 0 < A.after
        · rw [if_pos h4] at H
          rw [if_pos (by rw [decide_eq_true_eq]; omega)]
          refine nn_some (ld_own ho rfl (nn_some (r_st ho h.list (by simp) fun w1 o1 f1 c1 s1 => ?_)))
          rw [Da.wrap_small (i := A.after - 1) (by omega) (by omega)] at o1
          exact H w1 ⟨o1, f1, h.what⟩ c1 s1
        · rw [if_neg h4] at H
          rw [if_neg (by rw [decide_eq_true_eq]; omega)]
          refine nn_some (ld_own ho rfl (nn_some (r_st ho h.list (by simp) fun w1 o1 f1 c1 s1 => ?_)))
          rw [Da.wrap_small (i := A.calls - 1) (by omega) (by omega)] at o1
          exact H w1 ⟨o1, f1, h.what⟩ c1 s1

theorem pays_spec {w c k b s fl A cost} {Q : Bool → Int → World → Prop} (h : RDisk w c k b s fl A) (hA : A.Ok) (hc : 0 ≤ cost) (H : ∀ w', RDisk w' c k b s fl (A.pay cost).2.2 → Chg (· = b) w w' → w'.heap.size = w.heap.size → Q (A.pay cost).1 (if (A.pay cost).1 = true then 0 else (A.pay cost).2.1) w') :
    levyref19_Disk_pays (some ⟨b, 0, none⟩) cost Q w := by
  have hu := hA.units
  unfold maxI at hu
  have ho := h.own
  unfold levyref19_Disk_pays
  unfold PD.pay at H
  refine nn_some (ld_own ho rfl ?_)
  by_cases h1 : A.units < 0
  · rw [if_pos h1] at H
    rw [if_pos (by rw [decide_eq_true_eq]; omega)]
    exact H w h (Chg.refl _ _) rfl
  · rw [if_neg h1] at H
    rw [if_neg (by rw [decide_eq_true_eq]; omega)]
    refine nn_some (ld_own ho rfl ?_)
    by_cases h2 : cost ≤ A.units
    · rw [if_pos h2] at H
      rw [if_pos (by rw [decide_eq_true_eq]; omega)]
      refine nn_some (ld_own ho rfl (nn_some (r_st ho h.list (by simp) fun w1 o1 f1 c1 s1 => ?_)))
      rw [Da.wrap_small (i := A.units - cost) (by omega) (by omega)] at o1
      exact H w1 ⟨o1, f1, h.what⟩ c1 s1
    · rw [if_neg h2] at H
      rw [if_neg (by rw [decide_eq_true_eq]; omega)]
      exact nn_some (ld_own ho rfl (falls_spec h H))

theorem rarm_spec {w c k b s fl A u} {Q : World → Prop} (h : RDisk w c k b s fl A) (H : ∀ w', RDisk w' c k b s fl (A.arm u) → Chg (· = b) w w' → w'.heap.size = w.heap.size → Q w') : levyref19_Disk_Arm (some ⟨b, 0, none⟩) u Q w := by
  have ho := h.own
  unfold levyref19_Disk_Arm
  unfold PD.arm at H
  refine nn_some (ld_own ho rfl ?_)
  cases hd : A.down with
  | true =>
    rw [hd] at H
    exact H w h (Chg.refl _ _) rfl
  | false =>
    rw [hd] at H ho
    simp only [Bool.false_eq_true, if_false] at H ⊢
    refine nn_some (r_st ho h.list (by simp) fun w1 o1 f1 c1 s1 => ?_)
    have e : (if (-1 : Int) > u then (-1 : Int) else u) = if 0 ≤ u then u else -1 := by split <;> split <;> omega
    rw [e] at o1
    exact H w1 ⟨o1, f1, h.what⟩ c1 s1
theorem rrig_spec {w c k b s fl A x y} {Q : World → Prop} (h : RDisk w c k b s fl A) (H : ∀ w', RDisk w' c k b s fl (A.rig x y) → Chg (· = b) w w' → w'.heap.size = w.heap.size → Q w') : levyref19_Disk_Fail (some ⟨b, 0, none⟩) x y Q w := by
  have ho := h.own
  unfold levyref19_Disk_Fail
  unfold PD.rig at H
  refine nn_some (ld_own ho rfl ?_)
  cases hd : A.down with
  | true =>
    rw [hd] at H
    exact H w h (Chg.refl _ _) rfl
  | false =>
    rw [hd] at H ho
    simp only [Bool.false_eq_true, if_false] at H ⊢
    refine nn_some (r_st ho h.list (by simp) fun w1 o1 f1 c1 s1 => nn_some (r_st o1 f1 (by simp) fun w2 o2 f2 c2 s2 => ?_))
    have key : ∀ q, q = !(decide (x < 0 ∨ y ≤ 0)) → levyref19_Disk_Fail.k8 (some ⟨b, 0, none⟩) x y q Q w2 := by
      intro q hq
      unfold levyref19_Disk_Fail.k8
      by_cases hp : x < 0 ∨ y ≤ 0
      · rw [if_pos hp] at H
        rw [if_neg (by simp [hq, hp])]
        exact H w2 ⟨o2, f2, h.what⟩ (c1.trans c2) (by rw [s2, s1])
      · rw [if_neg hp] at H
        rw [if_pos (by simp only [hq, hp, decide_false, Bool.not_false])]
        refine nn_some (r_st o2 f2 (by simp) fun w3 o3 f3 c3 s3 => nn_some (r_st o3 f3 (by simp) fun w4 o4 f4 c4 s4 => ?_))
        exact H w4 ⟨o4, f4, h.what⟩ (((c1.trans c2).trans c3).trans c4) (by rw [s4, s3, s2, s1])
    split
    · rename_i h3
      refine key _ ?_
      simp only [decide_eq_true_eq] at h3
      rw [Bool.eq_iff_iff, decide_eq_true_eq, Bool.not_eq_true', decide_eq_false_iff_not]
      omega
    · rename_i h3
      refine key _ ?_
      simp only [decide_eq_true_eq] at h3
      symm
      rw [Bool.not_eq_false', decide_eq_true_eq]
      omega

/-! ### a field of a file of a list -/
theorem ix_f {α : Type} {w : World} {s : Sl} {fl : List (AF × Sl)} {i off : Nat} {f : α → Value} {x : α} {K : α → Prop} (h : Reads w 3 s (fcells fl)) (hi : i < fl.length) (hv : (fcells fl)[i * 3 + off]? = some (f x)) (hk : K x) :
    ix s.p s.len (i : Int) 3 fun a => ld f w (a.add off) K := by
  obtain ⟨h1, h2⟩ := h
  rw [fcells_len] at h1
  rcases h2 with ⟨_, h0⟩ | ⟨a, hp, hh⟩
  · omega
  · refine ⟨a, hp, by omega, by omega, x, ?_, hk⟩
    rw [Int.toNat_natCast, Addr.add_add]
    exact hh _ _ hv
theorem place_spec {w c k b s fl A x} {Q : Int → Bool → World → Prop} (h : RDisk w c k b s fl A) (hA : A.Ok) (H : Q (pos A.files x : Int) (Pm.get A.files x).isSome w.drew) : levyref19_Disk_place (some ⟨b, 0, none⟩) x Q w := by
  have hl := h.len
  have hcount := hA.count
  have hple := pos_le A.files x
  have k1 : levyref19_Disk_place.k1 (some ⟨b, 0, none⟩) x (pos A.files x : Int) Q w := by
    unfold levyref19_Disk_place.k1 levyref19_Disk_place.k2
    refine nn_some (ld_own h.own.drew rfl ?_)
    by_cases hlt : pos A.files x < A.files.length
    · rw [if_pos (by rw [decide_eq_true_eq]; omega)]
      obtain ⟨hi, hf⟩ := h.at hlt
      have hn : fl[pos A.files x].1.name = A.files[pos A.files x].name := by rw [hf]; rfl
      refine nn_some (ld_own h.own.drew rfl (ix_f (w := w.drew) (off := 0) h.list.row.reads hi (fcells_at hi).1 ?_))
      rw [hn]
      have e : sEq A.files[pos A.files x].name x = (Pm.get A.files x).isSome := by
        rw [sEq_eq]
        cases hg : Pm.get A.files x with
        | none =>
          rw [Option.isSome_none, decide_eq_false_iff_not]
          exact (get_pos hA.srt).2 hg hlt
        | some f =>
          obtain ⟨h1, h2⟩ := (get_pos hA.srt).1 f hg
          rw [Option.isSome_some, decide_eq_true_eq, h2]
          exact (get_some hg).2
      rw [e]
      exact H
    · rw [if_neg (by rw [decide_eq_true_eq]; omega)]
      cases hg : Pm.get A.files x with
      | none => rw [hg] at H; exact H
      | some f => exact absurd ((get_pos hA.srt).1 f hg).1 hlt
  unfold levyref19_Disk_place
  refine Fix.intro (fun (z : Int) v => v = w ∧ ∃ i : Nat, z = i ∧ i ≤ pos A.files x) (fun z _ => A.files.length - z.toNat) ?_ ⟨rfl, 0, rfl, Nat.zero_le _⟩
  rintro z v K ⟨rfl, i, rfl, hi⟩ hK
  unfold levyref19_Disk_place.l13 levyref19_Disk_place.k14
  refine nn_some (ld_own h.own rfl ?_)
  by_cases hlt : i < A.files.length
  · rw [if_pos (by rw [decide_eq_true_eq]; omega)]
    obtain ⟨hi', hf⟩ := h.at hlt
    have hn : fl[i].1.name = A.files[i].name := by rw [hf]; rfl
    refine nn_some (ld_own h.own rfl (ix_f (off := 0) h.list.row.reads hi' (fcells_at hi').1 ?_))
    rw [hn]
    by_cases hp : i < pos A.files x
    · rw [if_pos (pos_lt hlt hp), Da.wrap_small (i := (i : Int) + 1) (by omega) (by omega)]
      exact hK _ _ ⟨rfl, i + 1, by omega, hp⟩ (by omega)
    · have hip : i = pos A.files x := by omega
      subst hip
      rw [if_neg (by rw [pos_at hlt]; exact Bool.false_ne_true)]
      exact k1
  · rw [if_neg (by rw [decide_eq_true_eq]; omega), if_neg Bool.false_ne_true]
    have hip : i = pos A.files x := by omega
    rw [hip]
    exact k1
theorem copied_spec {w c k x} {b : List UInt8} {Q : Sl → World → Prop} (hx : Reads w 1 x (b.map u8)) (hb : b.length ≤ 1099511627776)
    (H : ∀ w' c' s', Row w' c' k 5 1 s' (b.map u8) → Chg (fun _ => False) w w' → Ext w c c' → (∀ g, Sl.blk s' = some g → w.heap.size ≤ g) → Q s' w') : levyref19_copied x Q w := by
  unfold levyref19_copied
  have hl : x.len = b.length := by have := hx.1; simp at this; omega
  show rn _ _ (Instr.makeSlice 34 (.int .i64 ((0 : Nat) : Int)) (.int .i64 ((x.len : Nat) : Int))) _ _
  refine make_any (c := c) (k := k) Try.underlying34 iB (Nat.zero_le _) (by omega) fun g cur w1 c1 o1 hcs ch1 ex1 hg1 => ?_
  refine append_bytes (s := ⟨some ⟨g, 0, none⟩, 0, x.len⟩) (b := []) (c := c1) (k := k) ⟨rfl, Nat.zero_le _, by simp only [maxLen]; omega, .inr ⟨g, cur, rfl, o1, hcs, by simp⟩⟩ (Reads.new hx ch1) (by show 0 + x.len ≤ _; omega) fun s' w2 c2 hrow hch hex hbl hlen => ?_
  refine H w2 c2 s' hrow (fresh ch1 hch fun bb hbb => ?_) (freshX ch1 ex1 hex hch) fun gg hgg => ?_
  · obtain rfl : g = bb := Option.some.inj (show some g = some bb from hbb)
    exact hg1
  · rcases hbl gg hgg with h | h
    · obtain rfl : g = gg := Option.some.inj (show some g = some gg from h)
      exact hg1
    · exact Nat.le_trans ch1.size h

/-! ### lists of files: joined, cut, turned -/
theorem FRow.app {w c k z x fl gl} {ty : TypeId} {K : Sl → World → Prop} (h : FRow w c k z fl) (hx : Reads w 3 x (fcells gl)) (hd : ∀ p ∈ gl, Row w c k 5 1 p.2 (p.1.data.map u8)) (hl : fl.length + gl.length ≤ 1099511627776)
    (hk : ∀ s' w' c', FRow w' c' k s' (fl ++ gl) → Chg (fun b => Sl.blk z = some b) w w' → Ext w c c' → (∀ g, Sl.blk s' = some g → Sl.blk z = some g ∨ w.heap.size ≤ g) → K s' w') :
    rn Try.prog Sl.val (Builtin.append_ #[22, 22] ty [z.val, x.val].toArray) w K := by
  have hsl : z.len = fl.length := by have := h.row.1; rw [fcells_len] at this; omega
  have hxl : x.len = gl.length := by have := hx.1; rw [fcells_len] at this; omega
  have hfit : (z.len + x.len) * (48 + 1) ≤ 140737488355328 := by omega
  refine append_any ty Try.underlying22 iA rfl h.row hx (one_fcells gl) hfit fun s' w' c' hrow hch hex hbl hlen => ?_
  have ne : ∀ {q vs}, Row w c k 5 1 q vs → ∀ g, Sl.blk q = some g → ¬ Sl.blk z = some g := fun {q vs} hr g hg hs => by
    obtain ⟨cs, ho⟩ := hr.blk hg
    obtain ⟨cs', ho'⟩ := h.row.blk hs
    exact ho.neT ho' (by decide) rfl
  have e : fcells (fl ++ gl) = fcells fl ++ fcells gl := by unfold fcells; simp
  refine hk s' w' c' ⟨by rw [e]; exact hrow, fun p hp => ?_⟩ hch hex hbl
  rcases List.mem_append.1 hp with hp | hp
  · exact (h.data p hp).chg hch hex (ne (h.data p hp))
  · exact (hd p hp).chg hch hex (ne (hd p hp))
theorem fcells_take (fl : List (AF × Sl)) (n : Nat) : (fcells fl).take (n * 3) = fcells (fl.take n) := by
  induction fl generalizing n with
  | nil => simp [fcells]
  | cons p l ih =>
    rcases n with _ | n
    · simp [fcells]
    · have e : ∀ l, fcells (p :: l) = [.string p.1.name, p.2.val, .int .i64 p.1.sure] ++ fcells l := fun l => by unfold fcells; simp
      rw [List.take_succ_cons, e, e, show (n + 1) * 3 = n * 3 + 1 + 1 + 1 by omega]
      simp [ih]
theorem fcells_drop (fl : List (AF × Sl)) (n : Nat) : (fcells fl).drop (n * 3) = fcells (fl.drop n) := by
  induction fl generalizing n with
  | nil => simp [fcells]
  | cons p l ih =>
    rcases n with _ | n
    · simp [fcells]
    · have e : ∀ l, fcells (p :: l) = [.string p.1.name, p.2.val, .int .i64 p.1.sure] ++ fcells l := fun l => by unfold fcells; simp
      rw [List.drop_succ_cons, e, show (n + 1) * 3 = n * 3 + 1 + 1 + 1 by omega]
      simp [ih]
theorem Reads.take {w sz s vs} (h : Reads w sz s vs) {n : Nat} (hn : n ≤ s.len) (cap : Nat) : Reads w sz (cutSl ⟨s.p, s.len, cap⟩ sz 0 n cap) (vs.take (n * sz)) :=
  (Src.take (c := fun _ => 0) (j := 0) ⟨h, fun _ _ _ => rfl⟩ hn cap).1
theorem Reads.drop {w sz s vs} (h : Reads w sz s vs) {n : Nat} (hn : n ≤ s.len) (hc : s.len ≤ s.cap) : Reads w sz (cutSl ⟨s.p, s.len, s.cap⟩ sz n s.len s.cap) (vs.drop (n * sz)) := by
  obtain ⟨h1, h2⟩ := h
  have hl : (cutSl ⟨s.p, s.len, s.cap⟩ sz n s.len s.cap).len = s.len - n := rfl
  have hp : (cutSl ⟨s.p, s.len, s.cap⟩ sz n s.len s.cap).p = if s.cap = n then s.p else s.p.map (·.add (n * sz)) := rfl
  refine ⟨by rw [hl, List.length_drop, h1, Nat.sub_mul], ?_⟩
  rw [hp, hl]
  by_cases hcn : s.cap = n
  · rw [if_pos hcn]
    have h0 : s.len - n = 0 := by omega
    rcases h2 with ⟨h2, _⟩ | ⟨a, ha, hh⟩
    · exact .inl ⟨h2, h0⟩
    · refine .inr ⟨a, ha, fun i u hi => ?_⟩
      rw [List.drop_of_length_le (by rw [h1]; exact Nat.mul_le_mul_right _ (by omega))] at hi
      simp at hi
  · rw [if_neg hcn]
    rcases h2 with ⟨h2, h3⟩ | ⟨a, ha, hh⟩
    · exact .inl ⟨by rw [h2]; rfl, by omega⟩
    · refine .inr ⟨a.add (n * sz), by rw [ha]; rfl, fun i u hi => ?_⟩
      rw [Addr.add_add]
      refine hh _ _ ?_
      rw [List.getElem?_drop] at hi
      exact hi
theorem fcells_set {fl : List (AF × Sl)} {i : Nat} (hi : i < fl.length) (f : AF) (q : Sl) (hn : f.name = fl[i].1.name) : (fcells (fl.set i (f, q))) = ((fcells fl).set (i * 3 + 1) q.val).set (i * 3 + 2) (.int .i64 f.sure) := by
  induction fl generalizing i with
  | nil => cases hi
  | cons p l ih =>
    have e : ∀ p l, fcells (p :: l) = [.string p.1.name, p.2.val, .int .i64 p.1.sure] ++ fcells l := fun p l => by unfold fcells; simp
    rcases i with _ | i
    · rw [List.set_cons_zero, e, e]
      simp at hn
      simp [hn]
    · rw [List.set_cons_succ, e, e, ih (by simpa using hi) (by simpa using hn), show (i + 1) * 3 + 1 = i * 3 + 1 + 1 + 1 + 1 by omega, show (i + 1) * 3 + 2 = i * 3 + 2 + 1 + 1 + 1 by omega]
      simp
theorem fcells_same {fl : List (AF × Sl)} {i : Nat} (hi : i < fl.length) : (fcells fl).set (i * 3 + 1) fl[i].2.val = fcells fl ∧ (fcells fl).set (i * 3 + 2) (.int .i64 fl[i].1.sure) = fcells fl := by
  obtain ⟨_, e1, e2⟩ := fcells_at hi
  obtain ⟨l1, g1⟩ := List.getElem?_eq_some_iff.1 e1
  obtain ⟨l2, g2⟩ := List.getElem?_eq_some_iff.1 e2
  refine ⟨?_, ?_⟩
  · rw [← g1, List.set_getElem_self]
  · rw [← g2, List.set_getElem_self]
/-- a cell of an owned row is written -/
theorem Row.set {w c k t sz s vs i j v} {K : World → Prop} (h : Row w c k t sz s vs) (hi : i < s.len) (hj : j < sz)
    (hk : ∀ w', Row w' c k t sz s (vs.set (i * sz + j) v) → Chg (fun b => Sl.blk s = some b) w w' → w'.heap.size = w.heap.size → K w') : ix s.p s.len (i : Int) sz fun a => st w (a.add j) v K := by
  obtain ⟨h1, h2, h3, h4⟩ := h
  rcases h4 with ⟨hp, h0, _⟩ | ⟨g, cs, hp, ho, hcs, ht⟩
  · omega
  · refine ⟨_, hp, by omega, by omega, ?_⟩
    rw [Int.toNat_natCast]
    show st w (Addr.add (Addr.add ⟨g, 0, none⟩ (i * sz)) j) v K
    rw [Addr.add_add]
    have hb : i * sz + j < s.len * sz := by
      have : (i + 1) * sz ≤ s.len * sz := Nat.mul_le_mul_right _ hi
      rw [Nat.add_mul, Nat.one_mul] at this
      omega
    have hle : s.len * sz ≤ s.cap * sz := Nat.mul_le_mul_right _ h2
    refine st_own ho (by omega) fun w' o' ch hs => hk w' ⟨by rw [List.length_set]; exact h1, h2, h3, .inr ⟨g, _, hp, o', by simpa using hcs, ?_⟩⟩ (ch.mono fun bb _ e => by rw [e]; unfold Sl.blk; rw [hp]; rfl) hs
    rw [Array.toList_setIfInBounds, List.take_set, ht]
theorem FRow.setData {w c k s fl i q} {data : List UInt8} {K : World → Prop} (h : FRow w c k s fl) (hi : i < fl.length) (hq : Row w c k 5 1 q (data.map u8))
    (hk : ∀ w', FRow w' c k s (fl.set i (⟨fl[i].1.name, data, fl[i].1.sure⟩, q)) → Chg (fun b => Sl.blk s = some b) w w' → w'.heap.size = w.heap.size → K w') : ix s.p s.len (i : Int) 3 fun a => st w (a.add 1) q.val K := by
  have hsl : s.len = fl.length := by have := h.row.1; rw [fcells_len] at this; omega
  have ne : ∀ {q vs}, Row w c k 5 1 q vs → ∀ g, Sl.blk q = some g → ¬ Sl.blk s = some g := fun {q vs} hr g hg hs => by
    obtain ⟨cs, ho⟩ := hr.blk hg
    obtain ⟨cs', ho'⟩ := h.row.blk hs
    exact ho.neT ho' (by decide) rfl
  refine Row.set h.row (by omega) (by omega) fun w' r' ch hs => hk w' ⟨?_, fun p hp => ?_⟩ ch hs
  · rw [fcells_set hi ⟨fl[i].1.name, data, fl[i].1.sure⟩ q rfl]
    have : ((fcells fl).set (i * 3 + 1) q.val).set (i * 3 + 2) (.int .i64 fl[i].1.sure) = (fcells fl).set (i * 3 + 1) q.val := by
      rw [List.set_comm _ _ (by omega), (fcells_same hi).2]
    rw [this]
    exact r'
  · rcases List.mem_or_eq_of_mem_set hp with hp | rfl
    · exact (h.data p hp).chg ch (Ext.refl _ _) (ne (h.data p hp))
    · exact hq.chg ch (Ext.refl _ _) (ne hq)
theorem FRow.setSure {w c k s fl i} {n : Int} {K : World → Prop} (h : FRow w c k s fl) (hi : i < fl.length)
    (hk : ∀ w', FRow w' c k s (fl.set i (⟨fl[i].1.name, fl[i].1.data, n⟩, fl[i].2)) → Chg (fun b => Sl.blk s = some b) w w' → w'.heap.size = w.heap.size → K w') : ix s.p s.len (i : Int) 3 fun a => st w (a.add 2) (.int .i64 n) K := by
  have hsl : s.len = fl.length := by have := h.row.1; rw [fcells_len] at this; omega
  have ne : ∀ {q vs}, Row w c k 5 1 q vs → ∀ g, Sl.blk q = some g → ¬ Sl.blk s = some g := fun {q vs} hr g hg hs => by
    obtain ⟨cs, ho⟩ := hr.blk hg
    obtain ⟨cs', ho'⟩ := h.row.blk hs
    exact ho.neT ho' (by decide) rfl
  refine Row.set h.row (by omega) (by omega) fun w' r' ch hs => hk w' ⟨?_, fun p hp => ?_⟩ ch hs
  · rw [fcells_set hi ⟨fl[i].1.name, fl[i].1.data, n⟩ fl[i].2 rfl, (fcells_same hi).1]
    exact r'
  · have hd : ∀ p ∈ fl, Row w' c k 5 1 p.2 (p.1.data.map u8) := fun p hp => (h.data p hp).chg ch (Ext.refl _ _) (ne (h.data p hp))
    rcases List.mem_or_eq_of_mem_set hp with hp | rfl
    · exact hd p hp
    · exact hd fl[i] (List.getElem_mem hi)
end Go.Proofs.Ytjnifnlkicajhaa.Rd
