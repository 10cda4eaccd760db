/-
  The reference's disk: Sync, Trim, Remove, Read. No condition is put on any statement here.
-/
import Derived.Test.YtjnifnlkicajhaaRc
namespace Go.Proofs.Ytjnifnlkicajhaa.Rd
open Go Vc Hp Fs Da Pm Dd
set_option maxRecDepth 4000

theorem changes_spec {w c k b s fl A x} {g : List PF → List PF} {Q : Int → Int → World → Prop} (h : RDisk w c k b s fl A) (hA : A.Ok) (hxs : x.size < 9223372036854775807)
    (H1 : (A.change x g).1 ≠ 0 → ∀ w', RDisk w' c k b s fl (A.change x g).2 → Eff (· = k) w c w' c → Q 0 (A.change x g).1 w')
    (H2 : ∀ w' A' f, Pm.get A'.files x = some f → A'.Ok → A.change x g = (0, { A' with files := g A'.files }) → RDisk w' c k b s fl A' → Eff (· = k) w c w' c → Q (pos A'.files x : Int) 0 w') :
    levyref19_Disk_changes (some ⟨b, 0, none⟩) x Q w := by
  unfold levyref19_Disk_changes
  refine rfirst_spec h hA hxs fun w1 R1 ch1 hs1 => ?_
  have E1 : Eff (· = k) w c w1 c := (Eff.refl _ _ _).one ch1 (fun _ => h.own.col)
  have A1 := hA.first x
  unfold PD.change at H1 H2
  by_cases hne : (A.first x).1 ≠ 0
  · rw [if_pos hne] at H1
    rw [if_pos (by simpa using hne)]
    exact H1 hne w1 R1 E1
  rw [if_neg hne] at H1 H2
  rw [if_neg (by simpa using hne)]
  generalize (A.first x).2 = B at *
  dsimp only at H1 H2
  refine place_spec R1 A1 ?_
  have R1 := R1.drew
  have E1 := E1.drew
  generalize w1.drew = w1 at *
  cases hg : Pm.get B.files x with
  | none =>
    rw [hg] at H1
    rw [if_pos (show Option.isNone (none : Option PF) = true from rfl)] at H1
    rw [if_neg (show ¬ (Option.isSome (none : Option PF)) = true from Bool.false_ne_true)]
    exact H1 (show (193 : Int) ≠ 0 by decide) w1 R1 E1
  | some f =>
    rw [hg] at H1 H2
    rw [if_neg (show ¬ Option.isNone (some f) = true from Bool.false_ne_true)] at H1 H2
    rw [if_pos (show (Option.isSome (some f)) = true from rfl)]
    refine pays_spec R1 A1 (by omega) fun w2 R2 ch2 hs2 => ?_
    have E2 := E1.one ch2 (fun _ => R1.own.col)
    have A2 := A1.pay (cost := 1) (by omega)
    have hpf := B.pay_files 1
    generalize B.pay 1 = p at *
    obtain ⟨p1, p2, p3⟩ := p
    dsimp only at *
    cases p1 with
    | true =>
      rw [if_pos rfl] at H2
      rw [if_pos rfl]
      rw [← hpf] at hg ⊢
      exact H2 w2 p3 f hg A2 rfl R2 E2
    | false =>
      rw [if_neg Bool.false_ne_true] at H1
      rw [if_neg Bool.false_ne_true]
      exact H1 (show (190 : Int) ≠ 0 by decide) w2 R2 E2

theorem RDisk.listEff {w c k b s fl A w'} (h : RDisk w c k b s fl A) (ch : Chg (fun b => Sl.blk s = some b) w w') : Eff (· = k) w c w' c := Eff.of ch (Ext.refl _ _) fun g _ hg => by
  obtain ⟨cs, ho⟩ := h.list.row.blk hg
  exact ho.col
theorem e0 : ((0 : Int) == 0) = true := rfl
theorem ne0 {e : Int} (h : e ≠ 0) : ¬ (e == 0) = true := by simpa using h

theorem rsync_spec {w c k b s fl A x} {Q : Int → World → Prop} (h : RDisk w c k b s fl A) (hA : A.Ok) (hxs : x.size < 9223372036854775807)
    (H : ∀ w' s' fl', RDisk w' c k b s' fl' (A.sync x).2 → Eff (· = k) w c w' c → Q (A.sync x).1 w') : levyref19_Disk_Sync (some ⟨b, 0, none⟩) x Q w := by
  unfold levyref19_Disk_Sync levyref19_Disk_Sync.k2
  unfold PD.sync at H
  refine changes_spec (g := fun l => setf l x fun f => { f with sure := f.data.length }) h hA hxs (fun hne w' R E => ?_) fun w1 B f hg hB hch R1 E1 => ?_
  · rw [if_neg (ne0 hne)]
    exact H w' _ _ R E
  · rw [hch] at H
    rw [if_pos e0]
    have R1 := R1.drew
    have E1 := E1.drew
    generalize w1.drew = w1 at *
    obtain ⟨hlt, hat⟩ := (get_pos hB.srt).1 f hg
    obtain ⟨hi', hf⟩ := R1.at hlt
    rw [hat] at hf
    have hrow := R1.list.data _ (List.getElem_mem hi')
    rw [hf] at hrow
    have hql : (fl[pos B.files x]'hi').2.len = f.data.length := by have := hrow.1; simp [PF.af] at this; omega
    refine nn_some (ld_own R1.own rfl (nn_some (ld_own R1.own rfl (ix_f (off := 1) R1.list.row.reads hi' (fcells_at hi').2.1 ?_))))
    rw [hql]
    refine FRow.setSure R1.list hi' fun w2 l2 ch2 hs2 => ?_
    refine H w2 s _ ⟨R1.own.chg' ch2 (fun e => R1.offOwn b e rfl), l2, ?_⟩ (E1.trans (R1.listEff ch2))
    rw [List.map_set, R1.what, hf]
    have hset := setf_pos (g := fun f => { f with sure := f.data.length }) hB.srt.nodup hlt
    rw [hat] at hset
    dsimp only at hset ⊢
    rw [(get_some hg).2] at hset
    rw [hset, List.map_set]
    rw [← (get_some hg).2]
    rfl

theorem rk14_spec {w c k b s fl A i d2} {f : PF} {q : Sl} {b9 : Nat} {Q : Int → World → Prop} (h : RDisk w c k b s fl A) (hi : i < fl.length) (hf : fl[i].1 = ⟨f.name, d2, f.sure⟩) (o9 : Own w c b9 k (.cells #[.string f.name, q.val, .int .i64 (f.sure : Int)] 74 (0, 0)))
    (H : ∀ w' fl', FRow w' c k s fl' → Own w' c b k (.cells #[s.val, .bool A.down, .int .i64 A.units, .int .i64 A.after, .int .i64 A.calls] 100 (0, 0)) → fl'.map (·.1) = (fl.map (·.1)).set i ⟨f.name, d2, ((min f.sure d2.length : Nat) : Int)⟩ → Eff (· = k) w c w' c → Q 0 w') :
    levyref19_Disk_Trim.k14 (some ⟨b, 0, none⟩) (i : Int) 0 ⟨b9, 0, none⟩ Q w := by
  unfold levyref19_Disk_Trim.k14 levyref19_Disk_Trim.k2
  have h := h.drew
  have o9 := o9.drew
  have hrow := h.list.data _ (List.getElem_mem hi)
  rw [hf] at hrow
  have hql : (fl[i]).2.len = d2.length := by have := hrow.1; simp at this; omega
  refine nn_some (ld_own h.own rfl (ld_own (x := (f.sure : Int)) o9 rfl (nn_some (ld_own h.own rfl (ix_f (w := w.drew) (off := 1) h.list.row.reads hi (fcells_at hi).2.1 ?_)))))
  rw [hql, min_int]
  refine FRow.setSure h.list hi fun w2 l2 ch2 hs2 => ?_
  refine H w2 _ l2 (h.own.chg' ch2 (fun e => h.offOwn b e rfl)) ?_ ?_
  · rw [List.map_set, hf]
  · exact (Eff.refl _ _ _).drew.trans (h.listEff ch2)

theorem rtrim_spec {w c k b s fl A x n} {Q : Int → World → Prop} (h : RDisk w c k b s fl A) (hA : A.Ok) (hxs : x.size < 9223372036854775807)
    (H : ∀ w' c' s' fl', RDisk w' c' k b s' fl' (A.trim x n).2 → Eff (· = k) w c w' c' → Q (A.trim x n).1 w') : levyref19_Disk_Trim (some ⟨b, 0, none⟩) x n Q w := by
  unfold levyref19_Disk_Trim
  unfold PD.trim at H
  refine changes_spec (g := fun l => setf l x fun f => { f with data := f.data.take n.toNat, sure := min f.sure (cutTo n f.data.length) }) h hA hxs (fun hne w' R E => ?_) fun w1 B f hg hB hch R1 E1 => ?_
  · rw [if_neg (ne0 hne)]
    unfold levyref19_Disk_Trim.k2
    exact H w' c _ _ R E
  rw [hch] at H
  rw [if_pos e0]
  obtain ⟨hlt, hat⟩ := (get_pos hB.srt).1 f hg
  obtain ⟨hi', hf⟩ := R1.at hlt
  rw [hat] at hf
  have hfd := (hB.data f (get_some hg).1)
  refine nn_some (ld_own R1.own rfl (ix3 R1.list.row.reads hi' ?_))
  have hrow := R1.list.data _ (List.getElem_mem hi')
  have hset := setf_pos (g := fun f => { f with data := f.data.take n.toNat, sure := min f.sure (cutTo n f.data.length) }) hB.srt.nodup hlt
  rw [hat] at hset
  dsimp only at hset H
  rw [(get_some hg).2] at hset
  rw [hset] at H
  generalize hpp : pos B.files x = i at *
  have hfi : fl[i].1 = f.af := hf
  have hfin : ∀ w' c' s' fl', FRow w' c' k s' fl' → Own w' c' b k (.cells #[s'.val, .bool B.down, .int .i64 B.units, .int .i64 B.after, .int .i64 B.calls] 100 (0, 0)) → fl'.map (·.1) = (fl.map (·.1)).set i ⟨f.name, f.data.take n.toNat, ((min f.sure (cutTo n f.data.length) : Nat) : Int)⟩ → Eff (· = k) w c w' c' → Q 0 w' := by
    intro w' c' s' fl' l' o' hw E'
    refine H w' c' s' fl' ⟨o', l', ?_⟩ E'
    rw [hw, R1.what, List.map_set]
    rw [← (get_some hg).2]
    rfl
  have hql : (fl[i]).2.len = f.data.length := by have := hrow.1; rw [hfi] at this; simp [PF.af] at this; omega
  have hqc : (fl[i]).2.len ≤ (fl[i]).2.cap := hrow.2.1
  rw [hfi] at hrow ⊢
  generalize hq : (fl[i]).2 = q at *
  refine al_own (c := c) k fun b9 w2 c2 o2 ch2 ex2 hb2 => ?_
  refine stN_own o2 rfl fun w3 o3 ch3 hs3 => ?_
  have chT := fresh ch2 ch3 (fun bb hb => by rw [hb]; exact hb2)
  have R3 := R1.new chT ex2
  have E3 : Eff (· = k) w c w3 c2 := E1.new chT ex2
  have hq3 := hrow.chg chT ex2 (fun _ _ => id)
  have key : ∀ y : Nat, y = n.toNat → levyref19_Disk_Trim.k13 (some ⟨b, 0, none⟩) (i : Int) 0 ⟨b9, 0, none⟩ (y : Int) Q w3 := by
    intro y hy
    subst hy
    unfold levyref19_Disk_Trim.k13
    refine ld_own (x := q) o3 rfl ?_
    by_cases hcut : n.toNat < f.data.length
    · rw [if_pos (by rw [decide_eq_true_eq]; omega)]
      refine nn_some (ld_own R3.own.drew rfl (ld_own (x := q) o3.drew rfl ⟨by omega, by omega, ?_⟩))
      rw [Int.toNat_natCast]
      have hx := (Row.take hq3 (n := n.toNat) (by omega)).1.reads
      rw [Nat.mul_one, ← List.map_take] at hx
      refine copied_spec (c := c2) (k := k) (w := w3.drew) (b := f.data.take n.toNat) hx (by simp; omega) fun w4 c4 q4 r4 ch4 ex4 hq4 => ?_
      have ch4 := undrew ch4
      have ex4 : Ext w3 c2 c4 := ex4
      have R4 := R3.new ch4 ex4
      have o4 := o3.chg ch4 ex4 id
      refine ⟨⟨by rw [add_mk, R4.own.cell]; rfl, by rw [add_mk, o4.cell]; rfl, trivial⟩, FRow.setData R4.list hi' r4 fun w5 l5 ch5 hs5 => ?_⟩
      have o5 : Own w5 c4 b k _ := R4.own.chg' ch5 (fun e => R4.offOwn b e rfl)
      have o95 : Own w5 c4 b9 k _ := o4.chg' ch5 (fun e => by
        have h1 := hb2
        have h2 := Row.lt R1.list.row e
        omega)
      have R5 : RDisk w5 c4 k b s (fl.set i (⟨fl[i].1.name, f.data.take n.toNat, fl[i].1.sure⟩, q4)) { B with files := B.files.set i { f with data := f.data.take n.toNat } } := ⟨o5, l5, by
        rw [List.map_set, List.map_set, R1.what, hfi]; rfl⟩
      refine rk14_spec (i := i) (f := f) (d2 := f.data.take n.toNat) (q := q) R5 (by simpa using hi') (by simp [hfi, PF.af]) o95 fun w6 fl6 l6 o6 hw6 E6 => ?_
      refine hfin w6 c4 s fl6 l6 o6 ?_ (((E3.new ch4 ex4).trans (R4.listEff ch5)).trans E6)
      rw [hw6, List.map_set, List.set_set]
      congr 2
      simp only [List.length_take, cutTo]
    · rw [if_neg (by rw [decide_eq_true_eq]; omega)]
      have hdt : f.data.take n.toNat = f.data := List.take_of_length_le (by omega)
      refine rk14_spec (i := i) (f := f) (d2 := f.data) (q := q) R3 hi' hfi o3 fun w6 fl6 l6 o6 hw6 E6 => ?_
      refine hfin w6 c2 s fl6 l6 o6 ?_ (E3.trans E6)
      rw [hw6, hdt]
      congr 2
      unfold cutTo
      omega
  by_cases hn : n < 0
  · rw [if_pos (by rw [decide_eq_true_eq]; exact hn)]
    have := key 0 (by omega)
    exact this
  · rw [if_neg (by rw [decide_eq_true_eq]; exact hn)]
    have := key n.toNat rfl
    rw [Int.toNat_of_nonneg (by omega)] at this
    exact this

theorem rremove_spec {w c k b s fl A x} {Q : Int → World → Prop} (h : RDisk w c k b s fl A) (hA : A.Ok) (hxs : x.size < 9223372036854775807)
    (H : ∀ w' c' s' fl', RDisk w' c' k b s' fl' (A.remove x).2 → Eff (· = k) w c w' c' → Q (A.remove x).1 w') : levyref19_Disk_Remove (some ⟨b, 0, none⟩) x Q w := by
  unfold levyref19_Disk_Remove levyref19_Disk_Remove.k2
  unfold PD.remove at H
  refine changes_spec (g := fun l => rem l x) h hA hxs (fun hne w' R E => ?_) fun w1 B f hg hB hch R1 E1 => ?_
  · rw [if_neg (ne0 hne)]
    exact H w' c _ _ R E
  rw [hch] at H
  rw [if_pos e0]
  obtain ⟨hlt, hat⟩ := (get_pos hB.srt).1 f hg
  have hl := R1.len
  have hcount := hB.count
  have hsc : s.len ≤ s.cap := R1.list.row.2.1
  have hrem := rem_pos hB.srt.nodup hlt
  rw [hat, (get_some hg).2] at hrem
  generalize pos B.files x = p at *
  refine nn_some (ld_own R1.own rfl ⟨by omega, by omega, ?_⟩)
  rw [Int.toNat_natCast]
  have rd1 := Reads.take R1.list.row.reads (n := p) (by omega) s.cap
  rw [fcells_take] at rd1
  refine FRow.app (c := c) (k := k) (z := ⟨none, 0, 0⟩) (fl := []) (gl := fl.take p) (w := w1) (FRow.nil _ _ _) rd1 (fun y hy => R1.list.data y (List.mem_of_mem_take hy)) (by simp; omega) fun s2 w2 c2 l2 ch2 ex2 hbl2 => ?_
  have ch2 := noneM ch2
  have R2 := R1.new ch2 ex2
  have new2 : ∀ g, Sl.blk s2 = some g → w1.heap.size ≤ g := fun g hg => by
    rcases hbl2 g hg with e | e
    · cases (show (none : Option Nat) = some g from e)
    · exact e
  refine nn_some (ld_own R2.own rfl ?_)
  rw [Da.wrap_small (i := (p : Int) + 1) (by omega) (by omega)]
  refine ⟨by omega, by omega, ?_⟩
  rw [show ((p : Int) + 1).toNat = p + 1 by omega]
  have rd2 := Reads.drop R2.list.row.reads (n := p + 1) (by omega) hsc
  rw [fcells_drop] at rd2
  refine FRow.app (c := c2) (k := k) (z := s2) (gl := fl.drop (p + 1)) l2 rd2 (fun y hy => R2.list.data y (List.mem_of_mem_drop hy)) (by simp; omega) fun s3 w3 c3 l3 ch3 ex3 hbl3 => ?_
  have chT := fresh ch2 ch3 new2
  have exT := freshX ch2 ex2 ex3 ch3
  have R3 := R1.new chT exT
  refine nn_some (r_st R3.own l3 (by simp) fun w4 o4 f4 ch4 hs4 => ?_)
  refine H w4 c3 s3 _ ⟨o4, f4, ?_⟩ ((E1.new chT exT).one ch4 (fun _ => R3.own.col))
  dsimp only
  rw [hrem]
  simp only [List.nil_append, List.map_append, List.map_take, List.map_drop, R1.what]

theorem rread_spec {w c k b s fl A x} (kk : Nat) {Q : Sl → Int → World → Prop} (h : RDisk w c k b s fl A) (hA : A.Ok) (hxs : x.size < 9223372036854775807)
    (H : ∀ w' c' s', Row w' c' kk 5 1 s' ((A.read x).2.map u8) → Chg (fun _ => False) w w' → Ext w c c' → Q s' (A.read x).1 w') : levyref19_Disk_Read (some ⟨b, 0, none⟩) x Q w := by
  unfold levyref19_Disk_Read
  refine rnamed_spec hxs ?_
  unfold PD.read at H
  have none_case : ∀ {e : Int} {w2 : World}, (∀ w' c' s', Row w' c' kk 5 1 s' (([] : List UInt8).map u8) → Chg (fun _ => False) w w' → Ext w c c' → Q s' e w') → (w2 = w ∨ w2 = w.drew) → Q ⟨none, 0, 0⟩ e w2 := fun {e w2} H hw => by
    rcases hw with rfl | rfl
    · exact H _ c _ (Row.nil _ _ _ _ _) (Chg.refl _ _) (Ext.refl _ _)
    · exact H _ c _ (Row.nil _ _ _ _ _) (Chg.refl _ _).drew (Ext.refl _ _)
  cases hn : namedB x with
  | false =>
    rw [hn] at H
    exact none_case H (.inl rfl)
  | true =>
    rw [hn] at H
    simp only [Bool.true_eq_false, if_false] at H
    simp only [if_true]
    refine nn_some (ld_own h.own rfl ?_)
    cases hd : A.down with
    | true =>
      rw [hd] at H
      simp only [if_true] at H ⊢
      exact none_case H (.inl rfl)
    | false =>
      rw [hd] at H
      simp only [Bool.false_eq_true, if_false] at H ⊢
      refine place_spec h hA ?_
      cases hg : Pm.get A.files x with
      | none =>
        rw [hg] at H
        rw [if_neg (show ¬ (Option.isSome (none : Option PF)) = true from Bool.false_ne_true)]
        exact none_case H (.inr rfl)
      | some f =>
        rw [hg] at H
        rw [if_pos (show (Option.isSome (some f)) = true from rfl)]
        have R := h.drew
        obtain ⟨hlt, hat⟩ := (get_pos hA.srt).1 f hg
        obtain ⟨hi', hf⟩ := h.at hlt
        rw [hat] at hf
        have hrow := R.list.data _ (List.getElem_mem hi')
        rw [hf] at hrow
        have hfd := (hA.data f (get_some hg).1).1
        refine nn_some (ld_own R.own rfl (ix_f (w := w.drew) (off := 1) R.list.row.reads hi' (fcells_at hi').2.1 ?_))
        refine copied_spec (c := c) (k := kk) (b := f.data) hrow.reads (by omega) fun w1 c1 q1 r1 ch1 ex1 hq1 => ?_
        exact H w1 c1 q1 r1 (undrew ch1) ex1
end Go.Proofs.Ytjnifnlkicajhaa.Rd
