/-
  The reference's disk: Restart, Files, NewDisk. No condition is put on any statement here.
-/
import Derived.Test.YtjnifnlkicajhaaRe
namespace Go.Proofs.Ytjnifnlkicajhaa.Rd
open Go Vc Hp Fs Da Pm Dd
set_option maxRecDepth 4000

theorem part_set {keep : List Int} {i : Nat} {l : List PF} (hi : i < l.length) : (Dd.part keep i l).set i (kept keep i l[i]) = Dd.part keep (i + 1) l := by
  unfold Dd.part
  apply List.ext_getElem (by simp)
  intro j h1 h2
  have hj : j < l.length := by simpa using h2
  simp only [List.getElem_set, List.getElem_mapIdx]
  by_cases h : i = j
  · subst h; simp
  · rw [if_neg h]
    by_cases hlt : j < i
    · rw [if_pos hlt, if_pos (by omega)]
    · rw [if_neg hlt, if_neg (by omega)]
theorem part_len (keep : List Int) (i : Nat) (l : List PF) : (Dd.part keep i l).length = l.length := by unfold Dd.part; simp
theorem part_at {keep : List Int} {i : Nat} {l : List PF} (hi : i < l.length) : (Dd.part keep i l)[i]'(by rw [part_len]; exact hi) = l[i] := by
  unfold Dd.part
  simp

structure RRI (w : World) (c : Col) (k b j : Nat) (A : PD) (s s0 : Sl) (keep : List Int) (i : Nat) (v : World) (c' : Col) (fl : List (AF × Sl)) : Prop where
  disk : RDisk v c' k b s fl { A with files := Dd.part keep i A.files }
  src : Src v c' j 1 s0 (keep.map (Value.int .i64))
  eff : Eff (· = k) w c v c'
  le : i ≤ A.files.length

theorem keep_int (a : Nat) (y : Int) : (if (a : Int) < (if 0 > y then 0 else y) then (a : Int) else (if 0 > y then 0 else y)) = ((min y.toNat a : Nat) : Int) := by
  split <;> split at * <;> omega

theorem rk19_spec {w c k b s fl A i z} {f : PF} {q : Sl} {b9 : Nat} {y : Int} {s0 : Sl} {K5 : Int → World → Prop} {Q : World → Prop} (h : RDisk w c k b s fl A) (hi : i < fl.length) (hz : z = (i : Int)) (hf : fl[i].1 = f.af) (hq : fl[i].2 = q) (hfd : f.data.length ≤ 2097152 ∧ f.sure ≤ f.data.length)
    (o9 : Own w c b9 k (.cells #[.string f.name, q.val, .int .i64 (f.sure : Int)] 74 (0, 0))) (hb9 : ∀ g, Sl.blk s = some g → b9 ≠ g)
    (H : ∀ w' c' fl', FRow w' c' k s fl' → Own w' c' b k (.cells #[s.val, .bool A.down, .int .i64 A.units, .int .i64 A.after, .int .i64 A.calls] 100 (0, 0)) → fl'.map (·.1) = (fl.map (·.1)).set i (cutAt (min y.toNat (f.data.length - f.sure)) f).af → Eff (· = k) w c w' c' → K5 (IntKind.i64.wrap (z + 1)) w') :
    levyref19_Disk_Restart.k19 (some ⟨b, 0, none⟩) s0 z K5 ⟨b9, 0, none⟩ y Q w := by
  subst hz
  have hrow := h.list.data _ (List.getElem_mem hi)
  rw [hf, hq] at hrow
  have hql : q.len = f.data.length := by have := hrow.1; simp [PF.af] at this; omega
  have hqc : q.len ≤ q.cap := hrow.2.1
  unfold levyref19_Disk_Restart.k19
  refine ld_own (x := q) o9 rfl (ld_own (x := (f.sure : Int)) o9 rfl (nn_some (ld_own h.own.drew rfl (ld_own (x := q) o9.drew rfl (ld_own (x := (f.sure : Int)) o9.drew rfl ?_)))))
  have e1 : (if (IntKind.i64.wrap (((q.len : Nat) : Int) - (f.sure : Int))) < (if 0 > y then 0 else y) then (IntKind.i64.wrap (((q.len : Nat) : Int) - (f.sure : Int))) else (if 0 > y then 0 else y)) = ((min y.toNat (f.data.length - f.sure) : Nat) : Int) := by
    rw [Da.wrap_small (i := ((q.len : Nat) : Int) - (f.sure : Int)) (by omega) (by omega), show ((q.len : Nat) : Int) - (f.sure : Int) = ((f.data.length - f.sure : Nat) : Int) by omega, keep_int]
  rw [e1]
  have hmin : min y.toNat (f.data.length - f.sure) ≤ f.data.length - f.sure := Nat.min_le_right _ _
  generalize min y.toNat (f.data.length - f.sure) = r at *
  rw [Da.wrap_small (i := (f.sure : Int) + (r : Int)) (by omega) (by omega), show (f.sure : Int) + (r : Int) = ((f.sure + r : Nat) : Int) by omega, Int.toNat_natCast]
  refine ⟨by omega, by omega, ?_⟩
  have hx := (Row.take hrow.drew (n := f.sure + r) (by omega)).1.reads
  rw [Nat.mul_one, ← List.map_take] at hx
  refine copied_spec (c := c) (k := k) (w := w.drew) (b := f.data.take (f.sure + r)) hx (by simp; omega) fun w4 c4 q4 r4 ch4 ex4 hq4 => ?_
  have ch4 := undrew ch4
  have ex4 : Ext w c c4 := ex4
  have R4 := h.new ch4 ex4
  have o4 := o9.chg ch4 ex4 id
  refine ⟨⟨by rw [add_mk, R4.own.cell]; rfl, by rw [add_mk, o4.cell]; rfl, by rw [add_mk, o4.cell]; rfl, trivial⟩, FRow.setData R4.list hi r4 fun w5 l5 ch5 hs5 => ?_⟩
  have o5 : Own w5 c4 b k _ := R4.own.chg' ch5 (fun e => R4.offOwn b e rfl)
  have o95 : Own w5 c4 b9 k _ := o4.chg' ch5 (fun e => hb9 b9 e rfl)
  have hne : ∀ g, Sl.blk s = some g → g ≠ b := R4.offOwn
  refine nn_some (ld_own o5.drew rfl (ld_own (x := (f.sure : Int)) o95.drew rfl ?_))
  rw [Da.wrap_small (i := (f.sure : Int) + (r : Int)) (by omega) (by omega), show (f.sure : Int) + (r : Int) = ((f.sure + r : Nat) : Int) by omega]
  refine FRow.setSure l5.drew (by simpa using hi) fun w6 l6 ch6 hs6 => ?_
  have ch6 := undrew ch6
  have o6 : Own w6 c4 b k _ := o5.chg' ch6 (fun e => hne b e rfl)
  refine H w6 c4 _ l6 o6 ?_ ?_
  · rw [List.map_set, List.map_set, List.set_set]
    simp only [List.getElem_set_self]
    rw [hf]
    rfl
  · refine ((Eff.refl _ _ _).new ch4 ex4).trans (Eff.of (ch5.trans ch6) (Ext.refl _ _) fun g _ hg => ?_)
    obtain ⟨cs, ho⟩ := R4.list.row.blk hg
    exact ho.col

theorem rrestart_spec {w c k b s fl A j} {s0 : Sl} {keep : List Int} {Q : World → Prop} (h : RDisk w c k b s fl A) (hA : A.Ok) (src : Src w c j 1 s0 (keep.map (Value.int .i64))) (hj : j ≠ k)
    (H : ∀ w' c' s' fl', RDisk w' c' k b s' fl' (A.restart keep) → Eff (· = k) w c w' c' → Q w') : levyref19_Disk_Restart (some ⟨b, 0, none⟩) s0 Q w := by
  have hkl : s0.len = keep.length := by have := src.1.1; simp at this; omega
  unfold levyref19_Disk_Restart
  refine falls_spec h fun w1 R1 ch1 hs1 => ?_
  have E1 : Eff (· = k) w c w1 c := (Eff.refl _ _ _).one ch1 (fun _ => h.own.col)
  have S1 := src.eff E1 hj
  have A1 := hA.fall
  have hR : A.restart keep = { A.fall with files := A.files.mapIdx (kept keep), down := false } := rfl
  rw [hR] at H
  have hfl : A.fall.files = A.files := rfl
  rw [← hfl] at H
  generalize A.fall = B at *
  have hcount := A1.count
  have start : RRI w c k b j B s s0 keep 0 w1 c fl := ⟨by rw [part_zero]; exact R1, S1, E1, Nat.zero_le _⟩
  refine Fix.intro (fun (z : Int) v => ∃ (i : Nat) (c' : Col) (fl' : List (AF × Sl)), z = i ∧ RRI w c k b j B s s0 keep i v c' fl') (fun z _ => B.files.length - z.toNat) ?_ ⟨0, c, fl, rfl, start⟩
  rintro z v K ⟨i, c', fl', rfl, R⟩ hK
  have hlen := R.disk.len
  dsimp only at hlen
  rw [part_len] at hlen
  unfold levyref19_Disk_Restart.l5
  refine nn_some (ld_own R.disk.own rfl ?_)
  by_cases hlt : i < B.files.length
  · rw [if_pos (by rw [decide_eq_true_eq]; omega)]
    obtain ⟨hi', hf⟩ := R.disk.at (i := i) (by rw [part_len]; exact hlt)
    dsimp only at hf
    rw [part_at hlt] at hf
    have hfd := A1.data _ (List.getElem_mem hlt)
    refine nn_some (ld_own R.disk.own rfl (ix3 R.disk.list.row.reads hi' ?_))
    rw [hf]
    generalize hq : (fl'[i]).2 = q
    refine al_own (c := c') k fun b9 w2 c2 o2 ch2 ex2 hb2 => ?_
    refine stN_own o2 rfl fun w3 o3 ch3 hs3 => ?_
    have chT := fresh ch2 ch3 (fun bb hb => by rw [hb]; exact hb2)
    have R3 := R.disk.new chT ex2
    have S3 := R.src.chg chT ex2 (fun _ _ => id)
    have E3 := R.eff.new chT ex2
    have hb9 : ∀ g, Sl.blk s = some g → b9 ≠ g := fun g hg e => by
      have := Row.lt R.disk.list.row hg
      omega
    have go : ∀ y : Int, cutAt (min y.toNat (B.files[i].data.length - B.files[i].sure)) B.files[i] = kept keep i B.files[i] → levyref19_Disk_Restart.k19 (some ⟨b, 0, none⟩) s0 (i : Int) K ⟨b9, 0, none⟩ y Q w3 := by
      intro y hy
      refine rk19_spec (f := B.files[i]) (q := q) R3 hi' rfl hf hq hfd o3 hb9 fun w4 c4 fl4 l4 o4 hw4 E4 => ?_
      rw [Da.wrap_small (i := (i : Int) + 1) (by omega) (by omega)]
      refine hK _ _ ⟨i + 1, c4, fl4, by omega, ⟨⟨o4, l4, ?_⟩, S3.eff E4 hj, E3.trans E4, hlt⟩⟩ (by omega)
      rw [hw4, R.disk.what, hy, ← part_set hlt, List.map_set]
    by_cases hk0 : keep.length = 0
    · rw [if_neg (by rw [decide_eq_true_eq]; omega)]
      refine go 0 ?_
      unfold cutAt kept
      rw [if_pos hk0]
      simp
    · rw [if_pos (by rw [decide_eq_true_eq]; omega)]
      refine ⟨by omega, ?_⟩
      have htm : Int.tmod (i : Int) ((s0.len : Nat) : Int) = ((i % keep.length : Nat) : Int) := by
        rw [hkl]; exact (Int.ofNat_tmod i keep.length).symm
      rw [htm]
      have hml : i % keep.length < keep.length := Nat.mod_lt _ (by omega)
      refine ix_ld (x := keep[i % keep.length]) S3.1 (by simp [hml]) (go _ ?_)
      unfold cutAt kept
      rw [if_neg hk0]
      have : keep.getD (i % keep.length) 0 = keep[i % keep.length] := by simp [hml]
      rw [this]
  · rw [if_neg (by rw [decide_eq_true_eq]; omega)]
    unfold levyref19_Disk_Restart.k2
    have hi : i = B.files.length := by have := R.le; omega
    refine nn_some (r_st R.disk.own R.disk.list (by simp) fun w3 o3 f3 ch3 hs3 => ?_)
    refine H w3 c' s fl' ⟨o3, f3, ?_⟩ (R.eff.one ch3 (fun _ => R.disk.own.col))
    have := R.disk.what
    dsimp only at this
    rw [hi, part_all] at this
    exact this

theorem rfiles_spec {w c k b s fl A} (kk : Nat) {Q : Sl → World → Prop} (h : RDisk w c k b s fl A) (hA : A.Ok)
    (H : ∀ w' c' s' fl', FRow w' c' kk s' fl' → fl'.map (·.1) = A.files.map PF.af → Chg (fun _ => False) w w' → Ext w c c' → Q s' w') : levyref19_Disk_Files (some ⟨b, 0, none⟩) Q w := by
  have hcount := hA.count
  have hlen := h.len
  unfold levyref19_Disk_Files
  have start : FI w c kk A.files ⟨none, 0, 0⟩ 0 w c [] := ⟨FRow.nil _ _ _, rfl, Chg.refl _ _, Ext.refl _ _, fun g hg => (by cases (show (none : Option Nat) = some g from hg)), Nat.zero_le _⟩
  refine Fix.intro (fun (z : Sl × Int) v => ∃ (i : Nat) (c' : Col) (fl : List (AF × Sl)), z.2 = i ∧ FI w c kk A.files z.1 i v c' fl) (fun z _ => A.files.length - z.2.toNat) ?_ ⟨0, c, [], rfl, start⟩
  rintro ⟨z, zi⟩ v K ⟨i, c', gl, hzi, I⟩ hK
  have hzi : zi = (i : Int) := hzi
  subst hzi
  unfold levyref19_Disk_Files.l2
  dsimp only
  have R := h.new I.ch I.ex
  refine nn_some (ld_own R.own rfl ?_)
  by_cases hlt : i < A.files.length
  · rw [if_pos (by rw [decide_eq_true_eq]; omega)]
    obtain ⟨hi', hf⟩ := R.at hlt
    have hfd := (hA.data _ (List.getElem_mem hlt)).1
    have hrow := R.list.data _ (List.getElem_mem hi')
    refine nn_some (ld_own R.own rfl (ix3 R.list.row.reads hi' ?_))
    rw [hf] at hrow ⊢
    generalize hq : (fl[i]).2 = q at *
    refine al_own (c := c') kk fun b9 w2 c2 o2 ch2 ex2 hb2 => ?_
    refine stN_own o2 rfl fun w3 o3 ch3 hs3 => ?_
    have ch23 := fresh ch2 ch3 (fun bb hb => by rw [hb]; exact hb2)
    have hx := Reads.new hrow.reads ch23
    refine ld_own (x := q) o3 rfl (copied_spec (c := c2) (k := kk) (b := A.files[i].data) hx (by omega) fun w4 c4 q4 r4 ch4 ex4 hq4 => ?_)
    have o4 := o3.chg ch4 ex4 id
    refine st_own o4 (by simp) fun w5 o5 ch5 hs5 => ?_
    have r5 := r4.chg ch5 (Ext.refl _ _) (fun g hg e => by
      obtain ⟨cs, ho⟩ := r4.blk hg
      exact ho.neT o4 (by decide) e)
    refine ld_own (x := A.files[i].name) o5 rfl (ld_own (x := q4) o5 rfl (ld_own (x := (A.files[i].sure : Int)) o5 rfl ?_))
    refine al_own (c := c4) kk fun bx w6 c6 o6 ch6 ex6 hb6 => ?_
    have r6 := r5.chg ch6 ex6 (fun _ _ => id)
    have ch24 := fresh ch23 ch4 (fun _ => False.elim)
    have ex24 : Ext v c' c4 := freshX ch23 ex2 ex4 ch4
    have ch25 := fresh ch24 ch5 (fun bb hb => by rw [hb]; exact hb2)
    have ch26 := fresh ch25 ch6 (fun _ => False.elim)
    have ex26 := freshX ch25 ex24 ex6 ch6
    have l6 := I.list.new ch26 ex26
    have hgl : gl.length = i := by
      have := congrArg List.length I.what
      simp at this; omega
    refine l6.snoc (f := A.files[i].af) (q := q4) o6 r6 (by omega) fun s' w7 c7 l7 ch7 ex7 hbl => ?_
    rw [Da.wrap_small (i := (i : Int) + 1) (by omega) (by omega)]
    have chA := fresh I.ch ch26 (fun _ => False.elim)
    have exA := freshX I.ch I.ex ex26 ch26
    refine hK _ _ ⟨i + 1, c7, gl ++ [(A.files[i].af, q4)], by show ((i : Int) + 1) = ((i + 1 : Nat) : Int); omega, ⟨l7, ?_, fresh chA ch7 I.blk, freshX chA exA ex7 ch7, fun g hg => ?_, hlt⟩⟩ (by show A.files.length - ((i : Int) + 1).toNat < A.files.length - (i : Int).toNat; omega)
    · rw [List.map_append, I.what, List.take_succ_eq_append_getElem hlt, List.map_append]
      rfl
    · rcases hbl g hg with h1 | h1
      · exact I.blk g h1
      · exact Nat.le_trans chA.size h1
  · rw [if_neg (by rw [decide_eq_true_eq]; omega)]
    unfold levyref19_Disk_Files.k1
    have hi : i = A.files.length := by have := I.le; omega
    refine H v c' z gl I.list ?_ I.ch I.ex
    rw [I.what, hi, List.take_length]

structure RNI (w : World) (c : Col) (k j b : Nat) (s : Sl) (fl : List (AF × Sl)) (i : Nat) (v : World) (c' : Col) (z : Sl) (gl : List (AF × Sl)) (acc : List PF) : Prop where
  disk : RDisk v c' k b z gl ⟨acc, false, -1, 0, 0⟩
  src : FSrc v c' j s fl
  eff : Eff (· = k) w c v c'
  ok : PD.Ok ⟨acc, false, -1, 0, 0⟩
  cnt : acc.length ≤ i
  go : mk (fl.map (·.1)) [] = mk ((fl.map (·.1)).drop i) acc
  le : i ≤ fl.length

theorem rnewDisk_spec {w c j s fl} (k : Nat) {Q : Option Addr → Int → World → Prop} (src : FSrc w c j s fl) (hj : j ≠ k) (hns : ∀ p ∈ fl, p.1.name.size < 9223372036854775807)
    (H0 : make (fl.map (·.1)) = none → ∀ w' c', Eff (· = k) w c w' c' → Q none 195 w')
    (H1 : ∀ A, make (fl.map (·.1)) = some A → ∀ w' c' b z gl, RDisk w' c' k b z gl A → Eff (· = k) w c w' c' → Q (some ⟨b, 0, none⟩) 0 w') : levyref19_NewDisk s Q w := by
  have hsl : s.len = fl.length := by have := src.row.1.1; rw [fcells_len] at this; omega
  unfold levyref19_NewDisk
  unfold make at H0 H1
  rw [List.length_map] at H0 H1
  refine al_own (c := c) k fun b w1 c1 ob ch1 ex1 hb1 => ?_
  have E1 : Eff (· = k) w c w1 c1 := (Eff.refl _ _ _).new ch1 ex1
  by_cases h40 : 40 < fl.length
  · rw [if_pos h40] at H0
    rw [if_pos (by rw [decide_eq_true_eq]; omega)]
    exact H0 rfl w1 c1 E1
  rw [if_neg h40] at H0 H1
  rw [if_neg (by rw [decide_eq_true_eq]; omega)]
  have start : RNI w c k j b s fl 0 w1 c1 ⟨none, 0, 0⟩ [] [] := ⟨⟨ob, FRow.nil _ _ _, rfl⟩, src.new ch1 ex1, E1, ⟨List.Pairwise.nil, fun f hf => (by cases hf), by simp, by simp [maxI], by simp [maxI], by simp [maxI]⟩, Nat.le_refl _, rfl, Nat.zero_le _⟩
  refine Fix.intro (fun (z : Int) v => ∃ (i : Nat) (c' : Col) (y : Sl) (gl : List (AF × Sl)) (acc : List PF), z = i ∧ RNI w c k j b s fl i v c' y gl acc) (fun z _ => fl.length - z.toNat) ?_ ⟨0, c1, ⟨none, 0, 0⟩, [], [], rfl, start⟩
  rintro z v K ⟨i, c', y, gl, acc, rfl, I⟩ hK
  unfold levyref19_NewDisk.l7
  by_cases hlt : i < fl.length
  · rw [if_pos (by rw [decide_eq_true_eq]; omega)]
    refine ix3 I.src.row.1 hlt ?_
    have hdrop : (fl.map (·.1)).drop i = fl[i].1 :: (fl.map (·.1)).drop (i + 1) := by
      rw [List.drop_eq_getElem_cons (by simpa using hlt), List.getElem_map]
    have hgo := I.go
    rw [hdrop, mk] at hgo
    have hsrc := I.src.data _ (List.getElem_mem hlt)
    have hnm := hns _ (List.getElem_mem hlt)
    generalize hfq : fl[i] = fq at *
    obtain ⟨f, q⟩ := fq
    dsimp only at hgo hsrc hnm ⊢
    have hql : q.len = f.data.length := by have := hsrc.1.1; simp at this; omega
    refine al_own (c := c') k fun b9 w3 c3 o3 ch3 ex3 hb3 => ?_
    refine stN_own o3 rfl fun w4 o4 ch4 hs4 => ?_
    have ch34 := fresh ch3 ch4 (fun bb hb => by rw [hb]; exact hb3)
    have D4 := I.disk.new ch34 ex3
    have E4 := I.eff.new ch34 ex3
    refine ld_own (x := f.name) o4 rfl (rnamed_spec hnm (ld_own (x := f.name) o4 rfl (place_spec D4 I.ok ?_)))
    have D4 := D4.drew
    have o4 := o4.drew
    have E4 := E4.drew
    have src4 : FSrc w4.drew c3 j s fl := I.src.new ch34.drew ex3
    have q4 : Reads w4.drew 1 q (f.data.map u8) := Reads.new hsrc.1 ch34.drew
    generalize w4.drew = w4 at *
    have keyT : bad acc f = true → levyref19_NewDisk.k21 s ⟨b, 0, none⟩ i K ⟨b9, 0, none⟩ true Q w4 := by
      intro hb
      rw [if_pos hb] at hgo
      unfold levyref19_NewDisk.k21
      rw [if_pos rfl]
      rw [hgo] at H0
      exact H0 rfl w4 c3 E4
    have keyF : bad acc f = false → levyref19_NewDisk.k21 s ⟨b, 0, none⟩ i K ⟨b9, 0, none⟩ false Q w4 := by
      intro hb
      rw [if_neg (by rw [hb]; exact Bool.false_ne_true)] at hgo
      obtain ⟨g1, g2, g3, g4, g5⟩ := bad_not hb
      unfold levyref19_NewDisk.k21
      rw [if_neg Bool.false_ne_true]
      refine ld_own (x := q) o4 rfl (copied_spec (c := c3) (k := k) (b := f.data) q4 (by omega) fun w5 c5 q5 r5 ch5 ex5 hq5 => ?_)
      have o5 := o4.chg ch5 ex5 id
      have D5 := D4.new ch5 ex5
      have hsn : ((f.sure.toNat : Nat) : Int) = f.sure := Int.toNat_of_nonneg g4
      refine ld_own (x := f.name) o5 rfl (ld_own (x := ((f.sure.toNat : Nat) : Int)) o5 (by rw [hsn]; rfl) ?_)
      refine radd_spec (f := ⟨f.name, f.data, f.sure.toNat⟩) D5 I.ok r5 fun w6 c6 s6 gl6 R6 E6 => ?_
      rw [Da.wrap_small (i := (i : Int) + 1) (by omega) (by omega)]
      have hcnt := I.cnt
      have ok6 : PD.Ok ⟨ins ⟨f.name, f.data, f.sure.toNat⟩ acc, false, -1, 0, 0⟩ := I.ok.files (ins_srt I.ok.srt (get_none.1 g1)) (fun g hg => by
        rcases List.mem_cons.1 ((ins_perm _ _).mem_iff.1 hg) with rfl | hg
        · exact ⟨g3, by dsimp only; omega⟩
        · exact I.ok.data g hg) (by rw [(ins_perm _ _).length_eq]; simp; omega)
      refine hK _ _ ⟨i + 1, c6, s6, gl6, _, by omega, ⟨R6, (src4.new ch5 ex5).eff E6 hj, (E4.new ch5 ex5).trans E6, ok6, by rw [(ins_perm _ _).length_eq]; simp; omega, hgo, hlt⟩⟩ (by omega)
    cases hn : namedB f.name with
    | false =>
      rw [if_neg Bool.false_ne_true]
      exact keyT (by unfold bad; rw [hn]; simp)
    | true =>
      rw [if_pos rfl]
      cases hg : Pm.get acc f.name with
      | some e =>
        rw [if_pos (show (Option.isSome (some e)) = true from rfl)]
        exact keyT (by unfold bad; rw [hg]; rfl)
      | none =>
        rw [if_neg (show ¬ (Option.isSome (none : Option PF)) = true from Bool.false_ne_true)]
        refine ld_own (x := q) o4 rfl ?_
        by_cases h1 : 2097152 < f.data.length
        · rw [if_pos (by rw [decide_eq_true_eq]; omega)]
          exact keyT (by unfold bad; simp [h1])
        rw [if_neg (by rw [decide_eq_true_eq]; omega)]
        refine ld_own (x := f.sure) o4 rfl ?_
        by_cases h2 : f.sure < 0
        · rw [if_pos (by rw [decide_eq_true_eq]; omega)]
          exact keyT (by unfold bad; simp [h2])
        rw [if_neg (by rw [decide_eq_true_eq]; omega)]
        refine ld_own (x := f.sure) o4 rfl (ld_own (x := q) o4 rfl ?_)
        have hbad : bad acc f = decide (f.sure > ((q.len : Nat) : Int)) := by
          unfold bad
          rw [hg, hn, hql]
          simp [h1, h2]
        cases hd : decide (f.sure > ((q.len : Nat) : Int)) with
        | true => exact keyT (by rw [hbad, hd])
        | false => exact keyF (by rw [hbad, hd])
  · rw [if_neg (by rw [decide_eq_true_eq]; omega)]
    unfold levyref19_NewDisk.k6
    have hi : i = fl.length := by have := I.le; omega
    have hgo := I.go
    rw [hi, List.drop_of_length_le (by simp), mk] at hgo
    exact H1 ⟨acc, false, -1, 0, 0⟩ (by rw [hgo]; rfl) v c' b y gl I.disk I.eff
end Go.Proofs.Ytjnifnlkicajhaa.Rd
