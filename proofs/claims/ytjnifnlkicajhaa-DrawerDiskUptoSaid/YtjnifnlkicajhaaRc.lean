/-
  The reference's disk: add, Append, Sync, Trim, Remove, Read. No condition is put on any statement here.
-/
import Derived.Test.YtjnifnlkicajhaaRb
namespace Go.Proofs.Ytjnifnlkicajhaa.Rd
open Go Vc Hp Fs Da Pm Dd
set_option maxRecDepth 4000

theorem FRow.nil (w : World) (c : Col) (k : Nat) : FRow w c k ⟨none, 0, 0⟩ [] := ⟨Row.nil _ _ _ _ _, fun p hp => by cases hp⟩
theorem noneM {w w' : World} {l n : Nat} (h : Chg (fun b => Sl.blk ⟨none, l, n⟩ = some b) w w') : Chg (fun _ => False) w w' := h.mono fun b _ e => by cases (show (none : Option Nat) = some b from e)

theorem radd_spec {w c k b s fl A q} {f : PF} {Q : World → Prop} (h : RDisk w c k b s fl A) (hA : A.Ok) (hq : Row w c k 5 1 q (f.data.map u8))
    (H : ∀ w' c' s' fl', RDisk w' c' k b s' fl' { A with files := ins f A.files } → Eff (· = k) w c w' c' → Q w') : levyref19_Disk_add (some ⟨b, 0, none⟩) f.name q (f.sure : Int) Q w := by
  have hl := h.len
  have hcount := hA.count
  have hp := pos_le A.files f.name
  have hsc : s.len ≤ s.cap := h.list.row.2.1
  unfold levyref19_Disk_add
  refine al_own (c := c) k fun b1 w1 c1 o1 ch1 ex1 hb1 => ?_
  have R1 := h.new ch1 ex1
  refine ld_own (x := f.name) o1 rfl (place_spec R1 hA (nn_some (ld_own R1.own.drew rfl ⟨by omega, by omega, ?_⟩)))
  rw [Int.toNat_natCast]
  generalize hpp : pos A.files f.name = p at *
  have rd1 := Reads.take R1.list.row.reads (n := p) (by omega) s.cap
  rw [fcells_take] at rd1
  refine FRow.app (c := c1) (k := k) (z := ⟨none, 0, 0⟩) (fl := []) (gl := fl.take p) (w := w1.drew) (FRow.nil _ _ _) rd1 (fun y hy => R1.list.drew.data y (List.mem_of_mem_take hy)) (by simp; omega) fun s2 w2 c2 l2 ch2 ex2 hbl2 => ?_
  have ch2 := noneM (undrew ch2)
  have ex2 : Ext w1 c1 c2 := ex2
  have R2 := R1.new ch2 ex2
  have o2 := o1.chg ch2 ex2 id
  have chT2 := fresh ch1 ch2 (fun _ => False.elim)
  have exT2 := freshX ch1 ex1 ex2 ch2
  have new2 : ∀ g, Sl.blk s2 = some g → w.heap.size ≤ g := fun g hg => by
    rcases hbl2 g hg with e | e
    · cases (show (none : Option Nat) = some g from e)
    · exact Nat.le_trans ch1.size e
  refine ld_own (x := f.name) o2 rfl (ld_own (x := q) o2 rfl (ld_own (x := (f.sure : Int)) o2 rfl ?_))
  refine al_own (c := c2) k fun b2 w3 c3 o3 ch3 ex3 hb3 => ?_
  have R3 := R2.new ch3 ex3
  have chT3 := fresh chT2 ch3 (fun _ => False.elim)
  have exT3 := freshX chT2 exT2 ex3 ch3
  have l3 := l2.new ch3 ex3
  have hq3 := hq.chg chT3 exT3 (fun _ _ => id)
  refine l3.snoc (f := f.af) (q := q) o3 hq3 (by simp; omega) fun s4 w4 c4 l4 ch4 ex4 hbl4 => ?_
  have chT4 := fresh chT3 ch4 new2
  have exT4 := freshX chT3 exT3 ex4 ch4
  have R4 := h.new chT4 exT4
  have new4 : ∀ g, Sl.blk s4 = some g → w.heap.size ≤ g := fun g hg => by
    rcases hbl4 g hg with e | e
    · exact new2 g e
    · exact Nat.le_trans chT3.size e
  refine nn_some (ld_own R4.own rfl ⟨by omega, by omega, ?_⟩)
  have rd4 := Reads.drop R4.list.row.reads (n := p) (by omega) hsc
  rw [fcells_drop] at rd4
  refine FRow.app (c := c4) (k := k) (z := s4) (gl := fl.drop p) l4 rd4 (fun y hy => R4.list.data y (List.mem_of_mem_drop hy)) (by simp; omega) fun s5 w5 c5 l5 ch5 ex5 hbl5 => ?_
  have chT5 := fresh chT4 ch5 new4
  have exT5 := freshX chT4 exT4 ex5 ch5
  have R5 := h.new chT5 exT5
  refine nn_some (r_st R5.own l5 (by simp) fun w6 o6 f6 ch6 hs6 => ?_)
  refine H w6 c5 s5 _ ⟨o6, f6, ?_⟩ (((Eff.refl _ _ _).new chT5 exT5).one ch6 (fun _ => R5.own.col))
  show List.map _ ((([] ++ fl.take p) ++ [(f.af, q)]) ++ fl.drop p) = (ins f A.files).map PF.af
  rw [ins_pos, hpp]
  simp only [List.nil_append, List.map_append, List.map_take, List.map_drop, List.map_cons, List.map_nil, h.what, List.append_assoc, List.cons_append]

theorem rk12_spec {w c k b s fl A i j} {x2 : Sl} {bs : List UInt8} {n : Nat} {done : Bool} {Q : Int → World → Prop} (h : RDisk w c k b s fl A) (hA : A.Ok) (hi : i < A.files.length) (src : Src w c j 1 x2 (bs.map u8)) (hcap : x2.len ≤ x2.cap) (hn : n ≤ bs.length) (hb : bs.length ≤ 1099511627776)
    (H : ∀ w' c' s' fl', RDisk w' c' k b s' fl' { A with files := A.files.set i { A.files[i] with data := A.files[i].data ++ bs.take n } } → Eff (· = k) w c w' c' → Q (if done = true then 0 else 190) w') :
    levyref19_Disk_Append.k12 (some ⟨b, 0, none⟩) x2 done (n : Int) (i : Int) Q w := by
  have hd := (hA.data _ (List.getElem_mem hi)).1
  have hl : x2.len = bs.length := by have := src.1.1; simp at this; omega
  obtain ⟨hi', hf⟩ := h.at hi
  unfold levyref19_Disk_Append.k12
  refine nn_some (ld_own h.own rfl (ix_f (off := 1) h.list.row.reads hi' (fcells_at hi').2.1 ?_))
  have hrow := h.list.data _ (List.getElem_mem hi')
  rw [hf] at hrow
  refine copied_spec (c := c) (k := k) (b := A.files[i].data) hrow.reads (by omega) fun w1 c1 q1 r1 ch1 ex1 hq1 => ?_
  have R1 := h.new ch1 ex1
  refine nn_some (ld_own R1.own.drew rfl ⟨by omega, by omega, ?_⟩)
  rw [Int.toNat_natCast]
  have hx := ((src.chg ch1 ex1 (fun _ _ => id)).take (n := n) (by omega) x2.cap).1
  rw [Nat.mul_one, ← List.map_take] at hx
  have hq1l : q1.len = A.files[i].data.length := by have := r1.1; simp at this; omega
  refine append_bytes (w := w1.drew) (c := c1) (k := k) r1.drew hx (by show q1.len + n ≤ _; omega) fun q2 w2 c2 r2 ch2 ex2 hbl2 hlen2 => ?_
  have ch2 := undrew ch2
  have ex2 : Ext w1 c1 c2 := ex2
  have chT := fresh ch1 ch2 hq1
  have exT := freshX ch1 ex1 ex2 ch2
  have R2 := h.new chT exT
  refine ⟨⟨by rw [add_mk, R2.own.cell]; rfl, trivial⟩, FRow.setData R2.list hi' r2 fun w3 l3 ch3 hs3 => ?_⟩
  have R3 : RDisk w3 c2 k b s _ { A with files := A.files.set i { A.files[i] with data := A.files[i].data ++ bs.take n } } := ⟨R2.own.chg' ch3 (fun e => R2.offOwn b e rfl), l3, by
    rw [List.map_set, List.map_set, h.what, hf]
    rfl⟩
  have E3 : Eff (· = k) w c w3 c2 := ((Eff.refl _ _ _).new chT exT).trans (Eff.of ch3 (Ext.refl _ _) fun g _ hg => by
    obtain ⟨cs, ho⟩ := R2.list.row.blk hg
    exact ho.col)
  cases done with
  | true => exact H w3 c2 _ _ R3 E3
  | false => exact H w3 c2 _ _ R3 E3

theorem rappend_spec {w c k b s fl A x j} {x2 : Sl} {bs : List UInt8} {Q : Int → World → Prop} (h : RDisk w c k b s fl A) (hA : A.Ok) (hxs : x.size < 9223372036854775807) (src : Src w c j 1 x2 (bs.map u8)) (hj : j ≠ k) (hcap : x2.len ≤ x2.cap) (hb : bs.length ≤ 1099511627776)
    (H : ∀ w' c' s' fl', RDisk w' c' k b s' fl' (A.append x bs).2 → Eff (· = k) w c w' c' → Q (A.append x bs).1 w') : levyref19_Disk_Append (some ⟨b, 0, none⟩) x x2 Q w := by
  have hl : x2.len = bs.length := by have := src.1.1; simp at this; omega
  unfold levyref19_Disk_Append
  refine rfirst_spec h hA hxs fun w1 R1 ch1 hs1 => ?_
  have E1 : Eff (· = k) w c w1 c := (Eff.refl _ _ _).one ch1 (fun _ => h.own.col)
  have S1 := src.eff E1 hj
  have A1 := hA.first x
  unfold PD.append at H
  by_cases hne : (A.first x).1 ≠ 0
  · rw [if_pos hne] at H
    rw [if_pos (by simpa using hne)]
    exact H w1 c _ _ R1 E1
  rw [if_neg hne] at H
  rw [if_neg (by simpa using hne)]
  generalize (A.first x).2 = B at *
  dsimp only at H
  refine place_spec R1 A1 ?_
  have R1 := R1.drew
  have E1 := E1.drew
  have S1 := S1.drew
  generalize w1.drew = w1 at *
  obtain ⟨gp1, gp2⟩ := get_pos (x := x) A1.srt
  have hlen := R1.len
  have hcount := A1.count
  -- full, or paid
  have k6T : (∀ w' c' s' fl', RDisk w' c' k b s' fl' B → Eff (· = k) w c w' c' → Q 194 w') → ∀ i t, levyref19_Disk_Append.k6 (some ⟨b, 0, none⟩) x x2 i t true Q w1 := by
    intro H i t
    unfold levyref19_Disk_Append.k6
    rw [if_pos rfl]
    exact H w1 c _ _ R1 E1
  have k6F : ∀ i t, (∀ w' n, n ≤ bs.length → bs.take n = (if (B.pay (bs.length + 1)).1 = true then bs else bs.take (B.pay (bs.length + 1)).2.1.toNat) → RDisk w' c k b s fl (B.pay (bs.length + 1)).2.2 → Src w' c j 1 x2 (bs.map u8) → Eff (· = k) w c w' c →
      levyref19_Disk_Append.k11 (some ⟨b, 0, none⟩) x x2 i t (B.pay (bs.length + 1)).1 (n : Int) Q w') → levyref19_Disk_Append.k6 (some ⟨b, 0, none⟩) x x2 i t false Q w1 := by
    intro i t K
    unfold levyref19_Disk_Append.k6
    rw [if_neg Bool.false_ne_true, hl, Da.wrap_small (i := (bs.length : Int) + 1) (by omega) (by omega)]
    refine pays_spec R1 A1 (by omega) fun w2 R2 ch2 hs2 => ?_
    have E2 := E1.one ch2 (fun _ => R1.own.col)
    have S2 := S1.chg ch2 (Ext.refl _ _) (fun bb hb hd => by rw [hd, R1.own.col] at hb; exact hj hb.symm)
    have hleft := pay_left (A := B) (cost := (bs.length : Int) + 1)
    generalize B.pay ((bs.length : Int) + 1) = p at *
    obtain ⟨p1, p2, p3⟩ := p
    dsimp only at *
    cases p1 with
    | true =>
      rw [if_pos rfl]
      exact K w2 bs.length (Nat.le_refl _) (by simp) R2 S2 E2
    | false =>
      have hleft := hleft rfl
      rw [if_neg Bool.false_ne_true]
      have := K w2 p2.toNat (by omega) (by simp) R2 S2 E2
      rw [Int.toNat_of_nonneg hleft.1] at this
      exact this
  cases hg : Pm.get B.files x with
  | none =>
    rw [hg] at H
    dsimp only [Option.isSome_none] at H ⊢
    rw [if_neg Bool.false_ne_true]
    unfold levyref19_Disk_Append.k5
    rw [hl, Da.wrap_small (i := 0 + (bs.length : Int)) (by omega) (by omega)]
    by_cases hbig : 2097152 < bs.length
    · rw [if_pos (Or.inr hbig)] at H
      rw [if_pos (by rw [decide_eq_true_eq]; omega)]
      exact k6T H _ _
    · rw [if_neg (by rw [decide_eq_true_eq]; omega), if_neg Bool.false_ne_true]
      refine nn_some (ld_own R1.own rfl ?_)
      by_cases h40 : 40 ≤ B.files.length
      · rw [if_pos (Or.inl h40)] at H
        have : decide (((s.len : Nat) : Int) ≥ 40) = true := by rw [decide_eq_true_eq]; omega
        rw [this]
        exact k6T H _ _
      · rw [if_neg (by omega)] at H
        have : decide (((s.len : Nat) : Int) ≥ 40) = false := by rw [decide_eq_false_iff_not]; omega
        rw [this]
        refine k6F _ _ fun w2 n hn hbn R2 S2 E2 => ?_
        rw [← hbn] at H
        have A2 := A1.pay (cost := (bs.length : Int) + 1) (by omega)
        have hpf := B.pay_files ((bs.length : Int) + 1)
        generalize B.pay ((bs.length : Int) + 1) = p at *
        obtain ⟨p1, p2, p3⟩ := p
        dsimp only at *
        unfold levyref19_Disk_Append.k11
        rw [if_neg Bool.false_ne_true]
        refine radd_spec (f := ⟨x, [], 0⟩) R2 A2 (Row.nil _ _ _ _ _) fun w3 c3 s3 fl3 R3 E3 => ?_
        have hnx : x ∉ names p3.files := by rw [hpf]; exact get_none.1 hg
        have A3 : PD.Ok { p3 with files := ins ⟨x, [], 0⟩ p3.files } := A2.files (ins_srt A2.srt hnx) (fun f hm => by
          rcases List.mem_cons.1 ((ins_perm _ _).mem_iff.1 hm) with rfl | hm
          · exact ⟨Nat.zero_le _, Nat.zero_le _⟩
          · exact A2.data f hm) (by rw [(ins_perm _ _).length_eq, hpf]; simp; omega)
        have S3 := S2.eff E3 hj
        refine place_spec R3 A3 ?_
        have hgi : Pm.get (ins ⟨x, [], 0⟩ p3.files) x = some ⟨x, [], 0⟩ := get_mem (f := ⟨x, [], 0⟩) A3.srt.nodup ((ins_perm _ _).mem_iff.2 List.mem_cons_self)
        obtain ⟨hlt, hat⟩ := (get_pos A3.srt).1 _ hgi
        refine rk12_spec (n := n) R3.drew A3 hlt S3.drew hcap hn hb fun w4 c4 s4 fl4 R4 E4 => ?_
        have hset := setf_pos (g := fun f => { f with data := f.data ++ bs.take n }) A3.srt.nodup hlt
        dsimp only at R4 hset hat
        rw [hat] at hset R4
        have hfin := setf_ins (f := ⟨x, [], 0⟩) (g := fun f => { f with data := f.data ++ bs.take n }) rfl hnx
        dsimp only at hfin
        rw [← hset, hfin] at R4
        have hE : Eff (· = k) w c w4 c4 := (E2.trans E3).drew.trans E4
        exact H w4 c4 s4 fl4 R4 hE
  | some f =>
    rw [hg] at H
    dsimp only [Option.isSome_some] at H ⊢
    obtain ⟨hlt, hat⟩ := gp1 f hg
    obtain ⟨hi', hf⟩ := R1.at hlt
    have hfd : f.data.length ≤ 2097152 := (A1.data f (get_some hg).1).1
    rw [if_pos rfl]
    refine nn_some (ld_own R1.own rfl (ix_f (off := 1) R1.list.row.reads hi' (fcells_at hi').2.1 ?_))
    have hrow := R1.list.data _ (List.getElem_mem hi')
    rw [hf, hat] at hrow
    have hql : (fl[pos B.files x]'hi').2.len = f.data.length := by have := hrow.1; simp [PF.af] at this; omega
    unfold levyref19_Disk_Append.k5
    rw [hl, hql, Da.wrap_small (i := (f.data.length : Int) + (bs.length : Int)) (by omega) (by omega)]
    by_cases hbig : 2097152 < f.data.length + bs.length
    · rw [if_pos hbig] at H
      rw [if_pos (by rw [decide_eq_true_eq]; omega)]
      exact k6T H _ _
    · rw [if_neg hbig] at H
      rw [if_neg (by rw [decide_eq_true_eq]; omega), if_pos rfl]
      refine k6F _ _ fun w2 n hn hbn R2 S2 E2 => ?_
      rw [← hbn] at H
      have A2 := A1.pay (cost := (bs.length : Int) + 1) (by omega)
      have hpf := B.pay_files ((bs.length : Int) + 1)
      generalize B.pay ((bs.length : Int) + 1) = p at *
      obtain ⟨p1, p2, p3⟩ := p
      dsimp only at *
      unfold levyref19_Disk_Append.k11
      rw [if_pos rfl]
      have hlt2 : pos B.files x < p3.files.length := by rw [hpf]; exact hlt
      have hat2 : p3.files[pos B.files x] = f := by simp only [hpf]; exact hat
      refine rk12_spec (n := n) R2 A2 hlt2 S2 hcap hn hb fun w4 c4 s4 fl4 R4 E4 => ?_
      have hset := setf_pos (g := fun f => { f with data := f.data ++ bs.take n }) A2.srt.nodup hlt2
      rw [hat2] at hset R4
      dsimp only at hset R4
      rw [(get_some hg).2] at hset R4
      rw [← hset] at R4
      exact H w4 c4 s4 fl4 R4 (E2.trans E4)
end Go.Proofs.Ytjnifnlkicajhaa.Rd
