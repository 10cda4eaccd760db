/-
  The journal's pieces as the program reads them. No condition is put on any statement here.
-/
import Derived.Test.YtjnifnlkicajhaaDoorJb
namespace Go.Proofs.YtjnifnlkicajhaaDoor.Jn
open Go Vc Hp Fs Da Pm Dd
set_option maxRecDepth 4000

theorem rcut {w : World} {s : Sl} {b : List UInt8} (h : Reads w 1 s (b.map u8)) {lo hi : Nat} (hlo : lo ≤ hi) (hhi : hi ≤ s.len) (hc : s.len ≤ s.cap) : Reads w 1 (cutSl ⟨s.p, s.len, s.cap⟩ 1 lo hi s.cap) (((b.take hi).drop lo).map u8) := by
  obtain ⟨h1, h2⟩ := h
  simp only [List.length_map, Nat.mul_one] at h1
  refine ⟨by simp [cutSl]; omega, ?_⟩
  rcases h2 with ⟨hp, h0⟩ | ⟨a, hp, hh⟩
  · exact .inl ⟨by simp [cutSl, hp], by simp only [cutSl]; omega⟩
  · by_cases hcl : s.cap = lo
    · refine .inr ⟨a, by simp [cutSl, hcl, hp], fun j u hj => ?_⟩
      rw [List.drop_of_length_le (by rw [List.length_take]; omega)] at hj
      simp at hj
    · refine .inr ⟨a.add lo, by simp [cutSl, hcl, hp], fun j u hj => ?_⟩
      rw [Addr.add_add]
      refine hh _ _ ?_
      rw [List.map_drop, List.getElem?_drop, List.map_take, List.getElem?_take] at hj
      split at hj
      · exact hj
      · cases hj
theorem cell_new {w v : World} {a : Addr} {x : Value} (h : w.cell? a = some x) (hc : Chg (fun _ => False) w v) : v.cell? a = some x := by
  rw [← h]
  exact cell_same (hc.same _ (cell_lt h) id)
theorem ixw {w v : World} {s : Sl} {b : List UInt8} {i : Nat} {K : Addr → Int → Prop} (h : Reads w 1 s (b.map u8)) (hc : Chg (fun _ => False) w v) (hi : i < b.length)
    (hk : ∀ ad, (∀ v', Chg (fun _ => False) w v' → v'.cell? ad = some (.int .u8 (b[i].toNat : Int))) → K ad (b[i].toNat : Int)) : ix s.p s.len (i : Int) 1 fun a => ld (Value.int .u8) v a fun x => K a x := by
  obtain ⟨h1, h2⟩ := h
  simp only [List.length_map, Nat.mul_one] at h1
  rcases h2 with ⟨_, h0⟩ | ⟨a, hp, hh⟩
  · omega
  · have hcell : w.cell? (a.add (i * 1)) = some (.int .u8 (b[i].toNat : Int)) := by
      rw [Nat.mul_one]
      exact hh i _ (by rw [List.getElem?_map, List.getElem?_eq_getElem hi]; rfl)
    refine ⟨a, hp, by omega, by omega, _, ?_, hk _ fun v' hv => cell_new hcell hv⟩
    rw [Int.toNat_natCast]
    exact cell_new hcell hc
/-- make([]byte, n) for an n of 32 bits -/
theorem make32 {w c} (k n : Nat) {K : Sl → World → Prop} (h : n ≤ 4294967295)
    (hk : ∀ g cur w' c', Own w' c' g k (.cells cur 5 (0, 0)) → cur.size = n → Chg (fun _ => False) w w' → Ext w c c' → w.heap.size ≤ g → K ⟨some ⟨g, 0, none⟩, n, n⟩ w') :
    rn Tryd.prog Sl.val (Instr.makeSlice 29 (.int .u32 (n : Int)) (.int .u32 (n : Int))) w K := by
  obtain ⟨i, hi', hz, hs, hb⟩ := info_of iB
  have hb' : (i.bytes : Int) * (n : Int) ≤ 281474976710656 := by rw [hb]; omega
  have hr := run_make (P := Tryd.prog) w 29 5 i (.int .u8 0) Tryd.underlying29 hi' hz .u32 .u32 (n : Int) (n : Int) (by omega) (by omega) hb' (by omega)
  simp only [Int.toNat_natCast] at hr
  exact ⟨⟨some ⟨w.heap.size, 0, none⟩, n, n⟩, _, hr, (al_own (c := c) (K := fun a w => K ⟨some a, n, n⟩ w) k fun b w' c' ho hc he hb => hk b _ w' c' ho (by rw [size_madeCells, hs, Nat.mul_one]) hc he hb : al w _ _)⟩

/-- what stands so far of a call that has made blocks alone -/
structure Sofar (w : World) (c : Col) (w' : World) (c' : Col) : Prop where
  ch : Chg (fun _ => False) w w'
  ex : Ext w c c'
theorem Sofar.refl (w : World) (c : Col) : Sofar w c w c := ⟨Chg.refl _ _, Ext.refl _ _⟩
theorem Sofar.new {w c w1 c1 w2 c2} (h : Sofar w c w1 c1) (hc : Chg (fun _ => False) w1 w2) (he : Ext w1 c1 c2) : Sofar w c w2 c2 := ⟨fresh h.ch hc (fun _ => False.elim), freshX h.ch h.ex he hc⟩
theorem Sofar.own {w c w1 c1 w2 g} (h : Sofar w c w1 c1) (hc : Chg (· = g) w1 w2) (hg : w.heap.size ≤ g) : Sofar w c w2 c1 := ⟨fresh h.ch hc fun b hb => by rw [hb]; exact hg, h.ex⟩
theorem Sofar.drew {w c w1 c1} (h : Sofar w c w1 c1) : Sofar w c w1.drew c1 := ⟨h.ch.drew, h.ex⟩

section
variable {w : World} {c : Col} {kk n : Nat} {x : Sl} {b : List UInt8} {Q : Int → Int → Sl → Int → World → Prop}
theorem whole_put {v c1 g cs q s z} {sl : Sl} (S : Sofar w c v c1) (o : Own v c1 g kk (.cells cs 37 (0, 0))) (hcs : cs.size = 2) (hg : w.heap.size ≤ g) (H : ∀ v', Sofar w c v' c1 → Chg (· = g) v v' → Q s q sl z v') :
    stN v ⟨g, 0, none⟩ [.int .u8 q, sl.val] fun w => ld (Value.int .u8) w (Addr.add ⟨g, 0, none⟩ 0) fun r0 => ld Sl.val w (Addr.add ⟨g, 0, none⟩ 1) fun r1 => Q s r0 r1 z w := by
  refine stN_own o (by rw [hcs]; rfl) fun v' o' ch _ => ld_own o' rfl (ld_own o' rfl ?_)
  exact H v' (S.own ch hg) ch
theorem whole_k9 {v c1 g cs m} (S : Sofar w c v c1) (o : Own v c1 g kk (.cells cs 37 (0, 0))) (hcs : cs.size = 2) (hg : w.heap.size ≤ g) (hx : Reads w 1 x (b.map u8)) (hcap : x.len ≤ x.cap) (hb : b.length ≤ 1073741824) (h18 : 18 ≤ b.length)
    (hm : m = un32 (b.drop 9)) {y : Bool} (hy : y = true ↔ (1048576 < m ∨ b.length < m + 18 ∨ (n = 0 ∧ b.getD 13 0 ≠ 0)))
    (hw : whole b n = if 1048576 < m ∨ b.length < m + 18 ∨ (n = 0 ∧ b.getD 13 0 ≠ 0) then none else
      if un32 (b.drop (m + 14)) ≠ sumOf (b.take (m + 14)) then none else some (un32 (b.drop 5), b.getD 13 0, (b.drop 14).take m))
    (H0 : whole b n = none → ∀ w' c', Sofar w c w' c' → Q 0 0 ⟨none, 0, 0⟩ 0 w')
    (H1 : ∀ s k bd, whole b n = some (s, k, bd) → ∀ w' c' s', Row w' c' kk 5 1 s' (bd.map u8) → Sofar w c w' c' → Q (s : Int) (k.toNat : Int) s' ((bd.length + 18 : Nat) : Int) w') :
    drawer_whole.k9 x ⟨g, 0, none⟩ (m : Int) y Q v := by
  have hxl : x.len = b.length := by have := hx.1; simp at this; omega
  unfold drawer_whole.k9
  cases y with
  | true =>
    rw [if_pos rfl]
    exact whole_put (sl := ⟨none, 0, 0⟩) S o hcs hg fun v' S' _ => H0 (by rw [hw, if_pos (hy.1 rfl)]) v' c1 S'
  | false =>
    have hno : ¬ (1048576 < m ∨ b.length < m + 18 ∨ (n = 0 ∧ b.getD 13 0 ≠ 0)) := fun h => Bool.false_ne_true (hy.2 h)
    rw [if_neg hno] at hw
    have hm1 : m ≤ 1048576 := by omega
    have hm2 : m + 18 ≤ b.length := by omega
    rw [if_neg (by exact Bool.false_ne_true), Da.wrap_small (i := (m : Int)) (by omega) (by omega), Da.wrap_small (i := 14 + (m : Int)) (by omega) (by omega), show (14 + (m : Int)).toNat = m + 14 by omega]
    refine ⟨by omega, by omega, by omega, by omega, ?_⟩
    have e1 := rcut hx (lo := m + 14) (hi := x.len) (by omega) (Nat.le_refl _) hcap
    rw [List.take_of_length_le (by omega)] at e1
    refine get32_spec (Reads.new e1 (S.ch.drew)) (by rw [List.length_drop]; omega) ?_
    refine ⟨trivial, ?_⟩
    have e2 := rcut hx (lo := 0) (hi := m + 14) (by omega) (by omega) hcap
    rw [List.drop_zero] at e2
    refine sum_spec (Reads.new e2 S.ch.drew.drew) (by rw [List.length_take]; omega) ?_
    have o2 := o.drew.drew
    have S2 := S.drew.drew
    by_cases hs : un32 (b.drop (m + 14)) = sumOf (b.take (m + 14))
    · rw [if_neg (by simp [hs])]
      rw [if_neg (by simp [hs])] at hw
      refine make32 (c := c1) kk m (by omega) fun g3 cur w3 c3 o3 hcur ch3 ex3 hg3 => ?_
      refine ⟨by omega, by omega, by omega, by omega, ?_⟩
      have S3 := S2.new ch3 ex3
      have o2 := o2.chg ch3 ex3 id
      have e3 := rcut hx (lo := 14) (hi := m + 14) (by omega) (by omega) hcap
      have ebd : (b.take (m + 14)).drop 14 = (b.drop 14).take m := by rw [List.drop_take, Nat.add_sub_cancel]
      have hbl : ((b.drop 14).take m).length = m := by rw [List.length_take, List.length_drop]; omega
      rw [ebd] at e3
      refine copy_full Tryd.underlying29 (by kernel_rfl) o3 (by omega) (Reads.new e3 S3.ch) (by show (m + 14) - 14 = m; omega) (one_u8 _) fun w4 o4 ch4 => ?_
      have hne : g ≠ g3 := o2.neT o3 (by decide)
      have S4 := S3.own ch4 (Nat.le_trans S2.ch.size hg3)
      have o24 := o2.chg' ch4 hne
      refine ⟨by omega, by omega, ?_⟩
      refine ixw (i := 13) hx S4.ch.drew (by omega) fun ad had => ?_
      have e5 := rcut hx (lo := 5) (hi := x.len) (by omega) (Nat.le_refl _) hcap
      rw [List.take_of_length_le (by omega)] at e5
      refine get32_spec (Reads.new e5 S4.ch.drew) (by rw [List.length_drop]; omega) ?_
      have S5 := S4.drew.drew
      refine ⟨⟨had _ S5.ch, trivial⟩, ?_⟩
      refine stN_own o24.drew.drew (by rw [hcs]; rfl) fun w6 o6 ch6 _ => ?_
      have S6 := S5.own ch6 hg
      refine ⟨⟨had _ S6.ch, trivial⟩, ld_own o6 rfl (ld_own o6 rfl ?_)⟩
      have e13 : b[13] = b.getD 13 0 := by rw [List.getD_eq_getElem?_getD, List.getElem?_eq_getElem (by omega)]; rfl
      rw [e13, Da.wrap_small (i := 14 + (m : Int) + 4) (by omega) (by omega), show (14 + (m : Int) + 4) = ((((b.drop 14).take m).length + 18 : Nat) : Int) by rw [hbl]; omega]
      refine H1 _ _ _ hw w6 c3 _ ⟨by simp only [List.length_map]; rw [hbl]; omega, Nat.le_refl _, by simp only [maxLen]; omega, .inr ⟨g3, _, rfl, (o4.drew.drew).chg' ch6 hne.symm, ?_, ?_⟩⟩ S6
      · simp only [List.size_toArray, List.length_append, List.length_map, List.length_drop, Array.length_toList, hcur]
        have := hbl
        rw [List.length_take, List.length_drop] at this
        rw [List.length_take, List.length_drop]
        show _ = m * 1
        omega
      · show List.take (m * 1) _ = _
        rw [Nat.mul_one]
        exact List.take_left' (by rw [List.length_map]; exact hbl)
    · rw [if_pos (by rw [bne_iff_ne]; omega)]
      rw [if_pos hs] at hw
      exact whole_put (sl := ⟨none, 0, 0⟩) S2 o2 hcs hg fun v' S' _ => H0 hw v' c1 S'
theorem whole_spec (kk : Nat) (hx : Reads w 1 x (b.map u8)) (hcap : x.len ≤ x.cap) (hb : b.length ≤ 1073741824) (hn : n < 4294967296)
    (H0 : whole b n = none → ∀ w' c', Sofar w c w' c' → Q 0 0 ⟨none, 0, 0⟩ 0 w')
    (H1 : ∀ s k bd, whole b n = some (s, k, bd) → ∀ w' c' s', Row w' c' kk 5 1 s' (bd.map u8) → Sofar w c w' c' → Q (s : Int) (k.toNat : Int) s' ((bd.length + 18 : Nat) : Int) w') :
    drawer_whole x (n : Int) Q w := by
  have hxl : x.len = b.length := by have := hx.1; simp at this; omega
  unfold drawer_whole
  refine al_own (c := c) kk fun g w1 c1 o1 ch1 ex1 hg1 => ?_
  have S1 : Sofar w c w1 c1 := ⟨ch1, ex1⟩
  have fail : ∀ {v}, Sofar w c v c1 → Own v c1 g kk (.cells #[.int .u8 0, .slice none 0 0] 37 (0, 0)) → (b.length < 18 ∨ b.getD 0 0 ≠ 82 ∨ un32 (b.drop 1) ≠ n) → drawer_whole.k3 x (n : Int) ⟨g, 0, none⟩ true Q v := fun S o h => by
    unfold drawer_whole.k3
    rw [if_pos rfl]
    exact whole_put (sl := ⟨none, 0, 0⟩) S o rfl hg1 fun v' S' _ => H0 (by unfold whole; rw [if_pos h]) v' c1 S'
  by_cases h18 : b.length < 18
  · rw [if_pos (by rw [decide_eq_true_eq]; omega)]
    exact fail S1 o1 (.inl h18)
  rw [if_neg (by rw [decide_eq_true_eq]; omega)]
  refine ixb (i := 0) (Reads.new hx ch1) (by omega) ?_
  have e0 : b[0] = b.getD 0 0 := by rw [List.getD_eq_getElem?_getD, List.getElem?_eq_getElem (by omega)]; rfl
  rw [e0]
  by_cases h82 : b.getD 0 0 = 82
  · rw [if_neg (by rw [h82]; decide)]
    refine ⟨by omega, by omega, ?_⟩
    have e1 := rcut hx (lo := 1) (hi := x.len) (by omega) (Nat.le_refl _) hcap
    rw [List.take_of_length_le (by omega)] at e1
    refine get32_spec (Reads.new e1 ch1) (by rw [List.length_drop]; omega) ?_
    rw [u32_wrap_id (n : Int) (by omega) (by omega)]
    by_cases hnum : un32 (b.drop 1) = n
    · rw [show (((un32 (b.drop 1) : Nat) : Int) != (n : Int)) = false by rw [hnum]; exact bne_self_eq_false _]
      unfold drawer_whole.k3
      rw [if_neg (by exact Bool.false_ne_true)]
      refine ⟨by omega, by omega, ?_⟩
      have e9 := rcut hx (lo := 9) (hi := x.len) (by omega) (Nat.le_refl _) hcap
      rw [List.take_of_length_le (by omega)] at e9
      refine get32_spec (Reads.new e9 S1.drew.ch) (by rw [List.length_drop]; omega) ?_
      have S2 := S1.drew.drew
      have o2 := o1.drew.drew
      have hw : whole b n = if 1048576 < un32 (b.drop 9) ∨ b.length < un32 (b.drop 9) + 18 ∨ (n = 0 ∧ b.getD 13 0 ≠ 0) then none else
          if un32 (b.drop (un32 (b.drop 9) + 14)) ≠ sumOf (b.take (un32 (b.drop 9) + 14)) then none else some (un32 (b.drop 5), b.getD 13 0, (b.drop 14).take (un32 (b.drop 9))) := by
        conv => lhs; unfold whole
        rw [if_neg (by rintro (h | h | h); exact h18 h; exact h h82; exact h hnum)]
      have hu := un32_lt (b.drop 9)
      generalize hm : un32 (b.drop 9) = m at *
      have key : ∀ {v} {y : Bool}, Sofar w c v c1 → Own v c1 g kk (.cells #[.int .u8 0, .slice none 0 0] 37 (0, 0)) → (y = true ↔ (1048576 < m ∨ b.length < m + 18 ∨ (n = 0 ∧ b.getD 13 0 ≠ 0))) → drawer_whole.k9 x ⟨g, 0, none⟩ (m : Int) y Q v := fun S o hy =>
        whole_k9 S o rfl hg1 hx hcap hb (by omega) hm.symm hy hw H0 H1
      rw [Da.wrap_small (i := (m : Int)) (by omega) (by omega), Da.wrap_small (i := ((x.len : Nat) : Int) - 14) (by omega) (by omega), Da.wrap_small (i := ((x.len : Nat) : Int) - 14 - 4) (by omega) (by omega)]
      by_cases h1 : 1048576 < m
      · rw [if_pos (by rw [decide_eq_true_eq]; omega)]
        exact key S2 o2 (by simp [h1])
      rw [if_neg (by rw [decide_eq_true_eq]; omega)]
      by_cases h2 : b.length < m + 18
      · rw [if_pos (by rw [decide_eq_true_eq]; omega)]
        exact key S2 o2 (by simp [h2])
      rw [if_neg (by rw [decide_eq_true_eq]; omega)]
      by_cases h3 : n = 0
      · rw [if_pos (by simp [h3])]
        refine ixb (i := 13) (Reads.new hx S2.ch) (by omega) ?_
        have e13 : b[13] = b.getD 13 0 := by rw [List.getD_eq_getElem?_getD, List.getElem?_eq_getElem (by omega)]; rfl
        rw [e13]
        refine key S2 o2 ?_
        rw [bne_iff_ne]
        constructor
        · intro h
          exact .inr (.inr ⟨h3, fun e => h (by rw [e]; rfl)⟩)
        · rintro (h | h | h)
          · exact absurd h h1
          · exact absurd h h2
          · intro e
            refine h.2 (UInt8.toNat_inj.1 ?_)
            show _ = 0
            omega
      · rw [if_neg (by simp; omega)]
        exact key S2 o2 (by simp [h1, h2, h3])
    · rw [show (((un32 (b.drop 1) : Nat) : Int) != (n : Int)) = true by rw [bne_iff_ne]; omega]
      exact fail S1.drew o1.drew (.inr (.inr hnum))
  · rw [if_pos (by rw [bne_iff_ne]; intro e; exact h82 (UInt8.toNat_inj.1 (by show _ = 82; omega)))]
    exact fail S1 o1 (.inr (.inl h82))
end
end Go.Proofs.YtjnifnlkicajhaaDoor.Jn
