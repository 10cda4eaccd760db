/-
  The journal's bytes as the program lays and reads them. No condition is put on any statement here.
-/
import Derived.Test.YtjnifnlkicajhaaDoorJa
import Derived.Test.YtjnifnlkicajhaaDoorDl
import Derived.Lib.EndianBits
namespace Go.Proofs.YtjnifnlkicajhaaDoor.Jn
open Go Vc Hp Fs Da Pm Dd
set_option maxRecDepth 4000

theorem u8w (n : Nat) : IntKind.u8.wrap (n : Int) = ((UInt8.ofNat n).toNat : Int) := by rw [IntKind.wrap_u8, UInt8.toNat_ofNat']; omega
theorem u8n (n : Nat) : u8 (UInt8.ofNat n) = .int .u8 (IntKind.u8.wrap (n : Int)) := congrArg (Value.int .u8) (u8w n).symm
theorem fdivN (n m : Nat) : Int.fdiv (n : Int) (m : Int) = ((n / m : Nat) : Int) := by
  rw [Int.fdiv_eq_ediv_of_nonneg _ (Int.natCast_nonneg _)]
  exact (Int.natCast_ediv n m).symm
theorem lit_reads {w c g k t} {cs : Array Value} (o : Own w c g k (.cells cs t (0, 0))) : Reads w 1 ⟨some ⟨g, 0, none⟩, cs.size, cs.size⟩ cs.toList := by
  refine ⟨by simp, .inr ⟨_, rfl, fun j u hj => ?_⟩⟩
  rw [add_mk, Nat.zero_add, o.cell]
  simpa using hj

/-- bytes that this call has made -/
structure NewB (w : World) (c : Col) (k : Nat) (s : Sl) (b : List UInt8) (w' : World) (c' : Col) : Prop where
  row : Row w' c' k 5 1 s (b.map u8)
  ch : Chg (fun _ => False) w w'
  ex : Ext w c c'
  new : ∀ g, Sl.blk s = some g → w.heap.size ≤ g
theorem NewB.len {w c k s b w' c'} (h : NewB w c k s b w' c') : s.len = b.length := by have := h.row.1; simp at this; omega
theorem NewB.step {w c k s b w1 c1 w2 c2} (h : NewB w c k s b w1 c1) (hc : Chg (fun _ => False) w1 w2) (he : Ext w1 c1 c2) : NewB w c k s b w2 c2 :=
  ⟨h.row.chg hc he (fun _ _ => id), fresh h.ch hc (fun _ => False.elim), freshX h.ch h.ex he hc, h.new⟩
theorem NewB.append {w c k s b w1 c1 x ns} {Q : Sl → World → Prop} (h : NewB w c k s b w1 c1) (hx : Reads w1 1 x (ns.map u8)) (hl : b.length + ns.length ≤ 1099511627776)
    (H : ∀ s' w' c', NewB w c k s' (b ++ ns) w' c' → Q s' w') : rn Tryd.prog Sl.val (Builtin.append_ #[29, 29] 29 [s.val, x.val].toArray) w1 Q := by
  have hs := h.len
  have hxl : x.len = ns.length := by have := hx.1; simp at this; omega
  refine append_bytes h.row hx (by omega) fun s' w' c' hr hc he hn _ => H s' w' c' ⟨hr, fresh h.ch hc fun b hb => h.new b hb, freshX h.ch h.ex he hc, fun g hg => ?_⟩
  rcases hn g hg with h1 | h1
  · exact h.new g h1
  · exact Nat.le_trans h.ch.size h1
theorem NewB.lit {w c k s b w1 c1} {ns : List UInt8} {cs : Array Value} {Q : Sl → World → Prop} {n : Nat} (h : NewB w c k s b w1 c1) (hcs : cs.toList = ns.map u8) (hn : n = ns.length) (hl : b.length + ns.length ≤ 1099511627776)
    (H : ∀ s' w' c', NewB w c k s' (b ++ ns) w' c' → Q s' w') : al w1 (.cells cs 5) fun a w => rn Tryd.prog Sl.val (Builtin.append_ #[29, 29] 29 [s.val, .slice (some a) n n].toArray) w Q := by
  have hsz : n = cs.size := by rw [hn, ← Array.length_toList, hcs, List.length_map]
  subst hsz
  refine al_own (c := c1) k fun g w2 c2 o2 ch2 ex2 hg2 => ?_
  have h2 := lit_reads o2
  rw [hcs] at h2
  exact (h.step ch2 ex2).append (x := ⟨some ⟨g, 0, none⟩, cs.size, cs.size⟩) h2 hl H
theorem put32_spec {w c k s b w1 c1} {n : Nat} {Q : Sl → World → Prop} (h : NewB w c k s b w1 c1) (hl : b.length ≤ 549755813888) (H : ∀ s' w' c', NewB w c k s' (b ++ le32 n) w' c' → Q s' w') : drawer_put32 s (n : Int) Q w1 := by
  unfold drawer_put32
  refine h.lit (ns := le32 n) ?_ rfl (by simp [le32]; omega) H
  have e1 := fdivN n 256
  have e2 := fdivN n 65536
  have e3 := fdivN n 16777216
  simp only [le32, List.map_cons, List.map_nil]
  rw [u8n, u8n, u8n, u8n, ← e1, ← e2, ← e3]
  rfl

theorem ixb {w : World} {s : Sl} {b : List UInt8} {i : Nat} {K : Int → Prop} (h : Reads w 1 s (b.map u8)) (hi : i < b.length) (hk : K (b[i].toNat : Int)) : ix s.p s.len (i : Int) 1 fun a => ld (Value.int .u8) w a fun x => K x := by
  obtain ⟨h1, h2⟩ := h
  simp only [List.length_map, Nat.mul_one] at h1
  rcases h2 with ⟨_, h0⟩ | ⟨a, hp, hh⟩
  · omega
  · refine ⟨a, hp, by omega, by omega, _, ?_, hk⟩
    rw [Int.toNat_natCast, Nat.mul_one]
    exact hh i _ (by rw [List.getElem?_map, List.getElem?_eq_getElem hi]; rfl)
theorem rdrew {w sz s vs} (h : Reads w sz s vs) : Reads w.drew sz s vs := h
theorem get32_spec {w s} {b : List UInt8} {Q : Int → World → Prop} (h : Reads w 1 s (b.map u8)) (hl : 4 ≤ b.length) (H : Q (un32 b : Int) w.drew) : drawer_get32 s Q w := by
  match b, hl with
  | a0 :: a1 :: a2 :: a3 :: r, _ =>
    unfold drawer_get32
    refine ixb (i := 0) (rdrew h) (by simp) (ixb (i := 1) (rdrew h) (by simp) (ixb (i := 2) (rdrew h) (by simp) (ixb (i := 3) (rdrew h) (by simp) ?_)))
    have h0 := a0.toNat_lt
    have h1 := a1.toNat_lt
    have h2 := a2.toNat_lt
    have h3 := a3.toNat_lt
    have e : bits .or .u32 (bits .or .u32 (bits .or .u32 (IntKind.u32.wrap (a0.toNat : Int)) (IntKind.u32.wrap (IntKind.u32.wrap (a1.toNat : Int) * 2 ^ 8))) (IntKind.u32.wrap (IntKind.u32.wrap (a2.toNat : Int) * 2 ^ 16)))
        (IntKind.u32.wrap (IntKind.u32.wrap (a3.toNat : Int) * 2 ^ 24)) = (un32 (a0 :: a1 :: a2 :: a3 :: r) : Int) := by
      simp only [un32]
      rw [u32_wrap_id (a0.toNat : Int) (by omega) (by omega), u32_wrap_id (a1.toNat : Int) (by omega) (by omega), u32_wrap_id (a2.toNat : Int) (by omega) (by omega), u32_wrap_id (a3.toNat : Int) (by omega) (by omega),
        u32_wrap_id ((a1.toNat : Int) * 2 ^ 8) (by omega) (by omega), u32_wrap_id ((a2.toNat : Int) * 2 ^ 16) (by omega) (by omega), u32_wrap_id ((a3.toNat : Int) * 2 ^ 24) (by omega) (by omega),
        u32_or8 (a0.toNat : Int) ((a1.toNat : Int) * 2 ^ 8) (by omega) (by omega) (by omega) (by omega) (by omega), u32_or16 ((a0.toNat : Int) + (a1.toNat : Int) * 2 ^ 8) ((a2.toNat : Int) * 2 ^ 16) (by omega) (by omega) (by omega) (by omega) (by omega), u32_or24 ((a0.toNat : Int) + (a1.toNat : Int) * 2 ^ 8 + (a2.toNat : Int) * 2 ^ 16) ((a3.toNat : Int) * 2 ^ 24) (by omega) (by omega) (by omega) (by omega) (by omega)]
      omega
    simp only [List.getElem_cons_zero, List.getElem_cons_succ]
    rw [e]
    exact H
theorem xor32 (a b : Nat) (ha : a < 4294967296) (hb : b < 4294967296) : bits .xor .u32 (a : Int) (b : Int) = ((a ^^^ b : Nat) : Int) := by
  have hx : a ^^^ b < 2 ^ 32 := Nat.xor_lt_two_pow (by omega) (by omega)
  have h1 : (BitVec.ofInt 32 (a : Int)).toNat = a := by
    rw [BitVec.ofInt_natCast, BitVec.toNat_ofNat]; exact Nat.mod_eq_of_lt (by omega)
  have h2 : (BitVec.ofInt 32 (b : Int)).toNat = b := by
    rw [BitVec.ofInt_natCast, BitVec.toNat_ofNat]; exact Nat.mod_eq_of_lt (by omega)
  show IntKind.u32.wrap ((BitVec.ofInt 32 (a : Int) ^^^ BitVec.ofInt 32 (b : Int)).toNat : Int) = _
  rw [BitVec.toNat_xor, h1, h2, IntKind.wrap_u32]
  omega
theorem mulmod (r : Nat) : IntKind.u32.wrap ((r : Int) * 16777619) = ((r * 16777619 % 4294967296 : Nat) : Int) := by
  rw [IntKind.wrap_u32, Int.natCast_emod, Int.natCast_mul]
  rfl
theorem mix_cast (a : Nat) (c : UInt8) : IntKind.u32.wrap (((a ^^^ c.toNat : Nat) : Int) * 16777619) = (mixB a c : Int) := by
  unfold mixB
  exact mulmod _
theorem sum_loop {w s} {b : List UInt8} {m : Nat} {Q : Int → World → Prop} (h : Reads w 1 s (b.map u8)) (hb : b.length ≤ 1099511627776) (hm : m < 4294967296) (H : Q ((b.foldl mixB m : Nat) : Int) w) :
    Fix (σ := Int × Int) (fun Ks s' w => pack_Sum.l3 s s'.1 s'.2 Q (fun z3_3 z3_8 w => Ks (z3_3, z3_8) w) w) ((m : Int), 0) w := by
  have hsl : s.len = b.length := by have := h.1; simp at this; omega
  refine Fix.intro (fun (z : Int × Int) v => v = w ∧ ∃ i : Nat, z.2 = i ∧ i ≤ b.length ∧ z.1 = (((b.take i).foldl mixB m : Nat) : Int)) (fun z _ => (b.length - z.2.toNat)) ?_ ⟨rfl, 0, rfl, Nat.zero_le _, rfl⟩
  rintro ⟨z1, z2⟩ v K ⟨rfl, i, hz2, hi, hz1⟩ hK
  dsimp only at hz1 hz2
  subst hz1
  subst hz2
  unfold pack_Sum.l3
  dsimp only
  by_cases hlt : i < b.length
  · rw [if_pos (by rw [decide_eq_true_eq]; omega)]
    refine ixb h hlt ?_
    have hc := (b[i]).toNat_lt
    have hm := foldl_lt (b.take i) m hm
    rw [u32_wrap_id ((b[i]).toNat : Int) (by omega) (by omega), xor32 _ _ hm (by omega), Da.wrap_small (i := (i : Int) + 1) (by omega) (by omega)]
    refine hK _ _ ⟨rfl, i + 1, by simp, hlt, ?_⟩ (by simp only; omega)
    rw [List.take_succ_eq_append_getElem hlt, List.foldl_append]
    rw [List.foldl_cons, List.foldl_nil]
    exact mix_cast _ _
  · rw [if_neg (by rw [decide_eq_true_eq]; omega)]
    unfold pack_Sum.k1
    rw [List.take_of_length_le (by omega)]
    exact H
theorem sum_spec {w s} {b : List UInt8} {Q : Int → World → Prop} (h : Reads w 1 s (b.map u8)) (hb : b.length ≤ 1099511627776) (H : Q (sumOf b : Int) w) : pack_Sum s Q w :=
  sum_loop (m := 2166136261) h hb (by omega) H

theorem piece_spec {w c} (k : Nat) {n s : Nat} {kd : UInt8} {x : Sl} {b : List UInt8} {Q : Sl → World → Prop} (hx : Reads w 1 x (b.map u8)) (hb : b.length ≤ 1073741824) (hn : n < 4294967296)
    (H : ∀ s' w' c', NewB w c k s' (piece n s kd b) w' c' → Q s' w') : drawer_piece (n : Int) (s : Int) (kd.toNat : Int) x Q w := by
  have hl : x.len = b.length := by have := hx.1; simp at this; omega
  unfold drawer_piece
  rw [Da.wrap_small (i := 14 + ((x.len : Nat) : Int)) (by omega) (by omega), Da.wrap_small (i := 14 + ((x.len : Nat) : Int) + 4) (by omega) (by omega), show (14 + ((x.len : Nat) : Int) + 4) = ((b.length + 18 : Nat) : Int) by omega]
  refine make_any (c := c) (k := k) (n := 0) Tryd.underlying29 iB (by omega) (by omega) fun g cur w1 c1 o1 hcs ch1 ex1 hg1 => ?_
  have N0 : NewB w c k ⟨some ⟨g, 0, none⟩, 0, b.length + 18⟩ [] w1 c1 := ⟨⟨rfl, by simp, by simp only [maxLen]; omega, .inr ⟨g, cur, rfl, o1, hcs, by simp⟩⟩, ch1, ex1, fun g' hg' => by
    obtain rfl : g = g' := Option.some.inj (show some g = some g' from hg')
    exact hg1⟩
  refine N0.lit (ns := [82]) rfl rfl (by simp) fun s1 w2 c2 N1 => ?_
  rw [u32_wrap_id (n : Int) (by omega) (by omega)]
  refine put32_spec N1 (by simp) fun s2 w3 c3 N2 => ?_
  refine put32_spec N2 (by simp [le32]) fun s3 w4 c4 N3 => ?_
  rw [hl, u32_wrap_id (b.length : Int) (by omega) (by omega)]
  refine put32_spec N3 (by simp [le32]) fun s4 w5 c5 N4 => ?_
  refine N4.lit (ns := [kd]) rfl rfl (by simp [le32]) fun s5 w6 c6 N5 => ?_
  refine N5.append (Reads.new hx N5.ch) (by simp [le32]; omega) fun s6 w7 c7 N6 => ?_
  have eh : ([] ++ [82] ++ le32 n ++ le32 s ++ le32 b.length ++ [kd] ++ b : List UInt8) = headOf n s kd b := by simp [headOf]
  rw [eh] at N6
  refine sum_spec N6.row.reads (by rw [headOf_len]; omega) ?_
  exact put32_spec N6 (by rw [headOf_len]; omega) fun s7 w8 c8 N7 => H s7 w8 c8 N7
end Go.Proofs.YtjnifnlkicajhaaDoor.Jn
