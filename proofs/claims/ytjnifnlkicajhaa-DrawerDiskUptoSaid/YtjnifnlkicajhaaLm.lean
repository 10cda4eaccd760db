/-
  The law's one call of both disks: Append, whole. No condition is put on any statement here.
-/
import Derived.Test.YtjnifnlkicajhaaLl
namespace Go.Proofs.Ytjnifnlkicajhaa.La
open Go Vc Hp Fs Da Pm Dd Rd
set_option maxRecDepth 4000
section
variable {w : World} {c : Col} {pb d m b b3 : Nat} {L : List FE} {z : Sl} {gl : List (AF × Sl)} {A : PD} {x0 x1 x2 : Int} {x3 : Bool} {x4 : ByteArray} {x5 x6 : Sl} {x7 : Int} {Q : Bool → World → Prop}
theorem k15_spec {s : Sl} {e : List UInt8} (S : St w c pb d m L b z gl A) (o : Own w c b3 6 (.cells (opc x0 x1 x2 x3 x4 x5 x6 x7) 38 (0, 0))) (hs : BSl w c 3 s e) (hn : x4.size < 9223372036854775807) (hl : s.len ≤ 1099511627776)
    (H : ∀ w' c' L' z' gl' A', St w' c' pb d m L' b z' gl' A' → Eff own w c w' c' → Q true w') : levylaw19_pair_disk.k15 (some ⟨pb, 0, none⟩) ⟨b3, 0, none⟩ s true Q w := by
  unfold levylaw19_pair_disk.k15
  refine Fix.intro (fun (y : Int) v => ∃ (i : Nat) (e' : List UInt8), y = i ∧ i ≤ s.len ∧ BSl v c 3 s e' ∧ Eff (· = 3) w c v c) (fun y _ => s.len - y.toNat) ?_ ⟨0, e, rfl, Nat.zero_le _, hs, Eff.refl _ _ _⟩
  rintro y v K ⟨i, e', rfl, hi, hs', E⟩ hK
  unfold levylaw19_pair_disk.l39
  by_cases hlt : i < s.len
  · rw [if_pos (by rw [decide_eq_true_eq]; omega)]
    have hel := hs'.len
    refine ix_ld (x := ((e'[i]'(by omega)).toNat : Int)) hs'.src.1 (by simp [show i < e'.length by omega]) ?_
    refine hs'.raise hlt fun w2 e2 h2 E2 => ?_
    rw [Da.wrap_small (i := (i : Int) + 1) (by omega) (by omega)]
    exact hK _ _ ⟨i + 1, e2, by omega, hlt, h2, E.trans E2⟩ (by omega)
  · rw [if_neg (by rw [decide_eq_true_eq]; omega)]
    have S' := S.eff E (by decide) (by decide) (by decide)
    have o' := o.eff E (by decide)
    have hel := hs'.len
    unfold levylaw19_pair_disk.k16
    rw [if_pos rfl]
    split
    · exact k18_spec S' o' hs' hn (by omega) fun w' c' L' z' gl' A' hS hE => H w' c' L' z' gl' A' hS ((E.mono own3).trans hE)
    · exact k18_spec S' o' hs' hn (by omega) fun w' c' L' z' gl' A' hS hE => H w' c' L' z' gl' A' hS ((E.mono own3).trans hE)
theorem pd_append (S : St w c pb d m L b z gl A) (o : Own w c b3 6 (.cells (opc x0 x1 x2 x3 x4 x5 x6 x7) 38 (0, 0))) (hn : x4.size < 9223372036854775807) {data : List UInt8} (hx : Src w c 0 1 x5 (data.map u8)) (hxc : x5.len ≤ x5.cap) (hxl : data.length ≤ 1073741824)
    (H : ∀ w' c' L' z' gl' A', St w' c' pb d m L' b z' gl' A' → Eff own w c w' c' → Q true w') :
    al w (.cells #[.slice none 0 0, .slice none 0 0, .slice none 0 0, .slice none 0 0, .slice none 0 0, .slice none 0 0, .slice none 0 0, .slice none 0 0, .slice none 0 0, .slice none 0 0, .slice none 0 0, .slice none 0 0, .slice none 0 0, .slice none 0 0, .slice none 0 0, .slice none 0 0, .slice none 0 0, .slice none 0 0, .slice none 0 0, .slice none 0 0, .slice none 0 0] 65) fun x23_7 w => ld Sl.val w ((⟨b3, 0, none⟩ : Addr).add 5) fun x26_9 => levyroom_Room_Bytes (some x23_7) x26_9 (fun x27_10_0 w => nn (some ⟨pb, 0, none⟩) fun x29_11 => ld Value.pointer (World.drew w) (x29_11.add 0) fun x31_12 => ld Value.string (World.drew w) ((⟨b3, 0, none⟩ : Addr).add 4) fun x33_13 => drawer_Disk_Append x31_12 x33_13 x27_10_0 (fun x35_14_0 w => ld Sl.val (World.drew w) ((⟨b3, 0, none⟩ : Addr).add 5) fun x38_51 => levylaw19_sameBytes x27_10_0 x38_51 (fun x39_52_0 w => (if x39_52_0 = true then levyroom_Room_Hold (some x23_7) (fun x42_54_0 w => (if x42_54_0 = true then nn (some ⟨pb, 0, none⟩) fun x47_56 => ld Value.pointer w (x47_56.add 2) fun x49_57 => ld Value.string w ((⟨b3, 0, none⟩ : Addr).add 4) fun x51_58 => ld Sl.val w ((⟨b3, 0, none⟩ : Addr).add 5) fun x53_59 => levyref19_Disk_Append x49_57 x51_58 x53_59 (fun x54_60_0 w => ((World.cell? w (x47_56.add 2) = some (.pointer x49_57) ∧ World.cell? w ((⟨b3, 0, none⟩ : Addr).add 4) = some (.string x51_58) ∧ World.cell? w ((⟨b3, 0, none⟩ : Addr).add 5) = some (Sl.val x53_59) ∧ True) ∧ levylaw19_pair_disk.k15 (some ⟨pb, 0, none⟩) (⟨b3, 0, none⟩ : Addr) x27_10_0 (x35_14_0 == x54_60_0) Q w)) w else levylaw19_pair_disk.k15 (some ⟨pb, 0, none⟩) (⟨b3, 0, none⟩ : Addr) x27_10_0 false Q w)) w else levylaw19_pair_disk.k15 (some ⟨pb, 0, none⟩) (⟨b3, 0, none⟩ : Addr) x27_10_0 false Q w)) (World.drew w)) (World.drew w)) w := by
  refine al_own (c := c) 3 fun r w1 c1 or1 ch1 ex1 hr1 => ?_
  have E1 : Eff own w c w1 c1 := (Eff.refl _ _ _).new ch1 ex1
  have S1 := S.new ch1 ex1
  have o1 := o.chg ch1 ex1 id
  have k1 := hx.chg ch1 ex1 (fun _ _ => id)
  refine ld_own (x := x5) o1 rfl ?_
  refine bytes_spec (nilRoom or1) k1 hxl (by simp) fun w2 c2 s2 b2 full R2 hs2 hsn ch2 ex2 => ?_
  have E2 : Eff (· = 3) w1 c1 w2 c2 := Eff.of ch2 ex2 fun g _ hg => by
    rcases hg with rfl | hg
    · exact or1.col
    · cases (show (none : Option Nat) = some g from hg)
  have S2 := (S1.eff E2 (by decide) (by decide) (by decide)).drew
  have o2 := (o1.eff E2 (by decide)).drew
  have k2 := (k1.eff E2 (by decide)).drew
  have R2 := R2.drew
  have hs2 := hs2.drew
  have E2' := (E1.trans (E2.mono own3)).drew
  generalize w2.drew = w2 at *
  refine nn_some (ld_own S2.pair (x := some ⟨d, 0, none⟩) rfl (ld_own (x := x4) o2 rfl ?_))
  refine append_spec S2.dd S.ok hs2.src (by decide) hs2.cap (by omega) fun w3 c3 L3 D3 E3 => ?_
  have p3 := (S2.pair.eff E3 (by decide)).drew
  have o3 := (o2.eff E3 (by decide)).drew
  have k3 := (k2.eff E3 (by decide)).drew
  have R3 := (R2.eff E3 (by decide)).drew
  have hs3 := (hs2.eff E3 (by decide)).drew
  have rd3 := (S2.rd.eff E3 (by decide)).drew
  have D3 := D3.drew
  have E3' := (E2'.trans (E3.mono own1)).drew
  generalize w3.drew = w3 at *
  refine ld_own (x := x5) o3 rfl (sameBytes_spec hs3.src.1 k3.1 ?_)
  rw [decide_eq_true rfl, if_pos rfl]
  refine Hold_spec R3 (by simp) (by simp) (by simp) fun w4 c4 ch4 ex4 => ?_
  have p4 := p3.chg ch4 ex4 id
  have o4 := o3.chg ch4 ex4 id
  rw [if_pos rfl]
  refine nn_some (ld_own p4 (x := some ⟨b, 0, none⟩) rfl (ld_own (x := x4) o4 rfl (ld_own (x := x5) o4 rfl ?_)))
  refine rappend_spec (rd3.new ch4 ex4) S.ok hn (k3.chg ch4 ex4 (fun _ _ => id)) (by decide) hxc (by omega) fun w5 c5 z5 gl5 R5 E5 => ?_
  have p5 := p4.eff E5 (by decide)
  have o5 := o4.eff E5 (by decide)
  refine ⟨⟨by rw [add_mk, p5.cell]; rfl, by rw [add_mk, o5.cell]; rfl, by rw [add_mk, o5.cell]; rfl, trivial⟩, ?_⟩
  rw [same_eq]
  have S5 : St w5 c5 pb d m L3 b z5 gl5 (A.append x4 data).2 := ⟨p5, (D3.new ch4 ex4).eff E5 (by decide), R5, S.ok.append x4 data⟩
  have hs5 := (hs3.chg ch4 ex4 (fun _ _ => id)).eff E5 (by decide)
  have hsl := hs5.len
  refine k15_spec S5 o5 hs5 hn (by omega) fun w' c' L' z' gl' A' hS hE => H w' c' L' z' gl' A' hS (((E3'.new ch4 ex4).trans (E5.mono own2)).trans hE)
end
end Go.Proofs.Ytjnifnlkicajhaa.La
