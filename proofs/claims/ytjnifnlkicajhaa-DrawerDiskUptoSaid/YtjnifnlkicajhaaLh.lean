/-
  The law's made, whole. No condition is put on any statement here.
-/
import Derived.Test.YtjnifnlkicajhaaLg
namespace Go.Proofs.Ytjnifnlkicajhaa.La
open Go Vc Hp Fs Da Pm Dd Rd
set_option maxRecDepth 4000

abbrev own (k : Nat) : Prop := k ≠ 0
theorem made_spec {w c x0 fl} {Q : Option Addr → Bool → World → Prop} (src : FSrc w c 0 x0 fl) (hl : fl.length ≤ 536870912) (hd : ∀ p ∈ fl, p.1.data.length ≤ 1073741824) (hn : ∀ p ∈ fl, p.1.name.size < 9223372036854775807)
    (H : ∀ w' c' pb o1 o2, Own w' c' pb 6 (.cells #[.pointer o2, .pointer none, .pointer o1, .pointer none] 32 (0, 0)) → Two w' c' o2 o1 → Eff own w c w' c' → Q (some ⟨pb, 0, none⟩) true w') : levylaw19_made x0 Q w := by
  unfold levylaw19_made
  refine al_own (c := c) 3 fun r w1 c1 o1 ch1 ex1 hr1 => ?_
  have E1 : Eff own w c w1 c1 := (Eff.refl _ _ _).new ch1 ex1
  have R1 := nilRoom o1
  have s1 := src.new ch1 ex1
  refine files_spec R1 s1 (by decide) hd (by simpa using hl) (by simp) fun w2 c2 s b' f' bs' gl full R2 I2 hgl hbl E2 => ?_
  have E2' := E1.trans (E2.mono (j' := own) fun k hk => by rw [hk]; decide)
  have s2 := s1.eff E2 (by decide)
  have hgll : gl.length = fl.length := by have := congrArg List.length hgl; simpa using this
  have back : ∀ p ∈ gl, ∃ p' ∈ fl, p'.1 = p.1 := fun p hp => by
    have : p.1 ∈ gl.map (·.1) := List.mem_map.2 ⟨p, hp, rfl⟩
    rw [hgl] at this
    obtain ⟨p', hp', e⟩ := List.mem_map.1 this
    exact ⟨p', hp', e⟩
  have hgn : ∀ p ∈ gl, p.1.name.size < 9223372036854775807 := fun p hp => by
    obtain ⟨p', hp', e⟩ := back p hp
    rw [← e]; exact hn p' hp'
  have hgb : ∀ p ∈ gl, p.2.len ≤ 1099511627776 := fun p hp => by
    obtain ⟨p', hp', e⟩ := back p hp
    have h1 := (I2.data p hp).len
    have h2 := hd p' hp'
    rw [e] at h2
    omega
  -- behind the first pair
  have tail : ∀ w3 c3 p q, Two w3 c3 p q → Eff own w c w3 c3 → InF w3 c3 3 s gl → Room w3 c3 3 r b' noSl f' bs' [] ([] ++ [full]) → FSrc w3 c3 0 x0 fl →
      levylaw19_sameFiles s x0 (fun x45_56_0 w => (if x45_56_0 = true then levyroom_Room_Hold (some ⟨r, 0, none⟩) (fun x49_58_0 w => levylaw19_made.k6 s q p x49_58_0 Q w) w else levylaw19_made.k6 s q p false Q w)) w3 := by
    intro w3 c3 p q T3 E3 I3 R3 s3
    refine sameFiles_spec I3.src s3 hgl (by omega) fun w4 hw4 => ?_
    have ch4 := heapEff c3 hw4
    rw [if_pos rfl]
    refine Hold_spec (R3.new ch4 (Ext.refl _ _)) (by rw [hbl]; simp; omega) (by simp) (by simp) fun w5 c5 ch5 ex5 => ?_
    have F0 : Eff (fun _ => False) w3 c3 w5 c5 := ((Eff.refl _ _ _).new ch4 (Ext.refl _ _)).new ch5 ex5
    have I5 := I3.eff F0 id
    refine raise_spec I5 (by omega) hgb fun w6 gl' G => ?_
    have hgl' : gl'.length = gl.length := by have := congrArg List.length G.snd; simpa using this
    refine made_k7 G.inf (by omega) (fun p hp => ?_) fun w7 c7 pb o7 E7 => ?_
    · have : p.1.name ∈ gl'.map (·.1.name) := List.mem_map.2 ⟨p, hp, rfl⟩
      rw [G.nm] at this
      obtain ⟨p', hp', e⟩ := List.mem_map.1 this
      rw [← e]; exact hgn p' hp'
    · refine H w7 c7 pb q p o7 (((T3.eff F0 id id).eff G.eff (by decide) (by decide)).eff E7 (by decide) (by decide)) ?_
      exact ((E3.trans (F0.mono fun _ => False.elim)).trans (G.eff.mono (j' := own) fun k hk => by rw [hk]; decide)).trans (E7.mono (j' := own) fun k hk => by rcases hk with hk | hk <;> (rw [hk]; decide))
  refine rnewDisk_spec (j := 0) 2 s2 (by decide) hn (fun hm w3 c3 E3 => ?_) fun A hm w3 c3 b z gl1 D3 E3 => ?_
  · have E3' := E2'.trans (E3.mono (j' := own) fun k hk => by rw [hk]; decide)
    have I3 := I2.eff E3 (by decide)
    refine newDisk_spec (j := 3) 1 I3.src (fun _ w4 c4 ch4 ex4 => ?_) fun A' hm' => ?_
    · rw [if_pos (by rfl), if_pos (by rfl)]
      have F0 : Eff (fun _ => False) w3 c3 w4 c4 := (Eff.refl _ _ _).new ch4 ex4
      exact tail w4 c4 none none (.inl ⟨rfl, rfl⟩) (E3'.new ch4 ex4) (I3.eff F0 id) ((R2.eff E3 (by decide)).eff F0 id) ((s2.eff E3 (by decide)).eff F0 id)
    · rw [hgl, hm] at hm'; cases hm'
  · have E3' := E2'.trans (E3.mono (j' := own) fun k hk => by rw [hk]; decide)
    have I3 := I2.eff E3 (by decide)
    refine newDisk_spec (j := 3) 1 I3.src (fun hm' => ?_) fun A' hm' w4 c4 d m L D4 ch4 ex4 => ?_
    · rw [hgl, hm] at hm'; cases hm'
    · rw [hgl, hm] at hm'
      obtain rfl := Option.some.inj hm'
      rw [if_pos (by rfl), if_pos (by rfl)]
      have F0 : Eff (fun _ => False) w3 c3 w4 c4 := (Eff.refl _ _ _).new ch4 ex4
      exact tail w4 c4 _ _ (.inr ⟨A, d, m, L, b, z, gl1, rfl, rfl, D4, D3.eff F0 id, make_ok hm⟩) (E3'.new ch4 ex4) (I3.eff F0 id) ((R2.eff E3 (by decide)).eff F0 id) ((s2.eff E3 (by decide)).eff F0 id)
end Go.Proofs.Ytjnifnlkicajhaa.La
