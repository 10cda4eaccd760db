/-
  The law DrawerCost: it returns true. No condition is put on any statement here but that the body holds at most so many bytes.
-/
import Derived.Test.YtjnifnlkicajhaaDoorKk
namespace Go.Proofs.YtjnifnlkicajhaaDoor.Kw
open Go Vc Hp Fs Da Pm Dd Jn Kp
set_option maxRecDepth 4000

/-- what a second Put answers, by the rig -/
def want2 (z : Nat) : Int := if z = 1 then 190 else if z = 2 then 196 else if z = 3 then 191 else 0
def want1 (z : Nat) : Int := if z = 2 then 190 else 0
def CostP (sum : Nat) (k : UInt8) (b : List UInt8) (A : PD) (z : Nat) : Prop :=
  ∃ A1 D1, putP A ⟨sum, 1, 0, false⟩ k b = (want1 z, A1, D1) ∧ D1.gen = 1 ∧ D1.len ≤ 1 ∧ (putP A1 D1 k []).1 = want2 z
section
variable {sum : Nat} {k : UInt8} {b : List UInt8}
theorem cost0 (hb : b.length ≤ 1048576) : CostP sum k b (one1 1 (piece 0 sum 0 []) 18 (-1) 0 0) 0 := by
  have l1 := lay_well (g := 1) (d := piece 0 sum 0 []) (b := piece 1 sum k b) (s := 18) (u := -1) (af := 0) (ca := 0) (by decide) (by decide) (by rw [piece_len, piece_len]; simp; omega) (by decide)
  have l2 := lay_well (g := 1) (d := piece 0 sum 0 [] ++ piece 1 sum k b) (b := piece 2 sum k []) (s := (piece 0 sum 0 [] ++ piece 1 sum k b).length) (u := -1) (af := 0) (ca := 0) (by decide) (by decide) (by rw [List.length_append, piece_len, piece_len, piece_len]; simp; omega) (by decide)
  refine ⟨_, _, (putP_of (D := ⟨sum, 1, 0, false⟩) rfl hb l1).trans (by rw [if_neg (by decide)]; rfl), rfl, Nat.le_refl _, ?_⟩
  rw [putP_of (D := ⟨sum, 1, 1, false⟩) rfl (by simp) l2, if_neg (by decide)]
  rfl
theorem cost1 (hb : b.length ≤ 1048576) : CostP sum k b (one1 1 (piece 0 sum 0 []) 18 ((b.length : Int) + 20) 0 0) 1 := by
  have l1 := lay_paid (g := 1) (d := piece 0 sum 0 []) (b := piece 1 sum k b) (s := 18) (u := (b.length : Int) + 20) (af := 0) (ca := 0) (by decide) (by decide) (by rw [piece_len, piece_len]; simp; omega) (by rw [piece_len]; omega)
  have l2 := lay_fall (g := 1) (d := piece 0 sum 0 [] ++ piece 1 sum k b) (b := piece 2 sum k []) (s := (piece 0 sum 0 [] ++ piece 1 sum k b).length) (u := 0) (af := 0) (ca := 0) (by decide) (by decide) (by rw [List.length_append, piece_len, piece_len, piece_len]; simp; omega) (by decide) (by omega)
  refine ⟨_, _, (putP_of (D := ⟨sum, 1, 0, false⟩) rfl hb l1).trans (by rw [if_neg (by decide)]; rfl), rfl, Nat.le_refl _, ?_⟩
  rw [putP_of (D := ⟨sum, 1, 1, false⟩) rfl (by simp) l2, if_pos (by decide)]
  rfl
theorem cost2 (hb : b.length ≤ 1048576) : CostP sum k b (one1 1 (piece 0 sum 0 []) 18 ((b.length : Int) + 19) 0 0) 2 := by
  have l1 := lay_less (g := 1) (d := piece 0 sum 0 []) (b := piece 1 sum k b) (s := 18) (u := (b.length : Int) + 19) (af := 0) (ca := 0) (by decide) (by decide) (by rw [piece_len, piece_len]; simp; omega) (by rw [piece_len]; omega)
  refine ⟨_, _, (putP_of (D := ⟨sum, 1, 0, false⟩) rfl hb l1).trans (by rw [if_pos (by decide)]; rfl), rfl, Nat.zero_le _, ?_⟩
  rw [putP_stuck rfl]
  rfl
theorem cost3 (hb : b.length ≤ 1048576) : CostP sum k b (one1 1 (piece 0 sum 0 []) 18 (-1) 2 1) 3 := by
  have l1 := lay_rig (g := 1) (d := piece 0 sum 0 []) (b := piece 1 sum k b) (s := 18) (u := -1) (by decide) (by rw [piece_len, piece_len]; simp; omega) (by decide)
  have l2 := lay_failed (g := 1) (d := piece 0 sum 0 [] ++ piece 1 sum k b) (b := piece 2 sum k []) (s := (piece 0 sum 0 [] ++ piece 1 sum k b).length) (u := -1) (by decide)
  refine ⟨_, _, (putP_of (D := ⟨sum, 1, 0, false⟩) rfl hb l1).trans (by rw [if_neg (by decide)]; rfl), rfl, Nat.le_refl _, ?_⟩
  rw [putP_of (D := ⟨sum, 1, 1, false⟩) rfl (by simp) l2, if_pos (by decide)]
  rfl
end

section
variable {w : World} {c : Col} {wb d m o : Nat} {L : List FE} {ss rs ls fs : Sl} {rl ll : List (Rec × Sl)} {fl : List (List UInt8 × Sl)} {sum : Nat} {A : PD}
theorem cost_k16 {z : Nat} {x0 kind : Int} {ys : Sl} {b : List UInt8} {K : Int → World → Prop} {Q : Bool → World → Prop} (h : Rp w c wb d m L { LS.first sum with A := A } (some ⟨o, 0, none⟩) ss rs ls fs rl ll fl) (hz : z < 4) (hp : CostP sum (kindOf kind) b A z)
    (src : Src w c 0 1 ys (b.map u8)) (hb : b.length ≤ 1048576) (H : ∀ w' c', Eff (fun q => q ≠ 0) w c w' c' → K ((z + 1 : Nat) : Int) w') :
    levylaw19_DrawerCost.k16 x0 kind ys (z : Int) K (some ⟨wb, 0, none⟩) Q w := by
  obtain ⟨A1, D1, hp1, hg1, hl1, hp2⟩ := hp
  unfold levylaw19_DrawerCost.k16
  have hd := h.drew
  refine nn_some (ld_own hd.own (x := some ⟨o, 0, none⟩) rfl ?_)
  refine record_spec (c := c) 8 (b := b) src.drew.1 (by omega) fun w1 c1 s1 hr1 S1 => ?_
  have S1' : Sofar w c w1 c1 := (Sofar.refl _ _).drew.new S1.ch S1.ex
  have h1 := h.far S1'
  refine ⟨⟨by rw [add_mk, h1.own.cell]; rfl, trivial⟩, ?_⟩
  obtain ⟨o', ho', W1⟩ := h1.drw
  obtain rfl : o = o' := by injection ho' with e; injection e
  have E1 : Eff (fun q => q ≠ 0) w c w1 c1 := S1'.eff
  refine put_spec 8 h1.disk h1.ok h1.tab (by decide) (by decide) (by decide) (by decide) W1 hr1.reads (by omega) (show 1 < 100000000 by decide) (show 0 < 4294967295 by decide) fun w2 c2 L2 D2 W2 E2 => ?_
  have hok := putP_ok h1.ok ⟨sum, 1, 0, false⟩ (kindOf kind) b
  have hp1' : ∀ A', A' = A → putP A' ⟨sum, 1, 0, false⟩ (kindOf kind) b = (want1 z, A1, D1) := fun A' e => by rw [e]; exact hp1
  rw [hp1' _ rfl] at D2 W2 hok ⊢
  have h2 := h1.drawer D2 W2 E2 hok rfl
  have E02 := E1.trans (E2.mono fun q hq => (by omega : q ≠ 0))
  have k21 : levylaw19_DrawerCost.k21 x0 kind ys (z : Int) K (some ⟨wb, 0, none⟩) false Q w2 := by
    unfold levylaw19_DrawerCost.k21
    rw [if_neg (by exact Bool.false_ne_true)]
    have h2d := h2.drew
    refine nn_some (ld_own h2d.own (x := some ⟨o, 0, none⟩) rfl ?_)
    refine record_spec (c := c2) 8 (b := []) (nil_reads _) (by decide) fun w3 c3 s3 hr3 S3 => ?_
    have S3' : Sofar w2 c2 w3 c3 := (Sofar.refl _ _).drew.new S3.ch S3.ex
    have h3 := h2.far S3'
    refine ⟨⟨by rw [add_mk, h3.own.cell]; rfl, trivial⟩, ?_⟩
    obtain ⟨o', ho', W3⟩ := h3.drw
    obtain rfl : o = o' := by injection ho' with e; injection e
    refine put_spec 8 h3.disk h3.ok h3.tab (by decide) (by decide) (by decide) (by decide) W3 hr3.reads (by decide) (show D1.gen < 100000000 by omega) (show D1.len < 4294967295 by omega) fun w4 c4 L4 D4 W4 E4 => ?_
    have hp2' : ∀ A', A' = A1 → (putP A' D1 (kindOf kind) []).1 = want2 z := fun A' e => by rw [e]; exact hp2
    rw [hp2' _ rfl]
    have fin := H w4 c4 ((E02.new S3'.ch S3'.ex).trans (E4.mono fun q hq => (by omega : q ≠ 0)))
    have k29 : levylaw19_DrawerCost.k29 x0 kind ys (z : Int) K (want2 z) (want2 z) Q w4 := by
      unfold levylaw19_DrawerCost.k29
      rw [if_neg (by simp), Da.wrap_small (i := (z : Int) + 1) (by omega) (by omega), show (z : Int) + 1 = ((z + 1 : Nat) : Int) by omega]
      exact fin
    rcases (by omega : z = 0 ∨ z = 1 ∨ z = 2 ∨ z = 3) with rfl | rfl | rfl | rfl
    · rw [if_neg (by decide)]
      unfold levylaw19_DrawerCost.k27
      rw [if_neg (by decide)]
      unfold levylaw19_DrawerCost.k28
      rw [if_neg (by decide)]
      exact k29
    · rw [if_pos (by decide)]
      unfold levylaw19_DrawerCost.k27
      rw [if_neg (by decide)]
      unfold levylaw19_DrawerCost.k28
      rw [if_neg (by decide)]
      exact k29
    · rw [if_neg (by decide)]
      unfold levylaw19_DrawerCost.k27
      rw [if_pos (by decide)]
      unfold levylaw19_DrawerCost.k28
      rw [if_neg (by decide)]
      exact k29
    · rw [if_neg (by decide)]
      unfold levylaw19_DrawerCost.k27
      rw [if_neg (by decide)]
      unfold levylaw19_DrawerCost.k28
      rw [if_pos (by decide)]
      exact k29
  by_cases h2z : z = 2
  · subst h2z
    rw [if_pos (by decide), if_neg (by simp [want1]), if_neg (by decide)]
    exact k21
  · rw [if_neg (by rw [beq_iff_eq]; omega), if_pos (by rw [bne_iff_ne]; omega)]
    have : want1 z = 0 := by unfold want1; rw [if_neg h2z]
    rw [this]
    exact k21

theorem cost_loop {kind : Int} {ys : Sl} {b : List UInt8} {Q : Bool → World → Prop} (T : Tab w c) (hs : sum < 4294967296) (src : Src w c 0 1 ys (b.map u8)) (hb : b.length ≤ 1048576) (H : ∀ w' c', Eff (fun q => q ≠ 0) w c w' c' → Q true w') :
    levylaw19_DrawerCost.k3 (sum : Int) kind ys Q w := by
  have hyl : ys.len = b.length := by have := src.1.1; simp at this; omega
  unfold levylaw19_DrawerCost.k3
  refine Fix.intro (fun (z : Int) v => ∃ (i : Nat) (c' : Col), z = i ∧ i ≤ 4 ∧ Eff (fun q => q ≠ 0) w c v c') (fun z _ => 4 - z.toNat) ?_ ⟨0, c, rfl, by decide, Eff.refl _ _ _⟩
  rintro z v K ⟨i, c', rfl, hi, E⟩ hK
  unfold levylaw19_DrawerCost.l8
  by_cases hlt : i < 4
  · rw [if_pos (by rw [decide_eq_true_eq]; omega)]
    have Tv := T.eff E (by decide)
    refine begin_spec (c := c') (sum := sum) Tv fun w1 c1 wb d R1 S1 => ?_
    rw [if_neg (by exact Bool.false_ne_true)]
    obtain ⟨m, L, p, ss, rs, ls, fs, rl, ll, fl, h1⟩ := R1
    have hrl1 : rl.length = 0 := by have := congrArg List.length h1.hrecs; rw [List.length_map] at this; exact this
    refine Kw.open_spec h1 (fun f hf => by cases hf) hs (by omega) (zero_openC sum) fun st' hst w2 c2 R2 E2 => ?_
    rw [zero_openR hst] at R2
    clear h1 hrl1 hst
    obtain ⟨m, L, p, ss, rs, ls, fs, rl, ll, fl, h2⟩ := R2
    have E02 : Eff (fun q => q ≠ 0) w c w2 c2 := (E.new S1.ch S1.ex).trans E2
    rw [if_pos rfl]
    obtain ⟨o, rfl, W2⟩ := h2.drw
    refine nn_some (ld_own h2.own (x := some ⟨o, 0, none⟩) rfl ?_)
    rw [show Option.isNone (some (⟨o, 0, none⟩ : Addr)) = false from rfl]
    unfold levylaw19_DrawerCost.k12
    rw [if_neg (by exact Bool.false_ne_true)]
    have src2 := src.eff E02 (by decide)
    -- with the disk rigged so
    have go : ∀ {v3 c3 m3 L3 A}, Rp v3 c3 wb d m3 L3 { LS.first sum with A := A } (some ⟨o, 0, none⟩) ss rs ls fs rl ll fl → Eff (· = 1) w2 c2 v3 c3 → CostP sum (kindOf kind) b A i → levylaw19_DrawerCost.k16 (sum : Int) kind ys (i : Int) K (some ⟨wb, 0, none⟩) Q v3 := fun {v3 c3 m3 L3 A} h3 E3 hp =>
      cost_k16 h3 hlt hp (src2.eff E3 (by decide)) hb fun w4 c4 E4 => hK _ _ ⟨i + 1, c4, rfl, hlt, (E02.trans (E3.mono fun q hq => (by omega : q ≠ 0))).trans E4⟩ (by omega)
    rw [hyl]
    have hw1 : IntKind.i64.wrap (IntKind.i64.wrap ((b.length : Int) + 18) + 2) = (b.length : Int) + 20 := by
      rw [Da.wrap_small (i := (b.length : Int) + 18) (by omega) (by omega), Da.wrap_small (by omega) (by omega)]; omega
    have hw2 : IntKind.i64.wrap ((b.length : Int) + 20 - 1) = (b.length : Int) + 19 := by rw [Da.wrap_small (by omega) (by omega)]; omega
    rw [hw1]
    rcases (by omega : i = 0 ∨ i = 1 ∨ i = 2 ∨ i = 3) with rfl | rfl | rfl | rfl
    · rw [if_neg (by decide)]
      unfold levylaw19_DrawerCost.k14
      rw [if_neg (by decide)]
      unfold levylaw19_DrawerCost.k15
      rw [if_neg (by decide)]
      exact go (A := (LS.first sum).A) h2 (Eff.refl _ _ _) (cost0 hb)
    · rw [if_pos (by decide)]
      refine nn_some (ld_own h2.own (x := some ⟨d, 0, none⟩) rfl ?_)
      refine arm_spec h2.disk fun w3 D3 ch3 _ => ?_
      have E3 : Eff (· = 1) w2 c2 w3 c2 := (Eff.refl _ _ _).one ch3 (fun _ => h2.disk.dcol)
      have ha : (LS.first sum).A.arm ((b.length : Int) + 20) = one1 1 (piece 0 sum 0 []) 18 ((b.length : Int) + 20) 0 0 := by
        unfold PD.arm
        rw [if_neg (by exact Bool.false_ne_true), if_pos (by omega)]
        rfl
      have h3 := h2.disk' D3 E3 (h2.ok.arm (by unfold maxI; omega) (by unfold maxI; omega))
      rw [ha] at h3
      unfold levylaw19_DrawerCost.k14
      rw [if_neg (by decide)]
      unfold levylaw19_DrawerCost.k15
      rw [if_neg (by decide)]
      exact go h3 E3 (cost1 hb)
    · rw [if_neg (by decide)]
      unfold levylaw19_DrawerCost.k14
      rw [if_pos (by decide), hyl, hw1, hw2]
      refine nn_some (ld_own h2.own (x := some ⟨d, 0, none⟩) rfl ?_)
      refine arm_spec h2.disk fun w3 D3 ch3 _ => ?_
      have E3 : Eff (· = 1) w2 c2 w3 c2 := (Eff.refl _ _ _).one ch3 (fun _ => h2.disk.dcol)
      have ha : (LS.first sum).A.arm ((b.length : Int) + 19) = one1 1 (piece 0 sum 0 []) 18 ((b.length : Int) + 19) 0 0 := by
        unfold PD.arm
        rw [if_neg (by exact Bool.false_ne_true), if_pos (by omega)]
        rfl
      have h3 := h2.disk' D3 E3 (h2.ok.arm (by unfold maxI; omega) (by unfold maxI; omega))
      rw [ha] at h3
      unfold levylaw19_DrawerCost.k15
      rw [if_neg (by decide)]
      exact go h3 E3 (cost2 hb)
    · rw [if_neg (by decide)]
      unfold levylaw19_DrawerCost.k14
      rw [if_neg (by decide)]
      unfold levylaw19_DrawerCost.k15
      rw [if_pos (by decide)]
      refine nn_some (ld_own h2.own (x := some ⟨d, 0, none⟩) rfl ?_)
      refine rig_spec h2.disk fun w3 D3 ch3 _ => ?_
      have E3 : Eff (· = 1) w2 c2 w3 c2 := (Eff.refl _ _ _).one ch3 (fun _ => h2.disk.dcol)
      have h3 := h2.disk' D3 E3 (h2.ok.rig (by unfold maxI; omega) (by unfold maxI; omega))
      have ha : (LS.first sum).A.rig 2 1 = one1 1 (piece 0 sum 0 []) 18 (-1) 2 1 := by
        unfold PD.rig
        rw [if_neg (by exact Bool.false_ne_true), if_neg (by omega)]
        rfl
      rw [ha] at h3
      exact go h3 E3 (cost3 hb)
  · rw [if_neg (by rw [decide_eq_true_eq]; omega)]
    unfold levylaw19_DrawerCost.k7
    exact H v c' E

theorem cost_spec {kind : Int} {x2 : Sl} {b : List UInt8} {Q : Bool → World → Prop} (T : Tab w c) (hs : sum < 4294967296) (src : Src w c 0 1 x2 (b.map u8)) (hcap : x2.len ≤ x2.cap) (H : ∀ w' c', Eff (fun q => q ≠ 0) w c w' c' → Q true w') :
    levylaw19_DrawerCost (sum : Int) kind x2 Q w := by
  have hxl : x2.len = b.length := by have := src.1.1; simp at this; omega
  unfold levylaw19_DrawerCost
  refine known_spec T fun w1 c1 E1 => ?_
  have T1 := T.eff E1 (by decide)
  have src1 := src.eff E1 (by decide)
  rw [if_pos rfl]
  by_cases hlong : 1048576 < b.length
  · rw [if_pos (by rw [decide_eq_true_eq]; omega)]
    refine ⟨by decide, by omega, ?_⟩
    have src2 := src1.take (n := 1048576) (by omega) x2.cap
    rw [Nat.mul_one, ← List.map_take] at src2
    exact cost_loop T1 hs src2 (by rw [List.length_take]; omega) fun w2 c2 E2 => H w2 c2 (E1.trans E2)
  · rw [if_neg (by rw [decide_eq_true_eq]; omega)]
    exact cost_loop T1 hs src1 (by omega) fun w2 c2 E2 => H w2 c2 (E1.trans E2)
end
end Go.Proofs.YtjnifnlkicajhaaDoor.Kw
