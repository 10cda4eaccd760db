/-
  The law's known: a record that was put is there behind a fall. No condition is put on any statement here.
-/
import Derived.Test.YtjnifnlkicajhaaDoorKf
import Derived.Test.YtjnifnlkicajhaaDoorKj
namespace Go.Proofs.YtjnifnlkicajhaaDoor.Kw
open Go Vc Hp Fs Da Pm Dd Jn Kp
set_option maxRecDepth 4000

theorem recs_short {fs : List PF} {j : JF} {sum : Nat} {S : List UInt8} {R : List Rec} {t : List UInt8} {g s : Nat} (hsum : sum < 4294967296) (hS : S.length ≤ 1048576) (hR : fits R) (hc : R.length ≤ 16777216) (h1 : 1 ≤ g) (hfs : fs = [⟨nameP g, enc sum S R ++ t, s⟩]) (ht : t.length < 18) (hB : Best (· ∈ fs) j) :
    recsOf fs j = R ∧ j.summary = S := by
  have hw := whole_enc (R := R) hsum hS t
  have hj := best_eq (g := g) hB (f := ⟨nameP g, enc sum S R ++ t, s⟩) (by rw [hfs]; simp) rfl h1 hw (by
    intro f' hf'
    rw [hfs] at hf'
    exact .inl (List.mem_singleton.1 hf'))
  refine ⟨?_, by rw [hj]⟩
  rw [hj]
  unfold recsOf
  rw [if_neg (by dsimp only; omega), hfs, get1]
  dsimp only
  have h3 := sizeR_ge R
  have h4 := enc_len sum S R
  rw [reads_enc hsum hR hc t (by rw [List.length_append]; omega), reads_none (whole_short ht), List.append_nil]

theorem putP_of {A A' : PD} {D : DW} {k : UInt8} {b : List UInt8} {e : Int} (hst : D.stuck = false) (hb : b.length ≤ 1048576) (hl : layP A (nameP D.gen) (piece (D.len + 1) D.sum k b) = (e, A')) :
    putP A D k b = if e ≠ 0 then (e, A', { D with stuck := true }) else (0, A', { D with len := D.len + 1, stuck := false }) := by
  unfold putP
  rw [if_neg (by rw [hst]; decide), if_neg (by omega), hl]
theorem putP_stuck {A : PD} {D : DW} {k : UInt8} {b : List UInt8} (hst : D.stuck = true) : putP A D k b = (196, A, D) := by
  unfold putP
  rw [if_pos hst]

/-! ### the disk of 'known' -/
def kd0 : List UInt8 := piece 0 7 0 []
def kp1 : List UInt8 := piece 1 7 5 [97]
def kp2 : List UInt8 := piece 2 7 6 [98]
theorem kd1_enc : kd0 ++ kp1 = enc 7 [] [⟨5, [97]⟩] := by simp [enc, pieces, kd0, kp1]
theorem kp1_len : kp1.length = 19 := piece_len _ _ _ _
theorem kp2_len : kp2.length = 19 := piece_len _ _ _ _
theorem kd0_len : kd0.length = 18 := piece_len _ _ _ _
theorem known_put1 : putP (one1 1 kd0 18 (-1) 0 0) ⟨7, 1, 0, false⟩ 5 [97] = (0, one1 1 (kd0 ++ kp1) 37 (-1) 0 0, ⟨7, 1, 1, false⟩) := by
  have hl := lay_well (g := 1) (d := kd0) (b := kp1) (s := 18) (u := -1) (af := 0) (ca := 0) (by decide) (by decide) (by rw [kd0_len, kp1_len]; decide) (by decide)
  rw [List.length_append, kd0_len, kp1_len] at hl
  have := putP_of (D := ⟨7, 1, 0, false⟩) (k := 5) (b := [97]) rfl (by decide) hl
  rw [this, if_neg (by decide)]
theorem known_put2 : putP (one1 1 (kd0 ++ kp1) 37 3 0 0) ⟨7, 1, 1, false⟩ 6 [98] = (190, ⟨[⟨nameP 1, kd0 ++ kp1 ++ kp2.take 3, 37⟩], true, -1, 0, 0⟩, ⟨7, 1, 1, true⟩) := by
  have hl := lay_fall (g := 1) (d := kd0 ++ kp1) (b := kp2) (s := 37) (u := 3) (af := 0) (ca := 0) (by decide) (by decide) (by rw [List.length_append, kd0_len, kp1_len, kp2_len]; decide) (by decide) (by rw [kp2_len]; decide)
  have := putP_of (D := ⟨7, 1, 1, false⟩) (k := 6) (b := [98]) rfl (by decide) hl
  rw [this, if_pos (by decide)]
  rfl
theorem known_files (keep : List Int) : ∃ t s, t.length < 18 ∧ ((⟨[⟨nameP 1, kd0 ++ kp1 ++ kp2.take 3, 37⟩], true, -1, 0, 0⟩ : PD).restart keep).files = [⟨nameP 1, enc 7 [] [⟨5, [97]⟩] ++ t, s⟩] ∧ (enc 7 [] [⟨5, [97]⟩]).length ≤ s ∧ s ≤ (enc 7 [] [⟨5, [97]⟩] ++ t).length ∧ ∃ i, t = tailOf 7 [⟨5, [97]⟩] [⟨6, [98]⟩] i := by
  have hlen : (enc 7 [] [⟨5, [97]⟩]).length = 37 := by rw [← kd1_enc, List.length_append, kd0_len, kp1_len]
  obtain ⟨n, hn1, hn2, hk⟩ := kept_eq keep 0 ⟨nameP 1, kd0 ++ kp1 ++ kp2.take 3, 37⟩ (by simp [kd0_len, kp1_len, kp2_len])
  dsimp only at hn1 hn2
  rw [kd1_enc] at hk hn2
  refine ⟨(kp2.take 3).take (n - 37), n, by simp only [List.length_take]; omega, ?_, by omega, ?_, min (n - 37) 3, ?_⟩
  · unfold PD.restart
    rw [kd1_enc]
    simp only [List.mapIdx_cons, List.mapIdx_nil, hk]
    rw [List.take_append, List.take_of_length_le (by omega), hlen]
  · rw [List.length_append, hlen, List.length_take, List.length_take]
    rw [List.length_append, hlen, List.length_take] at hn2
    omega
  · rw [List.take_take]
    rfl

section
variable {w : World} {c : Col}
theorem known_spec {Q : Bool → World → Prop} (T : Tab w c) (H : ∀ w' c', Eff (fun q => q ≠ 0) w c w' c' → Q true w') : levylaw19_known Q w := by
  unfold levylaw19_known
  refine begin_spec (c := c) (sum := 7) T fun w1 c1 wb d R1 S1 => ?_
  rw [if_neg (by exact Bool.false_ne_true)]
  obtain ⟨m, L, p, ss, rs, ls, fs, rl, ll, fl, h1⟩ := R1
  have hrl1 : rl.length = 0 := by have := congrArg List.length h1.hrecs; rw [List.length_map] at this; exact this
  refine Kw.open_spec h1 (fun f hf => by cases hf) (by decide) (by omega) (zero_openC 7) fun st' hst w2 c2 R2 E2 => ?_
  rw [zero_openR hst] at R2
  clear h1 hrl1 hst
  obtain ⟨m, L, p, ss, rs, ls, fs, rl, ll, fl, h2⟩ := R2
  have E02 : Eff (fun q => q ≠ 0) w c w2 c2 := S1.eff.trans E2
  rw [if_pos rfl]
  obtain ⟨o, rfl, W2⟩ := h2.drw
  refine nn_some (ld_own h2.own (x := some ⟨o, 0, none⟩) rfl ?_)
  rw [show Option.isNone (some (⟨o, 0, none⟩ : Addr)) = false from rfl]
  unfold levylaw19_known.k2
  rw [if_neg (by exact Bool.false_ne_true)]
  have h2d := h2.drew
  refine nn_some (ld_own h2d.own (x := some ⟨o, 0, none⟩) rfl ?_)
  refine al_own (c := c2) 8 fun b3 w3 c3 o3 ch3 ex3 _ => ?_
  have S3 : Sofar w2 c2 w3 c3 := (Sofar.refl _ _).drew.new ch3 ex3
  have h3 := h2.far S3
  refine ⟨⟨by rw [add_mk, h3.own.cell]; rfl, trivial⟩, ?_⟩
  have r3 := lit_reads o3
  refine record_spec (c := c3) 8 (b := [97]) r3 (by decide) fun w4 c4 s4 hr4 S4 => ?_
  have h4 := h3.far S4
  refine ⟨⟨by rw [add_mk, h4.own.cell]; rfl, trivial⟩, ?_⟩
  have hdr4 := h4.drw
  obtain ⟨o', ho', W4⟩ := hdr4
  obtain rfl : o = o' := by injection ho' with e; injection e
  have E04 := (E02.new S3.ch S3.ex).new S4.ch S4.ex
  refine put_spec 8 h4.disk h4.ok h4.tab (by decide) (by decide) (by decide) (by decide) W4 hr4.reads (by decide) (by decide) (by decide) fun w5 c5 L5 D5 W5 E5 => ?_
  rw [show kindOf 5 = 5 from rfl] at D5 W5 ⊢
  rw [show putP (LS.first 7).A ⟨7, 1, 0, false⟩ 5 [97] = _ from known_put1] at D5 W5 ⊢
  have h5 := h4.drawer D5 W5 E5 (by have := putP_ok h4.ok ⟨7, 1, 0, false⟩ 5 [97]; rw [show putP (LS.first 7).A ⟨7, 1, 0, false⟩ 5 [97] = _ from known_put1] at this; exact this) rfl
  have E05 := E04.trans (E5.mono fun q hq => (by omega : q ≠ 0))
  rw [if_neg (by decide)]
  refine nn_some (ld_own h5.own (x := some ⟨d, 0, none⟩) rfl ?_)
  refine arm_spec h5.disk fun w6 D6 ch6 _ => ?_
  have E6 : Eff (· = 1) w5 c5 w6 c5 := (Eff.refl _ _ _).one ch6 (fun _ => h5.disk.dcol)
  have h6 := h5.disk' D6 E6 (h5.ok.arm (by decide) (by decide))
  have E06 := E05.trans (E6.mono fun q hq => (by omega : q ≠ 0))
  have h6d := h6.drew
  refine nn_some (ld_own h6d.own (x := some ⟨o, 0, none⟩) rfl ?_)
  refine al_own (c := c5) 8 fun b7 w7 c7 o7 ch7 ex7 _ => ?_
  have S7 : Sofar w6 c5 w7 c7 := (Sofar.refl _ _).drew.new ch7 ex7
  have h7 := h6.far S7
  refine ⟨⟨by rw [add_mk, h7.own.cell]; rfl, trivial⟩, ?_⟩
  refine record_spec (c := c7) 8 (b := [98]) (lit_reads o7) (by decide) fun w8 c8 s8 hr8 S8 => ?_
  have h8 := h7.far S8
  refine ⟨⟨by rw [add_mk, h8.own.cell]; rfl, trivial⟩, ?_⟩
  obtain ⟨o', ho', W8⟩ := h8.drw
  obtain rfl : o = o' := by injection ho' with e; injection e
  refine put_spec 8 h8.disk h8.ok h8.tab (by decide) (by decide) (by decide) (by decide) W8 hr8.reads (by decide) (by decide) (by decide) fun w9 c9 L9 D9 W9 E9 => ?_
  rw [show kindOf 6 = 6 from rfl] at D9 W9 ⊢
  have e2 : ∀ A, A = (one1 1 (kd0 ++ kp1) 37 (-1) 0 0).arm 3 → putP A ⟨7, 1, 1, false⟩ 6 [98] = (190, ⟨[⟨nameP 1, kd0 ++ kp1 ++ kp2.take 3, 37⟩], true, -1, 0, 0⟩, ⟨7, 1, 1, true⟩) := fun A hA => by rw [hA]; exact known_put2
  have hok9 := putP_ok h8.ok ⟨7, 1, 1, false⟩ 6 [98]
  rw [e2 _ rfl] at D9 W9 hok9 ⊢
  have h9 := h8.drawer D9 W9 E9 hok9 rfl
  have E09 := ((E06.new S7.ch S7.ex).new S8.ch S8.ex).trans (E9.mono fun q hq => (by omega : q ≠ 0))
  have h9d := h9.drew
  refine nn_some (ld_own h9d.own (x := some ⟨o, 0, none⟩) rfl ?_)
  refine record_spec (c := c9) 8 (b := []) (nil_reads _) (by decide) fun w10 c10 s10 hr10 S10 => ?_
  have S10' : Sofar w9 c9 w10 c10 := (Sofar.refl _ _).drew.new S10.ch S10.ex
  have h10 := h9.far S10'
  refine ⟨⟨by rw [add_mk, h10.own.cell]; rfl, trivial⟩, ?_⟩
  obtain ⟨o', ho', W10⟩ := h10.drw
  obtain rfl : o = o' := by injection ho' with e; injection e
  refine put_spec 8 h10.disk h10.ok h10.tab (by decide) (by decide) (by decide) (by decide) W10 hr10.reads (by decide) (by decide) (by decide) fun w11 c11 L11 D11 W11 E11 => ?_
  have hok11 := putP_ok h10.ok ⟨7, 1, 1, true⟩ 6 []
  rw [putP_stuck rfl] at D11 W11 hok11 ⊢
  have h11 := h10.drawer D11 W11 E11 hok11 rfl
  have E011 := (E09.new S10'.ch S10'.ex).trans (E11.mono fun q hq => (by omega : q ≠ 0))
  refine nn_some (ld_own h11.own (x := some ⟨d, 0, none⟩) rfl ?_)
  refine al_own (c := c11) 8 fun b12 w12 c12 o12 ch12 ex12 _ => ?_
  have h12 := h11.far ⟨ch12, ex12⟩
  have src : Src w12 c12 8 1 ⟨some ⟨b12, 0, none⟩, 1, 1⟩ ([100].map (Value.int .i64)) := ⟨lit_reads o12, fun a ha _ => by
    obtain rfl : (⟨b12, 0, none⟩ : Addr) = a := Option.some.inj ha
    exact o12.col⟩
  refine restart_spec h12.disk h12.ok src (by decide) fun w13 c13 L13 D13 E13 => ?_
  have h13 := h12.disk' D13 E13 (h12.ok.restart [100])
  have E013 := (E011.new ch12 ex12).trans (E13.mono fun q hq => (by omega : q ≠ 0))
  refine nn_some (ld_own h13.own (x := some ⟨d, 0, none⟩) rfl ?_)
  obtain ⟨t, s, ht, hfs, hs1, hs2, i, hti⟩ := known_files [100]
  have hfs' : ((⟨[⟨nameP 1, kd0 ++ kp1 ++ kp2.take 3, 37⟩], true, -1, 0, 0⟩ : PD).restart [100]).files = [⟨nameP 1, enc 7 [] [⟨5, [97]⟩] ++ t, s⟩] := hfs
  have hG : Gens ((⟨[⟨nameP 1, kd0 ++ kp1 ++ kp2.take 3, 37⟩], true, -1, 0, 0⟩ : PD).restart [100]).files := by
    intro f hf
    rw [hfs'] at hf
    rw [List.mem_singleton.1 hf]
    exact ⟨1, by decide, by decide, rfl⟩
  have hwell := well_restart (⟨[⟨nameP 1, kd0 ++ kp1 ++ kp2.take 3, 37⟩], true, -1, 0, 0⟩ : PD) [100]
  have hfit : ∀ {l : List Rec}, (∀ r ∈ l, r = ⟨5, [97]⟩ ∨ r = ⟨6, [98]⟩) → fits l := fun h r hr => by
    rcases h r hr with rfl | rfl <;> decide
  -- what Open answers
  have hans : ∀ j, Best (· ∈ ((⟨[⟨nameP 1, kd0 ++ kp1 ++ kp2.take 3, 37⟩], true, -1, 0, 0⟩ : PD).restart [100]).files) j → (openP ((⟨[⟨nameP 1, kd0 ++ kp1 ++ kp2.take 3, 37⟩], true, -1, 0, 0⟩ : PD).restart [100]) 7 j).1 = 0 ∧ recsOf ((⟨[⟨nameP 1, kd0 ++ kp1 ++ kp2.take 3, 37⟩], true, -1, 0, 0⟩ : PD).restart [100]).files j = [⟨5, [97]⟩] ∧ j.summary = [] := fun j hB => by
    have hr := recs_short (by decide) (by decide) (hfit (l := [⟨5, [97]⟩]) (by simp)) (by decide) (by decide) hfs' ht hB
    refine ⟨?_, hr.1, hr.2⟩
    have hcase := open_cases (st := ⟨(⟨[⟨nameP 1, kd0 ++ kp1 ++ kp2.take 3, 37⟩], true, -1, 0, 0⟩ : PD).restart [100], none, 7, [], [⟨5, [97]⟩], [⟨6, [98]⟩], [], false⟩) (g := 1) (j := j)
      ⟨by decide, by decide, hfit (by simp), hfit (by simp), fun b hb => (by cases hb), by decide, by decide, rfl, by decide⟩ h13.ok (by decide) (by decide) (.inl ⟨i, s, by rw [← hti]; exact hfs', hs1, by rw [← hti]; exact hs2⟩) hwell.up hB
    have ho := (hwell.opens 7 j).1
    rcases hcase with ⟨e, _⟩ | ⟨e, _⟩
    · dsimp only at e
      omega
    · exact e
  refine Jn.open_spec 2 h13.disk h13.ok h13.tab (by decide) (by decide) (by decide) hG (fun j hB hne w14 c14 L14 Dn => absurd (hans j (hB hwell.up)).1 hne) (fun j hB he w14 c14 L14 o2 s1 s2 rl2 Dn W14 hr1 hr2 hrl2 => ?_)
  obtain ⟨_, hrec, hsum⟩ := hans j hB
  have E014 := E013.trans (Dn.eff.mono fun q hq => (by omega : q ≠ 0))
  rw [if_pos (by decide), if_pos (by decide), if_pos (by decide), if_neg (by exact Bool.false_ne_true)]
  have hs1l : s1.len = 0 := by have := hr1.1; rw [hsum] at this; simp at this; omega
  have hrl2' : rl2.map (·.1) = [⟨5, [97]⟩] := hrl2.trans hrec
  have hl2 : rl2.length = 1 := by have := congrArg List.length hrl2'; simpa using this
  have hs2l : s2.len = 1 := by rw [hr2.len, hl2]
  rw [if_pos (by rw [hs1l]; decide), if_pos (by rw [hs2l]; decide)]
  obtain ⟨⟨r, q⟩, rfl⟩ : ∃ x, rl2 = [x] := List.length_eq_one_iff.1 hl2
  have hre : r = ⟨5, [97]⟩ := by simpa using hrl2'
  subst hre
  have hsrc := RSrc.of hr2
  refine rix (i := 0) hsrc (by simp) fun a a0 a1 => ⟨_, a0, ?_⟩
  dsimp only
  rw [if_pos (by rfl)]
  refine rix (i := 0) hsrc (by simp) fun a a0 a1 => ⟨_, a1, ?_⟩
  dsimp only
  refine al_own (c := c14) 8 fun b15 w15 c15 o15 ch15 ex15 _ => ?_
  have hb := hr2.data _ (List.mem_singleton.2 rfl)
  refine sameBytes_spec (d := [97]) (e := [97]) (rnew hb.reads ch15) (lit_reads o15) ?_
  unfold levylaw19_known.k33
  exact H w15 c15 (E014.new ch15 ex15)
end
end Go.Proofs.YtjnifnlkicajhaaDoor.Kw
