/-
  The law DrawerCut: a file that is opened; the records that are put. No condition is put on any statement here.
-/
import Derived.Test.YtjnifnlkicajhaaDoorKt
import Derived.Test.YtjnifnlkicajhaaDoorKe
namespace Go.Proofs.YtjnifnlkicajhaaDoor.Kw
open Go Vc Hp Fs Da Pm Dd Jn Kp
set_option maxRecDepth 4000
theorem iI : (Tryd.prog.info? 3).map (fun i => (i.zero, i.size, i.bytes)) = some (some (.int .i64 0), 1, 8) := by kernel_rfl
theorem litSrc {w : World} {c : Col} {k b n t : Nat} {cs : Array Value} (o : Own w c b k (.cells cs t (0, 0))) (hn : cs.size = n) : Src w c k 1 ⟨some ⟨b, 0, none⟩, n, n⟩ cs.toList :=
  ⟨⟨by simp [hn], .inr ⟨_, rfl, fun j u hj => by
    rw [add_mk, Nat.zero_add, o.cell]
    simpa using hj⟩⟩, fun a ha _ => by
    obtain rfl : (⟨b, 0, none⟩ : Addr) = a := Option.some.inj ha
    exact o.col⟩

section
variable {w : World} {c : Col} {wb d m : Nat} {L : List FE} {st : LS} {p : Option Addr} {ss rs ls fs : Sl} {rl ll : List (Rec × Sl)} {fl : List (List UInt8 × Sl)}

theorem one1_ok {X : List UInt8} (hX : X.length ≤ 2097152) : (one1 1 X X.length (-1) 0 0).Ok :=
  ⟨List.pairwise_singleton _ _, fun f hf => by rw [List.mem_singleton.1 hf]; exact ⟨hX, Nat.le_refl _⟩, by show 1 ≤ 40; decide, by show (-1 : Int) ≤ -1 ∧ (-1 : Int) ≤ maxI; decide, by show (0 : Int) ≤ maxI ∧ -maxI - 1 ≤ 0; decide, by show (0 : Int) ≤ maxI ∧ -maxI - 1 ≤ 0; decide⟩
theorem one1_gens {X : List UInt8} : Gens (one1 1 X X.length (-1) 0 0).files := fun f hf => by
  rw [List.mem_singleton.1 hf]
  exact ⟨1, by decide, by decide, rfl⟩
theorem one1_make {X : List UInt8} (hX : X.length ≤ 2097152) : make [(⟨nameP 1, X, (X.length : Int)⟩ : AF)] = some (one1 1 X X.length (-1) 0 0) := make_self (one1_ok hX) one1_gens

theorem stands_spec {x2 : Sl} {X : List UInt8} {n : Nat} {none' : Bool} {R' : List Rec} {Q : Bool → World → Prop} (h : Rp w c wb d m L st p ss rs ls fs rl ll fl) (hx : Src w c 8 1 x2 (X.map u8)) (hX : X.length ≤ 2097152) (hn : n ≤ st.R.length)
    (hR' : (if none' = true then [] else st.R.take n) = R') (P : Stands st.sum X R')
    (H : ∀ w' c', Rp w' c' wb d m L st p ss rs ls fs rl ll fl → Eff (fun q => q = 9) w c w' c' → Q true w') : levylaw19_world_stands (some ⟨wb, 0, none⟩) (nameP 1) x2 (n : Int) none' Q w := by
  have hxl : x2.len = X.length := by have := hx.1.1; simp at this; omega
  have hRl : st.R.length = rl.length := by rw [← h.hrecs, List.length_map]
  have hok := one1_ok hX
  have hmk := one1_make hX
  unfold levylaw19_world_stands
  refine al_own (c := c) 8 fun b1 w1 c1 o1 ch1 ex1 _ => ?_
  have S1 : Sofar w c w1 c1 := ⟨ch1, ex1⟩
  have hx1 := hx.chg ch1 ex1 (fun _ _ => id)
  have F1 : FSrc w1 c1 8 ⟨some ⟨b1, 0, none⟩, 1, 1⟩ [(⟨nameP 1, X, (X.length : Int)⟩, x2)] :=
    ⟨⟨⟨by simp [fcells], .inr ⟨_, rfl, fun j u hj => by
      rw [add_mk, Nat.zero_add, o1.cell, ← hj, hxl]
      simp [fcells]⟩⟩, fun a ha _ => by
      obtain rfl : (⟨b1, 0, none⟩ : Addr) = a := Option.some.inj ha
      exact o1.col⟩, fun q hq => by rw [List.mem_singleton.1 hq]; exact hx1⟩
  refine newDisk_spec 9 F1 (fun hn => by rw [show List.map (·.1) [((⟨nameP 1, X, (X.length : Int)⟩ : AF), x2)] = [⟨nameP 1, X, (X.length : Int)⟩] from rfl, hmk] at hn; cases hn) fun A' hA' w2 c2 d2 m2 L2 D2 ch2 ex2 => ?_
  rw [show List.map (·.1) [((⟨nameP 1, X, (X.length : Int)⟩ : AF), x2)] = [⟨nameP 1, X, (X.length : Int)⟩] from rfl, hmk] at hA'
  obtain rfl : one1 1 X X.length (-1) 0 0 = A' := Option.some.inj hA'
  rw [if_neg (by exact Bool.false_ne_true)]
  unfold levylaw19_world_stands.k5
  rw [if_neg (by decide)]
  have S2 := S1.new ch2 ex2
  have h2 := h.far S2
  refine nn_some (ld_own h2.own (x := (st.sum : Int)) rfl ?_)
  refine Jn.open_spec 10 D2 hok h2.tab (by decide) (by decide) (by decide) one1_gens (fun j hB hne w4 c4 L4 Dn => absurd (P j (hB rfl)).1 hne) (fun j hB he w4 c4 L4 o s1 s2 rl2 Dn W hr1 hr2 hrl2 => ?_)
  obtain ⟨_, hsum, hrec⟩ := P j hB
  have h4 := h2.eff Dn.eff (by intro k hk; omega)
  have hs1l : s1.len = 0 := by have := hr1.1; rw [hsum] at this; simp at this; omega
  have hfit := (recsOf_fit (j := j) hok).2
  have hrow := h4.recs.row.2.1
  have hlen := h4.recs.len
  have hR'l : R'.length ≤ rl.length := by rw [← hR', ← hRl]; cases none' <;> simp [List.length_take]; omega
  have go : ∀ nn : Nat, nn ≤ st.R.length → st.R.take nn = R' → levylaw19_world_stands.k10 (some ⟨wb, 0, none⟩) (some ⟨o, 0, none⟩) s1 s2 0 (nn : Int) Q w4 := fun nn hnn hnR => by
    unfold levylaw19_world_stands.k10
    rw [if_pos (by decide), if_neg (by exact Bool.false_ne_true), if_pos (by rw [hs1l]; decide)]
    refine nn_some (ld_own h4.own (x := rs) rfl ?_)
    refine ⟨by omega, by omega, ?_⟩
    rw [Int.toNat_natCast]
    refine sameRecords_spec (RSrc.of hr2) ((RSrc.of h4.recs).take (n := nn) (by omega)) (by rw [← hrl2, List.length_map] at hfit; omega) fun b w5 hb S5 => ?_
    have hb : b = true := hb.2 (by rw [hrl2, hrec, List.map_take, h4.hrecs]; exact hnR.symm)
    subst hb
    rw [if_pos rfl]
    refine len_spec (W.far (S5 c4)) ?_
    unfold levylaw19_world_stands.k11
    have hRn : R'.length = nn := by rw [← hnR, List.length_take]; omega
    rw [hrec, hRn, show (((nn : Nat) : Int) == ((nn : Nat) : Int)) = true from beq_self_eq_true _]
    exact H w5 c4 (h4.far (S5 c4)) (((S2.eff (j := fun q => q = 9)).trans Dn.eff).new (S5 c4).ch (S5 c4).ex)
  cases none' with
  | true =>
    rw [if_pos rfl]
    exact go 0 (Nat.zero_le _) hR'
  | false =>
    rw [if_neg (by exact Bool.false_ne_true)]
    exact go n hn hR'

/-- the law's world behind so many Puts -/
def stC (sum : Nat) (R : List Rec) : LS := ⟨one1 1 (enc sum [] R) (enc sum [] R).length (-1) 0 0, some ⟨sum, 1, R.length, false⟩, sum, [], R, [], [], false⟩
theorem stC_first (sum : Nat) : LS.first sum = stC sum [] := by
  unfold LS.first stC
  have : enc sum [] [] = piece 0 sum 0 [] := by simp [enc, pieces]
  rw [this, piece_len]
  rfl
def few (R : List Rec) : Prop := R.length ≤ 12 ∧ ∀ r ∈ R, r.body.length ≤ 300
theorem few_size : ∀ {R : List Rec}, (∀ r ∈ R, r.body.length ≤ 300) → sizeR R ≤ R.length * 318
  | [], _ => by simp [sizeR]
  | r :: R, h => by
    have h1 := few_size (R := R) fun x hx => h x (by simp [hx])
    have h2 := h r (by simp)
    rw [sizeR_cons, List.length_cons]
    omega
theorem put_few {sum : Nat} {R : List Rec} {k : UInt8} {b : List UInt8} (hR : few R) (hb : b.length ≤ 300) :
    putP (stC sum R).A ⟨sum, 1, R.length, false⟩ k b = (0, (stC sum (R ++ [⟨k, b⟩])).A, ⟨sum, 1, R.length + 1, false⟩) := by
  have hz := few_size hR.2
  have hr := hR.1
  have he := enc_len sum [] R
  simp only [List.length_nil, Nat.zero_add] at he
  have l1 := lay_well (g := 1) (d := enc sum [] R) (b := piece (R.length + 1) sum k b) (s := (enc sum [] R).length) (u := -1) (af := 0) (ca := 0) (by decide) (by decide) (by rw [piece_len]; omega) (by decide)
  rw [← enc_snoc sum [] R ⟨k, b⟩] at l1
  refine (putP_of (D := ⟨sum, 1, R.length, false⟩) rfl (by omega) l1).trans ?_
  rw [if_neg (by decide)]
  rfl

theorem cut_step {i : Nat} {R : List Rec} {sum : Nat} {es ys : Sl} {b : List UInt8} {sz : Int} {K : Sl → Int → Int → World → Prop} {Q : Bool → World → Prop}
    (h : Rp w c wb d m L (stC sum R) p ss rs ls fs rl ll fl) (hR : few R) (hi : i < 12) (hs : sum < 4294967296) (hes : Row w c 12 3 1 es ((endsOf R).map (Value.int .i64))) (hsz : sz = (18 + sizeR R : Nat)) (hb : b.length ≤ 300) (hyl : ys.len = b.length) (src : Src w c 0 1 ys (b.map u8))
    (H : ∀ w' c' m' L' p' rs' rl' es', Rp w' c' wb d m' L' (stC sum (R ++ [⟨kindOf i, b⟩])) p' ss rs' ls fs rl' ll fl → Row w' c' 12 3 1 es' ((endsOf (R ++ [⟨kindOf i, b⟩])).map (Value.int .i64)) → Eff (fun q => q ≠ 0) w c w' c' → K es' ((18 + sizeR (R ++ [⟨kindOf i, b⟩]) : Nat) : Int) ((i + 1 : Nat) : Int) w') :
    nn (some (⟨wb, 0, none⟩ : Addr)) fun x59_106 => ld Value.pointer (World.drew (World.drew w)) (x59_106.add 1) fun x61_107 => levylaw19_record (i : Int) ys (fun x64_108_0_0 x64_108_0_1 w => ((World.cell? w (x59_106.add 1) = some (.pointer x61_107) ∧ True) ∧ drawer_Drawer_Put x61_107 x64_108_0_0 x64_108_0_1 (fun x65_109_0 w => (if (x65_109_0 != 0) = true then Q false w else nn (some (⟨wb, 0, none⟩ : Addr)) fun x69_112 => ld Sl.val (World.drew w) (x69_112.add 4) fun x71_113 => levylaw19_record (i : Int) ys (fun x74_114_0_0 x74_114_0_1 w => ((World.cell? w (x69_112.add 4) = some (Sl.val x71_113) ∧ True) ∧ al w (.cells #[.int .u8 x74_114_0_0, Sl.val x74_114_0_1] 37) fun x75_115 w => ((World.cell? w (x69_112.add 4) = some (Sl.val x71_113) ∧ True) ∧ rn Tryd.prog Sl.val (Builtin.append_ #[30, 30] 30 [Sl.val x71_113, .slice (some x75_115) 1 1].toArray) w fun x76_118 w => ((World.cell? w (x69_112.add 4) = some (Sl.val x71_113) ∧ True) ∧ nn (some (⟨wb, 0, none⟩ : Addr)) fun x77_119 => Vc.st w (x77_119.add 4) (Sl.val x76_118) fun w => al w (.cells #[.int .i64 (IntKind.i64.wrap ((IntKind.i64.wrap (sz + 18)) + ((ys.len : Nat) : Int)))] 3) fun x86_124 w => rn Tryd.prog Sl.val (Builtin.append_ #[33, 33] 33 [Sl.val es, .slice (some x86_124) 1 1].toArray) w fun x87_127 w => K x87_127 (IntKind.i64.wrap ((IntKind.i64.wrap (sz + 18)) + ((ys.len : Nat) : Int))) (IntKind.i64.wrap ((i : Int) + 1)) w)))) (World.drew w))) w)) (World.drew (World.drew w)) := by
  have hz := few_size hR.2
  have hr12 := hR.1
  have hd := h.drew.drew
  have srcd : Src w.drew.drew c 0 1 ys (b.map u8) := src
  obtain ⟨o, rfl, W0⟩ := h.drw
  refine nn_some (ld_own hd.own (x := some ⟨o, 0, none⟩) rfl ?_)
  refine record_spec (c := c) 8 (b := b) srcd.1 (by omega) fun w1 c1 s1 hr1 S1 => ?_
  have S01 : Sofar w c w1 c1 := (Sofar.refl _ _).drew.drew.new S1.ch S1.ex
  have h1 := h.far S01
  refine ⟨⟨by rw [add_mk, h1.own.cell]; rfl, trivial⟩, ?_⟩
  obtain ⟨o', ho', W1⟩ := h1.drw
  obtain rfl : o = o' := by injection ho' with e; injection e
  refine put_spec 8 h1.disk h1.ok h1.tab (by decide) (by decide) (by decide) (by decide) W1 hr1.reads (by omega) (show 1 < 100000000 by decide) (show R.length < 4294967295 by omega) fun w2 c2 L2 D2 W2 E2 => ?_
  have hok2 := putP_ok h1.ok ⟨sum, 1, R.length, false⟩ (kindOf (i : Int)) b
  rw [put_few hR hb] at D2 W2 hok2 ⊢
  have h2 := h1.drawer D2 W2 E2 hok2 rfl
  have E02 : Eff (fun q => q ≠ 0) w c w2 c2 := S01.eff.trans (E2.mono fun q hq => by omega)
  have hes2 := (hes.chg S01.ch S01.ex (fun _ _ => id)).eff E2 (by decide)
  rw [if_neg (show ¬ (((0 : Int) != 0) = true) by decide)]
  have h2d := h2.drew
  refine nn_some (ld_own h2d.own (x := rs) rfl ?_)
  have src2 := src.eff E02 (by decide)
  refine record_spec (c := c2) 5 (b := b) (src2.drew).1 (by omega) fun w3 c3 q hq S3 => ?_
  have S23 : Sofar w2 c2 w3 c3 := (Sofar.refl _ _).drew.new S3.ch S3.ex
  have h3 := h2.far S23
  refine ⟨⟨by rw [add_mk, h3.own.cell]; rfl, trivial⟩, ?_⟩
  refine al_own (c := c3) 5 fun b4 w4 c4 o4 ch4 ex4 _ => ?_
  have S24 := S23.new ch4 ex4
  have h4 := h2.far S24
  refine ⟨⟨by rw [add_mk, h4.own.cell]; rfl, trivial⟩, ?_⟩
  have hrll : rl.length = R.length := by have := congrArg List.length h.hrecs; rw [List.length_map] at this; exact this
  refine h4.recs.snoc (r := ⟨kindOf (i : Int), b⟩) o4 (hq.chg ch4 ex4 (fun _ _ => id)) (by omega) fun s5 w5 c5 R5 ch5 ex5 hbl5 => ?_
  have E5 : Eff (· = 5) w4 c4 w5 c5 := Eff.of ch5 ex5 fun g0 _ hg0 => by
    obtain ⟨cs', ho'⟩ := h4.recs.row.blk hg0
    exact ho'.col
  have hown5 := h4.own.eff E5 (by decide)
  refine ⟨⟨by rw [add_mk, hown5.cell]; rfl, trivial⟩, ?_⟩
  refine nn_some (st_own hown5 (by simp) fun w6 o6 ch6 _ => ?_)
  have E6 : Eff (· = 3) w5 c5 w6 c5 := (Eff.refl _ _ _).one ch6 (fun _ => hown5.col)
  have E46 : Eff (fun q => q = 5 ∨ q = 3) w4 c4 w6 c5 := (E5.mono fun q hq => .inl hq).trans (E6.mono fun q hq => .inr hq)
  have h6 : Rp w6 c5 wb d m L2 (stC sum (R ++ [⟨kindOf (i : Int), b⟩])) (some ⟨o, 0, none⟩) ss s5 ls fs (rl ++ [(⟨kindOf (i : Int), b⟩, q)]) ll fl :=
    ⟨o6, by
      have := h4.drw.eff E46 (by decide)
      unfold stC
      rw [List.length_append]
      exact this, h4.sm.eff E46 (by decide), R5.eff E6 (by decide), by rw [List.map_append, h4.hrecs]; rfl, h4.late.eff E46 (by decide), h4.hlate, h4.fold.eff E46 (by decide), fun x hx => (h4.foldd x hx).eff E46 (by decide), h4.hfold, h4.disk.eff E46 (by decide), h4.ok, h4.tab.eff E46 (by decide)⟩
  have hes6 := (hes2.chg S24.ch S24.ex (fun _ _ => id)).eff E46 (by decide)
  have E06 : Eff (fun q => q ≠ 0) w c w6 c5 := (E02.new S24.ch S24.ex).trans (E46.mono fun q hq => by omega)
  have hnew : IntKind.i64.wrap (IntKind.i64.wrap (sz + 18) + ((ys.len : Nat) : Int)) = ((18 + sizeR R + (18 + b.length) : Nat) : Int) := by
    rw [hsz, hyl, Da.wrap_small (i := ((18 + sizeR R : Nat) : Int) + 18) (by omega) (by omega), Da.wrap_small (by omega) (by omega)]
    omega
  rw [hnew]
  refine al_own (c := c5) 12 fun b7 w7 c7 o7 ch7 ex7 _ => ?_
  have hes7 := hes6.chg ch7 ex7 (fun _ _ => id)
  have h7 := h6.far ⟨ch7, ex7⟩
  have hesl : es.len = R.length := by have := hes.1; simp [endsOf_len] at this; omega
  refine append_any (s := es) (x := ⟨some ⟨b7, 0, none⟩, 1, 1⟩) 33 Tryd.underlying33 iI rfl hes7 (litSrc o7 rfl).1 (by simp [Value.oneCell']) (by show (es.len + 1) * 9 ≤ _; omega) fun es8 w8 c8 hrow8 ch8 ex8 hbl8 hlen8 => ?_
  have E8 : Eff (· = 12) w7 c7 w8 c8 := Eff.of ch8 ex8 fun g0 _ hg0 => by
    obtain ⟨cs', ho'⟩ := hes7.blk hg0
    exact ho'.col
  have h8 := h7.eff E8 (by intro k hk; omega)
  rw [Da.wrap_small (i := (i : Int) + 1) (by omega) (by omega)]
  have e1 : ((18 + sizeR R + (18 + b.length) : Nat) : Int) = ((18 + sizeR (R ++ [⟨kindOf (i : Int), b⟩]) : Nat) : Int) := by
    rw [sizeR_append, sizeR_cons]
    simp [sizeR]
    omega
  have hrow9 : Row w8 c8 12 3 1 es8 ((endsOf (R ++ [⟨kindOf (i : Int), b⟩])).map (Value.int .i64)) := by
    rw [endsOf_snoc, List.map_append]
    exact hrow8
  have hfin := H w8 c8 m L2 _ s5 _ es8 h8 hrow9 ((E06.new ch7 ex7).trans (E8.mono fun q hq => by omega))
  rw [e1]
  exact hfin
end
end Go.Proofs.YtjnifnlkicajhaaDoor.Kw
