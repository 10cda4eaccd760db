/-
  The drawer's calls: Open, Put, Fold. No condition is put on any statement here.
-/
import Derived.Test.YtjnifnlkicajhaaDoorJi
namespace Go.Proofs.YtjnifnlkicajhaaDoor.Jn
open Go Vc Hp Fs Da Pm Dd
set_option maxRecDepth 4000

/-! ### in plain words -/
/-- a drawer: its sum, generation, how many records, whether it is stuck -/
structure DW where
  sum : Nat
  gen : Nat
  len : Nat
  stuck : Bool
/-- Open, of the journal that is found: the number, the disk, the generation -/
def openP (A : PD) (sum : Nat) (j : JF) : Int × PD × Nat :=
  if A.down = true then (190, A, 0) else if 1 ≤ j.gen ∧ j.sum ≠ sum then (198, A, 0) else
  if (mendP A j (j.size + sizeR (recsOf A.files j))).1 ≠ 0 then ((mendP A j (j.size + sizeR (recsOf A.files j))).1, (mendP A j (j.size + sizeR (recsOf A.files j))).2, 0) else
  if j.gen = 0 then ((layP (mendP A j (j.size + sizeR (recsOf A.files j))).2 (nameP 1) (piece 0 sum 0 [])).1, (layP (mendP A j (j.size + sizeR (recsOf A.files j))).2 (nameP 1) (piece 0 sum 0 [])).2, 1) else
  (0, (mendP A j (j.size + sizeR (recsOf A.files j))).2, j.gen)
def putP (A : PD) (D : DW) (kind : UInt8) (body : List UInt8) : Int × PD × DW :=
  if D.stuck = true then (196, A, D) else if 1048576 < body.length then (197, A, D) else
  if (layP A (nameP D.gen) (piece (D.len + 1) D.sum kind body)).1 ≠ 0 then ((layP A (nameP D.gen) (piece (D.len + 1) D.sum kind body)).1, (layP A (nameP D.gen) (piece (D.len + 1) D.sum kind body)).2, { D with stuck := true }) else
  (0, (layP A (nameP D.gen) (piece (D.len + 1) D.sum kind body)).2, { D with len := D.len + 1, stuck := false })
def foldP (A : PD) (D : DW) (S : List UInt8) : Int × PD × DW :=
  if D.stuck = true then (196, A, D) else if 1048576 < S.length then (197, A, D) else if D.gen = 99999999 then (194, A, D) else
  if (layP A (nameP (D.gen + 1)) (piece 0 D.sum 0 S)).1 ≠ 0 then ((layP A (nameP (D.gen + 1)) (piece 0 D.sum 0 S)).1, (layP A (nameP (D.gen + 1)) (piece 0 D.sum 0 S)).2, { D with stuck := true }) else
  if ((layP A (nameP (D.gen + 1)) (piece 0 D.sum 0 S)).2.remove (nameP D.gen)).1 ≠ 0 then (((layP A (nameP (D.gen + 1)) (piece 0 D.sum 0 S)).2.remove (nameP D.gen)).1, ((layP A (nameP (D.gen + 1)) (piece 0 D.sum 0 S)).2.remove (nameP D.gen)).2, { D with stuck := true }) else
  (0, ((layP A (nameP (D.gen + 1)) (piece 0 D.sum 0 S)).2.remove (nameP D.gen)).2, { D with gen := D.gen + 1, len := 0, stuck := false })

/-! ### the walk -/
/-- a drawer in memory -/
def Drw (w : World) (c : Col) (kk o d : Nat) (D : DW) : Prop := Own w c o kk (.cells #[.pointer (some ⟨d, 0, none⟩), .int .u32 (D.sum : Int), .int .i64 (D.gen : Int), .int .i64 (D.len : Int), .bool D.stuck] 64 (0, 0))

section
variable {w : World} {c : Col} {k d m kk : Nat} {L : List FE} {A : PD}
theorem NewB.src {s b w' c'} (h : NewB w c kk s b w' c') : Src w' c' kk 1 s (b.map u8) := Row.src h.row
theorem NewB.far {s b w' c'} (h : NewB w c kk s b w' c') : Sofar w c w' c' := ⟨h.ch, h.ex⟩
theorem NewB.capLe {s b w' c'} (h : NewB w c kk s b w' c') : s.len ≤ s.cap := h.row.2.1
theorem nil_reads (w : World) : Reads w 1 ⟨none, 0, 0⟩ (([] : List UInt8).map u8) := ⟨rfl, .inl ⟨rfl, rfl⟩⟩

theorem open_spec {sum : Nat} {Q : Option Addr → Sl → Sl → Int → World → Prop} (kk : Nat) (D : DDisk w c k d m L A) (hA : A.Ok) (T : Tab w c) (hk : k ≠ 0) (hkk : kk ≠ k) (hk0 : kk ≠ 0) (hG : Gens A.files)
    (H0 : ∀ j, (A.down = false → Best (· ∈ A.files) j) → (openP A sum j).1 ≠ 0 → ∀ w' c' L', Done w c k d m (openP A sum j).2.1 w' c' L' → Q none ⟨none, 0, 0⟩ ⟨none, 0, 0⟩ (openP A sum j).1 w')
    (H1 : ∀ j, Best (· ∈ A.files) j → (openP A sum j).1 = 0 → ∀ w' c' L' o s1 s2 rl, Done w c k d m (openP A sum j).2.1 w' c' L' → Drw w' c' kk o d ⟨sum, (openP A sum j).2.2, (recsOf A.files j).length, false⟩ → Row w' c' kk 5 1 s1 (j.summary.map u8) → RRow w' c' kk s2 rl → rl.map (·.1) = recsOf A.files j →
      Q (some ⟨o, 0, none⟩) s1 s2 0 w') :
    drawer_Open (some ⟨d, 0, none⟩) (sum : Int) Q w := by
  obtain ⟨a, u, od, _, _⟩ := id D.own
  unfold drawer_Open
  refine nn_some (ld_own od (x := A.down) rfl ?_)
  cases hd : A.down with
  | true =>
    rw [if_pos rfl]
    have he : openP A sum JF.none = (190, A, 0) := by unfold openP; rw [if_pos hd]
    have := H0 JF.none (fun h => by rw [hd] at h; cases h) (by rw [he]; exact (by decide : (190 : Int) ≠ 0)) w c L (by rw [he]; exact Done.start D)
    rw [he] at this
    exact this
  | false =>
    rw [if_neg (by exact Bool.false_ne_true)]
    refine seek_spec kk D hA T hG fun j hB w1 c1 s1 s2 rl hr1 hr2 hrl S1 => ?_
    have hgen := (hB.gen hG).1
    have hsl : s2.len = (recsOf A.files j).length := by rw [hr2.len, ← hrl, List.length_map]
    refine al_own (c := c1) kk fun b w2 c2 o2 ch2 ex2 hg2 => ?_
    refine stN_own o2 rfl fun w3 o3 ch3 _ => ?_
    have S2 := S1.new ch2 ex2
    have S3 := S2.own ch3 (Nat.le_trans S1.ch.size hg2)
    have hr13 : Row w3 c2 kk 5 1 s1 (j.summary.map u8) := Row.off (hr1.chg ch2 ex2 (fun _ _ => id)) ch3 o2 (.inl (by decide))
    have hr23 : RRow w3 c2 kk s2 rl := (hr2.new ch2 ex2).off ch3 o2 (.inl (by decide)) (.inl (by decide))
    have Dn3 := (Done.start D).far S3
    have T3 := T.far S3
    refine ld_own o3 (x := (j.gen : Int)) rfl ?_
    -- the drawer is made
    have k14 : ∀ {v c' L' B gen}, Done w c k d m B v c' L' → Row v c' kk 5 1 s1 (j.summary.map u8) → RRow v c' kk s2 rl → Own v c' b kk (.cells #[.int .i64 (gen : Nat), .int .u32 (j.sum : Int), s1.val, s2.val, .int .i64 ((j.size + sizeR (recsOf A.files j) : Nat) : Int), .int .i64 (j.all : Int), .int .i64 (j.sure : Int)] 82 (0, 0)) →
        openP A sum j = (0, B, gen) → drawer_Open.k14 (some ⟨d, 0, none⟩) (sum : Int) ⟨b, 0, none⟩ Q v := fun {v c' L' B gen} Dn hr1 hr2 o he => by
      unfold drawer_Open.k14
      have o' := o.drew
      refine ld_own o' (x := (gen : Int)) rfl (ld_own o' (x := s2) rfl (ld_own o' (x := s1) rfl (ld_own o' (x := s2) rfl ?_)))
      refine al_own (c := c') kk fun ob w4 c4 o4 ch4 ex4 hg4 => ?_
      have o5 := o'.chg ch4 ex4 id
      refine ⟨⟨by rw [add_mk, o5.cell]; rfl, by rw [add_mk, o5.cell]; rfl, by rw [add_mk, o5.cell]; rfl, by rw [add_mk, o5.cell]; rfl, trivial⟩, ?_⟩
      rw [hsl] at o4
      have S4 : Sofar v c' w4 c4 := (Sofar.refl _ _).drew.new ch4 ex4
      refine H1 j hB (by rw [he]) w4 c4 L' ob s1 s2 rl (by rw [he]; exact Dn.far S4) (by rw [he]; exact o4) (hr1.chg S4.ch S4.ex (fun _ _ => id)) (hr2.new S4.ch S4.ex) hrl
    have fail : ∀ {v c' L' e B}, Done w c k d m B v c' L' → e ≠ 0 → openP A sum j = (e, B, 0) ∨ openP A sum j = (e, B, 1) → Q none ⟨none, 0, 0⟩ ⟨none, 0, 0⟩ e v := fun {v c' L' e B} Dn hne he => by
      rcases he with he | he
      · have := H0 j (fun _ => hB) (by rw [he]; exact hne) v c' L' (by rw [he]; exact Dn)
        rw [he] at this
        exact this
      · have := H0 j (fun _ => hB) (by rw [he]; exact hne) v c' L' (by rw [he]; exact Dn)
        rw [he] at this
        exact this
    have key : ∀ {y : Bool}, (y = true ↔ 1 ≤ j.gen ∧ j.sum ≠ sum) → drawer_Open.k8 (some ⟨d, 0, none⟩) (sum : Int) ⟨b, 0, none⟩ y Q w3 := fun {y} hy => by
      unfold drawer_Open.k8
      cases y with
      | true =>
        rw [if_pos rfl]
        exact fail Dn3 (by decide) (.inl (by unfold openP; rw [if_neg (by rw [hd]; exact Bool.false_ne_true), if_pos (hy.1 rfl)]))
      | false =>
        have hno : ¬ (1 ≤ j.gen ∧ j.sum ≠ sum) := fun h => Bool.false_ne_true (hy.2 h)
        rw [if_neg (by exact Bool.false_ne_true)]
        refine ld_own o3 (x := (j.gen : Int)) rfl (ld_own o3 (x := (j.sum : Int)) rfl (ld_own o3 (x := s1) rfl (ld_own o3 (x := s2) rfl (ld_own o3 (x := ((j.size + sizeR (recsOf A.files j) : Nat) : Int)) rfl (ld_own o3 (x := (j.all : Int)) rfl (ld_own o3 (x := (j.sure : Int)) rfl ?_))))))
        refine mend_spec kk Dn3.disk hA T3 hk hkk hgen hG fun w4 c4 L4 Dn4 => ?_
        have Dn4' : Done w c k d m _ w4 c4 L4 := ⟨Dn4.disk, Dn3.eff.trans Dn4.eff⟩
        have o4 := o3.eff Dn4.eff hkk
        have T4 := T3.eff Dn4.eff (by omega)
        have hr14 := hr13.eff Dn4.eff hkk
        have hr24 := hr23.eff Dn4.eff hkk
        have hBok := mendP_ok hA j (j.size + sizeR (recsOf A.files j))
        have he : openP A sum j = if (mendP A j (j.size + sizeR (recsOf A.files j))).1 ≠ 0 then ((mendP A j (j.size + sizeR (recsOf A.files j))).1, (mendP A j (j.size + sizeR (recsOf A.files j))).2, 0) else
            if j.gen = 0 then ((layP (mendP A j (j.size + sizeR (recsOf A.files j))).2 (nameP 1) (piece 0 sum 0 [])).1, (layP (mendP A j (j.size + sizeR (recsOf A.files j))).2 (nameP 1) (piece 0 sum 0 [])).2, 1) else
            (0, (mendP A j (j.size + sizeR (recsOf A.files j))).2, j.gen) := by
          conv => lhs; unfold openP
          rw [if_neg (by rw [hd]; exact Bool.false_ne_true), if_neg hno]
        generalize mendP A j (j.size + sizeR (recsOf A.files j)) = p at *
        by_cases h0 : p.1 = 0
        · rw [if_neg (by simp [h0])]
          rw [if_neg (by simp [h0])] at he
          refine ld_own o4 (x := (j.gen : Int)) rfl ?_
          by_cases hg0 : j.gen = 0
          · rw [if_pos (by rw [hg0]; decide)]
            rw [if_pos hg0] at he
            refine st_own o4 (by simp) fun w5 o5 ch5 hs5 => ?_
            have E5 : Eff (· = kk) w4 c4 w5 c4 := (Eff.refl _ _ _).one ch5 (fun _ => o4.col)
            have D5 : DDisk w5 c4 k d m L4 p.2 := Dn4.disk.eff E5 (fun e => hkk e.symm)
            have Dn5 : Done w c k d m p.2 w5 c4 L4 := ⟨D5, Dn4'.eff.one ch5 (fun h => absurd h (by have := S1.ch.size; omega))⟩
            have hr15 := Row.off hr14 ch5 o4 (.inl (by decide))
            have hr25 := hr24.off ch5 o4 (.inl (by decide)) (.inl (by decide))
            have T5 : Tab w5 c4 := T4.chg ch5 (Ext.refl _ _) (fun bb hb hh => by
              subst hh
              exact hk0 (o4.col.symm.trans hb))
            refine name_spec (g := 1) T5 (by omega) fun w6 S6 => ?_
            refine piece_spec (c := c4) kk (n := 0) (s := sum) (kd := 0) (b := []) (nil_reads _) (by simp) (by omega) fun s7 w7 c7 N7 => ?_
            have S57 : Sofar w5 c4 w7 c7 := S6.new N7.ch N7.ex
            have Dn7 := Dn5.far S57
            refine lay_spec Dn7.disk hBok N7.src hkk N7.capLe (by rw [piece_len]; simp) fun w8 c8 L8 Dn8 => ?_
            have Dn8' : Done w c k d m _ w8 c8 L8 := ⟨Dn8.disk, Dn7.eff.trans Dn8.eff⟩
            by_cases h1 : (layP p.2 (nameP 1) (piece 0 sum 0 [])).1 = 0
            · rw [if_neg (by simp [h1])]
              rw [h1] at he
              have o8 := (o5.chg S57.ch S57.ex id).eff Dn8.eff hkk
              exact k14 (gen := 1) Dn8' ((hr15.chg S57.ch S57.ex (fun _ _ => id)).eff Dn8.eff hkk) ((hr25.new S57.ch S57.ex).eff Dn8.eff hkk) o8 he
            · rw [if_pos (by simpa using h1)]
              exact fail Dn8' h1 (.inr he)
          · rw [if_neg (by rw [beq_iff_eq]; omega)]
            rw [if_neg hg0] at he
            exact k14 Dn4' hr14 hr24 o4 he
        · rw [if_pos (by simpa using h0)]
          rw [if_pos h0] at he
          exact fail Dn4' h0 (.inl he)
    by_cases h1 : 1 ≤ j.gen
    · rw [if_pos (by rw [decide_eq_true_eq]; omega)]
      refine ld_own o3 (x := (j.sum : Int)) rfl (key ?_)
      rw [bne_iff_ne]
      constructor
      · intro h; exact ⟨h1, fun e => h (by rw [e])⟩
      · intro h e; exact h.2 (by omega)
    · rw [if_neg (by rw [decide_eq_true_eq]; omega)]
      exact key (by constructor <;> intro h; cases h; exact absurd h.1 h1)

theorem drw_ne {w c o d kk' b cs t D} (h : Drw w c kk o d D) (ho : Own w c b kk' (.cells cs t (0, 0))) (ht : t ≠ 64) : o ≠ b := fun e => ho.neT h ht e.symm
theorem stick_spec {v c' o eb e} {D : DW} {Q : World → Prop} (h : Drw v c' kk o d D) (he : Own v c' eb kk (.cells #[.int .i64 e] 34 (0, 0)))
    (H : ∀ v', Drw v' c' kk o d { D with stuck := e != 0 } → Own v' c' eb kk (.cells #[.int .i64 e] 34 (0, 0)) → Chg (· = o) v v' → Q v') : drawer_Drawer_stick (some ⟨o, 0, none⟩) (some ⟨eb, 0, none⟩) Q v := by
  unfold drawer_Drawer_stick
  refine nn_some (ld_own0 he rfl (nn_some (st_own h (by simp) fun v' h' ch _ => ?_)))
  exact H v' h' (he.chg' ch (fun e' => drw_ne h he (by decide) e'.symm)) ch
theorem Drw.eff {w c o D j w' c'} (h : Drw w c kk o d D) (hc : Eff j w c w' c') (hj : ¬ j kk) : Drw w' c' kk o d D := Own.eff h hc hj
theorem Drw.far {w c o D w' c'} (h : Drw w c kk o d D) (S : Sofar w c w' c') : Drw w' c' kk o d D := Own.chg h S.ch S.ex id

/-- what a call of the drawer has done: to the disk, to the drawer's own block -/
theorem put_spec {o : Nat} {D : DW} {kd : UInt8} {x : Sl} {b : List UInt8} {Q : Int → World → Prop} (kp : Nat) (Dk : DDisk w c k d m L A) (hA : A.Ok) (T : Tab w c) (hk : k ≠ 0) (hkk : kk ≠ k) (hk0 : kk ≠ 0) (hpk : kp ≠ k)
    (W : Drw w c kk o d D) (hx : Reads w 1 x (b.map u8)) (hb : b.length ≤ 1073741824) (hgen : D.gen < 100000000) (hlen : D.len < 4294967295)
    (H : ∀ w' c' L', DDisk w' c' k d m L' (putP A D kd b).2.1 → Drw w' c' kk o d (putP A D kd b).2.2 → Eff (fun q => q = k ∨ q = kk) w c w' c' → Q (putP A D kd b).1 w') :
    drawer_Drawer_Put (some ⟨o, 0, none⟩) (kd.toNat : Int) x Q w := by
  have hxl : x.len = b.length := by have := hx.1; simp at this; omega
  unfold drawer_Drawer_Put
  refine al_own (c := c) kk fun rb w1 c1 o1 ch1 ex1 hg1 => ?_
  refine al_own (c := c1) kk fun eb w2 c2 o2 ch2 ex2 hg2 => ?_
  have S2 : Sofar w c w2 c2 := Sofar.new ⟨ch1, ex1⟩ ch2 ex2
  have o1 := o1.chg ch2 ex2 id
  have W2 := W.far S2
  have hen : w.heap.size ≤ eb := Nat.le_trans ch1.size hg2
  have E2 : Eff (fun q => q = k ∨ q = kk) w c w2 c2 := S2.eff
  have Dk2 := Dk.new S2.ch S2.ex
  unfold putP at H
  refine nn_some (ld_own W2 (x := D.stuck) rfl ?_)
  cases hst : D.stuck with
  | true =>
    rw [if_pos rfl]
    rw [if_pos hst] at H
    refine st_own0 o2 (by simp) fun w3 o3 ch3 _ => ld_own0 o3 (x := (196 : Int)) rfl ?_
    have E3 : Eff (· = kk) w2 c2 w3 c2 := (Eff.refl _ _ _).one ch3 (fun _ => o2.col)
    exact H w3 c2 L (Dk2.eff E3 (fun e => hkk e.symm)) (Own.chg' W2 ch3 (drw_ne W2 o2 (by decide))) (E2.one ch3 (fun h => absurd h (by omega)))
  | false =>
    rw [if_neg (by exact Bool.false_ne_true)]
    rw [if_neg (by rw [hst]; exact Bool.false_ne_true)] at H
    refine ld_own o1 (x := x) rfl ?_
    by_cases hlong : 1048576 < b.length
    · rw [if_pos (by rw [decide_eq_true_eq]; omega)]
      rw [if_pos hlong] at H
      refine st_own0 o2 (by simp) fun w3 o3 ch3 _ => ld_own0 o3 (x := (197 : Int)) rfl ?_
      have E3 : Eff (· = kk) w2 c2 w3 c2 := (Eff.refl _ _ _).one ch3 (fun _ => o2.col)
      exact H w3 c2 L (Dk2.eff E3 (fun e => hkk e.symm)) (Own.chg' W2 ch3 (drw_ne W2 o2 (by decide))) (E2.one ch3 (fun h => absurd h (by omega)))
    · rw [if_neg (by rw [decide_eq_true_eq]; omega)]
      rw [if_neg hlong] at H
      have Wd : Own w2.drew c2 o kk _ := Own.drew W2
      have od := o1.drew
      refine nn_some (ld_own Wd (x := some ⟨d, 0, none⟩) rfl (nn_some (ld_own Wd (x := (D.gen : Int)) rfl (nn_some (ld_own Wd (x := (D.len : Int)) rfl (nn_some (ld_own Wd (x := (D.sum : Int)) rfl (ld_own od (x := (kd.toNat : Int)) rfl (ld_own od (x := x) rfl ?_)))))))))
      refine name_spec ((T.far S2).drew) hgen fun w3 S3 => ?_
      have S23 : Sofar w2 c2 w3 c2 := (Sofar.refl _ _).drew.new S3.ch S3.ex
      have facts : ∀ {v c'}, Sofar w2 c2 v c' → (World.cell? v (Addr.add ⟨o, 0, none⟩ 0) = some (.pointer (some ⟨d, 0, none⟩)) ∧ World.cell? v (Addr.add ⟨o, 0, none⟩ 2) = some (.int .i64 (D.gen : Int)) ∧ World.cell? v (Addr.add ⟨o, 0, none⟩ 3) = some (.int .i64 (D.len : Int)) ∧ World.cell? v (Addr.add ⟨o, 0, none⟩ 1) = some (.int .u32 (D.sum : Int)) ∧
          World.cell? v (Addr.add ⟨rb, 0, none⟩ 0) = some (.int .u8 (kd.toNat : Int)) ∧ World.cell? v (Addr.add ⟨rb, 0, none⟩ 1) = some (Sl.val x) ∧ True) := fun S => by
        have W' := Own.chg W2 S.ch S.ex id
        have o' := o1.chg S.ch S.ex id
        exact ⟨by rw [add_mk, W'.cell]; rfl, by rw [add_mk, W'.cell]; rfl, by rw [add_mk, W'.cell]; rfl, by rw [add_mk, W'.cell]; rfl, by rw [add_mk, o'.cell]; rfl, by rw [add_mk, o'.cell]; rfl, trivial⟩
      refine ⟨facts S23, ?_⟩
      rw [Da.wrap_small (i := (D.len : Int) + 1) (by omega) (by omega), show (D.len : Int) + 1 = ((D.len + 1 : Nat) : Int) by omega]
      refine piece_spec (c := c2) kp (Reads.new hx (S2.new S23.ch S23.ex).ch) hb (by omega) fun s4 w4 c4 N4 => ?_
      have S24 := S23.new N4.ch N4.ex
      refine ⟨facts S24, ?_⟩
      have Dk4 := Dk2.new S24.ch S24.ex
      refine lay_spec Dk4 hA N4.src hpk N4.capLe (by rw [piece_len]; omega) fun w5 c5 L5 Dn5 => ?_
      have W5 := (W2.far S24).eff Dn5.eff hkk
      have oe5 := (o2.chg S24.ch S24.ex id).eff Dn5.eff hkk
      have E5 : Eff (fun q => q = k ∨ q = kk) w c w5 c5 := (E2.new S24.ch S24.ex).trans (Dn5.eff.mono fun q hq => .inl hq)
      have hcol : ∀ {v}, Drw v c5 kk o d D → o < w.heap.size → c5 o = k ∨ c5 o = kk := fun h _ => .inr h.col
      generalize layP A (nameP D.gen) (piece (D.len + 1) D.sum kd b) = p at *
      by_cases h0 : p.1 = 0
      · rw [if_neg (by simp [h0])]
        rw [if_neg (by simp [h0])] at H
        refine nn_some (ld_own W5 (x := (D.len : Int)) rfl (nn_some (st_own W5 (by simp) fun w6 W6 ch6 _ => ?_)))
        rw [Da.wrap_small (i := (D.len : Int) + 1) (by omega) (by omega), show (D.len : Int) + 1 = ((D.len + 1 : Nat) : Int) by omega] at W6
        have oe6 := oe5.chg' ch6 (fun e' => drw_ne W5 oe5 (by decide) e'.symm)
        have W6 : Drw w6 c5 kk o d { D with len := D.len + 1 } := W6
        refine st_own0 oe6 (by simp) fun w7 oe7 ch7 _ => ?_
        have W7 : Drw w7 c5 kk o d { D with len := D.len + 1 } := Own.chg' W6 ch7 (drw_ne W6 oe6 (by decide))
        refine stick_spec W7 oe7 fun w8 W8 oe8 ch8 => ld_own0 oe8 (x := (0 : Int)) rfl ?_
        have E8 : Eff (· = kk) w5 c5 w8 c5 := (((Eff.refl _ _ _).one ch6 (fun _ => W5.col)).one ch7 (fun _ => oe6.col)).one ch8 (fun _ => W7.col)
        exact H w8 c5 L5 (Dn5.disk.eff E8 (fun e => hkk e.symm)) W8 (E5.trans (E8.mono fun q hq => .inr hq))
      · rw [if_pos (by simpa using h0)]
        rw [if_pos h0] at H
        refine st_own0 oe5 (by simp) fun w7 oe7 ch7 _ => ?_
        have W7 : Drw w7 c5 kk o d D := Own.chg' W5 ch7 (drw_ne W5 oe5 (by decide))
        refine stick_spec W7 oe7 fun w8 W8 oe8 ch8 => ld_own0 oe8 (x := p.1) rfl ?_
        have E8 : Eff (· = kk) w5 c5 w8 c5 := ((Eff.refl _ _ _).one ch7 (fun _ => oe5.col)).one ch8 (fun _ => W7.col)
        rw [show (p.1 != 0) = true by simpa using h0] at W8
        exact H w8 c5 L5 (Dn5.disk.eff E8 (fun e => hkk e.symm)) W8 (E5.trans (E8.mono fun q hq => .inr hq))

theorem fold_spec {o : Nat} {D : DW} {x : Sl} {b : List UInt8} {Q : Int → World → Prop} (kp : Nat) (Dk : DDisk w c k d m L A) (hA : A.Ok) (T : Tab w c) (hk : k ≠ 0) (hkk : kk ≠ k) (hk0 : kk ≠ 0) (hpk : kp ≠ k)
    (W : Drw w c kk o d D) (hx : Reads w 1 x (b.map u8)) (hb : b.length ≤ 1073741824) (hgen : D.gen < 100000000)
    (H : ∀ w' c' L', DDisk w' c' k d m L' (foldP A D b).2.1 → Drw w' c' kk o d (foldP A D b).2.2 → Eff (fun q => q = k ∨ q = kk) w c w' c' → Q (foldP A D b).1 w') :
    drawer_Drawer_Fold (some ⟨o, 0, none⟩) x Q w := by
  have hxl : x.len = b.length := by have := hx.1; simp at this; omega
  unfold drawer_Drawer_Fold
  refine al_own (c := c) kk fun eb w2 c2 o2 ch2 ex2 hen => ?_
  have S2 : Sofar w c w2 c2 := ⟨ch2, ex2⟩
  have W2 := W.far S2
  have E2 : Eff (fun q => q = k ∨ q = kk) w c w2 c2 := S2.eff
  have Dk2 := Dk.new S2.ch S2.ex
  unfold foldP at H
  have early : ∀ {e : Int}, (∀ w' c' L', DDisk w' c' k d m L' A → Drw w' c' kk o d D → Eff (fun q => q = k ∨ q = kk) w c w' c' → Q e w') → st w2 ⟨eb, 0, none⟩ (.int .i64 e) fun w => ld (Value.int .i64) w ⟨eb, 0, none⟩ fun r => Q r w := fun {e} H => by
    refine st_own0 o2 (by simp) fun w3 o3 ch3 _ => ld_own0 o3 (x := e) rfl ?_
    have E3 : Eff (· = kk) w2 c2 w3 c2 := (Eff.refl _ _ _).one ch3 (fun _ => o2.col)
    exact H w3 c2 L (Dk2.eff E3 (fun e => hkk e.symm)) (Own.chg' W2 ch3 (drw_ne W2 o2 (by decide))) (E2.one ch3 (fun h => absurd h (by omega)))
  refine nn_some (ld_own W2 (x := D.stuck) rfl ?_)
  cases hst : D.stuck with
  | true =>
    rw [if_pos rfl]
    rw [if_pos hst] at H
    exact early H
  | false =>
    rw [if_neg (by exact Bool.false_ne_true)]
    rw [if_neg (by rw [hst]; exact Bool.false_ne_true)] at H
    by_cases hlong : 1048576 < b.length
    · rw [if_pos (by rw [decide_eq_true_eq]; omega)]
      rw [if_pos hlong] at H
      exact early H
    rw [if_neg (by rw [decide_eq_true_eq]; omega)]
    rw [if_neg hlong] at H
    refine nn_some (ld_own W2 (x := (D.gen : Int)) rfl ?_)
    by_cases hlast : D.gen = 99999999
    · rw [if_pos (by rw [hlast]; decide)]
      rw [if_pos hlast] at H
      exact early H
    rw [if_neg (by rw [beq_iff_eq]; omega)]
    rw [if_neg hlast] at H
    have Wd : Own w2.drew c2 o kk _ := Own.drew W2
    refine nn_some (ld_own Wd (x := some ⟨d, 0, none⟩) rfl (nn_some (ld_own Wd (x := (D.gen : Int)) rfl (nn_some (ld_own Wd (x := (D.sum : Int)) rfl ?_)))))
    rw [Da.wrap_small (i := (D.gen : Int) + 1) (by omega) (by omega), show (D.gen : Int) + 1 = ((D.gen + 1 : Nat) : Int) by omega]
    refine name_spec ((T.far S2).drew) (by omega) fun w3 S3 => ?_
    have S23 : Sofar w2 c2 w3 c2 := (Sofar.refl _ _).drew.new S3.ch S3.ex
    have facts : ∀ {v c'}, Sofar w2 c2 v c' → (World.cell? v (Addr.add ⟨o, 0, none⟩ 0) = some (.pointer (some ⟨d, 0, none⟩)) ∧ World.cell? v (Addr.add ⟨o, 0, none⟩ 2) = some (.int .i64 (D.gen : Int)) ∧ World.cell? v (Addr.add ⟨o, 0, none⟩ 1) = some (.int .u32 (D.sum : Int)) ∧ True) := fun S => by
      have W' := Own.chg W2 S.ch S.ex id
      exact ⟨by rw [add_mk, W'.cell]; rfl, by rw [add_mk, W'.cell]; rfl, by rw [add_mk, W'.cell]; rfl, trivial⟩
    refine ⟨facts S23, ?_⟩
    refine piece_spec (c := c2) kp (n := 0) (kd := 0) (Reads.new hx (S2.new S23.ch S23.ex).ch) hb (by omega) fun s4 w4 c4 N4 => ?_
    have S24 := S23.new N4.ch N4.ex
    refine ⟨facts S24, ?_⟩
    have Dk4 := Dk2.new S24.ch S24.ex
    refine lay_spec Dk4 hA N4.src hpk N4.capLe (by rw [piece_len]; omega) fun w5 c5 L5 Dn5 => ?_
    have hA5 := layP_ok hA (nameP (D.gen + 1)) (piece 0 D.sum 0 b)
    have W5 := (W2.far S24).eff Dn5.eff hkk
    have oe5 := (o2.chg S24.ch S24.ex id).eff Dn5.eff hkk
    have E5 : Eff (fun q => q = k ∨ q = kk) w c w5 c5 := (E2.new S24.ch S24.ex).trans (Dn5.eff.mono fun q hq => .inl hq)
    have T5 : Tab w5 c5 := ((T.far S2).far S24).eff Dn5.eff (by omega)
    generalize layP A (nameP (D.gen + 1)) (piece 0 D.sum 0 b) = p at *
    have stuckd : ∀ {e : Int} {v c' L' B}, e ≠ 0 → DDisk v c' k d m L' B → Drw v c' kk o d D → Own v c' eb kk (.cells #[.int .i64 0] 34 (0, 0)) → Eff (fun q => q = k ∨ q = kk) w c v c' → (∀ w' c' L', DDisk w' c' k d m L' B → Drw w' c' kk o d { D with stuck := true } → Eff (fun q => q = k ∨ q = kk) w c w' c' → Q e w') →
        st v ⟨eb, 0, none⟩ (.int .i64 e) fun w => drawer_Drawer_stick (some ⟨o, 0, none⟩) (some ⟨eb, 0, none⟩) (fun w => ld (Value.int .i64) w ⟨eb, 0, none⟩ fun r => Q r w) w := fun {e v c' L' B} hne Db Wb ob Eb H => by
      refine st_own0 ob (by simp) fun w7 oe7 ch7 _ => ?_
      have W7 : Drw w7 c' kk o d D := Own.chg' Wb ch7 (drw_ne Wb ob (by decide))
      refine stick_spec W7 oe7 fun w8 W8 oe8 ch8 => ld_own0 oe8 (x := e) rfl ?_
      have E8 : Eff (· = kk) v c' w8 c' := ((Eff.refl _ _ _).one ch7 (fun _ => ob.col)).one ch8 (fun _ => W7.col)
      rw [show (e != 0) = true by simpa using hne] at W8
      exact H w8 c' L' (Db.eff E8 (fun e => hkk e.symm)) W8 (Eb.trans (E8.mono fun q hq => .inr hq))
    by_cases h0 : p.1 = 0
    · rw [if_neg (by simp [h0])]
      rw [if_neg (by simp [h0])] at H
      have Wd5 : Own w5.drew c5 o kk _ := Own.drew W5
      refine nn_some (ld_own Wd5 (x := some ⟨d, 0, none⟩) rfl (nn_some (ld_own Wd5 (x := (D.gen : Int)) rfl ?_)))
      refine name_spec T5.drew hgen fun w6 S6 => ?_
      have S56 : Sofar w5 c5 w6 c5 := (Sofar.refl _ _).drew.new S6.ch S6.ex
      have W6 := W5.far S56
      refine ⟨⟨by rw [add_mk, Own.cell W6]; rfl, by rw [add_mk, Own.cell W6]; rfl, trivial⟩, ?_⟩
      refine remove_spec (Dn5.disk.new S56.ch S56.ex) hA5 fun w7 c7 L7 D7 E67 => ?_
      have W7 := W6.eff E67 hkk
      have oe7 := (oe5.chg S56.ch S56.ex id).eff E67 hkk
      have E7 : Eff (fun q => q = k ∨ q = kk) w c w7 c7 := (E5.new S56.ch S56.ex).trans (E67.mono fun q hq => .inl hq)
      by_cases h1 : (p.2.remove (nameP D.gen)).1 = 0
      · rw [if_neg (by simp [h1])]
        rw [if_neg (by simp [h1])] at H
        refine nn_some (ld_own W7 (x := (D.gen : Int)) rfl (nn_some (st_own W7 (by simp) fun w8 W8 ch8 _ => ?_)))
        rw [Da.wrap_small (i := (D.gen : Int) + 1) (by omega) (by omega), show (D.gen : Int) + 1 = ((D.gen + 1 : Nat) : Int) by omega] at W8
        have W8 : Drw w8 c7 kk o d { D with gen := D.gen + 1 } := W8
        have oe8 := oe7.chg' ch8 (fun e' => drw_ne W7 oe7 (by decide) e'.symm)
        refine nn_some (st_own W8 (by simp) fun w9 W9 ch9 _ => ?_)
        have W9 : Drw w9 c7 kk o d { D with gen := D.gen + 1, len := 0 } := W9
        have oe9 := oe8.chg' ch9 (fun e' => drw_ne W8 oe8 (by decide) e'.symm)
        refine st_own0 oe9 (by simp) fun w10 oe10 ch10 _ => ?_
        have W10 : Drw w10 c7 kk o d { D with gen := D.gen + 1, len := 0 } := Own.chg' W9 ch10 (drw_ne W9 oe9 (by decide))
        refine stick_spec W10 oe10 fun w11 W11 oe11 ch11 => ld_own0 oe11 (x := (0 : Int)) rfl ?_
        have E11 : Eff (· = kk) w7 c7 w11 c7 := ((((Eff.refl _ _ _).one ch8 (fun _ => W7.col)).one ch9 (fun _ => W8.col)).one ch10 (fun _ => oe9.col)).one ch11 (fun _ => W10.col)
        exact H w11 c7 L7 (D7.eff E11 (fun e => hkk e.symm)) W11 (E7.trans (E11.mono fun q hq => .inr hq))
      · rw [if_pos (by simpa using h1)]
        rw [if_pos h1] at H
        exact stuckd h1 D7 W7 oe7 E7 H
    · rw [if_pos (by simpa using h0)]
      rw [if_pos h0] at H
      exact stuckd h0 Dn5.disk W5 oe5 E5 H
theorem len_spec {o : Nat} {D : DW} {Q : Int → World → Prop} (W : Drw w c kk o d D) (H : Q (D.len : Int) w) : drawer_Drawer_Len (some ⟨o, 0, none⟩) Q w := by
  unfold drawer_Drawer_Len
  exact nn_some (ld_own W (x := (D.len : Int)) rfl H)
end
end Go.Proofs.YtjnifnlkicajhaaDoor.Jn
