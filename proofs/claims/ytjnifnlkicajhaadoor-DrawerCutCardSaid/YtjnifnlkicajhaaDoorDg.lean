/-
  The program's disk: Sync, Trim, Remove, Read. No condition is put on any statement here.
-/
import Derived.Test.YtjnifnlkicajhaaDoorDf
import Derived.Laws.MakeOwn
namespace Go.Proofs.YtjnifnlkicajhaaDoor.Dd
open Go Vc Hp Fs Da Pm
set_option maxRecDepth 4000

theorem DDisk.dcol {w c k d m L A} (h : DDisk w c k d m L A) : c d = k := by obtain ⟨_, _, od, _⟩ := h.own; exact od.col
theorem DDisk.keep {w c k d m L A b k' cs t w'} (h : DDisk w c k d m L A) (ho : Own w c b k' (.cells cs t (0, 0))) (ht : t ≠ 75) (hc : Chg (· = d) w w') : Own w' c b k' (.cells cs t (0, 0)) := by
  obtain ⟨_, _, od, _⟩ := h.own
  exact ho.chg' hc (ho.neT od ht)

theorem change_spec {w c k d m L A x v} {g : List PF → List PF} {Q : Int → World → Prop} (h : DDisk w c k d m L A) (hA : A.Ok)
    (H1 : (A.change x g).1 ≠ 0 → ∀ w', DDisk w' c k d m L (A.change x g).2 → Chg (· = d) w w' → Q (A.change x g).1 w')
    (H2 : ∀ w' e A', e ∈ L → e.name = x → A'.Ok → A.change x g = (0, { A' with files := g A'.files }) → DDisk w' c k d m L A' → Chg (· = d) w w' → cv Tryd.prog v [.pointer (some ⟨e.fb, 0, none⟩)] w' (fun v w => v = (.tuple #[] : Value) ∧ Q 0 w)) :
    drawer_Disk_change (some ⟨d, 0, none⟩) x v Q w := by
  unfold drawer_Disk_change
  refine ahead_spec h hA fun w2 D2 ch2 hs2 => ?_
  have A2 := hA.first x
  unfold PD.change at H1 H2
  by_cases hne : (A.first x).1 ≠ 0
  · rw [if_pos hne] at H1
    rw [if_pos (by simpa using hne)]
    exact H1 hne w2 D2 ch2
  rw [if_neg hne] at H1 H2
  rw [if_neg (by simpa using hne)]
  generalize (A.first x).2 = A1 at *
  dsimp only at H1 H2
  obtain ⟨_, _, od2, _⟩ := id D2.own
  refine nn_some (ld_own od2 (x := some m) rfl (look D2.files ?_))
  rw [D2.get A2 x] at H1 H2
  cases hf : fget L x with
  | none =>
    rw [hf] at H1
    rw [if_pos (show Option.isNone (Option.map FE.pf none) = true from rfl)] at H1
    rw [if_pos (by rfl)]
    exact H1 (show (193 : Int) ≠ 0 by decide) w2 D2 ch2
  | some e =>
    rw [hf] at H1 H2
    rw [if_neg (show ¬ Option.isNone (Option.map FE.pf (some e)) = true from Bool.false_ne_true)] at H1 H2
    rw [if_neg (by exact Bool.false_ne_true)]
    obtain ⟨he, hen⟩ := fget_some hf
    refine paid_spec D2 A2 (by omega) fun w3 D3 ch3 hs3 => ?_
    have A3 := A2.pay (cost := 1) (by omega)
    cases hp : (A1.pay 1).1 with
    | true =>
      rw [if_pos hp] at H2
      rw [if_neg (by simp)]
      exact H2 w3 e _ he hen A3 rfl D3 (ch2.trans ch3)
    | false =>
      rw [if_neg (by rw [hp]; exact Bool.false_ne_true)] at H1
      rw [if_pos (by simp)]
      exact H1 (show (190 : Int) ≠ 0 by decide) w3 D3 (ch2.trans ch3)

theorem sync_spec {w c k d m L A x} {Q : Int → World → Prop} (h : DDisk w c k d m L A) (hA : A.Ok) (H : ∀ w' L', DDisk w' c k d m L' (A.sync x).2 → Eff (· = k) w c w' c → Q (A.sync x).1 w') : drawer_Disk_Sync (some ⟨d, 0, none⟩) x Q w := by
  unfold drawer_Disk_Sync
  unfold PD.sync at H
  refine change_spec (g := fun l => setf l x fun f => { f with sure := f.data.length }) h hA (fun _ w' D ch => H w' L D ((Eff.refl _ _ _).one ch (fun _ => h.dcol))) fun w2 e A' he hen hA' hch D2 ch2 => ?_
  rw [hch] at H
  refine ⟨50, [], rfl, fun args w => by kernel_rfl, s_drawer_Disk_Sync_1 _ _ _ ?_⟩
  unfold drawer_Disk_Sync_1
  have hfe := D2.files.files e he
  have hel : e.s.len = e.data.length := by have := hfe.row.1; simp at this; omega
  refine nn_some (ld_own hfe.own rfl (nn_some (st_own hfe.own (by simp) fun w3 fo ch3 hs3 => ?_)))
  have hbl : ∀ g, Sl.blk e.s = some g → ¬ g = e.fb := fun g hg x => by
    obtain ⟨cs, ho⟩ := hfe.row.blk hg
    exact ho.neT hfe.own (by decide) x
  have D3 := D2.upd (e' := { e with sure := e.data.length }) (g := fun f => { f with sure := f.data.length }) he (ch3.mono fun _ _ hh => .inl hh) (Ext.refl _ _) rfl rfl ⟨by rw [hel] at fo; exact fo, hfe.row.chg ch3 (Ext.refl _ _) hbl⟩ (fun g hg => .inl hg) rfl
  rw [hen] at D3
  exact H w3 _ D3 (((Eff.refl _ _ _).one ch2 (fun _ => h.dcol)).one ch3 (fun _ => hfe.own.col))

theorem min_int (a b : Nat) : (if (a : Int) < (b : Int) then (a : Int) else (b : Int)) = ((min b a : Nat) : Int) := by omega
theorem cut_int (n : Int) (a : Nat) : (if (a : Int) < (if 0 > n then 0 else n) then (a : Int) else (if 0 > n then 0 else n)) = ((cutTo n a : Nat) : Int) := by
  unfold cutTo
  split <;> split at * <;> omega

theorem trim_spec {w c k d m L A x n} {Q : Int → World → Prop} (h : DDisk w c k d m L A) (hA : A.Ok) (H : ∀ w' c' L', DDisk w' c' k d m L' (A.trim x n).2 → Eff (· = k) w c w' c' → Q (A.trim x n).1 w') : drawer_Disk_Trim (some ⟨d, 0, none⟩) x n Q w := by
  unfold drawer_Disk_Trim
  unfold PD.trim at H
  refine al_own (c := c) k fun b1 w1 c1 o1 ch1 ex1 hb1 => ?_
  have D1 := h.new ch1 ex1
  have E1 : Eff (· = k) w c w1 c1 := (Eff.refl _ _ _).new ch1 ex1
  refine change_spec (g := fun l => setf l x fun f => { f with data := f.data.take n.toNat, sure := min f.sure (cutTo n f.data.length) }) D1 hA (fun _ w' D ch => H w' c1 L D (E1.one ch (fun _ => D1.dcol))) fun w2 e A' he hen hA' hch D2 ch2 => ?_
  rw [hch] at H
  refine ⟨57, [.pointer (some ⟨b1, 0, none⟩)], rfl, fun args w => by kernel_rfl, s_drawer_Disk_Trim_1 _ _ _ _ ?_⟩
  unfold drawer_Disk_Trim_1
  have hfe := D2.files.files e he
  have hel : e.s.len = e.data.length := by have := hfe.row.1; simp at this; omega
  have hsc : e.s.len ≤ e.s.cap := hfe.row.2.1
  have o2 := D1.keep o1 (by decide) ch2
  refine nn_some (ld_own hfe.own.drew rfl (ld_own0 (x := n) o2.drew rfl (nn_some (ld_own hfe.own.drew rfl ?_))))
  rw [cut_int]
  have hct : cutTo n e.s.len ≤ e.s.len := by unfold cutTo; omega
  refine ⟨by omega, by omega, ?_⟩
  rw [Int.toNat_natCast]
  obtain ⟨hrow, hblk⟩ := Row.take hfe.row (n := cutTo n e.s.len) hct
  refine nn_some (st_own hfe.own.drew (by simp) fun w3 fo ch3 hs3 => ?_)
  have ch3 := undrew ch3
  refine nn_some (ld_own (x := (e.sure : Int)) fo.drew rfl (nn_some (ld_own fo.drew rfl (nn_some (st_own fo.drew (by simp) fun w4 fo4 ch4 hs4 => ?_)))))
  have ch4 := undrew ch4
  have hbl : ∀ g, Sl.blk e.s = some g → ¬ g = e.fb := fun g hg x => by
    obtain ⟨cs, ho⟩ := hfe.row.blk hg
    exact ho.neT hfe.own (by decide) x
  rw [Nat.mul_one, ← List.map_take] at hrow
  have hdt : e.data.take (cutTo n e.s.len) = e.data.take n.toNat := by
    unfold cutTo
    rw [hel, List.take_eq_take_iff]
    omega
  rw [hdt] at hrow
  have D3 := D2.upd (w' := w4) (e' := { e with s := cutSl ⟨e.s.p, e.s.len, e.s.cap⟩ 1 0 (cutTo n e.s.len) e.s.cap, data := e.data.take n.toNat, sure := min e.sure (cutTo n e.data.length) })
    (g := fun f => { f with data := f.data.take n.toNat, sure := min f.sure (cutTo n f.data.length) }) he ((ch3.trans ch4).mono fun _ _ hh => .inl hh) (Ext.refl _ _) rfl rfl
    ⟨by
      have e1 : (if ((cutTo n e.s.len : Nat) : Int) < (e.sure : Int) then ((cutTo n e.s.len : Nat) : Int) else (e.sure : Int)) = ((min e.sure (cutTo n e.data.length) : Nat) : Int) := by rw [min_int, hel]
      have e2 : (cutSl ⟨e.s.p, e.s.len, e.s.cap⟩ 1 0 (cutTo n e.s.len) e.s.cap).len = cutTo n e.s.len := rfl
      rw [e2, e1] at fo4
      exact fo4, hrow.chg (ch3.trans ch4) (Ext.refl _ _) (fun g hg => hbl g (by rw [← hblk]; exact hg))⟩ (fun g hg => .inl (by rw [← hblk]; exact hg)) rfl
  rw [hen] at D3
  exact H w4 c1 _ D3 ((E1.one ch2 (fun _ => D1.dcol)).one (ch3.trans ch4) (fun _ => hfe.own.col))

theorem fdel_ent (L : List FE) (x : ByteArray) : without (L.map FE.ent) x = (L.filter fun e => !decide (e.name = x)).map FE.ent := by
  unfold without
  rw [List.filter_map]
  rfl
theorem fdel_pf (L : List FE) (x : ByteArray) : (L.filter fun e => !decide (e.name = x)).map FE.pf = rem (L.map FE.pf) x := by
  unfold rem
  rw [List.filter_map]
  rfl
theorem DDisk.del {w c k d m L A x} {ty : TypeId} {Q : World → Prop} (h : DDisk w c k d m L A) (H : ∀ w' L', DDisk w' c k d m L' { A with files := rem A.files x } → Chg (· = m) w w' → c m = k → Q w') :
    rn Tryd.prog id (Builtin.delete_ #[73, 9] ty [.map (some m), .string x].toArray) w fun _ w => Q w := by
  obtain ⟨a, u, od, h3, h4⟩ := h.own
  obtain ⟨es, cl, hM⟩ := h.files.map
  obtain ⟨es', hr, hM'⟩ := delete_map (P := Tryd.prog) Tryd.underlying73 Tryd.underlying9 hM x ty #[73, 9] rfl
  have hc := setObj_chg w m (.map es' cl)
  refine ⟨_, _, hr, H _ (L.filter fun e => !decide (e.name = x)) ⟨⟨a, u, od.chg' hc (fun x => od.neM hM.own x), h3, h4⟩, ⟨⟨es', cl, by rw [← fdel_ent]; exact hM'⟩, fun e he => ?_, h.files.apart.sublist List.filter_sublist⟩, ?_⟩ hc hM.own.col⟩
  · have hf := h.files.files e (List.mem_filter.1 he).1
    refine hf.chg hc (Ext.refl _ _) (fun x => hf.own.neM hM.own x) (fun g hg x => ?_)
    obtain ⟨cs, ho⟩ := hf.row.blk hg
    exact ho.neM hM.own x
  · rw [fdel_pf]
    exact h.perm.filter _

theorem remove_spec {w c k d m L A x} {Q : Int → World → Prop} (h : DDisk w c k d m L A) (hA : A.Ok) (H : ∀ w' c' L', DDisk w' c' k d m L' (A.remove x).2 → Eff (· = k) w c w' c' → Q (A.remove x).1 w') : drawer_Disk_Remove (some ⟨d, 0, none⟩) x Q w := by
  unfold drawer_Disk_Remove
  unfold PD.remove at H
  refine al_own (c := c) k fun b1 w1 c1 o1 ch1 ex1 hb1 => ?_
  refine al_own (c := c1) k fun b2 w2 c2 o2 ch2 ex2 hb2 => ?_
  have D1 := (h.new ch1 ex1).new ch2 ex2
  have o1 := o1.chg ch2 ex2 id
  have E1 : Eff (· = k) w c w2 c2 := ((Eff.refl _ _ _).new ch1 ex1).new ch2 ex2
  refine ld_own0 (x := some ⟨d, 0, none⟩) o1 rfl (ld_own0 (x := x) o2 rfl ?_)
  refine change_spec (g := fun l => rem l x) D1 hA (fun _ w' D ch => H w' c2 L D (E1.one ch (fun _ => D1.dcol))) fun w3 e A' he hen hA' hch D2 ch3 => ?_
  rw [hch] at H
  refine ⟨54, [.pointer (some ⟨b1, 0, none⟩), .pointer (some ⟨b2, 0, none⟩)], rfl, fun args w => by kernel_rfl, s_drawer_Disk_Remove_1 _ _ _ _ _ ?_⟩
  unfold drawer_Disk_Remove_1
  have o1 := D1.keep o1 (by decide) ch3
  have o2 := D1.keep o2 (by decide) ch3
  obtain ⟨_, _, od, _⟩ := id D2.own
  refine ld_own0 (x := some ⟨d, 0, none⟩) o1.drew rfl (nn_some (ld_own od.drew (x := some m) rfl (ld_own0 (x := x) o2.drew rfl ?_)))
  refine D2.drew.del fun w4 L' D4 ch4 hm => ?_
  exact H w4 c2 L' D4 ((E1.one ch3 (fun _ => D1.dcol)).one (undrew ch4) (fun _ => hm))
end Go.Proofs.YtjnifnlkicajhaaDoor.Dd
