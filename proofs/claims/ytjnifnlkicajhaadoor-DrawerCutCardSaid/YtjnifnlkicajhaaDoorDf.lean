/-
  The program's disk: Append. No condition is put on any statement here.
-/
import Derived.Test.YtjnifnlkicajhaaDoorDe
namespace Go.Proofs.YtjnifnlkicajhaaDoor.Dd
open Go Vc Hp Fs Da Pm
set_option maxRecDepth 4000

theorem DDisk.off {w c k d m L A w' b k' cs t} (h : DDisk w c k d m L A) (hc : Chg (· = b) w w') (ho : Own w c b k' (.cells cs t (0, 0))) (h0 : t ≠ 75) (h1 : t ≠ 78) (h2 : t ≠ 5) : DDisk w' c k d m L A := by
  obtain ⟨a, u, od, h3, h4⟩ := h.own
  exact ⟨⟨a, u, od.chg' hc (fun x => ho.neT od h0 x.symm), h3, h4⟩, h.files.off hc ho h1 h2, h.perm⟩
theorem undrew {M w w'} (h : Chg M w.drew w') : Chg M w w' := ⟨h.os, h.tape, h.output, h.size, h.same⟩
theorem Files.add {w c k m L e} {K : World → Prop} (h : Files w c k m L) (hf : FileAt w c k e) (hn : fget L e.name = none) (hap : ∀ y ∈ L, Apart y e) (hk : ∀ w', Files w' c k m (L ++ [e]) → Chg (· = m) w w' → w'.heap.size = w.heap.size → K w') :
    rn0 Tryd.prog (Instr.mapUpdate 73 (.map (some m)) (.string e.name) (.pointer (some ⟨e.fb, 0, none⟩))) w K := by
  obtain ⟨es, cl, hM⟩ := h.map
  have hg : kget (L.map FE.ent) e.name = none := by rw [kget_ent, hn]; rfl
  obtain ⟨es', hr, hM'⟩ := update_new (P := Tryd.prog) Tryd.underlying73 Tryd.underlying9 hM e.name (.pointer (some ⟨e.fb, 0, none⟩)) hg
  have hc := setObj_chg w m (.map es' (cl + 1))
  refine ⟨_, hr, hk _ ⟨⟨es', _, by rw [List.map_append]; exact hM'⟩, fun y hy => ?_, ?_⟩ hc (by simp [setObj'])⟩
  · have hy' : FileAt w c k y := by
      rcases List.mem_append.1 hy with hy | hy
      · exact h.files y hy
      · rw [List.mem_singleton.1 hy]; exact hf
    refine hy'.chg hc (Ext.refl _ _) (fun x => hy'.own.neM hM.own x) (fun g hg x => ?_)
    obtain ⟨cs, ho⟩ := hy'.row.blk hg
    exact ho.neM hM.own x
  · rw [List.pairwise_append]
    exact ⟨h.apart, List.pairwise_singleton _ _, fun a ha b hb => by rw [List.mem_singleton.1 hb]; exact hap a ha⟩
theorem DDisk.add {w c k d m L A e} {K : World → Prop} (h : DDisk w c k d m L A) (hf : FileAt w c k e) (hn : fget L e.name = none) (hap : ∀ y ∈ L, Apart y e)
    (hk : ∀ w', DDisk w' c k d m (L ++ [e]) { A with files := ins e.pf A.files } → FileAt w' c k e → Chg (· = m) w w' → w'.heap.size = w.heap.size → K w') :
    rn0 Tryd.prog (Instr.mapUpdate 73 (.map (some m)) (.string e.name) (.pointer (some ⟨e.fb, 0, none⟩))) w K := by
  obtain ⟨a, u, od, h3, h4⟩ := h.own
  obtain ⟨es, cl, hM⟩ := h.files.map
  refine h.files.add hf hn hap fun w' h1 h2 h5 => hk w' ⟨⟨a, u, od.chg' h2 (fun x => od.neM hM.own x), h3, h4⟩, h1, ?_⟩ (h1.files e (by simp)) h2 h5
  rw [List.map_append]
  exact (List.perm_append_comm.trans ((h.perm.cons _))).trans (ins_perm _ _).symm
theorem setf_ins {f : PF} {g : PF → PF} (hg : (g f).name = f.name) : ∀ {l : List PF}, f.name ∉ names l → setf (ins f l) f.name g = ins (g f) l
  | [], _ => by simp [setf, ins]
  | a :: l, hn => by
    unfold names at hn
    simp only [List.map_cons, List.mem_cons, not_or] at hn
    have ih := setf_ins hg hn.2
    have hl : ∀ l : List PF, f.name ∉ List.map (fun x => x.name) l → setf l f.name g = l := by
      intro l hl
      unfold setf
      refine (List.map_congr_left (g := id) fun x hx => ?_).trans (List.map_id _)
      rw [if_neg (fun e => hl (List.mem_map.2 ⟨x, hx, e⟩))]
      rfl
    unfold ins
    rw [hg]
    split
    · unfold setf at ih ⊢
      simp only [List.map_cons]
      rw [ih, if_neg (show ¬ a.name = f.name from fun e => hn.1 e.symm)]
    · have h2 := hl l hn.2
      unfold setf at h2 ⊢
      simp only [List.map_cons]
      rw [h2, if_pos trivial, if_neg (show ¬ a.name = f.name from fun e => hn.1 e.symm)]
theorem pay_left {A : PD} {cost : Int} (h : (A.pay cost).1 = false) : 0 ≤ (A.pay cost).2.1 ∧ (A.pay cost).2.1 < cost := by
  unfold PD.pay at *
  split at h
  · cases h
  · split at h
    · cases h
    · rename_i h1 h2
      rw [if_neg h1, if_neg h2]
      dsimp only
      omega

theorem k23_spec {w c k d m L A e b1 b2 j v fell} {x2 : Sl} {b : List UInt8} {n : Nat} {Q : Int → World → Prop} (h : DDisk w c k d m L A) (he : e ∈ L) (src : Src w c j 1 x2 (b.map u8)) (hcap : x2.len ≤ x2.cap)
    (o1 : Own w c b1 k (.cells #[.int .i64 v] 34 (0, 0))) (o2 : Own w c b2 k (.cells #[.bool fell] 4 (0, 0))) (hn : n ≤ b.length) (hb : b.length ≤ 2097152) (hd : e.data.length ≤ 2097152)
    (H : ∀ w' c' L', DDisk w' c' k d m L' { A with files := setf A.files e.name fun f => { f with data := f.data ++ b.take n } } → Eff (· = k) w c w' c' → Q (if fell = true then 190 else 0) w') :
    drawer_Disk_Append.k23 x2 ⟨b1, 0, none⟩ ⟨b2, 0, none⟩ (n : Int) (some ⟨e.fb, 0, none⟩) Q w := by
  have hfe := h.files.files e he
  have hl : x2.len = b.length := by have := src.1.1; simp at this; omega
  have hel : e.s.len = e.data.length := by have := hfe.row.1; simp at this; omega
  unfold drawer_Disk_Append.k23
  refine nn_some (ld_own hfe.own.drew rfl ⟨by omega, by omega, ?_⟩)
  rw [Int.toNat_natCast]
  have hx := (src.take (n := n) (by omega) x2.cap).1
  rw [Nat.mul_one, ← List.map_take] at hx
  refine append_bytes hfe.row.drew hx (by show e.s.len + n ≤ _; omega) fun s' w1 c1 hrow hchg hext hblk hlen => ?_
  have hchg : Chg (fun b => Sl.blk e.s = some b) w w1 := undrew hchg
  have hext : Ext w c c1 := hext
  have fbne : ¬ Sl.blk e.s = some e.fb := fun x => by
    obtain ⟨cs, ho⟩ := hfe.row.blk x
    exact ho.neT hfe.own (by decide) rfl
  have fo := hfe.own.chg hchg hext fbne
  refine ⟨⟨by rw [add_mk, fo.cell]; rfl, trivial⟩, nn_some (st_own fo (by simp) fun w2 fo2 hc2 hs2 => ?_)⟩
  have hM : Chg (fun b => b = e.fb ∨ Sl.blk e.s = some b) w w2 := (hchg.mono fun _ _ hh => .inr hh).trans (hc2.mono fun _ _ hh => .inl hh)
  have hnr : ∀ g, Sl.blk s' = some g → ¬ g = e.fb := fun g hg x => by
    obtain ⟨cs, ho⟩ := hrow.blk hg
    exact ho.neT fo (by decide) x
  have hD := h.upd (e' := { e with s := s', data := e.data ++ b.take n }) (g := fun f => { f with data := f.data ++ b.take n }) he hM hext rfl rfl ⟨fo2, hrow.chg hc2 (Ext.refl _ _) hnr⟩ hblk rfl
  have lo : ∀ {bb cs t}, Own w c bb k (.cells cs t (0, 0)) → t ≠ 78 → t ≠ 5 → Own w2 c1 bb k (.cells cs t (0, 0)) := fun {bb cs t} ho h1 h2 => ho.chg hM hext (fun hh => by
    rcases hh with hh | hh
    · exact ho.neT hfe.own h1 hh
    · obtain ⟨cs', ho'⟩ := hfe.row.blk hh
      exact ho.neT ho' h2 rfl)
  have o1' := lo o1 (by decide) (by decide)
  have o2' := lo o2 (by decide) (by decide)
  have hE : Eff (· = k) w c w2 c1 := Eff.of hM hext fun i _ hh => by
    rcases hh with rfl | hh
    · exact hfe.own.col
    · obtain ⟨cs', ho'⟩ := hfe.row.blk hh
      exact ho'.col
  have hb12 : b1 ≠ b2 := o1.neT o2 (by decide)
  refine st_own0 o1' (by simp) fun w3 o3 hc3 hs3 => ?_
  have hE3 := hE.one hc3 (fun _ => o1'.col)
  have hD3 := hD.off hc3 o1' (by decide) (by decide) (by decide)
  unfold drawer_Disk_Append_1
  refine ld_own0 (o2'.chg' hc3 hb12.symm) rfl ?_
  cases fell with
  | true =>
    simp only [if_true]
    refine st_own0 o3 (by simp) fun w4 o4 hc4 hs4 => ld_own0 (x := 190) o4 rfl ?_
    exact H w4 c1 _ (hD3.off hc4 o3 (by decide) (by decide) (by decide)) (hE3.one hc4 (fun _ => o3.col))
  | false =>
    simp only [Bool.false_eq_true, if_false]
    refine ld_own0 (x := 0) o3 rfl ?_
    exact H w3 c1 _ hD3 hE3

theorem append_spec {w c k d m L A x s j} {b : List UInt8} {Q : Int → World → Prop} (h : DDisk w c k d m L A) (hA : A.Ok) (src : Src w c j 1 s (b.map u8)) (hj : j ≠ k) (hcap : s.len ≤ s.cap) (hb : b.length ≤ 1099511627776)
    (H : ∀ w' c' L', DDisk w' c' k d m L' (A.append x b).2 → Eff (· = k) w c w' c' → Q (A.append x b).1 w') : drawer_Disk_Append (some ⟨d, 0, none⟩) x s Q w := by
  have hl : s.len = b.length := by have := src.1.1; simp at this; omega
  unfold drawer_Disk_Append
  refine al_own (c := c) k fun b1 w1 c1 o1 ch1 ex1 hb1 => ?_
  have D1 := h.new ch1 ex1
  have S1 := src.chg ch1 ex1 (fun _ _ => id)
  have E1 : Eff (· = k) w c w1 c1 := (Eff.refl _ _ _).new ch1 ex1
  have dcol : ∀ {w c L A}, DDisk w c k d m L A → c d = k := fun {w c L A} h => by obtain ⟨_, _, od, _⟩ := h.own; exact od.col
  have off_d : ∀ {w c L A b cs t w'}, DDisk w c k d m L A → Own w c b k (.cells cs t (0, 0)) → t ≠ 75 → Chg (· = d) w w' → Own w' c b k (.cells cs t (0, 0)) := fun {w c L A b cs t w'} h ho ht hc => by
    obtain ⟨_, _, od, _⟩ := h.own
    exact ho.chg' hc (ho.neT od ht)
  refine ahead_spec D1 hA fun w2 D2 ch2 hs2 => ?_
  have o2 := off_d D1 o1 (by decide) ch2
  have E2 := E1.one ch2 (fun _ => dcol D1)
  have S2 := S1.chg ch2 (Ext.refl _ _) (fun b hb hd => by rw [hd, dcol D1] at hb; exact hj hb.symm)
  have A2 := hA.first x
  have hff := A.first_files x
  unfold PD.append at H
  by_cases hne : (A.first x).1 ≠ 0
  · rw [if_pos hne] at H
    rw [if_pos (by simpa using hne)]
    refine st_own0 o2 (by simp) fun w3 o3 ch3 hs3 => ld_own0 (x := (A.first x).1) o3 rfl ?_
    exact H w3 c1 _ (D2.off ch3 o2 (by decide) (by decide) (by decide)) (E2.one ch3 (fun _ => o2.col))
  rw [if_neg hne] at H
  rw [if_neg (by simpa using hne)]
  generalize (A.first x).2 = A1 at *
  dsimp only at H
  obtain ⟨_, _, od2, _⟩ := id D2.own
  refine nn_some (ld_own od2 (x := some m) rfl (look D2.files ?_))
  have hget := D2.get A2 x
  have hlen : A1.files.length = L.length := by rw [← D2.perm.length_eq, List.length_map]
  rw [hget] at H
  -- full, or not
  have keyT : (∀ w' c' L', DDisk w' c' k d m L' A1 → Eff (· = k) w c w' c' → Q 194 w') → ∀ f, drawer_Disk_Append.k12 (some ⟨d, 0, none⟩) x s ⟨b1, 0, none⟩ f true Q w2 := by
    intro H f
    unfold drawer_Disk_Append.k12
    rw [if_pos rfl]
    refine st_own0 o2 (by simp) fun w3 o3 ch3 hs3 => ld_own0 (x := 194) o3 rfl ?_
    exact H w3 c1 _ (D2.off ch3 o2 (by decide) (by decide) (by decide)) (E2.one ch3 (fun _ => o2.col))
  have keyF : b.length ≤ 2097152 → (∀ w' c' b2 n (fell : Bool), n ≤ b.length → b.take n = (if (A1.pay (b.length + 1)).1 = true then b else b.take (A1.pay (b.length + 1)).2.1.toNat) → fell = (!(A1.pay (b.length + 1)).1) → DDisk w' c' k d m L (A1.pay (b.length + 1)).2.2 → Src w' c' j 1 s (b.map u8) →
      Own w' c' b1 k (.cells #[.int .i64 0] 34 (0, 0)) → Own w' c' b2 k (.cells #[.bool fell] 4 (0, 0)) → Eff (· = k) w c w' c' → drawer_Disk_Append.k22 (some ⟨d, 0, none⟩) x s ⟨b1, 0, none⟩ ((fget L x).map fun e => ⟨e.fb, 0, none⟩) ⟨b2, 0, none⟩ (n : Int) Q w') →
      drawer_Disk_Append.k12 (some ⟨d, 0, none⟩) x s ⟨b1, 0, none⟩ ((fget L x).map fun e => ⟨e.fb, 0, none⟩) false Q w2 := by
    intro hb2 K
    unfold drawer_Disk_Append.k12
    rw [if_neg Bool.false_ne_true, hl, Da.wrap_small (i := (b.length : Int) + 1) (by omega) (by omega)]
    refine paid_spec D2 A2 (by omega) fun w3 D3 ch3 hs3 => ?_
    have hleft := pay_left (A := A1) (cost := (b.length : Int) + 1)
    generalize A1.pay ((b.length : Int) + 1) = p at *
    have o3 := off_d D2 o2 (by decide) ch3
    have E3 := E2.one ch3 (fun _ => dcol D2)
    have S3 := S2.chg ch3 (Ext.refl _ _) (fun b hb hd => by rw [hd, dcol D2] at hb; exact hj hb.symm)
    refine al_own (c := c1) k fun b2 w4 c4 p4 ch4 ex4 hb4 => ?_
    refine st_own0 p4 (by simp) fun w5 p5 ch5 hs5 => ?_
    have hb12 : b1 ≠ b2 := by have := o3.lt; omega
    have o5 := (o3.chg ch4 ex4 id).chg' ch5 hb12
    have D5 := (D3.new ch4 ex4).off ch5 p4 (by decide) (by decide) (by decide)
    have E5 := (E3.new ch4 ex4).one ch5 (fun _ => p4.col)
    have S5 := (S3.chg ch4 ex4 (fun _ _ => id)).chg ch5 (Ext.refl _ _) (fun b hb hd => by rw [hd, p4.col] at hb; exact hj hb.symm)
    refine ld_own0 (x := !p.1) p5 rfl ?_
    cases hp : p.1 with
    | true =>
      rw [hp] at p5
      rw [if_neg (by simp)]
      refine K w5 c4 b2 b.length false (Nat.le_refl _) (by rw [hp]; simp) (by rw [hp]; rfl) D5 S5 o5 p5 E5
    | false =>
      have hleft := hleft hp
      rw [hp] at p5
      rw [if_pos (by simp)]
      have := K w5 c4 b2 p.2.1.toNat true (by omega) (by rw [hp]; simp) (by rw [hp]; rfl) D5 S5 o5 p5 E5
      rw [Int.toNat_of_nonneg hleft.1] at this
      exact this
  cases hf : fget L x with
  | none =>
    rw [hf] at H keyF
    dsimp only [Option.map_none] at H keyF ⊢
    rw [if_pos (show Option.isNone (none : Option Addr) = true from rfl)]
    refine nn_some (ld_own od2 (x := some m) rfl (count D2.files ?_))
    have goF : ¬ (40 ≤ A1.files.length ∨ 2097152 < b.length) → drawer_Disk_Append.k12 (some ⟨d, 0, none⟩) x s ⟨b1, 0, none⟩ none false Q w2 := by
      intro hno
      rw [if_neg hno] at H
      refine keyF (by omega) fun w' c' b2 n fell hn hbn hfell D S o p E => ?_
      rw [← hbn] at H
      unfold drawer_Disk_Append.k22
      rw [if_pos (show Option.isNone (none : Option Addr) = true from rfl)]
      refine al_own (c := c') k fun fb w3 c3 q3 ch3 ex3 hb3 => ?_
      have D3 := D.new ch3 ex3
      obtain ⟨_, _, od3, _⟩ := id D3.own
      refine nn_some (ld_own od3 (x := some m) rfl ?_)
      refine D3.add (e := ⟨x, fb, ⟨none, 0, 0⟩, [], 0⟩) ⟨q3, Row.nil _ _ _ _ _⟩ hf (fun y hy => ⟨?_, fun g _ hh => by cases (show (none : Option Nat) = some g from hh)⟩) fun w4 D4 f4 ch4 hs4 => ?_
      · have := (D.files.files y hy).own.lt
        show y.fb ≠ fb
        omega
      obtain ⟨es, cl, hM⟩ := D3.files.map
      have mcol : c3 m = k := hM.own.col
      have o3 := (o.chg ch3 ex3 id)
      have p3 := (p.chg ch3 ex3 id)
      have S4 := (S.chg ch3 ex3 (fun _ _ => id)).chg ch4 (Ext.refl _ _) (fun b hb hd => by rw [hd, mcol] at hb; exact hj hb.symm)
      refine k23_spec (e := ⟨x, fb, ⟨none, 0, 0⟩, [], 0⟩) D4 (by simp) S4 hcap (o3.chg' ch4 (o3.neM hM.own)) (p3.chg' ch4 (p3.neM hM.own)) hn (by omega) (Nat.zero_le _) fun w5 c5 L5 D5 E5 => ?_
      have hnx : x ∉ names A1.files := by rw [← get_none, hget, hf]; rfl
      have hfe : (if fell = true then (190 : Int) else 0) = if (A1.pay (b.length + 1)).1 = true then 0 else 190 := by
        rw [hfell]; cases (A1.pay (b.length + 1)).1 <;> rfl
      rw [hfe]
      refine H w5 c5 L5 ?_ (((E.new ch3 ex3).one ch4 (fun _ => mcol)).trans E5)
      rw [PD.pay_files] at D5 ⊢
      have := setf_ins (f := ⟨x, [], 0⟩) (g := fun f => { f with data := f.data ++ b.take n }) rfl hnx
      dsimp only [FE.pf] at D5
      rw [this] at D5
      exact D5
    by_cases h40 : 40 ≤ L.length
    · rw [if_pos (by rw [decide_eq_true_eq]; omega)]
      rw [if_pos (Or.inl (by omega))] at H
      exact keyT H _
    · rw [if_neg (by rw [decide_eq_true_eq]; omega)]
      by_cases hbig : 2097152 < b.length
      · rw [if_pos (Or.inr hbig)] at H
        have : decide (((s.len : Nat) : Int) > 2097152) = true := by rw [decide_eq_true_eq]; omega
        rw [this]
        exact keyT H _
      · have : decide (((s.len : Nat) : Int) > 2097152) = false := by rw [decide_eq_false_iff_not]; omega
        rw [this]
        exact goF (by omega)
  | some e =>
    rw [hf] at H keyF
    dsimp only [Option.map_some] at H keyF ⊢
    rw [if_neg (by simp)]
    obtain ⟨he, hen⟩ := fget_some hf
    have hfe := D2.files.files e he
    have hel : e.s.len = e.data.length := by have := hfe.row.1; simp at this; omega
    have hdl : e.data.length ≤ 2097152 := (A2.data _ (D2.perm.mem_iff.1 (List.mem_map.2 ⟨e, he, rfl⟩))).1
    refine nn_some (ld_own hfe.own rfl ?_)
    rw [hel, Da.wrap_small (i := (e.data.length : Int) + ((s.len : Nat) : Int)) (by omega) (by omega)]
    by_cases hbig : 2097152 < e.data.length + b.length
    · rw [if_pos (by exact hbig)] at H
      rw [if_pos (by rw [decide_eq_true_eq]; omega)]
      exact keyT H _
    · rw [if_neg (by exact hbig)] at H
      rw [if_neg (by rw [decide_eq_true_eq]; omega)]
      have : decide (((s.len : Nat) : Int) > 2097152) = false := by rw [decide_eq_false_iff_not]; omega
      rw [this]
      refine keyF (by omega) fun w' c' b2 n fell hn hbn hfell D S o p E => ?_
      rw [← hbn] at H
      unfold drawer_Disk_Append.k22
      rw [if_neg (by simp)]
      refine k23_spec D he S hcap o p hn (by omega) hdl fun w5 c5 L5 D5 E5 => ?_
      have hfe : (if fell = true then (190 : Int) else 0) = if (A1.pay (b.length + 1)).1 = true then 0 else 190 := by
        rw [hfell]; cases (A1.pay (b.length + 1)).1 <;> rfl
      rw [hfe]
      rw [hen] at D5
      exact H w5 c5 L5 D5 (E.trans E5)
end Go.Proofs.YtjnifnlkicajhaaDoor.Dd
