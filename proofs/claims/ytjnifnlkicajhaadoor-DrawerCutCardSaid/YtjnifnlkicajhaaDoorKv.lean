/-
  The law DrawerCut: its walk. No condition is put on any statement here.
-/
import Derived.Test.YtjnifnlkicajhaaDoorKu
namespace Go.Proofs.YtjnifnlkicajhaaDoor.Kw
open Go Vc Hp Fs Da Pm Dd Jn Kp
set_option maxRecDepth 4000

theorem byte_set {w : World} {c : Col} {kk k : Nat} {s : Sl} {D : List UInt8} {c' : UInt8} {K : World → Prop} (hr : Row w c kk 5 1 s (D.map u8)) (hk : k < D.length)
    (hK : ∀ w', Row w' c kk 5 1 s ((D.set k c').map u8) → Chg (fun b => Sl.blk s = some b) w w' → K w') : ix s.p s.len (k : Int) 1 fun a => Vc.st w a (.int .u8 (c'.toNat : Int)) K := by
  obtain ⟨h1, h2, h3, h4⟩ := hr
  rw [List.length_map, Nat.mul_one] at h1
  rcases h4 with ⟨_, h0, _⟩ | ⟨g, cs, hp, ho, hcs, ht⟩
  · omega
  · refine ⟨_, hp, by omega, by omega, ?_⟩
    rw [Int.toNat_natCast, Nat.mul_one]
    refine st_own ho (by omega) fun w' o' ch' _ => hK w' ⟨by simp [h1], h2, h3, .inr ⟨g, _, hp, o', by simp [hcs], ?_⟩⟩ (ch'.mono fun b _ hb => by rw [hb]; unfold Sl.blk; rw [hp]; rfl)
    rw [Array.toList_setIfInBounds, List.take_set, ht, List.map_set]
theorem ixa {w : World} {s : Sl} {vs : List Value} {i : Nat} {v : Value} {K : Addr → Prop} (h : Reads w 1 s vs) (hv : vs[i]? = some v) (hk : ∀ a, w.cell? a = some v → K a) : ix s.p s.len (i : Int) 1 K := by
  obtain ⟨h1, h2⟩ := h
  rw [Nat.mul_one] at h1
  obtain ⟨hi, _⟩ := List.getElem?_eq_some_iff.1 hv
  rcases h2 with ⟨_, h0⟩ | ⟨a, hp, hc⟩
  · omega
  · refine ⟨a, hp, by omega, by omega, ?_⟩
    rw [Int.toNat_natCast, Nat.mul_one]
    exact hk _ (hc _ _ hv)
theorem fix0 {w : World} {c : Col} {k : Nat} {s q : Sl} {f : AF} {K : Addr → Prop} (F : FRow w c k s [(f, q)]) (hk : ∀ a, w.cell? (a.add 0) = some (.string f.name) → w.cell? (a.add 1) = some q.val → w.cell? (a.add 2) = some (.int .i64 f.sure) → K a) : ix s.p s.len 0 3 K := by
  obtain ⟨h1, h2⟩ := F.row.reads
  rw [fcells_len] at h1
  simp only [List.length_singleton] at h1
  rcases h2 with ⟨_, h0⟩ | ⟨a, hp, hc⟩
  · omega
  · refine ⟨a, hp, by omega, by omega, hk _ ?_ ?_ ?_⟩
    · rw [Addr.add_add]; exact hc _ _ rfl
    · rw [Addr.add_add]; exact hc _ _ rfl
    · rw [Addr.add_add]; exact hc _ _ rfl
theorem place_spec {a : Int} {Q : Int → World → Prop} {w : World} (ha : -maxI - 1 ≤ a ∧ a ≤ maxI) (H : ∀ z : Nat, z < 255 → Q (z : Int) w) : levylaw19_place a 255 Q w := by
  have key : ∀ b : Int, 0 ≤ b → levylaw19_place.k1 255 b Q w := fun b hb => by
    unfold levylaw19_place.k1
    refine ⟨by decide, ?_⟩
    rw [Int.tmod_eq_emod_of_nonneg hb]
    have := H (b % 255).toNat (by omega)
    rwa [show (((b % 255).toNat : Nat) : Int) = b % 255 by omega] at this
  unfold maxI at ha
  unfold levylaw19_place
  by_cases h : a < 0
  · rw [if_pos (by rw [decide_eq_true_eq]; exact h), Da.wrap_small (i := a + 1) (by omega) (by omega), Da.wrap_small (i := 0 - (a + 1)) (by omega) (by omega)]
    exact key _ (by omega)
  · rw [if_neg (by rw [decide_eq_true_eq]; exact h)]
    exact key _ (by omega)
theorem wrap8 (x : Int) : IntKind.u8.wrap x = x % 256 := by
  simp [IntKind.wrap, IntKind.signed, IntKind.bits]

section
variable {w : World} {c : Col} {wb d m sum k n : Nat} {L : List FE} {R : List Rec} {p : Option Addr} {ss rs ls fs es sF q : Sl} {rl ll : List (Rec × Sl)} {fl : List (List UInt8 × Sl)} {x3 : Int}
theorem big_of (hR : few R) : fits R ∧ R.length ≤ 16777216 ∧ sizeR R ≤ 3816 := by
  have h1 := few_size hR.2
  have h2 := hR.1
  exact ⟨fun r hr => by have := hR.2 r hr; omega, by omega, by omega⟩

theorem cut_k29 {b : Bool} {y12 : Int} {Q : Bool → World → Prop} (h : Rp w c wb d m L (stC sum R) p ss rs ls fs rl ll fl) (hs : sum < 4294967296) (hR : few R) (hx3 : -maxI - 1 ≤ x3 ∧ x3 ≤ maxI) (F : FRow w c 11 sF [(⟨nameP 1, enc sum [] R, ((enc sum [] R).length : Int)⟩, q)])
    (hk : Int.tmod y12 ((18 + sizeR R : Nat) : Int) = (k : Int)) (C : CutAt R k n) (hb : b = false → ¬ (startOf R k n + 9 ≤ k ∧ k < startOf R k n + 13)) (H : ∀ w' c', Eff (fun q => q ≠ 0) w c w' c' → Q true w') :
    levylaw19_DrawerCut.k29 x3 (some ⟨wb, 0, none⟩) ((18 + sizeR R : Nat) : Int) sF y12 (n : Int) b Q w := by
  unfold levylaw19_DrawerCut.k29
  cases b with
  | true => rw [if_pos rfl]; exact H w c (Eff.refl _ _ _)
  | false =>
    rw [if_neg (by exact Bool.false_ne_true)]
    obtain ⟨hfit, hc16, hsz⟩ := big_of hR
    have hD := enc_len sum [] R
    simp only [List.length_nil, Nat.zero_add] at hD
    have hklt : k < (enc sum [] R).length := by have := C.lt; omega
    refine fix0 F fun a a0 a1 a2 => ⟨_, a1, ?_⟩
    have hq := F.data _ (List.mem_singleton.2 rfl)
    dsimp only at hq
    refine copy_new (c := c) 8 hq.reads (by omega) fun w1 c1 s1 hr1 S1 => ?_
    rw [hk]
    have hget : ((enc sum [] R).map u8)[k]? = some (.int .u8 (((enc sum [] R)[k]'hklt).toNat : Int)) := by
      rw [List.getElem?_map, List.getElem?_eq_getElem hklt]
      rfl
    generalize hbyte : (enc sum [] R)[k]'hklt = x at *
    have hxl := x.toNat_lt
    have hr1d : Row w1.drew c1 8 5 1 s1 ((enc sum [] R).map u8) := hr1.drew
    refine ixa (w := w1.drew) (i := k) hr1d.reads hget fun a ha => ⟨_, ha, place_spec hx3 fun z hz => ⟨⟨ha, trivial⟩, ?_⟩⟩
    rw [Da.wrap_small (i := 1 + (z : Int)) (by omega) (by omega), kindOf_wrap ((x.toNat : Int) + _)]
    have hy : ((kindOf ((x.toNat : Int) + IntKind.u8.wrap (1 + (z : Int)))).toNat : Int) = ((x.toNat : Int) + (1 + (z : Int)) % 256) % 256 := by rw [← kindOf_wrap, wrap8, wrap8]
    generalize kindOf ((x.toNat : Int) + IntKind.u8.wrap (1 + (z : Int))) = y at *
    have hyx : y ≠ x := fun e => by rw [e] at hy; omega
    refine byte_set (k := k) (c' := y) hr1d hklt fun w2 hr2 ch2 => ?_
    have S1' : Sofar w c w1.drew c1 := S1.drew
    have E2 : Eff (· = 8) w1.drew c1 w2 c1 := Eff.of ch2 (Ext.refl _ _) fun g0 _ hg0 => by
      obtain ⟨cs', ho'⟩ := hr1d.blk hg0
      exact ho'.col
    have h2 := (h.far S1').eff E2 (by intro k hk; omega)
    have F2 := (F.new S1'.ch S1'.ex).eff E2 (by decide)
    refine fix0 F2 fun a' b0 b1 b2 => ⟨_, b0, ?_⟩
    refine stands_spec h2 (Row.src hr2) (by rw [List.length_set]; omega) C.le rfl (R' := if decide ((k : Int) < 18) = true then [] else R.take n) ?_ fun w3 c3 h3 E3 => H w3 c3 ((S1'.eff.trans (E2.mono fun q hq => by omega)).trans (E3.mono fun q hq => by omega))
    have he : (if decide ((k : Int) < 18) = true then ([] : List Rec) else R.take n) = if k < 18 then [] else R.take n := by
      by_cases h18 : k < 18
      · rw [if_pos h18, if_pos (by rw [decide_eq_true_eq]; omega)]
      · rw [if_neg h18, if_neg (by rw [decide_eq_true_eq]; omega)]
    rw [he]
    refine stands_turned hs hfit hc16 C (hb rfl) fun e => hyx ?_
    have e : (enc sum [] R)[k]? = some y := e
    rw [List.getElem?_eq_getElem hklt, hbyte] at e
    exact (Option.some.inj e).symm

theorem cut_k28 {y12 : Int} {Q : Bool → World → Prop} (h : Rp w c wb d m L (stC sum R) p ss rs ls fs rl ll fl) (hs : sum < 4294967296) (hR : few R) (hx3 : -maxI - 1 ≤ x3 ∧ x3 ≤ maxI) (F : FRow w c 11 sF [(⟨nameP 1, enc sum [] R, ((enc sum [] R).length : Int)⟩, q)])
    (hk : Int.tmod y12 ((18 + sizeR R : Nat) : Int) = (k : Int)) (C : CutAt R k n) (H : ∀ w' c', Eff (fun q => q ≠ 0) w c w' c' → Q true w') :
    levylaw19_DrawerCut.k28 x3 (some ⟨wb, 0, none⟩) ((18 + sizeR R : Nat) : Int) sF y12 (n : Int) (startOf R k n : Int) Q w := by
  obtain ⟨_, _, hsz⟩ := big_of hR
  have hst : startOf R k n ≤ 3834 := by
    have := take_size_le R n
    unfold startOf
    split <;> omega
  have hlt := C.lt
  unfold levylaw19_DrawerCut.k28
  rw [hk, Da.wrap_small (i := (k : Int) - (startOf R k n : Int)) (by omega) (by omega)]
  by_cases h9 : (k : Int) - (startOf R k n : Int) ≥ 9
  · rw [if_pos (by rw [decide_eq_true_eq]; exact h9)]
    exact cut_k29 h hs hR hx3 F hk C (fun hb => by have := of_decide_eq_false hb; omega) H
  · rw [if_neg (by rw [decide_eq_true_eq]; exact h9)]
    exact cut_k29 h hs hR hx3 F hk C (fun hb => by omega) H
theorem cut_k27 {y12 y27 : Int} {Q : Bool → World → Prop} (h : Rp w c wb d m L (stC sum R) p ss rs ls fs rl ll fl) (hs : sum < 4294967296) (hR : few R) (hx3 : -maxI - 1 ≤ x3 ∧ x3 ≤ maxI) (F : FRow w c 11 sF [(⟨nameP 1, enc sum [] R, ((enc sum [] R).length : Int)⟩, q)])
    (hes : Row w c 12 3 1 es ((endsOf R).map (Value.int .i64))) (hk : Int.tmod y12 ((18 + sizeR R : Nat) : Int) = (k : Int)) (C : CutAt R k n) (hy : y27 = if k < 18 then 0 else 18) (H : ∀ w' c', Eff (fun q => q ≠ 0) w c w' c' → Q true w') :
    levylaw19_DrawerCut.k27 x3 (some ⟨wb, 0, none⟩) es ((18 + sizeR R : Nat) : Int) sF y12 (n : Int) y27 Q w := by
  have hr12 := hR.1
  have hle := C.le
  have fin := cut_k28 h hs hR hx3 F hk C H
  unfold levylaw19_DrawerCut.k27
  by_cases hn : 0 < n
  · rw [if_pos (by rw [decide_eq_true_eq]; omega), Da.wrap_small (i := (n : Int) - 1) (by omega) (by omega), show (n : Int) - 1 = ((n - 1 : Nat) : Int) by omega]
    have hlo := C.lo 0 hn
    have he : startOf R k n = 18 + sizeR (R.take (n - 1 + 1)) := by
      unfold startOf
      rw [if_neg (by omega), show n - 1 + 1 = n by omega]
    refine Jn.ix_ld (f := Value.int .i64) (x := ((18 + sizeR (R.take (n - 1 + 1)) : Nat) : Int)) hes.reads (by rw [List.getElem?_map, endsOf_at (by omega)]; rfl) ?_
    rw [← he]
    exact fin
  · rw [if_neg (by rw [decide_eq_true_eq]; omega)]
    have he : y27 = (startOf R k n : Int) := by
      rw [hy]
      unfold startOf
      obtain rfl : n = 0 := by omega
      split
      · rfl
      · simp [sizeR]
    rw [he]
    exact fin
theorem cut_k14 {y12 : Int} {Q : Bool → World → Prop} (h : Rp w c wb d m L (stC sum R) p ss rs ls fs rl ll fl) (hs : sum < 4294967296) (hR : few R) (hx3 : -maxI - 1 ≤ x3 ∧ x3 ≤ maxI) (F : FRow w c 11 sF [(⟨nameP 1, enc sum [] R, ((enc sum [] R).length : Int)⟩, q)])
    (hes : Row w c 12 3 1 es ((endsOf R).map (Value.int .i64))) (hk : Int.tmod y12 ((18 + sizeR R : Nat) : Int) = (k : Int)) (C : CutAt R k n) (H : ∀ w' c', Eff (fun q => q ≠ 0) w c w' c' → Q true w') :
    levylaw19_DrawerCut.k14 x3 (some ⟨wb, 0, none⟩) es ((18 + sizeR R : Nat) : Int) sF y12 (n : Int) Q w := by
  obtain ⟨hfit, hc16, hsz⟩ := big_of hR
  have hD := enc_len sum [] R
  simp only [List.length_nil, Nat.zero_add] at hD
  have hlt := C.lt
  have hq := F.data _ (List.mem_singleton.2 rfl)
  dsimp only at hq
  have hql : q.len = (enc sum [] R).length := by have := hq.1; simp at this; omega
  have hqc := hq.2.1
  unfold levylaw19_DrawerCut.k14
  refine fix0 F fun a a0 a1 a2 => ⟨_, a1, ?_⟩
  rw [hk]
  refine ⟨by omega, by omega, ?_⟩
  rw [Int.toNat_natCast]
  have htk := (Row.src hq).take (n := k) (by omega) q.cap
  rw [Nat.mul_one, ← List.map_take] at htk
  refine copy_new (c := c) 8 htk.1 (by rw [List.length_take]; omega) fun w1 c1 s1 hr1 S1 => ?_
  have h1 := h.far S1
  have F1 := F.new S1.ch S1.ex
  refine fix0 F1 fun a' b0 b1 b2 => ⟨_, b0, ?_⟩
  have he : (if decide ((k : Int) < 18) = true then ([] : List Rec) else R.take n) = if k < 18 then [] else R.take n := by
    by_cases h18 : k < 18
    · rw [if_pos h18, if_pos (by rw [decide_eq_true_eq]; omega)]
    · rw [if_neg h18, if_neg (by rw [decide_eq_true_eq]; omega)]
  refine stands_spec h1 (Row.src hr1) (by rw [List.length_take]; omega) C.le rfl (R' := if decide ((k : Int) < 18) = true then [] else R.take n) (by rw [he]; exact stands_cut hs hfit hc16 C) fun w2 c2 h2 E2 => ?_
  have E02 : Eff (fun q => q ≠ 0) w c w2 c2 := S1.eff.trans (E2.mono fun q hq => by omega)
  have F2 := F1.eff E2 (by decide)
  have hes2 := (hes.chg S1.ch S1.ex (fun _ _ => id)).eff E2 (by decide)
  rw [if_pos rfl]
  by_cases h18 : k < 18
  · rw [if_neg (by rw [decide_eq_true_eq]; omega)]
    exact cut_k27 h2 hs hR hx3 F2 hes2 hk C (by rw [if_pos h18]) fun w' c' E' => H w' c' (E02.trans E')
  · rw [if_pos (by rw [decide_eq_true_eq]; omega)]
    exact cut_k27 h2 hs hR hx3 F2 hes2 hk C (by rw [if_neg h18]) fun w' c' E' => H w' c' (E02.trans E')
theorem cut_k12 {y12 : Int} {Q : Bool → World → Prop} (h : Rp w c wb d m L (stC sum R) p ss rs ls fs rl ll fl) (hs : sum < 4294967296) (hR : few R) (hx3 : -maxI - 1 ≤ x3 ∧ x3 ≤ maxI) (F : FRow w c 11 sF [(⟨nameP 1, enc sum [] R, ((enc sum [] R).length : Int)⟩, q)])
    (hes : Row w c 12 3 1 es ((endsOf R).map (Value.int .i64))) (hy : 0 ≤ y12) (H : ∀ w' c', Eff (fun q => q ≠ 0) w c w' c' → Q true w') :
    levylaw19_DrawerCut.k12 x3 (some ⟨wb, 0, none⟩) es ((18 + sizeR R : Nat) : Int) sF y12 Q w := by
  have hr12 := hR.1
  have hesl : es.len = R.length := by have := hes.1; simp [endsOf_len] at this; omega
  obtain ⟨k, hk, hlt⟩ : ∃ k : Nat, Int.tmod y12 ((18 + sizeR R : Nat) : Int) = (k : Int) ∧ k < 18 + sizeR R := by
    refine ⟨(y12 % ((18 + sizeR R : Nat) : Int)).toNat, ?_, ?_⟩
    · rw [Int.tmod_eq_emod_of_nonneg hy]
      have := Int.emod_nonneg y12 (show ((18 + sizeR R : Nat) : Int) ≠ 0 by omega)
      omega
    · have := Int.emod_lt_of_pos y12 (show (0 : Int) < ((18 + sizeR R : Nat) : Int) by omega)
      omega
  unfold levylaw19_DrawerCut.k12
  refine ⟨by omega, ?_⟩
  refine Fix.intro (fun (z : Int) v => v = w ∧ ∃ n : Nat, z = n ∧ n ≤ R.length ∧ ∀ j, j < n → 18 + sizeR (R.take (j + 1)) ≤ k) (fun z _ => R.length - z.toNat) ?_ ⟨rfl, 0, rfl, Nat.zero_le _, fun j hj => absurd hj (Nat.not_lt_zero j)⟩
  rintro z v K ⟨rfl, n, rfl, hn, hlo⟩ hK
  unfold levylaw19_DrawerCut.l66
  by_cases hnl : n < R.length
  · rw [if_pos (by rw [decide_eq_true_eq]; omega)]
    refine Jn.ix_ld (f := Value.int .i64) (x := ((18 + sizeR (R.take (n + 1)) : Nat) : Int)) hes.reads (by rw [List.getElem?_map, endsOf_at hnl]; rfl) ?_
    rw [hk]
    unfold levylaw19_DrawerCut.k67
    by_cases hle : 18 + sizeR (R.take (n + 1)) ≤ k
    · rw [if_pos (by rw [decide_eq_true_eq]; omega), Da.wrap_small (i := (n : Int) + 1) (by omega) (by omega)]
      refine hK _ _ ⟨rfl, n + 1, by omega, hnl, fun j hj => ?_⟩ (by omega)
      rcases Nat.lt_or_ge j n with h1 | h1
      · exact hlo j h1
      · obtain rfl : j = n := by omega
        exact hle
    · rw [if_neg (by rw [decide_eq_true_eq]; omega)]
      exact cut_k14 h hs hR hx3 F hes hk ⟨hlt, hn, hlo, fun _ => by omega⟩ H
  · rw [if_neg (by rw [decide_eq_true_eq]; omega)]
    unfold levylaw19_DrawerCut.k67
    rw [if_neg (by exact Bool.false_ne_true)]
    exact cut_k14 h hs hR hx3 F hes hk ⟨hlt, hn, hlo, fun h' => absurd h' hnl⟩ H
theorem cut_k6 {x2 : Int} {Q : Bool → World → Prop} (h : Rp w c wb d m L (stC sum R) p ss rs ls fs rl ll fl) (hs : sum < 4294967296) (hR : few R) (hx2 : -maxI - 1 ≤ x2 ∧ x2 ≤ maxI) (hx3 : -maxI - 1 ≤ x3 ∧ x3 ≤ maxI)
    (hes : Row w c 12 3 1 es ((endsOf R).map (Value.int .i64))) (H : ∀ w' c', Eff (fun q => q ≠ 0) w c w' c' → Q true w') :
    levylaw19_DrawerCut.k6 x2 x3 (some ⟨wb, 0, none⟩) es ((18 + sizeR R : Nat) : Int) Q w := by
  have hD := enc_len sum [] R
  simp only [List.length_nil, Nat.zero_add] at hD
  unfold levylaw19_DrawerCut.k6
  refine nn_some (ld_own h.own (x := some ⟨d, 0, none⟩) rfl ?_)
  refine files_spec 11 h.disk h.ok fun w1 c1 s1 fl1 F1 hf1 ch1 ex1 => ?_
  have S1 : Sofar w c w1 c1 := ⟨ch1, ex1⟩
  have h1 := h.far S1
  have hes1 := hes.chg S1.ch S1.ex (fun _ _ => id)
  have hf1 : fl1.map (·.1) = [(⟨nameP 1, enc sum [] R, ((enc sum [] R).length : Int)⟩ : AF)] := hf1
  obtain ⟨⟨f, q⟩, rfl⟩ : ∃ x, fl1 = [x] := List.length_eq_one_iff.1 (by have := congrArg List.length hf1; simpa using this)
  obtain rfl : f = ⟨nameP 1, enc sum [] R, ((enc sum [] R).length : Int)⟩ := by simpa using hf1
  have hs1l : s1.len = 1 := by have := F1.row.1; rw [fcells_len] at this; simp at this; omega
  have hq := F1.data _ (List.mem_singleton.2 rfl)
  dsimp only at hq
  have hql : q.len = (enc sum [] R).length := by have := hq.1; simp at this; omega
  rw [if_neg (by rw [hs1l]; decide)]
  refine fix0 F1 fun a a0 a1 a2 => ⟨_, a1, ?_⟩
  dsimp only
  rw [hql, hD, show ((((18 + sizeR R : Nat)) : Int) != ((18 + sizeR R : Nat) : Int)) = false from bne_self_eq_false _, if_neg (by exact Bool.false_ne_true)]
  refine fix0 F1 fun a' b0 b1 b2 => ⟨_, b2, ?_⟩
  dsimp only
  rw [hD, show ((((18 + sizeR R : Nat)) : Int) != ((18 + sizeR R : Nat) : Int)) = false from bne_self_eq_false _]
  unfold levylaw19_DrawerCut.k10
  rw [if_neg (by exact Bool.false_ne_true)]
  unfold maxI at hx2
  by_cases h2 : x2 < 0
  · rw [if_pos (by rw [decide_eq_true_eq]; exact h2), Da.wrap_small (i := x2 + 1) (by omega) (by omega), Da.wrap_small (i := 0 - (x2 + 1)) (by omega) (by omega)]
    exact cut_k12 h1 hs hR hx3 F1 hes1 (by omega) fun w' c' E' => H w' c' (S1.eff.trans E')
  · rw [if_neg (by rw [decide_eq_true_eq]; exact h2)]
    exact cut_k12 h1 hs hR hx3 F1 hes1 (by omega) fun w' c' E' => H w' c' (S1.eff.trans E')

theorem cut_spec {x1 : Sl} {x2 : Int} {bl : List (List UInt8 × Sl)} {Q : Bool → World → Prop} (T : Tab w c) (hs : sum < 4294967296) (src : Src w c 0 1 x1 (bl.map fun y => y.2.val)) (hbl : ∀ y ∈ bl, Src w c 0 1 y.2 (y.1.map u8) ∧ y.2.len ≤ y.2.cap)
    (hx2 : -maxI - 1 ≤ x2 ∧ x2 ≤ maxI) (hx3 : -maxI - 1 ≤ x3 ∧ x3 ≤ maxI) (H : ∀ w' c', Eff (fun q => q ≠ 0) w c w' c' → Q true w') : levylaw19_DrawerCut (sum : Int) x1 x2 x3 Q w := by
  have hxl : x1.len = bl.length := by have := src.1.1; simp at this; omega
  unfold levylaw19_DrawerCut
  refine known_spec T fun w1 c1 E1 => ?_
  rw [if_pos rfl]
  refine begin_spec (c := c1) (sum := sum) (T.eff E1 (by decide)) fun w2 c2 wb d R2 S2 => ?_
  rw [if_neg (by exact Bool.false_ne_true)]
  obtain ⟨m, L, p, ss, rs, ls, fs, rl, ll, fl, h2⟩ := R2
  have hrl : rl.length = 0 := by have := congrArg List.length h2.hrecs; rw [List.length_map] at this; exact this
  refine Kw.open_spec h2 (fun f hf => by cases hf) hs (by omega) (zero_openC sum) fun st' hst w3 c3 R3 E3 => ?_
  rw [zero_openR hst, stC_first] at R3
  clear h2 hrl hst
  have E03 := (E1.trans S2.eff).trans E3
  obtain ⟨m, L, p, ss, rs, ls, fs, rl, ll, fl, h3⟩ := R3
  rw [if_pos rfl]
  obtain ⟨o, rfl, _⟩ := h3.drw
  refine nn_some (ld_own h3.own (x := some ⟨o, 0, none⟩) rfl ?_)
  rw [show Option.isNone (some (⟨o, 0, none⟩ : Addr)) = false from rfl]
  unfold levylaw19_DrawerCut.k4
  rw [if_neg (by exact Bool.false_ne_true)]
  refine Fix.intro (fun (z : Sl × Int × Int) v => ∃ (i : Nat) (c' : Col) (R : List Rec) (m : Nat) (L : List FE) (p : Option Addr) (rs : Sl) (rl : List (Rec × Sl)), z.2.1 = ((18 + sizeR R : Nat) : Int) ∧ z.2.2 = i ∧ i ≤ bl.length ∧ R.length = i ∧ few R ∧ Rp v c' wb d m L (stC sum R) p ss rs ls fs rl ll fl ∧
      Row v c' 12 3 1 z.1 ((endsOf R).map (Value.int .i64)) ∧ Eff (fun q => q ≠ 0) w c v c') (fun z _ => bl.length - z.2.2.toNat) ?_
    ⟨0, c3, [], m, L, _, rs, rl, rfl, rfl, Nat.zero_le _, rfl, ⟨Nat.zero_le _, fun r hr => (by cases hr)⟩, h3, Row.nil _ _ _ _ _, E03⟩
  rintro ⟨es, sz, iz⟩ v K ⟨i, c', R, m, L, p, rs, rl, hsz, hiz, hi, hRl, hR, h, hes, E⟩ hK
  dsimp only at hsz hiz hes
  subst hsz hiz
  unfold levylaw19_DrawerCut.l94
  dsimp only
  have done : levylaw19_DrawerCut.k6 x2 x3 (some ⟨wb, 0, none⟩) es ((18 + sizeR R : Nat) : Int) Q v := cut_k6 h hs hR hx2 hx3 hes fun w' c'' E' => H w' c'' (E.trans E')
  by_cases hlt : i < bl.length
  · rw [if_pos (by rw [decide_eq_true_eq]; omega)]
    unfold levylaw19_DrawerCut.k95
    by_cases h12 : i < 12
    · rw [if_pos (by rw [decide_eq_true_eq]; omega)]
      have hmem := List.getElem_mem hlt
      obtain ⟨bsrc, bcap⟩ := hbl _ hmem
      have src' := src.eff E (by decide)
      have bsrc' := bsrc.eff E (by decide)
      have hget : (bl.map fun y => y.2.val)[i]? = some (Sl.val (bl[i]).2) := by rw [List.getElem?_map, List.getElem?_eq_getElem hlt]; rfl
      generalize hbb : bl[i] = bb at *
      have hbbl : bb.2.len = bb.1.length := by have := bsrc.1.1; simp at this; omega
      refine Jn.ix_ld (w := v.drew) (f := Sl.val) (x := bb.2) src'.1 hget (Jn.ix_ld (w := v.drew) (f := Sl.val) (x := bb.2) src'.1 hget ?_)
      obtain ⟨mm, hmm, hmm1, hmm2⟩ : ∃ mm : Nat, (if 300 < ((bb.2.len : Nat) : Int) then (300 : Int) else ((bb.2.len : Nat) : Int)) = (mm : Int) ∧ mm ≤ 300 ∧ mm ≤ bb.2.len := by
        by_cases h3 : 300 < bb.2.len
        · exact ⟨300, by rw [if_pos (by omega)]; rfl, by omega, by omega⟩
        · exact ⟨bb.2.len, by rw [if_neg (by omega)], by omega, Nat.le_refl _⟩
      rw [hmm]
      refine ⟨by omega, by omega, ?_⟩
      rw [Int.toNat_natCast]
      have htk := bsrc'.take (n := mm) hmm2 bb.2.cap
      rw [Nat.mul_one, ← List.map_take] at htk
      refine cut_step (i := i) (b := bb.1.take mm) (ys := cutSl ⟨bb.2.p, bb.2.len, bb.2.cap⟩ 1 0 mm bb.2.cap) (sz := ((18 + sizeR R : Nat) : Int)) (es := es) (K := fun a b c w => K (a, b, c) w) (Q := Q) h hR h12 hs hes rfl (by rw [List.length_take]; omega) (by have := htk.1.1; rw [List.length_map] at this; omega) htk fun w' c'' m' L' p' rs' rl' es' h' hes' E' => ?_
      have hb300 : (bb.1.take mm).length ≤ 300 := by rw [List.length_take]; omega
      refine hK _ _ ⟨i + 1, c'', _, m', L', p', rs', rl', rfl, rfl, hlt, by rw [List.length_append, hRl]; rfl, ⟨by rw [List.length_append, hRl]; show i + 1 ≤ 12; omega, fun r hr => ?_⟩, h', hes', E.trans E'⟩ (by dsimp only; omega)
      rcases List.mem_append.1 hr with hr | hr
      · exact hR.2 r hr
      · rw [List.mem_singleton.1 hr]; exact hb300
    · rw [if_neg (by rw [decide_eq_true_eq]; omega)]
      exact done
  · rw [if_neg (by rw [decide_eq_true_eq]; omega)]
    unfold levylaw19_DrawerCut.k95
    rw [if_neg (by exact Bool.false_ne_true)]
    exact done
end
end Go.Proofs.YtjnifnlkicajhaaDoor.Kw
