/-
  The law's small functions over records: record, sameBytes, sameRecords. No condition is put on any statement here.
-/
import Derived.Test.YtjnifnlkicajhaaDoorJj
import Derived.Laws.IdiomStrings
import Derived.Laws.BytesArg
namespace Go.Proofs.YtjnifnlkicajhaaDoor.Kw
open Go Vc Hp Fs Da Pm Dd Jn
set_option maxRecDepth 4000

theorem str_of {w : World} {x : Sl} {d : List UInt8} (hx : Reads w 1 x (d.map u8)) : (convert 29 9 (Sl.val x)).run Tryd.prog w = .ok (.string ⟨d.toArray⟩) w := by
  obtain ⟨h1, h2⟩ := hx
  simp only [List.length_map, Nat.mul_one] at h1
  have hl : x.len = d.length := h1.symm
  unfold Sl.val
  rcases h2 with ⟨hp, h0⟩ | ⟨a, hp, hh⟩
  · have hd : d = [] := List.eq_nil_of_length_eq_zero (by omega)
    subst hd
    rw [hp, h0]
    rfl
  · rw [hp, hl]
    exact run_convert_bytes_back w 29 9 5 a _ d Tryd.underlying29 Tryd.underlying5 Tryd.underlying9 (fun j hj => hh j _ (by simp [hj]))
theorem sameBytes_spec {w : World} {x y : Sl} {d e : List UInt8} {Q : Bool → World → Prop} (hx : Reads w 1 x (d.map u8)) (hy : Reads w 1 y (e.map u8)) (H : Q (decide (d = e)) w) : levylaw19_sameBytes x y Q w := by
  unfold levylaw19_sameBytes
  refine ⟨_, w, str_of hx, _, w, str_of hy, ?_⟩
  have : sEq ⟨d.toArray⟩ ⟨e.toArray⟩ = decide (d = e) := by
    rw [sEq_eq, Bool.eq_iff_iff, decide_eq_true_eq, decide_eq_true_eq]
    refine ⟨fun h => ?_, fun h => by rw [h]⟩
    injection h with h
    simpa using congrArg Array.toList h
  dsimp only
  rw [this]
  exact H

def kindOf (x : Int) : UInt8 := UInt8.ofNat (x % 256).toNat
theorem kindOf_wrap (x : Int) : IntKind.u8.wrap x = ((kindOf x).toNat : Int) := by
  unfold kindOf
  rw [IntKind.wrap_u8, UInt8.toNat_ofNat']
  omega
theorem copy_new {w c} (kk : Nat) {x : Sl} {b : List UInt8} {Q : Sl → World → Prop} (hx : Reads w 1 x (b.map u8)) (hb : b.length ≤ 1099511627776) (H : ∀ w' c' s', Row w' c' kk 5 1 s' (b.map u8) → Sofar w c w' c' → Q s' w') :
    rn Tryd.prog Sl.val (Builtin.append_ #[29, 29] 29 [.slice none 0 0, Sl.val x].toArray) w Q := by
  have hxl : x.len = b.length := by have := hx.1; simp at this; omega
  refine append_bytes (s := ⟨none, 0, 0⟩) (b := []) (c := c) (k := kk) (Row.nil _ _ _ _ _) hx (by dsimp only; omega) fun s' w' c' hr hc he _ _ => ?_
  exact H w' c' s' hr ⟨hc.mono (fun b _ hb => by cases (show (none : Option Nat) = some b from hb)), he⟩
theorem record_spec {w c} (kk : Nat) {x0 : Int} {x : Sl} {b : List UInt8} {Q : Int → Sl → World → Prop} (hx : Reads w 1 x (b.map u8)) (hb : b.length ≤ 1099511627776)
    (H : ∀ w' c' s', Row w' c' kk 5 1 s' (b.map u8) → Sofar w c w' c' → Q ((kindOf x0).toNat : Int) s' w') : levylaw19_record x0 x Q w := by
  unfold levylaw19_record
  refine al_own (c := c) kk fun g w1 c1 o1 ch1 ex1 hg1 => ?_
  refine copy_new (c := c1) kk (Reads.new hx ch1) hb fun w2 c2 s2 hr S2 => ?_
  have o2 := o1.chg S2.ch S2.ex id
  rw [kindOf_wrap]
  refine stN_own o2 rfl fun w3 o3 ch3 _ => ld_own o3 rfl (ld_own o3 rfl ?_)
  exact H w3 c2 s2 (Row.off hr ch3 o2 (.inl (by decide))) ((Sofar.new ⟨ch1, ex1⟩ S2.ch S2.ex).own ch3 hg1)

/-! ### lists of records that are read -/
structure RSrc (w : World) (s : Sl) (rl : List (Rec × Sl)) : Prop where
  row : Reads w 2 s (rcells rl)
  data : ∀ p ∈ rl, Reads w 1 p.2 (p.1.body.map u8)
theorem RSrc.of {w c k s rl} (h : RRow w c k s rl) : RSrc w s rl := ⟨h.row.reads, fun p hp => (h.data p hp).reads⟩
theorem rnew {w w' sz s vs} (h : Reads w sz s vs) (hc : Chg (fun _ => False) w w') : Reads w' sz s vs := Reads.new h hc
theorem RSrc.new {w w' s rl} (h : RSrc w s rl) (hc : Chg (fun _ => False) w w') : RSrc w' s rl := ⟨rnew h.row hc, fun p hp => rnew (h.data p hp) hc⟩
theorem RSrc.len {w s rl} (h : RSrc w s rl) : s.len = rl.length := by have := h.row.1; rw [rcells_len] at this; omega
theorem rcells_take (rl : List (Rec × Sl)) (n : Nat) : rcells (rl.take n) = (rcells rl).take (n * 2) := by
  induction rl generalizing n with
  | nil => simp [rcells]
  | cons p l ih =>
    cases n with
    | zero => simp [rcells]
    | succ n =>
      have e : rcells (p :: l) = [.int .u8 (p.1.kind.toNat : Int), p.2.val] ++ rcells l := by unfold rcells; simp
      have e2 : rcells (p :: l.take n) = [.int .u8 (p.1.kind.toNat : Int), p.2.val] ++ rcells (l.take n) := by unfold rcells; simp
      rw [List.take_succ_cons, e, e2, ih, show (n + 1) * 2 = n * 2 + 2 by omega]
      rfl
theorem rcells_drop (rl : List (Rec × Sl)) (n : Nat) : rcells (rl.drop n) = (rcells rl).drop (n * 2) := by
  induction rl generalizing n with
  | nil => simp [rcells]
  | cons p l ih =>
    cases n with
    | zero => simp
    | succ n =>
      have e : rcells (p :: l) = [.int .u8 (p.1.kind.toNat : Int), p.2.val] ++ rcells l := by unfold rcells; simp
      rw [List.drop_succ_cons, e, ih, show (n + 1) * 2 = n * 2 + 2 by omega]
      rfl
theorem RSrc.take {w s rl n} (h : RSrc w s rl) (hn : n ≤ rl.length) : RSrc w (cutSl ⟨s.p, s.len, s.cap⟩ 2 0 n s.cap) (rl.take n) := by
  have hl := h.len
  obtain ⟨h1, h2⟩ := h.row
  have hp : (cutSl ⟨s.p, s.len, s.cap⟩ 2 0 n s.cap).p = s.p := by
    unfold cutSl
    dsimp only
    split
    · rfl
    · rw [Nat.zero_mul]
      cases s.p with
      | none => rfl
      | some a => simp [Addr.add]
  refine ⟨⟨by rw [rcells_len, List.length_take]; show _ = (n - 0) * 2; omega, ?_⟩, fun p hp => h.data p (List.mem_of_mem_take hp)⟩
  rw [hp]
  rcases h2 with ⟨h2, h0⟩ | ⟨a, ha, hh⟩
  · exact .inl ⟨h2, by show n - 0 = 0; omega⟩
  · refine .inr ⟨a, ha, fun j u hj => hh j u ?_⟩
    rw [rcells_take, List.getElem?_take] at hj
    split at hj
    · exact hj
    · cases hj
theorem RSrc.drop {w s rl n} (h : RSrc w s rl) (hn : n ≤ rl.length) (hc : s.len ≤ s.cap) : RSrc w (cutSl ⟨s.p, s.len, s.cap⟩ 2 n s.len s.cap) (rl.drop n) := by
  have hl := h.len
  obtain ⟨h1, h2⟩ := h.row
  refine ⟨⟨by rw [rcells_len, List.length_drop]; show _ = (s.len - n) * 2; rw [hl], ?_⟩, fun p hp => h.data p (List.mem_of_mem_drop hp)⟩
  rcases h2 with ⟨h2, h0⟩ | ⟨a, ha, hh⟩
  · exact .inl ⟨by simp [cutSl, h2], by show s.len - n = 0; omega⟩
  · by_cases hcn : s.cap = n
    · refine .inr ⟨a, by simp [cutSl, hcn, ha], fun j u hj => ?_⟩
      rw [List.drop_of_length_le (by omega)] at hj
      simp [rcells] at hj
    · refine .inr ⟨a.add (n * 2), by simp [cutSl, hcn, ha], fun j u hj => ?_⟩
      rw [Addr.add_add]
      refine hh _ _ ?_
      rw [rcells_drop, List.getElem?_drop] at hj
      exact hj
theorem rix {w : World} {s : Sl} {rl : List (Rec × Sl)} {i : Nat} {K : Addr → Prop} (h : RSrc w s rl) (hi : i < rl.length)
    (hk : ∀ a : Addr, w.cell? (a.add 0) = some (.int .u8 (rl[i].1.kind.toNat : Int)) → w.cell? (a.add 1) = some rl[i].2.val → K a) : ix s.p s.len (i : Int) 2 K := by
  obtain ⟨h1, h2⟩ := h.row
  rw [rcells_len] at h1
  obtain ⟨e0, e1⟩ := rcells_at hi
  rcases h2 with ⟨_, h0⟩ | ⟨a, hp, hh⟩
  · omega
  · refine ⟨a, hp, by omega, by omega, hk _ ?_ ?_⟩
    · rw [Int.toNat_natCast, Addr.add_add, Nat.add_zero]; exact hh _ _ e0
    · rw [Int.toNat_natCast, Addr.add_add]; exact hh _ _ e1

theorem Rec.ext {r q : Rec} (h1 : r.kind = q.kind) (h2 : r.body = q.body) : r = q := by cases r; cases q; simp_all
theorem sameRecords_spec {w : World} {x y : Sl} {gl hl : List (Rec × Sl)} {Q : Bool → World → Prop} (hx : RSrc w x gl) (hy : RSrc w y hl) (hb : gl.length ≤ 1099511627776)
    (H : ∀ b w', (b = true ↔ gl.map (·.1) = hl.map (·.1)) → (∀ c, Sofar w c w' c) → Q b w') : levylaw19_sameRecords x y Q w := by
  have hxl := hx.len
  have hyl := hy.len
  unfold levylaw19_sameRecords
  by_cases hll : gl.length = hl.length
  · rw [if_neg (by rw [hxl, hyl, hll]; simp)]
    refine Fix.intro (fun (z : Int) v => (∀ c, Sofar w c v c) ∧ ∃ i : Nat, z = i ∧ i ≤ gl.length ∧ (gl.map (·.1)).take i = (hl.map (·.1)).take i) (fun z _ => gl.length - z.toNat) ?_ ⟨fun c => Sofar.refl _ _, 0, rfl, Nat.zero_le _, rfl⟩
    rintro z v K ⟨S, i, rfl, hi, htk⟩ hK
    have hxv := hx.new (S (fun _ => 0)).ch.drew
    have hyv := hy.new (S (fun _ => 0)).ch.drew
    unfold levylaw19_sameRecords.l6
    by_cases hlt : i < gl.length
    · have hlt2 : i < hl.length := by omega
      rw [if_pos (by rw [decide_eq_true_eq]; omega)]
      have hg : (gl.map (·.1))[i]? = some gl[i].1 := by rw [List.getElem?_map, List.getElem?_eq_getElem hlt]; rfl
      have hh : (hl.map (·.1))[i]? = some hl[i].1 := by rw [List.getElem?_map, List.getElem?_eq_getElem hlt2]; rfl
      have no : ∀ {b : Bool}, b = true → gl[i].1 ≠ hl[i].1 → Q false v.drew := fun _ hne => H false _ ⟨fun h => (by cases h), fun h => by
        rw [h, hh] at hg
        exact absurd (Option.some.inj hg).symm hne⟩ fun c => (S c).drew
      refine rix hxv hlt fun a a0 a1 => ⟨_, a0, rix hyv hlt2 fun b b0 b1 => ⟨_, b0, ?_⟩⟩
      dsimp only
      by_cases hk : gl[i].1.kind = hl[i].1.kind
      · rw [if_neg (by rw [hk]; simp)]
        refine rix hxv hlt fun a a0 a1 => ⟨_, a1, rix hyv hlt2 fun b b0 b1 => ⟨_, b1, ?_⟩⟩
        dsimp only
        refine sameBytes_spec (hxv.data _ (List.getElem_mem hlt)) (hyv.data _ (List.getElem_mem hlt2)) ?_
        unfold levylaw19_sameRecords.k10
        by_cases hbd : gl[i].1.body = hl[i].1.body
        · rw [if_neg (by simp [hbd]), Da.wrap_small (i := (i : Int) + 1) (by omega) (by omega)]
          refine hK _ _ ⟨fun c => (S c).drew, i + 1, by omega, hlt, ?_⟩ (by omega)
          rw [List.take_add_one, List.take_add_one, htk, hg, hh, Rec.ext hk hbd]
        · rw [if_pos (by simp [hbd])]
          exact no (b := true) rfl (fun e => hbd (by rw [e]))
      · rw [if_pos (by rw [bne_iff_ne]; exact fun e => hk (UInt8.toNat_inj.1 (by omega)))]
        unfold levylaw19_sameRecords.k10
        rw [if_pos rfl]
        exact no (b := true) rfl (fun e => hk (by rw [e]))
    · rw [if_neg (by rw [decide_eq_true_eq]; omega)]
      unfold levylaw19_sameRecords.k5
      rw [List.take_of_length_le (by simp; omega), List.take_of_length_le (by simp; omega)] at htk
      exact H true v ⟨fun _ => htk, fun _ => rfl⟩ S
  · rw [if_pos (by rw [bne_iff_ne]; omega)]
    exact H false w ⟨fun h => (by cases h), fun h => absurd (by simpa using congrArg List.length h) hll⟩ fun c => Sofar.refl _ _
end Go.Proofs.YtjnifnlkicajhaaDoor.Kw
