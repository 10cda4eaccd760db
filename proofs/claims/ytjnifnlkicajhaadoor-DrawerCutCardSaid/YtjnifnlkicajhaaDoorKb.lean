/-
  The law's world: what it holds in memory; may. No condition is put on any statement here.
-/
import Derived.Test.YtjnifnlkicajhaaDoorKa
namespace Go.Proofs.YtjnifnlkicajhaaDoor.Kw
open Go Vc Hp Fs Da Pm Dd Jn
set_option maxRecDepth 4000

/-- the law's world, in plain words -/
structure LS where
  A : PD
  dr : Option DW
  sum : Nat
  S : List UInt8
  R : List Rec
  late : List Rec
  folded : List (List UInt8)
  soft : Bool
def MayP (st : LS) (b : List UInt8) (l : List Rec) : Prop := (b = st.S ∧ (l = st.R ∨ (st.late.length = 1 ∧ l = st.R ++ st.late))) ∨ (st.folded = [b] ∧ l = [])

def DrP (w : World) (c : Col) (d : Nat) (dr : Option DW) (p : Option Addr) : Prop := match dr with
  | none => p = none
  | some D => ∃ o, p = some ⟨o, 0, none⟩ ∧ Drw w c 2 o d D
theorem DrP.eff {w c d dr p j w' c'} (h : DrP w c d dr p) (hc : Eff j w c w' c') (hj : ¬ j 2) : DrP w' c' d dr p := by
  cases dr with
  | none => exact h
  | some D =>
    obtain ⟨o, h1, h2⟩ := h
    exact ⟨o, h1, h2.eff hc hj⟩
/-- the law's world, in memory: colours: 1 the disk, 2 drawers and what Open tells, 3 the world's own block, 4 its summary, 5 its records, 6 the one that is late, 7 what is folded -/
structure Rp (w : World) (c : Col) (wb d m : Nat) (L : List FE) (st : LS) (p : Option Addr) (ss rs ls fs : Sl) (rl ll : List (Rec × Sl)) (fl : List (List UInt8 × Sl)) : Prop where
  own : Own w c wb 3 (.cells #[.pointer (some ⟨d, 0, none⟩), .pointer p, .int .u32 (st.sum : Int), ss.val, rs.val, ls.val, fs.val, .bool st.soft] 32 (0, 0))
  drw : DrP w c d st.dr p
  sm : Row w c 4 5 1 ss (st.S.map u8)
  recs : RRow w c 5 rs rl
  hrecs : rl.map (·.1) = st.R
  late : RRow w c 6 ls ll
  hlate : ll.map (·.1) = st.late
  fold : Row w c 7 29 1 fs (fl.map fun x => x.2.val)
  foldd : ∀ x ∈ fl, Row w c 7 5 1 x.2 (x.1.map u8)
  hfold : fl.map (·.1) = st.folded
  disk : DDisk w c 1 d m L st.A
  ok : st.A.Ok
  tab : Tab w c
def Rep (w : World) (c : Col) (wb d : Nat) (st : LS) : Prop := ∃ m L p ss rs ls fs rl ll fl, Rp w c wb d m L st p ss rs ls fs rl ll fl

section
variable {w : World} {c : Col} {wb d m : Nat} {L : List FE} {st : LS} {p : Option Addr} {ss rs ls fs : Sl} {rl ll : List (Rec × Sl)} {fl : List (List UInt8 × Sl)}
theorem Rp.eff {j w' c'} (h : Rp w c wb d m L st p ss rs ls fs rl ll fl) (hc : Eff j w c w' c') (hj : ∀ k, k ≤ 7 → ¬ j k) : Rp w' c' wb d m L st p ss rs ls fs rl ll fl :=
  ⟨h.own.eff hc (hj 3 (by omega)), h.drw.eff hc (hj 2 (by omega)), h.sm.eff hc (hj 4 (by omega)), h.recs.eff hc (hj 5 (by omega)), h.hrecs, h.late.eff hc (hj 6 (by omega)), h.hlate, h.fold.eff hc (hj 7 (by omega)), fun x hx => (h.foldd x hx).eff hc (hj 7 (by omega)), h.hfold,
    h.disk.eff hc (hj 1 (by omega)), h.ok, h.tab.eff hc (hj 0 (by omega))⟩
theorem Rp.far {w' c'} (h : Rp w c wb d m L st p ss rs ls fs rl ll fl) (S : Sofar w c w' c') : Rp w' c' wb d m L st p ss rs ls fs rl ll fl := h.eff (j := fun _ => False) S.eff (fun _ _ => id)
theorem Rp.drew (h : Rp w c wb d m L st p ss rs ls fs rl ll fl) : Rp w.drew c wb d m L st p ss rs ls fs rl ll fl := h.far (Sofar.refl _ _).drew
theorem Rp.rep (h : Rp w c wb d m L st p ss rs ls fs rl ll fl) : Rep w c wb d st := ⟨m, L, p, ss, rs, ls, fs, rl, ll, fl, h⟩

theorem may_k1 {x1 x2 : Sl} {b : List UInt8} {l : List (Rec × Sl)} {Q : Bool → World → Prop} (h : Rp w c wb d m L st p ss rs ls fs rl ll fl) (hb : Reads w 1 x1 (b.map u8)) (hl : RSrc w x2 l) (hno : ¬ (b = st.S ∧ (l.map (·.1) = st.R ∨ (st.late.length = 1 ∧ l.map (·.1) = st.R ++ st.late))))
    (H : ∀ r w', (MayP st b (l.map (·.1)) → r = true) → (∀ c, Sofar w c w' c) → Q r w') : levylaw19_world_may.k1 (some ⟨wb, 0, none⟩) x1 x2 Q w := by
  have hfl : fs.len = fl.length := by have := h.fold.1; simp at this; omega
  have no : (st.folded = [b] ∧ l.map (·.1) = [] → False) → ∀ {w'}, (∀ c, Sofar w c w' c) → levylaw19_world_may.k2 false Q w' := fun hn w' S => by
    unfold levylaw19_world_may.k2
    exact H false w' (fun hm => by
      rcases hm with hm | hm
      · exact absurd hm hno
      · exact (hn hm).elim) S
  unfold levylaw19_world_may.k1
  refine nn_some (ld_own h.own (x := fs) rfl ?_)
  by_cases h1 : fl.length = 1
  · rw [if_pos (by rw [hfl, h1]; decide)]
    obtain ⟨q, rfl⟩ : ∃ q, fl = [q] := List.length_eq_one_iff.1 h1
    refine nn_some (ld_own h.own (x := fs) rfl ?_)
    refine Jn.ix_ld (i := 0) (f := Sl.val) (x := q.2) h.fold.reads rfl ?_
    refine sameBytes_spec hb (h.foldd q (by simp)).reads ?_
    have hf : st.folded = [q.1] := by rw [← h.hfold]; rfl
    by_cases hq : b = q.1
    · rw [if_pos (by simp [hq])]
      unfold levylaw19_world_may.k2
      have hll := hl.len
      refine H _ w (fun hm => ?_) (fun c => Sofar.refl _ _)
      rcases hm with hm | hm
      · exact absurd hm hno
      · have : l = [] := List.map_eq_nil_iff.1 hm.2
        rw [hll, this]
        rfl
    · rw [if_neg (by simp [hq])]
      exact no (fun hm => by rw [hf] at hm; exact hq (by simpa using hm.1.symm)) (fun c => Sofar.refl _ _)
  · rw [if_neg (by rw [beq_iff_eq]; omega)]
    refine no (fun hm => ?_) (fun c => Sofar.refl _ _)
    have := congrArg List.length (h.hfold.trans hm.1)
    simp at this
    exact h1 this
theorem may_spec {x1 x2 : Sl} {b : List UInt8} {l : List (Rec × Sl)} {Q : Bool → World → Prop} (h : Rp w c wb d m L st p ss rs ls fs rl ll fl) (hb : Reads w 1 x1 (b.map u8)) (hl : RSrc w x2 l) (hcap : x2.len ≤ x2.cap) (hlb : l.length ≤ 1099511627776)
    (hrb : rl.length ≤ 1099511627776) (H : ∀ r w', (MayP st b (l.map (·.1)) → r = true) → (∀ c, Sofar w c w' c) → Q r w') : levylaw19_world_may (some ⟨wb, 0, none⟩) x1 x2 Q w := by
  have hxl := hl.len
  have hrl := h.recs.len
  have hll := h.late.len
  unfold levylaw19_world_may
  refine nn_some (ld_own h.own (x := ss) rfl ?_)
  refine sameBytes_spec hb h.sm.reads ?_
  -- from a later world on
  have k1 : ∀ {v}, (∀ c, Sofar w c v c) → ¬ (b = st.S ∧ (l.map (·.1) = st.R ∨ (st.late.length = 1 ∧ l.map (·.1) = st.R ++ st.late))) → levylaw19_world_may.k1 (some ⟨wb, 0, none⟩) x1 x2 Q v := fun {v} S hno =>
    may_k1 (h.far (S c)) (rnew hb (S c).ch) (hl.new (S c).ch) hno fun r w' hr S' => H r w' hr fun c => (S c).new (S' c).ch (S' c).ex
  have k26 : ∀ {v} {y : Bool}, (∀ c, Sofar w c v c) → (y = false → ¬ (b = st.S ∧ (l.map (·.1) = st.R ∨ (st.late.length = 1 ∧ l.map (·.1) = st.R ++ st.late)))) → levylaw19_world_may.k26 (some ⟨wb, 0, none⟩) x1 x2 y Q v := fun {v y} S hno => by
    unfold levylaw19_world_may.k26
    cases y with
    | true => rw [if_pos rfl]; exact H true v (fun _ => rfl) S
    | false => rw [if_neg (by exact Bool.false_ne_true)]; exact k1 S (hno rfl)
  by_cases hS : b = st.S
  · rw [if_pos (by simp [hS])]
    refine nn_some (ld_own h.own (x := rs) rfl ?_)
    refine sameRecords_spec hl (RSrc.of h.recs) hlb fun r1 w1 hr1 S1 => ?_
    rw [h.hrecs] at hr1
    cases r1 with
    | true => rw [if_pos rfl]; exact H true w1 (fun _ => rfl) S1
    | false =>
      have hne1 : l.map (·.1) ≠ st.R := fun e => Bool.false_ne_true (hr1.2 e)
      rw [if_neg (by exact Bool.false_ne_true)]
      have h1 := (h.far (S1 c)).drew
      have S1d : ∀ c, Sofar w c w1.drew c := fun c => (S1 c).drew
      refine nn_some (ld_own h1.own (x := ls) rfl ?_)
      have hlal : st.late.length = ll.length := by rw [← h.hlate, List.length_map]
      by_cases hla : ll.length = 1
      · rw [if_pos (by rw [hll, hla]; decide)]
        refine nn_some (ld_own h1.own (x := rs) rfl ?_)
        rw [hrl, Da.wrap_small (i := ((rl.length : Nat) : Int) + 1) (by omega) (by omega)]
        have hRl : st.R.length = rl.length := by rw [← h.hrecs, List.length_map]
        by_cases hle : l.length = rl.length + 1
        · rw [if_pos (by rw [beq_iff_eq, hxl]; omega)]
          rw [hxl, Da.wrap_small (i := ((l.length : Nat) : Int) - 1) (by omega) (by omega), show ((l.length : Nat) : Int) - 1 = ((rl.length : Nat) : Int) by omega, Int.toNat_natCast]
          refine ⟨by omega, by omega, nn_some (ld_own h1.own (x := rs) rfl ?_)⟩
          have hl1 := hl.new (S1d c).ch
          have htk := hl1.take (n := rl.length) (by omega)
          rw [hxl] at htk
          refine sameRecords_spec htk (RSrc.of h1.recs) (by rw [List.length_take]; omega) fun r2 w2 hr2 S2 => ?_
          rw [h.hrecs, List.map_take] at hr2
          have S02 : ∀ c, Sofar w c w2 c := fun c => (S1d c).new (S2 c).ch (S2 c).ex
          cases r2 with
          | true =>
            rw [if_pos rfl]
            refine ⟨by omega, by omega, ?_⟩
            have h2 := h1.far (S2 c)
            refine nn_some (ld_own h2.own (x := ls) rfl ?_)
            have hdr := (hl.new (S02 c).ch).drop (n := rl.length) (by omega) hcap
            rw [hxl] at hdr
            refine sameRecords_spec hdr (RSrc.of h2.late) (by rw [List.length_drop]; omega) fun r3 w3 hr3 S3 => ?_
            rw [h.hlate, List.map_drop] at hr3
            refine k26 (fun c => (S02 c).new (S3 c).ch (S3 c).ex) fun hf hm => ?_
            subst hf
            rcases hm.2 with hm | ⟨_, hm⟩
            · exact hne1 hm
            · refine Bool.false_ne_true (hr3.2 ?_)
              rw [hm, List.drop_left' hRl]
          | false =>
            rw [if_neg (by exact Bool.false_ne_true)]
            refine k26 S02 fun _ hm => ?_
            rcases hm.2 with hm | ⟨_, hm⟩
            · exact hne1 hm
            · refine Bool.false_ne_true (hr2.2 ?_)
              rw [hm, List.take_left' hRl]
        · rw [if_neg (by rw [beq_iff_eq, hxl]; omega)]
          refine k26 S1d fun _ hm => ?_
          rcases hm.2 with hm | ⟨_, hm⟩
          · exact hne1 hm
          · have := congrArg List.length hm
            simp at this
            omega
      · rw [if_neg (by rw [beq_iff_eq, hll]; omega)]
        refine k26 S1d fun _ hm => ?_
        rcases hm.2 with hm | ⟨hm, _⟩
        · exact hne1 hm
        · omega
  · rw [if_neg (by simp [hS])]
    exact k1 (fun c => Sofar.refl _ _) fun hm => hS hm.1
end
end Go.Proofs.YtjnifnlkicajhaaDoor.Kw
