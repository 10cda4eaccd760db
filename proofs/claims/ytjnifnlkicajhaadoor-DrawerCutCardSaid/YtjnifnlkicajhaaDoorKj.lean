/-
  The law in plain words: its beginning; calls with rigs, exactly. No program in sight. No condition is put on any statement here.
-/
import Derived.Test.YtjnifnlkicajhaaDoorKi
namespace Go.Proofs.YtjnifnlkicajhaaDoor.Kp
open Go Vc Hp Da Pm Dd Jn Kw

/-- a disk of one file -/
abbrev one1 (g : Nat) (d : List UInt8) (s : Nat) (u af ca : Int) : PD := ⟨[⟨nameP g, d, s⟩], false, u, af, ca⟩
section
variable {g : Nat} {d b : List UInt8} {s : Nat} {u af ca : Int}
theorem first_ok (hg : g < 100000000) (hc : ca ≤ 0) : (one1 g d s u af ca).first (nameP g) = (0, one1 g d s u af ca) := by
  unfold PD.first
  rw [if_neg (by rw [nameP_named hg]; decide), if_neg (by exact Bool.false_ne_true), if_pos hc]
theorem pay_free {c : Int} (h : u < 0) : (one1 g d s u af ca).pay c = (true, c, one1 g d s u af ca) := by
  unfold PD.pay
  rw [if_pos h]
theorem pay_paid {c : Int} (h0 : 0 ≤ u) (h : c ≤ u) : (one1 g d s u af ca).pay c = (true, c, one1 g d s (u - c) af ca) := by
  unfold PD.pay
  rw [if_neg (show ¬ u < 0 by omega), if_pos h]
theorem pay_fall {c : Int} (h0 : 0 ≤ u) (h : u < c) : (one1 g d s u af ca).pay c = (false, u, ⟨[⟨nameP g, d, s⟩], true, -1, 0, 0⟩) := by
  unfold PD.pay
  rw [if_neg (show ¬ u < 0 by omega), if_neg (show ¬ c ≤ u by omega)]
  rfl
theorem first_rig (hg : g < 100000000) (h1 : 0 < ca) (h2 : 0 < af) : (one1 g d s u af ca).first (nameP g) = (0, one1 g d s u (af - 1) ca) := by
  unfold PD.first
  rw [if_neg (by rw [nameP_named hg]; decide), if_neg (by exact Bool.false_ne_true), if_neg (show ¬ ca ≤ 0 by omega), if_pos h2]
theorem first_failed (hg : g < 100000000) : (one1 g d s u 0 1).first (nameP g) = (191, one1 g d s u 0 0) := by
  unfold PD.first
  rw [if_neg (by rw [nameP_named hg]; decide), if_neg (by exact Bool.false_ne_true), if_neg (show ¬ (1 : Int) ≤ 0 by decide), if_neg (show ¬ (0 : Int) < 0 by decide)]
  rfl
/-- an Append behind its first look, which is paid so -/
theorem app_of {A' : PD} {q : Bool × Int × PD} {u' af' ca' : Int} (hf : (one1 g d s u af ca).first (nameP g) = (0, one1 g d s u' af' ca')) (hl : d.length + b.length ≤ 2097152) (hp : (one1 g d s u' af' ca').pay ((b.length : Int) + 1) = q)
    (hA : A' = { q.2.2 with files := setf q.2.2.files (nameP g) fun f => { f with data := f.data ++ if q.1 = true then b else b.take q.2.1.toNat } }) : (one1 g d s u af ca).append (nameP g) b = (if q.1 = true then 0 else 190, A') := by
  unfold PD.append
  rw [hf]
  dsimp only
  rw [if_neg (by decide), get1]
  dsimp only
  rw [if_neg (by omega), hp, hA]
theorem sync_of {A' : PD} {q : Bool × Int × PD} {u' af' ca' : Int} (hf : (one1 g d s u af ca).first (nameP g) = (0, one1 g d s u' af' ca')) (hp : (one1 g d s u' af' ca').pay 1 = q)
    (hA : A' = if q.1 = true then { q.2.2 with files := setf q.2.2.files (nameP g) fun f => { f with sure := f.data.length } } else q.2.2) : (one1 g d s u af ca).sync (nameP g) = (if q.1 = true then 0 else 190, A') := by
  unfold PD.sync PD.change
  rw [hf]
  dsimp only
  rw [if_neg (by decide), get1, hp, hA]
  rw [if_neg (by exact Bool.false_ne_true)]
  split <;> rfl
theorem lay_well (hg : g < 100000000) (hc : ca ≤ 0) (hl : d.length + b.length ≤ 2097152) (hu : u < 0) : layP (one1 g d s u af ca) (nameP g) b = (0, one1 g (d ++ b) (d ++ b).length u af ca) := by
  unfold layP
  rw [app_of (A' := one1 g (d ++ b) s u af ca) (first_ok hg hc) hl (pay_free hu) (by simp [setf])]
  dsimp only
  rw [if_neg (by simp), sync_of (A' := one1 g (d ++ b) (d ++ b).length u af ca) (first_ok hg hc) (pay_free hu) (by simp [setf])]
  rfl
theorem lay_paid (hg : g < 100000000) (hc : ca ≤ 0) (hl : d.length + b.length ≤ 2097152) (hu : u = (b.length : Int) + 2) : layP (one1 g d s u af ca) (nameP g) b = (0, one1 g (d ++ b) (d ++ b).length 0 af ca) := by
  unfold layP
  rw [app_of (A' := one1 g (d ++ b) s 1 af ca) (first_ok hg hc) hl (pay_paid (by omega) (by omega)) (by rw [show u - ((b.length : Int) + 1) = 1 by omega]; simp [setf])]
  dsimp only
  rw [if_neg (by simp), sync_of (A' := one1 g (d ++ b) (d ++ b).length 0 af ca) (first_ok hg hc) (pay_paid (by decide) (by decide)) (by simp [setf])]
  rfl
theorem lay_less (hg : g < 100000000) (hc : ca ≤ 0) (hl : d.length + b.length ≤ 2097152) (hu : u = (b.length : Int) + 1) : layP (one1 g d s u af ca) (nameP g) b = (190, ⟨[⟨nameP g, d ++ b, s⟩], true, -1, 0, 0⟩) := by
  unfold layP
  rw [app_of (A' := one1 g (d ++ b) s 0 af ca) (first_ok hg hc) hl (pay_paid (by omega) (by omega)) (by rw [show u - ((b.length : Int) + 1) = 0 by omega]; simp [setf])]
  dsimp only
  rw [if_neg (by simp), sync_of (A' := ⟨[⟨nameP g, d ++ b, s⟩], true, -1, 0, 0⟩) (first_ok hg hc) (pay_fall (by decide) (by decide)) (by simp)]
  rfl
theorem lay_fall (hg : g < 100000000) (hc : ca ≤ 0) (hl : d.length + b.length ≤ 2097152) (h0 : 0 ≤ u) (hu : u < (b.length : Int) + 1) : layP (one1 g d s u af ca) (nameP g) b = (190, ⟨[⟨nameP g, d ++ b.take u.toNat, s⟩], true, -1, 0, 0⟩) := by
  unfold layP
  rw [app_of (A' := ⟨[⟨nameP g, d ++ b.take u.toNat, s⟩], true, -1, 0, 0⟩) (first_ok hg hc) hl (pay_fall h0 hu) (by simp [setf])]
  dsimp only
  rw [if_pos (by simp)]
  rfl
theorem lay_rig (hg : g < 100000000) (hl : d.length + b.length ≤ 2097152) (hu : u < 0) : layP (one1 g d s u 2 1) (nameP g) b = (0, one1 g (d ++ b) (d ++ b).length u 0 1) := by
  unfold layP
  rw [app_of (A' := one1 g (d ++ b) s u 1 1) (first_rig hg (by decide) (by decide)) hl (pay_free hu) (by simp [setf])]
  dsimp only
  rw [if_neg (by simp), sync_of (A' := one1 g (d ++ b) (d ++ b).length u 0 1) (first_rig hg (by decide) (by decide)) (pay_free hu) (by simp [setf])]
  rfl
theorem lay_failed (hg : g < 100000000) : layP (one1 g d s u 0 1) (nameP g) b = (191, one1 g d s u 0 0) := by
  have h1 : (one1 g d s u 0 1).append (nameP g) b = (191, one1 g d s u 0 0) := by
    unfold PD.append
    rw [first_failed hg, if_pos (by simp)]
  unfold layP
  rw [h1]
  dsimp only
  rw [if_pos (by simp)]

/-! ### the beginning -/
def LS.first (sum : Nat) : LS := ⟨one1 1 (piece 0 sum 0 []) 18 (-1) 0 0, some ⟨sum, 1, 0, false⟩, sum, [], [], [], [], false⟩
theorem best_nil {j : JF} (h : Best (· ∈ ([] : List PF)) j) : j = JF.none := by
  rcases h with ⟨h, _⟩ | ⟨_, f, hf, _⟩
  · exact h
  · cases hf
theorem openP_zero (sum : Nat) : openP (LS.zero sum).A sum JF.none = (0, one1 1 (piece 0 sum 0 []) 18 (-1) 0 0, 1) := by
  have hm : mendP (LS.zero sum).A JF.none (JF.none.size + sizeR (recsOf (LS.zero sum).A.files JF.none)) = (0, (LS.zero sum).A) := by
    simp [mendP, cutP, sureP, JF.none, LS.zero, rmP, names]
  have hl : layP (LS.zero sum).A (nameP 1) (piece 0 sum 0 []) = (0, one1 1 (piece 0 sum 0 []) 18 (-1) 0 0) := by
    have hfi : (LS.zero sum).A.first (nameP 1) = (0, (LS.zero sum).A) := by
      unfold PD.first
      rw [if_neg (by rw [nameP_named (by decide)]; decide), if_neg (by exact Bool.false_ne_true), if_pos (by exact Int.le_refl 0)]
    have hpa : (LS.zero sum).A.pay (((piece 0 sum 0 []).length : Int) + 1) = (true, ((piece 0 sum 0 []).length : Int) + 1, (LS.zero sum).A) := by
      unfold PD.pay
      rw [if_pos (show (LS.zero sum).A.units < 0 from (by decide : (-1 : Int) < 0))]
    have ha : (LS.zero sum).A.append (nameP 1) (piece 0 sum 0 []) = (0, one1 1 (piece 0 sum 0 []) 0 (-1) 0 0) := by
      unfold PD.append
      rw [hfi]
      dsimp only
      rw [if_neg (by decide), show Pm.get (LS.zero sum).A.files (nameP 1) = none from rfl]
      dsimp only
      rw [if_neg (by rw [piece_len]; rintro (h | h); exact absurd h (show ¬ 40 ≤ 0 by decide); exact absurd h (by decide)), hpa]
      simp [LS.zero, ins]
    unfold layP
    rw [ha]
    dsimp only
    rw [if_neg (by decide), sync_of (A' := one1 1 (piece 0 sum 0 []) 18 (-1) 0 0) (first_ok (by decide) (by decide)) (pay_free (by decide)) (by simp [setf, piece_len])]
    rfl
  unfold openP
  rw [if_neg (by exact Bool.false_ne_true), if_neg (by rintro ⟨h, _⟩; exact absurd h (by decide)), hm]
  dsimp only
  rw [if_neg (by decide), if_pos (by rfl), hl]
theorem zero_openC (sum : Nat) : OpenC (LS.zero sum) := by
  intro j hj
  obtain rfl := best_nil (hj rfl)
  have := openP_zero sum
  show ((openP (LS.zero sum).A sum JF.none).1 = 0 ∨ _) ∧ _
  rw [this]
  exact ⟨.inl rfl, fun _ => .inl ⟨rfl, .inl rfl⟩⟩
theorem zero_openR {sum : Nat} {st' : LS} (h : OpenR (LS.zero sum) st') : st' = LS.first sum := by
  obtain ⟨j, hj, h⟩ := h
  obtain rfl := best_nil (hj rfl)
  have e := openP_zero sum
  have e' : openP (LS.zero sum).A (LS.zero sum).sum JF.none = (0, one1 1 (piece 0 sum 0 []) 18 (-1) 0 0, 1) := e
  rw [e'] at h
  rcases h with ⟨h, _⟩ | ⟨_, _, h⟩
  · exact absurd rfl h
  · rw [h]; rfl
theorem first_inv {sum : Nat} (hs : sum < 4294967296) : Inv 0 (LS.first sum) := by
  have hok : (LS.first sum).A.Ok := by
    have := openP_ok (A := (LS.zero sum).A) ok_zero sum JF.none
    rw [openP_zero] at this
    exact this
  have hc : Clean sum [] [] 1 (LS.first sum).A.files := by
    unfold Clean
    have : enc sum [] [] = piece 0 sum 0 [] := by simp [enc, pieces]
    rw [this, piece_len]
    rfl
  refine ⟨hok, ⟨hs, Nat.zero_le _, fun r hr => (by cases hr), fun r hr => (by cases hr), fun r hr => (by cases hr), Nat.zero_le _, Nat.zero_le _, rfl, Nat.zero_le _⟩, Nat.le_refl _, 1, Nat.le_refl _, Nat.le_refl _, .inl hc.torn, fun D hD => ?_⟩
  obtain rfl := Option.some.inj hD
  exact ⟨rfl, rfl, rfl, fun h => (by cases h), fun _ => ⟨rfl, rfl, hc⟩⟩
end
end Go.Proofs.YtjnifnlkicajhaaDoor.Kp
