/-
  The journal's names, in plain words: a generation's name, eight digits wide; in order, and told apart. No program in sight. No condition is put on any statement here.
-/
import Derived.Test.YtjnifnlkicajhaaDoorJa
import Derived.Lib.ItoaNum
import Derived.Lib.ParseIntB
namespace Go.Proofs.YtjnifnlkicajhaaDoor.Jn
open Go Vc Hp Da Pm

def nameL (g : Nat) : List UInt8 := [108, 111, 103, 45] ++ (List.replicate (8 - Lib.nDigits g) 48 ++ Lib.decDigits g)
def nameP (g : Nat) : ByteArray := ⟨(nameL g).toArray⟩
/-- what digits spell -/
def val (acc : Nat) (l : List UInt8) : Nat := l.foldl (fun a c => a * 10 + (c.toNat - 48)) acc
def digit (c : UInt8) : Prop := 48 ≤ c.toNat ∧ c.toNat ≤ 57

theorem val_append (acc : Nat) (l r : List UInt8) : val acc (l ++ r) = val (val acc l) r := List.foldl_append ..
theorem val_zeros (n : Nat) : val 0 (List.replicate n 48) = 0 := by
  induction n with
  | zero => rfl
  | succ n ih => rw [List.replicate_succ]; exact ih
theorem dig_toNat {u : Nat} (h : u < 10) : (UInt8.ofNat (48 + u)).toNat = 48 + u := by rw [UInt8.toNat_ofNat']; omega
theorem val_dec (u : Nat) : val 0 (Lib.decDigits u) = u := by
  induction u using Nat.strongRecOn with
  | _ u ih =>
    rw [Lib.decDigits]
    split
    · rename_i h
      show 0 * 10 + ((UInt8.ofNat (48 + u)).toNat - 48) = u
      rw [dig_toNat h]; omega
    · rename_i h
      rw [val_append, ih (u / 10) (by omega)]
      show u / 10 * 10 + ((UInt8.ofNat (48 + u % 10)).toNat - 48) = u
      rw [dig_toNat (by omega)]; omega
theorem dec_digit (u : Nat) : ∀ c ∈ Lib.decDigits u, digit c := by
  induction u using Nat.strongRecOn with
  | _ u ih =>
    rw [Lib.decDigits]
    split
    · rename_i h
      intro c hc
      obtain rfl := List.mem_singleton.1 hc
      unfold digit
      rw [dig_toNat h]; omega
    · rename_i h
      intro c hc
      rcases List.mem_append.1 hc with hc | hc
      · exact ih (u / 10) (by omega) c hc
      · obtain rfl := List.mem_singleton.1 hc
        unfold digit
        rw [dig_toNat (by omega)]; omega
theorem parse_val {M : Nat} (hM : M ≤ 4294967295) : ∀ (l : List UInt8) (acc : Nat), (∀ c ∈ l, digit c) → val acc l ≤ M → Lib.parseUintM M acc l = .ok (val acc l)
  | [], _, _, _ => rfl
  | c :: r, acc, hd, hv => by
    have h1 : ∀ (r : List UInt8) (a : Nat), a ≤ val a r := by
      intro r
      induction r with
      | nil => intro a; exact Nat.le_refl _
      | cons c r ih => intro a; exact Nat.le_trans (by omega) (ih (a * 10 + (c.toNat - 48)))
    have hv' : val (acc * 10 + (c.toNat - 48)) r ≤ M := hv
    have h2 := h1 r (acc * 10 + (c.toNat - 48))
    have h3 := hd c (by simp)
    unfold digit at h3
    rw [Lib.parseUintM, if_pos h3, if_neg (by omega), if_neg (by omega), parse_val hM r _ (fun c hc => hd c (by simp [hc])) hv']
    rfl
def pad (g : Nat) : List UInt8 := List.replicate (8 - Lib.nDigits g) 48 ++ Lib.decDigits g
theorem pad_val (g : Nat) : val 0 (pad g) = g := by rw [pad, val_append, val_zeros, val_dec]
theorem pad_digit (g : Nat) : ∀ c ∈ pad g, digit c := by
  intro c hc
  rcases List.mem_append.1 hc with hc | hc
  · obtain rfl := List.eq_of_mem_replicate hc
    unfold digit
    decide
  · exact dec_digit g c hc
theorem nDigits_le {g : Nat} (h : g < 100000000) : Lib.nDigits g ≤ 8 := by
  have : ∀ k u, u < 10 ^ (k + 1) → Lib.nDigits u ≤ k + 1 := by
    intro k
    induction k with
    | zero => intro u hu; rw [Lib.nDigits_small (by simpa using hu)]; omega
    | succ k ih =>
      intro u hu
      by_cases h : u < 10
      · rw [Lib.nDigits_small h]; omega
      · rw [Lib.nDigits_big h]
        have := ih (u / 10) (by rw [Nat.pow_succ] at hu; omega)
        omega
  exact this 7 g h
theorem pad_len {g : Nat} (h : g < 100000000) : (pad g).length = 8 := by
  have := nDigits_le h
  rw [pad, List.length_append, List.length_replicate, Lib.decDigits_length]
  omega
theorem parse_pad {g : Nat} (h : g < 100000000) : Lib.parseUintB 32 (pad g) = .ok g := by
  have hl := pad_len h
  have hne : pad g ≠ [] := fun e => by rw [e] at hl; simp at hl
  unfold Lib.parseUintB
  rw [if_neg hne, parse_val (by decide) _ _ (pad_digit g) (by rw [pad_val]; omega), pad_val]
theorem nameP_inj {g g' : Nat} (h : nameP g = nameP g') : g = g' := by
  have h1 : nameL g = nameL g' := by
    have := congrArg (fun b : ByteArray => b.data.toList) h
    simpa [nameP] using this
  have h2 : pad g = pad g' := by
    unfold nameL at h1
    exact List.append_cancel_left h1
  rw [← pad_val g, h2, pad_val]
theorem val_bound : ∀ (l : List UInt8) (a : Nat), (∀ c ∈ l, digit c) → a * 10 ^ l.length ≤ val a l ∧ val a l < (a + 1) * 10 ^ l.length
  | [], a, _ => by simp [val]
  | c :: r, a, h => by
    have h1 := h c (by simp)
    unfold digit at h1
    have ih := val_bound r (a * 10 + (c.toNat - 48)) (fun x hx => h x (by simp [hx]))
    have e : val a (c :: r) = val (a * 10 + (c.toNat - 48)) r := rfl
    rw [e, List.length_cons, Nat.pow_succ]
    constructor
    · refine Nat.le_trans ?_ ih.1
      rw [Nat.mul_comm (10 ^ r.length), ← Nat.mul_assoc]
      exact Nat.mul_le_mul_right _ (by omega)
    · refine Nat.lt_of_lt_of_le ih.2 ?_
      rw [Nat.mul_comm (10 ^ r.length), ← Nat.mul_assoc]
      exact Nat.mul_le_mul_right _ (by omega)
theorem val_lt : ∀ (l r : List UInt8) (a : Nat), l.length = r.length → (∀ c ∈ l, digit c) → (∀ c ∈ r, digit c) → val a l < val a r → l < r
  | [], [], a, _, _, _, h => absurd h (Nat.lt_irrefl _)
  | [], _ :: _, _, h, _, _, _ => by cases h
  | _ :: _, [], _, h, _, _, _ => by cases h
  | c :: l, d :: r, a, hl, hc, hd, h => by
    have c1 := hc c (by simp)
    have d1 := hd d (by simp)
    unfold digit at c1 d1
    have hl' : l.length = r.length := by simpa using hl
    rcases Nat.lt_trichotomy c.toNat d.toNat with hlt | heq | hgt
    · exact List.Lex.rel hlt
    · obtain rfl : c = d := UInt8.toNat_inj.1 heq
      exact List.Lex.cons (val_lt l r _ hl' (fun x hx => hc x (by simp [hx])) (fun x hx => hd x (by simp [hx])) h)
    · exfalso
      have b1 := (val_bound l (a * 10 + (c.toNat - 48)) (fun x hx => hc x (by simp [hx]))).1
      have b2 := (val_bound r (a * 10 + (d.toNat - 48)) (fun x hx => hd x (by simp [hx]))).2
      have b3 : (a * 10 + (d.toNat - 48) + 1) * 10 ^ r.length ≤ (a * 10 + (c.toNat - 48)) * 10 ^ l.length := by rw [hl']; exact Nat.mul_le_mul_right _ (by omega)
      have e1 : val a (c :: l) = val (a * 10 + (c.toNat - 48)) l := rfl
      have e2 : val a (d :: r) = val (a * 10 + (d.toNat - 48)) r := rfl
      omega
theorem nameP_lt {g g' : Nat} (h : g < g') (h' : g' < 100000000) : sLt (nameP g) (nameP g') = true := by
  rw [sLt_dec, decide_eq_true_eq]
  have h1 : pad g < pad g' := val_lt _ _ 0 (by rw [pad_len (by omega), pad_len h']) (pad_digit g) (pad_digit g') (by rw [pad_val, pad_val]; exact h)
  show nameL g < nameL g'
  exact List.Lex.cons (List.Lex.cons (List.Lex.cons (List.Lex.cons h1)))
theorem nameP_size {g : Nat} (h : g < 100000000) : (nameP g).size = 12 := by
  show (nameL g).toArray.size = 12
  rw [List.size_toArray, nameL, List.length_append]
  have := pad_len h
  unfold pad at this
  rw [this]
  rfl
theorem nameP_named {g : Nat} (h : g < 100000000) : namedB (nameP g) = true := by
  unfold namedB
  rw [Bool.and_eq_true, decide_eq_true_eq, nameP_size h]
  refine ⟨by omega, ?_⟩
  show (nameL g).all okc = true
  rw [List.all_eq_true]
  intro c hc
  have hd : ∀ c ∈ pad g, okc c = true := fun c hc => by
    have := pad_digit g c hc
    unfold digit at this
    unfold okc
    rw [decide_eq_true_eq]
    omega
  have h0 : ∀ c ∈ ([108, 111, 103, 45] : List UInt8), okc c = true := by decide
  rcases List.mem_append.1 hc with hc | hc
  · exact h0 c hc
  · exact hd c hc
end Go.Proofs.YtjnifnlkicajhaaDoor.Jn
