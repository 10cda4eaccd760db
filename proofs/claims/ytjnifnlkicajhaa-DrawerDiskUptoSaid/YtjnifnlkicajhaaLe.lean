/-
  The law's own small functions: Hold, sameBytes, sameFiles. No condition is put on any statement here.
-/
import Derived.Test.YtjnifnlkicajhaaLd
import Derived.Laws.IdiomStrings
import Derived.Laws.BytesArg
namespace Go.Proofs.Ytjnifnlkicajhaa.La
open Go Vc Hp Fs Da Pm Dd Rd
set_option maxRecDepth 4000

theorem Hold_spec {w c k r b i f bs is fs} {Q : Bool → World → Prop} (R0 : Room w c k r b i f bs is fs) (hbl : bs.length ≤ 1099511627776) (hil : is.length ≤ 1099511627776) (hfl : fs.length ≤ 1099511627776)
    (H : ∀ w' c', Chg (fun _ => False) w w' → Ext w c c' → Q true w') : levyroom_Room_Hold (some ⟨r, 0, none⟩) Q w := by
  unfold levyroom_Room_Hold
  refine holdbytes_spec R0 hbl fun w1 c1 ch1 ex1 => ?_
  have R1 := R0.new ch1 ex1
  have T1 := ch1
  have X1 := ex1
  rw [if_pos rfl]
  refine holdints_spec R1 hil fun w2 c2 ch2 ex2 => ?_
  have R2 := R1.new ch2 ex2
  have T2 := fresh T1 ch2 (fun _ => False.elim)
  have X2 := freshX T1 X1 ex2 ch2
  rw [if_pos rfl]
  refine holdcells_spec R2 fun w3 c3 ch3 ex3 => ?_
  have R3 := R2.new ch3 ex3
  have T3 := fresh T2 ch3 (fun _ => False.elim)
  have X3 := freshX T2 X2 ex3 ch3
  rw [if_pos rfl]
  refine holdbools_spec R3 fun w4 c4 ch4 ex4 => ?_
  have R4 := R3.new ch4 ex4
  have T4 := fresh T3 ch4 (fun _ => False.elim)
  have X4 := freshX T3 X3 ex4 ch4
  rw [if_pos rfl]
  refine holdtexts_spec R4 fun w5 c5 ch5 ex5 => ?_
  have R5 := R4.new ch5 ex5
  have T5 := fresh T4 ch5 (fun _ => False.elim)
  have X5 := freshX T4 X4 ex5 ch5
  rw [if_pos rfl]
  refine holdvalues_spec R5 fun w6 c6 ch6 ex6 => ?_
  have R6 := R5.new ch6 ex6
  have T6 := fresh T5 ch6 (fun _ => False.elim)
  have X6 := freshX T5 X5 ex6 ch6
  rw [if_pos rfl]
  refine holdbands_spec R6 fun w7 c7 ch7 ex7 => ?_
  have R7 := R6.new ch7 ex7
  have T7 := fresh T6 ch7 (fun _ => False.elim)
  have X7 := freshX T6 X6 ex7 ch7
  unfold levyroom_Room_Hold.k1
  refine holdtokens_spec R7 fun w8 c8 ch8 ex8 => ?_
  have R8 := R7.new ch8 ex8
  have T8 := fresh T7 ch8 (fun _ => False.elim)
  have X8 := freshX T7 X7 ex8 ch8
  rw [if_pos rfl]
  refine holdreads_spec R8 fun w9 c9 ch9 ex9 => ?_
  have R9 := R8.new ch9 ex9
  have T9 := fresh T8 ch9 (fun _ => False.elim)
  have X9 := freshX T8 X8 ex9 ch9
  rw [if_pos rfl]
  refine holdconflicts_spec R9 fun w10 c10 ch10 ex10 => ?_
  have R10 := R9.new ch10 ex10
  have T10 := fresh T9 ch10 (fun _ => False.elim)
  have X10 := freshX T9 X9 ex10 ch10
  rw [if_pos rfl]
  refine holdpoints_spec R10 fun w11 c11 ch11 ex11 => ?_
  have R11 := R10.new ch11 ex11
  have T11 := fresh T10 ch11 (fun _ => False.elim)
  have X11 := freshX T10 X10 ex11 ch11
  rw [if_pos rfl]
  refine holdnodes_spec R11 fun w12 c12 ch12 ex12 => ?_
  have R12 := R11.new ch12 ex12
  have T12 := fresh T11 ch12 (fun _ => False.elim)
  have X12 := freshX T11 X11 ex12 ch12
  rw [if_pos rfl]
  refine holdrecords_spec R12 fun w13 c13 ch13 ex13 => ?_
  have R13 := R12.new ch13 ex13
  have T13 := fresh T12 ch13 (fun _ => False.elim)
  have X13 := freshX T12 X12 ex13 ch13
  rw [if_pos rfl]
  refine holdfiles_spec R13 hfl fun w14 c14 ch14 ex14 => ?_
  have R14 := R13.new ch14 ex14
  have T14 := fresh T13 ch14 (fun _ => False.elim)
  have X14 := freshX T13 X13 ex14 ch14
  unfold levyroom_Room_Hold.k2
  refine holdexprs_spec R14 fun w15 c15 ch15 ex15 => ?_
  have R15 := R14.new ch15 ex15
  have T15 := fresh T14 ch15 (fun _ => False.elim)
  have X15 := freshX T14 X14 ex15 ch15
  rw [if_pos rfl]
  refine holdclauses_spec R15 fun w16 c16 ch16 ex16 => ?_
  have R16 := R15.new ch16 ex16
  have T16 := fresh T15 ch16 (fun _ => False.elim)
  have X16 := freshX T15 X15 ex16 ch16
  rw [if_pos rfl]
  refine holdlines_spec R16 fun w17 c17 ch17 ex17 => ?_
  have R17 := R16.new ch17 ex17
  have T17 := fresh T16 ch17 (fun _ => False.elim)
  have X17 := freshX T16 X16 ex17 ch17
  rw [if_pos rfl]
  refine holdchecks_spec R17 fun w18 c18 ch18 ex18 => ?_
  have R18 := R17.new ch18 ex18
  have T18 := fresh T17 ch18 (fun _ => False.elim)
  have X18 := freshX T17 X17 ex18 ch18
  rw [if_pos rfl]
  refine holdoptions_spec R18 fun w19 c19 ch19 ex19 => ?_
  have R19 := R18.new ch19 ex19
  have T19 := fresh T18 ch19 (fun _ => False.elim)
  have X19 := freshX T18 X18 ex19 ch19
  rw [if_pos rfl]
  refine holdtables_spec R19 fun w20 c20 ch20 ex20 => ?_
  have R20 := R19.new ch20 ex20
  have T20 := fresh T19 ch20 (fun _ => False.elim)
  have X20 := freshX T19 X19 ex20 ch20
  rw [if_pos rfl]
  refine holdgroups_spec R20 fun w21 c21 ch21 ex21 => ?_
  have R21 := R20.new ch21 ex21
  have T21 := fresh T20 ch21 (fun _ => False.elim)
  have X21 := freshX T20 X20 ex21 ch21
  unfold levyroom_Room_Hold.k3 levyroom_Room_Hold.k4
  rw [if_pos rfl, if_pos rfl]
  exact H _ _ T21 X21

theorem str_of {w : World} {x : Sl} {d : List UInt8} (h : Reads w 1 x (d.map u8)) : (convert 34 9 (Sl.val x)).run Try.prog w = .ok (.string ⟨d.toArray⟩) w := by
  have hl : x.len = d.length := by have := h.1; simp at this; omega
  unfold Sl.val
  rcases h.2 with ⟨hp, h0⟩ | ⟨a, hp, hh⟩
  · rw [hp, run_convert_bytes_nil w 34 5 Try.underlying34 Try.underlying5 _ _ 9 Try.underlying9]
    have : d = [] := List.eq_nil_of_length_eq_zero (by omega)
    subst this
    rfl
  · rw [hp, hl]
    exact run_convert_bytes_back w 34 9 5 a _ d Try.underlying34 Try.underlying5 Try.underlying9 (fun j hj => hh j _ (by simp [hj]))
theorem sameBytes_spec {w : World} {x y : Sl} {d e : List UInt8} {Q : Bool → World → Prop} (hx : Reads w 1 x (d.map u8)) (hy : Reads w 1 y (e.map u8)) (H : Q (decide (d = e)) w) : levylaw19_sameBytes x y Q w := by
  unfold levylaw19_sameBytes
  refine ⟨_, w, str_of hx, _, w, str_of hy, ?_⟩
  have : sEq ⟨d.toArray⟩ ⟨e.toArray⟩ = decide (d = e) := by
    rw [sEq_eq, Bool.eq_iff_iff, decide_eq_true_eq, decide_eq_true_eq]
    refine ⟨fun h => ?_, fun h => by rw [h]⟩
    injection h with h
    simpa using congrArg Array.toList h
  dsimp only
  rw [this]
  exact H
/-- lists that say the same -/
theorem sameFiles_spec {w : World} {c1 c2 : Col} {j1 j2 : Nat} {x y : Sl} {gl hl : List (AF × Sl)} {Q : Bool → World → Prop} (hx : FSrc w c1 j1 x gl) (hy : FSrc w c2 j2 y hl) (hs : gl.map (·.1) = hl.map (·.1)) (hb : gl.length ≤ 1099511627776)
    (H : ∀ w', w' = w ∨ (Chg (fun _ => False) w w' ∧ w'.heap = w.heap) → Q true w') : levylaw19_sameFiles x y Q w := by
  have hxl : x.len = gl.length := by have := hx.row.1.1; rw [fcells_len] at this; omega
  have hyl : y.len = hl.length := by have := hy.row.1.1; rw [fcells_len] at this; omega
  have hll : gl.length = hl.length := by have := congrArg List.length hs; simpa using this
  unfold levylaw19_sameFiles
  rw [if_neg (by rw [hxl, hyl, hll]; simp)]
  refine Fix.intro (fun (z : Int) v => (Chg (fun _ => False) w v ∧ v.heap = w.heap) ∧ ∃ i : Nat, z = i ∧ i ≤ gl.length) (fun z _ => gl.length - z.toNat) ?_ ⟨⟨Chg.refl _ _, rfl⟩, 0, rfl, Nat.zero_le _⟩
  rintro z v K ⟨⟨hc, hh⟩, i, rfl, hi⟩ hK
  have rd : ∀ {sz s vs}, Reads w sz s vs → Reads v.drew sz s vs := fun h => Reads.new h hc.drew
  unfold levylaw19_sameFiles.l6
  by_cases hlt : i < gl.length
  · rw [if_pos (by rw [decide_eq_true_eq]; omega)]
    have hlt2 : i < hl.length := by omega
    have he : gl[i].1 = hl[i].1 := by
      have : (gl.map (·.1))[i]'(by simpa using hlt) = (hl.map (·.1))[i]'(by simpa using hlt2) := by simp only [hs]
      simpa using this
    obtain ⟨a0, a1, a2⟩ := fcells_at hlt
    obtain ⟨b0, b1, b2⟩ := fcells_at hlt2
    refine ix_f (w := v.drew) (off := 0) (rd hx.row.1) hlt a0 (ix_f (w := v.drew) (off := 0) (rd hy.row.1) hlt2 b0 ?_)
    rw [he, if_pos (by rw [sEq_eq]; simp)]
    refine ix_f (w := v.drew) (off := 2) (rd hx.row.1) hlt a2 (ix_f (w := v.drew) (off := 2) (rd hy.row.1) hlt2 b2 ?_)
    rw [he, if_neg (by simp)]
    refine ix_f (w := v.drew) (off := 1) (rd hx.row.1) hlt a1 (ix_f (w := v.drew) (off := 1) (rd hy.row.1) hlt2 b1 ?_)
    have hdx := rd (hx.data _ (List.getElem_mem hlt)).1
    have hdy := rd (hy.data _ (List.getElem_mem hlt2)).1
    rw [he] at hdx
    refine sameBytes_spec hdx hdy ?_
    unfold levylaw19_sameFiles.k10
    rw [if_neg (by simp), Da.wrap_small (i := (i : Int) + 1) (by omega) (by omega)]
    exact hK _ _ ⟨⟨hc.drew, hh⟩, i + 1, by omega, hlt⟩ (by omega)
  · rw [if_neg (by rw [decide_eq_true_eq]; omega)]
    unfold levylaw19_sameFiles.k5
    exact H v (.inr ⟨hc, hh⟩)
end Go.Proofs.Ytjnifnlkicajhaa.La
