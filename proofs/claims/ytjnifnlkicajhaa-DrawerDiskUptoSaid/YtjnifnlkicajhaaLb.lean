/-
  The room of the law's lists: Ints. No condition is put on any statement here.
-/
import Derived.Test.YtjnifnlkicajhaaLa
namespace Go.Proofs.Ytjnifnlkicajhaa.La
open Go Vc Hp Fs Da Pm Dd Rd
set_option maxRecDepth 4000
theorem iII : (Try.prog.info? 35).map (fun i => (i.zero, i.size, i.bytes)) = some (some (.slice none 0 0), 1, 24) := by kernel_rfl
theorem iI : (Try.prog.info? 3).map (fun i => (i.zero, i.size, i.bytes)) = some (some (.int .i64 0), 1, 8) := by kernel_rfl
theorem one_i64 (b : List Int) : ∀ u ∈ b.map i64, u.oneCell' = true := by
  intro u hu
  obtain ⟨x, _, rfl⟩ := List.mem_map.1 hu
  rfl
theorem append_ints {w c k s x ns} {b : List Int} {K : Sl → World → Prop} (h : Row w c k 3 1 s (b.map i64)) (hx : Reads w 1 x (ns.map i64)) (hm : s.len + x.len ≤ 8796093022208)
    (hk : ∀ s' w' c', Row w' c' k 3 1 s' ((b ++ ns).map i64) → Chg (fun b => Sl.blk s = some b) w w' → Ext w c c' → (∀ g, Sl.blk s' = some g → Sl.blk s = some g ∨ w.heap.size ≤ g) → s'.len = s.len + x.len → K s' w') :
    rn Try.prog Sl.val (Builtin.append_ #[35, 35] 35 [s.val, x.val].toArray) w K :=
  append_any 35 Try.underlying35 iI rfl h hx (one_i64 ns) (by omega) (by rw [List.map_append] at hk; exact hk)

structure II (w : World) (c : Col) (k r : Nat) (d : List Int) (z : Sl) (v : World) (c' : Col) : Prop where
  row : Row v c' k 3 1 z (d.map i64)
  ch : Chg (fun _ => False) w v
  ex : Ext w c c'
  blk : ∀ g, Sl.blk z = some g → w.heap.size ≤ g
  some' : ∃ g, z.p = some ⟨g, 0, none⟩
theorem ints_spec {w c k r b i f bs is fs j x} {d : List Int} {Q : Sl → World → Prop} (h : Room w c k r b i f bs is fs) (hx : Src w c j 1 x (d.map i64)) (hd : d.length ≤ 1073741824) (his : is.length ≤ 1073741824)
    (H : ∀ w' c' s' i' full, Room w' c' k r b i' f bs (is ++ [full]) fs → Src w' c' k 1 s' (d.map i64) → Chg (fun g => g = r ∨ Sl.blk i = some g) w w' → Ext w c c' → Q s' w') : levyroom_Room_Ints (some ⟨r, 0, none⟩) x Q w := by
  have hxl : x.len = d.length := by have := hx.1.1; simp at this; omega
  -- the list of lists
  have k4 : ∀ z v c', II w c k r (d ++ imarks 20) z v c' → levyroom_Room_Ints.k4 (some ⟨r, 0, none⟩) x z Q v := by
    intro z v c' I
    have R := h.new I.ch I.ex
    have hzl : z.len = d.length + 40 := by
      have := I.row.1
      rw [List.length_map, List.length_append, imarks, marks_len] at this
      simp at this; omega
    have hzc := I.row.2.1
    unfold levyroom_Room_Ints.k4
    refine nn_some (ld_own (x := i) R.own rfl (al_own (c := c') k fun b9 w1 c1 o1 ch1 ex1 hb1 => ?_))
    have R1 := R.new ch1 ex1
    have src : Reads w1 1 ⟨some ⟨b9, 0, none⟩, 1, 1⟩ [z.val] := ⟨rfl, .inr ⟨_, rfl, fun j u hu => by
      have hj : j = 0 := by
        rcases j with _ | j
        · rfl
        · simp at hu
      subst hj
      rw [add_mk, o1.cell]
      simpa using hu⟩⟩
    have hbl : i.len = is.length := by have := h.ints.1; simp at this; omega
    have hfit : (i.len + (⟨some ⟨b9, 0, none⟩, 1, 1⟩ : Sl).len) * (24 + 1) ≤ 140737488355328 := by dsimp only; omega
    have hone : ∀ u ∈ [z.val], u.oneCell' = true := fun u hu => by rw [List.mem_singleton.1 hu]; rfl
    refine append_any (s := i) (x := ⟨some ⟨b9, 0, none⟩, 1, 1⟩) 44 Try.underlying44 iII rfl R1.ints src hone hfit fun i' w2 c2 hrow ch2 ex2 hbl2 hlen2 => ?_
    have hz1 := I.row.chg ch1 ex1 (fun _ _ => id)
    have neR : ∀ {t sz s vs}, Row w1 c1 k t sz s vs → t ≠ 35 → ∀ g, Sl.blk s = some g → ¬ Sl.blk i = some g := fun {t sz s vs} hr ht g hg hb => by
      obtain ⟨cs, ho⟩ := hr.blk hg
      obtain ⟨cs', ho'⟩ := R1.ints.blk hb
      exact ho.neT ho' ht rfl
    have or2 := R1.own.chg ch2 ex2 (fun hb => by
      obtain ⟨cs', ho'⟩ := R1.ints.blk hb
      exact R1.own.neT ho' (by decide) rfl)
    have hz2 := hz1.chg ch2 ex2 (neR hz1 (by decide))
    refine nn_some (st_own or2 (by simp) fun w3 or3 ch3 hs3 => ?_)
    have neO : ∀ {t sz s vs}, Row w2 c2 k t sz s vs → t ≠ 65 → ∀ g, Sl.blk s = some g → ¬ g = r := fun {t sz s vs} hr ht g hg e => by
      obtain ⟨cs, ho⟩ := hr.blk hg
      exact ho.neT or2 ht e
    have tr : ∀ {t sz s vs}, Row w1 c1 k t sz s vs → t ≠ 35 → t ≠ 65 → Row w3 c2 k t sz s vs := fun {t sz s vs} hr h1 h2 => by
      have h3 := hr.chg ch2 ex2 (neR hr h1)
      exact h3.chg ch3 (Ext.refl _ _) (neO h3 h2)
    have hb3 := hrow.chg ch3 (Ext.refl _ _) (neO hrow (by decide))
    have R3 : Room w3 c2 k r b i' f bs (is ++ [z]) fs := ⟨or3, tr R1.bytes (by decide) (by decide), by rw [List.map_append]; exact hb3, tr R1.files (by decide) (by decide),
      fun s hs => (R1.bAt s hs).imp fun _ hr => tr hr (by decide) (by decide),
      fun s hs => by
        rcases List.mem_append.1 hs with hs | hs
        · exact (R1.iAt s hs).imp fun _ hr => tr hr (by decide) (by decide)
        · rw [List.mem_singleton.1 hs]
          exact ⟨d, tr hz1 (by decide) (by decide)⟩,
      fun s hs => (R1.fAt s hs).imp fun _ hr => tr hr (by decide) (by decide)⟩
    have hz3 := tr hz1 (by decide) (by decide)
    refine ⟨by omega, by omega, by omega, by omega, ?_⟩
    rw [Int.toNat_natCast, Int.toNat_natCast, hxl]
    have hsrc := (Row.src hz3).take (n := d.length) (by omega) z.len
    rw [Nat.mul_one, List.map_append, List.take_left' (by simp)] at hsrc
    refine H w3 c2 _ i' z R3 hsrc ?_ ?_
    · have chA := fresh I.ch ch1 (fun _ => False.elim)
      exact ((chA.mono fun _ _ hh => hh.elim).trans (ch2.mono fun _ _ hh => .inr hh)).trans (ch3.mono fun _ _ hh => .inl hh)
    · exact (freshX (fresh I.ch ch1 (fun _ => False.elim)) (freshX I.ch I.ex ex1 ch1) ex2 ch2)
  -- two marks
  have step : ∀ {e : List Int} {z v c'} (ns : List Int) {K : Sl → World → Prop}, II w c k r e z v c' → e.length + ns.length ≤ 4294967296 → 0 < ns.length → (∀ s' w' c', II w c k r (e ++ ns) s' w' c' → K s' w') →
      al v (.cells (ns.map i64).toArray 3) fun a w1 => rn Try.prog Sl.val (Builtin.append_ #[35, 35] 35 [Sl.val z, .slice (some a) ns.length ns.length].toArray) w1 K := by
    intro e z v c' ns K I hl h0 hk
    refine al_own (c := c') k fun b9 w1 c1 o1 ch1 ex1 hb1 => ?_
    have hz := I.row.chg ch1 ex1 (fun _ _ => id)
    have hzl : z.len = e.length := by have := I.row.1; simp at this; omega
    have src : Reads w1 1 ⟨some ⟨b9, 0, none⟩, ns.length, ns.length⟩ (ns.map i64) := ⟨by simp, .inr ⟨_, rfl, fun j u hu => by rw [add_mk, Nat.zero_add, o1.cell, ← hu]; simp⟩⟩
    have hfit : z.len + (⟨some ⟨b9, 0, none⟩, ns.length, ns.length⟩ : Sl).len ≤ 8796093022208 := by dsimp only; omega
    refine append_ints (s := z) (x := ⟨some ⟨b9, 0, none⟩, ns.length, ns.length⟩) (b := e) (ns := ns) hz src hfit fun s' w2 c2 hrow ch2 ex2 hbl hlen => ?_
    have chA := fresh I.ch ch1 (fun _ => False.elim)
    have exA := freshX I.ch I.ex ex1 ch1
    refine hk s' w2 c2 ⟨hrow, fresh chA ch2 I.blk, freshX chA exA ex2 ch2, fun g hg => ?_, row_some hrow ?_⟩
    · rcases hbl g hg with h1 | h1
      · exact I.blk g h1
      · exact Nat.le_trans chA.size h1
    · have := hrow.2.1
      have : s'.len = z.len + ns.length := hlen
      omega
  have k3 : ∀ z v c', II w c k r d z v c' → levyroom_Room_Ints.k3 (some ⟨r, 0, none⟩) x z Q v := by
    intro z v c' I
    unfold levyroom_Room_Ints.k3
    refine Fix.intro (fun (z : Sl × Int) v => ∃ (n : Nat) (c' : Col), z.2 = ((2 * n : Nat) : Int) ∧ n ≤ 20 ∧ II w c k r (d ++ imarks n) z.1 v c') (fun z _ => 40 - z.2.toNat) ?_ ⟨0, c', rfl, Nat.zero_le _, by simpa [imarks] using I⟩
    rintro ⟨z, zi⟩ v K ⟨n, c', hzi, hn, I⟩ hK
    have hzi : zi = ((2 * n : Nat) : Int) := hzi
    subst hzi
    unfold levyroom_Room_Ints.l16
    dsimp only
    by_cases hlt : n < 20
    · rw [if_pos (by rw [decide_eq_true_eq]; omega)]
      refine step [-7701, -7702] I (by rw [List.length_append, imarks, marks_len]; simp; omega) (by simp) fun s' w' c'' I' => ?_
      rw [Da.wrap_small (i := ((2 * n : Nat) : Int) + 2) (by omega) (by omega)]
      refine hK _ _ ⟨n + 1, c'', by show ((2 * n : Nat) : Int) + 2 = ((2 * (n + 1) : Nat) : Int); omega, hlt, ?_⟩ (by show 40 - (((2 * n : Nat) : Int) + 2).toNat < 40 - ((2 * n : Nat) : Int).toNat; omega)
      rw [List.append_assoc] at I'
      unfold imarks at I' ⊢
      rw [marks_snoc]
      exact I'
    · rw [if_neg (by rw [decide_eq_true_eq]; omega)]
      have : n = 20 := by omega
      subst this
      exact k4 z v c' I
  unfold levyroom_Room_Ints
  refine al_own (c := c) k fun g w1 c1 o1 ch1 ex1 hg1 => ?_
  have start : II w c k r (d.take 0) ⟨some ⟨g, 0, none⟩, 0, 0⟩ w1 c1 := ⟨⟨rfl, Nat.le_refl _, Nat.zero_le _, .inr ⟨g, #[], rfl, o1, rfl, rfl⟩⟩, ch1, ex1, fun g' hg' => by
    obtain rfl : g = g' := Option.some.inj (show some g = some g' from hg')
    exact hg1, ⟨g, rfl⟩⟩
  refine Fix.intro (fun (z : Sl × Int) v => ∃ (n : Nat) (c' : Col), z.2 = (n : Int) ∧ n ≤ d.length ∧ II w c k r (d.take n) z.1 v c') (fun z _ => d.length - z.2.toNat) ?_ ⟨0, c1, rfl, Nat.zero_le _, start⟩
  rintro ⟨z, zi⟩ v K ⟨n, c', hzi, hn, I⟩ hK
  have hzi : zi = (n : Int) := hzi
  subst hzi
  unfold levyroom_Room_Ints.l24
  dsimp only
  by_cases hlt : n < d.length
  · rw [if_pos (by rw [decide_eq_true_eq]; omega)]
    have hxv := Reads.new hx.1 I.ch
    refine ix_ld (x := d[n]) hxv (by simp [hlt]) ?_
    refine step [d[n]] I (by simp; omega) (by simp) fun s' w' c'' I' => ?_
    rw [Da.wrap_small (i := (n : Int) + 1) (by omega) (by omega)]
    refine hK _ _ ⟨n + 1, c'', by show (n : Int) + 1 = ((n + 1 : Nat) : Int); omega, hlt, ?_⟩ (by show d.length - ((n : Int) + 1).toNat < d.length - (n : Int).toNat; omega)
    rw [List.take_succ_eq_append_getElem hlt]
    exact I'
  · rw [if_neg (by rw [decide_eq_true_eq]; omega)]
    have : n = d.length := by omega
    subst this
    rw [List.take_length] at I
    exact k3 z v c' I
end Go.Proofs.Ytjnifnlkicajhaa.La
