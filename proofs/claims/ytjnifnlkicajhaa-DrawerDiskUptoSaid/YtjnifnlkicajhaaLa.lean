/-
  The room of the law's lists: what it holds, and Bytes. No condition is put on any statement here.
-/
import Derived.Test.YtjnifnlkicajhaaRf
namespace Go.Proofs.Ytjnifnlkicajhaa.La
open Go Vc Hp Fs Da Pm Dd Rd
set_option maxRecDepth 4000

def bmarks (n : Nat) : List UInt8 := (List.replicate n [0xA5, 0x5A]).flatten
def imarks (n : Nat) : List Int := (List.replicate n [-7701, -7702]).flatten
def noSl : Sl := ⟨none, 0, 0⟩
def fmarks (n : Nat) : List (AF × Sl) := (List.replicate n [(⟨⟨#[]⟩, [], -7701⟩, noSl), (⟨⟨#[]⟩, [], -7702⟩, noSl)]).flatten
abbrev i64 (i : Int) : Value := .int .i64 i

theorem marks_snoc {α : Type} (l : List α) (n : Nat) : (List.replicate (n + 1) l).flatten = (List.replicate n l).flatten ++ l := by
  rw [List.replicate_succ', List.flatten_append]
  simp
theorem marks_len {α : Type} (l : List α) (n : Nat) : (List.replicate n l).flatten.length = n * l.length := by
  induction n with
  | zero => simp
  | succ n ih => rw [marks_snoc, List.length_append, ih, Nat.add_mul, Nat.one_mul]

def nils (n : Nat) : List Value := List.replicate n (.slice none 0 0)
/-- The room: its lists of lists, and what these hold. -/
structure Room (w : World) (c : Col) (k r : Nat) (b i f : Sl) (bs is fs : List Sl) : Prop where
  own : Own w c r k (.cells #[b.val, i.val, .slice none 0 0, .slice none 0 0, .slice none 0 0, .slice none 0 0, .slice none 0 0, .slice none 0 0, .slice none 0 0, .slice none 0 0, .slice none 0 0, .slice none 0 0, .slice none 0 0, f.val, .slice none 0 0, .slice none 0 0, .slice none 0 0, .slice none 0 0, .slice none 0 0, .slice none 0 0, .slice none 0 0] 65 (0, 0))
  bytes : Row w c k 34 1 b (bs.map Sl.val)
  ints : Row w c k 35 1 i (is.map Sl.val)
  files : Row w c k 22 1 f (fs.map Sl.val)
  bAt : ∀ s ∈ bs, ∃ d : List UInt8, Row w c k 5 1 s ((d ++ bmarks 300).map u8)
  iAt : ∀ s ∈ is, ∃ d : List Int, Row w c k 3 1 s ((d ++ imarks 20).map i64)
  fAt : ∀ s ∈ fs, ∃ gl : List (AF × Sl), Row w c k 74 3 s (fcells (gl ++ fmarks 20))

theorem Room.new {w c k r b i f bs is fs w' c'} (h : Room w c k r b i f bs is fs) (hc : Chg (fun _ => False) w w') (he : Ext w c c') : Room w' c' k r b i f bs is fs :=
  ⟨h.own.chg hc he id, h.bytes.chg hc he (fun _ _ => id), h.ints.chg hc he (fun _ _ => id), h.files.chg hc he (fun _ _ => id), fun s hs => (h.bAt s hs).imp fun _ hr => hr.chg hc he (fun _ _ => id), fun s hs => (h.iAt s hs).imp fun _ hr => hr.chg hc he (fun _ _ => id), fun s hs => (h.fAt s hs).imp fun _ hr => hr.chg hc he (fun _ _ => id)⟩
theorem Room.eff {w c k r b i f bs is fs j w' c'} (h : Room w c k r b i f bs is fs) (hc : Eff j w c w' c') (hj : ¬ j k) : Room w' c' k r b i f bs is fs :=
  ⟨h.own.eff hc hj, h.bytes.eff hc hj, h.ints.eff hc hj, h.files.eff hc hj, fun s hs => (h.bAt s hs).imp fun _ hr => hr.eff hc hj, fun s hs => (h.iAt s hs).imp fun _ hr => hr.eff hc hj, fun s hs => (h.fAt s hs).imp fun _ hr => hr.eff hc hj⟩
theorem Room.drew {w c k r b i f bs is fs} (h : Room w c k r b i f bs is fs) : Room w.drew c k r b i f bs is fs := h.eff (j := fun _ => False) (Eff.refl _ _ _).drew id

/-- bytes of a room's: the head of a block of its own -/
structure BSl (w : World) (c : Col) (k : Nat) (s : Sl) (d : List UInt8) : Prop where
  len : d.length = s.len
  cap : s.len ≤ s.cap
  at' : ∃ g cs, s.p = some ⟨g, 0, none⟩ ∧ Own w c g k (.cells cs 5 (0, 0)) ∧ s.len ≤ cs.size ∧ cs.toList.take s.len = d.map u8
theorem BSl.chg {w c k s d M w' c'} (h : BSl w c k s d) (hc : Chg M w w') (he : Ext w c c') (hm : ∀ g, Sl.blk s = some g → ¬ M g) : BSl w' c' k s d := by
  obtain ⟨g, cs, hp, ho, h1, h2⟩ := h.at'
  exact ⟨h.len, h.cap, g, cs, hp, ho.chg hc he (hm g (by simp [Sl.blk, hp])), h1, h2⟩
theorem BSl.src {w c k s d} (h : BSl w c k s d) : Src w c k 1 s (d.map u8) := by
  obtain ⟨g, cs, hp, ho, h1, h2⟩ := h.at'
  refine ⟨⟨by simp [h.len], .inr ⟨_, hp, fun i u hu => ?_⟩⟩, fun a ha _ => ?_⟩
  · rw [add_mk, Nat.zero_add, ho.cell]
    rw [← h2, List.getElem?_take] at hu
    split at hu
    · simpa using hu
    · cases hu
  · rw [hp] at ha
    obtain rfl := Option.some.inj ha
    exact ho.col
theorem iBB : (Try.prog.info? 34).map (fun i => (i.zero, i.size, i.bytes)) = some (some (.slice none 0 0), 1, 24) := by kernel_rfl

structure BI (w : World) (c : Col) (k r : Nat) (d : List UInt8) (z : Sl) (v : World) (c' : Col) : Prop where
  row : Row v c' k 5 1 z (d.map u8)
  ch : Chg (fun _ => False) w v
  ex : Ext w c c'
  blk : ∀ g, Sl.blk z = some g → w.heap.size ≤ g
  some' : ∃ g, z.p = some ⟨g, 0, none⟩
theorem row_some {w c k t sz s vs} (h : Row w c k t sz s vs) (h0 : 0 < s.cap) : ∃ g, s.p = some ⟨g, 0, none⟩ := by
  rcases h.2.2.2 with ⟨_, _, e⟩ | ⟨g, cs, hp, _⟩
  · omega
  · exact ⟨g, hp⟩

theorem bytes_spec {w c k r b i f bs is fs j x} {d : List UInt8} {Q : Sl → World → Prop} (h : Room w c k r b i f bs is fs) (hx : Src w c j 1 x (d.map u8)) (hd : d.length ≤ 1073741824) (hbs : bs.length ≤ 1073741824)
    (H : ∀ w' c' s' b' full, Room w' c' k r b' i f (bs ++ [full]) is fs → BSl w' c' k s' d → (∀ g, Sl.blk s' = some g → w.heap.size ≤ g) → Chg (fun g => g = r ∨ Sl.blk b = some g) w w' → Ext w c c' → Q s' w') : levyroom_Room_Bytes (some ⟨r, 0, none⟩) x Q w := by
  have hxl : x.len = d.length := by have := hx.1.1; simp at this; omega
  -- the list of lists
  have k4 : ∀ z v c', BI w c k r (d ++ bmarks 300) z v c' → levyroom_Room_Bytes.k4 (some ⟨r, 0, none⟩) x z Q v := by
    intro z v c' I
    have R := h.new I.ch I.ex
    have hzl : z.len = d.length + 600 := by
      have := I.row.1
      rw [List.length_map, List.length_append, bmarks, marks_len] at this
      simp at this; omega
    have hzc := I.row.2.1
    unfold levyroom_Room_Bytes.k4
    refine nn_some (ld_own (x := b) R.own rfl (al_own (c := c') k fun b9 w1 c1 o1 ch1 ex1 hb1 => ?_))
    have R1 := R.new ch1 ex1
    have src : Reads w1 1 ⟨some ⟨b9, 0, none⟩, 1, 1⟩ [z.val] := ⟨rfl, .inr ⟨_, rfl, fun j u hu => by
      have hj : j = 0 := by
        rcases j with _ | j
        · rfl
        · simp at hu
      subst hj
      rw [add_mk, o1.cell]
      simpa using hu⟩⟩
    have hbl : b.len = bs.length := by have := h.bytes.1; simp at this; omega
    have hfit : (b.len + (⟨some ⟨b9, 0, none⟩, 1, 1⟩ : Sl).len) * (24 + 1) ≤ 140737488355328 := by dsimp only; omega
    have hone : ∀ u ∈ [z.val], u.oneCell' = true := fun u hu => by rw [List.mem_singleton.1 hu]; rfl
    refine append_any (s := b) (x := ⟨some ⟨b9, 0, none⟩, 1, 1⟩) 43 Try.underlying43 iBB rfl R1.bytes src hone hfit fun b' w2 c2 hrow ch2 ex2 hbl2 hlen2 => ?_
    have hz1 := I.row.chg ch1 ex1 (fun _ _ => id)
    have neR : ∀ {t sz s vs}, Row w1 c1 k t sz s vs → t ≠ 34 → ∀ g, Sl.blk s = some g → ¬ Sl.blk b = some g := fun {t sz s vs} hr ht g hg hb => by
      obtain ⟨cs, ho⟩ := hr.blk hg
      obtain ⟨cs', ho'⟩ := R1.bytes.blk hb
      exact ho.neT ho' ht rfl
    have or2 := R1.own.chg ch2 ex2 (fun hb => by
      obtain ⟨cs', ho'⟩ := R1.bytes.blk hb
      exact R1.own.neT ho' (by decide) rfl)
    have hz2 := hz1.chg ch2 ex2 (neR hz1 (by decide))
    refine nn_some (st_own or2 (by simp) fun w3 or3 ch3 hs3 => ?_)
    have neO : ∀ {t sz s vs}, Row w2 c2 k t sz s vs → t ≠ 65 → ∀ g, Sl.blk s = some g → ¬ g = r := fun {t sz s vs} hr ht g hg e => by
      obtain ⟨cs, ho⟩ := hr.blk hg
      exact ho.neT or2 ht e
    have tr : ∀ {t sz s vs}, Row w1 c1 k t sz s vs → t ≠ 34 → t ≠ 65 → Row w3 c2 k t sz s vs := fun {t sz s vs} hr h1 h2 => by
      have h3 := hr.chg ch2 ex2 (neR hr h1)
      exact h3.chg ch3 (Ext.refl _ _) (neO h3 h2)
    have hb3 := hrow.chg ch3 (Ext.refl _ _) (neO hrow (by decide))
    have R3 : Room w3 c2 k r b' i f (bs ++ [z]) is fs := ⟨or3, by rw [List.map_append]; exact hb3, tr R1.ints (by decide) (by decide), tr R1.files (by decide) (by decide),
      fun s hs => by
        rcases List.mem_append.1 hs with hs | hs
        · exact (R1.bAt s hs).imp fun _ hr => tr hr (by decide) (by decide)
        · rw [List.mem_singleton.1 hs]
          exact ⟨d, tr hz1 (by decide) (by decide)⟩,
      fun s hs => (R1.iAt s hs).imp fun _ hr => tr hr (by decide) (by decide), fun s hs => (R1.fAt s hs).imp fun _ hr => tr hr (by decide) (by decide)⟩
    have hz3 := tr hz1 (by decide) (by decide)
    refine ⟨by omega, by omega, by omega, by omega, ?_⟩
    rw [Int.toNat_natCast, Int.toNat_natCast, hxl]
    obtain ⟨g, hg⟩ := I.some'
    have hp : (cutSl ⟨z.p, z.len, z.cap⟩ 1 0 d.length z.len).p = z.p := by
      unfold cutSl
      dsimp only
      rw [if_neg (by omega), hg]
      simp [Addr.add]
    refine H w3 c2 _ b' z R3 ⟨rfl, by show d.length ≤ z.len; omega, ?_⟩ (fun g' hg' => I.blk g' (by unfold Sl.blk at hg' ⊢; rw [hp] at hg'; exact hg')) ?_ ?_
    · rcases hz3.2.2.2 with ⟨e, _⟩ | ⟨g2, cs, hp2, ho2, hcs2, ht2⟩
      · rw [hg] at e; cases e
      · refine ⟨g2, cs, by rw [hp]; exact hp2, ho2, ?_, ?_⟩
        · show d.length ≤ cs.size
          omega
        · show cs.toList.take d.length = d.map u8
          rw [Nat.mul_one] at ht2
          have : cs.toList.take d.length = (cs.toList.take z.len).take d.length := by rw [List.take_take, Nat.min_eq_left (by omega)]
          rw [this, ht2, List.map_append]
          exact List.take_left' (by simp)
    · have chA := fresh I.ch ch1 (fun _ => False.elim)
      exact ((chA.mono fun _ _ hh => hh.elim).trans (ch2.mono fun _ _ hh => .inr hh)).trans (ch3.mono fun _ _ hh => .inl hh)
    · exact (freshX (fresh I.ch ch1 (fun _ => False.elim)) (freshX I.ch I.ex ex1 ch1) ex2 ch2)
  -- two marks
  have step : ∀ {e : List UInt8} {z v c'} (ns : List UInt8) {K : Sl → World → Prop}, BI w c k r e z v c' → e.length + ns.length ≤ 4294967296 → 0 < ns.length → (∀ s' w' c', BI w c k r (e ++ ns) s' w' c' → K s' w') →
      al v (.cells (ns.map u8).toArray 5) fun a w1 => rn Try.prog Sl.val (Builtin.append_ #[34, 34] 34 [Sl.val z, .slice (some a) ns.length ns.length].toArray) w1 K := by
    intro e z v c' ns K I hl h0 hk
    refine al_own (c := c') k fun b9 w1 c1 o1 ch1 ex1 hb1 => ?_
    have hz := I.row.chg ch1 ex1 (fun _ _ => id)
    have hzl : z.len = e.length := by have := I.row.1; simp at this; omega
    have src : Reads w1 1 ⟨some ⟨b9, 0, none⟩, ns.length, ns.length⟩ (ns.map u8) := ⟨by simp, .inr ⟨_, rfl, fun j u hu => by rw [add_mk, Nat.zero_add, o1.cell, ← hu]; simp⟩⟩
    have hfit : z.len + (⟨some ⟨b9, 0, none⟩, ns.length, ns.length⟩ : Sl).len ≤ 70368744177664 := by dsimp only; omega
    refine append_bytes (s := z) (x := ⟨some ⟨b9, 0, none⟩, ns.length, ns.length⟩) (b := e) (ns := ns) hz src hfit fun s' w2 c2 hrow ch2 ex2 hbl hlen => ?_
    have chA := fresh I.ch ch1 (fun _ => False.elim)
    have exA := freshX I.ch I.ex ex1 ch1
    refine hk s' w2 c2 ⟨hrow, fresh chA ch2 I.blk, freshX chA exA ex2 ch2, fun g hg => ?_, row_some hrow ?_⟩
    · rcases hbl g hg with h1 | h1
      · exact I.blk g h1
      · exact Nat.le_trans chA.size h1
    · have := hrow.2.1
      have : s'.len = z.len + ns.length := hlen
      omega
  have k3 : ∀ z v c', BI w c k r d z v c' → levyroom_Room_Bytes.k3 (some ⟨r, 0, none⟩) x z Q v := by
    intro z v c' I
    unfold levyroom_Room_Bytes.k3
    refine Fix.intro (fun (z : Sl × Int) v => ∃ (n : Nat) (c' : Col), z.2 = ((2 * n : Nat) : Int) ∧ n ≤ 300 ∧ BI w c k r (d ++ bmarks n) z.1 v c') (fun z _ => 600 - z.2.toNat) ?_ ⟨0, c', rfl, Nat.zero_le _, by simpa [bmarks] using I⟩
    rintro ⟨z, zi⟩ v K ⟨n, c', hzi, hn, I⟩ hK
    have hzi : zi = ((2 * n : Nat) : Int) := hzi
    subst hzi
    unfold levyroom_Room_Bytes.l16
    dsimp only
    by_cases hlt : n < 300
    · rw [if_pos (by rw [decide_eq_true_eq]; omega)]
      have e5 : (#[.int .u8 165, .int .u8 90] : Array Value) = ([(0xA5 : UInt8), (0x5A : UInt8)].map u8).toArray := by simp [u8]
      rw [e5]
      refine step [0xA5, 0x5A] I (by rw [List.length_append, bmarks, marks_len]; simp; omega) (by simp) fun s' w' c'' I' => ?_
      rw [Da.wrap_small (i := ((2 * n : Nat) : Int) + 2) (by omega) (by omega)]
      refine hK _ _ ⟨n + 1, c'', by show ((2 * n : Nat) : Int) + 2 = ((2 * (n + 1) : Nat) : Int); omega, hlt, ?_⟩ (by show 600 - (((2 * n : Nat) : Int) + 2).toNat < 600 - ((2 * n : Nat) : Int).toNat; omega)
      rw [List.append_assoc] at I'
      unfold bmarks at I' ⊢
      rw [marks_snoc]
      exact I'
    · rw [if_neg (by rw [decide_eq_true_eq]; omega)]
      have : n = 300 := by omega
      subst this
      exact k4 z v c' I
  unfold levyroom_Room_Bytes
  refine al_own (c := c) k fun g w1 c1 o1 ch1 ex1 hg1 => ?_
  have start : BI w c k r (d.take 0) ⟨some ⟨g, 0, none⟩, 0, 0⟩ w1 c1 := ⟨⟨rfl, Nat.le_refl _, Nat.zero_le _, .inr ⟨g, #[], rfl, o1, rfl, rfl⟩⟩, ch1, ex1, fun g' hg' => by
    obtain rfl : g = g' := Option.some.inj (show some g = some g' from hg')
    exact hg1, ⟨g, rfl⟩⟩
  refine Fix.intro (fun (z : Sl × Int) v => ∃ (n : Nat) (c' : Col), z.2 = (n : Int) ∧ n ≤ d.length ∧ BI w c k r (d.take n) z.1 v c') (fun z _ => d.length - z.2.toNat) ?_ ⟨0, c1, rfl, Nat.zero_le _, start⟩
  rintro ⟨z, zi⟩ v K ⟨n, c', hzi, hn, I⟩ hK
  have hzi : zi = (n : Int) := hzi
  subst hzi
  unfold levyroom_Room_Bytes.l24
  dsimp only
  by_cases hlt : n < d.length
  · rw [if_pos (by rw [decide_eq_true_eq]; omega)]
    have hxv := Reads.new hx.1 I.ch
    refine ix_ld (x := ((d[n].toNat : Nat) : Int)) hxv (by simp [hlt]) ?_
    refine step [d[n]] I (by simp; omega) (by simp) fun s' w' c'' I' => ?_
    rw [Da.wrap_small (i := (n : Int) + 1) (by omega) (by omega)]
    refine hK _ _ ⟨n + 1, c'', by show (n : Int) + 1 = ((n + 1 : Nat) : Int); omega, hlt, ?_⟩ (by show d.length - ((n : Int) + 1).toNat < d.length - (n : Int).toNat; omega)
    rw [List.take_succ_eq_append_getElem hlt]
    exact I'
  · rw [if_neg (by rw [decide_eq_true_eq]; omega)]
    have : n = d.length := by omega
    subst this
    rw [List.take_length] at I
    exact k3 z v c' I
theorem Room.effB {w c k r b i f bs is fs w' c'} (h : Room w c k r b i f bs is fs) (hc : Chg (fun g => g = r ∨ Sl.blk b = some g) w w') (he : Ext w c c') : Eff (· = k) w c w' c' := Eff.of hc he fun g _ hg => by
  rcases hg with rfl | hg
  · exact h.own.col
  · obtain ⟨cs', ho'⟩ := h.bytes.blk hg
    exact ho'.col
end Go.Proofs.Ytjnifnlkicajhaa.La
