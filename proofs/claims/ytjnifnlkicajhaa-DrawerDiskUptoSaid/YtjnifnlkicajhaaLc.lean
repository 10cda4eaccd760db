/-
  The room of the law's lists: Files. No condition is put on any statement here.
-/
import Derived.Test.YtjnifnlkicajhaaLb
namespace Go.Proofs.Ytjnifnlkicajhaa.La
open Go Vc Hp Fs Da Pm Dd Rd
set_option maxRecDepth 4000

/-- a list of files of a room's: heads of blocks of its own -/
structure InF (w : World) (c : Col) (k : Nat) (s : Sl) (gl : List (AF × Sl)) : Prop where
  len : gl.length = s.len
  cap : s.len ≤ s.cap
  at' : ∃ g cs, s.p = some ⟨g, 0, none⟩ ∧ Own w c g k (.cells cs 74 (0, 0)) ∧ s.len * 3 ≤ cs.size ∧ cs.toList.take (s.len * 3) = fcells gl
  data : ∀ p ∈ gl, BSl w c k p.2 p.1.data
theorem InF.src {w c k s gl} (h : InF w c k s gl) : FSrc w c k s gl := by
  obtain ⟨g, cs, hp, ho, h1, h2⟩ := h.at'
  refine ⟨⟨⟨by rw [fcells_len, h.len], .inr ⟨_, hp, fun i u hu => ?_⟩⟩, fun a ha _ => ?_⟩, fun p hp => (h.data p hp).src⟩
  · rw [add_mk, Nat.zero_add, ho.cell]
    rw [← h2, List.getElem?_take] at hu
    split at hu
    · simpa using hu
    · cases hu
  · rw [hp] at ha
    obtain rfl := Option.some.inj ha
    exact ho.col
theorem iFF : (Try.prog.info? 22).map (fun i => (i.zero, i.size, i.bytes)) = some (some (.slice none 0 0), 1, 24) := by kernel_rfl

theorem Room.off74 {w c k r b i f bs is fs w' c' g cs M} (h : Room w c k r b i f bs is fs) (hc : Chg M w w') (he : Ext w c c') (hM : ∀ x, M x → x = g) (ho : Own w c g k (.cells cs 74 (0, 0))) (hfs : ∀ s ∈ fs, Sl.blk s ≠ some g) : Room w' c' k r b i f bs is fs := by
  have ne : ∀ {t sz s vs}, Row w c k t sz s vs → t ≠ 74 → ∀ x, Sl.blk s = some x → ¬ M x := fun {t sz s vs} hr ht x hx hm => by
    obtain ⟨cs', ho'⟩ := hr.blk hx
    exact ho'.neT ho ht (hM x hm)
  exact ⟨h.own.chg hc he (fun hm => h.own.neT ho (by decide) (hM _ hm)), h.bytes.chg hc he (ne h.bytes (by decide)), h.ints.chg hc he (ne h.ints (by decide)), h.files.chg hc he (ne h.files (by decide)),
    fun s hs => (h.bAt s hs).imp fun _ hr => hr.chg hc he (ne hr (by decide)), fun s hs => (h.iAt s hs).imp fun _ hr => hr.chg hc he (ne hr (by decide)),
    fun s hs => (h.fAt s hs).imp fun _ hr => hr.chg hc he (fun x hx hm => hfs s hs (by rw [hx, hM x hm]))⟩

structure FB (w : World) (c : Col) (k r : Nat) (i f : Sl) (is fs : List Sl) (nb : Nat) (gl : List (AF × Sl)) (tl : List (AF × Sl)) (z : Sl) (v : World) (c' : Col) (b : Sl) (bs : List Sl) : Prop where
  room : Room v c' k r b i f bs is fs
  row : Row v c' k 74 3 z (fcells (gl ++ tl))
  data : ∀ p ∈ gl, BSl v c' k p.2 p.1.data
  eff : Eff (· = k) w c v c'
  some' : ∃ g, z.p = some ⟨g, 0, none⟩
  new : ∀ g, Sl.blk z = some g → w.heap.size ≤ g
  cnt : bs.length = nb
theorem BSl.blkown {w c k s d g} (h : BSl w c k s d) (hg : Sl.blk s = some g) : ∃ cs, Own w c g k (.cells cs 5 (0, 0)) := by
  obtain ⟨g', cs, hp, ho, _⟩ := h.at'
  simp [Sl.blk, hp] at hg
  subst hg
  exact ⟨cs, ho⟩
theorem FB.new' {w c k r i f is fs nb gl tl z v c' b bs v2 c2} (I : FB w c k r i f is fs nb gl tl z v c' b bs) (hc : Chg (fun _ => False) v v2) (he : Ext v c' c2) : FB w c k r i f is fs nb gl tl z v2 c2 b bs :=
  ⟨I.room.new hc he, I.row.chg hc he (fun _ _ => id), fun p hp => (I.data p hp).chg hc he (fun _ _ => id), I.eff.new hc he, I.some', I.new, I.cnt⟩
/-- cells of files are laid behind -/
theorem FB.app {w c k r i f is fs nb gl tl z v c' b bs} {x : Sl} {ns : List (AF × Sl)} {K : Sl → World → Prop} (I : FB w c k r i f is fs nb gl tl z v c' b bs) (hold : ∀ s ∈ fs, ∀ g, Sl.blk s = some g → g < w.heap.size) (hx : Reads v 3 x (fcells ns)) (h0 : 0 < ns.length) (hl : gl.length + tl.length + ns.length ≤ 1099511627776)
    (hk : ∀ s' v2 c2, Room v2 c2 k r b i f bs is fs → Row v2 c2 k 74 3 s' (fcells (gl ++ tl ++ ns)) → (∀ q d, BSl v c' k q d → BSl v2 c2 k q d) → Eff (· = k) w c v2 c2 → (∃ g, s'.p = some ⟨g, 0, none⟩) → (∀ g, Sl.blk s' = some g → w.heap.size ≤ g) → K s' v2) :
    rn Try.prog Sl.val (Builtin.append_ #[22, 22] 22 [z.val, x.val].toArray) v K := by
  have hzl : z.len = gl.length + tl.length := by have := I.row.1; rw [fcells_len] at this; simp at this; omega
  have hxl : x.len = ns.length := by have := hx.1; rw [fcells_len] at this; omega
  obtain ⟨g, hg⟩ := I.some'
  obtain ⟨cs, og⟩ := I.row.blk (g := g) (by unfold Sl.blk; rw [hg]; rfl)
  have hzg : ∀ y, Sl.blk z = some y → y = g := fun y hy => by unfold Sl.blk at hy; rw [hg] at hy; exact (Option.some.inj hy).symm
  have hfit : (z.len + x.len) * (48 + 1) ≤ 140737488355328 := by omega
  refine append_any (s := z) (x := x) 22 Try.underlying22 iA rfl I.row hx (one_fcells ns) hfit fun s' v2 c2 hrow hch hex hbl hlen => ?_
  have e : fcells (gl ++ tl ++ ns) = fcells (gl ++ tl) ++ fcells ns := by unfold fcells; simp
  have hgn := I.new g (by unfold Sl.blk; rw [hg]; rfl)
  refine hk s' v2 c2 (I.room.off74 hch hex hzg og fun s hs he => ?_) (by rw [e]; exact hrow) (fun q d hq => hq.chg hch hex fun y hy hm => ?_) (I.eff.trans (Eff.of hch hex fun y _ hy => ?_)) ?_ fun y hy => ?_
  · have := hold s hs g he
    omega
  · obtain ⟨cs', ho'⟩ := hq.blkown hy
    exact ho'.neT og (by decide) (hzg y hm)
  · rw [hzg y hy]; exact og.col
  · rcases hrow.2.2.2 with ⟨e1, l0, _⟩ | ⟨g', _, hp', _⟩
    · omega
    · exact ⟨g', hp'⟩
  · rcases hbl y hy with h1 | h1
    · exact I.new y h1
    · exact Nat.le_trans I.eff.chg.size h1
theorem reads_at {w : World} {s : Sl} {fl : List (AF × Sl)} {a0 : Addr} {i off : Nat} {u : Value} (h : Reads w 3 s (fcells fl)) (hp : s.p = some a0) (hu : (fcells fl)[i * 3 + off]? = some u) : w.cell? ((a0.add (i * 3)).add off) = some u := by
  rcases h.2 with ⟨h1, _⟩ | ⟨a, h1, hh⟩
  · rw [h1] at hp; cases hp
  · rw [hp] at h1
    obtain rfl := Option.some.inj h1
    rw [Addr.add_add]
    exact hh _ _ hu

theorem files_spec {w c k r b i f bs is fs j x} {fl : List (AF × Sl)} {Q : Sl → World → Prop} (h : Room w c k r b i f bs is fs) (src : FSrc w c j x fl) (hj : j ≠ k) (hd : ∀ p ∈ fl, p.1.data.length ≤ 1073741824) (hbs : bs.length + fl.length ≤ 536870912) (hfs : fs.length ≤ 536870912)
    (H : ∀ w' c' s' b' f' bs' gl full, Room w' c' k r b' i f' bs' is (fs ++ [full]) → InF w' c' k s' gl → gl.map (·.1) = fl.map (·.1) → bs'.length = bs.length + fl.length → Eff (· = k) w c w' c' → Q s' w') : levyroom_Room_Files (some ⟨r, 0, none⟩) x Q w := by
  have hxl : x.len = fl.length := by have := src.row.1.1; rw [fcells_len] at this; omega
  have hold : ∀ s ∈ fs, ∀ g, Sl.blk s = some g → g < w.heap.size := fun s hs g hg => by
    obtain ⟨gl, hr⟩ := h.fAt s hs
    exact Row.lt hr hg
  generalize hNB : bs.length + fl.length = NB at H
  -- the list of lists
  have k4 : ∀ z v c' b bs gl, gl.map (·.1) = fl.map (·.1) → bs.length = NB → FB w c k r i f is fs (bs.length) gl (fmarks 20) z v c' b bs → levyroom_Room_Files.k4 (some ⟨r, 0, none⟩) x z Q v := by
    intro z v c' b bs gl hgl hnb I
    have R := I.room
    have hll : gl.length = fl.length := by have := congrArg List.length hgl; simpa using this
    have hzl : z.len = fl.length + 40 := by
      have := I.row.1
      rw [fcells_len, List.length_append, fmarks, marks_len] at this
      simp at this; omega
    have hzc := I.row.2.1
    unfold levyroom_Room_Files.k4
    refine nn_some (ld_own (x := f) R.own rfl (al_own (c := c') k fun b9 w1 c1 o1 ch1 ex1 hb1 => ?_))
    have I1 := I.new' ch1 ex1
    have R1 := I1.room
    have src : Reads w1 1 ⟨some ⟨b9, 0, none⟩, 1, 1⟩ [z.val] := ⟨rfl, .inr ⟨_, rfl, fun j u hu => by
      have hj : j = 0 := by
        rcases j with _ | j
        · rfl
        · simp at hu
      subst hj
      rw [add_mk, o1.cell]
      simpa using hu⟩⟩
    have hbl : f.len = fs.length := by have := h.files.1; simp at this; omega
    have hfit : (f.len + (⟨some ⟨b9, 0, none⟩, 1, 1⟩ : Sl).len) * (24 + 1) ≤ 140737488355328 := by dsimp only; omega
    have hone : ∀ u ∈ [z.val], u.oneCell' = true := fun u hu => by rw [List.mem_singleton.1 hu]; rfl
    refine append_any (s := f) (x := ⟨some ⟨b9, 0, none⟩, 1, 1⟩) 56 Try.underlying56 iFF rfl R1.files src hone hfit fun f' w2 c2 hrow ch2 ex2 hbl2 hlen2 => ?_
    have neR : ∀ {t sz s vs}, Row w1 c1 k t sz s vs → t ≠ 22 → ∀ g, Sl.blk s = some g → ¬ Sl.blk f = some g := fun {t sz s vs} hr ht g hg hb => by
      obtain ⟨cs, ho⟩ := hr.blk hg
      obtain ⟨cs', ho'⟩ := R1.files.blk hb
      exact ho.neT ho' ht rfl
    have or2 := R1.own.chg ch2 ex2 (fun hb => by
      obtain ⟨cs', ho'⟩ := R1.files.blk hb
      exact R1.own.neT ho' (by decide) rfl)
    refine nn_some (st_own or2 (by simp) fun w3 or3 ch3 hs3 => ?_)
    have neO : ∀ {t sz s vs}, Row w2 c2 k t sz s vs → t ≠ 65 → ∀ g, Sl.blk s = some g → ¬ g = r := fun {t sz s vs} hr ht g hg e => by
      obtain ⟨cs, ho⟩ := hr.blk hg
      exact ho.neT or2 ht e
    have tr : ∀ {t sz s vs}, Row w1 c1 k t sz s vs → t ≠ 22 → t ≠ 65 → Row w3 c2 k t sz s vs := fun {t sz s vs} hr h1 h2 => by
      have h3 := hr.chg ch2 ex2 (neR hr h1)
      exact h3.chg ch3 (Ext.refl _ _) (neO h3 h2)
    have trB : ∀ {q d}, BSl w1 c1 k q d → BSl w3 c2 k q d := fun {q d} hq => by
      refine (hq.chg ch2 ex2 fun g hg hb => ?_).chg ch3 (Ext.refl _ _) fun g hg e => ?_
      · obtain ⟨cs, ho⟩ := hq.blkown hg
        obtain ⟨cs', ho'⟩ := R1.files.blk hb
        exact ho.neT ho' (by decide) rfl
      · obtain ⟨cs, ho⟩ := hq.blkown hg
        exact ho.neT R1.own (by decide) e
    have hb3 := hrow.chg ch3 (Ext.refl _ _) (neO hrow (by decide))
    have hz3 := tr I1.row (by decide) (by decide)
    have R3 : Room w3 c2 k r b i f' bs is (fs ++ [z]) := ⟨or3, tr R1.bytes (by decide) (by decide), tr R1.ints (by decide) (by decide), by rw [List.map_append]; exact hb3,
      fun s hs => (R1.bAt s hs).imp fun _ hr => tr hr (by decide) (by decide),
      fun s hs => (R1.iAt s hs).imp fun _ hr => tr hr (by decide) (by decide),
      fun s hs => by
        rcases List.mem_append.1 hs with hs | hs
        · exact (R1.fAt s hs).imp fun _ hr => tr hr (by decide) (by decide)
        · rw [List.mem_singleton.1 hs]
          exact ⟨gl, hz3⟩⟩
    refine ⟨by omega, by omega, by omega, by omega, ?_⟩
    rw [Int.toNat_natCast, Int.toNat_natCast, hxl]
    obtain ⟨g, hg⟩ := I.some'
    have hp : (cutSl ⟨z.p, z.len, z.cap⟩ 3 0 fl.length z.len).p = z.p := by
      unfold cutSl
      dsimp only
      rw [if_neg (by omega), hg]
      simp [Addr.add]
    refine H w3 c2 _ b f' bs gl z R3 ⟨hll, by show fl.length ≤ z.len; omega, ?_, fun p hp => trB (I1.data p hp)⟩ hgl hnb ?_
    · rcases hz3.2.2.2 with ⟨e, _⟩ | ⟨g2, cs, hp2, ho2, hcs2, ht2⟩
      · rw [hg] at e; cases e
      · refine ⟨g2, cs, by rw [hp]; exact hp2, ho2, ?_, ?_⟩
        · show fl.length * 3 ≤ cs.size
          omega
        · show cs.toList.take (fl.length * 3) = fcells gl
          have : cs.toList.take (fl.length * 3) = (cs.toList.take (z.len * 3)).take (fl.length * 3) := by rw [List.take_take, Nat.min_eq_left (by omega)]
          rw [this, ht2, fcells_take, ← hll, List.take_left' rfl]
    · refine (I1.eff.trans (Eff.of ch2 ex2 fun g _ hg => ?_)).one ch3 (fun _ => or2.col)
      obtain ⟨cs', ho'⟩ := R1.files.blk hg
      exact ho'.col
  have k3 : ∀ z v c' b bs gl, gl.map (·.1) = fl.map (·.1) → bs.length = NB → FB w c k r i f is fs (bs.length) gl [] z v c' b bs → levyroom_Room_Files.k3 (some ⟨r, 0, none⟩) x z Q v := by
    intro z v c' b bs gl hgl hnb I
    have hll : gl.length = fl.length := by have := congrArg List.length hgl; simpa using this
    unfold levyroom_Room_Files.k3
    refine Fix.intro (fun (z : Sl × Int) v => ∃ (n : Nat) (c' : Col), z.2 = ((2 * n : Nat) : Int) ∧ n ≤ 20 ∧ FB w c k r i f is fs (bs.length) gl (fmarks n) z.1 v c' b bs) (fun z _ => 40 - z.2.toNat) ?_ ⟨0, c', rfl, Nat.zero_le _, I⟩
    rintro ⟨z, zi⟩ v K ⟨n, c', hzi, hn, I⟩ hK
    have hzi : zi = ((2 * n : Nat) : Int) := hzi
    subst hzi
    unfold levyroom_Room_Files.l16
    dsimp only
    by_cases hlt : n < 20
    · rw [if_pos (by rw [decide_eq_true_eq]; omega)]
      refine al_own (c := c') k fun b9 w1 c1 o1 ch1 ex1 hb1 => ?_
      have I1 := I.new' ch1 ex1
      have src : Reads w1 3 ⟨some ⟨b9, 0, none⟩, 2, 2⟩ (fcells [(⟨⟨#[]⟩, [], -7701⟩, noSl), (⟨⟨#[]⟩, [], -7702⟩, noSl)]) := ⟨rfl, .inr ⟨_, rfl, fun j u hu => by
        rw [add_mk, Nat.zero_add, o1.cell, ← hu]
        show (#[_, _, _, _, _, _] : Array Value)[j]? = ([_, _, _, _, _, _] : List Value)[j]?
        simp [noSl]⟩⟩
      refine I1.app (x := ⟨some ⟨b9, 0, none⟩, 2, 2⟩) hold src (by simp) (by rw [fmarks, marks_len]; simp; omega) fun s' w2 c2 R2 row2 tr2 E2 sm2 new2 => ?_
      rw [Da.wrap_small (i := ((2 * n : Nat) : Int) + 2) (by omega) (by omega)]
      refine hK _ _ ⟨n + 1, c2, by show ((2 * n : Nat) : Int) + 2 = ((2 * (n + 1) : Nat) : Int); omega, hlt, ⟨R2, ?_, fun p hp => tr2 _ _ (I1.data p hp), E2, sm2, new2, rfl⟩⟩ (by show 40 - (((2 * n : Nat) : Int) + 2).toNat < 40 - ((2 * n : Nat) : Int).toNat; omega)
      rw [List.append_assoc] at row2
      unfold fmarks at row2 ⊢
      rw [marks_snoc]
      exact row2
    · rw [if_neg (by rw [decide_eq_true_eq]; omega)]
      have : n = 20 := by omega
      subst this
      exact k4 z v c' b bs gl hgl hnb I
  unfold levyroom_Room_Files
  refine al_own (c := c) k fun g w1 c1 o1 ch1 ex1 hg1 => ?_
  have start : FB w c k r i f is fs (bs.length + 0) [] [] ⟨some ⟨g, 0, none⟩, 0, 0⟩ w1 c1 b bs := ⟨h.new ch1 ex1, ⟨rfl, Nat.le_refl _, Nat.zero_le _, .inr ⟨g, #[], rfl, o1, rfl, rfl⟩⟩, fun p hp => (by cases hp), (Eff.refl _ _ _).new ch1 ex1, ⟨g, rfl⟩, fun g' hg' => by
    obtain rfl : g = g' := Option.some.inj (show some g = some g' from hg')
    exact hg1, rfl⟩
  have hbs0 := hbs
  generalize bs.length = nb at hbs0 start hNB
  refine Fix.intro (fun (z : Sl × Int) v => ∃ (n : Nat) (c' : Col) (b : Sl) (bs : List Sl) (gl : List (AF × Sl)), z.2 = (n : Int) ∧ n ≤ fl.length ∧ gl.map (·.1) = (fl.take n).map (·.1) ∧ FB w c k r i f is fs (nb + n) gl [] z.1 v c' b bs) (fun z _ => fl.length - z.2.toNat) ?_ ⟨0, c1, b, bs, [], rfl, Nat.zero_le _, rfl, start⟩
  rintro ⟨z, zi⟩ v K ⟨n, c', b, bs, gl, hzi, hn, hgl, I⟩ hK
  have hzi : zi = (n : Int) := hzi
  subst hzi
  unfold levyroom_Room_Files.l24
  dsimp only
  have hgll : gl.length = n := by have := congrArg List.length hgl; simp at this; omega
  by_cases hlt : n < fl.length
  · rw [if_pos (by rw [decide_eq_true_eq]; omega)]
    have srcv := src.eff I.eff hj
    obtain ⟨e0, e1, e2⟩ := fcells_at hlt
    obtain ⟨a0, ha0⟩ : ∃ a0, x.p = some a0 := by
      rcases srcv.row.1.2 with ⟨_, h0⟩ | ⟨a, ha, _⟩
      · omega
      · exact ⟨a, ha⟩
    have hat : ∀ {K : Addr → Prop}, K (a0.add (n * 3)) → ix x.p x.len (n : Int) 3 K := fun {K} hk => ⟨a0, ha0, by omega, by omega, by rw [Int.toNat_natCast]; exact hk⟩
    have cells : ∀ {v' : World}, Reads v' 3 x (fcells fl) → (World.cell? v' ((a0.add (n * 3)).add 0) = some (.string fl[n].1.name) ∧ World.cell? v' ((a0.add (n * 3)).add 1) = some fl[n].2.val ∧ World.cell? v' ((a0.add (n * 3)).add 2) = some (.int .i64 fl[n].1.sure) ∧ True) :=
      fun hr => ⟨reads_at hr ha0 e0, reads_at hr ha0 e1, reads_at hr ha0 e2, trivial⟩
    have cv := cells srcv.row.1
    refine hat ⟨fl[n].1.name, cv.1, hat ⟨fl[n].2, cv.2.1, hat ⟨fl[n].1.sure, cv.2.2.1, ?_⟩⟩⟩
    have hsd := srcv.data _ (List.getElem_mem hlt)
    refine bytes_spec I.room.drew hsd.drew (hd _ (List.getElem_mem hlt)) (by have := I.cnt; omega) fun w2 c2 q b2 full R2 hq hqn ch2 ex2 => ?_
    have ch2 : Chg (fun g => g = r ∨ Sl.blk b = some g) v w2 := undrew ch2
    have ex2 : Ext v c' c2 := ex2
    have E2 := I.eff.trans (I.room.effB ch2 ex2)
    have s2 := src.eff E2 hj
    refine ⟨cells s2.row.1, ?_⟩
    refine al_own (c := c2) k fun b9 w3 c3 o3 ch3 ex3 hb3 => ?_
    have E3 := E2.new ch3 ex3
    have s3 := src.eff E3 hj
    refine ⟨cells s3.row.1, ?_⟩
    have row2 : Row w2 c2 k 74 3 z (fcells (gl ++ [])) := I.row.chg ch2 ex2 fun y hy hm => by
      obtain ⟨cs, ho⟩ := I.row.blk hy
      rcases hm with rfl | hm
      · exact ho.neT I.room.own (by decide) rfl
      · obtain ⟨cs', ho'⟩ := I.room.bytes.blk hm
        exact ho.neT ho' (by decide) rfl
    have data2 : ∀ p ∈ gl, BSl w2 c2 k p.2 p.1.data := fun p hp => (I.data p hp).chg ch2 ex2 fun y hy hm => by
      obtain ⟨cs, ho⟩ := (I.data p hp).blkown hy
      rcases hm with rfl | hm
      · exact ho.neT I.room.own (by decide) rfl
      · obtain ⟨cs', ho'⟩ := I.room.bytes.blk hm
        exact ho.neT ho' (by decide) rfl
    have I2 : FB w c k r i f is fs (nb + n + 1) gl [] z w2 c2 b2 (bs ++ [full]) := ⟨R2, row2, data2, E2, I.some', I.new, by rw [List.length_append, I.cnt]; rfl⟩
    have I3 := I2.new' ch3 ex3
    have hq3 := hq.chg ch3 ex3 (fun _ _ => id)
    have src3 : Reads w3 3 ⟨some ⟨b9, 0, none⟩, 1, 1⟩ (fcells [(fl[n].1, q)]) := ⟨rfl, .inr ⟨_, rfl, fun j u hu => by
      rw [add_mk, Nat.zero_add, o3.cell, ← hu]
      show (#[_, _, _] : Array Value)[j]? = ([_, _, _] : List Value)[j]?
      simp⟩⟩
    refine I3.app (x := ⟨some ⟨b9, 0, none⟩, 1, 1⟩) hold src3 (by simp) (by simp; omega) fun s' w4 c4 R4 row4 tr4 E4 sm4 new4 => ?_
    rw [Da.wrap_small (i := (n : Int) + 1) (by omega) (by omega)]
    refine hK _ _ ⟨n + 1, c4, b2, bs ++ [full], gl ++ [(fl[n].1, q)], by show (n : Int) + 1 = ((n + 1 : Nat) : Int); omega, hlt, ?_, ⟨R4, by simpa using row4, fun p hp => ?_, E4, sm4, new4, I2.cnt⟩⟩ (by show fl.length - ((n : Int) + 1).toNat < fl.length - (n : Int).toNat; omega)
    · rw [List.map_append, hgl, List.take_succ_eq_append_getElem hlt, List.map_append]
      rfl
    · rcases List.mem_append.1 hp with hp | hp
      · exact tr4 _ _ (I3.data p hp)
      · rw [List.mem_singleton.1 hp]
        exact tr4 _ _ hq3
  · rw [if_neg (by rw [decide_eq_true_eq]; omega)]
    have : n = fl.length := by omega
    subst this
    rw [List.take_length] at hgl
    have hc := I.cnt
    rw [← hc] at I
    exact k3 z v c' b bs gl hgl (by omega) I
end Go.Proofs.Ytjnifnlkicajhaa.La
