/-
  The journal as it is found on the disk: seek. No condition is put on any statement here.
-/
import Derived.Test.YtjnifnlkicajhaaDoorJf
import Derived.Test.YtjnifnlkicajhaaDoorDi
namespace Go.Proofs.YtjnifnlkicajhaaDoor.Jn
open Go Vc Hp Fs Da Pm Dd
set_option maxRecDepth 4000

def cells7 (j : JF) (s1 s2 : Sl) (size : Nat) : List Value := [.int .i64 (j.gen : Int), .int .u32 (j.sum : Int), s1.val, s2.val, .int .i64 (size : Int), .int .i64 (j.all : Int), .int .i64 (j.sure : Int)]
/-- what is found, in a block of its own -/
structure Found (w : World) (c : Col) (kk b : Nat) (j : JF) (s1 s2 : Sl) (rl : List (Rec × Sl)) : Prop where
  own : Own w c b kk (.cells (cells7 j s1 s2 (j.size + sizeR (rl.map (·.1)))).toArray 82 (0, 0))
  sm : Row w c kk 5 1 s1 (j.summary.map u8)
  recs : RRow w c kk s2 rl
theorem Found.new {w c kk b j s1 s2 rl w' c'} (h : Found w c kk b j s1 s2 rl) (hc : Chg (fun _ => False) w w') (he : Ext w c c') : Found w' c' kk b j s1 s2 rl := ⟨h.own.chg hc he id, h.sm.chg hc he (fun _ _ => id), h.recs.new hc he⟩
theorem Found.far {w c kk b j s1 s2 rl w' c'} (h : Found w c kk b j s1 s2 rl) (S : Sofar w c w' c') : Found w' c' kk b j s1 s2 rl := h.new S.ch S.ex
theorem Found.drew {w c kk b j s1 s2 rl} (h : Found w c kk b j s1 s2 rl) : Found w.drew c kk b j s1 s2 rl := ⟨h.own.drew, h.sm.drew, h.recs.drew⟩
/-- another block of cells turns, not bytes and not records -/
theorem Found.off {w c kk b j s1 s2 rl w' g k' cs t} (h : Found w c kk b j s1 s2 rl) (hc : Chg (· = g) w w') (ho : Own w c g k' (.cells cs t (0, 0))) (hb : b ≠ g) (h1 : t ≠ 37) (h2 : t ≠ 5) : Found w' c kk b j s1 s2 rl :=
  ⟨h.own.chg' hc hb, Row.off h.sm hc ho (.inl h2), h.recs.off hc ho (.inl h1) (.inl h2)⟩

theorem mentions {w c k d m L A es cl} (hD : DDisk w c k d m L A) (hM : MapS w c m k es cl (L.map FE.ent)) {e : MapEntry} (he : e ∈ es.toList) : ∃ f ∈ L, e.key = .string f.name ∧ e.val = .pointer (some ⟨f.fb, 0, none⟩) ∧ f.pf ∈ A.files := by
  have := hM.ents
  unfold ent at this
  have h2 : (e.key, e.val) ∈ es.toList.map (fun e => (e.key, e.val)) := List.mem_map.2 ⟨e, he, rfl⟩
  rw [this] at h2
  obtain ⟨p, hp, hpe⟩ := List.mem_map.1 h2
  obtain ⟨f, hf, rfl⟩ := List.mem_map.1 hp
  exact ⟨f, hf, (Prod.mk.inj hpe).1.symm, (Prod.mk.inj hpe).2.symm, hD.perm.mem_iff.1 (List.mem_map.2 ⟨f, hf, rfl⟩)⟩

section
variable {w : World} {c : Col} {k d m kk : Nat} {L : List FE} {A : PD} {Q : Int → Int → Sl → Sl → Int → Int → Int → World → Prop}

/-- what is found is handed on -/
theorem seek_out {v c' jb rb cs j s1 s2 rl} (S : Sofar w c v c') (F : Found v c' kk jb j s1 s2 rl) (o : Own v c' rb kk (.cells cs 82 (0, 0))) (hcs : cs.size = 7) (hne : jb ≠ rb) (hg : w.heap.size ≤ rb)
    (H : ∀ w', Found w' c' kk jb j s1 s2 rl → Sofar w c w' c' → Q j.gen j.sum s1 s2 (j.size + sizeR (rl.map (·.1)) : Nat) j.all j.sure w') {K : World → Prop}
    (hK : K = fun w => ld (Value.int .i64) w (Addr.add ⟨rb, 0, none⟩ 0) fun r0 => ld (Value.int .u32) w (Addr.add ⟨rb, 0, none⟩ 1) fun r1 => ld Sl.val w (Addr.add ⟨rb, 0, none⟩ 2) fun r2 => ld Sl.val w (Addr.add ⟨rb, 0, none⟩ 3) fun r3 => ld (Value.int .i64) w (Addr.add ⟨rb, 0, none⟩ 4) fun r4 => ld (Value.int .i64) w (Addr.add ⟨rb, 0, none⟩ 5) fun r5 => ld (Value.int .i64) w (Addr.add ⟨rb, 0, none⟩ 6) fun r6 => Q r0 r1 r2 r3 r4 r5 r6 w) :
    ld (Value.int .i64) v (Addr.add ⟨jb, 0, none⟩ 0) fun a0 => ld (Value.int .u32) v (Addr.add ⟨jb, 0, none⟩ 1) fun a1 => ld Sl.val v (Addr.add ⟨jb, 0, none⟩ 2) fun a2 => ld Sl.val v (Addr.add ⟨jb, 0, none⟩ 3) fun a3 => ld (Value.int .i64) v (Addr.add ⟨jb, 0, none⟩ 4) fun a4 => ld (Value.int .i64) v (Addr.add ⟨jb, 0, none⟩ 5) fun a5 => ld (Value.int .i64) v (Addr.add ⟨jb, 0, none⟩ 6) fun a6 =>
      stN v ⟨rb, 0, none⟩ [.int .i64 a0, .int .u32 a1, Sl.val a2, Sl.val a3, .int .i64 a4, .int .i64 a5, .int .i64 a6] K := by
  subst hK
  refine ld_own F.own rfl (ld_own F.own rfl (ld_own F.own rfl (ld_own F.own rfl (ld_own F.own rfl (ld_own F.own rfl (ld_own F.own rfl ?_))))))
  refine stN_own o (by rw [hcs]; rfl) fun w' o' ch _ => ?_
  refine ld_own o' rfl (ld_own o' rfl (ld_own o' rfl (ld_own o' rfl (ld_own o' rfl (ld_own o' rfl (ld_own o' rfl ?_))))))
  exact H w' (F.off ch o hne (by decide) (by decide)) (S.own ch hg)

/-- the second half's state: some records are read -/
structure RI (w : World) (c : Col) (kk jb rb : Nat) (j : JF) (s1 : Sl) (data : List UInt8) (all : List Rec) (v : World) (c' : Col) (s2 : Sl) (rl : List (Rec × Sl)) (fuel : Nat) : Prop where
  far : Sofar w c v c'
  found : Found v c' kk jb j s1 s2 rl
  res : Own v c' rb kk (.cells (cells7 JF.none ⟨none, 0, 0⟩ ⟨none, 0, 0⟩ 0).toArray 82 (0, 0))
  what : all = rl.map (·.1) ++ reads j.sum fuel (data.drop (j.size + sizeR (rl.map (·.1)))) (rl.length + 1)
  le : j.size + sizeR (rl.map (·.1)) ≤ data.length
  fu : data.length < fuel + (j.size + sizeR (rl.map (·.1)))
  new2 : ∀ g, Sl.blk s2 = some g → w.heap.size ≤ g

theorem RI.step {jb rb j s1 v c' v2 c2 s2 rl fuel} {data : List UInt8} {all : List Rec} (R : RI w c kk jb rb j s1 data all v c' s2 rl fuel) (S : Sofar v c' v2 c2) : RI w c kk jb rb j s1 data all v2 c2 s2 rl fuel :=
  ⟨R.far.new S.ch S.ex, R.found.far S, R.res.chg S.ch S.ex id, R.what, R.le, R.fu, R.new2⟩
theorem RI.drew {jb rb j s1 v c' s2 rl fuel} {data : List UInt8} {all : List Rec} (R : RI w c kk jb rb j s1 data all v c' s2 rl fuel) : RI w c kk jb rb j s1 data all v.drew c' s2 rl fuel :=
  ⟨R.far.drew, R.found.drew, R.res.drew, R.what, R.le, R.fu, R.new2⟩
theorem RI.put {jb rb j s1 v c' v2 s2 rl fuel g cs} {data : List UInt8} {all : List Rec} (R : RI w c kk jb rb j s1 data all v c' s2 rl fuel) (o : Own v c' g kk (.cells cs 37 (0, 0))) (hs : ∀ b, Sl.blk s2 = some b → b ≠ g) (hg : w.heap.size ≤ g) (hc : Chg (· = g) v v2) :
    RI w c kk jb rb j s1 data all v2 c' s2 rl fuel := by
  refine ⟨R.far.own hc hg, ⟨R.found.own.chg' hc (R.found.own.neT o (by decide)), Row.off R.found.sm hc o (.inl (by decide)), ?_⟩, R.res.chg' hc (R.res.neT o (by decide)), R.what, R.le, R.fu, R.new2⟩
  refine R.found.recs.chg hc (Ext.refl _ _) (fun b hb hh => hs b hb hh) (fun p hp b hb hh => ?_)
  obtain ⟨cs', ho'⟩ := (R.found.recs.data p hp).blk hb
  exact ho'.neT o (by decide) hh
theorem seek_k21 {jb rb j s1 v c' s2 rl fuel} {data : List UInt8} {all : List Rec} {x72 : Sl} {K : World → Prop} {g : Nat} (R : RI w c kk jb rb j s1 data all v c' s2 rl (fuel + 1)) (hne : jb ≠ rb) (hj : w.heap.size ≤ jb) (hr : w.heap.size ≤ rb) (hd : data.length ≤ 2097152) (hsm : j.sum < 4294967296)
    (H : ∀ w' c' s2 rl, Found w' c' kk jb j s1 s2 rl → rl.map (·.1) = all → Sofar w c w' c' → Q j.gen j.sum s1 s2 (j.size + sizeR all : Nat) j.all j.sure w')
    (hK : ∀ v c' s2 rl' fuel, RI w c kk jb rb j s1 data all v c' s2 rl' fuel → sizeR (rl.map (·.1)) < sizeR (rl'.map (·.1)) → K v)
    {rs : Option (Nat × UInt8 × List UInt8)} (hrs : whole (data.drop (j.size + sizeR (rl.map (·.1)))) (rl.length + 1) = rs)
    {x z : Int} {q : Sl} (ho : ∃ kd : Int, Own v c' g kk (.cells #[.int .u8 kd, q.val] 37 (0, 0)) ∧ (rs = none → z = 0) ∧ ∀ s kd' bd, rs = some (s, kd', bd) → x = (s : Int) ∧ kd = (kd'.toNat : Int) ∧ z = ((bd.length + 18 : Nat) : Int) ∧ Row v c' kk 5 1 q (bd.map u8)) :
    drawer_Disk_seek.k21 ⟨rb, 0, none⟩ ⟨jb, 0, none⟩ x72 K x ⟨g, 0, none⟩ z Q v := by
  obtain ⟨kd, og, hz0, hz1⟩ := ho
  have F := R.found
  have stop : ∀ {y : Bool}, y = true → reads j.sum (fuel + 1) (data.drop (j.size + sizeR (rl.map (·.1)))) (rl.length + 1) = [] → drawer_Disk_seek.k22 ⟨rb, 0, none⟩ ⟨jb, 0, none⟩ x72 K ⟨g, 0, none⟩ z y Q v := fun hy he => by
    subst hy
    unfold drawer_Disk_seek.k22
    rw [if_pos rfl]
    have hall : rl.map (·.1) = all := by rw [R.what, he, List.append_nil]
    exact seek_out R.far F R.res rfl hne hr (fun w' F' S' => by rw [hall]; exact H w' c' s2 rl F' hall S') rfl
  unfold drawer_Disk_seek.k21
  cases hrs' : rs with
  | none =>
    rw [hz0 hrs', if_pos (by decide)]
    rw [hz0 hrs'] at stop
    exact stop rfl (reads_none (hrs.trans hrs'))
  | some t =>
    obtain ⟨s, kd', bd⟩ := t
    obtain ⟨hx, hkd, hz, hrow⟩ := hz1 s kd' bd hrs'
    subst hx
    subst hkd
    subst hz
    rw [if_neg (by rw [beq_iff_eq]; omega)]
    refine ld_own F.own (x := (j.sum : Int)) rfl ?_
    obtain ⟨hw1, hw2, hw3⟩ := whole_some (hrs.trans hrs')
    by_cases hs : s = j.sum
    · rw [show ((s : Int) != (j.sum : Int)) = false by rw [hs]; exact bne_self_eq_false _]
      unfold drawer_Disk_seek.k22
      rw [if_neg (by exact Bool.false_ne_true)]
      refine ld_own F.own (x := s2) rfl (ld_own og rfl (ld_own og rfl ?_))
      refine al_own (c := c') kk fun g2 w2 c2 o2 ch2 ex2 hg2 => ?_
      have hjg : jb ≠ g := F.own.neT og (by decide)
      have F2 := F.new ch2 ex2
      have S2 := R.far.new ch2 ex2
      have hrl : rl.length ≤ 2097152 := by
        have h1 := sizeR_ge (rl.map (·.1))
        rw [List.length_map] at h1
        have h2 := R.le
        omega
      refine F2.recs.snoc (r := ⟨kd', bd⟩) o2 (hrow.chg ch2 ex2 (fun _ _ => id)) (by omega) fun s3 w3 c3 R3 ch3 ex3 hbl => ?_
      have hjs : ∀ g, Sl.blk s2 = some g → jb ≠ g := fun g hg e => by
        obtain ⟨cs', ho'⟩ := F2.recs.row.blk hg
        exact F2.own.neT ho' (by decide) e
      have hrs2 : ∀ g, Sl.blk s2 = some g → rb ≠ g := fun g hg e => by
        obtain ⟨cs', ho'⟩ := F2.recs.row.blk hg
        exact (R.res.chg ch2 ex2 id).neT ho' (by decide) e
      have oj3 := F2.own.chg ch3 ex3 (fun h => hjs _ h rfl)
      have or3 := (R.res.chg ch2 ex2 id).chg ch3 ex3 (fun h => hrs2 _ h rfl)
      have sm3 : Row w3 c3 kk 5 1 s1 (j.summary.map u8) := F2.sm.chg ch3 ex3 (fun g hg hh => by
        obtain ⟨cs', ho'⟩ := F2.sm.blk hg
        obtain ⟨cs'', ho''⟩ := F2.recs.row.blk hh
        exact ho'.neT ho'' (by decide) rfl)
      have hw2' : w.heap.size ≤ w2.heap.size := S2.ch.size
      have S3 : Sofar w c w3 c3 := ⟨fresh S2.ch ch3 (fun b hb => R.new2 b hb), freshX S2.ch S2.ex ex3 ch3⟩
      refine st_own oj3 (by simp [cells7]) fun w4 o4 ch4 hs4 => ?_
      refine ld_own o4 (x := ((j.size + sizeR (rl.map (·.1)) : Nat) : Int)) rfl ?_
      refine st_own o4 (by simp [cells7]) fun w5 o5 ch5 hs5 => ?_
      have hsz : sizeR ((rl ++ [((⟨kd', bd⟩ : Rec), q)]).map (·.1)) = sizeR (rl.map (·.1)) + (bd.length + 18) := by
        rw [List.map_append, sizeR_append]
        simp [sizeR]
      have hdl : (data.drop (j.size + sizeR (rl.map (·.1)))).length = data.length - (j.size + sizeR (rl.map (·.1))) := List.length_drop ..
      rw [hdl] at hw1
      have hle := R.le
      have hwr : IntKind.i64.wrap ((((j.size + sizeR (rl.map (·.1)) : Nat) : Int)) + ((bd.length + 18 : Nat) : Int)) = ((j.size + sizeR ((rl ++ [((⟨kd', bd⟩ : Rec), q)]).map (·.1)) : Nat) : Int) := by
        rw [hsz, Da.wrap_small (by omega) (by omega)]; omega
      rw [hwr] at o5
      have o5 : Own w5 c3 jb kk (.cells (cells7 j s1 s3 (j.size + sizeR ((rl ++ [((⟨kd', bd⟩ : Rec), q)]).map (·.1)))).toArray 82 (0, 0)) := o5
      refine hK w5 c3 s3 (rl ++ [(⟨kd', bd⟩, q)]) fuel ⟨(S3.own ch4 hj).own ch5 hj, ⟨o5, ?_, ?_⟩, ?_, ?_, ?_, ?_, ?_⟩ (by rw [hsz]; omega)
      · exact Row.off (Row.off sm3 ch4 oj3 (.inl (by decide))) ch5 o4 (.inl (by decide))
      · exact (R3.off ch4 oj3 (.inl (by decide)) (.inl (by decide))).off ch5 o4 (.inl (by decide)) (.inl (by decide))
      · exact (or3.chg' ch4 hne.symm).chg' ch5 hne.symm
      · rw [hsz]
        have h1 := R.what
        rw [reads, hrs.trans hrs'] at h1
        simp only [hs, if_true] at h1
        rw [h1, List.map_append, List.drop_drop, List.length_append]
        simp only [List.map_cons, List.map_nil, List.append_assoc, List.cons_append, List.nil_append, List.length_cons, List.length_nil]
        rw [Nat.add_assoc j.size]
      · rw [hsz]; omega
      · rw [hsz]
        have := R.fu
        omega
      · intro g' hg'
        rcases hbl g' hg' with h1 | h1
        · exact R.new2 g' h1
        · omega
    · rw [show ((s : Int) != (j.sum : Int)) = true by rw [bne_iff_ne]; omega]
      refine stop rfl ?_
      rw [reads, hrs.trans hrs']
      simp only [hs, if_false]

theorem seek_loop {jb rb j s1 v c' s2 rl fuel} {data : List UInt8} {all : List Rec} {x72 : Sl} (R : RI w c kk jb rb j s1 data all v c' s2 rl fuel) (hne : jb ≠ rb) (hj : w.heap.size ≤ jb) (hr : w.heap.size ≤ rb) (hd : data.length ≤ 2097152) (hsm : j.sum < 4294967296)
    (hx : Reads w 1 x72 (data.map u8)) (hcap : x72.len ≤ x72.cap)
    (H : ∀ w' c' s2 rl, Found w' c' kk jb j s1 s2 rl → rl.map (·.1) = all → Sofar w c w' c' → Q j.gen j.sum s1 s2 (j.size + sizeR all : Nat) j.all j.sure w') :
    Fix (σ := Unit) (fun Ks _ w => drawer_Disk_seek.l20 ⟨rb, 0, none⟩ ⟨jb, 0, none⟩ x72 Q (fun w => Ks () w) w) () v := by
  have hxl : x72.len = data.length := by have := hx.1; simp at this; omega
  refine fix_n (fun n _ v => ∃ c' s2 rl fuel, RI w c kk jb rb j s1 data all v c' s2 rl fuel ∧ n = data.length - sizeR (rl.map (·.1))) ?_ ⟨c', s2, rl, fuel, R, rfl⟩
  rintro n _ v K ⟨c', s2, rl, fuel, R, rfl⟩ hK
  have hle := R.le
  have hfu := R.fu
  obtain ⟨f, rfl⟩ : ∃ f, fuel = f + 1 := ⟨fuel - 1, by omega⟩
  have hrl : rl.length ≤ 2097152 := by
    have h1 := sizeR_ge (rl.map (·.1))
    rw [List.length_map] at h1
    omega
  have hsl := R.found.recs.len
  unfold drawer_Disk_seek.l20
  refine ld_own R.found.own.drew (x := ((j.size + sizeR (rl.map (·.1)) : Nat) : Int)) rfl ?_
  refine ⟨by omega, by omega, ?_⟩
  rw [Int.toNat_natCast]
  refine ld_own R.found.own.drew (x := s2) rfl ?_
  rw [hsl, Da.wrap_small (i := ((rl.length : Nat) : Int) + 1) (by omega) (by omega), show ((rl.length : Nat) : Int) + 1 = ((rl.length + 1 : Nat) : Int) by omega]
  have hcut := rcut hx (lo := j.size + sizeR (rl.map (·.1))) (hi := x72.len) (by omega) (Nat.le_refl _) hcap
  rw [List.take_of_length_le (by omega)] at hcut
  have hcc : (cutSl ⟨x72.p, x72.len, x72.cap⟩ 1 (j.size + sizeR (rl.map (·.1))) x72.len x72.cap).len ≤ (cutSl ⟨x72.p, x72.len, x72.cap⟩ 1 (j.size + sizeR (rl.map (·.1))) x72.len x72.cap).cap := by simp only [cutSl]; omega
  have facts : ∀ {v' c'}, Found v' c' kk jb j s1 s2 rl → World.cell? v' (Addr.add ⟨jb, 0, none⟩ 4) = some (.int .i64 ((j.size + sizeR (rl.map (·.1)) : Nat) : Int)) ∧ World.cell? v' (Addr.add ⟨jb, 0, none⟩ 3) = some s2.val ∧ True := fun F =>
    ⟨by rw [add_mk, F.own.cell]; rfl, by rw [add_mk, F.own.cell]; rfl, trivial⟩
  -- behind both orders: the piece that is read is laid into a block of its own
  have fin : ∀ {v1 c1 g rs cs} {x kd z : Int} {q : Sl}, RI w c kk jb rb j s1 data all v1 c1 s2 rl (f + 1) → Own v1 c1 g kk (.cells cs 37 (0, 0)) → cs.size = 2 → (∀ b, Sl.blk s2 = some b → b ≠ g) → w.heap.size ≤ g →
      whole (data.drop (j.size + sizeR (rl.map (·.1)))) (rl.length + 1) = rs → (rs = none → z = 0) → (∀ s kd' bd, rs = some (s, kd', bd) → x = (s : Int) ∧ kd = (kd'.toNat : Int) ∧ z = ((bd.length + 18 : Nat) : Int) ∧ Row v1 c1 kk 5 1 q (bd.map u8)) →
      stN v1 ⟨g, 0, none⟩ [.int .u8 kd, q.val] fun w => ((World.cell? w (Addr.add ⟨jb, 0, none⟩ 4) = some (.int .i64 ((j.size + sizeR (rl.map (·.1)) : Nat) : Int)) ∧ World.cell? w (Addr.add ⟨jb, 0, none⟩ 3) = some s2.val ∧ True) ∧ drawer_Disk_seek.k21 ⟨rb, 0, none⟩ ⟨jb, 0, none⟩ x72 (fun w => K () w) x ⟨g, 0, none⟩ z Q w) :=
    fun {v1 c1 g rs cs x kd z q} R1 o hcs hs hg hrs hz hr1 => by
    refine stN_own o (by rw [hcs]; rfl) fun v2 o2 ch2 _ => ?_
    have R2 := R1.put o hs hg ch2
    refine ⟨facts R2.found, seek_k21 R2 hne hj hr hd hsm H (fun v3 c3 s3 rl3 f3 R3 hlt => hK (data.length - sizeR (rl3.map (·.1))) () v3 (by have h3 := R3.le; omega) ⟨c3, s3, rl3, f3, R3, rfl⟩) hrs ⟨kd, o2, hz, fun s kd' bd hh => ?_⟩⟩
    obtain ⟨a1, a2, a3, a4⟩ := hr1 s kd' bd hh
    exact ⟨a1, a2, a3, Row.off a4 ch2 o (.inl (by decide))⟩
  have blkLt : ∀ {v1 c1}, RI w c kk jb rb j s1 data all v1 c1 s2 rl (f + 1) → ∀ b, Sl.blk s2 = some b → b < v1.heap.size := fun R1 b hb => by
    obtain ⟨cs', ho'⟩ := R1.found.recs.row.blk hb
    exact ho'.lt
  have hbd : (data.drop (j.size + sizeR (rl.map (·.1)))).length ≤ 1073741824 := by rw [List.length_drop]; omega
  refine ⟨?_, ?_⟩
  · have R0 := R.drew
    have tail : ∀ {v1 c1 rs} {x kd z : Int} {q : Sl}, Sofar v.drew c' v1 c1 → whole (data.drop (j.size + sizeR (rl.map (·.1)))) (rl.length + 1) = rs → (rs = none → z = 0) → (∀ s kd' bd, rs = some (s, kd', bd) → x = (s : Int) ∧ kd = (kd'.toNat : Int) ∧ z = ((bd.length + 18 : Nat) : Int) ∧ Row v1 c1 kk 5 1 q (bd.map u8)) →
        ((World.cell? v1 (Addr.add ⟨jb, 0, none⟩ 4) = some (.int .i64 ((j.size + sizeR (rl.map (·.1)) : Nat) : Int)) ∧ World.cell? v1 (Addr.add ⟨jb, 0, none⟩ 3) = some s2.val ∧ True) ∧ al v1 (.cells #[.int .u8 0, .slice none 0 0] 37) fun x12 w => ((World.cell? w (Addr.add ⟨jb, 0, none⟩ 4) = some (.int .i64 ((j.size + sizeR (rl.map (·.1)) : Nat) : Int)) ∧ World.cell? w (Addr.add ⟨jb, 0, none⟩ 3) = some s2.val ∧ True) ∧
          stN w x12 [.int .u8 kd, q.val] fun w => ((World.cell? w (Addr.add ⟨jb, 0, none⟩ 4) = some (.int .i64 ((j.size + sizeR (rl.map (·.1)) : Nat) : Int)) ∧ World.cell? w (Addr.add ⟨jb, 0, none⟩ 3) = some s2.val ∧ True) ∧ drawer_Disk_seek.k21 ⟨rb, 0, none⟩ ⟨jb, 0, none⟩ x72 (fun w => K () w) x x12 z Q w))) := fun {v1 c1 rs x kd z q} S1 hrs hz hr1 => by
      have R1 := R0.step S1
      refine ⟨facts R1.found, al_own (c := c1) kk fun g v2 c2 o2 ch2 ex2 hg2 => ?_⟩
      have R2 := R1.step ⟨ch2, ex2⟩
      refine ⟨facts R2.found, fin R2 o2 rfl (fun b hb e => ?_) (Nat.le_trans R1.far.ch.size hg2) hrs hz fun s kd' bd hh => ?_⟩
      · have := blkLt R1 b hb
        omega
      · obtain ⟨a1, a2, a3, a4⟩ := hr1 s kd' bd hh
        exact ⟨a1, a2, a3, a4.chg ch2 ex2 (fun _ _ => id)⟩
    refine whole_spec kk (c := c') (Reads.new hcut R0.far.ch) hcc hbd (by omega) (fun hrs w' c2 S1 => tail S1 hrs (fun _ => rfl) (fun s kd' bd hh => (by cases hh))) (fun s kd' bd hrs w' c2 q hrow S1 => tail S1 hrs (fun hh => (by cases hh)) (fun s2 kd2 bd2 hh => by
      obtain ⟨rfl, rfl, rfl⟩ : s = s2 ∧ kd' = kd2 ∧ bd = bd2 := by simpa using hh
      exact ⟨rfl, rfl, rfl, hrow⟩))
  · have R0 := R.drew
    refine al_own (c := c') kk fun g v2 c2 o2 ch2 ex2 hg2 => ?_
    have R2 := R0.step ⟨ch2, ex2⟩
    refine ⟨facts R2.found, ?_⟩
    have hne2 : ∀ b, Sl.blk s2 = some b → b ≠ g := fun b hb e => by
      have := blkLt R0 b hb
      omega
    have hgn := Nat.le_trans R0.far.ch.size hg2
    have tail : ∀ {v1 c1 rs} {x kd z : Int} {q : Sl}, Sofar v2 c2 v1 c1 → whole (data.drop (j.size + sizeR (rl.map (·.1)))) (rl.length + 1) = rs → (rs = none → z = 0) → (∀ s kd' bd, rs = some (s, kd', bd) → x = (s : Int) ∧ kd = (kd'.toNat : Int) ∧ z = ((bd.length + 18 : Nat) : Int) ∧ Row v1 c1 kk 5 1 q (bd.map u8)) →
        ((World.cell? v1 (Addr.add ⟨jb, 0, none⟩ 4) = some (.int .i64 ((j.size + sizeR (rl.map (·.1)) : Nat) : Int)) ∧ World.cell? v1 (Addr.add ⟨jb, 0, none⟩ 3) = some s2.val ∧ True) ∧
          stN v1 ⟨g, 0, none⟩ [.int .u8 kd, q.val] fun w => ((World.cell? w (Addr.add ⟨jb, 0, none⟩ 4) = some (.int .i64 ((j.size + sizeR (rl.map (·.1)) : Nat) : Int)) ∧ World.cell? w (Addr.add ⟨jb, 0, none⟩ 3) = some s2.val ∧ True) ∧ drawer_Disk_seek.k21 ⟨rb, 0, none⟩ ⟨jb, 0, none⟩ x72 (fun w => K () w) x ⟨g, 0, none⟩ z Q w)) := fun {v1 c1 rs x kd z q} S1 hrs hz hr1 =>
      ⟨facts (R2.step S1).found, fin (R2.step S1) (o2.chg S1.ch S1.ex id) rfl hne2 hgn hrs hz hr1⟩
    refine whole_spec kk (c := c2) (Reads.new hcut R2.far.ch) hcc hbd (by omega) (fun hrs w' c2 S1 => tail S1 hrs (fun _ => rfl) (fun s kd' bd hh => (by cases hh))) (fun s kd' bd hrs w' c2 q hrow S1 => tail S1 hrs (fun hh => (by cases hh)) (fun s2 kd2 bd2 hh => by
      obtain ⟨rfl, rfl, rfl⟩ : s = s2 ∧ kd' = kd2 ∧ bd = bd2 := by simpa using hh
      exact ⟨rfl, rfl, rfl, hrow⟩))
end
end Go.Proofs.YtjnifnlkicajhaaDoor.Jn
