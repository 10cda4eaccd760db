/-
  The program's disk: Restart, Files. No condition is put on any statement here.
-/
import Derived.Test.YtjnifnlkicajhaaDoorDi
namespace Go.Proofs.YtjnifnlkicajhaaDoor.Dd
open Go Vc Hp Fs Da Pm
set_option maxRecDepth 4000

theorem ix_ld {α : Type} {w : World} {s : Sl} {vs : List Value} {i : Nat} {f : α → Value} {x : α} {K : α → Prop} (h : Reads w 1 s vs) (hi : vs[i]? = some (f x)) (hk : K x) : ix s.p s.len (i : Int) 1 fun a => ld f w a K := by
  obtain ⟨h1, h2⟩ := h
  have hlt : i < vs.length := (List.getElem?_eq_some_iff.1 hi).1
  rcases h2 with ⟨_, h0⟩ | ⟨a, hp, hh⟩
  · omega
  · refine ⟨a, hp, by omega, by omega, x, ?_, hk⟩
    rw [Int.toNat_natCast, Nat.mul_one]
    exact hh i _ hi

/-! ### Restart -/
def cutAt (y : Nat) (f : PF) : PF := { f with data := f.data.take (f.sure + y), sure := f.sure + y }
theorem rk17_spec {w c k d m L A e z s0 s1} {K7 : Int → World → Prop} {Q : World → Prop} {y : Nat} (h : DDisk w c k d m L A) (he : e ∈ L) (hs : e.sure + y ≤ e.data.length) (hb : e.data.length ≤ 2097152)
    (H : ∀ w' L', DDisk w' c k d m L' { A with files := setf A.files e.name (cutAt y) } → Eff (· = k) w c w' c → K7 (IntKind.i64.wrap (z + 1)) w') : drawer_Disk_Restart.k17 (some ⟨d, 0, none⟩) s0 s1 z K7 (some ⟨e.fb, 0, none⟩) (y : Int) Q w := by
  have hfe := h.files.files e he
  have hel : e.s.len = e.data.length := by have := hfe.row.1; simp at this; omega
  have hsc : e.s.len ≤ e.s.cap := hfe.row.2.1
  unfold drawer_Disk_Restart.k17
  refine nn_some (ld_own hfe.own.drew rfl (nn_some (ld_own (x := (e.sure : Int)) hfe.own.drew rfl ?_)))
  rw [Da.wrap_small (i := (e.sure : Int) + (y : Int)) (by omega) (by omega)]
  have e0 : ((e.sure : Int) + (y : Int)) = ((e.sure + y : Nat) : Int) := by omega
  rw [e0, Int.toNat_natCast]
  refine ⟨by omega, by omega, nn_some (st_own hfe.own.drew (by simp) fun w3 fo ch3 hs3 => ?_)⟩
  have ch3 := undrew ch3
  obtain ⟨hrow, hblk⟩ := Row.take hfe.row (n := e.sure + y) (by omega)
  refine nn_some (ld_own fo rfl (nn_some (st_own fo (by simp) fun w4 fo4 ch4 hs4 => ?_)))
  have hbl : ∀ g, Sl.blk e.s = some g → ¬ g = e.fb := fun g hg x => by
    obtain ⟨cs, ho⟩ := hfe.row.blk hg
    exact ho.neT hfe.own (by decide) x
  rw [Nat.mul_one, ← List.map_take] at hrow
  have D3 := h.upd (w' := w4) (e' := { e with s := cutSl ⟨e.s.p, e.s.len, e.s.cap⟩ 1 0 (e.sure + y) e.s.cap, data := e.data.take (e.sure + y), sure := e.sure + y })
    (g := cutAt y) he ((ch3.trans ch4).mono fun _ _ hh => .inl hh) (Ext.refl _ _) rfl rfl ⟨fo4, hrow.chg (ch3.trans ch4) (Ext.refl _ _) (fun g hg => hbl g (by rw [← hblk]; exact hg))⟩ (fun g hg => .inl (by rw [← hblk]; exact hg)) rfl
  exact H w4 _ D3 ((Eff.refl _ _ _).one (ch3.trans ch4) (fun _ => hfe.own.col))

/-- behind i rounds -/
def part (keep : List Int) (i : Nat) (l : List PF) : List PF := l.mapIdx fun j f => if j < i then kept keep j f else f
theorem part_names (keep : List Int) (i : Nat) (l : List PF) : names (part keep i l) = names l := by
  unfold names part
  apply List.ext_getElem (by simp)
  intro j h1 h2
  simp only [List.getElem_map, List.getElem_mapIdx]
  split <;> rfl
theorem part_next {keep : List Int} {i : Nat} {l : List PF} (hn : (names l).Nodup) (hi : i < l.length) {g : PF → PF} (hg : g l[i] = kept keep i l[i]) : setf (part keep i l) l[i].name g = part keep (i + 1) l := by
  unfold setf part
  apply List.ext_getElem (by simp)
  intro j h1 h2
  have hj : j < l.length := by simpa using h2
  have hname : l[j].name = l[i].name → j = i := fun e => by
    have h3 : (names l)[j]'(by simpa [names] using hj) = (names l)[i]'(by simpa [names] using hi) := by simpa [names] using e
    rcases Nat.lt_trichotomy j i with hlt | rfl | hlt
    · exact absurd h3 (List.pairwise_iff_getElem.1 hn _ _ _ _ hlt)
    · rfl
    · exact absurd h3.symm (List.pairwise_iff_getElem.1 hn _ _ _ _ hlt)
  simp only [List.getElem_map, List.getElem_mapIdx]
  by_cases hji : j = i
  · subst hji
    simp [hg]
  · have hne : ¬ l[j].name = l[i].name := fun e => hji (hname e)
    have h5 : (if j < i then kept keep j l[j] else l[j]).name = l[j].name := by split <;> rfl
    rw [if_neg (by rw [h5]; exact hne)]
    by_cases hlt : j < i
    · rw [if_pos hlt, if_pos (by omega)]
    · rw [if_neg hlt, if_neg (by omega)]
theorem part_zero (keep : List Int) (l : List PF) : part keep 0 l = l := by
  unfold part
  apply List.ext_getElem (by simp)
  intro j h1 h2
  simp
theorem part_all (keep : List Int) (l : List PF) : part keep l.length l = l.mapIdx (kept keep) := by
  unfold part
  apply List.ext_getElem (by simp)
  intro j h1 h2
  have : j < l.length := by simpa using h2
  simp [this]

structure RI (w : World) (c : Col) (k d m j : Nat) (A : PD) (s0 s1 : Sl) (keep : List Int) (i : Nat) (v : World) (c' : Col) (L' : List FE) : Prop where
  disk : DDisk v c' k d m L' { A with files := part keep i A.files }
  row : Row v c' (k + 1) 9 1 s1 ((names A.files).map Value.string)
  src : Src v c' j 1 s0 (keep.map (Value.int .i64))
  eff : Eff (· = k) w c v c'
  le : i ≤ A.files.length

theorem restart_spec {w c k d m L A j} {s0 : Sl} {keep : List Int} {Q : World → Prop} (h : DDisk w c k d m L A) (hA : A.Ok) (src : Src w c j 1 s0 (keep.map (Value.int .i64))) (hj : j ≠ k)
    (H : ∀ w' c' L', DDisk w' c' k d m L' (A.restart keep) → Eff (· = k) w c w' c' → Q w') : drawer_Disk_Restart (some ⟨d, 0, none⟩) s0 Q w := by
  have hkl : s0.len = keep.length := by have := src.1.1; simp at this; omega
  unfold drawer_Disk_Restart
  refine crash_spec h fun w1 D1 ch1 hs1 => ?_
  have E1 : Eff (· = k) w c w1 c := (Eff.refl _ _ _).one ch1 (fun _ => h.dcol)
  have S1 := src.eff E1 hj
  have A1 := hA.fall
  have hR : A.restart keep = { A.fall with files := A.files.mapIdx (kept keep), down := false } := rfl
  rw [hR] at H
  have hfl : A.fall.files = A.files := rfl
  rw [← hfl] at H
  generalize A.fall = B at *
  refine names_spec (k + 1) D1 A1 fun w2 c2 s1 hrow ch2 ex2 => ?_
  have E2 := E1.new ch2 ex2
  have start : RI w c k d m j B s0 s1 keep 0 w2 c2 L := ⟨by rw [part_zero]; exact D1.new ch2 ex2, hrow, S1.chg ch2 ex2 (fun _ _ => id), E2, Nat.zero_le _⟩
  have hsl : s1.len = B.files.length := by have := hrow.1; simp [names] at this; omega
  have hcount := A1.count
  refine Fix.intro (fun (z : Int) v => ∃ (i : Nat) (c' : Col) (L' : List FE), z = i ∧ RI w c k d m j B s0 s1 keep i v c' L') (fun z _ => B.files.length - z.toNat) ?_ ⟨0, c2, L, rfl, start⟩
  rintro z v K ⟨i, c', L', rfl, R⟩ hK
  unfold drawer_Disk_Restart.l7
  by_cases hlt : i < B.files.length
  · rw [if_pos (by rw [decide_eq_true_eq]; omega)]
    refine ix_ld (x := B.files[i].name) R.row.reads (by simp [names, hlt]) ?_
    obtain ⟨_, _, od, _⟩ := id R.disk.own
    refine nn_some (ld_own od (x := some m) rfl (look R.disk.files ?_))
    have hpn : (names (part keep i B.files)).Nodup := by rw [part_names]; exact A1.srt.nodup
    have hget : Pm.get (part keep i B.files) B.files[i].name = some B.files[i] := by
      have hmem : B.files[i] ∈ part keep i B.files := by
        unfold part
        rw [List.mem_mapIdx]
        exact ⟨i, hlt, by simp⟩
      exact get_mem hpn hmem
    have hfg : (fget L' B.files[i].name).map FE.pf = some B.files[i] := by
      rw [← fget_pf, get_perm R.disk.perm hpn]
      exact hget
    cases hf : fget L' B.files[i].name with
    | none => rw [hf] at hfg; cases hfg
    | some e =>
      rw [hf] at hfg
      have hpf : e.pf = B.files[i] := Option.some.inj hfg
      obtain ⟨he, hen⟩ := fget_some hf
      have hd : e.data.length ≤ 2097152 ∧ e.sure ≤ e.data.length := by
        have := A1.data _ (List.getElem_mem hlt)
        rw [← hpf] at this
        exact this
      have hfe := R.disk.files.files e he
      have hel : e.s.len = e.data.length := by have := hfe.row.1; simp at this; omega
      have go : ∀ v', (v' = v ∨ v' = v.drew) → ∀ y : Nat, e.sure + y ≤ e.data.length → cutAt y B.files[i] = kept keep i B.files[i] → drawer_Disk_Restart.k17 (some ⟨d, 0, none⟩) s0 s1 i K (some ⟨e.fb, 0, none⟩) (y : Int) Q v' := by
        intro v' hv y hy hcut
        have hD : DDisk v' c' k d m L' { B with files := part keep i B.files } := by
          rcases hv with rfl | rfl
          · exact R.disk
          · exact R.disk.drew
        have hE : Eff (· = k) w c v' c' := by
          rcases hv with rfl | rfl
          · exact R.eff
          · exact R.eff.drew
        have hRow : Row v' c' (k + 1) 9 1 s1 ((names B.files).map Value.string) := by
          rcases hv with rfl | rfl
          · exact R.row
          · exact R.row.drew
        have hS : Src v' c' j 1 s0 (keep.map (Value.int .i64)) := by
          rcases hv with rfl | rfl
          · exact R.src
          · exact R.src
        refine rk17_spec hD he hy hd.1 fun w3 L3 D3 E3 => ?_
        rw [Da.wrap_small (i := (i : Int) + 1) (by omega) (by omega)]
        refine hK _ _ ⟨i + 1, c', L3, by omega, ?_⟩ (by omega)
        rw [hen] at D3
        have hnx := part_next (keep := keep) A1.srt.nodup hlt (g := cutAt y) hcut
        dsimp only at D3
        rw [hnx] at D3
        exact ⟨D3, hRow.eff E3 (by omega), hS.eff E3 hj, hE.trans E3, hlt⟩
      by_cases hk0 : keep.length = 0
      · rw [if_neg (by rw [decide_eq_true_eq]; omega)]
        refine go v (.inl rfl) 0 (by omega) ?_
        unfold cutAt kept
        rw [if_pos hk0]
      · rw [if_pos (by rw [decide_eq_true_eq]; omega)]
        refine ⟨by omega, ?_⟩
        have htm : Int.tmod (i : Int) ((s0.len : Nat) : Int) = ((i % keep.length : Nat) : Int) := by
          rw [hkl]; exact (Int.ofNat_tmod i keep.length).symm
        rw [htm]
        have hml : i % keep.length < keep.length := Nat.mod_lt _ (by omega)
        refine ix_ld (w := v.drew) (x := keep[i % keep.length]) R.src.1 (by simp [hml]) ?_
        refine nn_some (ld_own hfe.own.drew rfl (nn_some (ld_own (x := (e.sure : Int)) hfe.own.drew rfl ?_)))
        rw [hel, Da.wrap_small (i := (e.data.length : Int) - (e.sure : Int)) (by omega) (by omega)]
        have e1 : (if ((e.data.length : Int) - (e.sure : Int)) < (if 0 > keep[i % keep.length] then 0 else keep[i % keep.length]) then ((e.data.length : Int) - (e.sure : Int)) else (if 0 > keep[i % keep.length] then 0 else keep[i % keep.length])) = ((min keep[i % keep.length].toNat (e.data.length - e.sure) : Nat) : Int) := by
          generalize keep[i % keep.length] = q
          split <;> split at * <;> omega
        rw [e1]
        refine go v.drew (.inr rfl) _ (by omega) ?_
        unfold cutAt kept
        rw [if_neg hk0, ← hpf]
        have : keep.getD (i % keep.length) 0 = keep[i % keep.length] := by simp [hml]
        rw [this]
        rfl
  · rw [if_neg (by rw [decide_eq_true_eq]; omega)]
    unfold drawer_Disk_Restart.k2
    have hi : i = B.files.length := by have := R.le; omega
    obtain ⟨a, u, od, h3, h4⟩ := id R.disk.own
    refine nn_some (d_st od R.disk.files (by simp) fun w3 o3 f3 ch3 hs3 => ?_)
    refine H w3 c' L' ⟨⟨a, u, o3, h3, h4⟩, f3, ?_⟩ (R.eff.one ch3 (fun _ => od.col))
    have := R.disk.perm
    rw [hi, part_all] at this
    exact this
end Go.Proofs.YtjnifnlkicajhaaDoor.Dd
