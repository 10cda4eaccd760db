/-
  The law DrawerDisk: it returns true, whatever came in. No condition is put on any statement here.
-/
import Derived.Test.YtjnifnlkicajhaaLn
namespace Go.Proofs.Ytjnifnlkicajhaa.La
open Go Vc Hp Fs Da Pm Dd Rd
set_option maxRecDepth 4000

structure OpV where
  kind : Int
  n : Int
  m : Int
  second : Bool
  name : ByteArray
  ds : Sl
  data : List UInt8
  ks : Sl
  keep : List Int
  sum : Int
def ocells (ol : List OpV) : List Value := ol.flatMap fun o => [.int .i64 o.kind, .int .i64 o.n, .int .i64 o.m, .bool o.second, .string o.name, o.ds.val, o.ks.val, .int .u32 o.sum]
theorem ocells_len (ol : List OpV) : (ocells ol).length = ol.length * 8 := by
  unfold ocells
  induction ol with
  | nil => rfl
  | cons p l ih => simp only [List.flatMap_cons, List.length_append, List.length_cons, List.length_nil, ih]; omega
theorem ocells_at {ol : List OpV} {i : Nat} (h : i < ol.length) (j : Nat) (hj : j < 8) : (ocells ol)[i * 8 + j]? = [Value.int .i64 ol[i].kind, .int .i64 ol[i].n, .int .i64 ol[i].m, .bool ol[i].second, .string ol[i].name, ol[i].ds.val, ol[i].ks.val, .int .u32 ol[i].sum][j]? := by
  induction ol generalizing i with
  | nil => cases h
  | cons p l ih =>
    have e : ocells (p :: l) = [.int .i64 p.kind, .int .i64 p.n, .int .i64 p.m, .bool p.second, .string p.name, p.ds.val, p.ks.val, .int .u32 p.sum] ++ ocells l := by unfold ocells; simp
    rcases i with _ | i
    · rw [e, Nat.zero_mul, Nat.zero_add, List.getElem?_append_left (by simp; omega)]
      rfl
    · have := ih (i := i) (by simpa using h)
      rw [e, List.getElem?_append_right (by simp; omega)]
      simp only [List.length_cons, List.length_nil, List.getElem_cons_succ]
      rw [show (i + 1) * 8 + j - (0 + 1 + 1 + 1 + 1 + 1 + 1 + 1 + 1) = i * 8 + j by omega]
      exact this
structure OSrc (w : World) (c : Col) (s : Sl) (ol : List OpV) : Prop where
  row : Src w c 0 8 s (ocells ol)
  data : ∀ o ∈ ol, Src w c 0 1 o.ds (o.data.map u8)
  keep : ∀ o ∈ ol, Src w c 0 1 o.ks (o.keep.map (Value.int .i64))
theorem OSrc.eff {w c s ol j w' c'} (h : OSrc w c s ol) (hc : Eff j w c w' c') (hj : ¬ j 0) : OSrc w' c' s ol := ⟨h.row.eff hc hj, fun o ho => (h.data o ho).eff hc hj, fun o ho => (h.keep o ho).eff hc hj⟩
structure OOk (o : OpV) : Prop where
  name : o.name.size < 9223372036854775807
  cap : o.ds.len ≤ o.ds.cap
  data : o.data.length ≤ 1073741824
  keep : o.keep.length ≤ 1073741824
  n : -maxI - 1 ≤ o.n ∧ o.n ≤ maxI
  m : -maxI - 1 ≤ o.m ∧ o.m ≤ maxI

theorem law_spec {w c x0 x1 fl ol} {Q : Bool → World → Prop} (src : FSrc w c 0 x0 fl) (hl : fl.length ≤ 536870912) (hd : ∀ p ∈ fl, p.1.data.length ≤ 1073741824) (hn : ∀ p ∈ fl, p.1.name.size < 9223372036854775807)
    (os : OSrc w c x1 ol) (hol : ol.length ≤ 536870912) (hok : ∀ o ∈ ol, OOk o) (H : ∀ w' c', Eff own w c w' c' → Q true w') : levylaw19_DrawerDisk x0 x1 Q w := by
  have hxl : x1.len = ol.length := by have := os.row.1.1; rw [ocells_len] at this; omega
  unfold levylaw19_DrawerDisk
  refine made_spec src hl hd hn fun w1 c1 pb o1 o2 op T E1 => ?_
  rw [if_pos rfl, if_neg (by exact Bool.false_ne_true)]
  refine nn_some (ld_own (x := o2) op rfl ?_)
  unfold levylaw19_DrawerDisk.k2
  rcases T with ⟨e1, e2⟩ | ⟨A, d, m, L, b, z, gl, e1, e2, hD, hR, hA⟩
  · subst e1
    rw [if_pos (by rfl)]
    exact H w1 c1 E1
  subst e1
  subst e2
  rw [if_neg (by exact Bool.false_ne_true)]
  refine Fix.intro (fun (y : Int) v => ∃ (i : Nat) (c' : Col) (L : List FE) (z : Sl) (gl : List (AF × Sl)) (A : PD), y = i ∧ i ≤ ol.length ∧ St v c' pb d m L b z gl A ∧ Eff own w c v c') (fun y _ => ol.length - y.toNat) ?_ ⟨0, c1, L, z, gl, A, rfl, Nat.zero_le _, ⟨op, hD, hR, hA⟩, E1⟩
  rintro y v K ⟨i, c', L, z, gl, A, rfl, hi, S, E⟩ hK
  unfold levylaw19_DrawerDisk.l5
  by_cases hlt : i < ol.length
  · rw [if_pos (by rw [decide_eq_true_eq]; omega)]
    have os' := (os.eff E (by decide)).eff (Eff.refl own v c').drew (by decide)
    have S := S.drew
    have E := E.drew
    have hmem := List.getElem_mem hlt
    have hcells := fun j hj => ocells_at hlt j hj
    have ok := hok _ hmem
    have dsrc := os'.data _ hmem
    have ksrc := os'.keep _ hmem
    generalize hoo : ol[i] = oo at *
    obtain ⟨a0, ha0, hh⟩ : ∃ a0, x1.p = some a0 ∧ ∀ j u, (ocells ol)[j]? = some u → v.drew.cell? (a0.add j) = some u := by
      rcases os'.row.1.2 with ⟨_, h0⟩ | h
      · omega
      · exact h
    have cell : ∀ j (hj : j < 8) {u}, [Value.int .i64 oo.kind, .int .i64 oo.n, .int .i64 oo.m, .bool oo.second, .string oo.name, oo.ds.val, oo.ks.val, .int .u32 oo.sum][j]? = some u → v.drew.cell? ((a0.add (i * 8)).add j) = some u := fun j hj {u} e => by
      rw [Addr.add_add]
      exact hh _ _ (by rw [hcells j hj]; exact e)
    refine ⟨a0, ha0, by omega, by omega, ?_⟩
    rw [Int.toNat_natCast]
    refine ⟨oo.kind, cell 0 (by omega) rfl, oo.n, cell 1 (by omega) rfl, oo.m, cell 2 (by omega) rfl, oo.second, cell 3 (by omega) rfl, oo.name, cell 4 (by omega) rfl, oo.ds, cell 5 (by omega) rfl, oo.ks, cell 6 (by omega) rfl, oo.sum, cell 7 (by omega) rfl, ?_⟩
    refine pair_disk_spec S ok.name dsrc ok.cap ok.data ksrc ok.keep ok.n.1 ok.n.2 ok.m.1 ok.m.2 fun w2 c2 L2 z2 gl2 A2 S2 E2 => ?_
    rw [if_pos rfl]
    refine nn_some (ld_own S2.pair (x := some ⟨d, 0, none⟩) rfl (nn_some (ld_own S2.pair (x := some ⟨b, 0, none⟩) rfl ?_)))
    refine Dd.files_spec 7 S2.dd S2.ok fun w3 c3 s3 f3 F3 e3 ch3 ex3 => ?_
    have S3 := S2.new ch3 ex3
    refine ⟨⟨by rw [add_mk, S3.pair.cell]; rfl, by rw [add_mk, S3.pair.cell]; rfl, trivial⟩, ?_⟩
    refine rfiles_spec 7 S3.rd S2.ok fun w4 c4 s4 f4 F4 e4 ch4 ex4 => ?_
    have S4 := S3.new ch4 ex4
    have hc := S2.ok.count
    refine sameFiles_spec (F3.new ch4 ex4).src F4.src (e3.trans e4.symm) (by have := congrArg List.length e3; simp at this; omega) fun w5 hw5 => ?_
    have ch5 := heapEff c4 hw5
    unfold levylaw19_DrawerDisk.k9
    rw [if_neg (by simp), Da.wrap_small (i := (i : Int) + 1) (by omega) (by omega)]
    exact hK _ _ ⟨i + 1, c4, L2, z2, gl2, A2, by omega, hlt, S4.new ch5 (Ext.refl _ _), (((E.trans E2).new ch3 ex3).new ch4 ex4).new ch5 (Ext.refl _ _)⟩ (by omega)
  · rw [if_neg (by rw [decide_eq_true_eq]; omega)]
    unfold levylaw19_DrawerDisk.k4
    exact H v c' E
end Go.Proofs.Ytjnifnlkicajhaa.La
