/-
  The arguments of DrawerKept: its script as memory holds it. No condition is put on any statement here.
-/
import Derived.Test.YtjnifnlkicajhaaDoorOpen
import Derived.Test.YtjnifnlkicajhaaDoorDe
import Derived.Test.YtjnifnlkicajhaaDoorPm
namespace Go.Proofs.YtjnifnlkicajhaaDoor.Opn
open Go Go.ChangeShapes Go.WideShapes Go.Deep Go.RowKit Vc Hp Da Pm Dd
structure OpV where
  kind : Int
  n : Int
  m : Int
  second : Bool
  name : ByteArray
  ds : Sl
  data : List UInt8
  ks : Sl
  keep : List Int
  sum : Int
instance : Inhabited OpV := ⟨⟨0, 0, 0, false, ⟨#[]⟩, ⟨none, 0, 0⟩, [], ⟨none, 0, 0⟩, [], 0⟩⟩
def ocells (ol : List OpV) : List Value := ol.flatMap fun o => [.int .i64 o.kind, .int .i64 o.n, .int .i64 o.m, .bool o.second, .string o.name, o.ds.val, o.ks.val, .int .u32 o.sum]
theorem ocells_len (ol : List OpV) : (ocells ol).length = ol.length * 8 := by
  unfold ocells
  induction ol with
  | nil => rfl
  | cons p l ih => simp only [List.flatMap_cons, List.length_append, List.length_cons, List.length_nil, ih]; omega
theorem ocells_at {ol : List OpV} {i : Nat} (h : i < ol.length) (j : Nat) (hj : j < 8) : (ocells ol)[i * 8 + j]? = [Value.int .i64 ol[i].kind, .int .i64 ol[i].n, .int .i64 ol[i].m, .bool ol[i].second, .string ol[i].name, ol[i].ds.val, ol[i].ks.val, .int .u32 ol[i].sum][j]? := by
  induction ol generalizing i with
  | nil => cases h
  | cons p l ih =>
    have e : ocells (p :: l) = [.int .i64 p.kind, .int .i64 p.n, .int .i64 p.m, .bool p.second, .string p.name, p.ds.val, p.ks.val, .int .u32 p.sum] ++ ocells l := by unfold ocells; simp
    rcases i with _ | i
    · rw [e, Nat.zero_mul, Nat.zero_add, List.getElem?_append_left (by simp; omega)]
      rfl
    · have := ih (i := i) (by simpa using h)
      rw [e, List.getElem?_append_right (by simp; omega)]
      simp only [List.length_cons, List.length_nil, List.getElem_cons_succ]
      rw [show (i + 1) * 8 + j - (0 + 1 + 1 + 1 + 1 + 1 + 1 + 1 + 1) = i * 8 + j by omega]
      exact this
structure OSrc (w : World) (c : Col) (s : Sl) (ol : List OpV) : Prop where
  row : Src w c 0 8 s (ocells ol)
  data : ∀ o ∈ ol, Src w c 0 1 o.ds (o.data.map u8)
  keep : ∀ o ∈ ol, Src w c 0 1 o.ks (o.keep.map (Value.int .i64))
theorem OSrc.eff {w c s ol j w' c'} (h : OSrc w c s ol) (hc : Eff j w c w' c') (hj : ¬ j 0) : OSrc w' c' s ol := ⟨h.row.eff hc hj, fun o ho => (h.data o ho).eff hc hj, fun o ho => (h.keep o ho).eff hc hj⟩
structure OOk (o : OpV) : Prop where
  data : o.data.length ≤ 1073741824
  n : -maxI - 1 ≤ o.n ∧ o.n ≤ maxI
  m : -maxI - 1 ≤ o.m ∧ o.m ≤ maxI
section
variable {H : Type} {enc : TypeId × Value → H} {w : World} {base : Nat} {spare : Nat → Bool} {held : Bool}
theorem open_ops {fuel : Nat} {cs : List Value} {x : DataW H × List MemPlace} (hk : Rows.uptoBulk x.1 ≤ 1048576) (h : DataW.trod enc Tryd.prog w base spare held fuel 49 cs = some x) :
    ∃ (s : Sl) (ol : List OpV), cs = [s.val] ∧ ol.length ≤ Rows.uptoBulk x.1 ∧ (∀ o ∈ ol, OOk o) ∧ OSrc w (fun _ => 0) s ol := by
  rcases open_slice_fields Tryd.underlying49 Tryd.underlying52 (by kernel_rfl) (by kernel_rfl) h with ⟨rfl, rfl⟩ | ⟨a, len, cap, D, rest, rfl, hl, hx, hi⟩
  · exact ⟨⟨none, 0, 0⟩, [], rfl, by simp, by simp, ⟨src_nil, by simp, by simp⟩⟩
  · have key : ∀ i, i < len → ∃ o : OpV, (∀ j u, ([Value.int .i64 o.kind, .int .i64 o.n, .int .i64 o.m, .bool o.second, .string o.name, o.ds.val, o.ks.val, .int .u32 o.sum] : List Value)[j]? = some u → w.cell? (a.add (i * 8 + j)) = some u) ∧
        OOk o ∧ Src w (fun _ => 0) 0 1 o.ds (o.data.map u8) ∧ Src w (fun _ => 0) 0 1 o.ks (o.keep.map (Value.int .i64)) := fun i hil => by
      obtain ⟨ys, n, hD, hf⟩ := hi i hil
      obtain ⟨v0, y0, c0, g0, t0⟩ := hf 0 _ rfl
      obtain ⟨v1, y1, c1, g1, t1⟩ := hf 1 _ rfl
      obtain ⟨v2, y2, c2, g2, t2⟩ := hf 2 _ rfl
      obtain ⟨v3, y3, c3, g3, t3⟩ := hf 3 _ rfl
      obtain ⟨v4, y4, c4, g4, t4⟩ := hf 4 _ rfl
      obtain ⟨v5, y5, c5, g5, t5⟩ := hf 5 _ rfl
      obtain ⟨v6, y6, c6, g6, t6⟩ := hf 6 _ rfl
      obtain ⟨v7, y7, c7, g7, t7⟩ := hf 7 _ rfl
      obtain ⟨z0, e0, _, b0⟩ := DataW.trod_int Tryd.underlying3 t0
      obtain ⟨z1, e1, _, b1⟩ := DataW.trod_int Tryd.underlying3 t1
      obtain ⟨z2, e2, _, b2⟩ := DataW.trod_int Tryd.underlying3 t2
      obtain ⟨z3, e3, _⟩ := DataW.trod_bool Tryd.underlying4 t3
      obtain ⟨nm, e4, hn, _⟩ := DataW.trod_string Tryd.underlying9 t4
      obtain ⟨s5, d5, e5, hc5, hb5, r5⟩ := open_bytes t5
      obtain ⟨s6, d6, e6, hc6, hb6, hz6, r6⟩ := open_ints t6
      obtain ⟨z7, e7, _, b7⟩ := DataW.trod_int Tryd.underlying22 t7
      obtain rfl : v0 = .int .i64 z0 := by simpa using e0
      obtain rfl : v1 = .int .i64 z1 := by simpa using e1
      obtain rfl : v2 = .int .i64 z2 := by simpa using e2
      obtain rfl : v3 = .bool z3 := by simpa using e3
      obtain rfl : v4 = .string nm := by simpa using e4
      obtain rfl : v5 = s5.val := by simpa using e5
      obtain rfl : v6 = s6.val := by simpa using e6
      obtain rfl : v7 = .int .u32 z7 := by simpa using e7
      have hbulk : Rows.uptoBulk (D i) ≤ 1048576 := Nat.le_trans (bulk_elem hil) (by rw [← hx]; exact hk)
      have f5 := bulk_field g5
      have f6 := bulk_field g6
      have f4 := bulk_field g4
      rw [← hD] at f4 f5 f6
      have f4' : nm.size ≤ Rows.uptoBulk y4.1 := by rw [hn]; exact bulk_str
      refine ⟨⟨z0, z1, z2, z3, nm, s5, d5, s6, d6, z7⟩, fun j u hj => ?_, ⟨?_, ?_, ?_⟩, r5, r6⟩
      · match j, hj with
        | 0, hj => exact c0.trans hj
        | 1, hj => exact c1.trans hj
        | 2, hj => exact c2.trans hj
        | 3, hj => exact c3.trans hj
        | 4, hj => exact c4.trans hj
        | 5, hj => exact c5.trans hj
        | 6, hj => exact c6.trans hj
        | 7, hj => exact c7.trans hj
        | j + 8, hj => simp at hj
      · show d5.length ≤ 1073741824
        omega
      · simpa [Lit.wf, IntKind.min, IntKind.max, IntKind.signed, IntKind.bits, Pm.maxI] using b1
      · simpa [Lit.wf, IntKind.min, IntKind.max, IntKind.signed, IntKind.bits, Pm.maxI] using b2
    obtain ⟨F, hF⟩ := choose_lt key
    refine ⟨⟨some a, len, cap⟩, (List.range len).map F, rfl, by rw [hx, List.length_map, List.length_range]; exact bulk_len, fun o ho => ?_, ⟨?_, fun o ho => ?_, fun o ho => ?_⟩⟩
    · obtain ⟨i, hi', rfl⟩ := List.mem_map.1 ho
      exact (hF i (List.mem_range.1 hi')).2.1
    · refine src_rows (f := fun o : OpV => [.int .i64 o.kind, .int .i64 o.n, .int .i64 o.m, .bool o.second, .string o.name, o.ds.val, o.ks.val, .int .u32 o.sum]) (by omega) (by simp) (fun _ _ => rfl) fun i hi' j u hj => ?_
      rw [List.length_map, List.length_range] at hi'
      simp only [List.getElem_map, List.getElem_range] at hj
      exact (hF i hi').1 j u hj
    · obtain ⟨i, hi', rfl⟩ := List.mem_map.1 ho
      exact (hF i (List.mem_range.1 hi')).2.2.1
    · obtain ⟨i, hi', rfl⟩ := List.mem_map.1 ho
      exact (hF i (List.mem_range.1 hi')).2.2.2
end
end Go.Proofs.YtjnifnlkicajhaaDoor.Opn
