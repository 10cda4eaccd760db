/-
  The law's list of files, its bytes turned in place. No condition is put on any statement here.
-/
import Derived.Test.YtjnifnlkicajhaaLe
namespace Go.Proofs.Ytjnifnlkicajhaa.La
open Go Vc Hp Fs Da Pm Dd Rd
set_option maxRecDepth 4000

theorem some_u8 (z : Int) : ∃ x : UInt8, (.int .u8 (IntKind.u8.wrap z) : Value) = u8 x := by
  refine ⟨UInt8.ofNat (z % 256).toNat, ?_⟩
  have h1 : IntKind.u8.wrap z = z % 256 := by simp [IntKind.wrap, IntKind.signed, IntKind.bits]
  have h2 : (UInt8.ofNat (z % 256).toNat).toNat = (z % 256).toNat := by
    rw [UInt8.toNat_ofNat']
    omega
  show Value.int .u8 _ = Value.int .u8 _
  rw [h1, h2]
  congr 1
  omega
theorem BSl.turn {w c k q e g cs i x w'} (h : BSl w c k q e) (ho : Own w c g k (.cells cs 5 (0, 0))) (ho' : Own w' c g k (.cells (cs.setIfInBounds i (u8 x)) 5 (0, 0))) (hc : Chg (· = g) w w') : ∃ e', BSl w' c k q e' := by
  obtain ⟨g', cs', hp, hq, h1, h2⟩ := h.at'
  by_cases hg : g' = g
  · subst hg
    have : cs' = cs := by
      have := hq.at'.symm.trans ho.at'
      injection this with this
      injection this
    subst this
    refine ⟨e.set i x, by rw [List.length_set]; exact h.len, h.cap, g', _, hp, ho', by simpa using h1, ?_⟩
    rw [Array.toList_setIfInBounds, List.take_set, h2, List.map_set]
  · exact ⟨e, h.chg hc (Ext.refl _ _) fun y hy hyg => hg (by simp [Sl.blk, hp] at hy; rw [hy, hyg])⟩
theorem fcells_data (gl : List (AF × Sl)) (g : AF × Sl → List UInt8) : fcells (gl.map fun p => (⟨p.1.name, g p, p.1.sure⟩, p.2)) = fcells gl := by
  unfold fcells
  rw [List.flatMap_map]
open Classical in
/-- a byte of one of its files is turned -/
theorem InF.turn {w c k s gl q d i} {v : Int} {K : World → Prop} (h : InF w c k s gl) (hq : BSl w c k q d) (hi : i < q.len)
    (hk : ∀ w' gl', InF w' c k s gl' → gl'.map (·.2) = gl.map (·.2) → gl'.map (·.1.name) = gl.map (·.1.name) → Eff (· = k) w c w' c → K w') : ix q.p q.len (i : Int) 1 fun a => st w a (.int .u8 (IntKind.u8.wrap v)) K := by
  obtain ⟨g, cs, hp, ho, h1, h2⟩ := hq.at'
  obtain ⟨x, hx⟩ := some_u8 v
  refine ⟨_, hp, by omega, by omega, ?_⟩
  rw [hx, Int.toNat_natCast, Nat.mul_one]
  refine st_own ho (by omega) fun w' ho' hc hs => ?_
  have ht : ∀ p ∈ gl, ∃ e', BSl w' c k p.2 e' := fun p hpm => (h.data p hpm).turn ho ho' hc
  let ge : AF × Sl → List UInt8 := fun p => if hh : ∃ e', BSl w' c k p.2 e' then hh.choose else []
  have hge : ∀ p ∈ gl, BSl w' c k p.2 (ge p) := fun p hpm => by
    have := ht p hpm
    show BSl w' c k p.2 (if hh : ∃ e', BSl w' c k p.2 e' then hh.choose else [])
    rw [dif_pos this]
    exact this.choose_spec
  refine hk w' (gl.map fun p => (⟨p.1.name, ge p, p.1.sure⟩, p.2)) ⟨by rw [List.length_map]; exact h.len, h.cap, ?_, fun p hpm => ?_⟩ (by rw [List.map_map]; rfl) (by rw [List.map_map]; rfl) ((Eff.refl _ _ _).one hc (fun _ => ho.col))
  · obtain ⟨g', cs', hp', ho2, h3, h4⟩ := h.at'
    exact ⟨g', cs', hp', ho2.chg' hc (ho2.neT ho (by decide)), h3, by rw [fcells_data]; exact h4⟩
  · obtain ⟨p', hp', rfl⟩ := List.mem_map.1 hpm
    exact hge p' hp'
theorem InF.drew {w c k s gl} (h : InF w c k s gl) : InF w.drew c k s gl := by
  obtain ⟨g, cs, hp, ho, h1, h2⟩ := h.at'
  refine ⟨h.len, h.cap, ⟨g, cs, hp, ho.drew, h1, h2⟩, fun p hpm => ?_⟩
  have hd := h.data p hpm
  obtain ⟨g', cs', hp', ho', h3, h4⟩ := hd.at'
  exact ⟨hd.len, hd.cap, g', cs', hp', ho'.drew, h3, h4⟩
theorem InF.eff {w c k s gl j w' c'} (h : InF w c k s gl) (hc : Eff j w c w' c') (hj : ¬ j k) : InF w' c' k s gl := by
  obtain ⟨g, cs, hp, ho, h1, h2⟩ := h.at'
  refine ⟨h.len, h.cap, ⟨g, cs, hp, ho.eff hc hj, h1, h2⟩, fun p hpm => ?_⟩
  have hd := h.data p hpm
  obtain ⟨g', cs', hp', ho', h3, h4⟩ := hd.at'
  exact ⟨hd.len, hd.cap, g', cs', hp', ho'.eff hc hj, h3, h4⟩
end Go.Proofs.Ytjnifnlkicajhaa.La
