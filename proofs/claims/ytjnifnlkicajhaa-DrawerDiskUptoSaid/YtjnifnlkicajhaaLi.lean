/-
  The law's one call of both disks. No condition is put on any statement here.
-/
import Derived.Test.YtjnifnlkicajhaaLh
namespace Go.Proofs.Ytjnifnlkicajhaa.La
open Go Vc Hp Fs Da Pm Dd Rd
set_option maxRecDepth 4000

/-- both disks do the same -/
structure St (w : World) (c : Col) (pb d m : Nat) (L : List FE) (b : Nat) (z : Sl) (gl : List (AF × Sl)) (A : PD) : Prop where
  pair : Own w c pb 6 (.cells #[.pointer (some ⟨d, 0, none⟩), .pointer none, .pointer (some ⟨b, 0, none⟩), .pointer none] 32 (0, 0))
  dd : DDisk w c 1 d m L A
  rd : RDisk w c 2 b z gl A
  ok : A.Ok
theorem St.new {w c pb d m L b z gl A w' c'} (h : St w c pb d m L b z gl A) (hc : Chg (fun _ => False) w w') (he : Ext w c c') : St w' c' pb d m L b z gl A := ⟨h.pair.chg hc he id, h.dd.new hc he, h.rd.new hc he, h.ok⟩
theorem St.drew {w c pb d m L b z gl A} (h : St w c pb d m L b z gl A) : St w.drew c pb d m L b z gl A := ⟨h.pair.drew, h.dd.drew, h.rd.drew, h.ok⟩
theorem St.eff {w c pb d m L b z gl A j w' c'} (h : St w c pb d m L b z gl A) (hc : Eff j w c w' c') (h1 : ¬ j 1) (h2 : ¬ j 2) (h6 : ¬ j 6) : St w' c' pb d m L b z gl A := ⟨h.pair.eff hc h6, h.dd.eff hc h1, h.rd.eff hc h2, h.ok⟩
theorem own1 : ∀ k, k = 1 → own k := fun k hk => by rw [hk]; decide
theorem own2 : ∀ k, k = 2 → own k := fun k hk => by rw [hk]; decide
theorem own3 : ∀ k, k = 3 → own k := fun k hk => by rw [hk]; decide
end Go.Proofs.Ytjnifnlkicajhaa.La
