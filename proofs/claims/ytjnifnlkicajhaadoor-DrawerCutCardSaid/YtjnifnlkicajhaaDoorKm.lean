/-
  What the rows of this seat list, and a world that holds it; what a law's row is closed by. No condition is put on any statement here.
-/
import Derived.Test.YtjnifnlkicajhaaDoorOpen
import Derived.Test.YtjnifnlkicajhaaDoorJe
import Derived.Test.YtjnifnlkicajhaaDoorCards
import Derived.Test.YtjnifnlkicajhaaDoorTie
import Derived.Deep.DeepHandedRow
import Derived.Deep.DeepWitnessRowRef
import Derived.Lib.LaidTab
import Derived.Stop.LaidErr
import Derived.SevenTiedAt
namespace Go.Proofs.YtjnifnlkicajhaaDoor.Km
open Go Go.ChangeShapes Go.WideShapes Go.ChangeAt Go.RowKit Go.Deep Vc Hp Fs Da Dd Jn Opn

theorem ownK : ownKnob Tryd.prog.godebug = none := by kernel_rfl
theorem laidOut : laidOutB Tryd.prog = true := by kernel_rfl
theorem powType : (Tryd.prog.globals[0]?).map (·.type) = some 135 := by kernel_rfl
theorem cells20 : Tryd.prog.cellsOf 135 = 20 := by kernel_rfl
theorem cells1 : Tryd.prog.cellsOf 101 = 1 := by kernel_rfl
abbrev laidL : List (String × DataW Unit) := Rows.drawerCostRow.laid
theorem tab_of {W : World} (h : laidMetH Tryd.prog laidL W) : Tab W (fun _ => 0) := by
  have h' : laidMet Tryd.prog laidL W := h
  have h2 := h'.tail.tail
  refine ⟨Lib.tabIs_of_head (rest := [("strconv.ErrRange", Rows.laid_strconv_ErrRange), ("strconv.ErrSyntax", Rows.laid_strconv_ErrSyntax)]) gPow powType Tryd.underlying135 Tryd.underlying101 cells1 cells20 h2, rfl⟩

/-- the settled world with two blocks more, and the five variables as their initialisers lay them -/
noncomputable def laidWorld (os : Os) : World :=
  let N := (World.settled Tryd.prog os).heap.size
  let w0 := World.holding Tryd.prog os ⟨#[.cells #[.string ⟨#[105, 110, 118, 97, 108, 105, 100, 32, 115, 121, 110, 116, 97, 120]⟩] 148, .cells #[.string ⟨#[118, 97, 108, 117, 101, 32, 111, 117, 116, 32, 111, 102, 32, 114, 97, 110, 103, 101]⟩] 148], #[], []⟩
  let put (h : Array Obj) (g : Nat) (cs : Array Value) : Array Obj := h.modify g fun
    | .cells _ t frozen => .cells cs t frozen
    | o => o
  let h0 := put (put w0.heap 1 #[.iface 146 (.pointer (some ⟨N, 0, none⟩))]) 2 #[.iface 146 (.pointer (some ⟨N + 1, 0, none⟩))]
  let h1 := put h0 0 (Lib.pow10Tab.map fun z => Value.int .u64 z).toArray
  let h2 := put h1 3 (([0, 1, 28, 2, 29, 14, 24, 3, 30, 22, 20, 15, 25, 17, 4, 8, 31, 27, 13, 23, 21, 19, 16, 7, 26, 12, 18, 6, 11, 5, 10, 9] : List Int).map fun z => Value.int .u8 z).toArray
  let h3 := put h2 4 (([0, 1, 56, 2, 57, 49, 28, 3, 61, 58, 42, 50, 38, 29, 17, 4, 62, 47, 59, 36, 45, 43, 51, 22, 53, 39, 33, 30, 24, 18, 12, 5, 63, 55, 48, 27, 60, 41, 37, 16, 46, 35, 44, 21, 52, 32, 23, 11, 54, 26, 40, 15, 34, 20, 31, 10, 25, 14, 19, 9, 13, 8, 7, 6] : List Int).map fun z => Value.int .u8 z).toArray
  { w0 with heap := h3 }
theorem laid_met (os : Os) (args : Array Value) : laidMet Tryd.prog laidL ((laidWorld os).forCall (fun _ _ => 0) ⟨#[], args, []⟩).memory :=
  laidMet_of_run' 8 (by kernel_rfl) (by kernel_rfl)
end Go.Proofs.YtjnifnlkicajhaaDoor.Km
