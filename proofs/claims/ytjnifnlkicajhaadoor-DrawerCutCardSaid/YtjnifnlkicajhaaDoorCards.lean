/-
  DERIVED. GIVEN WITH THE SEED: THE CARDS: each row of YtjnifnlkicajhaaDoorRows.lean that lists a variable, with what it lists TIED to the program's text (the seventh form; the later family's looks); each row that meets fmt, with fmt's text TOLD by the authors' own Lean function (tested against real Go, not proved from fmt's source: count such statements apart). THE CARD IS WHAT COUNTS. Prove the row's statement (the work); the ties are given (YtjnifnlkicajhaaDoorTie.lean); close each card by the builder's one call (the guide's Derived/Test/ToyasCard.lean, 'card_holds'). Laid BY PROGRAM, IN A SANDBOX (cutbox-door.mjs). By AI agents, Wed Nov 11 2026. No macro, syntax, notation, axiom, sorry.
-/
import Derived.Test.YtjnifnlkicajhaaDoorRows
import GoSem.ClaimSeven
namespace Go.Proofs.YtjnifnlkicajhaaDoor
namespace Rows

/-- THE TIED CARD OF 'levylaw19.DrawerCut'. -/
def drawerCutCard : Claim7 := { stood := { row := drawerCutRow, standIns := [], harness := (true, "64c4840ae0792512dedb75dec141b888d2dfe5cb182fe258828d578f34f19ce9"), looks := true }, kinds := [], alts := [], laidByText := true, laidKinds := [.data, .data, .data, .sentinel, .sentinel], laidTests := true, laidLooks := .later }
def DrawerCutCardSaid : Prop := Claim7.holds Tryd.pinned (.plain (OpenSpec.ofChange drawerCutSpec)) drawerCutCard

/-- THE TIED CARD OF 'levylaw19.DrawerCost'. -/
def drawerCostCard : Claim7 := { stood := { row := drawerCostRow, standIns := [], harness := (true, "64c4840ae0792512dedb75dec141b888d2dfe5cb182fe258828d578f34f19ce9"), looks := true }, kinds := [], alts := [], laidByText := true, laidKinds := [.data, .data, .data, .sentinel, .sentinel], laidTests := true, laidLooks := .later }
def DrawerCostCardSaid : Prop := Claim7.holds Tryd.pinned (.plain (OpenSpec.ofChange drawerCostSpec)) drawerCostCard

/-- THE TIED CARD OF 'levylaw19.DrawerKept'. -/
def drawerKeptCard : Claim7 := { stood := { row := drawerKeptRow, standIns := [], harness := (true, "64c4840ae0792512dedb75dec141b888d2dfe5cb182fe258828d578f34f19ce9"), looks := true }, kinds := [], alts := [], laidByText := true, laidKinds := [.data, .data, .data, .sentinel, .sentinel], laidTests := true, laidLooks := .later }
def DrawerKeptCardSaid : Prop := Claim7.holds Tryd.pinned (.plain (OpenSpec.ofChange drawerKeptSpec)) drawerKeptCard

/-- THE SECOND FORM's CARD OF 'levylaw19.DrawerCut'. -/
def drawerCutUptoCard : Claim7 := { stood := { row := drawerCutUptoRow, standIns := [], harness := (true, "64c4840ae0792512dedb75dec141b888d2dfe5cb182fe258828d578f34f19ce9"), looks := true }, kinds := [], alts := [], laidByText := true, laidKinds := [.data, .data, .data, .sentinel, .sentinel], laidTests := true, laidLooks := .later }
def DrawerCutUptoCardSaid : Prop := Claim7.holds Tryd.pinned (.plain (OpenSpec.upto drawerCutSpec)) drawerCutUptoCard

/-- THE SECOND FORM's CARD OF 'levylaw19.DrawerCost'. -/
def drawerCostUptoCard : Claim7 := { stood := { row := drawerCostUptoRow, standIns := [], harness := (true, "64c4840ae0792512dedb75dec141b888d2dfe5cb182fe258828d578f34f19ce9"), looks := true }, kinds := [], alts := [], laidByText := true, laidKinds := [.data, .data, .data, .sentinel, .sentinel], laidTests := true, laidLooks := .later }
def DrawerCostUptoCardSaid : Prop := Claim7.holds Tryd.pinned (.plain (OpenSpec.upto drawerCostSpec)) drawerCostUptoCard

/-- THE SECOND FORM's CARD OF 'levylaw19.DrawerKept'. -/
def drawerKeptUptoCard : Claim7 := { stood := { row := drawerKeptUptoRow, standIns := [], harness := (true, "64c4840ae0792512dedb75dec141b888d2dfe5cb182fe258828d578f34f19ce9"), looks := true }, kinds := [], alts := [], laidByText := true, laidKinds := [.data, .data, .data, .sentinel, .sentinel], laidTests := true, laidLooks := .later }
def DrawerKeptUptoCardSaid : Prop := Claim7.holds Tryd.pinned (.plain (OpenSpec.upto drawerKeptSpec)) drawerKeptUptoCard
end Rows
end Go.Proofs.YtjnifnlkicajhaaDoor
