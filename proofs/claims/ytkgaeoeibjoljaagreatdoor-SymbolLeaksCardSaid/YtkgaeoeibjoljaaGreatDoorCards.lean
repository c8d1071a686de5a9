/-
  DERIVED. GIVEN WITH THE SEED: THE CARDS: each row of YtkgaeoeibjoljaaGreatDoorRows.lean that lists a variable, with what it lists TIED to the program's text (the seventh form; the later family's looks); each row that meets fmt, with fmt's text TOLD by the authors' own Lean function (tested against real Go, not proved from fmt's source: count such statements apart). THE CARD IS WHAT COUNTS. Prove the row's statement (the work); the ties are given (YtkgaeoeibjoljaaGreatDoorTie.lean); close each card by the builder's one call (the guide's Derived/Test/ToyasCard.lean, 'card_holds'). Laid BY PROGRAM, IN A SANDBOX (cutbox-door.mjs). By AI agents, Wed Nov 11 2026. No macro, syntax, notation, axiom, sorry.
-/
import Derived.Test.YtkgaeoeibjoljaaGreatDoorRows
import GoSem.ClaimSeven
namespace Go.Proofs.YtkgaeoeibjoljaaGreatDoor
namespace Rows

/-- THE TIED CARD OF 'engrosserlaw34.SymbolNames'. -/
def symbolNamesCard : Claim7 := { stood := { row := symbolNamesRow, standIns := [], harness := (true, "6e1a02f69d2902290c8a5cec127b086cbbe01e483d568a5c504711b9e87c39c7"), looks := true }, kinds := [], alts := [], laidByText := true, laidKinds := [.data, .data, .data, .data, .data], laidTests := true, laidLooks := .later }
def SymbolNamesCardSaid : Prop := Claim7.holds Tryz.pinned (.plain (OpenSpec.ofChange symbolNamesSpec)) symbolNamesCard

/-- THE TIED CARD OF 'engrosserlaw34.SymbolLeaks'. -/
def symbolLeaksCard : Claim7 := { stood := { row := symbolLeaksRow, standIns := [], harness := (true, "6e1a02f69d2902290c8a5cec127b086cbbe01e483d568a5c504711b9e87c39c7"), looks := true }, kinds := [], alts := [], laidByText := true, laidKinds := [.data, .data, .data, .data, .data], laidTests := true, laidLooks := .later }
def SymbolLeaksCardSaid : Prop := Claim7.holds Tryz.pinned (.plain (OpenSpec.ofChange symbolLeaksSpec)) symbolLeaksCard

/-- THE TIED CARD OF 'engrosserlaw34.SymbolSizes'. -/
def symbolSizesCard : Claim7 := { stood := { row := symbolSizesRow, standIns := [], harness := (true, "6e1a02f69d2902290c8a5cec127b086cbbe01e483d568a5c504711b9e87c39c7"), looks := true }, kinds := [], alts := [], laidByText := true, laidKinds := [.data, .data, .data, .handle, .data, .data], laidTests := true, laidLooks := .later }
def SymbolSizesCardSaid : Prop := Claim7.holds Tryz.pinned (.plain (OpenSpec.ofChange symbolSizesSpec)) symbolSizesCard

/-- THE SECOND FORM's CARD OF 'engrosserlaw34.SymbolNames'. -/
def symbolNamesUptoCard : Claim7 := { stood := { row := symbolNamesUptoRow, standIns := [], harness := (true, "6e1a02f69d2902290c8a5cec127b086cbbe01e483d568a5c504711b9e87c39c7"), looks := true }, kinds := [], alts := [], laidByText := true, laidKinds := [.data, .data, .data, .data, .data], laidTests := true, laidLooks := .later }
def SymbolNamesUptoCardSaid : Prop := Claim7.holds Tryz.pinned (.plain (OpenSpec.upto symbolNamesSpec)) symbolNamesUptoCard

/-- THE SECOND FORM's CARD OF 'engrosserlaw34.SymbolLeaks'. -/
def symbolLeaksUptoCard : Claim7 := { stood := { row := symbolLeaksUptoRow, standIns := [], harness := (true, "6e1a02f69d2902290c8a5cec127b086cbbe01e483d568a5c504711b9e87c39c7"), looks := true }, kinds := [], alts := [], laidByText := true, laidKinds := [.data, .data, .data, .data, .data], laidTests := true, laidLooks := .later }
def SymbolLeaksUptoCardSaid : Prop := Claim7.holds Tryz.pinned (.plain (OpenSpec.upto symbolLeaksSpec)) symbolLeaksUptoCard

/-- THE SECOND FORM's CARD OF 'engrosserlaw34.SymbolSizes'. -/
def symbolSizesUptoCard : Claim7 := { stood := { row := symbolSizesUptoRow, standIns := [], harness := (true, "6e1a02f69d2902290c8a5cec127b086cbbe01e483d568a5c504711b9e87c39c7"), looks := true }, kinds := [], alts := [], laidByText := true, laidKinds := [.data, .data, .data, .handle, .data, .data], laidTests := true, laidLooks := .later }
def SymbolSizesUptoCardSaid : Prop := Claim7.holds Tryz.pinned (.plain (OpenSpec.upto symbolSizesSpec)) symbolSizesUptoCard
end Rows
end Go.Proofs.YtkgaeoeibjoljaaGreatDoor
