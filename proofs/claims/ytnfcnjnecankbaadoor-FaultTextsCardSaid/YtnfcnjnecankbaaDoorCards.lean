/-
  DERIVED. GIVEN WITH THE SEED: THE CARDS: each row of YtnfcnjnecankbaaDoorRows.lean that lists a variable, with what it lists TIED to the program's text (the seventh form; the later family's looks); each row that meets fmt, with fmt's text TOLD by the authors' own Lean function (tested against real Go, not proved from fmt's source: count such statements apart). THE CARD IS WHAT COUNTS. Prove the row's statement (the work); the ties are given (YtnfcnjnecankbaaDoorTie.lean); close each card by the builder's one call (the guide's Derived/Test/ToyasCard.lean, 'card_holds'). Laid BY PROGRAM, IN A SANDBOX (cutbox-door.mjs). By AI agents, Wed Nov 11 2026. No macro, syntax, notation, axiom, sorry.
-/
import Derived.Test.YtnfcnjnecankbaaDoorRows
import GoSem.ClaimSeven
namespace Go.Proofs.YtnfcnjnecankbaaDoor
namespace Rows

/-- THE TIED CARD OF 'engrosserlaw09.FaultTexts'. -/
def faultTextsCard : Claim7 := { stood := { row := faultTextsRow, standIns := [], harness := (true, "f3c5ca4c3efe0da345cb749579c2274ed60bbe069730f2274d0068ef021d3c7d"), looks := true }, kinds := [], alts := [], laidByText := true, laidKinds := [.data, .data, .data, .handle], laidTests := true, laidLooks := .later }
def FaultTextsCardSaid : Prop := Claim7.holds Tryd.pinned (.plain (OpenSpec.ofChange faultTextsSpec)) faultTextsCard

/-- THE TIED CARD OF 'engrosserlaw09.FaultCodes'. -/
def faultCodesCard : Claim7 := { stood := { row := faultCodesRow, standIns := [], harness := (true, "f3c5ca4c3efe0da345cb749579c2274ed60bbe069730f2274d0068ef021d3c7d"), looks := true }, kinds := [], alts := [], laidByText := true, laidKinds := [.data, .data, .data, .handle], laidTests := true, laidLooks := .later }
def FaultCodesCardSaid : Prop := Claim7.holds Tryd.pinned (.plain (OpenSpec.ofChange faultCodesSpec)) faultCodesCard

/-- THE TIED CARD OF 'engrosserlaw09.FaultPlaces'. -/
def faultPlacesCard : Claim7 := { stood := { row := faultPlacesRow, standIns := [], harness := (true, "f3c5ca4c3efe0da345cb749579c2274ed60bbe069730f2274d0068ef021d3c7d"), looks := true }, kinds := [], alts := [], laidByText := true, laidKinds := [.data, .data, .data, .handle], laidTests := true, laidLooks := .later }
def FaultPlacesCardSaid : Prop := Claim7.holds Tryd.pinned (.plain (OpenSpec.ofChange faultPlacesSpec)) faultPlacesCard

/-- THE TIED CARD OF 'engrosserlaw09.FaultNil'. -/
def faultNilCard : Claim7 := { stood := { row := faultNilRow, standIns := [], harness := (true, "f3c5ca4c3efe0da345cb749579c2274ed60bbe069730f2274d0068ef021d3c7d"), looks := true }, kinds := [], alts := [], laidByText := true, laidKinds := [.data, .data, .data, .handle], laidTests := true, laidLooks := .later }
def FaultNilCardSaid : Prop := Claim7.holds Tryd.pinned (.plain (OpenSpec.ofChange faultNilSpec)) faultNilCard

/-- THE SECOND FORM's CARD OF 'engrosserlaw09.FaultTexts'. -/
def faultTextsUptoCard : Claim7 := { stood := { row := faultTextsUptoRow, standIns := [], harness := (true, "f3c5ca4c3efe0da345cb749579c2274ed60bbe069730f2274d0068ef021d3c7d"), looks := true }, kinds := [], alts := [], laidByText := true, laidKinds := [.data, .data, .data, .handle], laidTests := true, laidLooks := .later }
def FaultTextsUptoCardSaid : Prop := Claim7.holds Tryd.pinned (.plain (OpenSpec.upto faultTextsSpec)) faultTextsUptoCard

/-- THE SECOND FORM's CARD OF 'engrosserlaw09.FaultCodes'. -/
def faultCodesUptoCard : Claim7 := { stood := { row := faultCodesUptoRow, standIns := [], harness := (true, "f3c5ca4c3efe0da345cb749579c2274ed60bbe069730f2274d0068ef021d3c7d"), looks := true }, kinds := [], alts := [], laidByText := true, laidKinds := [.data, .data, .data, .handle], laidTests := true, laidLooks := .later }
def FaultCodesUptoCardSaid : Prop := Claim7.holds Tryd.pinned (.plain (OpenSpec.upto faultCodesSpec)) faultCodesUptoCard

/-- THE SECOND FORM's CARD OF 'engrosserlaw09.FaultPlaces'. -/
def faultPlacesUptoCard : Claim7 := { stood := { row := faultPlacesUptoRow, standIns := [], harness := (true, "f3c5ca4c3efe0da345cb749579c2274ed60bbe069730f2274d0068ef021d3c7d"), looks := true }, kinds := [], alts := [], laidByText := true, laidKinds := [.data, .data, .data, .handle], laidTests := true, laidLooks := .later }
def FaultPlacesUptoCardSaid : Prop := Claim7.holds Tryd.pinned (.plain (OpenSpec.upto faultPlacesSpec)) faultPlacesUptoCard

/-- THE SECOND FORM's CARD OF 'engrosserlaw09.FaultNil'. -/
def faultNilUptoCard : Claim7 := { stood := { row := faultNilUptoRow, standIns := [], harness := (true, "f3c5ca4c3efe0da345cb749579c2274ed60bbe069730f2274d0068ef021d3c7d"), looks := true }, kinds := [], alts := [], laidByText := true, laidKinds := [.data, .data, .data, .handle], laidTests := true, laidLooks := .later }
def FaultNilUptoCardSaid : Prop := Claim7.holds Tryd.pinned (.plain (OpenSpec.upto faultNilSpec)) faultNilUptoCard
end Rows
end Go.Proofs.YtnfcnjnecankbaaDoor
