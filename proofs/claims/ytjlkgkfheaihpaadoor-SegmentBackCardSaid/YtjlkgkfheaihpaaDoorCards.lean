/-
  DERIVED. GIVEN WITH THE SEED: THE CARDS: each row of YtjlkgkfheaihpaaDoorRows.lean that lists a variable, with what it lists TIED to the program's text (the seventh form; the later family's looks); each row that meets fmt, with fmt's text TOLD by the authors' own Lean function (tested against real Go, not proved from fmt's source: count such statements apart). THE CARD IS WHAT COUNTS. Prove the row's statement (the work); the ties are given (YtjlkgkfheaihpaaDoorTie.lean); close each card by the builder's one call (the guide's Derived/Test/ToyasCard.lean, 'card_holds'). Laid BY PROGRAM, IN A SANDBOX (cutbox-door.mjs). By AI agents, Wed Nov 11 2026. No macro, syntax, notation, axiom, sorry.
-/
import Derived.Test.YtjlkgkfheaihpaaDoorRows
import GoSem.ClaimSeven
namespace Go.Proofs.YtjlkgkfheaihpaaDoor
namespace Rows

/-- THE TIED CARD OF 'engrosserlaw13.SegmentParts'. -/
def segmentPartsCard : Claim7 := { stood := { row := segmentPartsRow, standIns := [], harness := (true, "ed14d6a11b662d2f1d9cb9f4c3cec85858ecf6eafc3dfa79499c9323580653df"), looks := false }, kinds := [], alts := [], laidByText := true, laidKinds := [.data, .data], laidTests := true, laidLooks := .later }
def SegmentPartsCardSaid : Prop := Claim7.holds Tryd.pinned (.plain (OpenSpec.ofChange segmentPartsSpec)) segmentPartsCard

/-- THE TIED CARD OF 'engrosserlaw13.SegmentParses'. -/
def segmentParsesCard : Claim7 := { stood := { row := segmentParsesRow, standIns := [], harness := (true, "ed14d6a11b662d2f1d9cb9f4c3cec85858ecf6eafc3dfa79499c9323580653df"), looks := false }, kinds := [], alts := [], laidByText := true, laidKinds := [.data, .data], laidTests := true, laidLooks := .later }
def SegmentParsesCardSaid : Prop := Claim7.holds Tryd.pinned (.plain (OpenSpec.ofChange segmentParsesSpec)) segmentParsesCard

/-- THE TIED CARD OF 'engrosserlaw13.SegmentBack'. -/
def segmentBackCard : Claim7 := { stood := { row := segmentBackRow, standIns := [], harness := (true, "ed14d6a11b662d2f1d9cb9f4c3cec85858ecf6eafc3dfa79499c9323580653df"), looks := false }, kinds := [], alts := [], laidByText := true, laidKinds := [.data, .data], laidTests := true, laidLooks := .later }
def SegmentBackCardSaid : Prop := Claim7.holds Tryd.pinned (.plain (OpenSpec.ofChange segmentBackSpec)) segmentBackCard

/-- THE SECOND FORM's CARD OF 'engrosserlaw13.SegmentParts'. -/
def segmentPartsUptoCard : Claim7 := { stood := { row := segmentPartsUptoRow, standIns := [], harness := (true, "ed14d6a11b662d2f1d9cb9f4c3cec85858ecf6eafc3dfa79499c9323580653df"), looks := false }, kinds := [], alts := [], laidByText := true, laidKinds := [.data, .data], laidTests := true, laidLooks := .later }
def SegmentPartsUptoCardSaid : Prop := Claim7.holds Tryd.pinned (.plain (OpenSpec.upto segmentPartsSpec)) segmentPartsUptoCard

/-- THE SECOND FORM's CARD OF 'engrosserlaw13.SegmentParses'. -/
def segmentParsesUptoCard : Claim7 := { stood := { row := segmentParsesUptoRow, standIns := [], harness := (true, "ed14d6a11b662d2f1d9cb9f4c3cec85858ecf6eafc3dfa79499c9323580653df"), looks := false }, kinds := [], alts := [], laidByText := true, laidKinds := [.data, .data], laidTests := true, laidLooks := .later }
def SegmentParsesUptoCardSaid : Prop := Claim7.holds Tryd.pinned (.plain (OpenSpec.upto segmentParsesSpec)) segmentParsesUptoCard

/-- THE SECOND FORM's CARD OF 'engrosserlaw13.SegmentBack'. -/
def segmentBackUptoCard : Claim7 := { stood := { row := segmentBackUptoRow, standIns := [], harness := (true, "ed14d6a11b662d2f1d9cb9f4c3cec85858ecf6eafc3dfa79499c9323580653df"), looks := false }, kinds := [], alts := [], laidByText := true, laidKinds := [.data, .data], laidTests := true, laidLooks := .later }
def SegmentBackUptoCardSaid : Prop := Claim7.holds Tryd.pinned (.plain (OpenSpec.upto segmentBackSpec)) segmentBackUptoCard
end Rows
end Go.Proofs.YtjlkgkfheaihpaaDoor
