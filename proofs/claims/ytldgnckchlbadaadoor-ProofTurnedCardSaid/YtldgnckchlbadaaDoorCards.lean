/-
  DERIVED. GIVEN WITH THE SEED: THE CARDS: each row of YtldgnckchlbadaaDoorRows.lean that lists a variable, with what it lists TIED to the program's text (the seventh form; the later family's looks); each row that meets fmt, with fmt's text TOLD by the authors' own Lean function (tested against real Go, not proved from fmt's source: count such statements apart). THE CARD IS WHAT COUNTS. Prove the row's statement (the work); the ties are given (YtldgnckchlbadaaDoorTie.lean); close each card by the builder's one call (the guide's Derived/Test/ToyasCard.lean, 'card_holds'). Laid BY PROGRAM, IN A SANDBOX (cutbox-door.mjs). By AI agents, Wed Nov 11 2026. No macro, syntax, notation, axiom, sorry.
-/
import Derived.Test.YtldgnckchlbadaaDoorRows
import GoSem.ClaimSeven
namespace Go.Proofs.YtldgnckchlbadaaDoor
namespace Rows

/-- THE TIED CARD OF 'engrosserlaw31.ProofTurned'. -/
def proofTurnedCard : Claim7 := { stood := { row := proofTurnedRow, standIns := [], harness := (true, "264fc71c4a89521235347f5d3af2f2e4e97ac51b2bf03c0ed9744b986d0c409e"), looks := false }, kinds := [], alts := [], laidByText := true, laidKinds := [.data, .data], laidTests := true, laidLooks := .later }
def ProofTurnedCardSaid : Prop := Claim7.holds Tryd.pinned (.plain (OpenSpec.ofChange proofTurnedSpec)) proofTurnedCard

/-- THE SECOND FORM's CARD OF 'engrosserlaw31.ProofTurned'. -/
def proofTurnedUptoCard : Claim7 := { stood := { row := proofTurnedUptoRow, standIns := [], harness := (true, "264fc71c4a89521235347f5d3af2f2e4e97ac51b2bf03c0ed9744b986d0c409e"), looks := false }, kinds := [], alts := [], laidByText := true, laidKinds := [.data, .data], laidTests := true, laidLooks := .later }
def ProofTurnedUptoCardSaid : Prop := Claim7.holds Tryd.pinned (.plain (OpenSpec.upto proofTurnedSpec)) proofTurnedUptoCard
end Rows
end Go.Proofs.YtldgnckchlbadaaDoor
