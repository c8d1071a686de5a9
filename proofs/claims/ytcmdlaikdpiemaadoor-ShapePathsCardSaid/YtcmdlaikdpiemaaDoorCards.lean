/-
  DERIVED. GIVEN WITH THE SEED: THE CARDS: each row of YtcmdlaikdpiemaaDoorRows.lean that lists a variable, with what it lists TIED to the program's text (the seventh form; the later family's looks); each row that meets fmt, with fmt's text TOLD by the authors' own Lean function (tested against real Go, not proved from fmt's source: count such statements apart). THE CARD IS WHAT COUNTS. Prove the row's statement (the work); the ties are given (YtcmdlaikdpiemaaDoorTie.lean); close each card by the builder's one call (the guide's Derived/Test/ToyasCard.lean, 'card_holds'). Laid BY PROGRAM, IN A SANDBOX (cutbox-door.mjs). By AI agents, Wed Nov 11 2026. No macro, syntax, notation, axiom, sorry.
-/
import Derived.Test.YtcmdlaikdpiemaaDoorRows
import GoSem.ClaimSeven
namespace Go.Proofs.YtcmdlaikdpiemaaDoor
namespace Rows

/-- THE TIED CARD OF 'engrosserlaw18.ShapeNodes'. -/
def shapeNodesCard : Claim7 := { stood := { row := shapeNodesRow, standIns := [], harness := (true, "f23ae07e1e971826e73d634fcaf07287bd0656572a89b851d5250a2bbefc2d38"), looks := false }, kinds := [], alts := [], laidByText := true, laidKinds := [.data, .data], laidTests := true, laidLooks := .later }
def ShapeNodesCardSaid : Prop := Claim7.holds Tryd.pinned (.plain (OpenSpec.ofChange shapeNodesSpec)) shapeNodesCard

/-- THE TIED CARD OF 'engrosserlaw18.ShapeAbove'. -/
def shapeAboveCard : Claim7 := { stood := { row := shapeAboveRow, standIns := [], harness := (true, "f23ae07e1e971826e73d634fcaf07287bd0656572a89b851d5250a2bbefc2d38"), looks := false }, kinds := [], alts := [], laidByText := true, laidKinds := [.data, .data], laidTests := true, laidLooks := .later }
def ShapeAboveCardSaid : Prop := Claim7.holds Tryd.pinned (.plain (OpenSpec.ofChange shapeAboveSpec)) shapeAboveCard

/-- THE TIED CARD OF 'engrosserlaw18.ShapePaths'. -/
def shapePathsCard : Claim7 := { stood := { row := shapePathsRow, standIns := [], harness := (true, "f23ae07e1e971826e73d634fcaf07287bd0656572a89b851d5250a2bbefc2d38"), looks := false }, kinds := [], alts := [], laidByText := true, laidKinds := [.data, .data], laidTests := true, laidLooks := .later }
def ShapePathsCardSaid : Prop := Claim7.holds Tryd.pinned (.plain (OpenSpec.ofChange shapePathsSpec)) shapePathsCard

/-- THE SECOND FORM's CARD OF 'engrosserlaw18.ShapeNodes'. -/
def shapeNodesUptoCard : Claim7 := { stood := { row := shapeNodesUptoRow, standIns := [], harness := (true, "f23ae07e1e971826e73d634fcaf07287bd0656572a89b851d5250a2bbefc2d38"), looks := false }, kinds := [], alts := [], laidByText := true, laidKinds := [.data, .data], laidTests := true, laidLooks := .later }
def ShapeNodesUptoCardSaid : Prop := Claim7.holds Tryd.pinned (.plain (OpenSpec.upto shapeNodesSpec)) shapeNodesUptoCard

/-- THE SECOND FORM's CARD OF 'engrosserlaw18.ShapeAbove'. -/
def shapeAboveUptoCard : Claim7 := { stood := { row := shapeAboveUptoRow, standIns := [], harness := (true, "f23ae07e1e971826e73d634fcaf07287bd0656572a89b851d5250a2bbefc2d38"), looks := false }, kinds := [], alts := [], laidByText := true, laidKinds := [.data, .data], laidTests := true, laidLooks := .later }
def ShapeAboveUptoCardSaid : Prop := Claim7.holds Tryd.pinned (.plain (OpenSpec.upto shapeAboveSpec)) shapeAboveUptoCard

/-- THE SECOND FORM's CARD OF 'engrosserlaw18.ShapePaths'. -/
def shapePathsUptoCard : Claim7 := { stood := { row := shapePathsUptoRow, standIns := [], harness := (true, "f23ae07e1e971826e73d634fcaf07287bd0656572a89b851d5250a2bbefc2d38"), looks := false }, kinds := [], alts := [], laidByText := true, laidKinds := [.data, .data], laidTests := true, laidLooks := .later }
def ShapePathsUptoCardSaid : Prop := Claim7.holds Tryd.pinned (.plain (OpenSpec.upto shapePathsSpec)) shapePathsUptoCard
end Rows
end Go.Proofs.YtcmdlaikdpiemaaDoor
