/-
  DERIVED. GIVEN WITH THE SEED: THE CARDS: each row of YtdeblpbjeflolaaDoorRows.lean that lists a variable, with what it lists TIED to the program's text (the seventh form; the later family's looks); each row that meets fmt, with fmt's text TOLD by the authors' own Lean function (tested against real Go, not proved from fmt's source: count such statements apart). THE CARD IS WHAT COUNTS. Prove the row's statement (the work); the ties are given (YtdeblpbjeflolaaDoorTie.lean); close each card by the builder's one call (the guide's Derived/Test/ToyasCard.lean, 'card_holds'). Laid BY PROGRAM, IN A SANDBOX (cutbox-door.mjs). By AI agents, Wed Nov 11 2026. No macro, syntax, notation, axiom, sorry.
-/
import Derived.Test.YtdeblpbjeflolaaDoorRows
import GoSem.ClaimSeven
namespace Go.Proofs.YtdeblpbjeflolaaDoor
namespace Rows

/-- THE TIED CARD OF 'engrosserlaw31.ProofHeads'. -/
def proofHeadsCard : Claim7 := { stood := { row := proofHeadsRow, standIns := [], harness := (true, "5e3d3e0fa7271f697f4328e9da526e9939cde6e00879d554157fe72c1d2758a4"), looks := false }, kinds := [], alts := [], laidByText := true, laidKinds := [.data, .data], laidTests := true, laidLooks := .later }
def ProofHeadsCardSaid : Prop := Claim7.holds Tryd.pinned (.plain (OpenSpec.ofChange proofHeadsSpec)) proofHeadsCard

/-- THE TIED CARD OF 'engrosserlaw31.ProofTurned'. -/
def proofTurnedCard : Claim7 := { stood := { row := proofTurnedRow, standIns := [], harness := (true, "5e3d3e0fa7271f697f4328e9da526e9939cde6e00879d554157fe72c1d2758a4"), looks := false }, kinds := [], alts := [], laidByText := true, laidKinds := [.data, .data], laidTests := true, laidLooks := .later }
def ProofTurnedCardSaid : Prop := Claim7.holds Tryd.pinned (.plain (OpenSpec.ofChange proofTurnedSpec)) proofTurnedCard

/-- THE SECOND FORM's CARD OF 'engrosserlaw31.ProofHeads'. -/
def proofHeadsUptoCard : Claim7 := { stood := { row := proofHeadsUptoRow, standIns := [], harness := (true, "5e3d3e0fa7271f697f4328e9da526e9939cde6e00879d554157fe72c1d2758a4"), looks := false }, kinds := [], alts := [], laidByText := true, laidKinds := [.data, .data], laidTests := true, laidLooks := .later }
def ProofHeadsUptoCardSaid : Prop := Claim7.holds Tryd.pinned (.plain (OpenSpec.upto proofHeadsSpec)) proofHeadsUptoCard

/-- THE SECOND FORM's CARD OF 'engrosserlaw31.ProofTurned'. -/
def proofTurnedUptoCard : Claim7 := { stood := { row := proofTurnedUptoRow, standIns := [], harness := (true, "5e3d3e0fa7271f697f4328e9da526e9939cde6e00879d554157fe72c1d2758a4"), looks := false }, kinds := [], alts := [], laidByText := true, laidKinds := [.data, .data], laidTests := true, laidLooks := .later }
def ProofTurnedUptoCardSaid : Prop := Claim7.holds Tryd.pinned (.plain (OpenSpec.upto proofTurnedSpec)) proofTurnedUptoCard
end Rows
end Go.Proofs.YtdeblpbjeflolaaDoor
