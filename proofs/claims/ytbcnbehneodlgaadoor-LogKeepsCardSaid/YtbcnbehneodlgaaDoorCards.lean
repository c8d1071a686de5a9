/-
  DERIVED. GIVEN WITH THE SEED: THE CARDS: each row of YtbcnbehneodlgaaDoorRows.lean that lists a variable, with what it lists TIED to the program's text (the seventh form; the later family's looks); each row that meets fmt, with fmt's text TOLD by the authors' own Lean function (tested against real Go, not proved from fmt's source: count such statements apart). THE CARD IS WHAT COUNTS. Prove the row's statement (the work); the ties are given (YtbcnbehneodlgaaDoorTie.lean); close each card by the builder's one call (the guide's Derived/Test/ToyasCard.lean, 'card_holds'). Laid BY PROGRAM, IN A SANDBOX (cutbox-door.mjs). By AI agents, Wed Nov 11 2026. No macro, syntax, notation, axiom, sorry.
-/
import Derived.Test.YtbcnbehneodlgaaDoorRows
import GoSem.ClaimSeven
namespace Go.Proofs.YtbcnbehneodlgaaDoor
namespace Rows

/-- THE TIED CARD OF 'engrosserlaw15.LogKeeps'. -/
def logKeepsCard : Claim7 := { stood := { row := logKeepsRow, standIns := [], harness := (true, "350b7b50ca87952069d150a0d3e62e877683672167e1d4984f69f0699cadafbd"), looks := false }, kinds := [], alts := [], laidByText := true, laidKinds := [.data, .data], laidTests := true, laidLooks := .later }
def LogKeepsCardSaid : Prop := Claim7.holds Tryd.pinned (.plain (OpenSpec.ofChange logKeepsSpec)) logKeepsCard

/-- THE SECOND FORM's CARD OF 'engrosserlaw15.LogKeeps'. -/
def logKeepsUptoCard : Claim7 := { stood := { row := logKeepsUptoRow, standIns := [], harness := (true, "350b7b50ca87952069d150a0d3e62e877683672167e1d4984f69f0699cadafbd"), looks := false }, kinds := [], alts := [], laidByText := true, laidKinds := [.data, .data], laidTests := true, laidLooks := .later }
def LogKeepsUptoCardSaid : Prop := Claim7.holds Tryd.pinned (.plain (OpenSpec.upto logKeepsSpec)) logKeepsUptoCard
end Rows
end Go.Proofs.YtbcnbehneodlgaaDoor
