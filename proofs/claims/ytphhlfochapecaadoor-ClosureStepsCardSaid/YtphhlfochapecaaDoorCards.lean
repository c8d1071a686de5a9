/-
  DERIVED. GIVEN WITH THE SEED: THE CARDS: each row of YtphhlfochapecaaDoorRows.lean that lists a variable, with what it lists TIED to the program's text (the seventh form; the later family's looks); each row that meets fmt, with fmt's text TOLD by the authors' own Lean function (tested against real Go, not proved from fmt's source: count such statements apart). THE CARD IS WHAT COUNTS. Prove the row's statement (the work); the ties are given (YtphhlfochapecaaDoorTie.lean); close each card by the builder's one call (the guide's Derived/Test/ToyasCard.lean, 'card_holds'). Laid BY PROGRAM, IN A SANDBOX (cutbox-door.mjs). By AI agents, Wed Nov 11 2026. No macro, syntax, notation, axiom, sorry.
-/
import Derived.Test.YtphhlfochapecaaDoorRows
import GoSem.ClaimSeven
namespace Go.Proofs.YtphhlfochapecaaDoor
namespace Rows

/-- THE TIED CARD OF 'engrosserlaw33.ClosureCloses'. -/
def closureClosesCard : Claim7 := { stood := { row := closureClosesRow, standIns := [], harness := (true, "83e53093f943d8acb8dbc81843e2c5adaeb156971cd6247569be02a6f9ecdc07"), looks := false }, kinds := [], alts := [], laidByText := true, laidKinds := [.data, .data, .data], laidTests := true, laidLooks := .later }
def ClosureClosesCardSaid : Prop := Claim7.holds Tryd.pinned (.plain (OpenSpec.ofChange closureClosesSpec)) closureClosesCard

/-- THE TIED CARD OF 'engrosserlaw33.ClosureGrows'. -/
def closureGrowsCard : Claim7 := { stood := { row := closureGrowsRow, standIns := [], harness := (true, "83e53093f943d8acb8dbc81843e2c5adaeb156971cd6247569be02a6f9ecdc07"), looks := false }, kinds := [], alts := [], laidByText := true, laidKinds := [.data, .data, .data], laidTests := true, laidLooks := .later }
def ClosureGrowsCardSaid : Prop := Claim7.holds Tryd.pinned (.plain (OpenSpec.ofChange closureGrowsSpec)) closureGrowsCard

/-- THE TIED CARD OF 'engrosserlaw33.ClosureChecks'. -/
def closureChecksCard : Claim7 := { stood := { row := closureChecksRow, standIns := [], harness := (true, "83e53093f943d8acb8dbc81843e2c5adaeb156971cd6247569be02a6f9ecdc07"), looks := false }, kinds := [], alts := [], laidByText := true, laidKinds := [.data, .data, .data], laidTests := true, laidLooks := .later }
def ClosureChecksCardSaid : Prop := Claim7.holds Tryd.pinned (.plain (OpenSpec.ofChange closureChecksSpec)) closureChecksCard

/-- THE TIED CARD OF 'engrosserlaw33.ClosureSteps'. -/
def closureStepsCard : Claim7 := { stood := { row := closureStepsRow, standIns := [], harness := (true, "83e53093f943d8acb8dbc81843e2c5adaeb156971cd6247569be02a6f9ecdc07"), looks := false }, kinds := [], alts := [], laidByText := true, laidKinds := [.data, .data, .data], laidTests := true, laidLooks := .later }
def ClosureStepsCardSaid : Prop := Claim7.holds Tryd.pinned (.plain (OpenSpec.ofChange closureStepsSpec)) closureStepsCard

/-- THE SECOND FORM's CARD OF 'engrosserlaw33.ClosureCloses'. -/
def closureClosesUptoCard : Claim7 := { stood := { row := closureClosesUptoRow, standIns := [], harness := (true, "83e53093f943d8acb8dbc81843e2c5adaeb156971cd6247569be02a6f9ecdc07"), looks := false }, kinds := [], alts := [], laidByText := true, laidKinds := [.data, .data, .data], laidTests := true, laidLooks := .later }
def ClosureClosesUptoCardSaid : Prop := Claim7.holds Tryd.pinned (.plain (OpenSpec.upto closureClosesSpec)) closureClosesUptoCard

/-- THE SECOND FORM's CARD OF 'engrosserlaw33.ClosureGrows'. -/
def closureGrowsUptoCard : Claim7 := { stood := { row := closureGrowsUptoRow, standIns := [], harness := (true, "83e53093f943d8acb8dbc81843e2c5adaeb156971cd6247569be02a6f9ecdc07"), looks := false }, kinds := [], alts := [], laidByText := true, laidKinds := [.data, .data, .data], laidTests := true, laidLooks := .later }
def ClosureGrowsUptoCardSaid : Prop := Claim7.holds Tryd.pinned (.plain (OpenSpec.upto closureGrowsSpec)) closureGrowsUptoCard

/-- THE SECOND FORM's CARD OF 'engrosserlaw33.ClosureChecks'. -/
def closureChecksUptoCard : Claim7 := { stood := { row := closureChecksUptoRow, standIns := [], harness := (true, "83e53093f943d8acb8dbc81843e2c5adaeb156971cd6247569be02a6f9ecdc07"), looks := false }, kinds := [], alts := [], laidByText := true, laidKinds := [.data, .data, .data], laidTests := true, laidLooks := .later }
def ClosureChecksUptoCardSaid : Prop := Claim7.holds Tryd.pinned (.plain (OpenSpec.upto closureChecksSpec)) closureChecksUptoCard

/-- THE SECOND FORM's CARD OF 'engrosserlaw33.ClosureSteps'. -/
def closureStepsUptoCard : Claim7 := { stood := { row := closureStepsUptoRow, standIns := [], harness := (true, "83e53093f943d8acb8dbc81843e2c5adaeb156971cd6247569be02a6f9ecdc07"), looks := false }, kinds := [], alts := [], laidByText := true, laidKinds := [.data, .data, .data], laidTests := true, laidLooks := .later }
def ClosureStepsUptoCardSaid : Prop := Claim7.holds Tryd.pinned (.plain (OpenSpec.upto closureStepsSpec)) closureStepsUptoCard
end Rows
end Go.Proofs.YtphhlfochapecaaDoor
