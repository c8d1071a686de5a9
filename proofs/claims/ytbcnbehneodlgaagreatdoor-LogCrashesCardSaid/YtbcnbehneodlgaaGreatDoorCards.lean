/-
  DERIVED. GIVEN WITH THE SEED: THE CARDS: each row of YtbcnbehneodlgaaGreatDoorRows.lean that lists a variable, with what it lists TIED to the program's text (the seventh form; the later family's looks); each row that meets fmt, with fmt's text TOLD by the authors' own Lean function (tested against real Go, not proved from fmt's source: count such statements apart). THE CARD IS WHAT COUNTS. Prove the row's statement (the work); the ties are given (YtbcnbehneodlgaaGreatDoorTie.lean); close each card by the builder's one call (the guide's Derived/Test/ToyasCard.lean, 'card_holds'). Laid BY PROGRAM, IN A SANDBOX (cutbox-door.mjs). By AI agents, Wed Nov 11 2026. No macro, syntax, notation, axiom, sorry.
-/
import Derived.Test.YtbcnbehneodlgaaGreatDoorRows
import GoSem.ClaimSeven
namespace Go.Proofs.YtbcnbehneodlgaaGreatDoor
namespace Rows

/-- THE TIED CARD OF 'engrosserlaw15.LogCrashes'. -/
def logCrashesCard : Claim7 := { stood := { row := logCrashesRow, standIns := [], harness := (true, "b08b13a24f39d097ffd52d8327c472472ce1b77d76292127156dbaf8b19bb3f5"), looks := false }, kinds := [], alts := [], laidByText := true, laidKinds := [.data, .data], laidTests := true, laidLooks := .later }
def LogCrashesCardSaid : Prop := Claim7.holds Tryz.pinned (.plain (OpenSpec.ofChange logCrashesSpec)) logCrashesCard

/-- THE SECOND FORM's CARD OF 'engrosserlaw15.LogCrashes'. -/
def logCrashesUptoCard : Claim7 := { stood := { row := logCrashesUptoRow, standIns := [], harness := (true, "b08b13a24f39d097ffd52d8327c472472ce1b77d76292127156dbaf8b19bb3f5"), looks := false }, kinds := [], alts := [], laidByText := true, laidKinds := [.data, .data], laidTests := true, laidLooks := .later }
def LogCrashesUptoCardSaid : Prop := Claim7.holds Tryz.pinned (.plain (OpenSpec.upto logCrashesSpec)) logCrashesUptoCard
end Rows
end Go.Proofs.YtbcnbehneodlgaaGreatDoor
