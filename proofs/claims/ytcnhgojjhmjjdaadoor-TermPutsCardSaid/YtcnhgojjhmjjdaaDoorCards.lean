/-
  DERIVED. GIVEN WITH THE SEED: THE CARDS: each row of YtcnhgojjhmjjdaaDoorRows.lean that lists a variable, with what it lists TIED to the program's text (the seventh form; the later family's looks); each row that meets fmt, with fmt's text TOLD by the authors' own Lean function (tested against real Go, not proved from fmt's source: count such statements apart). THE CARD IS WHAT COUNTS. Prove the row's statement (the work); the ties are given (YtcnhgojjhmjjdaaDoorTie.lean); close each card by the builder's one call (the guide's Derived/Test/ToyasCard.lean, 'card_holds'). Laid BY PROGRAM, IN A SANDBOX (cutbox-door.mjs). By AI agents, Wed Nov 11 2026. No macro, syntax, notation, axiom, sorry.
-/
import Derived.Test.YtcnhgojjhmjjdaaDoorRows
import GoSem.ClaimSeven
namespace Go.Proofs.YtcnhgojjhmjjdaaDoor
namespace Rows

/-- THE TIED CARD OF 'engrosserlaw32.TermTexts'. -/
def termTextsCard : Claim7 := { stood := { row := termTextsRow, standIns := [], harness := (true, "b9b7d6344a01d78813f988749dcfa3af40f428a0a6a91f5bbc9e3b982caa3d0d"), looks := false }, kinds := [], alts := [], laidByText := true, laidKinds := [.data, .data, .data], laidTests := true, laidLooks := .later }
def TermTextsCardSaid : Prop := Claim7.holds Tryd.pinned (.plain (OpenSpec.ofChange termTextsSpec)) termTextsCard

/-- THE TIED CARD OF 'engrosserlaw32.TermApart'. -/
def termApartCard : Claim7 := { stood := { row := termApartRow, standIns := [], harness := (true, "b9b7d6344a01d78813f988749dcfa3af40f428a0a6a91f5bbc9e3b982caa3d0d"), looks := false }, kinds := [], alts := [], laidByText := true, laidKinds := [.data, .data, .data], laidTests := true, laidLooks := .later }
def TermApartCardSaid : Prop := Claim7.holds Tryd.pinned (.plain (OpenSpec.ofChange termApartSpec)) termApartCard

/-- THE TIED CARD OF 'engrosserlaw32.TermPuts'. -/
def termPutsCard : Claim7 := { stood := { row := termPutsRow, standIns := [], harness := (true, "b9b7d6344a01d78813f988749dcfa3af40f428a0a6a91f5bbc9e3b982caa3d0d"), looks := false }, kinds := [], alts := [], laidByText := true, laidKinds := [.data, .data, .data], laidTests := true, laidLooks := .later }
def TermPutsCardSaid : Prop := Claim7.holds Tryd.pinned (.plain (OpenSpec.ofChange termPutsSpec)) termPutsCard

/-- THE SECOND FORM's CARD OF 'engrosserlaw32.TermTexts'. -/
def termTextsUptoCard : Claim7 := { stood := { row := termTextsUptoRow, standIns := [], harness := (true, "b9b7d6344a01d78813f988749dcfa3af40f428a0a6a91f5bbc9e3b982caa3d0d"), looks := false }, kinds := [], alts := [], laidByText := true, laidKinds := [.data, .data, .data], laidTests := true, laidLooks := .later }
def TermTextsUptoCardSaid : Prop := Claim7.holds Tryd.pinned (.plain (OpenSpec.upto termTextsSpec)) termTextsUptoCard

/-- THE SECOND FORM's CARD OF 'engrosserlaw32.TermApart'. -/
def termApartUptoCard : Claim7 := { stood := { row := termApartUptoRow, standIns := [], harness := (true, "b9b7d6344a01d78813f988749dcfa3af40f428a0a6a91f5bbc9e3b982caa3d0d"), looks := false }, kinds := [], alts := [], laidByText := true, laidKinds := [.data, .data, .data], laidTests := true, laidLooks := .later }
def TermApartUptoCardSaid : Prop := Claim7.holds Tryd.pinned (.plain (OpenSpec.upto termApartSpec)) termApartUptoCard

/-- THE SECOND FORM's CARD OF 'engrosserlaw32.TermPuts'. -/
def termPutsUptoCard : Claim7 := { stood := { row := termPutsUptoRow, standIns := [], harness := (true, "b9b7d6344a01d78813f988749dcfa3af40f428a0a6a91f5bbc9e3b982caa3d0d"), looks := false }, kinds := [], alts := [], laidByText := true, laidKinds := [.data, .data, .data], laidTests := true, laidLooks := .later }
def TermPutsUptoCardSaid : Prop := Claim7.holds Tryd.pinned (.plain (OpenSpec.upto termPutsSpec)) termPutsUptoCard
end Rows
end Go.Proofs.YtcnhgojjhmjjdaaDoor
