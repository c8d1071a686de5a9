/-
  No cell of these rows narrows 'for every input' (looked for: loops, veiled, ifaces, maps, wideKeys, modest, calm, conditions, laid).
  DERIVED. THE GIVEN ROWS OF THIS SEAT. 4 by the template 'for every input the law returns true; each argument reads behind the call as it read before'; 0 by the template 'total and deterministic' (their statements: YtimaeghbjfialaaTotals.lean).
  GIVEN WITH THE SEED: the statements are not yours to turn. If you find one false, say at which input.
  Laid BY PROGRAM, IN A SANDBOX (cutbox-rows.mjs): the forced cells as the released guide's own fill.sh prints them over the translation 7178d815474ff705… (all of the seat's roots in one cut). By AI agents, Wed Nov 11 2026. No macro, syntax, notation, axiom, sorry.
-/
import Derived.Test.YtimaeghbjfialaaChecked
import GoSem.Claim
import GoSem.ClaimJoined
import GoSem.ClaimMapViews
import Derived.JoinedTies
import Derived.KernelRfl
namespace Go.Proofs.Ytimaeghbjfialaa
/- THE CELL 'sum', in the pinned program and in every row, IS THE sha256 OF THE DUMP (.gsa) THAT YtimaeghbjfialaaProg.lean LOADS. Nothing in Lean hashes anything: it is a label: what it is worth is what the hold of that sum in a sandbox is worth. -/
noncomputable def Try.pinned : Pinned := { name := "ytimaeghbjfialaa", sum := "7178d815474ff7053b89586169af9187a07795b837e9e86ff473a9b148db3785", checked := Try.checked }
namespace Rows
def none {H : Type} : Left H := { results := [], args := [] }

/-- 'engrosserlaw05.AesBlocks': WHATEVER THE INPUT: true; the input reads as it did. -/
def aesBlocksSpec : ChangeSpec := { name := "aesBlocks", fn := fun _ => fun
  | [d1, d2] => { results := [.lit (.bool true)], args := [d1, d2] }
  | _ => none }
def aesBlocksRow : OpenClaim := { program := "ytimaeghbjfialaa", sum := "7178d815474ff7053b89586169af9187a07795b837e9e86ff473a9b148db3785", func := "engrosser/engrosserlaw05.AesBlocks", spec := "aesBlocks", apart := false }
def AesBlocksSaid : Prop := aesBlocksRow.holds Try.pinned (OpenSpec.ofChange aesBlocksSpec)

/-- ITS FALSE NEIGHBOUR: 'it returns false'. Refute it at one input. -/
def aesBlocksWrong : ChangeSpec := { name := "aesBlocks", fn := fun _ => fun
  | [d1, d2] => { results := [.lit (.bool false)], args := [d1, d2] }
  | _ => none }
def AesBlocksWrongFalsely : Prop := aesBlocksRow.holds Try.pinned (OpenSpec.ofChange aesBlocksWrong)

/-- 'engrosserlaw05.AesBoxes': WHATEVER THE INPUT: true; the input reads as it did. -/
def aesBoxesSpec : ChangeSpec := { name := "aesBoxes", fn := fun _ => fun
  | [d1, d2] => { results := [.lit (.bool true)], args := [d1, d2] }
  | _ => none }
def aesBoxesRow : OpenClaim := { program := "ytimaeghbjfialaa", sum := "7178d815474ff7053b89586169af9187a07795b837e9e86ff473a9b148db3785", func := "engrosser/engrosserlaw05.AesBoxes", spec := "aesBoxes", apart := false }
def AesBoxesSaid : Prop := aesBoxesRow.holds Try.pinned (OpenSpec.ofChange aesBoxesSpec)

/-- ITS FALSE NEIGHBOUR: 'it returns false'. Refute it at one input. -/
def aesBoxesWrong : ChangeSpec := { name := "aesBoxes", fn := fun _ => fun
  | [d1, d2] => { results := [.lit (.bool false)], args := [d1, d2] }
  | _ => none }
def AesBoxesWrongFalsely : Prop := aesBoxesRow.holds Try.pinned (OpenSpec.ofChange aesBoxesWrong)

/-- 'engrosserlaw05.AesApart': WHATEVER THE INPUT: true; the input reads as it did. -/
def aesApartSpec : ChangeSpec := { name := "aesApart", fn := fun _ => fun
  | [d1, d2, d3] => { results := [.lit (.bool true)], args := [d1, d2, d3] }
  | _ => none }
def aesApartRow : OpenClaim := { program := "ytimaeghbjfialaa", sum := "7178d815474ff7053b89586169af9187a07795b837e9e86ff473a9b148db3785", func := "engrosser/engrosserlaw05.AesApart", spec := "aesApart", apart := false }
def AesApartSaid : Prop := aesApartRow.holds Try.pinned (OpenSpec.ofChange aesApartSpec)

/-- ITS FALSE NEIGHBOUR: 'it returns false'. Refute it at one input. -/
def aesApartWrong : ChangeSpec := { name := "aesApart", fn := fun _ => fun
  | [d1, d2, d3] => { results := [.lit (.bool false)], args := [d1, d2, d3] }
  | _ => none }
def AesApartWrongFalsely : Prop := aesApartRow.holds Try.pinned (OpenSpec.ofChange aesApartWrong)

/-- 'engrosserlaw05.AesRings': WHATEVER THE INPUT: true; the input reads as it did. -/
def aesRingsSpec : ChangeSpec := { name := "aesRings", fn := fun _ => fun
  | [d1, d2, d3] => { results := [.lit (.bool true)], args := [d1, d2, d3] }
  | _ => none }
def aesRingsRow : OpenClaim := { program := "ytimaeghbjfialaa", sum := "7178d815474ff7053b89586169af9187a07795b837e9e86ff473a9b148db3785", func := "engrosser/engrosserlaw05.AesRings", spec := "aesRings", apart := false }
def AesRingsSaid : Prop := aesRingsRow.holds Try.pinned (OpenSpec.ofChange aesRingsSpec)

/-- ITS FALSE NEIGHBOUR: 'it returns false'. Refute it at one input. -/
def aesRingsWrong : ChangeSpec := { name := "aesRings", fn := fun _ => fun
  | [d1, d2, d3] => { results := [.lit (.bool false)], args := [d1, d2, d3] }
  | _ => none }
def AesRingsWrongFalsely : Prop := aesRingsRow.holds Try.pinned (OpenSpec.ofChange aesRingsWrong)

/- THE SECOND FORM. 'bulk': how many values and letters a reading holds, each counted each time it is reached (what is shared counts as often as it is met; a slice's spare places count too). A statement '..UptoSaid' is the law's where the arguments, and the package variables that the reading takes, are together of bulk at most 1048576: NARROWER than '..Said'. Prove '..Said' where nothing that the law and all that it calls make is longer than what came in: it says more and counts as full. Else prove '..UptoSaid'. A law counts once. -/
mutual
def uptoBulk {H : Type} : DataW H → Nat
  | .lit (.string bytes) => bytes.length + 1
  | .lit _ => 1
  | .nil => 1
  | .ptr d => uptoBulk d + 1
  | .slice elems spare => uptoBulkAll elems + uptoBulkAll spare + 1
  | .agg parts => uptoBulkAll parts + 1
  | .iface _ d => uptoBulk d + 1
  | .map entries => uptoBulkEntries entries + 1
  | .held _ => 1
def uptoBulkAll {H : Type} : List (DataW H) → Nat
  | [] => 0
  | d :: r => uptoBulk d + uptoBulkAll r
def uptoBulkEntries {H : Type} : List (Lit × DataW H) → Nat
  | [] => 0
  | x :: r => uptoBulkEntry x + uptoBulkEntries r
def uptoBulkEntry {H : Type} : Lit × DataW H → Nat
  | (.string bytes, d) => bytes.length + uptoBulk d + 1
  | (_, d) => uptoBulk d + 1
 end
def uptoSmall : (H : Type) → List (DataW H) → Bool := fun _ ds => decide (uptoBulkAll ds ≤ 1048576)
def OpenSpec.upto (s : _root_.Go.ChangeSpec) : _root_.Go.OpenSpec := { _root_.Go.OpenSpec.ofChange s with cond := some uptoSmall }

/-- 'engrosserlaw05.AesBlocks', WHERE WHAT IT READS IS OF BULK AT MOST 1048576: true; the input reads as it did. -/
def aesBlocksUptoRow : OpenClaim := { program := "ytimaeghbjfialaa", sum := "7178d815474ff7053b89586169af9187a07795b837e9e86ff473a9b148db3785", func := "engrosser/engrosserlaw05.AesBlocks", spec := "aesBlocks", apart := false, narrowed := true }
def AesBlocksUptoSaid : Prop := aesBlocksUptoRow.holds Try.pinned (OpenSpec.upto aesBlocksSpec)

/-- 'engrosserlaw05.AesBoxes', WHERE WHAT IT READS IS OF BULK AT MOST 1048576: true; the input reads as it did. -/
def aesBoxesUptoRow : OpenClaim := { program := "ytimaeghbjfialaa", sum := "7178d815474ff7053b89586169af9187a07795b837e9e86ff473a9b148db3785", func := "engrosser/engrosserlaw05.AesBoxes", spec := "aesBoxes", apart := false, narrowed := true }
def AesBoxesUptoSaid : Prop := aesBoxesUptoRow.holds Try.pinned (OpenSpec.upto aesBoxesSpec)

/-- 'engrosserlaw05.AesApart', WHERE WHAT IT READS IS OF BULK AT MOST 1048576: true; the input reads as it did. -/
def aesApartUptoRow : OpenClaim := { program := "ytimaeghbjfialaa", sum := "7178d815474ff7053b89586169af9187a07795b837e9e86ff473a9b148db3785", func := "engrosser/engrosserlaw05.AesApart", spec := "aesApart", apart := false, narrowed := true }
def AesApartUptoSaid : Prop := aesApartUptoRow.holds Try.pinned (OpenSpec.upto aesApartSpec)

/-- 'engrosserlaw05.AesRings', WHERE WHAT IT READS IS OF BULK AT MOST 1048576: true; the input reads as it did. -/
def aesRingsUptoRow : OpenClaim := { program := "ytimaeghbjfialaa", sum := "7178d815474ff7053b89586169af9187a07795b837e9e86ff473a9b148db3785", func := "engrosser/engrosserlaw05.AesRings", spec := "aesRings", apart := false, narrowed := true }
def AesRingsUptoSaid : Prop := aesRingsUptoRow.holds Try.pinned (OpenSpec.upto aesRingsSpec)

end Rows
end Go.Proofs.Ytimaeghbjfialaa
