/-
  No cell of these rows narrows 'for every input' (looked for: loops, veiled, ifaces, maps, wideKeys, modest, calm, conditions, laid).
  DERIVED. THE GIVEN ROWS OF THIS SEAT. 2 by the template 'for every input the law returns true; each argument reads behind the call as it read before'; 0 by the template 'total and deterministic' (their statements: YtnlghpopjckhiaaTotals.lean).
  GIVEN WITH THE SEED: the statements are not yours to turn. If you find one false, say at which input.
  Laid BY PROGRAM, IN A SANDBOX (cutbox-rows.mjs): the forced cells as the released guide's own fill.sh prints them over the translation b9cc4cf6243cb2bb… (all of the seat's roots in one cut). By AI agents, Wed Nov 11 2026. No macro, syntax, notation, axiom, sorry.
-/
import Derived.Test.YtnlghpopjckhiaaChecked
import GoSem.Claim
import GoSem.ClaimJoined
import GoSem.ClaimMapViews
import Derived.JoinedTies
import Derived.KernelRfl
namespace Go.Proofs.Ytnlghpopjckhiaa
/- THE CELL 'sum', in the pinned program and in every row, IS THE sha256 OF THE DUMP (.gsa) THAT YtnlghpopjckhiaaProg.lean LOADS. Nothing in Lean hashes anything: it is a label: what it is worth is what the hold of that sum in a sandbox is worth. -/
noncomputable def Try.pinned : Pinned := { name := "ytnlghpopjckhiaa", sum := "b9cc4cf6243cb2bbe78b944c7a36c670efc50c392f409f09e35adfd3045f4b0c", checked := Try.checked }
namespace Rows
def none {H : Type} : Left H := { results := [], args := [] }

/-- 'engrosserlaw16.KeysCrashes': WHATEVER THE INPUT: true; the input reads as it did. -/
def keysCrashesSpec : ChangeSpec := { name := "keysCrashes", fn := fun _ => fun
  | [d1, d2, d3] => { results := [.lit (.bool true)], args := [d1, d2, d3] }
  | _ => none }
def keysCrashesRow : OpenClaim := { program := "ytnlghpopjckhiaa", sum := "b9cc4cf6243cb2bbe78b944c7a36c670efc50c392f409f09e35adfd3045f4b0c", func := "engrosser/engrosserlaw16.KeysCrashes", spec := "keysCrashes", unfollowed := true, recurses := true, apart := false }
def KeysCrashesSaid : Prop := keysCrashesRow.holds Try.pinned (OpenSpec.ofChange keysCrashesSpec)

/-- ITS FALSE NEIGHBOUR: 'it returns false'. Refute it at one input. -/
def keysCrashesWrong : ChangeSpec := { name := "keysCrashes", fn := fun _ => fun
  | [d1, d2, d3] => { results := [.lit (.bool false)], args := [d1, d2, d3] }
  | _ => none }
def KeysCrashesWrongFalsely : Prop := keysCrashesRow.holds Try.pinned (OpenSpec.ofChange keysCrashesWrong)

/-- 'engrosserlaw16.KeysGone': WHATEVER THE INPUT: true; the input reads as it did. -/
def keysGoneSpec : ChangeSpec := { name := "keysGone", fn := fun _ => fun
  | [d1, d2, d3] => { results := [.lit (.bool true)], args := [d1, d2, d3] }
  | _ => none }
def keysGoneRow : OpenClaim := { program := "ytnlghpopjckhiaa", sum := "b9cc4cf6243cb2bbe78b944c7a36c670efc50c392f409f09e35adfd3045f4b0c", func := "engrosser/engrosserlaw16.KeysGone", spec := "keysGone", unfollowed := true, recurses := true, apart := false }
def KeysGoneSaid : Prop := keysGoneRow.holds Try.pinned (OpenSpec.ofChange keysGoneSpec)

/-- ITS FALSE NEIGHBOUR: 'it returns false'. Refute it at one input. -/
def keysGoneWrong : ChangeSpec := { name := "keysGone", fn := fun _ => fun
  | [d1, d2, d3] => { results := [.lit (.bool false)], args := [d1, d2, d3] }
  | _ => none }
def KeysGoneWrongFalsely : Prop := keysGoneRow.holds Try.pinned (OpenSpec.ofChange keysGoneWrong)

/- THE SECOND FORM. 'bulk': how many values and letters a reading holds, each counted each time it is reached (what is shared counts as often as it is met; a slice's spare places count too). A statement '..UptoSaid' is the law's where the arguments, and the package variables that the reading takes, are together of bulk at most 1048576: NARROWER than '..Said'. Prove '..Said' where nothing that the law and all that it calls make is longer than what came in: it says more and counts as full. Else prove '..UptoSaid'. A law counts once. -/
mutual
def uptoBulk {H : Type} : DataW H → Nat
  | .lit (.string bytes) => bytes.length + 1
  | .lit _ => 1
  | .nil => 1
  | .ptr d => uptoBulk d + 1
  | .slice elems spare => uptoBulkAll elems + uptoBulkAll spare + 1
  | .agg parts => uptoBulkAll parts + 1
  | .iface _ d => uptoBulk d + 1
  | .map entries => uptoBulkEntries entries + 1
  | .held _ => 1
def uptoBulkAll {H : Type} : List (DataW H) → Nat
  | [] => 0
  | d :: r => uptoBulk d + uptoBulkAll r
def uptoBulkEntries {H : Type} : List (Lit × DataW H) → Nat
  | [] => 0
  | x :: r => uptoBulkEntry x + uptoBulkEntries r
def uptoBulkEntry {H : Type} : Lit × DataW H → Nat
  | (.string bytes, d) => bytes.length + uptoBulk d + 1
  | (_, d) => uptoBulk d + 1
 end
def uptoSmall : (H : Type) → List (DataW H) → Bool := fun _ ds => decide (uptoBulkAll ds ≤ 1048576)
def OpenSpec.upto (s : _root_.Go.ChangeSpec) : _root_.Go.OpenSpec := { _root_.Go.OpenSpec.ofChange s with cond := some uptoSmall }

/-- 'engrosserlaw16.KeysCrashes', WHERE WHAT IT READS IS OF BULK AT MOST 1048576: true; the input reads as it did. -/
def keysCrashesUptoRow : OpenClaim := { program := "ytnlghpopjckhiaa", sum := "b9cc4cf6243cb2bbe78b944c7a36c670efc50c392f409f09e35adfd3045f4b0c", func := "engrosser/engrosserlaw16.KeysCrashes", spec := "keysCrashes", unfollowed := true, recurses := true, apart := false, narrowed := true }
def KeysCrashesUptoSaid : Prop := keysCrashesUptoRow.holds Try.pinned (OpenSpec.upto keysCrashesSpec)

/-- 'engrosserlaw16.KeysGone', WHERE WHAT IT READS IS OF BULK AT MOST 1048576: true; the input reads as it did. -/
def keysGoneUptoRow : OpenClaim := { program := "ytnlghpopjckhiaa", sum := "b9cc4cf6243cb2bbe78b944c7a36c670efc50c392f409f09e35adfd3045f4b0c", func := "engrosser/engrosserlaw16.KeysGone", spec := "keysGone", unfollowed := true, recurses := true, apart := false, narrowed := true }
def KeysGoneUptoSaid : Prop := keysGoneUptoRow.holds Try.pinned (OpenSpec.upto keysGoneSpec)

end Rows
end Go.Proofs.Ytnlghpopjckhiaa
