/-
  No cell of these rows narrows 'for every input' (looked for: loops, veiled, ifaces, maps, wideKeys, modest, calm, conditions, laid).
  DERIVED. THE GIVEN ROWS OF THIS SEAT. 3 by the template 'for every input the law returns true; each argument reads behind the call as it read before'; 0 by the template 'total and deterministic' (their statements: YtdkfijkggccafaaTotals.lean).
  GIVEN WITH THE SEED: the statements are not yours to turn. If you find one false, say at which input.
  Laid BY PROGRAM, IN A SANDBOX (cutbox-rows.mjs): the forced cells as the released guide's own fill.sh prints them over the translation 94baf13b5c8ed2ce… (all of the seat's roots in one cut). By AI agents, Wed Nov 11 2026. No macro, syntax, notation, axiom, sorry.
-/
import Derived.Test.YtdkfijkggccafaaChecked
import GoSem.Claim
import GoSem.ClaimJoined
import GoSem.ClaimMapViews
import Derived.JoinedTies
import Derived.KernelRfl
namespace Go.Proofs.Ytdkfijkggccafaa
/- THE CELL 'sum', in the pinned program and in every row, IS THE sha256 OF THE DUMP (.gsa) THAT YtdkfijkggccafaaProg.lean LOADS. Nothing in Lean hashes anything: it is a label: what it is worth is what the hold of that sum in a sandbox is worth. -/
noncomputable def Try.pinned : Pinned := { name := "ytdkfijkggccafaa", sum := "94baf13b5c8ed2ce66d13cca0f77034aa8f4bf789e11fe6dbcc8efb59124711a", checked := Try.checked }
namespace Rows
def none {H : Type} : Left H := { results := [], args := [] }

/-- 'engrosserlaw14.SuperOctets': WHATEVER THE INPUT: true; the input reads as it did. -/
def superOctetsSpec : ChangeSpec := { name := "superOctets", fn := fun _ => fun
  | [d] => { results := [.lit (.bool true)], args := [d] }
  | _ => none }
def superOctetsRow : OpenClaim := { program := "ytdkfijkggccafaa", sum := "94baf13b5c8ed2ce66d13cca0f77034aa8f4bf789e11fe6dbcc8efb59124711a", func := "engrosser/engrosserlaw14.SuperOctets", spec := "superOctets", apart := false }
def SuperOctetsSaid : Prop := superOctetsRow.holds Try.pinned (OpenSpec.ofChange superOctetsSpec)

/-- ITS FALSE NEIGHBOUR: 'it returns false'. Refute it at one input. -/
def superOctetsWrong : ChangeSpec := { name := "superOctets", fn := fun _ => fun
  | [d] => { results := [.lit (.bool false)], args := [d] }
  | _ => none }
def SuperOctetsWrongFalsely : Prop := superOctetsRow.holds Try.pinned (OpenSpec.ofChange superOctetsWrong)

/-- 'engrosserlaw14.SuperNewest': WHATEVER THE INPUT: true; the input reads as it did. -/
def superNewestSpec : ChangeSpec := { name := "superNewest", fn := fun _ => fun
  | [d1, d2] => { results := [.lit (.bool true)], args := [d1, d2] }
  | _ => none }
def superNewestRow : OpenClaim := { program := "ytdkfijkggccafaa", sum := "94baf13b5c8ed2ce66d13cca0f77034aa8f4bf789e11fe6dbcc8efb59124711a", func := "engrosser/engrosserlaw14.SuperNewest", spec := "superNewest", apart := false }
def SuperNewestSaid : Prop := superNewestRow.holds Try.pinned (OpenSpec.ofChange superNewestSpec)

/-- ITS FALSE NEIGHBOUR: 'it returns false'. Refute it at one input. -/
def superNewestWrong : ChangeSpec := { name := "superNewest", fn := fun _ => fun
  | [d1, d2] => { results := [.lit (.bool false)], args := [d1, d2] }
  | _ => none }
def SuperNewestWrongFalsely : Prop := superNewestRow.holds Try.pinned (OpenSpec.ofChange superNewestWrong)

/-- 'engrosserlaw14.SuperCrash': WHATEVER THE INPUT: true; the input reads as it did. -/
def superCrashSpec : ChangeSpec := { name := "superCrash", fn := fun _ => fun
  | [d1, d2, d3] => { results := [.lit (.bool true)], args := [d1, d2, d3] }
  | _ => none }
def superCrashRow : OpenClaim := { program := "ytdkfijkggccafaa", sum := "94baf13b5c8ed2ce66d13cca0f77034aa8f4bf789e11fe6dbcc8efb59124711a", func := "engrosser/engrosserlaw14.SuperCrash", spec := "superCrash", apart := false }
def SuperCrashSaid : Prop := superCrashRow.holds Try.pinned (OpenSpec.ofChange superCrashSpec)

/-- ITS FALSE NEIGHBOUR: 'it returns false'. Refute it at one input. -/
def superCrashWrong : ChangeSpec := { name := "superCrash", fn := fun _ => fun
  | [d1, d2, d3] => { results := [.lit (.bool false)], args := [d1, d2, d3] }
  | _ => none }
def SuperCrashWrongFalsely : Prop := superCrashRow.holds Try.pinned (OpenSpec.ofChange superCrashWrong)

/- THE SECOND FORM. 'bulk': how many values and letters a reading holds, each counted each time it is reached (what is shared counts as often as it is met; a slice's spare places count too). A statement '..UptoSaid' is the law's where the arguments, and the package variables that the reading takes, are together of bulk at most 1048576: NARROWER than '..Said'. Prove '..Said' where nothing that the law and all that it calls make is longer than what came in: it says more and counts as full. Else prove '..UptoSaid'. A law counts once. -/
mutual
def uptoBulk {H : Type} : DataW H → Nat
  | .lit (.string bytes) => bytes.length + 1
  | .lit _ => 1
  | .nil => 1
  | .ptr d => uptoBulk d + 1
  | .slice elems spare => uptoBulkAll elems + uptoBulkAll spare + 1
  | .agg parts => uptoBulkAll parts + 1
  | .iface _ d => uptoBulk d + 1
  | .map entries => uptoBulkEntries entries + 1
  | .held _ => 1
def uptoBulkAll {H : Type} : List (DataW H) → Nat
  | [] => 0
  | d :: r => uptoBulk d + uptoBulkAll r
def uptoBulkEntries {H : Type} : List (Lit × DataW H) → Nat
  | [] => 0
  | x :: r => uptoBulkEntry x + uptoBulkEntries r
def uptoBulkEntry {H : Type} : Lit × DataW H → Nat
  | (.string bytes, d) => bytes.length + uptoBulk d + 1
  | (_, d) => uptoBulk d + 1
 end
def uptoSmall : (H : Type) → List (DataW H) → Bool := fun _ ds => decide (uptoBulkAll ds ≤ 1048576)
def OpenSpec.upto (s : _root_.Go.ChangeSpec) : _root_.Go.OpenSpec := { _root_.Go.OpenSpec.ofChange s with cond := some uptoSmall }

/-- 'engrosserlaw14.SuperOctets', WHERE WHAT IT READS IS OF BULK AT MOST 1048576: true; the input reads as it did. -/
def superOctetsUptoRow : OpenClaim := { program := "ytdkfijkggccafaa", sum := "94baf13b5c8ed2ce66d13cca0f77034aa8f4bf789e11fe6dbcc8efb59124711a", func := "engrosser/engrosserlaw14.SuperOctets", spec := "superOctets", apart := false, narrowed := true }
def SuperOctetsUptoSaid : Prop := superOctetsUptoRow.holds Try.pinned (OpenSpec.upto superOctetsSpec)

/-- 'engrosserlaw14.SuperNewest', WHERE WHAT IT READS IS OF BULK AT MOST 1048576: true; the input reads as it did. -/
def superNewestUptoRow : OpenClaim := { program := "ytdkfijkggccafaa", sum := "94baf13b5c8ed2ce66d13cca0f77034aa8f4bf789e11fe6dbcc8efb59124711a", func := "engrosser/engrosserlaw14.SuperNewest", spec := "superNewest", apart := false, narrowed := true }
def SuperNewestUptoSaid : Prop := superNewestUptoRow.holds Try.pinned (OpenSpec.upto superNewestSpec)

/-- 'engrosserlaw14.SuperCrash', WHERE WHAT IT READS IS OF BULK AT MOST 1048576: true; the input reads as it did. -/
def superCrashUptoRow : OpenClaim := { program := "ytdkfijkggccafaa", sum := "94baf13b5c8ed2ce66d13cca0f77034aa8f4bf789e11fe6dbcc8efb59124711a", func := "engrosser/engrosserlaw14.SuperCrash", spec := "superCrash", apart := false, narrowed := true }
def SuperCrashUptoSaid : Prop := superCrashUptoRow.holds Try.pinned (OpenSpec.upto superCrashSpec)

end Rows
end Go.Proofs.Ytdkfijkggccafaa
