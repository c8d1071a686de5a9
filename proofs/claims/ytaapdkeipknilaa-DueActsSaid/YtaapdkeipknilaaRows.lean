/-
  No cell of these rows narrows 'for every input' (looked for: loops, veiled, ifaces, maps, wideKeys, modest, calm, conditions, laid).
  DERIVED. THE GIVEN ROWS OF THIS SEAT. 3 by the template 'for every input the law returns true; each argument reads behind the call as it read before'; 0 by the template 'total and deterministic' (their statements: YtaapdkeipknilaaTotals.lean).
  GIVEN WITH THE SEED: the statements are not yours to turn. If you find one false, say at which input.
  Laid BY PROGRAM, IN A SANDBOX (cutbox-rows.mjs): the forced cells as the released guide's own fill.sh prints them over the translation c4b949254746783a… (all of the seat's roots in one cut). By AI agents, Wed Nov 11 2026. No macro, syntax, notation, axiom, sorry.
-/
import Derived.Test.YtaapdkeipknilaaChecked
import GoSem.Claim
import GoSem.ClaimJoined
import GoSem.ClaimMapViews
import Derived.JoinedTies
import Derived.KernelRfl
namespace Go.Proofs.Ytaapdkeipknilaa
/- THE CELL 'sum', in the pinned program and in every row, IS THE sha256 OF THE DUMP (.gsa) THAT YtaapdkeipknilaaProg.lean LOADS. Nothing in Lean hashes anything: it is a label: what it is worth is what the hold of that sum in a sandbox is worth. -/
noncomputable def Try.pinned : Pinned := { name := "ytaapdkeipknilaa", sum := "c4b949254746783a8e1c3a70d6370bb1646d45393105e40e4dcd721b4c7f900c", checked := Try.checked }
namespace Rows
def none {H : Type} : Left H := { results := [], args := [] }

/-- 'engrosserlaw27.DueOrder': WHATEVER THE INPUT: true; the input reads as it did. -/
def dueOrderSpec : ChangeSpec := { name := "dueOrder", fn := fun _ => fun
  | [d1, d2] => { results := [.lit (.bool true)], args := [d1, d2] }
  | _ => none }
def dueOrderRow : OpenClaim := { program := "ytaapdkeipknilaa", sum := "c4b949254746783a8e1c3a70d6370bb1646d45393105e40e4dcd721b4c7f900c", func := "engrosser/engrosserlaw27.DueOrder", spec := "dueOrder", unfollowed := true, recurses := true, apart := false }
def DueOrderSaid : Prop := dueOrderRow.holds Try.pinned (OpenSpec.ofChange dueOrderSpec)

/-- ITS FALSE NEIGHBOUR: 'it returns false'. Refute it at one input. -/
def dueOrderWrong : ChangeSpec := { name := "dueOrder", fn := fun _ => fun
  | [d1, d2] => { results := [.lit (.bool false)], args := [d1, d2] }
  | _ => none }
def DueOrderWrongFalsely : Prop := dueOrderRow.holds Try.pinned (OpenSpec.ofChange dueOrderWrong)

/-- 'engrosserlaw27.DueWaits': WHATEVER THE INPUT: true; the input reads as it did. -/
def dueWaitsSpec : ChangeSpec := { name := "dueWaits", fn := fun _ => fun
  | [d1, d2] => { results := [.lit (.bool true)], args := [d1, d2] }
  | _ => none }
def dueWaitsRow : OpenClaim := { program := "ytaapdkeipknilaa", sum := "c4b949254746783a8e1c3a70d6370bb1646d45393105e40e4dcd721b4c7f900c", func := "engrosser/engrosserlaw27.DueWaits", spec := "dueWaits", unfollowed := true, recurses := true, apart := false }
def DueWaitsSaid : Prop := dueWaitsRow.holds Try.pinned (OpenSpec.ofChange dueWaitsSpec)

/-- ITS FALSE NEIGHBOUR: 'it returns false'. Refute it at one input. -/
def dueWaitsWrong : ChangeSpec := { name := "dueWaits", fn := fun _ => fun
  | [d1, d2] => { results := [.lit (.bool false)], args := [d1, d2] }
  | _ => none }
def DueWaitsWrongFalsely : Prop := dueWaitsRow.holds Try.pinned (OpenSpec.ofChange dueWaitsWrong)

/-- 'engrosserlaw27.DueActs': WHATEVER THE INPUT: true; the input reads as it did. -/
def dueActsSpec : ChangeSpec := { name := "dueActs", fn := fun _ => fun
  | [d1, d2] => { results := [.lit (.bool true)], args := [d1, d2] }
  | _ => none }
def dueActsRow : OpenClaim := { program := "ytaapdkeipknilaa", sum := "c4b949254746783a8e1c3a70d6370bb1646d45393105e40e4dcd721b4c7f900c", func := "engrosser/engrosserlaw27.DueActs", spec := "dueActs", unfollowed := true, recurses := true, apart := false }
def DueActsSaid : Prop := dueActsRow.holds Try.pinned (OpenSpec.ofChange dueActsSpec)

/-- ITS FALSE NEIGHBOUR: 'it returns false'. Refute it at one input. -/
def dueActsWrong : ChangeSpec := { name := "dueActs", fn := fun _ => fun
  | [d1, d2] => { results := [.lit (.bool false)], args := [d1, d2] }
  | _ => none }
def DueActsWrongFalsely : Prop := dueActsRow.holds Try.pinned (OpenSpec.ofChange dueActsWrong)

/- THE SECOND FORM. 'bulk': how many values and letters a reading holds, each counted each time it is reached (what is shared counts as often as it is met; a slice's spare places count too). A statement '..UptoSaid' is the law's where the arguments, and the package variables that the reading takes, are together of bulk at most 1048576: NARROWER than '..Said'. Prove '..Said' where nothing that the law and all that it calls make is longer than what came in: it says more and counts as full. Else prove '..UptoSaid'. A law counts once. -/
mutual
def uptoBulk {H : Type} : DataW H → Nat
  | .lit (.string bytes) => bytes.length + 1
  | .lit _ => 1
  | .nil => 1
  | .ptr d => uptoBulk d + 1
  | .slice elems spare => uptoBulkAll elems + uptoBulkAll spare + 1
  | .agg parts => uptoBulkAll parts + 1
  | .iface _ d => uptoBulk d + 1
  | .map entries => uptoBulkEntries entries + 1
  | .held _ => 1
def uptoBulkAll {H : Type} : List (DataW H) → Nat
  | [] => 0
  | d :: r => uptoBulk d + uptoBulkAll r
def uptoBulkEntries {H : Type} : List (Lit × DataW H) → Nat
  | [] => 0
  | x :: r => uptoBulkEntry x + uptoBulkEntries r
def uptoBulkEntry {H : Type} : Lit × DataW H → Nat
  | (.string bytes, d) => bytes.length + uptoBulk d + 1
  | (_, d) => uptoBulk d + 1
 end
def uptoSmall : (H : Type) → List (DataW H) → Bool := fun _ ds => decide (uptoBulkAll ds ≤ 1048576)
def OpenSpec.upto (s : _root_.Go.ChangeSpec) : _root_.Go.OpenSpec := { _root_.Go.OpenSpec.ofChange s with cond := some uptoSmall }

/-- 'engrosserlaw27.DueOrder', WHERE WHAT IT READS IS OF BULK AT MOST 1048576: true; the input reads as it did. -/
def dueOrderUptoRow : OpenClaim := { program := "ytaapdkeipknilaa", sum := "c4b949254746783a8e1c3a70d6370bb1646d45393105e40e4dcd721b4c7f900c", func := "engrosser/engrosserlaw27.DueOrder", spec := "dueOrder", unfollowed := true, recurses := true, apart := false, narrowed := true }
def DueOrderUptoSaid : Prop := dueOrderUptoRow.holds Try.pinned (OpenSpec.upto dueOrderSpec)

/-- 'engrosserlaw27.DueWaits', WHERE WHAT IT READS IS OF BULK AT MOST 1048576: true; the input reads as it did. -/
def dueWaitsUptoRow : OpenClaim := { program := "ytaapdkeipknilaa", sum := "c4b949254746783a8e1c3a70d6370bb1646d45393105e40e4dcd721b4c7f900c", func := "engrosser/engrosserlaw27.DueWaits", spec := "dueWaits", unfollowed := true, recurses := true, apart := false, narrowed := true }
def DueWaitsUptoSaid : Prop := dueWaitsUptoRow.holds Try.pinned (OpenSpec.upto dueWaitsSpec)

/-- 'engrosserlaw27.DueActs', WHERE WHAT IT READS IS OF BULK AT MOST 1048576: true; the input reads as it did. -/
def dueActsUptoRow : OpenClaim := { program := "ytaapdkeipknilaa", sum := "c4b949254746783a8e1c3a70d6370bb1646d45393105e40e4dcd721b4c7f900c", func := "engrosser/engrosserlaw27.DueActs", spec := "dueActs", unfollowed := true, recurses := true, apart := false, narrowed := true }
def DueActsUptoSaid : Prop := dueActsUptoRow.holds Try.pinned (OpenSpec.upto dueActsSpec)

end Rows
end Go.Proofs.Ytaapdkeipknilaa
