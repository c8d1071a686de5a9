/-
  The law FaultCodes, as its row has it.
-/
import Derived.Test.YtnfcnjnecankbaaDoorLinkArg
namespace Go.Proofs.YtnfcnjnecankbaaDoor
set_option maxRecDepth 4000
open Go.RowKit

theorem codes_walk (a0 : Option Addr) (ys0 : List Lk) (len0 cap0 : Nat) (a1 a2 : Int) (W : World) (hT : Tabs W) (m0 : ys0.length = len0) (w0 : InLinks W a0 ys0) (w1 : (Lit.int .i64 a1).wf = true) (w2 : (Lit.int .i64 a2).wf = true) :
    Calls Tryd.prog 4 #[.slice a0 len0 cap0, .int .i64 a1, .int .i64 a2] W fun e w' => e = .returned (.bool true) ∧ Below W.heap.size W w' := by
  subst m0
  exact codes_any ys0 a0 cap0 a1 a2 W w0 hT
end Go.Proofs.YtnfcnjnecankbaaDoor
