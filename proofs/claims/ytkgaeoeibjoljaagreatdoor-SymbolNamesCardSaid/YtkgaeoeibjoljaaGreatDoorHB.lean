/-
  Rest.
  A key of the law's.
  Slots on a disk that has nothing else, as plain law.
-/
import Derived.Test.YtkgaeoeibjoljaaGreatDoorProg
import Derived.Test.YtkgaeoeibjoljaaGreatDoorGA
import Derived.Test.YtkgaeoeibjoljaaGreatDoorKey12
namespace Go.Proofs.YtkgaeoeibjoljaaGreatDoor
set_option maxRecDepth 4000
open Go.RowKit

end Go.Proofs.YtkgaeoeibjoljaaGreatDoor

namespace Go.Proofs.YtkgaeoeibjoljaaGreatDoor
set_option maxRecDepth 4000
open Go.RowKit


end Go.Proofs.YtkgaeoeibjoljaaGreatDoor

namespace Go.Proofs.YtkgaeoeibjoljaaGreatDoor
set_option maxRecDepth 4000
open Go.RowKit


abbrev Kd := Option (Nat × List UInt8)
def KdOk (q : Kd) : Prop := ∀ p, q = some p → KOk p
def cl (Q : List Kd) : List Sl := Q.map fun q => (q, enc q)
theorem cl_ok {Q : List Kd} (h : ∀ q ∈ Q, KdOk q) : ∀ s ∈ cl Q, SlOk s := by
  intro s hs
  obtain ⟨q, hq, rfl⟩ := List.mem_map.1 hs
  exact ⟨h q hq, enc_length q (h q hq)⟩
theorem cl_length (Q : List Kd) : (cl Q).length = Q.length := by simp [cl]
theorem zer_slo : slo (none, zer) = List.replicate 256 0 := by decide +kernel
theorem slos_fresh : ∀ n, slos (cl (List.replicate n none)) = List.replicate (n * 256) 0
  | 0 => rfl
  | n + 1 => by
    show slo (none, zer) ++ slos (cl (List.replicate n none)) = _
    rw [slos_fresh n, zer_slo, List.replicate_append_replicate]
    congr 1
    omega


end Go.Proofs.YtkgaeoeibjoljaaGreatDoor
