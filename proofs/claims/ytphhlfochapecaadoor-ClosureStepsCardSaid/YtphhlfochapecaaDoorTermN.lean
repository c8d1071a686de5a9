/-
  New.
-/
import Derived.Test.YtphhlfochapecaaDoorTerm3
namespace Go.Proofs.YtphhlfochapecaaDoor
set_option maxRecDepth 4000
open Go.RowKit

theorem new_any (base : Nat) (w : World) (hb : base ≤ w.heap.size) :
    Calls Tryd.prog 17 #[] w fun e w' => ∃ p, e = .returned (.pointer (some ⟨p, 0, none⟩)) ∧ PoolIs w' base p [] ∧ Below w.heap.size w w' ∧ w.heap.size ≤ p := by
  have hmm := @run_makeMap Tryd.prog
  have hB : ∀ o o', Below w.heap.size w ((w.alloc o).alloc o') := fun o o' => ((Below.refl _ _).alloc (Nat.le_refl _) o).alloc (by simp) o'
  have HB := Lib.hid hB; clear hB
  go_enter Tryd.func17, Tryd.ntmps17
  go_wp2_with fail
  go_ret
  refine ⟨w.heap.size + 1, rfl, ⟨none, 0, w.heap.size, none, 0, none, 0, ⟨?_, World.ownsRow_nil _ _ _ _, World.ownsRow_nil _ _ _ _, World.ownsRow_nil _ _ _ _, ?_, by simp [Value.ownBlock], by omega, by omega⟩⟩, HB.out _ _, by omega⟩
  · have := Blk.new (w.alloc (.map #[] 0)) 65 #[.slice none 0 0, .map (some w.heap.size), .slice none 0 0, .slice none 0 0]
    simpa using this
  · exact (TMap.new w).keep (Below.heap_alloc _ _ _ (by simp))
end Go.Proofs.YtphhlfochapecaaDoor
