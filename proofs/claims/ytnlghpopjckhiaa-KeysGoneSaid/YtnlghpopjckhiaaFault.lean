/-
  fault.Wrap.
-/
import Derived.Test.YtnlghpopjckhiaaCrc
namespace Go.Proofs.Ytnlghpopjckhiaa
set_option maxRecDepth 4000
open Go.RowKit

theorem wrap_ok (op : ByteArray) (k : Int) (w : World) : Calls Try.prog 21 #[.string op, .int .i64 k, .int .i64 0] w fun e w' => e = .returned Value.nilIface ∧ w = w' := by
  go_enter Try.func21, Try.ntmps21
  go_wp2_with fail
  go_ret
  exact ⟨rfl, rfl⟩
theorem wrap_no (op : ByteArray) (k n : Int) (hn : n ≠ 0) (w : World) : Calls Try.prog 21 #[.string op, .int .i64 k, .int .i64 n] w fun e w' => e = .returned (.iface 84 (.pointer (some ⟨w.heap.size, 0, none⟩))) ∧ Blk w' w.heap.size 86 #[.string op, .int .i64 k, .iface 27 (.int .i64 n)] ∧ Below w.heap.size w w' := by
  have hn2 : (n == 0) = false := by rw [beq_eq_false_iff_ne]; exact hn
  go_enter Try.func21, Try.ntmps21
  go_wp2_with fail
  go_ret
  exact ⟨rfl, Blk.new _ _ _, (Below.refl _ _).alloc (Nat.le_refl _) _⟩
end Go.Proofs.Ytnlghpopjckhiaa
