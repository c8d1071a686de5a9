/-
  The law of a segment's parts, as the row asks it.
-/
import Derived.Test.YtjlkgkfheaihpaaDoorSeg4
import Derived.Test.YtjlkgkfheaihpaaDoorArrArg
namespace Go.Proofs.YtjlkgkfheaihpaaDoor
open Go.RowKit

theorem parts_walk (a0 : Option Addr) (len0 cap0 : Nat) (z0 : List Int) (a1 : Option Addr) (len1 cap1 : Nat) (z1 : List Int) (z2 : List Int) (W : World) (hT : Tab W)
    (w0 : IsRow .u8 W a0 len0 cap0 z0) (w1 : IsRow .u8 W a1 len1 cap1 z1) (l2 : z2.length = 2) (w2 : ∀ n ∈ z2, (Lit.int .i64 n).wf = true) :
    Calls Tryd.prog 3 #[.slice a0 len0 cap0, .slice a1 len1 cap1, .agg (z2.map (Value.int .i64)).toArray] W fun e W' => e = .returned (.bool true) ∧ Below W.heap.size W W' := by
  obtain ⟨l, hl, hA, _, _⟩ := w0.bytes
  obtain ⟨t, ht, hB, _, _⟩ := w1.bytes
  obtain ⟨q, k, rfl⟩ : ∃ q k, z2 = [q, k] := by
    match z2, l2 with
    | [q, k], _ => exact ⟨q, k, rfl⟩
  exact parts_any l t a0 a1 len0 cap0 len1 cap1 q k W hA hB hl ht (w2 q (by simp)) (w2 k (by simp)) hT
end Go.Proofs.YtjlkgkfheaihpaaDoor
