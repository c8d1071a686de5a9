/-
  Rest.
  A key of the law's.
  Slots on a disk that has nothing else, as plain law.
-/
import Derived.Test.YtkgaeoeibjoljaaGreatDoorProg
import Derived.Test.YtkgaeoeibjoljaaGreatDoorGA
import Derived.Test.YtkgaeoeibjoljaaGreatDoorKey12
namespace Go.Proofs.YtkgaeoeibjoljaaGreatDoor
section
set_option maxRecDepth 4000
open Go.RowKit
def restN (a : Int) (n : Nat) : Nat := (a % n).toNat
theorem restN_lt (a : Int) (n : Nat) (h : 0 < n) : restN a n < n := by
 have b4 : a % (n : Int) < n := Int.emod_lt_of_pos _ (by omega)
 have b3 : 0 <= a % (n : Int) := Int.emod_nonneg _ (by omega)
 unfold restN
 omega
theorem rest_at (a : Int) (n : Nat) (w : World) (h1 : -9223372036854775808 <= a) (h2 : a <= 9223372036854775807) (hn : 0 < n) (hn2 : n <= 100000000) :
  Calls Tryz.prog 16 #[.int .i64 a, .int .i64 n] w fun e w' => e = .returned (.int .i64 (restN a n : Nat)) /\ w = w' := by
 have hnz : (n : Int) ≠ 0 := by omega
 have hn1 : (n : Int) ≠ -1 := by omega
 have b1 : -(n : Int) < a.tmod n := by have := Int.lt_tmod_of_pos a (show (0 : Int) < n by omega); omega
 have b2 : a.tmod n < n := Int.tmod_lt_of_pos a (by omega)
 have e1 : IntKind.i64.wrap (a.tmod n) = a.tmod n := IntWalk.i64_in _ (by omega)
 have e2 : IntKind.i64.wrap (a.tmod n + n) = a.tmod n + n := IntWalk.i64_in _ (by omega)
 have b5 : (a.tmod n + n).tmod n = (a.tmod n) % n := by rw [Int.tmod_eq_emod_of_nonneg (by omega), Int.add_emod_right]
 have b6 : (a.tmod n) % n = a % n := by rw [Int.tmod_def, Int.sub_mul_emod_self_left]
 have b3 : 0 <= (a.tmod n) % n := Int.emod_nonneg _ (by omega)
 have b4 : (a.tmod n) % n < n := Int.emod_lt_of_pos _ (by omega)
 have e3 : IntKind.i64.wrap ((a.tmod n) % n) = (a.tmod n) % n := IntWalk.i64_in _ (by omega)
 have hr : (restN a n : Int) = (a.tmod n) % n := by unfold restN; rw [<- b6, Int.toNat_of_nonneg b3]
 generalize restN a n = r at *
 replace hr := Lh hr
 replace b6 := Lh b6
 go_enter Tryz.func16, Tryz.ntmps16
 go_wp2_with fail
 go_ret
 exact ⟨by rw [hr.out]; rfl, rfl⟩
end
section
set_option maxRecDepth 4000
open Go.RowKit
end
section
set_option maxRecDepth 4000
open Go.RowKit
abbrev Kd := Option (Nat × List UInt8)
def KdOk (q : Kd) : Prop := ∀ p, q = some p -> KOk p
def cl (Q : List Kd) : List Sl := Q.map fun q => (q, enc q)
theorem cl_ok {Q : List Kd} (h : ∀ q ∈ Q, KdOk q) : ∀ s ∈ cl Q, SlOk s := by
 intro s hs
 obtain ⟨q, hq, rfl⟩ := List.mem_map.1 hs
 exact ⟨h q hq, enc_length q (h q hq)⟩
theorem cl_length (Q : List Kd) : (cl Q).length = Q.length := by simp [cl]
theorem zer_slo : slo (none, zer) = List.replicate 256 0 := by decide +kernel
theorem slos_fresh : ∀ n, slos (cl (List.replicate n none)) = List.replicate (n * 256) 0
 | 0 => rfl
 | n + 1 => by
  show slo (none, zer) ++ slos (cl (List.replicate n none)) = _
  rw [slos_fresh n, zer_slo, List.replicate_append_replicate]
  congr 1
  omega
end
end Go.Proofs.YtkgaeoeibjoljaaGreatDoor
