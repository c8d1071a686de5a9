/-
  The log in memory: octets, end, fail; segment.Fits.
-/
import Derived.Test.YtldgnckchlbadaaDoorLogP
import Derived.Test.YtldgnckchlbadaaDoorGD
import Derived.Test.YtldgnckchlbadaaDoorGC
namespace Go.Proofs.YtldgnckchlbadaaDoor
set_option maxRecDepth 4000
open Go.RowKit

theorem fits_any (a u t : Nat) (ha : a ≤ 100000) (hu : u ≤ 100000) (ht : t ≤ maxLen) (w : World) :
    Calls Tryd.prog 26 #[.int .i64 a, .int .i64 u, .int .i64 t] w fun e w' => e = .returned (.bool (fitsF a u t)) ∧ w = w' := by
  unfold fitsF
  unfold maxLen at ht
  by_cases h1 : 1 ≤ t
  · have h1i : (1 : Int) ≤ (t : Int) := by omega
    by_cases h2 : t ≤ 65535
    · have h2i : (t : Int) ≤ 65535 := by omega
      by_cases h3 : u ≤ a
      · have h3i : (u : Int) ≤ (a : Int) := by omega
        go_enter Tryd.func26, Tryd.ntmps26
        go_wp2_with fail
        go_ret
        refine ⟨ret_bool ?_, rfl⟩
        rw [Bool.eq_iff_iff, decide_eq_true_iff, decide_eq_true_iff]
        omega
      · have h3i : ¬ ((u : Int) ≤ (a : Int)) := by omega
        go_enter Tryd.func26, Tryd.ntmps26
        go_wp2_with fail
        go_ret
        refine ⟨ret_bool ?_, rfl⟩
        first | rfl | (rw [eq_comm, decide_eq_false_iff_not]; omega)
    · have h2i : ¬ ((t : Int) ≤ 65535) := by omega
      go_enter Tryd.func26, Tryd.ntmps26
      go_wp2_with fail
      go_ret
      refine ⟨ret_bool ?_, rfl⟩
      first | rfl | (rw [eq_comm, decide_eq_false_iff_not]; omega)
  · have h1i : ¬ ((1 : Int) ≤ (t : Int)) := by omega
    go_enter Tryd.func26, Tryd.ntmps26
    go_wp2_with fail
    go_ret
    refine ⟨ret_bool ?_, rfl⟩
    first | rfl | (rw [eq_comm, decide_eq_false_iff_not]; omega)

theorem octets_any (v0 : Value) (f sg sz : Nat) (w : World) (hz : sz ≤ 1000) :
    Calls Tryd.prog 27 #[.agg #[v0, .int .i64 f, .int .i64 sg, .int .i64 sz]] w fun e w' => e = .returned (.int .i64 ((sz * 128 : Nat) : Int)) ∧ Below w.heap.size w w' := by
  go_enter Tryd.func27, Tryd.ntmps27
  go_wp2_with fail
  go_ret
  exact ⟨ret_int (by omega), (Below.refl _ _).alloc (Nat.le_refl _) _⟩

/-- The log's own cells. -/
def lgc (b f sg sz : Nat) (vB : Value) (la us cl : Nat) (vT vC : Value) (su : Nat) (se de : Bool) : Array Value :=
  #[.pointer (some ⟨b, 0, none⟩), .int .i64 f, .int .i64 sg, .int .i64 sz, vB, .int .i64 la, .int .i64 us, .int .i64 cl, vT, vC, .int .i64 su, .bool se, .bool de]

theorem end_any (lb b f sg sz : Nat) (vB : Value) (la us cl : Nat) (vT vC : Value) (su : Nat) (se de : Bool) (w : World) (h : Blk w lb 62 (lgc b f sg sz vB la us cl vT vC su se de)) (hz : sz ≤ 1000) (hla : la ≤ 1000) (hus : us ≤ 1000000) :
    Calls Tryd.prog 25 #[.pointer (some ⟨lb, 0, none⟩)] w fun e w' => e = .returned (.int .i64 ((la * (sz * 128) + us : Nat) : Int)) ∧ Below w.heap.size w w' := by
  have HO := Lib.hid (fun w => octets_any (.pointer (some ⟨b, 0, none⟩)) f sg sz w hz)
  have hm : la * (sz * 128) ≤ 1000 * 128000 := Nat.mul_le_mul hla (by omega)
  obtain ⟨N, hN⟩ : ∃ N, N = sz * 128 := ⟨_, rfl⟩
  obtain ⟨M, hM⟩ : ∃ M, M = la * N := ⟨_, rfl⟩
  rw [← hN, ← hM] at hm ⊢
  rw [← hN] at HO
  have hmi : (la : Int) * (N : Int) = (M : Int) := by rw [hM]; simp
  replace hN := Lib.hid hN
  replace hM := Lib.hid hM
  have H := Lib.hid h
  clear h
  go_enter Tryd.func25, Tryd.ntmps25
  go_wp2_with fail
  refine region_fast [(0, true), (1, true), (2, true), (3, true), (4, true), (5, true), (6, true), (7, true), (10, true), (11, true), (12, true), (13, true), (8, false), (9, true), (14, true), (15, true)] [4, 5, 6, 7, 8, 9, 10, 11, 12, 13] 16368 [(8, 1, 0, 0), (16, 8, 1, 1), (32, 16, 2, 3), (64, 32, 4, 7), (128, 1, 0, 0), (256, 128, 16, 16), (512, 256, 32, 48), (1024, 512, 64, 112), (2048, 1024, 128, 240), (4096, 2112, 264, 511), (8192, 1, 0, 0), (16384, 8192, 1024, 1024), (32768, 16384, 2048, 3072), (65536, 32768, 4096, 7168), (131072, 69632, 8704, 16383), (4, 131072, 32767, 32767)] (fun W => Blk W lb 62 (lgc b f sg sz vB la us cl vT vC su se de) ∧ Below w.heap.size w W) (by kernel_rfl) (by kernel_rfl) (by kernel_rfl) rfl (by kernel_rfl) (by kernel_rfl) ⟨H.out.drew, (Below.refl _ _).drew⟩ (fun hS => ?_)
  repeat (first
    | (refine plan_read (v := ?_) rfl (fun _ _ _ h => h) rfl hS ?_ ?_; rotate_left 1; (focus (intro w' hS'; have e0 : w'.cell? ⟨lb, 0, none⟩ = some (.pointer (some ⟨b, 0, none⟩)) := hS'.1.cell 0; have e1 : w'.cell? ⟨lb, 1, none⟩ = some (.int .i64 f) := hS'.1.cell 1; have e2 : w'.cell? ⟨lb, 2, none⟩ = some (.int .i64 sg) := hS'.1.cell 2; have e3 : w'.cell? ⟨lb, 3, none⟩ = some (.int .i64 sz) := hS'.1.cell 3; have e5 : w'.cell? ⟨lb, 5, none⟩ = some (.int .i64 la) := hS'.1.cell 5; have e6 : w'.cell? ⟨lb, 6, none⟩ = some (.int .i64 us) := hS'.1.cell 6; go_simp; try rfl)); (simp only [Act.put, List.setIfInBounds_toArray]; dsimp only [List.set_cons_zero, List.set_cons_succ]))
    | (refine plan_skip rfl (fun _ _ _ h => h) rfl hS ?_; (simp only [Act.put, List.setIfInBounds_toArray]; dsimp only [List.set_cons_zero, List.set_cons_succ])))
  refine plan_do (by rfl) (by rfl) (fun K hK => ?_)
  go_simp
  refine (HO.out _).mono ?_
  rintro e w1 ⟨rfl, bel⟩
  refine hK.out _ _ (fun _ => ⟨hS.1.below bel hS.1.lt, hS.2.trans (bel.mono hS.2.size)⟩) (fun hS => ?_); clear hK K; replace hS := hS rfl; try (simp only [Act.put, List.setIfInBounds_toArray]; dsimp only [List.set_cons_zero, List.set_cons_succ])
  repeat (first
    | (refine plan_read (v := ?_) rfl (fun _ _ _ h => h) rfl hS ?_ ?_; rotate_left 1; (focus (intro w' hS'; have e6 : w'.cell? ⟨lb, 6, none⟩ = some (.int .i64 us) := hS'.1.cell 6; go_simp; try rfl)); (simp only [Act.put, List.setIfInBounds_toArray]; dsimp only [List.set_cons_zero, List.set_cons_succ]))
    | (refine plan_skip rfl (fun _ _ _ h => h) rfl hS ?_; (simp only [Act.put, List.setIfInBounds_toArray]; dsimp only [List.set_cons_zero, List.set_cons_succ])))
  refine plan_nil ?_
  go_wp2_with fail
  go_ret
  refine ⟨ret_int ?_, hS.2⟩
  rw [IntWalk.i64_in (M : Int) (by omega), IntWalk.i64_in _ (by omega)]
  omega

theorem fail_any (lb b f sg sz : Nat) (vB : Value) (la us cl : Nat) (A : Option Addr) (k cT : Nat) (vC : Value) (su : Nat) (se de : Bool) (n : Nat) (w : World) (h : Blk w lb 62 (lgc b f sg sz vB la us cl (.slice A k cT) vC su se de)) (hk : k ≤ 1000000000) (hn : n ≠ 0) (hn2 : n ≤ 1000) :
    Calls Tryd.prog 21 #[.pointer (some ⟨lb, 0, none⟩), .int .i64 n] w fun e w' => (∃ g, e = .returned (.iface 114 (.pointer (some ⟨g, 0, none⟩)))) ∧ Below w.heap.size w w' := by
  have c8 : w.cell? ⟨lb, 8, none⟩ = some (.slice A k cT) := h.cell 8
  have HW := Lib.hid (wrap_no (str [108, 111, 103]) k n (by omega) w)
  clear h
  go_enter Tryd.func21, Tryd.ntmps21
  go_wp2_with fail
  refine HW.out.mono ?_
  rintro e w1 ⟨rfl, -, bel⟩
  go_wp2_with fail
  go_ret
  exact ⟨⟨_, rfl⟩, bel⟩
end Go.Proofs.YtldgnckchlbadaaDoor
