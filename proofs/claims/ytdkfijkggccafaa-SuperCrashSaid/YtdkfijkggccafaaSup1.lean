/-
  A superblock: is it right? By the code and by the document.
-/
import Derived.Test.YtdkfijkggccafaaCrcW
import Derived.Test.YtdkfijkggccafaaKit
namespace Go.Proofs.Ytdkfijkggccafaa
set_option maxRecDepth 4000
open Go.RowKit

/-- A superblock. -/
structure Sp where
  gen : Int
  boot : Int
  slots : Int
  segs : Int
  size : Int
def Sp.val (s : Sp) : Value := .agg #[.int .i64 s.gen, .int .i64 s.boot, .int .i64 s.slots, .int .i64 s.segs, .int .i64 s.size]
def Sp.right (s : Sp) : Prop := 1 ≤ s.gen ∧ s.gen ≤ 1099511627776 ∧ 0 ≤ s.boot ∧ s.boot ≤ 1099511627776 ∧ 1 ≤ s.slots ∧ s.slots ≤ 64 ∧ 1 ≤ s.segs ∧ s.segs ≤ 256 ∧ 2 ≤ s.size ∧ s.size ≤ 512
instance (s : Sp) : Decidable s.right := by unfold Sp.right; infer_instance

theorem within_any (n a b : Int) (w : World) : Calls Try.prog 27 #[.int .i64 n, .int .i64 a, .int .i64 b] w fun e w' => e = .returned (.bool (decide (a ≤ n ∧ n ≤ b))) ∧ w = w' := by
  by_cases h1 : a ≤ n
  · by_cases h2 : n ≤ b
    · rw [decide_eq_true ⟨h1, h2⟩]
      go_enter Try.func27, Try.ntmps27
      go_wp2_with fail
      go_ret
      exact ⟨ret_bool (by first | rfl | (simp; done) | (simp; omega)), rfl⟩
    · rw [decide_eq_false (fun h => h2 h.2)]
      go_enter Try.func27, Try.ntmps27
      go_wp2_with fail
      go_ret
      exact ⟨ret_bool (by first | rfl | (simp; done) | (simp; omega)), rfl⟩
  · rw [decide_eq_false (fun h => h1 h.1)]
    go_enter Try.func27, Try.ntmps27
    go_wp2_with fail
    go_ret
    exact ⟨rfl, rfl⟩

theorem right_any (s : Sp) (w : World) : Calls Try.prog 8 #[s.val] w fun e w' => e = .returned (.bool (decide s.right)) ∧ Below w.heap.size w w' := by
  have H1 := Lib.hid (within_any s.gen 1 1099511627776)
  have H2 := Lib.hid (within_any s.boot 0 1099511627776)
  have H3 := Lib.hid (within_any s.slots 1 64)
  have H4 := Lib.hid (within_any s.segs 1 256)
  have H5 := Lib.hid (within_any s.size 2 512)
  have hr : decide s.right = (decide (1 ≤ s.gen ∧ s.gen ≤ 1099511627776) && (decide (0 ≤ s.boot ∧ s.boot ≤ 1099511627776) && (decide (1 ≤ s.slots ∧ s.slots ≤ 64) && (decide (1 ≤ s.segs ∧ s.segs ≤ 256) && decide (2 ≤ s.size ∧ s.size ≤ 512))))) :=
    Bool.eq_iff_iff.2 (by simp only [Bool.and_eq_true, decide_eq_true_eq]; simp only [Sp.right, and_assoc])
  rw [hr]
  generalize decide (1 ≤ s.gen ∧ s.gen ≤ 1099511627776) = b1 at *
  generalize decide (0 ≤ s.boot ∧ s.boot ≤ 1099511627776) = b2 at *
  generalize decide (1 ≤ s.slots ∧ s.slots ≤ 64) = b3 at *
  generalize decide (1 ≤ s.segs ∧ s.segs ≤ 256) = b4 at *
  generalize decide (2 ≤ s.size ∧ s.size ≤ 512) = b5 at *
  clear hr
  have hb0 : ∀ o, Below w.heap.size w (w.alloc o) := fun o => (Below.refl _ _).alloc (Nat.le_refl _) o
  have HB := Lib.hid hb0; clear hb0
  unfold Sp.val
  cases b1
  · go_enter Try.func8, Try.ntmps8
    go_wp2_with fail
    refine (H1.out _).mono ?_
    rintro e w' ⟨rfl, rfl⟩
    go_wp2_with fail
    go_ret
    exact ⟨rfl, HB.out _⟩
  cases b2
  · go_enter Try.func8, Try.ntmps8
    go_wp2_with fail
    refine (H1.out _).mono ?_
    rintro e w' ⟨rfl, rfl⟩
    go_wp2_with fail
    refine (H2.out _).mono ?_
    rintro e w' ⟨rfl, rfl⟩
    go_wp2_with fail
    go_ret
    exact ⟨rfl, HB.out _⟩
  cases b3
  · go_enter Try.func8, Try.ntmps8
    go_wp2_with fail
    refine (H1.out _).mono ?_
    rintro e w' ⟨rfl, rfl⟩
    go_wp2_with fail
    refine (H2.out _).mono ?_
    rintro e w' ⟨rfl, rfl⟩
    go_wp2_with fail
    refine (H3.out _).mono ?_
    rintro e w' ⟨rfl, rfl⟩
    go_wp2_with fail
    go_ret
    exact ⟨rfl, HB.out _⟩
  cases b4
  · go_enter Try.func8, Try.ntmps8
    go_wp2_with fail
    refine (H1.out _).mono ?_
    rintro e w' ⟨rfl, rfl⟩
    go_wp2_with fail
    refine (H2.out _).mono ?_
    rintro e w' ⟨rfl, rfl⟩
    go_wp2_with fail
    refine (H3.out _).mono ?_
    rintro e w' ⟨rfl, rfl⟩
    go_wp2_with fail
    refine (H4.out _).mono ?_
    rintro e w' ⟨rfl, rfl⟩
    go_wp2_with fail
    go_ret
    exact ⟨rfl, HB.out _⟩
  cases b5
  · go_enter Try.func8, Try.ntmps8
    go_wp2_with fail
    refine (H1.out _).mono ?_
    rintro e w' ⟨rfl, rfl⟩
    go_wp2_with fail
    refine (H2.out _).mono ?_
    rintro e w' ⟨rfl, rfl⟩
    go_wp2_with fail
    refine (H3.out _).mono ?_
    rintro e w' ⟨rfl, rfl⟩
    go_wp2_with fail
    refine (H4.out _).mono ?_
    rintro e w' ⟨rfl, rfl⟩
    go_wp2_with fail
    refine (H5.out _).mono ?_
    rintro e w' ⟨rfl, rfl⟩
    go_wp2_with fail
    go_ret
    exact ⟨rfl, HB.out _⟩
  · go_enter Try.func8, Try.ntmps8
    go_wp2_with fail
    refine (H1.out _).mono ?_
    rintro e w' ⟨rfl, rfl⟩
    go_wp2_with fail
    refine (H2.out _).mono ?_
    rintro e w' ⟨rfl, rfl⟩
    go_wp2_with fail
    refine (H3.out _).mono ?_
    rintro e w' ⟨rfl, rfl⟩
    go_wp2_with fail
    refine (H4.out _).mono ?_
    rintro e w' ⟨rfl, rfl⟩
    go_wp2_with fail
    refine (H5.out _).mono ?_
    rintro e w' ⟨rfl, rfl⟩
    go_wp2_with fail
    go_ret
    exact ⟨rfl, HB.out _⟩

theorem rright_any (s : Sp) (w : World) : Calls Try.prog 9 #[s.val] w fun e w' => e = .returned (.bool (decide s.right)) ∧ Below w.heap.size w w' := by
  have hb0 : ∀ o, Below w.heap.size w (w.alloc o) := fun o => (Below.refl _ _).alloc (Nat.le_refl _) o
  have HB := Lib.hid hb0; clear hb0
  unfold Sp.val
  go_enter Try.func9, Try.ntmps9
  go_wp2_with fail
  all_goals
    go_ret
    refine ⟨ret_bool (Bool.eq_iff_iff.2 ?_), HB.out _⟩
    simp only [decide_eq_true_eq, Bool.false_eq_true, false_iff]
    unfold Sp.right
    omega

theorem sectors_any (s : Sp) (w : World) : Calls Try.prog 10 #[s.val] w fun e w' => e = .returned (.int .i64 (if s.right then 2 + 2 * s.slots + s.segs * s.size else 0)) ∧ Below w.heap.size w w' := by
  have hal : Below w.heap.size w (w.alloc (.cells #[.int .i64 s.gen, .int .i64 s.boot, .int .i64 s.slots, .int .i64 s.segs, .int .i64 s.size] 23)) := (Below.refl _ _).alloc (Nat.le_refl _) _
  have H := Lib.hid (right_any s)
  by_cases hr : s.right
  · rw [if_pos hr]
    rw [decide_eq_true hr] at H
    obtain ⟨-, -, -, -, h5, h6, h7, h8, h9, h10⟩ := hr
    have hm : 0 ≤ s.segs * s.size ∧ s.segs * s.size ≤ 131072 := ⟨Int.mul_nonneg (by omega) (by omega), Int.le_trans (Int.mul_le_mul h8 h10 (by omega) (by omega)) (by omega)⟩
    have e1 : IntKind.i64.wrap (s.segs * s.size) = s.segs * s.size := IntWalk.i64_in _ (by omega)
    have e2 : IntKind.i64.wrap (2 * s.slots) = 2 * s.slots := IntWalk.i64_in _ (by omega)
    have e3 : IntKind.i64.wrap (2 + 2 * s.slots) = 2 + 2 * s.slots := IntWalk.i64_in _ (by omega)
    have e4 : IntKind.i64.wrap (2 + 2 * s.slots + s.segs * s.size) = 2 + 2 * s.slots + s.segs * s.size := IntWalk.i64_in _ (by omega)
    have HA := Lib.hid hal; clear hal
    unfold Sp.val at *
    go_enter Try.func10, Try.ntmps10
    go_wp2_with fail
    refine (H.out _).mono ?_
    rintro e w1 ⟨rfl, hb⟩
    have HB := Lib.hid (HA.out.trans (hb.mono HA.out.size))
    have hR := (Blk.new w 23 #[.int .i64 s.gen, .int .i64 s.boot, .int .i64 s.slots, .int .i64 s.segs, .int .i64 s.size]).below hb (by simp)
    have c2 : w1.cell? ⟨w.heap.size, 2, none⟩ = some (.int .i64 s.slots) := hR.cell 2
    have c3 : w1.cell? ⟨w.heap.size, 3, none⟩ = some (.int .i64 s.segs) := hR.cell 3
    have c4 : w1.cell? ⟨w.heap.size, 4, none⟩ = some (.int .i64 s.size) := hR.cell 4
    clear hb hR
    go_wp2_with fail
    go_ret
    exact ⟨rfl, HB.out⟩
  · rw [if_neg hr]
    rw [decide_eq_false hr] at H
    have HA := Lib.hid hal; clear hal
    unfold Sp.val at *
    go_enter Try.func10, Try.ntmps10
    go_wp2_with fail
    refine (H.out _).mono ?_
    rintro e w1 ⟨rfl, hb⟩
    have HB := Lib.hid (HA.out.trans (hb.mono HA.out.size))
    go_wp2_with fail
    go_ret
    exact ⟨rfl, HB.out⟩
end Go.Proofs.Ytdkfijkggccafaa
