/-
  The law's example.
-/
import Derived.Test.YtfnmmfmndllahaaDisk7
namespace Go.Proofs.Ytfnmmfmndllahaa
open Go.RowKit

def as_ : List UInt8 := List.replicate 128 97
def bs_ : List UInt8 := List.replicate 128 98
def awD1 : Dk := (Dk.new 2).push 0 as_ 1
def awD : Dk := awD1.push 0 bs_ 1
theorem awD_crash : (crashS awD [1, 0]).2.length = 2 := by decide +kernel
theorem awD_piece : (awD.crashed [1, 0]).piece 0 1 = as_ := by decide +kernel
theorem awD_len : awD.queue.length = 2 := by decide +kernel
theorem awD1_ok : awD1.Ok := (Dk.ok_new (by omega) (by omega)).push 0 as_ 1 (by decide +kernel) (by decide +kernel)
theorem awD_ok : awD.Ok := awD1_ok.push 0 bs_ 1 (by decide +kernel) (by decide +kernel)

set_option maxHeartbeats 1000000 in
theorem awake_any (w : World) : Calls Try.prog 5 #[] w fun e w' => e = .returned (.bool true) ∧ Below w.heap.size w w' := by
  go_enter Try.func5, Try.ntmps5
  go_wp2_with fail
  refine (new_good 2 w (by omega) (by omega)).mono ?_
  rintro e w1 ⟨⟨b, F, rfl, hD1, hF⟩, hb1⟩
  go_wp2_with fail
  refine (filled_any 128 97 w1 (by omega)).mono ?_
  rintro e w2 ⟨⟨rfl, hown2⟩, hb2⟩
  go_wp2_with fail
  refine (write_good b F (Dk.new 2) 0 1 _ 128 as_ w2 (hD1.below hb2) (Dk.ok_new (by omega) (by omega)) rfl (by omega) (by unfold maxLen; omega) (Sees.of_own hown2)
    (by intro _ a ha h; injection ha with ha; subst ha; exact absurd (hF _ h).2 (Nat.lt_irrefl _)) (by decide +kernel) (by decide +kernel) (by decide +kernel)).mono ?_
  rintro e w3 ⟨rfl, hD3⟩
  obtain ⟨F3, hD3, hF3, -, -, hb3⟩ := hD3.next (B := w.heap.size) (fun k hk => (hF k hk).1) (by have := hb1.size; have := hb2.size; omega)
  go_wp2_with fail
  refine (filled_any 128 98 w3 (by omega)).mono ?_
  rintro e w4 ⟨⟨rfl, hown4⟩, hb4⟩
  go_wp2_with fail
  refine (write_good b F3 awD1 0 1 _ 128 bs_ w4 (hD3.below hb4) awD1_ok rfl (by omega) (by unfold maxLen; omega) (Sees.of_own hown4)
    (by intro _ a ha h; injection ha with ha; subst ha; exact absurd (hF3 _ h).2 (Nat.lt_irrefl _)) (by decide +kernel) (by decide +kernel) (by decide +kernel)).mono ?_
  rintro e w5 ⟨rfl, hD5⟩
  have hs4 : w.heap.size ≤ w4.heap.size := by have := hb1.size; have := hb2.size; have := hb3.size; have := hb4.size; omega
  obtain ⟨F5, hD5, hF5, -, -, hb5⟩ := hD5.next (B := w.heap.size) (fun k hk => (hF3 k hk).1) hs4
  have hP5 := hD5
  obtain ⟨s, sc, cur, qA, qc, Q, ⟨⟨g1, -⟩, -, -, -, g9⟩⟩ := hP5
  have hQ : Q.length = 2 := by have := congrArg List.length g9; rw [List.length_map] at this; rw [← this]; exact awD_len
  rw [hQ] at g1
  go_wp2_with fail
  refine (waiting_any b qA 2 qc w5 (g1.cell 1)).mono ?_
  rintro e w' ⟨rfl, rfl⟩
  go_wp2_with fail
  have hba : Below w5.heap.size w5 (w5.alloc (.cells #[.int .i64 1, .int .i64 0] 3)) := (Below.refl _ _).alloc (Nat.le_refl _) _
  have hN := Blk.new w5 3 #[.int .i64 1, .int .i64 0]
  generalize w5.alloc (.cells #[.int .i64 1, .int .i64 0] 3) = W at hba hN ⊢
  refine (crash_any b F5 awD _ 2 2 [1, 0] W (hD5.below hba) awD_ok rfl (by unfold maxLen; omega) (by rw [awD_len]; omega)
    ⟨rfl, fun _ => ⟨_, 0, rfl, fun j u hu => by rw [Nat.zero_add, hN.cell j, List.getElem?_toArray]; exact hu⟩⟩ (by intro _ a ha h; injection ha with ha; subst ha; exact absurd (hF5 _ h).2 (Nat.lt_irrefl _))).mono ?_
  rintro e w6 ⟨rfl, hD6⟩
  have hs5 : w.heap.size ≤ w5.heap.size := by have := hb5.size; omega
  obtain ⟨F6, hD6, hF6, -, -, hb6⟩ := hD6.next (B := w.heap.size) (fun k hk => (hF5 k hk).1) (Nat.le_trans hs5 hba.size)
  rw [awD_crash]
  go_wp2_with fail
  refine (read_good b F6 (awD.crashed [1, 0]) 0 1 w6 hD6 (awD_ok.crashed _) (by decide +kernel) (by decide +kernel) (by decide +kernel)).mono ?_
  rintro e w7 ⟨v, rfl, hown7, hD7, hF7⟩
  rw [awD_piece] at hown7
  obtain ⟨g, cap, cu, rfl, hg, hblk, -⟩ := own_open hown7 (by omega)
  have hS7 : Sees w7 1 (some ⟨g, 0, none⟩) 128 (u8s as_) := Sees.of_own hown7
  have Hblk := Lib.hid hblk; clear hblk
  go_wp2_with fail
  refine region_plan [(0, true), (1, true), (2, true), (3, true), (4, true), (5, true), (6, true), (7, true), (8, true), (9, false), (10, false), (11, true), (12, true), (13, true)] [9, 10] (fun w' => Sees w' 1 (some ⟨g, 0, none⟩) 128 (u8s as_)) (by kernel_rfl) (by kernel_rfl) rfl (by kernel_rfl) hS7 (fun hS => ?_)
  repeat (first
    | (refine plan_read (v := ?_) rfl (fun _ _ _ h => h) rfl hS ?_ ?_; rotate_left 1; (focus (intro w' hS'; have hcv := run_to_string Try.underlying22 Try.underlying5 Try.underlying9 cap hS'; go_simp; try rfl)); simp only [Act.put, List.setIfInBounds_toArray, List.set_cons_zero, List.set_cons_succ])
    | (refine plan_skip rfl (fun _ _ _ h => h) rfl hS ?_; simp only [Act.put, List.setIfInBounds_toArray, List.set_cons_zero, List.set_cons_succ]))
  refine plan_do (by rfl) (by rfl) (fun K hK => ?_)
  go_simp
  refine (filled_any 128 97 _ (by omega)).mono ?_
  rintro e w8 ⟨⟨rfl, hown8⟩, hb8⟩
  have hS8 : Sees w8 1 (some ⟨g, 0, none⟩) 128 (u8s as_) := hS.below hb8
  have hS9 : Sees w8 1 (some ⟨w7.heap.size, 0, none⟩) 128 (u8s as_) := Sees.of_own hown8
  refine hK.out _ _ (fun _ => hS8) (fun hS => ?_); clear hK K; replace hS := hS rfl; try simp only [Act.put, List.setIfInBounds_toArray, List.set_cons_zero, List.set_cons_succ]
  refine plan_do (by rfl) (by rfl) (fun K hK => ?_)
  have hcv := run_to_string Try.underlying22 Try.underlying5 Try.underlying9 128 hS9
  go_simp
  refine hK.out _ _ (fun _ => hS) (fun hS => ?_); clear hK K; replace hS := hS rfl; try simp only [Act.put, List.setIfInBounds_toArray, List.set_cons_zero, List.set_cons_succ]
  repeat (first
    | (refine plan_read (v := ?_) rfl (fun _ _ _ h => h) rfl hS ?_ ?_; rotate_left 1; (focus (intro w' hS'; go_simp; try rfl)); simp only [Act.put, List.setIfInBounds_toArray, List.set_cons_zero, List.set_cons_succ])
    | (refine plan_skip rfl (fun _ _ _ h => h) rfl hS ?_; simp only [Act.put, List.setIfInBounds_toArray, List.set_cons_zero, List.set_cons_succ]))
  refine plan_nil ?_
  go_wp2_with fail
  go_ret
  have hs6 : w.heap.size ≤ w6.heap.size := by have := hb6.size; have := hba.size; omega
  have h7 : Below w.heap.size w6 w7 := hF7.below hs6 (fun k hk => (hF6 k hk).1)
  refine ⟨rfl, ?_⟩
  exact (((((((hb1.trans (hb2.mono hb1.size)).trans hb3).trans (hb4.mono (by have := hb1.size; have := hb2.size; have := hb3.size; omega))).trans hb5).trans (hba.mono hs5)).trans hb6).trans h7).trans ((below_of_drew hb8).mono (Nat.le_trans hs6 h7.size))
end Go.Proofs.Ytfnmmfmndllahaa
