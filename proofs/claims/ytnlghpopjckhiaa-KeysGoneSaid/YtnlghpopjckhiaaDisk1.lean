/-
  The disk's small functions: part, Clone, there, call, Size, Waiting, New.
-/
import Derived.Test.YtnlghpopjckhiaaProg
import Derived.Test.YtnlghpopjckhiaaDiskM
import Derived.Test.YtnlghpopjckhiaaClone
import Derived.BigQuiet
import Derived.Handy
import Derived.Deep.RegionHeld3
namespace Go.Proofs.Ytnlghpopjckhiaa
set_option maxRecDepth 4000
open Go.RowKit


theorem size_any (b : Nat) (s : Option Addr) (n c : Nat) (w : World) (hn : n ≤ maxLen) (h0 : w.cell? ⟨b, 0, none⟩ = some (.slice s n c)) :
    Calls Try.prog 35 #[.pointer (some ⟨b, 0, none⟩)] w fun e w' => e = .returned (.int .i64 ((n / 128 : Nat) : Int)) ∧ w = w' := by
  unfold maxLen at hn
  go_enter Try.func35, Try.ntmps35
  go_wp2
  go_ret
  exact ⟨rfl, rfl⟩

theorem there_any (b : Nat) (at_ k : Int) (s : Option Addr) (n c : Nat) (w : World) (hn : n ≤ maxLen) (h0 : w.cell? ⟨b, 0, none⟩ = some (.slice s n c)) :
    Calls Try.prog 36 #[.pointer (some ⟨b, 0, none⟩), .int .i64 at_, .int .i64 k] w fun e w' => e = .returned (.bool (thereB at_ k (n / 128 : Nat))) ∧ w = w' := by
  have hn' := hn
  unfold maxLen at hn
  by_cases h1 : 0 ≤ at_
  · by_cases h2 : 0 ≤ k
    · by_cases h3 : at_ ≤ (n / 128 : Nat)
      · go_enter Try.func36, Try.ntmps36
        go_wp2_with (go_at_call 35; refine (size_any _ _ _ _ _ hn' h0).mono ?_; rintro e w' ⟨rfl, rfl⟩)
        go_ret
        refine ⟨?_, rfl⟩
        exact ret_bool (bool_iff (by show decide (k ≤ (n : Int) / 128 - at_) = true ↔ _; rw [thereB, decide_eq_true_eq, decide_eq_true_eq]; omega))
      · go_enter Try.func36, Try.ntmps36
        go_wp2_with (go_at_call 35; refine (size_any _ _ _ _ _ hn' h0).mono ?_; rintro e w' ⟨rfl, rfl⟩)
        go_ret
        refine ⟨?_, rfl⟩
        exact ret_bool (by simp [thereB]; omega)
    · go_enter Try.func36, Try.ntmps36
      go_wp2_with fail
      go_ret
      refine ⟨?_, rfl⟩
      exact ret_bool (by simp [thereB]; omega)
  · go_enter Try.func36, Try.ntmps36
    go_wp2_with fail
    go_ret
    refine ⟨?_, rfl⟩
    exact ret_bool (by simp [thereB]; omega)

theorem call_any (b : Nat) (k : Int) (cs : Value × Value) (w : World) (h0 : Blk w b 59 #[cs.1, cs.2, .int .i64 k]) (hk2 : k ≤ 9223372036854775807) :
    Calls Try.prog 37 #[.pointer (some ⟨b, 0, none⟩)] w fun e w' => e = .returned (.bool (decide (k ≠ 0))) ∧ Blk w' b 59 #[cs.1, cs.2, .int .i64 (nextCalls k)] ∧ Fr (· = b) w w' ∧ w'.heap.size = w.heap.size := by
  have c2 : w.cell? ⟨b, 2, none⟩ = some (.int .i64 k) := h0.cell 2
  have f2 := h0.frozen 2
  have H := Lib.hid h0
  clear h0
  by_cases hk : 0 < k
  · go_enter Try.func37, Try.ntmps37
    go_wp2
    go_ret
    refine ⟨?_, ?_, Fr.setCell _ _ _ rfl, by simp [World.setCell]⟩
    · exact ret_bool (by simp; omega)
    · have := H.out.set_ 2 (.int .i64 (k - 1))
      simp only [nextCalls, if_pos hk]
      exact this
  · go_enter Try.func37, Try.ntmps37
    go_wp2
    go_ret
    refine ⟨?_, ?_, Fr.refl _ _, rfl⟩
    · exact ret_bool (bool_iff (by show decide (k < 0) = true ↔ _; simp; omega))
    · have hn : ¬ 0 < k := by omega
      simp only [nextCalls, if_neg hn]
      exact H.out

theorem part_any (g off n c : Nat) (k : Int) (w : World) (hn : n ≤ c) (hc : c ≤ maxLen) (h0 : 0 ≤ k) (hk : (k + 1) * 128 ≤ n) :
    Calls Try.prog 32 #[.slice (some ⟨g, off, none⟩) n c, .int .i64 k] w fun e w' => (∃ c', 128 ≤ c' ∧ c' ≤ maxLen ∧ e = .returned (.slice (some ⟨g, off + k.toNat * 128, none⟩) 128 c')) ∧ w = w' := by
  unfold maxLen at hc
  obtain ⟨k, rfl⟩ := Int.eq_ofNat_of_zero_le h0
  go_enter Try.func32, Try.ntmps32
  go_wp2
  go_ret
  refine ⟨⟨c - k * 128, by omega, by unfold maxLen; omega, ret_val ?_⟩, rfl⟩
  show Value.slice _ _ _ = _
  rw [show (k + 1) * 128 - k * 128 = 128 by omega, Int.toNat_natCast]

end Go.Proofs.Ytnlghpopjckhiaa
