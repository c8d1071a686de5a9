/-
  The digest's words: turned, shifted.
-/
import Derived.Test.YtldgnckchlbadaaDoorGD
import Derived.Test.YtldgnckchlbadaaDoorGC
namespace Go.Proofs.YtldgnckchlbadaaDoor
set_option maxRecDepth 4000
open Go.RowKit

/-- A word, turned right. -/
def rr (x n : Nat) : Nat := x / 2 ^ n ||| (x * 2 ^ (32 - n)) % 4294967296
theorem rr_lt {x : Nat} (n : Nat) (h : x < 4294967296) : rr x n < 4294967296 :=
  Nat.or_lt_two_pow (n := 32) (Nat.lt_of_le_of_lt (Nat.div_le_self _ _) h) (Nat.mod_lt _ (by decide))
def tu3 (x a b c : Nat) : Nat := rr x a ^^^ rr x b ^^^ rr x c
def sf3 (x a b c : Nat) : Nat := rr x a ^^^ rr x b ^^^ x / 2 ^ c

theorem rot_any (x a : Nat) (hx : x < 4294967296) (ha1 : 1 ≤ a) (ha : a < 32) (w : World) : Calls Tryd.prog 89 #[.int .u32 x, .int .i64 (-(a : Int))] w fun e w' => e = .returned (.int .u32 (rr x a : Nat)) ∧ w = w' := by
  have hxi : (x : Int) < 4294967296 := by omega
  have h1 : IntKind.u64.wrap (-(a : Int)) = 18446744073709551616 - (a : Int) := by rw [IntKind.wrap_u64]; omega
  have h31 : ∀ a : Nat, a < 32 → 1 ≤ a → bits BinOp.and IntKind.u64 (18446744073709551616 - (a : Int)) 31 = ((32 - a : Nat) : Int) := by decide +kernel
  replace h31 := h31 a ha ha1
  obtain ⟨s, hs⟩ : ∃ s, s = 32 - a := ⟨_, rfl⟩
  rw [← hs] at h31
  have has : a = 32 - s := by omega
  have hs32 : s < 32 := by omega
  have hs0 : (s : Int) < 32 := by omega
  have h32 : (32 - (s : Int)).toNat = 32 - s := by omega
  have hr : bits BinOp.or IntKind.u32 ((x : Int) * 2 ^ s % 4294967296) ((x : Int) / 2 ^ (32 - s)) = (rr x a : Nat) := by
    have e1 : ((x : Int) * 2 ^ s % 4294967296) = ((x * 2 ^ s % 4294967296 : Nat) : Int) := by simp
    have e2 : ((x : Int) / 2 ^ (32 - s)) = ((x / 2 ^ (32 - s) : Nat) : Int) := by simp
    rw [e1, e2, u32_or_nat _ _ (Nat.mod_lt _ (by decide)) (Nat.lt_of_le_of_lt (Nat.div_le_self _ _) hx), Nat.or_comm, rr, has, show 32 - (32 - s) = s by omega]
  have HR := Lib.hid hr; have HAS := Lib.hid has; clear hr has hs
  go_enter Tryd.func89, Tryd.ntmps89
  go_wp2_with fail
  go_ret
  exact ⟨ret_int HR.out, rfl⟩

theorem turned_any (x a b c : Nat) (hx : x < 4294967296) (ha : 1 ≤ a ∧ a < 32) (hb : 1 ≤ b ∧ b < 32) (hc : 1 ≤ c ∧ c < 32) (w : World) :
    Calls Tryd.prog 84 #[.int .u32 x, .int .i64 a, .int .i64 b, .int .i64 c] w fun e w' => e = .returned (.int .u32 (tu3 x a b c : Nat)) ∧ w = w' := by
  have R1 := Lib.hid (rot_any x a hx ha.1 ha.2)
  have R2 := Lib.hid (rot_any x b hx hb.1 hb.2)
  have R3 := Lib.hid (rot_any x c hx hc.1 hc.2)
  have l1 := rr_lt a hx; have l2 := rr_lt b hx; have l3 := rr_lt c hx
  have hr : bits BinOp.xor IntKind.u32 (bits BinOp.xor IntKind.u32 (rr x a : Nat) (rr x b : Nat)) (rr x c : Nat) = ((tu3 x a b c : Nat) : Int) := by
    rw [u32_xor_nat _ _ l1 l2, u32_xor_nat _ _ (xor32 l1 l2) l3]; rfl
  have HR := Lib.hid hr; clear hr
  have b1 : (a : Int) < 32 := by omega
  have b2 : (b : Int) < 32 := by omega
  have b3 : (c : Int) < 32 := by omega
  generalize rr x a = p at *
  generalize rr x b = q at *
  generalize rr x c = r at *
  go_enter Tryd.func84, Tryd.ntmps84
  go_wp2_with fail
  refine (R1.out _).mono ?_
  rintro e w' ⟨rfl, rfl⟩
  go_wp2_with fail
  refine (R2.out _).mono ?_
  rintro e w' ⟨rfl, rfl⟩
  go_wp2_with fail
  refine (R3.out _).mono ?_
  rintro e w' ⟨rfl, rfl⟩
  go_wp2_with fail
  go_ret
  exact ⟨ret_int HR.out, rfl⟩

theorem shifted_any (x a b c : Nat) (hx : x < 4294967296) (ha : 1 ≤ a ∧ a < 32) (hb : 1 ≤ b ∧ b < 32) (hc : 1 ≤ c ∧ c < 32) (w : World) :
    Calls Tryd.prog 88 #[.int .u32 x, .int .i64 a, .int .i64 b, .int .i64 c] w fun e w' => e = .returned (.int .u32 (sf3 x a b c : Nat)) ∧ Below w.heap.size w w' := by
  have R1 := Lib.hid (rot_any x a hx ha.1 ha.2)
  have R2 := Lib.hid (rot_any x b hx hb.1 hb.2)
  have l1 := rr_lt a hx; have l2 := rr_lt b hx
  obtain ⟨q3, hq3⟩ : ∃ q, q = x / 2 ^ c := ⟨_, rfl⟩
  have l3 : q3 < 4294967296 := by rw [hq3]; exact Nat.lt_of_le_of_lt (Nat.div_le_self _ _) hx
  have hqi : (x : Int) / 2 ^ c = (q3 : Int) := by rw [hq3]; simp
  have hr : bits BinOp.xor IntKind.u32 (bits BinOp.xor IntKind.u32 (rr x a : Nat) (rr x b : Nat)) (q3 : Int) = ((sf3 x a b c : Nat) : Int) := by
    rw [u32_xor_nat _ _ l1 l2, u32_xor_nat _ _ (xor32 l1 l2) l3, hq3]; rfl
  have HR := Lib.hid hr; clear hr hq3
  have b1 : (a : Int) < 32 := by omega
  have b2 : (b : Int) < 32 := by omega
  have b3 : (c : Int) < 32 := by omega
  have n1 : IntKind.i64.wrap (-(a : Int)) = -(a : Int) := IntWalk.i64_in _ (by omega)
  have n2 : IntKind.i64.wrap (-(b : Int)) = -(b : Int) := IntWalk.i64_in _ (by omega)
  have b4 : (0 : Int) ≤ (c : Int) := by omega
  have hm : min c 32 = c := by omega
  generalize rr x a = p at *
  generalize rr x b = q at *
  go_enter Tryd.func88, Tryd.ntmps88
  go_wp2_with fail
  refine region_fast [(0, true), (1, true), (2, true), (4, true), (5, true), (6, true), (9, true), (10, true), (11, true), (3, false), (7, false), (8, true), (12, true), (13, false)] [1, 2, 3, 4, 5, 6, 7, 8, 9, 10, 11] 4094 [(512, 1, 0, 0), (1024, 2, 0, 0), (2048, 1024, 2, 2), (4096, 2560, 5, 7), (8192, 1, 0, 0), (16384, 4, 0, 0), (32768, 16384, 32, 32), (65536, 40960, 88, 127), (131072, 69632, 136, 255), (262144, 1, 0, 0), (524288, 8, 0, 0), (1048576, 786432, 1536, 1536), (2097152, 1179648, 2304, 4095), (256, 2097152, 8191, 8191)] (fun w' => True) (by kernel_rfl) (by kernel_rfl) (by kernel_rfl) rfl (by kernel_rfl) (by kernel_rfl) trivial (fun hS => ?_)
  repeat (first
    | (refine plan_read (v := ?_) rfl (fun _ _ _ h => h) rfl hS ?_ ?_; rotate_left 1; (focus (intro w' hS'; go_simp; try rfl)); (simp only [Act.put, List.setIfInBounds_toArray]; dsimp only [List.set_cons_zero, List.set_cons_succ]))
    | (refine plan_skip rfl (fun _ _ _ h => h) rfl hS ?_; (simp only [Act.put, List.setIfInBounds_toArray]; dsimp only [List.set_cons_zero, List.set_cons_succ])))
  refine plan_do (by rfl) (by rfl) (fun K hK => ?_)
  go_simp
  refine (R1.out _).mono ?_
  rintro e w' ⟨rfl, rfl⟩
  refine hK.out _ _ (fun _ => trivial) (fun hS => ?_); clear hK K; replace hS := hS rfl; try (simp only [Act.put, List.setIfInBounds_toArray]; dsimp only [List.set_cons_zero, List.set_cons_succ])
  refine plan_do (by rfl) (by rfl) (fun K hK => ?_)
  go_simp
  refine (R2.out _).mono ?_
  rintro e w' ⟨rfl, rfl⟩
  refine hK.out _ _ (fun _ => trivial) (fun hS => ?_); clear hK K; replace hS := hS rfl; try (simp only [Act.put, List.setIfInBounds_toArray]; dsimp only [List.set_cons_zero, List.set_cons_succ])
  repeat (first
    | (refine plan_read (v := ?_) rfl (fun _ _ _ h => h) rfl hS ?_ ?_; rotate_left 1; (focus (intro w' hS'; go_simp; try rfl)); (simp only [Act.put, List.setIfInBounds_toArray]; dsimp only [List.set_cons_zero, List.set_cons_succ]))
    | (refine plan_skip rfl (fun _ _ _ h => h) rfl hS ?_; (simp only [Act.put, List.setIfInBounds_toArray]; dsimp only [List.set_cons_zero, List.set_cons_succ])))
  refine plan_do (by rfl) (by rfl) (fun K hK => ?_)
  go_simp
  refine hK.out _ _ (fun h => by cases h) (fun _ => ?_); clear hK K; try (simp only [Act.put, List.setIfInBounds_toArray]; dsimp only [List.set_cons_zero, List.set_cons_succ])
  refine plan_nil ?_
  go_wp2_with fail
  go_ret
  exact ⟨ret_int HR.out, (Below.refl _ _).drew⟩

theorem right_any (x a : Nat) (hx : x < 4294967296) (ha1 : 1 ≤ a) (ha : a < 32) (w : World) :
    Calls Tryd.prog 78 #[.int .u32 x, .int .i64 a] w fun e w' => e = .returned (.int .u32 (rr x a : Nat)) ∧ Below w.heap.size w w' := by
  have hxi : (x : Int) < 4294967296 := by omega
  have b1 : (a : Int) < 32 := by omega
  have b2 : (0 : Int) ≤ (a : Int) := by omega
  have h32 : (32 - (a : Int)).toNat = 32 - a := by omega
  have h33 : (0 : Int) ≤ 32 - (a : Int) := by omega
  have hm : min a 32 = a := by omega
  have hm2 : min (32 - a) 32 = 32 - a := by omega
  have hr : bits BinOp.or IntKind.u32 ((x : Int) / 2 ^ a) ((x : Int) * 2 ^ (32 - a) % 4294967296) = (rr x a : Nat) := by
    have e1 : ((x : Int) * 2 ^ (32 - a) % 4294967296) = ((x * 2 ^ (32 - a) % 4294967296 : Nat) : Int) := by simp
    have e2 : ((x : Int) / 2 ^ a) = ((x / 2 ^ a : Nat) : Int) := by simp
    rw [e1, e2, u32_or_nat _ _ (Nat.lt_of_le_of_lt (Nat.div_le_self _ _) hx) (Nat.mod_lt _ (by decide)), rr]
  have HR := Lib.hid hr; clear hr
  have hw : IntKind.i64.wrap (32 - (a : Int)) = 32 - (a : Int) := IntWalk.i64_in _ (by omega)
  go_enter Tryd.func78, Tryd.ntmps78
  go_wp2_with fail
  refine region_fast [(0, true), (1, true), (2, true), (3, true), (4, true), (5, true), (6, true), (7, true), (8, false)] [1, 3, 4, 5, 6] 122 [(32, 1, 0, 0), (64, 2, 0, 0), (128, 96, 3, 3), (256, 1, 0, 0), (512, 2, 0, 0), (1024, 512, 16, 16), (2048, 1280, 40, 56), (4096, 2176, 68, 127), (16, 4096, 255, 255)] (fun w' => True) (by kernel_rfl) (by kernel_rfl) (by kernel_rfl) rfl (by kernel_rfl) (by kernel_rfl) trivial (fun hS => ?_)
  repeat (first
    | (refine plan_read (v := ?_) rfl (fun _ _ _ h => h) rfl hS ?_ ?_; rotate_left 1; (focus (intro w' hS'; go_simp; try rfl)); (simp only [Act.put, List.setIfInBounds_toArray]; dsimp only [List.set_cons_zero, List.set_cons_succ]))
    | (refine plan_skip rfl (fun _ _ _ h => h) rfl hS ?_; (simp only [Act.put, List.setIfInBounds_toArray]; dsimp only [List.set_cons_zero, List.set_cons_succ])))
  refine plan_do (by rfl) (by rfl) (fun K hK => ?_)
  go_simp
  refine hK.out _ _ (fun h => by cases h) (fun _ => ?_); clear hK K; try (simp only [Act.put, List.setIfInBounds_toArray]; dsimp only [List.set_cons_zero, List.set_cons_succ])
  refine plan_nil ?_
  go_wp2_with fail
  go_ret
  exact ⟨ret_int HR.out, (Below.refl _ _).drew⟩
end Go.Proofs.YtldgnckchlbadaaDoor
