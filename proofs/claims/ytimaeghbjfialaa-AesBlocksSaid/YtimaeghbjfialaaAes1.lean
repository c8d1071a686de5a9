/-
  The cipher's field: doubling, product, inverse, box: what they answer.
-/
import Derived.Test.YtimaeghbjfialaaProg
import Derived.Test.YtimaeghbjfialaaWords
import Derived.Test.YtimaeghbjfialaaAesM
import Derived.Laws.BitsAllLaws
namespace Go.Proofs.Ytimaeghbjfialaa
open Go.RowKit

theorem ret_u8 {k : IntKind} {a b : Int} (h : a = b) : Ending.returned (.int k a) = .returned (.int k b) := by rw [h]

theorem dbl_bits (a : Nat) (ha : a < 256) : bits BinOp.xor IntKind.u8 ((a : Int) * 2 % 256) (bits BinOp.and IntKind.u8 27 (-((a : Int) / 128) % 256)) = (dbl a : Nat) := by
  have h1 : ((a : Int) * 2 % 256) = ((2 * a % 256 : Nat) : Int) := by omega
  have h2 : bits BinOp.and IntKind.u8 27 (-((a : Int) / 128) % 256) = ((27 * (a / 128) : Nat) : Int) := by
    have hc : a / 128 = 0 ∨ a / 128 = 1 := by omega
    have hd : ((a : Int) / 128) = ((a / 128 : Nat) : Int) := by omega
    rw [hd]
    rcases hc with e | e <;> rw [e] <;> decide +kernel
  rw [h1, h2, u8_xor_nat _ _ (by omega) (by omega)]
  rfl

theorem dbl_any (a : Nat) (ha : a < 256) (w : World) : Calls Try.prog 27 #[.int .u8 a] w fun e w' => e = .returned (.int .u8 (dbl a : Nat)) ∧ w = w' := by
  have hai : (a : Int) < 256 := by omega
  have H := Lib.hid (dbl_bits a ha)
  go_enter Try.func27, Try.ntmps27
  go_wp2_with fail
  go_ret
  exact ⟨ret_u8 H.out, rfl⟩

theorem mul_bits (a b o : Nat) (ha : a < 256) (hb : b < 256) (ho : o < 256) : bits BinOp.xor IntKind.u8 (o : Int) (bits BinOp.and IntKind.u8 (a : Int) (-(bits BinOp.and IntKind.u8 (b : Int) 1) % 256)) = ((o ^^^ a * (b % 2) : Nat) : Int) := by
  have h1 : bits BinOp.and IntKind.u8 (b : Int) 1 = ((b % 2 : Nat) : Int) := by
    have := u8_and_nat b 1 hb (by omega)
    rw [Nat.and_one_is_mod] at this
    exact this
  rw [h1]
  have hc : b % 2 = 0 ∨ b % 2 = 1 := by omega
  rcases hc with e | e <;> rw [e]
  · have h2 : (-((0 : Nat) : Int) % 256) = ((0 : Nat) : Int) := by omega
    rw [h2, u8_and_nat a 0 ha (by omega), Nat.and_zero, u8_xor_nat o 0 ho (by omega), Nat.mul_zero]
  · have h2 : (-((1 : Nat) : Int) % 256) = ((255 : Nat) : Int) := by omega
    have h3 : a &&& 255 = a := by rw [Nat.and_two_pow_sub_one_eq_mod a 8]; exact Nat.mod_eq_of_lt ha
    rw [h2, u8_and_nat a 255 ha (by omega), h3, u8_xor_nat o a ho ha, Nat.mul_one]

theorem mul_any (a b : Nat) (ha : a < 256) (hb : b < 256) (w : World) : Calls Try.prog 14 #[.int .u8 a, .int .u8 b] w fun e w' => e = .returned (.int .u8 (mul a b : Nat)) ∧ w = w' := by
  have hai : (a : Int) < 256 := by omega
  have hbi : (b : Int) < 256 := by omega
  go_enter Try.func14, Try.ntmps14
  go_wp2_with fail
  go_loop [0, 1, 5] (fun u v o => ∃ n x y z : Nat, x < 256 ∧ y < 256 ∧ z < 256 ∧ y < 2 ^ n ∧ n ≤ 8 ∧ u = .int .u8 x ∧ v = .int .u8 y ∧ o = .int .u8 z ∧ mulg n x y z = mul a b) (fun _ v _ => (intOf v).toNat)
  case atStart => exact ⟨8, a, b, 0, ha, hb, by omega, hb, by omega, rfl, rfl, rfl, rfl⟩
  case round =>
    obtain ⟨n, x, y, z, hx, hy, hz, hyn, hn, rfl, rfl, rfl, hm⟩ := hrel
    by_cases h0 : 0 < y
    · have h0i : (0 : Int) < (y : Int) := by omega
      have HB := Lib.hid (mul_bits x y z hx hy hz)
      go_wp2_with fail
      refine (dbl_any x hx _).mono ?_
      rintro e w' ⟨rfl, rfl⟩
      go_wp2_with fail
      obtain ⟨m, rfl⟩ : ∃ m, n = m + 1 := ⟨n - 1, by
        rcases Nat.eq_zero_or_pos n with e | e
        · subst e; omega
        · omega⟩
      go_round
      case rel =>
        refine ⟨m, dbl x, y / 2, z ^^^ x * (y % 2), dbl_lt hx, by omega, xor_lt hz ?_, ?_, by omega, rfl, ?_, ?_, hm⟩
        · have hc : y % 2 = 0 ∨ y % 2 = 1 := by omega
          rcases hc with e | e <;> rw [e] <;> omega
        · rw [Nat.pow_succ] at hyn; omega
        · congr 1
        · rw [HB.out]
      case measure => simp only [intOf]; omega
    · obtain rfl : y = 0 := by omega
      go_wp2_with fail
      go_ret
      exact ⟨ret_u8 (by rw [← hm, mulg_zero]), rfl⟩

theorem inv_any (a : Nat) (ha : a < 256) (w : World) : Calls Try.prog 25 #[.int .u8 a] w fun e w' => e = .returned (.int .u8 (inv a : Nat)) ∧ w = w' := by
  have hai : (a : Int) < 256 := by omega
  have h1 : ∀ n : Nat, n < 256 → bits BinOp.and IntKind.i64 (n : Int) 1 = ((n % 2 : Nat) : Int) := by decide +kernel
  have H1 := Lib.hid h1; clear h1
  go_enter Try.func25, Try.ntmps25
  go_wp2_with fail
  go_loop [0, 3, 4] (fun u o v => ∃ k x z n : Nat, x < 256 ∧ z < 256 ∧ n < 256 ∧ n < 2 ^ k ∧ k ≤ 8 ∧ u = .int .u8 x ∧ o = .int .u8 z ∧ v = .int .i64 n ∧ invg k n x z = inv a) (fun _ _ v => (intOf v).toNat)
  case atStart => exact ⟨8, a, 1, 254, ha, by omega, by omega, by omega, by omega, rfl, rfl, rfl, rfl⟩
  case round =>
    obtain ⟨k, x, z, n, hx, hz, hn, hnk, hk, rfl, rfl, rfl, hm⟩ := hrel
    by_cases h0 : 0 < n
    · have h0i : (0 : Int) < (n : Int) := by omega
      have hni : (n : Int) < 256 := by omega
      have hb := H1.out n hn
      obtain ⟨j, rfl⟩ : ∃ j, k = j + 1 := ⟨k - 1, by
        rcases Nat.eq_zero_or_pos k with e | e
        · subst e; omega
        · omega⟩
      have hstep : n / 2 < 2 ^ j := by rw [Nat.pow_succ] at hnk; omega
      rcases Nat.mod_two_eq_zero_or_one n with e | e
      · rw [e] at hb
        have HM := Lib.hid hm; clear hm
        go_wp2_with (simp only [hb])
        refine (mul_any x x hx hx _).mono ?_
        rintro e w' ⟨rfl, rfl⟩
        go_wp2_with fail
        go_round
        case rel =>
          refine ⟨j, mul x x, z, n / 2, mul_lt x hx, hz, by omega, hstep, by omega, rfl, rfl, ?_, ?_⟩
          · congr 1
          · have := HM.out; rw [invg, e] at this; exact this
        case measure => simp only [intOf]; omega
      · rw [e] at hb
        have HM := Lib.hid hm; clear hm
        go_wp2_with (simp only [hb])
        refine (mul_any z x hz hx _).mono ?_
        rintro e w' ⟨rfl, rfl⟩
        go_wp2_with fail
        refine (mul_any x x hx hx _).mono ?_
        rintro e w' ⟨rfl, rfl⟩
        go_wp2_with fail
        go_round
        case rel =>
          refine ⟨j, mul x x, mul z x, n / 2, mul_lt x hx, mul_lt x hz, by omega, hstep, by omega, rfl, rfl, ?_, ?_⟩
          · congr 1
          · have := HM.out; rw [invg, e] at this; exact this
        case measure => simp only [intOf]; omega
    · obtain rfl : n = 0 := by omega
      go_wp2_with fail
      go_ret
      exact ⟨ret_u8 (by rw [← hm, invg_zero]), rfl⟩

theorem rot_any (x k : Nat) (ha : x < 256) (hk : k < 8) (w : World) : Calls Try.prog 26 #[.int .u8 x, .int .i64 k] w fun e w' => e = .returned (.int .u8 (rotl x k : Nat)) ∧ w = w' := by
  have hai : (x : Int) < 256 := by omega
  have hki : (k : Int) < 8 := by omega
  have h7 : ∀ k, k < 8 → bits BinOp.and IntKind.u64 ((k : Nat) : Int) 7 = (k : Int) := by decide +kernel
  have h7 := h7 k hk
  have hr : bits BinOp.or IntKind.u8 ((x : Int) * 2 ^ k % 256) ((x : Int) / 2 ^ (8 - k)) = (rotl x k : Nat) := by
    have e1 : ((x : Int) * 2 ^ k % 256) = ((x * 2 ^ k % 256 : Nat) : Int) := by simp
    have e2 : ((x : Int) / 2 ^ (8 - k)) = ((x / 2 ^ (8 - k) : Nat) : Int) := by simp
    rw [e1, e2, u8_or_nat _ _ (Nat.mod_lt _ (by decide)) (Nat.lt_of_le_of_lt (Nat.div_le_self _ _) ha)]
    rfl
  have HR := Lib.hid hr; clear hr
  go_enter Try.func26, Try.ntmps26
  go_wp2_with fail
  go_ret
  exact ⟨ret_u8 HR.out, rfl⟩

def affg (x : Nat) : Nat → Nat
  | 0 => 99 ^^^ x
  | n + 1 => affg x n ^^^ rotl x (n + 1)
theorem affg_four (x : Nat) : affg x 4 = aff x := rfl
theorem affg_lt {x : Nat} (hx : x < 256) : ∀ n, affg x n < 256
  | 0 => xor_lt (by omega) hx
  | n + 1 => xor_lt (affg_lt hx n) (rotl_lt _ _ hx)

theorem box_any (c : Nat) (hc : c < 256) (w : World) : Calls Try.prog 11 #[.int .u8 c] w fun e w' => e = .returned (.int .u8 (box c : Nat)) ∧ w = w' := by
  have hci : (c : Int) < 256 := by omega
  have hx := inv_lt hc
  obtain ⟨x, hxe⟩ : ∃ x, x = inv c := ⟨_, rfl⟩
  have hbx : box c = affg x 4 := by rw [hxe]; rfl
  have hI : ∀ w, Calls Try.prog 25 #[.int .u8 c] w fun e w' => e = .returned (.int .u8 (x : Nat)) ∧ w = w' := fun w => by rw [hxe]; exact inv_any c hc w
  rw [← hxe] at hx
  rw [hbx]
  have hxi : (x : Int) < 256 := by omega
  have h0 : bits BinOp.xor IntKind.u8 99 (x : Int) = (affg x 0 : Nat) := u8_xor_nat 99 x (by omega) hx
  have H0 := Lib.hid h0; clear h0
  have HI := Lib.hid hI; clear hI hxe hbx
  go_enter Try.func11, Try.ntmps11
  go_wp2_with fail
  refine (HI.out _).mono ?_
  rintro e w' ⟨rfl, rfl⟩
  go_wp2_with fail
  rw [H0.out]
  go_loop [4, 5] (fun o i => ∃ n : Nat, n ≤ 4 ∧ i = .int .i64 ((n : Int) + 1) ∧ o = .int .u8 (affg x n : Nat)) (fun _ i => 5 - (intOf i).toNat)
  case atStart => exact ⟨0, by omega, rfl, rfl⟩
  case round =>
    obtain ⟨n, hn, rfl, rfl⟩ := hrel
    by_cases h4 : n < 4
    · have hni : (n : Int) + 1 < 5 := by omega
      have hr : ∀ w, Calls Try.prog 26 #[.int .u8 x, .int .i64 ((n : Int) + 1)] w fun e w' => e = .returned (.int .u8 (rotl x (n + 1) : Nat)) ∧ w = w' := fun w => rot_any x (n + 1) hx (by omega) w
      have HX := Lib.hid (u8_xor_nat _ _ (affg_lt hx n) (rotl_lt x (n + 1) hx))
      have HR := Lib.hid hr; clear hr
      go_wp2_with fail
      refine (HR.out _).mono ?_
      rintro e w' ⟨rfl, rfl⟩
      go_wp2_with fail
      rw [HX.out]
      go_round
      case rel => exact ⟨n + 1, by omega, by go_num, rfl⟩
      case measure => simp only [intOf]; omega
    · obtain rfl : n = 4 := by omega
      go_wp2_with fail
      go_ret
      exact ⟨rfl, rfl⟩
end Go.Proofs.Ytimaeghbjfialaa
