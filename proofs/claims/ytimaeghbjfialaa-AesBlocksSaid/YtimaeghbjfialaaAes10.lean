/-
  The document's product and boxes, walked.
-/
import Derived.Test.YtimaeghbjfialaaAesR
import Derived.Test.YtimaeghbjfialaaAes7
namespace Go.Proofs.Ytimaeghbjfialaa
open Go.RowKit

theorem i64_xor_nat (a b : Nat) (ha : a < 2 ^ 32) (hb : b < 2 ^ 32) : bits .xor .i64 (a : Int) (b : Int) = ((a ^^^ b : Nat) : Int) := by
  have hx : a ^^^ b < 2 ^ 32 := Nat.xor_lt_two_pow ha hb
  show IntKind.i64.wrap ((BitVec.ofInt 64 (a : Int) ^^^ BitVec.ofInt 64 (b : Int)).toNat : Int) = _
  rw [BitVec.toNat_xor, BitVec.ofInt_natCast, BitVec.ofInt_natCast, BitVec.toNat_ofNat, BitVec.toNat_ofNat, Nat.mod_eq_of_lt (by omega), Nat.mod_eq_of_lt (by omega), IntKind.wrap_i64]
  omega

theorem rmul_any (a b : Nat) (ha : a < 256) (hb : b < 256) (w : World) : Calls Try.prog 15 #[.int .i64 a, .int .i64 b] w fun e w' => e = .returned (.int .i64 (mul a b : Nat)) ∧ w = w' := by
  rw [← rmul_eq ha hb, rmul]
  obtain ⟨p0, hp0e⟩ : ∃ p0, p0 = rm1 a b 8 := ⟨_, rfl⟩
  rw [← hp0e]
  have hai : (a : Int) < 256 := by omega
  have hbi : (b : Int) < 256 := by omega
  go_enter Try.func15, Try.ntmps15
  go_wp2_with fail
  go_loop [5, 6] (fun p i => ∃ k : Nat, k ≤ 8 ∧ i = .int .i64 k ∧ p = .int .i64 (rm1 a b k : Nat)) (fun _ i => 8 - (intOf i).toNat)
  case atStart => exact ⟨0, by omega, rfl, rfl⟩
  case round =>
    obtain ⟨k, hk, rfl, rfl⟩ := hrel
    by_cases hlt : k < 8
    · have hlti : (k : Int) < 8 := by omega
      obtain ⟨q, hq⟩ : ∃ q, q = b / 2 ^ k := ⟨_, rfl⟩
      obtain ⟨s, hs⟩ : ∃ s, s = a * 2 ^ k := ⟨_, rfl⟩
      have hqi : ((b : Int) / 2 ^ k) = (q : Int) := by rw [hq]; simp
      have hsi : ((a : Int) * 2 ^ k) = (s : Int) := by rw [hs]; simp
      have hs2 : s < 32768 := by
        have : 2 ^ k ≤ 2 ^ 7 := Nat.pow_le_pow_right (by decide) (by omega)
        have := Nat.mul_le_mul (show a ≤ 255 by omega) this
        rw [hs]; exact Nat.lt_of_le_of_lt this (by decide)
      have hsw : IntKind.i64.wrap (s : Int) = (s : Int) := IntWalk.i64_in _ (by omega)
      have hp := rm1_lt b ha k hk
      have HX := Lib.hid (i64_xor_nat (rm1 a b k) s (by omega) (by omega))
      have hn : rm1 a b (k + 1) = rm1 a b k ^^^ s * (q % 2) := by rw [rm1, hs, hq]
      have HN := Lib.hid hn; clear hn hq hs
      generalize rm1 a b k = p at *
      rcases Nat.mod_two_eq_zero_or_one q with e | e
      · have hqm : (q : Int).tmod 2 = 0 := by rw [Int.tmod_eq_emod_of_nonneg (by omega)]; omega
        rw [e, Nat.mul_zero, Nat.xor_zero] at HN
        go_wp2_with fail
        go_round
        case rel => exact ⟨k + 1, by omega, by go_num, by rw [HN.out]⟩
        case measure => simp [intOf]; omega
      · have hqm : (q : Int).tmod 2 = 1 := by rw [Int.tmod_eq_emod_of_nonneg (by omega)]; omega
        rw [e, Nat.mul_one] at HN
        go_wp2_with fail
        go_round
        case rel => exact ⟨k + 1, by omega, by go_num, by rw [HN.out, HX.out]⟩
        case measure => simp [intOf]; omega
    · obtain rfl : k = 8 := by omega
      have hp0 := rm1_lt b ha 8 (by omega)
      rw [← hp0e] at hp0 ⊢
      clear hp0e
      go_wp2_with fail
      go_loop [5, 7] (fun p i => ∃ j : Nat, j ≤ 7 ∧ i = .int .i64 (14 - (j : Int)) ∧ p = .int .i64 (rm2 p0 j : Nat)) (fun _ i => (intOf i).toNat - 7)
      case atStart => exact ⟨0, by omega, rfl, rfl⟩
      case round =>
        obtain ⟨j, hj, rfl, rfl⟩ := hrel
        by_cases hlj : j < 7
        · have hji : (8 : Int) ≤ 14 - (j : Int) := by omega
          have hjn : (14 - (j : Int)).toNat = 14 - j := by omega
          have hj0 : (0 : Int) ≤ 14 - (j : Int) := by omega
          have hj8 : 14 - (j : Int) - 8 = 6 - (j : Int) := by omega
          have hj8n : (6 - (j : Int)).toNat = 6 - j := by omega
          have hj80 : (0 : Int) ≤ 6 - (j : Int) := by omega
          obtain ⟨q, hq⟩ : ∃ q, q = rm2 p0 j / 2 ^ (14 - j) := ⟨_, rfl⟩
          obtain ⟨s, hs⟩ : ∃ s, s = 283 * 2 ^ (6 - j) := ⟨_, rfl⟩
          have hqi : ((rm2 p0 j : Int) / 2 ^ (14 - j)) = (q : Int) := by rw [hq]; simp
          have hsi : ((283 : Int) * 2 ^ (6 - j)) = (s : Int) := by rw [hs]; simp
          have hs2 : s < 32768 := by
            have : 2 ^ (6 - j) ≤ 2 ^ 6 := Nat.pow_le_pow_right (by decide) (by omega)
            rw [hs]; omega
          have hsw : IntKind.i64.wrap (s : Int) = (s : Int) := IntWalk.i64_in _ (by omega)
          have hp := rm2_lt hp0 j
          have HX := Lib.hid (i64_xor_nat (rm2 p0 j) s (by omega) (by omega))
          have hn : rm2 p0 (j + 1) = rm2 p0 j ^^^ s * (q % 2) := by rw [rm2, hs, hq]
          have HN := Lib.hid hn; clear hn hq hs
          generalize rm2 p0 j = p at *
          rcases Nat.mod_two_eq_zero_or_one q with e | e
          · have hqm : (q : Int).tmod 2 = 0 := by rw [Int.tmod_eq_emod_of_nonneg (by omega)]; omega
            rw [e, Nat.mul_zero, Nat.xor_zero] at HN
            go_wp2_with fail
            go_round
            case rel => exact ⟨j + 1, by omega, by go_num, by rw [HN.out]⟩
            case measure => simp only [intOf]; omega
          · have hqm : (q : Int).tmod 2 = 1 := by rw [Int.tmod_eq_emod_of_nonneg (by omega)]; omega
            rw [e, Nat.mul_one] at HN
            go_wp2_with fail
            go_round
            case rel => exact ⟨j + 1, by omega, by go_num, by rw [HN.out, HX.out]⟩
            case measure => simp only [intOf]; omega
        · obtain rfl : j = 7 := by omega
          go_wp2_with fail
          go_ret
          exact ⟨rfl, rfl⟩

set_option maxRecDepth 100000 in
theorem rbox_any (c : Nat) (hc : c < 256) (w : World) : Calls Try.prog 12 #[.int .i64 c] w fun e w' => e = .returned (.int .i64 (box c : Nat)) ∧ w = w' := by
  rw [← otg_box hc]
  obtain ⟨v, hv⟩ : ∃ v, v = inv c := ⟨_, rfl⟩
  have hv2 : v < 256 := by rw [hv]; exact inv_lt hc
  have hvg := ivg_end hc
  have hvs := ivg_start hc
  rw [← hv] at hvg ⊢
  have HVG := Lib.hid hvg; have HVS := Lib.hid hvs; clear hvg hvs hv
  go_enter Try.func12, Try.ntmps12
  go_wp2_with fail
  go_loop [3, 4] (fun o i => ∃ k : Nat, 1 ≤ k ∧ k ≤ 256 ∧ i = .int .i64 k ∧ o = .int .i64 (ivg c k : Nat)) (fun _ i => 256 - (intOf i).toNat)
  case atStart => exact ⟨1, by omega, by omega, rfl, by rw [HVS.out]; rfl⟩
  case round =>
    obtain ⟨k, hk1, hk, rfl, rfl⟩ := hrel
    by_cases hlt : k < 256
    · have hlti : (k : Int) < 256 := by omega
      have MK := Lib.hid (rmul_any c k hc hlt)
      by_cases h1 : mul c k = 1
      · have HN := Lib.hid (ivg_hit hc hlt h1)
        have MK : Hid (∀ w, Calls Try.prog 15 #[.int .i64 c, .int .i64 k] w fun e w' => e = .returned (.int .i64 1) ∧ w = w') := Lib.hid (by have := rmul_any c k hc hlt; rw [h1] at this; exact this)
        clear h1
        generalize ivg c k = o at *
        go_wp2_with fail
        refine (MK.out _).mono ?_
        rintro e w' ⟨rfl, rfl⟩

        go_wp2_with fail
        go_round
        case rel => exact ⟨k + 1, by omega, by omega, by go_num, by rw [HN.out]⟩
        case measure => simp [intOf]; omega
      · have HN := Lib.hid (ivg_miss hc hlt h1)
        generalize ivg c k = o at *
        generalize mul c k = m at *
        have hm1 : ¬ ((m : Int) = 1) := by omega
        go_wp2_with fail
        refine (MK.out _).mono ?_
        rintro e w' ⟨rfl, rfl⟩
        go_wp2_with fail
        go_round
        case rel => exact ⟨k + 1, by omega, by omega, by go_num, by rw [HN.out]⟩
        case measure => simp [intOf]; omega
    · obtain rfl : k = 256 := by omega
      rw [HVG.out]
      go_wp2_with fail
      go_loop [5, 6] (fun o i => ∃ k : Nat, k ≤ 8 ∧ i = .int .i64 k ∧ o = .int .i64 (otg v k : Nat)) (fun _ i => 8 - (intOf i).toNat)
      case atStart => exact ⟨0, by omega, rfl, rfl⟩
      case round =>
        obtain ⟨i, hi, rfl, rfl⟩ := hrel
        by_cases hlt : i < 8
        · have hlti : (i : Int) < 8 := by omega
          have h99 : ((99 : Int) / 2 ^ i).tmod 2 = (btg v i 0 : Nat) := by
            rw [Int.tmod_eq_emod_of_nonneg (Int.ediv_nonneg (by omega) (Int.pow_nonneg (by omega)))]
            show _ = ((99 / 2 ^ i % 2 : Nat) : Int)
            simp
          have hog := otg_lt v i
          have hpw : (2 : Nat) ^ i ≤ 2 ^ 7 := Nat.pow_le_pow_right (by decide) (by omega)
          have HN : Hid (otg v (i + 1) = otg v i + btg v i 8 * 2 ^ i) := Lib.hid rfl
          go_wp2_with fail
          go_loop [7, 8] (fun b j => ∃ k : Nat, k ≤ 8 ∧ j = .int .i64 k ∧ b = .int .i64 (btg v i k : Nat)) (fun _ j => 8 - (intOf j).toNat)
          case atStart => exact ⟨0, by omega, rfl, rfl⟩
          case round =>
            obtain ⟨k, hk, rfl, rfl⟩ := hrel
            by_cases hlk : k < 8
            · have hlki : (k : Int) < 8 := by omega
              have hbl := btg_lt v i k
              obtain ⟨m, hm⟩ : ∃ m, m = (i + k) % 8 := ⟨_, rfl⟩
              have hmi : ((i : Int) + (k : Int)).tmod 8 = (m : Int) := by rw [Int.tmod_eq_emod_of_nonneg (by omega)]; omega
              obtain ⟨q, hq⟩ : ∃ q, q = v / 2 ^ m := ⟨_, rfl⟩
              have hqi : ((v : Int) / 2 ^ m) = (q : Int) := by rw [hq]; simp
              obtain ⟨c2, hc2⟩ : ∃ c2, c2 = q % 2 := ⟨_, rfl⟩
              have hci : (q : Int).tmod 2 = (c2 : Int) := by rw [Int.tmod_eq_emod_of_nonneg (by omega)]; omega
              have HX := Lib.hid (i64_xor_nat (btg v i k) c2 (by omega) (by omega))
              have hn : btg v i (k + 1) = if k = 0 ∨ 4 ≤ k then btg v i k ^^^ c2 else btg v i k := by rw [hc2, hq, hm]; rfl
              have HN2 := Lib.hid hn
              have HM := Lib.hid hm
              have hm64 : min m 64 = m := by omega
              clear hn hm hq hc2
              generalize btg v i k = b at *
              by_cases h0 : k = 0
              · subst h0
                rw [if_pos (.inl rfl)] at HN2
                have hqi0 : ((v : Int) / 2 ^ (i % 8)) = (q : Int) := by rw [← hqi, HM.out, Nat.add_zero]
                have hm640 : min (i % 8) 64 = i % 8 := by omega
                go_wp2_with fail
                go_round
                case rel => exact ⟨0 + 1, by omega, by go_num, by rw [HN2.out, ← HX.out]⟩
                case measure => simp [intOf]
              · have h0i : ¬ ((k : Int) = 0) := by omega
                by_cases h4 : 4 ≤ k
                · have h4i : (4 : Int) ≤ (k : Int) := by omega
                  rw [if_pos (.inr h4)] at HN2
                  go_wp2_with fail
                  go_round
                  case rel => exact ⟨k + 1, by omega, by go_num, by rw [HN2.out, HX.out]⟩
                  case measure => simp [intOf]; omega
                · have h4i : ¬ (4 : Int) ≤ (k : Int) := by omega
                  rw [if_neg (fun h => h.elim h0 h4)] at HN2
                  go_wp2_with fail
                  go_round
                  case rel => exact ⟨k + 1, by omega, by go_num, by rw [HN2.out]⟩
                  case measure => simp [intOf]; omega
            · obtain rfl : k = 8 := by omega
              have hbl := btg_lt v i 8
              obtain ⟨s, hs⟩ : ∃ s, s = btg v i 8 * 2 ^ i := ⟨_, rfl⟩
              have hsi : ((btg v i 8 : Nat) : Int) * 2 ^ i = (s : Int) := by rw [hs]; simp
              have hs2 : s ≤ 128 := by
                rw [hs]
                have : btg v i 8 = 0 ∨ btg v i 8 = 1 := by omega
                rcases this with e | e <;> rw [e] <;> omega
              have hsw : IntKind.i64.wrap (s : Int) = (s : Int) := IntWalk.i64_in _ (by omega)
              rw [← hs] at HN
              clear hs
              generalize btg v i 8 = b at *
              generalize otg v i = o at *
              go_wp2_with fail
              go_round
              case rel => exact ⟨i + 1, by omega, by go_num, by rw [HN.out]; go_num⟩
              case measure => simp [intOf]; omega
        · obtain rfl : i = 8 := by omega
          go_wp2_with fail
          go_ret
          exact ⟨rfl, rfl⟩
end Go.Proofs.Ytimaeghbjfialaa
