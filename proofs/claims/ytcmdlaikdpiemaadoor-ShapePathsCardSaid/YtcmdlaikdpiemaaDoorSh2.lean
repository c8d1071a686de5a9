/-
  The references of one number; Path; the example.
-/
import Derived.Test.YtcmdlaikdpiemaaDoorSh1
import Derived.OwnWalk
namespace Go.Proofs.YtcmdlaikdpiemaaDoor
open Go.RowKit

theorem info_int : (Tryd.prog.info? 3).map (fun i => (i.zero, i.size, i.bytes)) = some (some (.int .i64 0), 1, 8) := by kernel_rfl
def i64s (l : List Int) : List Value := l.map (Value.int .i64)
@[simp] theorem length_i64s (l : List Int) : (i64s l).length = l.length := by simp [i64s]
theorem i64s_one (l : List Int) : ∀ u ∈ i64s l, u.oneCell' = true := by
  intro u hu
  obtain ⟨c, _, rfl⟩ := List.mem_map.1 hu
  rfl
theorem i64s_append (a b : List Int) : i64s (a ++ b) = i64s a ++ i64s b := by simp [i64s]

theorem rfits_any (n : Int) (w : World) : Calls Tryd.prog 14 #[.int .i64 n] w fun e w' => e = .returned (.bool (fits n)) ∧ w = w' := by
  by_cases h : n = 1 ∨ n = 2 ∨ n = 4 ∨ n = 8 ∨ n = 16 ∨ n = 32
  · rcases h with rfl | rfl | rfl | rfl | rfl | rfl
    all_goals
      go_enter Tryd.func14, Tryd.ntmps14
      go_wp2_with fail
      go_ret
      exact ⟨rfl, rfl⟩
  · have hf : fits n = false := by unfold fits; exact decide_eq_false h
    rw [hf]
    have e1 : (n == 1) = false := by simp; omega
    have e2 : (n == 2) = false := by simp; omega
    have e3 : (n == 4) = false := by simp; omega
    have e4 : (n == 8) = false := by simp; omega
    have e5 : (n == 16) = false := by simp; omega
    have e6 : (n == 32) = false := by simp; omega
    clear hf h
    go_enter Tryd.func14, Tryd.ntmps14
    go_wp2_with fail
    go_ret
    exact ⟨rfl, rfl⟩

theorem lv_step_all : ((List.range 63).all fun n => lv n == if n % 2 = 1 then 1 + lv (n / 2) else 0) = true := by decide +kernel
theorem lv_step (n : Nat) (h : n ≤ 62) : lv n = if n % 2 = 1 then 1 + lv (n / 2) else 0 := by
  have := List.all_eq_true.1 lv_step_all n (List.mem_range.2 (by omega))
  exact beq_iff_eq.1 this

theorem rlevel_any (n : Int) (w : World) : Calls Tryd.prog 13 #[.int .i64 n] w fun e w' => e = .returned (.int .i64 (level n)) ∧ w = w' := by
  by_cases h : 0 ≤ n ∧ n ≤ 62
  · have hl : level n = (lv n.toNat : Nat) := if_pos h
    rw [hl]
    obtain ⟨N, rfl⟩ := Int.eq_ofNat_of_zero_le h.1
    rw [Int.toNat_natCast]
    have hN : N ≤ 62 := by omega
    have hlv := lv_fin ⟨N, by omega⟩
    simp only at hlv
    obtain ⟨L, hL⟩ : ∃ L, L = lv N := ⟨_, rfl⟩
    rw [← hL] at hlv ⊢
    have HL := Lib.hid hL; clear hL hl h
    have hNi : (N : Int) ≤ 62 := by omega
    go_enter Tryd.func13, Tryd.ntmps13
    go_wp2_with fail
    go_loop [3, 4] (fun k n => ∃ a m : Nat, k = .int .i64 a ∧ n = .int .i64 m ∧ m ≤ 62 ∧ L = a + lv m) (fun _ n => (intOf n).toNat)
    case atStart => exact ⟨0, N, rfl, rfl, hN, by rw [HL.out]; omega⟩
    case round =>
      obtain ⟨a, m, rfl, rfl, hm, hLm⟩ := hrel
      have hs := lv_step m hm
      by_cases ho : m % 2 = 1
      · rw [if_pos ho] at hs
        have e1 : (((m : Nat) : Int) % 2 == 1) = true := by simp; omega
        have ha : a ≤ 5 := by omega
        have HS := Lib.hid hs; clear hs
        have HLM := Lib.hid hLm; clear hLm
        go_wp2_with fail
        go_round
        case rel => exact ⟨a + 1, m / 2, by go_num, by go_num, by omega, by have := HLM.out; have := HS.out; omega⟩
        case measure => simp [intOf]; omega
      · rw [if_neg ho] at hs
        have e1 : (((m : Nat) : Int) % 2 == 1) = false := by simp; omega
        have hLa : L = a := by omega
        have HLA := Lib.hid hLa
        clear hs hLm hLa
        go_wp2_with fail
        go_ret
        exact ⟨ret_int (by have := HLA.out; omega), rfl⟩
  · have hl : level n = 0 := if_neg h
    rw [hl]
    by_cases h0 : n < 0
    · go_enter Tryd.func13, Tryd.ntmps13
      go_wp2_with fail
      go_ret
      exact ⟨rfl, rfl⟩
    · have h1 : 62 < n := by omega
      go_enter Tryd.func13, Tryd.ntmps13
      go_wp2_with fail
      go_ret
      exact ⟨rfl, rfl⟩

def kids (n : Int) : Int × Int × Bool := if level n = 0 then (0, 0, false) else (n - half n, n + half n, true)
theorem rkids_any (n : Int) (w : World) : Calls Tryd.prog 9 #[.int .i64 n] w fun e w' => e = .returned (.tuple #[.int .i64 (kids n).1, .int .i64 (kids n).2.1, .bool (kids n).2.2]) ∧ w = w' := by
  have hL := rlevel_any n w
  unfold kids
  by_cases h : level n = 0
  · rw [if_pos h]
    rw [h] at hL
    have HL := Lib.hid hL; clear hL h
    go_enter Tryd.func9, Tryd.ntmps9
    go_wp2_with fail
    refine HL.out.mono ?_
    rintro e w' ⟨rfl, rfl⟩
    go_wp2_with fail
    go_ret3
    exact ⟨rfl, rfl⟩
  · rw [if_neg h]
    have hn : 0 ≤ n ∧ n ≤ 62 := by
      by_cases hn : 0 ≤ n ∧ n ≤ 62
      · exact hn
      · exact absurd (if_neg hn) h
    have hn1 := hn.1
    have hn2 := hn.2
    have hc := level_cases n
    have hh : half n = 2 ^ ((level n).toNat - 1) := by
      unfold half
      rcases hc with e | e | e | e | e | e <;> rw [e]
      · exact absurd e h
      all_goals rfl
    rw [hh]
    obtain ⟨K, hK, hK1, hK5⟩ : ∃ K : Nat, level n = (K : Int) ∧ 1 ≤ K ∧ K ≤ 5 := by
      rcases hc with e | e | e | e | e | e
      · exact absurd e h
      · exact ⟨1, e, by omega, by omega⟩
      · exact ⟨2, e, by omega, by omega⟩
      · exact ⟨3, e, by omega, by omega⟩
      · exact ⟨4, e, by omega, by omega⟩
      · exact ⟨5, e, by omega, by omega⟩
    rw [hK] at hL ⊢
    rw [Int.toNat_natCast]
    have hK0 : ((K : Int) == 0) = false := by simp; omega
    have HL := Lib.hid hL; clear hL h hn hc hh hK
    go_enter Tryd.func9, Tryd.ntmps9
    go_wp2_with fail
    refine HL.out.mono ?_
    rintro e w' ⟨rfl, rfl⟩
    go_wp2_with fail
    go_loop [5, 6] (fun d i => ∃ k : Nat, 1 ≤ k ∧ k ≤ K ∧ i = .int .i64 k ∧ d = .int .i64 ((2 ^ (k - 1) : Nat) : Int)) (fun _ i => K - (intOf i).toNat)
    case atStart => exact ⟨1, by omega, by omega, rfl, rfl⟩
    case round =>
      obtain ⟨k, hk1, hk2, rfl, rfl⟩ := hrel
      have hp : 2 ^ (k - 1) ≤ 16 := by
        have : 2 ^ (k - 1) ≤ 2 ^ 4 := Nat.pow_le_pow_right (by omega) (by omega)
        omega
      obtain ⟨p, hpe⟩ : ∃ p, p = 2 ^ (k - 1) := ⟨_, rfl⟩
      rw [← hpe] at hp ⊢
      have HPE := Lib.hid hpe; clear hpe
      by_cases hlt : k < K
      · have hlti : (k : Int) < (K : Int) := by omega
        go_wp2_with fail
        refine HL.out.mono ?_
        rintro e w' ⟨rfl, rfl⟩
        go_wp2_with fail
        go_round
        case rel =>
          refine ⟨k + 1, by omega, by omega, by go_num, ?_⟩
          have : 2 ^ (k + 1 - 1) = 2 ^ (k - 1) * 2 := by rw [← Nat.pow_succ]; congr 1; omega
          rw [this, ← HPE.out]
          go_num
        case measure => simp [intOf]; omega
      · have hge : ¬ (k : Int) < (K : Int) := by omega
        obtain rfl : k = K := by omega
        go_wp2_with fail
        refine HL.out.mono ?_
        rintro e w' ⟨rfl, rfl⟩
        go_wp2_with fail
        go_ret3
        have e : ((p : Nat) : Int) = 2 ^ (k - 1) := by rw [HPE.out]; simp
        rw [← e]
        exact ⟨rfl, rfl⟩

def hf (m : Nat) : Nat := 2 ^ lv m / 2
def lowE (m : Nat) : Nat := m - (2 ^ lv m - 1)
def highE (m : Nat) : Nat := m + (2 ^ lv m - 1)
theorem ends_all : ((List.range 63).all fun m => lv m == 0 || (Nat.ble (hf m) m && lowE (m - hf m) == lowE m && lv (m - hf m) + 1 == lv m && Nat.ble (m + hf m) 62 && highE (m + hf m) == highE m && lv (m + hf m) + 1 == lv m)) = true := by decide +kernel
theorem ends (m : Nat) (h : m ≤ 62) (hl : lv m ≠ 0) : hf m ≤ m ∧ lowE (m - hf m) = lowE m ∧ lv (m - hf m) + 1 = lv m ∧ m + hf m ≤ 62 ∧ highE (m + hf m) = highE m ∧ lv (m + hf m) + 1 = lv m := by
  have := List.all_eq_true.1 ends_all m (List.mem_range.2 (by omega))
  simp only [Bool.or_eq_true, Bool.and_eq_true, beq_iff_eq, Nat.ble_eq] at this
  rcases this with h0 | ⟨⟨⟨⟨⟨h1, h2⟩, h3⟩, h4⟩, h5⟩, h6⟩
  · exact absurd h0 hl
  · exact ⟨h1, h2, h3, h4, h5, h6⟩
theorem ends_zero (m : Nat) (hl : lv m = 0) : lowE m = m ∧ highE m = m := by simp [lowE, highE, hl]
theorem level_nat (m : Nat) (h : m ≤ 62) : level (m : Int) = (lv m : Nat) := by
  unfold level; rw [if_pos (by omega), Int.toNat_natCast]
theorem half_nat (m : Nat) (h : m ≤ 62) : half (m : Int) = (hf m : Nat) := by
  unfold half hf; rw [level_nat m h, Int.toNat_natCast]; simp
theorem kids_nat (m : Nat) (h : m ≤ 62) (hl : lv m ≠ 0) : kids (m : Int) = (((m - hf m : Nat) : Int), ((m + hf m : Nat) : Int), true) := by
  have := (ends m h hl).1
  unfold kids
  rw [level_nat m h, half_nat m h, if_neg (by omega), show ((m - hf m : Nat) : Int) = (m : Int) - (hf m : Int) by omega]
  rfl
theorem under_nat (m : Nat) (h : m ≤ 62) : under (m : Int) = (((lowE m / 2 : Nat) : Int), ((highE m / 2 : Nat) : Int)) := by
  unfold under
  rw [if_pos (by omega), level_nat m h, Int.toNat_natCast]
  have hf := of_decide_eq_true (List.all_eq_true.1 under_fin m (List.mem_range.2 (by omega)))
  have h1 : (1 : Nat) ≤ 2 ^ lv m := Nat.one_le_two_pow
  have e : ((2 : Int) ^ lv m) = ((2 ^ lv m : Nat) : Int) := by simp
  rw [e] at hf ⊢
  unfold lowE highE
  generalize 2 ^ lv m = p at *
  simp only [Prod.mk.injEq]
  omega

theorem runder_any (n : Int) (w : World) : Calls Tryd.prog 11 #[.int .i64 n] w fun e w' => e = .returned (.tuple #[.int .i64 (under n).1, .int .i64 (under n).2]) ∧ w = w' := by
  by_cases h : 0 ≤ n ∧ n ≤ 62
  · obtain ⟨N, rfl⟩ := Int.eq_ofNat_of_zero_le h.1
    have hN : N ≤ 62 := by omega
    have hNi : (N : Int) ≤ 62 := by omega
    rw [under_nat N hN]
    obtain ⟨P, hP⟩ : ∃ P, P = lowE N := ⟨_, rfl⟩
    obtain ⟨R, hR⟩ : ∃ R, R = highE N := ⟨_, rfl⟩
    rw [← hP, ← hR]
    have HP := Lib.hid hP; clear hP
    have HR := Lib.hid hR; clear hR h
    go_enter Tryd.func11, Tryd.ntmps11
    go_wp2_with fail
    go_loop [4] (fun l => ∃ m : Nat, l = .int .i64 m ∧ m ≤ 62 ∧ lowE m = P) (fun l => lv (intOf l).toNat)
    case atStart => exact ⟨N, rfl, hN, HP.out.symm⟩
    case round =>
      obtain ⟨m, rfl, hm, hE⟩ := hrel
      have HE := Lib.hid hE; clear hE
      have hrl := rlevel_any (m : Int)
      rw [level_nat m hm] at hrl
      have HRL := Lib.hid hrl; clear hrl
      by_cases h0 : lv m = 0
      · have h00 : ¬ (0 : Int) < ((lv m : Nat) : Int) := by omega
        have hd : decide (0 < lv m) = false := by simp [h0]
        have hz := (ends_zero m h0).1
        have HZ := Lib.hid hz; clear hz
        have H0 := Lib.hid h0; clear h0
        go_wp2_with fail
        refine (HRL.out _).mono ?_
        rintro e w' ⟨rfl, rfl⟩
        go_wp2_with fail
        clear HRL H0
        have hPm : m = P := by rw [← HZ.out]; exact HE.out
        clear HZ HE h00
        go_loop [5] (fun l => ∃ m : Nat, l = .int .i64 m ∧ m ≤ 62 ∧ highE m = R) (fun l => lv (intOf l).toNat)
        case atStart => exact ⟨N, rfl, hN, HR.out.symm⟩
        case round =>
          obtain ⟨q, rfl, hq, hE⟩ := hrel
          have HE := Lib.hid hE; clear hE
          have HPM := Lib.hid hPm; clear hPm
          have hrl := rlevel_any (q : Int)
          rw [level_nat q hq] at hrl
          have HRL := Lib.hid hrl; clear hrl
          by_cases h0 : lv q = 0
          · have h00 : ¬ (0 : Int) < ((lv q : Nat) : Int) := by omega
            have hz := (ends_zero q h0).2
            have HZ := Lib.hid hz; clear hz
            have H0 := Lib.hid h0; clear h0
            go_wp2_with fail
            refine (HRL.out _).mono ?_
            rintro e w' ⟨rfl, rfl⟩
            go_wp2_with fail
            go_ret2
            exact ⟨ret_ints (by rw [← HPM.out]; simp) (by rw [← HE.out, HZ.out]; simp), rfl⟩
          · have h00 : (0 : Int) < ((lv q : Nat) : Int) := by omega
            have he := ends q hq h0
            have hk := rkids_any (q : Int)
            rw [kids_nat q hq h0] at hk
            have HK := Lib.hid hk; clear hk
            have HEN := Lib.hid he; clear he
            clear h0
            go_wp2_with fail
            refine (HRL.out _).mono ?_
            rintro e w' ⟨rfl, rfl⟩
            go_wp2_with fail
            refine (HK.out _).mono ?_
            rintro e w' ⟨rfl, rfl⟩
            go_wp2_with fail
            go_round
            case rel => exact ⟨q + hf q, by go_num, HEN.out.2.2.2.1, by rw [HEN.out.2.2.2.2.1]; exact HE.out⟩
            case measure =>
              have := HEN.out.2.2.2.2.2
              show lv ((q : Int) + (hf q : Int)).toNat < lv ((q : Int)).toNat
              rw [Int.toNat_natCast, show ((q : Int) + (hf q : Int)).toNat = q + hf q by omega]
              omega
      · have h00 : (0 : Int) < ((lv m : Nat) : Int) := by omega
        have he := ends m hm h0
        have hk := rkids_any (m : Int)
        rw [kids_nat m hm h0] at hk
        have HK := Lib.hid hk; clear hk
        have HEN := Lib.hid he; clear he
        clear h0
        go_wp2_with fail
        refine (HRL.out _).mono ?_
        rintro e w' ⟨rfl, rfl⟩
        go_wp2_with fail
        refine (HK.out _).mono ?_
        rintro e w' ⟨rfl, rfl⟩
        go_wp2_with fail
        go_round
        case rel => exact ⟨m - hf m, by first | rfl | go_num, by omega, by rw [HEN.out.2.1]; exact HE.out⟩
        case measure =>
          have h1 := HEN.out.2.2.1
          show lv (((m - hf m : Nat) : Int)).toNat < lv ((m : Int)).toNat
          rw [Int.toNat_natCast, Int.toNat_natCast]
          omega
  · have hu : under n = (0, -1) := by unfold under; exact if_neg h
    rw [hu]
    by_cases h0 : n < 0
    · go_enter Tryd.func11, Tryd.ntmps11
      go_wp2_with fail
      go_ret2
      exact ⟨rfl, rfl⟩
    · have h1 : 62 < n := by omega
      go_enter Tryd.func11, Tryd.ntmps11
      go_wp2_with fail
      go_ret2
      exact ⟨rfl, rfl⟩
end Go.Proofs.YtcmdlaikdpiemaaDoor
