/-
  The law AesRings, walked.
-/
import Derived.Test.YtimaeghbjfialaaAes7
import Derived.Test.YtimaeghbjfialaaArrArg
namespace Go.Proofs.Ytimaeghbjfialaa
open Go.RowKit

theorem u8_nat {a : Int} (h : (Lit.int .u8 a).wf = true) : ∃ n : Nat, a = n ∧ n < 256 := by
  have := bounds_u8 h
  exact ⟨a.toNat, by omega, by omega⟩

/-- How many inverses lie ahead of i. -/
def cnt (a i : Nat) : Nat := if a ≠ 0 ∧ inv a < i then 1 else 0

theorem rings_walk (a0 a1 a2 : Int) (w0 : (Lit.int .u8 a0).wf = true) (w1 : (Lit.int .u8 a1).wf = true) (w2 : (Lit.int .u8 a2).wf = true) (w : World) :
    Calls Try.prog 6 #[.int .u8 a0, .int .u8 a1, .int .u8 a2] w fun e w' => e = .returned (.bool true) ∧ Below w.heap.size w w' := by
  obtain ⟨a, rfl, ha⟩ := u8_nat w0
  obtain ⟨b, rfl, hb⟩ := u8_nat w1
  obtain ⟨c, rfl, hc⟩ := u8_nat w2
  clear w0 w1 w2
  obtain ⟨p, hp⟩ : ∃ p, p = mul a b := ⟨_, rfl⟩
  obtain ⟨q, hq⟩ : ∃ q, q = mul b c := ⟨_, rfl⟩
  obtain ⟨r, hr⟩ : ∃ r, r = mul a q := ⟨_, rfl⟩
  obtain ⟨s, hs⟩ : ∃ s, s = b ^^^ c := ⟨_, rfl⟩
  obtain ⟨u, hu⟩ : ∃ u, u = mul a c := ⟨_, rfl⟩
  obtain ⟨t, ht⟩ : ∃ t, t = p ^^^ u := ⟨_, rfl⟩
  have hp2 : p < 256 := by rw [hp]; exact mul_lt _ ha
  have hq2 : q < 256 := by rw [hq]; exact mul_lt _ hb
  have hs2 : s < 256 := by rw [hs]; exact xor_lt hb hc
  have hu2 : u < 256 := by rw [hu]; exact mul_lt _ ha
  have M1 := Lib.hid (mul_any a b ha hb); rw [← hp] at M1
  have M2 := Lib.hid (mul_any b a hb ha); rw [mul_comm hb ha, ← hp] at M2
  have M3 := Lib.hid (mul_any b c hb hc); rw [← hq] at M3
  have M4 := Lib.hid (mul_any a q ha hq2); rw [← hr] at M4
  have M5 := Lib.hid (mul_any p c hp2 hc); rw [hp, ← mul_assoc ha hb hc, ← hq, ← hr, ← hp] at M5
  have M6 := Lib.hid (mul_any a s ha hs2); rw [hs, mul_xr, ← hp, ← hu, ← ht, ← hs] at M6
  have M7 := Lib.hid (mul_any a c ha hc); rw [← hu] at M7
  have M8 := Lib.hid (mul_any a 1 ha (by omega)); rw [mul_one ha] at M8
  have hx1 : bits BinOp.xor IntKind.u8 (b : Int) (c : Int) = (s : Int) := by rw [hs]; exact u8_xor_nat _ _ hb hc
  have hx2 : bits BinOp.xor IntKind.u8 (p : Int) (u : Int) = (t : Int) := by rw [ht]; exact u8_xor_nat _ _ hp2 hu2
  clear hp hq hr hs hu ht
  go_enter Try.func6, Try.ntmps6
  go_wp2_with fail
  refine (awake_any _).mono ?_
  rintro e w1 ⟨rfl, hbel⟩
  go_wp2_with fail
  refine (M1.out _).mono ?_
  rintro e w' ⟨rfl, rfl⟩
  go_wp2_with fail
  refine (M2.out _).mono ?_
  rintro e w' ⟨rfl, rfl⟩
  go_wp2_with fail
  refine (M3.out _).mono ?_
  rintro e w' ⟨rfl, rfl⟩
  go_wp2_with fail
  refine (M4.out _).mono ?_
  rintro e w' ⟨rfl, rfl⟩
  go_wp2_with fail
  refine (M1.out _).mono ?_
  rintro e w' ⟨rfl, rfl⟩
  go_wp2_with fail
  refine (M5.out _).mono ?_
  rintro e w' ⟨rfl, rfl⟩
  go_wp2_with fail
  refine (M6.out _).mono ?_
  rintro e w' ⟨rfl, rfl⟩
  go_wp2_with fail
  refine (M1.out _).mono ?_
  rintro e w' ⟨rfl, rfl⟩
  go_wp2_with fail
  refine (M7.out _).mono ?_
  rintro e w' ⟨rfl, rfl⟩
  go_wp2_with fail
  go_loop [7, 8] (fun n i => ∃ k : Nat, 1 ≤ k ∧ k ≤ 256 ∧ i = .int .i64 k ∧ n = .int .i64 (cnt a k : Nat)) (fun _ i => 256 - (intOf i).toNat)
  case atStart => exact ⟨1, by omega, by omega, rfl, by
    have : cnt a 1 = 0 := if_neg fun ⟨h0, h1⟩ => by have := inv_pos ha h0; omega
    rw [this]; rfl⟩
  case round =>
    obtain ⟨k, hk1, hk, rfl, rfl⟩ := hrel
    by_cases hlt : k < 256
    · have hlti : (k : Int) < 256 := by omega
      have MK := Lib.hid (mul_any a k ha hlt)
      have hw8 : IntKind.u8.wrap (k : Int) = (k : Int) := by rw [IntKind.wrap_u8']; omega
      by_cases h1 : mul a k = 1
      · obtain ⟨h0, rfl⟩ := (inv_only ha hlt).1 h1
        rw [h1] at MK
        have hc0 : cnt a (inv a) = 0 := if_neg fun h => Nat.lt_irrefl _ h.2
        have hc1 : cnt a (inv a + 1) = 1 := if_pos ⟨h0, Nat.lt_succ_self _⟩
        rw [hc0]
        have HC1 := Lib.hid hc1; clear hc0 hc1 h1
        generalize inv a = k at *
        go_wp2_with fail
        refine (MK.out _).mono ?_
        rintro e w' ⟨rfl, rfl⟩
        go_wp2_with fail
        go_round
        case rel => exact ⟨k + 1, by omega, by omega, by go_num, by rw [HC1.out]; rfl⟩
        case measure => simp [intOf]; omega
      · have hcn : cnt a (k + 1) = cnt a k := by
          unfold cnt
          by_cases h0 : a ≠ 0
          · by_cases h2 : inv a < k
            · rw [if_pos ⟨h0, by omega⟩, if_pos ⟨h0, h2⟩]
            · rw [if_neg (fun h => by
                have h3 : k = inv a := by omega
                exact h1 ((inv_only ha hlt).2 ⟨h0, h3⟩)), if_neg (fun h => h2 h.2)]
          · rw [if_neg (fun h => h0 h.1), if_neg (fun h => h0 h.1)]
        have HCN := Lib.hid hcn; clear hcn
        generalize cnt a k = n0 at *
        generalize mul a k = v at *
        have hv1 : ((v : Int) == 1) = false := by simp; omega
        go_wp2_with fail
        refine (MK.out _).mono ?_
        rintro e w' ⟨rfl, rfl⟩
        go_wp2_with fail
        go_round
        case rel => exact ⟨k + 1, by omega, by omega, by go_num, by rw [HCN.out]⟩
        case measure => simp [intOf]; omega
    · obtain rfl : k = 256 := by omega
      by_cases h0 : a = 0
      · have hcz : cnt a 256 = 0 := if_neg fun h => h.1 h0
        rw [hcz]
        subst h0
        go_wp2_with fail
        refine (M8.out _).mono ?_
        rintro e w' ⟨rfl, rfl⟩
        go_wp2_with fail
        go_ret
        exact ⟨rfl, hbel⟩
      · have hcz : cnt a 256 = 1 := if_pos ⟨h0, inv_lt ha⟩
        rw [hcz]
        have hai : ((a : Int) != 0) = true := by simp; omega
        go_wp2_with fail
        refine (M8.out _).mono ?_
        rintro e w' ⟨rfl, rfl⟩
        go_wp2_with fail
        go_ret
        exact ⟨rfl, hbel⟩
end Go.Proofs.Ytimaeghbjfialaa
