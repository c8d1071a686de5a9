/-
  The document's numerals.
-/
import Derived.Test.YtnfcnjnecankbaaDoorProg
import Derived.Test.YtnfcnjnecankbaaDoorWords
import Derived.BigQuiet
import Derived.Handy
import Derived.OwnWalk
import Derived.Lib.ItoaLen
namespace Go.Proofs.YtnfcnjnecankbaaDoor
set_option maxRecDepth 4000
open Go.RowKit

theorem str_cat' (a b : List UInt8) : str a ++ str b = str (a ++ b) := by
  apply ByteArray.ext
  simp [str]
/-- What is still to come of a numeral. -/
def digs (u : Nat) : List UInt8 := if u = 0 then [] else Lib.decDigits u
theorem digs_step {u : Nat} (h : u ≠ 0) (rest : List UInt8) : digs u ++ rest = digs (u / 10) ++ (UInt8.ofNat (48 + u % 10) :: rest) := by
  unfold digs
  rw [if_neg h]
  by_cases h1 : u < 10
  · rw [if_pos (by omega), Lib.decDigits, dif_pos h1]
    simp
    congr 1
    omega
  · rw [if_neg (by omega), Lib.decDigits, dif_neg h1]
    simp
theorem digit_u8 {d : Nat} (h : d < 10) : u8s [UInt8.ofNat (48 + d)] = [Value.int .u8 (48 + d : Nat)] := by
  simp [u8s, UInt8.toNat_ofNat']
  omega
theorem digs_pos {u : Nat} (h : u ≠ 0) : 1 ≤ (digs u).length := by
  unfold digs
  rw [if_neg h, Lib.decDigits_length]
  exact Lib.nDigits_pos u
theorem digs_len {n : Nat} (h : n ≤ 9223372036854775808) : (digs n).length ≤ 21 := by
  unfold digs
  split
  · simp
  · have := Lib.itoa_length_le (-(n : Int)) (by omega) (by omega)
    unfold Lib.itoa at this
    rw [if_pos (by omega)] at this
    simp at this
    omega
theorem rnum_pos (n : Nat) (h0 : n ≠ 0) (h1 : n ≤ 9223372036854775807) (w : World) : Calls Tryd.prog 23 #[.int .i64 n] w fun e w' => e = .returned (.string (str (digs n))) ∧ Below w.heap.size w w' := by
  have hn0 : ((n : Int) == 0) = false := by simpa using h0
  obtain ⟨N, hN⟩ : ∃ N, digs n = N := ⟨_, rfl⟩
  have HNL := Lib.hid (digs_len (n := n) (by omega))
  rw [hN] at HNL ⊢
  have HN := Lib.hid hN; clear hN
  go_enter Tryd.func23, Tryd.ntmps23
  go_wp2_with fail
  go_loopw [3, 4] (fun s m wr => ∃ (u : Nat) (r : List UInt8), s = .string (str r) ∧ m = .int .i64 u ∧ u ≤ 9223372036854775807 ∧ Hid (digs u ++ r = N) ∧ Below w.heap.size w wr) (fun _ m _ => (intOf m).natAbs)
  case atStart => exact ⟨n, [], rfl, rfl, h1, Lib.hid (by rw [← HN.out]; simp), Below.refl _ _⟩
  case round =>
    obtain ⟨u, r, rfl, rfl, hu, hr, hbr⟩ := hrel
    by_cases hz : u = 0
    · subst hz
      have hrr : r = N := by simpa [digs] using hr.out
      have hlr : ¬ (9223372036854775807 < 1 + r.length) := by have h1 := HNL.out; rw [← hrr] at h1; omega
      have HRR := Lib.hid hrr; clear hrr hr
      go_wp2_with fail
      go_ret
      exact ⟨ret_val (congrArg Value.string (by rw [HRR.out])), hbr⟩
    · have hz0 : ((u : Int) != 0) = true := by simpa using hz
      obtain ⟨b, hb⟩ : ∃ b, b = u % 10 := ⟨_, rfl⟩
      have hb10 : b < 10 := by omega
      have hbm : (u : Int).tmod 10 = (b : Int) := by rw [Int.tmod_eq_emod_of_nonneg (by omega)]; omega
      have hbm2 : (u : Int) % 10 = (b : Int) := by omega
      obtain ⟨d, hd⟩ : ∃ d, d = u / 10 := ⟨_, rfl⟩
      have hdm : (u : Int).tdiv 10 = (d : Int) := by rw [Int.tdiv_eq_ediv_of_nonneg (by omega)]; omega
      have hdm2 : (u : Int) / 10 = (d : Int) := by omega
      have hlen : r.length ≤ 20 := by have := congrArg List.length hr.out; rw [List.length_append] at this; have h2 := HNL.out; have := digs_pos hz; omega
      have hS : Sees (wr.alloc (.cells #[.int .u8 (48 + (b : Int))] 5)) 1 (some ⟨wr.heap.size, 0, none⟩) 1 (u8s [UInt8.ofNat (48 + b)]) := by
        rw [digit_u8 hb10]; exact sees_new wr 5 [.int .u8 (48 + (b : Int))] 1 1 rfl
      have hcv := run_to_string Tryd.underlying72 Tryd.underlying5 Tryd.underlying9 1 hS
      obtain ⟨X, hX⟩ : ∃ X, X = str [UInt8.ofNat (48 + b)] := ⟨_, rfl⟩
      obtain ⟨Y, hY⟩ : ∃ Y, Y = str r := ⟨_, rfl⟩
      obtain ⟨Z, hZ⟩ : ∃ Z, Z = str (UInt8.ofNat (48 + b) :: r) := ⟨_, rfl⟩
      have hcat : X ++ Y = Z := by rw [hX, hY, hZ]; exact str_cat' [_] r
      have hXs : X.size = 1 := by rw [hX]; simp
      have hYs : Y.size = r.length := by rw [hY, size_str]
      have hlenw : ¬ 9223372036854775807 < 1 + r.length := by omega
      rw [← hX] at hcv
      rw [← hY]
      have hbw : IntKind.u8.wrap (48 + (b : Int)) = 48 + (b : Int) := by rw [IntKind.wrap_u8']; omega
      have HST := Lib.hid (show digs d ++ (UInt8.ofNat (48 + b) :: r) = N by rw [hd, hb, ← digs_step hz]; exact hr.out)
      have HD := Lib.hid (show d < u by omega)
      have hdl : d ≤ 9223372036854775807 := by omega
      have HZ := Lib.hid hZ; have HS := Lib.hid hS
      have hu0 : 0 < u := by omega
      clear hX hY hZ hS hb hd hr hz HN
      go_wp2_with fail
      go_roundw
      case rel => exact ⟨d, _, by rw [HZ.out], rfl, hdl, HST, hbr.alloc hbr.size _⟩
      case measure => have := HD.out; simp [intOf]; omega
theorem rnum_neg (n : Nat) (h0 : n ≠ 0) (h1 : n ≤ 9223372036854775808) (w : World) : Calls Tryd.prog 23 #[.int .i64 (-(n : Int))] w fun e w' => e = .returned (.string (str (45 :: digs n))) ∧ Below w.heap.size w w' := by
  have hn0 : (((-(n : Int)) : Int) == 0) = false := by simpa using h0
  obtain ⟨N, hN⟩ : ∃ N, digs n = N := ⟨_, rfl⟩
  have HNL := Lib.hid (digs_len (n := n) (by omega))
  rw [hN] at HNL ⊢
  have HN := Lib.hid hN; clear hN
  go_enter Tryd.func23, Tryd.ntmps23
  go_wp2_with fail
  go_loopw [3, 4] (fun s m wr => ∃ (u : Nat) (r : List UInt8), s = .string (str r) ∧ m = .int .i64 (-(u : Int)) ∧ u ≤ 9223372036854775808 ∧ Hid (digs u ++ r = N) ∧ Below w.heap.size w wr) (fun _ m _ => (intOf m).natAbs)
  case atStart => exact ⟨n, [], rfl, rfl, h1, Lib.hid (by rw [← HN.out]; simp), Below.refl _ _⟩
  case round =>
    obtain ⟨u, r, rfl, rfl, hu, hr, hbr⟩ := hrel
    by_cases hz : u = 0
    · subst hz
      have hrr : r = N := by simpa [digs] using hr.out
      have hlr : ¬ (9223372036854775807 < 1 + r.length) := by have h1 := HNL.out; rw [← hrr] at h1; omega
      have HRR := Lib.hid hrr; clear hrr hr
      go_wp2_with fail
      go_ret
      exact ⟨ret_val (congrArg Value.string (by rw [← HRR.out]; exact str_cat' [45] r)), hbr⟩
    · have hz0 : (((-(u : Int)) : Int) != 0) = true := by simpa using hz
      obtain ⟨b, hb⟩ : ∃ b, b = u % 10 := ⟨_, rfl⟩
      have hb10 : b < 10 := by omega
      have hbm : ((-(u : Int)) : Int).tmod 10 = -(b : Int) := by rw [Int.neg_tmod, Int.tmod_eq_emod_of_nonneg (by omega)]; omega
      have hbm2 : True := trivial
      obtain ⟨d, hd⟩ : ∃ d, d = u / 10 := ⟨_, rfl⟩
      have hdm : ((-(u : Int)) : Int).tdiv 10 = -(d : Int) := by rw [Int.neg_tdiv, Int.tdiv_eq_ediv_of_nonneg (by omega)]; omega
      have hdm2 : True := trivial
      have hlen : r.length ≤ 20 := by have := congrArg List.length hr.out; rw [List.length_append] at this; have h2 := HNL.out; have := digs_pos hz; omega
      have hS : Sees (wr.alloc (.cells #[.int .u8 (48 + (b : Int))] 5)) 1 (some ⟨wr.heap.size, 0, none⟩) 1 (u8s [UInt8.ofNat (48 + b)]) := by
        rw [digit_u8 hb10]; exact sees_new wr 5 [.int .u8 (48 + (b : Int))] 1 1 rfl
      have hcv := run_to_string Tryd.underlying72 Tryd.underlying5 Tryd.underlying9 1 hS
      obtain ⟨X, hX⟩ : ∃ X, X = str [UInt8.ofNat (48 + b)] := ⟨_, rfl⟩
      obtain ⟨Y, hY⟩ : ∃ Y, Y = str r := ⟨_, rfl⟩
      obtain ⟨Z, hZ⟩ : ∃ Z, Z = str (UInt8.ofNat (48 + b) :: r) := ⟨_, rfl⟩
      have hcat : X ++ Y = Z := by rw [hX, hY, hZ]; exact str_cat' [_] r
      have hXs : X.size = 1 := by rw [hX]; simp
      have hYs : Y.size = r.length := by rw [hY, size_str]
      have hlenw : ¬ 9223372036854775807 < 1 + r.length := by omega
      rw [← hX] at hcv
      rw [← hY]
      have hbw : IntKind.u8.wrap (48 + (b : Int)) = 48 + (b : Int) := by rw [IntKind.wrap_u8']; omega
      have hbn : - -(b : Int) = (b : Int) := by omega
      have HST := Lib.hid (show digs d ++ (UInt8.ofNat (48 + b) :: r) = N by rw [hd, hb, ← digs_step hz]; exact hr.out)
      have HD := Lib.hid (show d < u by omega)
      have hdl : d ≤ 9223372036854775808 := by omega
      have HZ := Lib.hid hZ; have HS := Lib.hid hS
      have hu0 : 0 < u := by omega
      clear hX hY hZ hS hb hd hr hz HN
      by_cases hb0 : b = 0
      · subst hb0
        have e0 : -((0 : Nat) : Int) = 0 := rfl
        rw [e0] at hbm
        rw [show (48 : Int) + ((0 : Nat) : Int) = 48 from rfl] at hcv
        clear e0 hbn hbw
        go_wp2_with fail
        go_roundw
        case rel => exact ⟨d, _, by rw [HZ.out], rfl, hdl, HST, hbr.alloc hbr.size _⟩
        case measure => have := HD.out; simp [intOf]; omega
      · have hneg : -(b : Int) < 0 := by omega
        go_wp2_with fail
        go_roundw
        case rel => exact ⟨d, _, by rw [HZ.out], rfl, hdl, HST, hbr.alloc hbr.size _⟩
        case measure => have := HD.out; simp [intOf]; omega
theorem itoa_digs (n : Nat) (h : n ≠ 0) : Lib.itoa n = digs n := by
  unfold Lib.itoa digs
  rw [if_neg (by omega), if_neg h]
  simp
theorem itoa_ndigs (n : Nat) (h : n ≠ 0) : Lib.itoa (-(n : Int)) = 45 :: digs n := by
  unfold Lib.itoa digs
  rw [if_pos (by omega), if_neg h]
  simp
theorem rnum_any (n : Int) (h0 : -9223372036854775808 ≤ n) (h1 : n ≤ 9223372036854775807) (w : World) : Calls Tryd.prog 23 #[.int .i64 n] w fun e w' => e = .returned (.string (str (Lib.itoa n))) ∧ Below w.heap.size w w' := by
  by_cases hz : n = 0
  · subst hz
    have e := Lib.hid (show Lib.itoa 0 = [48] by kernel_rfl)
    go_enter Tryd.func23, Tryd.ntmps23
    go_wp2_with fail
    go_ret
    exact ⟨ret_val (congrArg Value.string (by rw [e.out]; rfl)), Below.refl _ _⟩
  · by_cases hp : 0 ≤ n
    · obtain ⟨m, rfl⟩ : ∃ m : Nat, n = m := ⟨n.toNat, by omega⟩
      rw [itoa_digs m (by omega)]
      exact rnum_pos m (by omega) (by omega) w
    · obtain ⟨m, rfl⟩ : ∃ m : Nat, n = -(m : Int) := ⟨n.natAbs, by omega⟩
      rw [itoa_ndigs m (by omega)]
      exact rnum_neg m (by omega) (by omega) w
end Go.Proofs.YtnfcnjnecankbaaDoor
