/-
  The document's numbers in octets, and a text with its checksum.
-/
import Derived.Test.YtnlghpopjckhiaaCrc
namespace Go.Proofs.Ytnlghpopjckhiaa
set_option maxRecDepth 4000
open Go.RowKit

/-- k octets of a number, the greatest one first. -/
def be (n : Nat) : Nat → List UInt8
  | 0 => []
  | k + 1 => UInt8.ofNat (n / 256 ^ k % 256) :: be n k
theorem length_be (n : Nat) : ∀ k, (be n k).length = k
  | 0 => rfl
  | k + 1 => by rw [be, List.length_cons, length_be n k]
theorem str_cat (a b : List UInt8) : str a ++ str b = str (a ++ b) := by
  apply ByteArray.ext
  simp [str]

theorem number_any (n k : Nat) (hn : n < 18446744073709551616) (hk : k ≤ 8) (w : World) : Calls Try.prog 34 #[.int .u64 n, .int .i64 k] w fun e w' => e = .returned (.string (str (be n k))) ∧ Below w.heap.size w w' := by
  go_enter Try.func34, Try.ntmps34
  go_wp2_with fail
  go_loopw [0, 5, 6] (fun q s i wr => ∃ j : Nat, j ≤ k ∧ i = .int .i64 j ∧ q = .int .u64 (n / 256 ^ j : Nat) ∧ s = .string (str (be n j)) ∧ Below w.heap.size w wr) (fun _ _ i _ => k - (intOf i).toNat)
  case atStart => exact ⟨0, by omega, rfl, by simp, rfl, Below.refl _ _⟩
  case round =>
    obtain ⟨j, hj, rfl, rfl, rfl, hbr⟩ := hrel
    by_cases hlt : j < k
    · have hlti : (j : Int) < (k : Int) := by omega
      obtain ⟨q, hq⟩ : ∃ q, q = n / 256 ^ j := ⟨_, rfl⟩
      have hq64 : q < 18446744073709551616 := by rw [hq]; exact Nat.lt_of_le_of_lt (Nat.div_le_self _ _) hn
      have hnq : n / 256 ^ (j + 1) = q / 256 := by rw [hq, Nat.pow_succ, Nat.div_div_eq_div_mul]
      obtain ⟨b, hb⟩ : ∃ b, b = q % 256 := ⟨_, rfl⟩
      have hb256 : b < 256 := by omega
      have hbm : (q : Int).tmod 256 = (b : Int) := by rw [Int.tmod_eq_emod_of_nonneg (by omega)]; omega
      obtain ⟨d, hd⟩ : ∃ d, d = q / 256 := ⟨_, rfl⟩
      have hdm : (q : Int).tdiv 256 = (d : Int) := by rw [Int.tdiv_eq_ediv_of_nonneg (by omega), hd]; omega
      have hdm2 : (q : Int) / 256 = (d : Int) := by rw [hd]; omega
      have hbe : be n (j + 1) = [UInt8.ofNat b] ++ be n j := by rw [be, ← hq, ← hb]; rfl
      have hS : Sees (wr.alloc (.cells #[.int .u8 (b : Nat)] 5)) 1 (some ⟨wr.heap.size, 0, none⟩) 1 (u8s [UInt8.ofNat b]) := by
        have e : u8s [UInt8.ofNat b] = [.int .u8 (b : Nat)] := by simp [u8s, UInt8.toNat_ofNat', Nat.mod_eq_of_lt hb256]
        rw [e]; exact sees_new wr 5 [.int .u8 (b : Nat)] 1 1 rfl
      have hcv := run_to_string Try.underlying37 Try.underlying5 Try.underlying9 1 hS
      obtain ⟨X, hX⟩ : ∃ X, X = str [UInt8.ofNat b] := ⟨_, rfl⟩
      obtain ⟨Y, hY⟩ : ∃ Y, Y = str (be n j) := ⟨_, rfl⟩
      obtain ⟨Z, hZ⟩ : ∃ Z, Z = str (be n (j + 1)) := ⟨_, rfl⟩
      have hcat : X ++ Y = Z := by rw [hX, hY, hZ, hbe, str_cat]
      have hXs : X.size = 1 := by rw [hX]; simp
      have hYs : Y.size = j := by rw [hY, size_str, length_be]
      have hlen : ¬ 9223372036854775807 < 1 + j := by omega
      rw [← hX] at hcv
      rw [← hY, ← hq]
      have hdw : IntKind.u64.wrap (d : Int) = (d : Int) := by rw [IntKind.wrap_u64]; omega
      have hbw : IntKind.u8.wrap (b : Int) = (b : Int) := by rw [IntKind.wrap_u8']; omega
      have HNQ : Hid (n / 256 ^ (j + 1) = d) := Lib.hid (by rw [hnq, hd])
      have HZ := Lib.hid hZ; have HS := Lib.hid hS
      clear hX hY hZ hbe hS hnq hq hb hd
      go_wp2_with fail
      go_roundw
      case rel => exact ⟨j + 1, by omega, by go_num, by rw [HNQ.out], by rw [← HZ.out], hbr.alloc hbr.size _⟩
      case measure => simp [intOf]; omega
    · obtain rfl : j = k := by omega
      have hge : ¬ ((j : Int) < (j : Int)) := by omega
      go_wp2_with fail
      go_ret
      exact ⟨rfl, hbr⟩

/-- A text with its checksum. -/
def crcw (l : List UInt8) : List UInt8 := l ++ be (crc l) 4
theorem crc_lt (l : List UInt8) : crc l < 4294967296 := xor32 (crs_lt _ _ (by omega)) (by omega)
theorem with_any (l : List UInt8) (hl : l.length ≤ 100000) (w : World) : Calls Try.prog 33 #[.string (str l)] w fun e w' => e = .returned (.string (str (crcw l))) ∧ Below w.heap.size w w' := by
  have h1 := crc_lt l
  have HC := Lib.hid (rcrc_any l hl)
  have HN := Lib.hid (number_any (crc l) 4 (by omega) (by omega))
  have hcat : str l ++ str (be (crc l) 4) = str (crcw l) := str_cat _ _
  have hbl : (be (crc l) 4).length = 4 := length_be _ _
  obtain ⟨X, hX⟩ : ∃ X, X = str l := ⟨_, rfl⟩
  obtain ⟨Y, hY⟩ : ∃ Y, Y = str (be (crc l) 4) := ⟨_, rfl⟩
  obtain ⟨Z, hZ⟩ : ∃ Z, Z = str (crcw l) := ⟨_, rfl⟩
  have hXs : X.size = l.length := by rw [hX, size_str]
  have hYs : Y.size = 4 := by rw [hY, size_str, hbl]
  have hlen : ¬ 9223372036854775807 < l.length + 4 := by omega
  rw [← hX, ← hY, ← hZ] at hcat
  rw [← hX] at HC
  rw [← hY] at HN
  rw [← hX, ← hZ]
  clear hX hY hZ hbl
  generalize crc l = x at *
  have hxw : IntKind.u64.wrap (x : Int) = (x : Int) := by rw [IntKind.wrap_u64]; omega
  go_enter Try.func33, Try.ntmps33
  go_wp2_with fail
  refine (HC.out _).mono ?_
  rintro e w' ⟨rfl, rfl⟩
  go_wp2_with fail
  refine (HN.out _).mono ?_
  rintro e w' ⟨rfl, hb⟩
  go_wp2_with fail
  go_ret
  exact ⟨rfl, hb⟩
end Go.Proofs.Ytnlghpopjckhiaa
