/-
  The checksum of octets: the document's and the code's.
  The document's numbers in octets, and a text with its checksum.
  fault.Wrap.
-/
import Derived.Test.YtldgnckchlbadaaDoorProg
import Derived.Test.YtldgnckchlbadaaDoorGA
import Derived.Laws.BitsAllLaws
namespace Go.Proofs.YtldgnckchlbadaaDoor
set_option maxRecDepth 4000
open Go.RowKit

/-- One step; j steps; octets. -/
def cst (x : Nat) : Nat := x / 2 ^^^ 3988292384 * (x % 2)
def cit (x : Nat) : Nat → Nat
  | 0 => x
  | j + 1 => cst (cit x j)
def crs (l : List UInt8) (x : Nat) : Nat := l.foldl (fun x c => cit (x ^^^ c.toNat) 8) x
def crc (l : List UInt8) : Nat := crs l 4294967295 ^^^ 4294967295
theorem xor32 {a b : Nat} (ha : a < 4294967296) (hb : b < 4294967296) : a ^^^ b < 4294967296 := Nat.xor_lt_two_pow (n := 32) ha hb
theorem cst_lt {x : Nat} (h : x < 4294967296) : cst x < 4294967296 := xor32 (by omega) (by
  have : x % 2 = 0 ∨ x % 2 = 1 := by omega
  rcases this with e | e <;> rw [e] <;> omega)
theorem cit_lt {x : Nat} (h : x < 4294967296) : ∀ j, cit x j < 4294967296
  | 0 => h
  | j + 1 => cst_lt (cit_lt h j)
theorem crs_next (l : List UInt8) (x : Nat) {k : Nat} (h : k < l.length) : crs (l.take (k + 1)) x = cit (crs (l.take k) x ^^^ (l[k]'h).toNat) 8 := by
  rw [List.take_succ_eq_append_getElem h, crs, List.foldl_append]; rfl
theorem crs_lt : ∀ (l : List UInt8) (x : Nat), x < 4294967296 → crs l x < 4294967296
  | [], _, h => h
  | c :: l, x, h => crs_lt l _ (cit_lt (xor32 h (by have := c.toNat_lt; omega)) 8)

theorem rcrc_any (l : List UInt8) (hl : l.length ≤ 100000) (w : World) : Calls Tryd.prog 90 #[.string (str l)] w fun e w' => e = .returned (.int .u32 (crc l : Nat)) ∧ w = w' := by
  go_enter Tryd.func90, Tryd.ntmps90
  go_wp2_with fail
  go_loop [3, 4] (fun x i => ∃ k : Nat, k ≤ l.length ∧ i = .int .i64 k ∧ x = .int .u32 (crs (l.take k) 4294967295 : Nat)) (fun _ i => l.length - (intOf i).toNat)
  case atStart => exact ⟨0, by omega, rfl, rfl⟩
  case round =>
    obtain ⟨k, hk, rfl, rfl⟩ := hrel
    by_cases hlt : k < l.length
    · have hlti : (k : Int) < (l.length : Int) := by omega
      obtain ⟨c, hc⟩ : ∃ c, c = (l[k]'hlt).toNat := ⟨_, rfl⟩
      have hc256 : c < 256 := by rw [hc]; exact UInt8.toNat_lt _
      have hget2 : (l[k]'hlt).toNat = c := hc.symm
      have hget : ∀ h, ((str l)[k]'h).toNat = c := fun h => hc.symm
      have hx := crs_lt (l.take k) 4294967295 (by omega)
      have hn := crs_next l 4294967295 hlt
      rw [← hc] at hn
      have HC := Lib.hid hc; have HN := Lib.hid hn; clear hc hn
      have hcw : IntKind.u32.wrap (c : Int) = (c : Int) := by rw [IntKind.wrap_u32']; omega
      generalize crs (l.take k) 4294967295 = x at *
      have HX := Lib.hid (u32_xor_nat x c hx (by omega))
      have hs := xor32 hx (show c < 4294967296 by omega)
      go_wp2_with fail
      rw [HX.out]
      generalize x ^^^ c = y at *
      go_loop [3, 5, 6] (fun x j _ => ∃ i : Nat, i ≤ 8 ∧ j = .int .i64 i ∧ x = .int .u32 (cit y i : Nat)) (fun _ j _ => 8 - (intOf j).toNat)
      case atStart => exact ⟨0, by omega, rfl, rfl⟩
      case round =>
        obtain ⟨i, hi, rfl, rfl⟩ := hrel
        by_cases hl8 : i < 8
        · have hl8i : (i : Int) < 8 := by omega
          have hz := cit_lt hs i
          have hnx : cit y (i + 1) = cst (cit y i) := rfl
          generalize cit y i = z at *
          obtain ⟨q, hq⟩ : ∃ q, q = z / 2 := ⟨_, rfl⟩
          have hqi : (z : Int) / 2 = (q : Int) := by omega
          have hand : bits BinOp.and IntKind.u32 (z : Int) 1 = ((z % 2 : Nat) : Int) := by
            have := u32_and_nat z 1 hz (by omega)
            rwa [Nat.and_one_is_mod] at this
          have hq2 : q < 2147483648 := by omega
          have HXR := Lib.hid (u32_xor_nat q 3988292384 (by omega) (by omega))
          rcases Nat.mod_two_eq_zero_or_one z with e | e
          · rw [e] at hand
            have hand : bits BinOp.and IntKind.u32 (z : Int) 1 = 0 := hand
            have HNX : Hid (cit y (i + 1) = q) := Lib.hid (by rw [hnx, cst, e, ← hq, Nat.mul_zero, Nat.xor_zero])
            clear hq e hnx
            go_wp2_with fail
            go_round
            case rel => exact ⟨i + 1, by omega, by go_num, by rw [HNX.out]⟩
            case measure => simp [intOf]; omega
          · rw [e] at hand
            have hand : bits BinOp.and IntKind.u32 (z : Int) 1 = 1 := hand
            have HNX : Hid (cit y (i + 1) = q ^^^ 3988292384) := Lib.hid (by rw [hnx, cst, e, ← hq, Nat.mul_one])
            clear hq e hnx
            go_wp2_with fail
            go_round
            case rel => exact ⟨i + 1, by omega, by go_num, by rw [HNX.out, ← HXR.out]; rfl⟩
            case measure => simp [intOf]; omega
        · obtain rfl : i = 8 := by omega
          go_wp2_with fail
          go_round
          case rel => exact ⟨k + 1, by omega, by go_num, by rw [HN.out]⟩
          case measure => simp [intOf]; omega
    · obtain rfl : k = l.length := by omega
      have hge : ¬ ((l.length : Int) < (l.length : Int)) := by omega
      rw [List.take_length]
      have HX := Lib.hid (u32_xor_nat (crs l 4294967295) 4294967295 (crs_lt _ _ (by omega)) (by omega))
      go_wp2_with fail
      go_ret
      exact ⟨by rw [show (4294967295 : Int) = ((4294967295 : Nat) : Int) from rfl, HX.out]; rfl, rfl⟩

theorem sees_u8 {w : World} {A : Option Addr} {n i : Nat} {l : List UInt8} (h : Sees w 1 A n (u8s l)) (hi : i < n) (hl : i < l.length) : ∃ g off, A = some ⟨g, off, none⟩ ∧ w.cell? ⟨g, off + i, none⟩ = some (.int .u8 ((l[i]'hl).toNat : Nat)) := by
  obtain ⟨g, off, e, hc⟩ := h.2 (by omega)
  exact ⟨g, off, e, hc i _ (by simp [u8s, hl])⟩

theorem ccrc_any (l : List UInt8) (gp cp : Nat) (A : Option Addr) (n c : Nat) (w : World) (hl : l.length = n) (hn : n ≤ 100000) (hp : w.cell? ⟨gp, 0, none⟩ = some (.slice A n c)) (hS : Sees w 1 A n (u8s l)) :
    Calls Tryd.prog 67 #[.slice (some ⟨gp, 0, none⟩) 1 cp] w fun e w' => e = .returned (.int .u32 (crc l : Nat)) ∧ w = w' := by
  have HS := Lib.hid hS; clear hS
  go_enter Tryd.func67, Tryd.ntmps67
  go_wp2_with fail
  go_loop [3, 10] (fun x i => (i = .int .i64 0 ∧ x = .int .u32 4294967295) ∨ (i = .int .i64 1 ∧ x = .int .u32 (crs l 4294967295 : Nat))) (fun _ i => 1 - (intOf i).toNat)
  case atStart => exact .inl ⟨rfl, rfl⟩
  case round =>
    rcases hrel with ⟨rfl, rfl⟩ | ⟨rfl, rfl⟩
    · go_wp2_with fail
      go_loop [3, 16] (fun x i => ∃ k : Nat, k ≤ n ∧ i = .int .i64 k ∧ x = .int .u32 (crs (l.take k) 4294967295 : Nat)) (fun _ i => n - (intOf i).toNat)
      case atStart => exact ⟨0, by omega, rfl, rfl⟩
      case round =>
        obtain ⟨k, hk, rfl, rfl⟩ := hrel
        by_cases hlt : k < n
        · have hlti : (k : Int) < (n : Int) := by omega
          obtain ⟨g, off, rfl, hcell⟩ := sees_u8 HS.out hlt (by omega)
          have hnx0 := crs_next l 4294967295 (show k < l.length by omega)
          obtain ⟨d, hd⟩ : ∃ d, d = (l[k]'(by omega)).toNat := ⟨_, rfl⟩
          have hd256 : d < 256 := by rw [hd]; exact UInt8.toNat_lt _
          rw [← hd] at hcell hnx0
          have hx := crs_lt (l.take k) 4294967295 (by omega)
          have HN := Lib.hid hnx0; clear hnx0 hd
          generalize crs (l.take k) 4294967295 = x at *
          have HX := Lib.hid (u32_xor_nat x d hx (by omega))
          have hs := xor32 hx (show d < 4294967296 by omega)
          go_wp2_with fail
          rw [HX.out]
          generalize x ^^^ d = y at *
          go_loop [3, 24] (fun x j => ∃ i : Nat, i ≤ 8 ∧ j = .int .i64 i ∧ x = .int .u32 (cit y i : Nat)) (fun _ j => 8 - (intOf j).toNat)
          case atStart => exact ⟨0, by omega, rfl, rfl⟩
          case round =>
            obtain ⟨i, hi, rfl, rfl⟩ := hrel
            by_cases hl8 : i < 8
            · have hl8i : (i : Int) < 8 := by omega
              have hz := cit_lt hs i
              have hnx : cit y (i + 1) = cst (cit y i) := rfl
              generalize cit y i = z at *
              obtain ⟨q, hq⟩ : ∃ q, q = z / 2 := ⟨_, rfl⟩
              have hqi : (z : Int) / 2 = (q : Int) := by omega
              have hand : bits BinOp.and IntKind.u32 (z : Int) 1 = ((z % 2 : Nat) : Int) := by
                have := u32_and_nat z 1 hz (by omega)
                rwa [Nat.and_one_is_mod] at this
              have hall : bits BinOp.xor IntKind.u32 (q : Int) (bits BinOp.and IntKind.u32 3988292384 (-(bits BinOp.and IntKind.u32 (z : Int) 1) % 4294967296)) = ((cst z : Nat) : Int) := by
                rw [hand]
                rcases Nat.mod_two_eq_zero_or_one z with e | e <;> rw [e]
                · have h0 : bits BinOp.and IntKind.u32 3988292384 (-((0 : Nat) : Int) % 4294967296) = ((0 : Nat) : Int) := by decide +kernel
                  rw [h0, u32_xor_nat q 0 (by omega) (by omega), cst, e, ← hq, Nat.mul_zero]
                · have h1 : bits BinOp.and IntKind.u32 3988292384 (-((1 : Nat) : Int) % 4294967296) = ((3988292384 : Nat) : Int) := by decide +kernel
                  rw [h1, u32_xor_nat q 3988292384 (by omega) (by omega), cst, e, ← hq, Nat.mul_one]
              have HALL := Lib.hid hall; have HNX := Lib.hid hnx; clear hall hnx hand hq
              go_wp2_with fail
              go_round
              case rel => exact ⟨i + 1, by omega, by go_num, by rw [HNX.out, ← HALL.out]⟩
              case measure => simp [intOf]; omega
            · obtain rfl : i = 8 := by omega
              go_wp2_with fail
              go_round
              case rel => exact ⟨k + 1, by omega, by go_num, by rw [HN.out]⟩
              case measure => simp [intOf]; omega
        · obtain rfl : k = n := by omega
          have hge : ¬ ((k : Int) < (k : Int)) := by omega
          rw [List.take_of_length_le (by omega)]
          go_wp2_with fail
          go_round
          case rel => exact .inr ⟨rfl, rfl⟩
          case measure => simp [intOf]
    · have HX := Lib.hid (u32_xor_nat 4294967295 (crs l 4294967295) (by omega) (crs_lt _ _ (by omega)))
      go_wp2_with fail
      go_ret
      refine ⟨ret_int ?_, rfl⟩
      rw [show IntKind.u32.max = ((4294967295 : Nat) : Int) from rfl, HX.out, crc, Nat.xor_comm]
end Go.Proofs.YtldgnckchlbadaaDoor

namespace Go.Proofs.YtldgnckchlbadaaDoor
set_option maxRecDepth 4000
open Go.RowKit

/-- k octets of a number, the greatest one first. -/
def be (n : Nat) : Nat → List UInt8
  | 0 => []
  | k + 1 => UInt8.ofNat (n / 256 ^ k % 256) :: be n k
theorem length_be (n : Nat) : ∀ k, (be n k).length = k
  | 0 => rfl
  | k + 1 => by rw [be, List.length_cons, length_be n k]
theorem str_cat (a b : List UInt8) : str a ++ str b = str (a ++ b) := by
  apply ByteArray.ext
  simp [str]

theorem number_any (n k : Nat) (hn : n < 18446744073709551616) (hk : k ≤ 8) (w : World) : Calls Tryd.prog 86 #[.int .u64 n, .int .i64 k] w fun e w' => e = .returned (.string (str (be n k))) ∧ Below w.heap.size w w' := by
  go_enter Tryd.func86, Tryd.ntmps86
  go_wp2_with fail
  go_loopw [0, 5, 6] (fun q s i wr => ∃ j : Nat, j ≤ k ∧ i = .int .i64 j ∧ q = .int .u64 (n / 256 ^ j : Nat) ∧ s = .string (str (be n j)) ∧ Below w.heap.size w wr) (fun _ _ i _ => k - (intOf i).toNat)
  case atStart => exact ⟨0, by omega, rfl, by simp, rfl, Below.refl _ _⟩
  case round =>
    obtain ⟨j, hj, rfl, rfl, rfl, hbr⟩ := hrel
    by_cases hlt : j < k
    · have hlti : (j : Int) < (k : Int) := by omega
      obtain ⟨q, hq⟩ : ∃ q, q = n / 256 ^ j := ⟨_, rfl⟩
      have hq64 : q < 18446744073709551616 := by rw [hq]; exact Nat.lt_of_le_of_lt (Nat.div_le_self _ _) hn
      have hnq : n / 256 ^ (j + 1) = q / 256 := by rw [hq, Nat.pow_succ, Nat.div_div_eq_div_mul]
      obtain ⟨b, hb⟩ : ∃ b, b = q % 256 := ⟨_, rfl⟩
      have hb256 : b < 256 := by omega
      have hbm : (q : Int).tmod 256 = (b : Int) := by rw [Int.tmod_eq_emod_of_nonneg (by omega)]; omega
      obtain ⟨d, hd⟩ : ∃ d, d = q / 256 := ⟨_, rfl⟩
      have hdm : (q : Int).tdiv 256 = (d : Int) := by rw [Int.tdiv_eq_ediv_of_nonneg (by omega), hd]; omega
      have hdm2 : (q : Int) / 256 = (d : Int) := by rw [hd]; omega
      have hbe : be n (j + 1) = [UInt8.ofNat b] ++ be n j := by rw [be, ← hq, ← hb]; rfl
      have hS : Sees (wr.alloc (.cells #[.int .u8 (b : Nat)] 5)) 1 (some ⟨wr.heap.size, 0, none⟩) 1 (u8s [UInt8.ofNat b]) := by
        have e : u8s [UInt8.ofNat b] = [.int .u8 (b : Nat)] := by simp [u8s, UInt8.toNat_ofNat', Nat.mod_eq_of_lt hb256]
        rw [e]; exact sees_new wr 5 [.int .u8 (b : Nat)] 1 1 rfl
      have hcv := run_to_string Tryd.underlying35 Tryd.underlying5 Tryd.underlying9 1 hS
      obtain ⟨X, hX⟩ : ∃ X, X = str [UInt8.ofNat b] := ⟨_, rfl⟩
      obtain ⟨Y, hY⟩ : ∃ Y, Y = str (be n j) := ⟨_, rfl⟩
      obtain ⟨Z, hZ⟩ : ∃ Z, Z = str (be n (j + 1)) := ⟨_, rfl⟩
      have hcat : X ++ Y = Z := by rw [hX, hY, hZ, hbe, str_cat]
      have hXs : X.size = 1 := by rw [hX]; simp
      have hYs : Y.size = j := by rw [hY, size_str, length_be]
      have hlen : ¬ 9223372036854775807 < 1 + j := by omega
      rw [← hX] at hcv
      rw [← hY, ← hq]
      have hdw : IntKind.u64.wrap (d : Int) = (d : Int) := by rw [IntKind.wrap_u64]; omega
      have hbw : IntKind.u8.wrap (b : Int) = (b : Int) := by rw [IntKind.wrap_u8']; omega
      have HNQ : Hid (n / 256 ^ (j + 1) = d) := Lib.hid (by rw [hnq, hd])
      have HZ := Lib.hid hZ; have HS := Lib.hid hS
      clear hX hY hZ hbe hS hnq hq hb hd
      go_wp2_with fail
      go_roundw
      case rel => exact ⟨j + 1, by omega, by go_num, by rw [HNQ.out], by rw [← HZ.out], hbr.alloc hbr.size _⟩
      case measure => simp [intOf]; omega
    · obtain rfl : j = k := by omega
      have hge : ¬ ((j : Int) < (j : Int)) := by omega
      go_wp2_with fail
      go_ret
      exact ⟨rfl, hbr⟩

/-- A text with its checksum. -/
def crcw (l : List UInt8) : List UInt8 := l ++ be (crc l) 4
theorem crc_lt (l : List UInt8) : crc l < 4294967296 := xor32 (crs_lt _ _ (by omega)) (by omega)
theorem with_any (l : List UInt8) (hl : l.length ≤ 100000) (w : World) : Calls Tryd.prog 85 #[.string (str l)] w fun e w' => e = .returned (.string (str (crcw l))) ∧ Below w.heap.size w w' := by
  have h1 := crc_lt l
  have HC := Lib.hid (rcrc_any l hl)
  have HN := Lib.hid (number_any (crc l) 4 (by omega) (by omega))
  have hcat : str l ++ str (be (crc l) 4) = str (crcw l) := str_cat _ _
  have hbl : (be (crc l) 4).length = 4 := length_be _ _
  obtain ⟨X, hX⟩ : ∃ X, X = str l := ⟨_, rfl⟩
  obtain ⟨Y, hY⟩ : ∃ Y, Y = str (be (crc l) 4) := ⟨_, rfl⟩
  obtain ⟨Z, hZ⟩ : ∃ Z, Z = str (crcw l) := ⟨_, rfl⟩
  have hXs : X.size = l.length := by rw [hX, size_str]
  have hYs : Y.size = 4 := by rw [hY, size_str, hbl]
  have hlen : ¬ 9223372036854775807 < l.length + 4 := by omega
  rw [← hX, ← hY, ← hZ] at hcat
  rw [← hX] at HC
  rw [← hY] at HN
  rw [← hX, ← hZ]
  clear hX hY hZ hbl
  generalize crc l = x at *
  have hxw : IntKind.u64.wrap (x : Int) = (x : Int) := by rw [IntKind.wrap_u64]; omega
  go_enter Tryd.func85, Tryd.ntmps85
  go_wp2_with fail
  refine (HC.out _).mono ?_
  rintro e w' ⟨rfl, rfl⟩
  go_wp2_with fail
  refine (HN.out _).mono ?_
  rintro e w' ⟨rfl, hb⟩
  go_wp2_with fail
  go_ret
  exact ⟨rfl, hb⟩
end Go.Proofs.YtldgnckchlbadaaDoor

namespace Go.Proofs.YtldgnckchlbadaaDoor
set_option maxRecDepth 4000
open Go.RowKit

theorem wrap_ok (op : ByteArray) (k : Int) (w : World) : Calls Tryd.prog 43 #[.string op, .int .i64 k, .int .i64 0] w fun e w' => e = .returned Value.nilIface ∧ w = w' := by
  go_enter Tryd.func43, Tryd.ntmps43
  go_wp2_with fail
  go_ret
  exact ⟨rfl, rfl⟩
theorem wrap_no (op : ByteArray) (k n : Int) (hn : n ≠ 0) (w : World) : Calls Tryd.prog 43 #[.string op, .int .i64 k, .int .i64 n] w fun e w' => e = .returned (.iface 114 (.pointer (some ⟨w.heap.size, 0, none⟩))) ∧ Blk w' w.heap.size 116 #[.string op, .int .i64 k, .iface 26 (.int .i64 n)] ∧ Below w.heap.size w w' := by
  have hn2 : (n == 0) = false := by rw [beq_eq_false_iff_ne]; exact hn
  go_enter Tryd.func43, Tryd.ntmps43
  go_wp2_with fail
  go_ret
  exact ⟨rfl, Blk.new _ _ _, (Below.refl _ _).alloc (Nat.le_refl _) _⟩
end Go.Proofs.YtldgnckchlbadaaDoor
