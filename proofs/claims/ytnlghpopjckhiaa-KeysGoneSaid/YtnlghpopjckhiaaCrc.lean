/-
  The checksum of octets: the document's and the code's.
-/
import Derived.Test.YtnlghpopjckhiaaProg
import Derived.Test.YtnlghpopjckhiaaWords
import Derived.Laws.BitsAllLaws
namespace Go.Proofs.Ytnlghpopjckhiaa
set_option maxRecDepth 4000
open Go.RowKit

/-- One step; j steps; octets. -/
def cst (x : Nat) : Nat := x / 2 ^^^ 3988292384 * (x % 2)
def cit (x : Nat) : Nat → Nat
  | 0 => x
  | j + 1 => cst (cit x j)
def crs (l : List UInt8) (x : Nat) : Nat := l.foldl (fun x c => cit (x ^^^ c.toNat) 8) x
def crc (l : List UInt8) : Nat := crs l 4294967295 ^^^ 4294967295
theorem xor32 {a b : Nat} (ha : a < 4294967296) (hb : b < 4294967296) : a ^^^ b < 4294967296 := Nat.xor_lt_two_pow (n := 32) ha hb
theorem cst_lt {x : Nat} (h : x < 4294967296) : cst x < 4294967296 := xor32 (by omega) (by
  have : x % 2 = 0 ∨ x % 2 = 1 := by omega
  rcases this with e | e <;> rw [e] <;> omega)
theorem cit_lt {x : Nat} (h : x < 4294967296) : ∀ j, cit x j < 4294967296
  | 0 => h
  | j + 1 => cst_lt (cit_lt h j)
theorem crs_next (l : List UInt8) (x : Nat) {k : Nat} (h : k < l.length) : crs (l.take (k + 1)) x = cit (crs (l.take k) x ^^^ (l[k]'h).toNat) 8 := by
  rw [List.take_succ_eq_append_getElem h, crs, List.foldl_append]; rfl
theorem crs_lt : ∀ (l : List UInt8) (x : Nat), x < 4294967296 → crs l x < 4294967296
  | [], _, h => h
  | c :: l, x, h => crs_lt l _ (cit_lt (xor32 h (by have := c.toNat_lt; omega)) 8)

theorem rcrc_any (l : List UInt8) (hl : l.length ≤ 100000) (w : World) : Calls Try.prog 48 #[.string (str l)] w fun e w' => e = .returned (.int .u32 (crc l : Nat)) ∧ w = w' := by
  go_enter Try.func48, Try.ntmps48
  go_wp2_with fail
  go_loop [3, 4] (fun x i => ∃ k : Nat, k ≤ l.length ∧ i = .int .i64 k ∧ x = .int .u32 (crs (l.take k) 4294967295 : Nat)) (fun _ i => l.length - (intOf i).toNat)
  case atStart => exact ⟨0, by omega, rfl, rfl⟩
  case round =>
    obtain ⟨k, hk, rfl, rfl⟩ := hrel
    by_cases hlt : k < l.length
    · have hlti : (k : Int) < (l.length : Int) := by omega
      obtain ⟨c, hc⟩ : ∃ c, c = (l[k]'hlt).toNat := ⟨_, rfl⟩
      have hc256 : c < 256 := by rw [hc]; exact UInt8.toNat_lt _
      have hget2 : (l[k]'hlt).toNat = c := hc.symm
      have hget : ∀ h, ((str l)[k]'h).toNat = c := fun h => hc.symm
      have hx := crs_lt (l.take k) 4294967295 (by omega)
      have hn := crs_next l 4294967295 hlt
      rw [← hc] at hn
      have HC := Lib.hid hc; have HN := Lib.hid hn; clear hc hn
      have hcw : IntKind.u32.wrap (c : Int) = (c : Int) := by rw [IntKind.wrap_u32']; omega
      generalize crs (l.take k) 4294967295 = x at *
      have HX := Lib.hid (u32_xor_nat x c hx (by omega))
      have hs := xor32 hx (show c < 4294967296 by omega)
      go_wp2_with fail
      rw [HX.out]
      generalize x ^^^ c = y at *
      go_loop [3, 5, 6] (fun x j _ => ∃ i : Nat, i ≤ 8 ∧ j = .int .i64 i ∧ x = .int .u32 (cit y i : Nat)) (fun _ j _ => 8 - (intOf j).toNat)
      case atStart => exact ⟨0, by omega, rfl, rfl⟩
      case round =>
        obtain ⟨i, hi, rfl, rfl⟩ := hrel
        by_cases hl8 : i < 8
        · have hl8i : (i : Int) < 8 := by omega
          have hz := cit_lt hs i
          have hnx : cit y (i + 1) = cst (cit y i) := rfl
          generalize cit y i = z at *
          obtain ⟨q, hq⟩ : ∃ q, q = z / 2 := ⟨_, rfl⟩
          have hqi : (z : Int) / 2 = (q : Int) := by omega
          have hand : bits BinOp.and IntKind.u32 (z : Int) 1 = ((z % 2 : Nat) : Int) := by
            have := u32_and_nat z 1 hz (by omega)
            rwa [Nat.and_one_is_mod] at this
          have hq2 : q < 2147483648 := by omega
          have HXR := Lib.hid (u32_xor_nat q 3988292384 (by omega) (by omega))
          rcases Nat.mod_two_eq_zero_or_one z with e | e
          · rw [e] at hand
            have hand : bits BinOp.and IntKind.u32 (z : Int) 1 = 0 := hand
            have HNX : Hid (cit y (i + 1) = q) := Lib.hid (by rw [hnx, cst, e, ← hq, Nat.mul_zero, Nat.xor_zero])
            clear hq e hnx
            go_wp2_with fail
            go_round
            case rel => exact ⟨i + 1, by omega, by go_num, by rw [HNX.out]⟩
            case measure => simp [intOf]; omega
          · rw [e] at hand
            have hand : bits BinOp.and IntKind.u32 (z : Int) 1 = 1 := hand
            have HNX : Hid (cit y (i + 1) = q ^^^ 3988292384) := Lib.hid (by rw [hnx, cst, e, ← hq, Nat.mul_one])
            clear hq e hnx
            go_wp2_with fail
            go_round
            case rel => exact ⟨i + 1, by omega, by go_num, by rw [HNX.out, ← HXR.out]; rfl⟩
            case measure => simp [intOf]; omega
        · obtain rfl : i = 8 := by omega
          go_wp2_with fail
          go_round
          case rel => exact ⟨k + 1, by omega, by go_num, by rw [HN.out]⟩
          case measure => simp [intOf]; omega
    · obtain rfl : k = l.length := by omega
      have hge : ¬ ((l.length : Int) < (l.length : Int)) := by omega
      rw [List.take_length]
      have HX := Lib.hid (u32_xor_nat (crs l 4294967295) 4294967295 (crs_lt _ _ (by omega)) (by omega))
      go_wp2_with fail
      go_ret
      exact ⟨by rw [show (4294967295 : Int) = ((4294967295 : Nat) : Int) from rfl, HX.out]; rfl, rfl⟩

theorem sees_u8 {w : World} {A : Option Addr} {n i : Nat} {l : List UInt8} (h : Sees w 1 A n (u8s l)) (hi : i < n) (hl : i < l.length) : ∃ g off, A = some ⟨g, off, none⟩ ∧ w.cell? ⟨g, off + i, none⟩ = some (.int .u8 ((l[i]'hl).toNat : Nat)) := by
  obtain ⟨g, off, e, hc⟩ := h.2 (by omega)
  exact ⟨g, off, e, hc i _ (by simp [u8s, hl])⟩

theorem ccrc_any (l : List UInt8) (gp cp : Nat) (A : Option Addr) (n c : Nat) (w : World) (hl : l.length = n) (hn : n ≤ 100000) (hp : w.cell? ⟨gp, 0, none⟩ = some (.slice A n c)) (hS : Sees w 1 A n (u8s l)) :
    Calls Try.prog 54 #[.slice (some ⟨gp, 0, none⟩) 1 cp] w fun e w' => e = .returned (.int .u32 (crc l : Nat)) ∧ w = w' := by
  have HS := Lib.hid hS; clear hS
  go_enter Try.func54, Try.ntmps54
  go_wp2_with fail
  go_loop [3, 10] (fun x i => (i = .int .i64 0 ∧ x = .int .u32 4294967295) ∨ (i = .int .i64 1 ∧ x = .int .u32 (crs l 4294967295 : Nat))) (fun _ i => 1 - (intOf i).toNat)
  case atStart => exact .inl ⟨rfl, rfl⟩
  case round =>
    rcases hrel with ⟨rfl, rfl⟩ | ⟨rfl, rfl⟩
    · go_wp2_with fail
      go_loop [3, 16] (fun x i => ∃ k : Nat, k ≤ n ∧ i = .int .i64 k ∧ x = .int .u32 (crs (l.take k) 4294967295 : Nat)) (fun _ i => n - (intOf i).toNat)
      case atStart => exact ⟨0, by omega, rfl, rfl⟩
      case round =>
        obtain ⟨k, hk, rfl, rfl⟩ := hrel
        by_cases hlt : k < n
        · have hlti : (k : Int) < (n : Int) := by omega
          obtain ⟨g, off, rfl, hcell⟩ := sees_u8 HS.out hlt (by omega)
          have hnx0 := crs_next l 4294967295 (show k < l.length by omega)
          obtain ⟨d, hd⟩ : ∃ d, d = (l[k]'(by omega)).toNat := ⟨_, rfl⟩
          have hd256 : d < 256 := by rw [hd]; exact UInt8.toNat_lt _
          rw [← hd] at hcell hnx0
          have hx := crs_lt (l.take k) 4294967295 (by omega)
          have HN := Lib.hid hnx0; clear hnx0 hd
          generalize crs (l.take k) 4294967295 = x at *
          have HX := Lib.hid (u32_xor_nat x d hx (by omega))
          have hs := xor32 hx (show d < 4294967296 by omega)
          go_wp2_with fail
          rw [HX.out]
          generalize x ^^^ d = y at *
          go_loop [3, 24] (fun x j => ∃ i : Nat, i ≤ 8 ∧ j = .int .i64 i ∧ x = .int .u32 (cit y i : Nat)) (fun _ j => 8 - (intOf j).toNat)
          case atStart => exact ⟨0, by omega, rfl, rfl⟩
          case round =>
            obtain ⟨i, hi, rfl, rfl⟩ := hrel
            by_cases hl8 : i < 8
            · have hl8i : (i : Int) < 8 := by omega
              have hz := cit_lt hs i
              have hnx : cit y (i + 1) = cst (cit y i) := rfl
              generalize cit y i = z at *
              obtain ⟨q, hq⟩ : ∃ q, q = z / 2 := ⟨_, rfl⟩
              have hqi : (z : Int) / 2 = (q : Int) := by omega
              have hand : bits BinOp.and IntKind.u32 (z : Int) 1 = ((z % 2 : Nat) : Int) := by
                have := u32_and_nat z 1 hz (by omega)
                rwa [Nat.and_one_is_mod] at this
              have hall : bits BinOp.xor IntKind.u32 (q : Int) (bits BinOp.and IntKind.u32 3988292384 (-(bits BinOp.and IntKind.u32 (z : Int) 1) % 4294967296)) = ((cst z : Nat) : Int) := by
                rw [hand]
                rcases Nat.mod_two_eq_zero_or_one z with e | e <;> rw [e]
                · have h0 : bits BinOp.and IntKind.u32 3988292384 (-((0 : Nat) : Int) % 4294967296) = ((0 : Nat) : Int) := by decide +kernel
                  rw [h0, u32_xor_nat q 0 (by omega) (by omega), cst, e, ← hq, Nat.mul_zero]
                · have h1 : bits BinOp.and IntKind.u32 3988292384 (-((1 : Nat) : Int) % 4294967296) = ((3988292384 : Nat) : Int) := by decide +kernel
                  rw [h1, u32_xor_nat q 3988292384 (by omega) (by omega), cst, e, ← hq, Nat.mul_one]
              have HALL := Lib.hid hall; have HNX := Lib.hid hnx; clear hall hnx hand hq
              go_wp2_with fail
              go_round
              case rel => exact ⟨i + 1, by omega, by go_num, by rw [HNX.out, ← HALL.out]⟩
              case measure => simp [intOf]; omega
            · obtain rfl : i = 8 := by omega
              go_wp2_with fail
              go_round
              case rel => exact ⟨k + 1, by omega, by go_num, by rw [HN.out]⟩
              case measure => simp [intOf]; omega
        · obtain rfl : k = n := by omega
          have hge : ¬ ((k : Int) < (k : Int)) := by omega
          rw [List.take_of_length_le (by omega)]
          go_wp2_with fail
          go_round
          case rel => exact .inr ⟨rfl, rfl⟩
          case measure => simp [intOf]
    · have HX := Lib.hid (u32_xor_nat 4294967295 (crs l 4294967295) (by omega) (crs_lt _ _ (by omega)))
      go_wp2_with fail
      go_ret
      refine ⟨ret_int ?_, rfl⟩
      rw [show IntKind.u32.max = ((4294967295 : Nat) : Int) from rfl, HX.out, crc, Nat.xor_comm]
end Go.Proofs.Ytnlghpopjckhiaa
