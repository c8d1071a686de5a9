/-
  The document's hexadecimal text of a string.
-/
import Derived.Test.YtimaeghbjfialaaProg
import Derived.Test.YtimaeghbjfialaaWords
import Derived.Test.YtimaeghbjfialaaRegion
import Derived.Laws.BitsAllLaws
namespace Go.Proofs.Ytimaeghbjfialaa
open Go.RowKit

def dig (a : Nat) : UInt8 := UInt8.ofNat (if a < 10 then 48 + a else 87 + a)
def hexOf (l : List UInt8) : List UInt8 := l.flatMap fun x => [dig (x.toNat / 16), dig (x.toNat % 16)]

theorem str_app (a b : List UInt8) : str a ++ str b = str (a ++ b) := by
  apply ByteArray.ext
  simp [str]
theorem length_hexOf (l : List UInt8) : (hexOf l).length = 2 * l.length := by
  induction l with
  | nil => rfl
  | cons x l ih => simp [hexOf] at ih ⊢; omega
theorem hexOf_take (l : List UInt8) {k : Nat} (h : k < l.length) : hexOf (l.take (k + 1)) = hexOf (l.take k) ++ [dig ((l[k]'h).toNat / 16)] ++ [dig ((l[k]'h).toNat % 16)] := by
  rw [List.take_succ_eq_append_getElem h, hexOf, List.flatMap_append]
  simp [hexOf]
theorem dig_cut : ∀ a, a < 16 → (ByteArray.mk #[48, 49, 50, 51, 52, 53, 54, 55, 56, 57, 97, 98, 99, 100, 101, 102]).extract a (a + 1) = str [dig a] := by decide +kernel

theorem hex_any (l : List UInt8) (hl : l.length ≤ 1000) (w : World) : Calls Try.prog 16 #[.string (str l)] w fun e w' => e = .returned (.string (str (hexOf l))) ∧ Below w.heap.size w w' := by
  go_enter Try.func16, Try.ntmps16
  go_wp2_with fail
  go_loopw [3, 4] (fun s i wr => ∃ k : Nat, k ≤ l.length ∧ i = .int .i64 k ∧ s = .string (str (hexOf (l.take k))) ∧ Below w.heap.size w wr) (fun _ i _ => l.length - (intOf i).toNat)
  case atStart => exact ⟨0, by omega, rfl, rfl, Below.refl _ _⟩
  case round =>
    obtain ⟨k, hk, rfl, rfl, hbel⟩ := hrel
    by_cases hlt : k < l.length
    · have hlti : (k : Int) < (l.length : Int) := by omega
      obtain ⟨x, hx⟩ : ∃ x, x = (l[k]'hlt).toNat := ⟨_, rfl⟩
      have hx256 : x < 256 := by rw [hx]; exact UInt8.toNat_lt _
      have hget2 : (l[k]'hlt).toNat = x := hx.symm
      have hget : ∀ h, ((str l)[k]'h).toNat = x := fun h => hx.symm
      have HX := Lib.hid hx; clear hx
      obtain ⟨q, hq⟩ : ∃ q, q = x / 16 := ⟨_, rfl⟩
      obtain ⟨r, hr⟩ : ∃ r, r = x % 16 := ⟨_, rfl⟩
      have hq16 : q < 16 := by omega
      have hr16 : r < 16 := by omega
      have HQ := Lib.hid hq; have HR := Lib.hid hr
      have hqi : IntKind.u8.wrap ((x : Int) / 16) = (q : Int) := by rw [IntKind.wrap_u8']; omega
      have hri : IntKind.u8.wrap ((x : Int) % 16) = (r : Int) := by rw [IntKind.wrap_u8']; omega
      have hri' : (x : Int).tmod 16 = (r : Int) := by rw [Int.tmod_eq_emod_of_nonneg (by omega)]; omega
      have hq1 : IntKind.u8.wrap ((q : Int) + 1) = (q : Int) + 1 := by rw [IntKind.wrap_u8']; omega
      have hr1 : IntKind.u8.wrap ((r : Int) + 1) = (r : Int) + 1 := by rw [IntKind.wrap_u8']; omega
      have hr2 : IntKind.u8.wrap (r : Int) = (r : Int) := by rw [IntKind.wrap_u8']; omega
      have hqn : ((q : Int) + 1).toNat = q + 1 := by omega
      have hrn : ((r : Int) + 1).toNat = r + 1 := by omega
      have hb1 : (q : Int) + 1 ≤ 16 := by omega
      have hb2 : (r : Int) + 1 ≤ 16 := by omega
      have hb3 : (0 : Int) ≤ (q : Int) + 1 := by omega
      have hb4 : (0 : Int) ≤ (r : Int) + 1 := by omega
      have hb5 : (q : Int) ≤ 16 := by omega
      have hb6 : (r : Int) ≤ 16 := by omega
      have hb7 : (q : Int) ≤ (q : Int) + 1 := by omega
      have hb8 : (r : Int) ≤ (r : Int) + 1 := by omega
      have hxq := dig_cut q hq16
      have hxr := dig_cut r hr16
      obtain ⟨A, hA⟩ : ∃ A, A = hexOf (l.take k) := ⟨_, rfl⟩
      have hAl : A.length = 2 * k := by rw [hA, length_hexOf, List.length_take]; omega
      obtain ⟨B, hB⟩ : ∃ B, B = A ++ [dig q] := ⟨_, rfl⟩
      have hBl : B.length = 2 * k + 1 := by rw [hB, List.length_append, hAl]; rfl
      obtain ⟨C, hC⟩ : ∃ C, C = B ++ [dig r] := ⟨_, rfl⟩
      have hc1 : str A ++ str [dig q] = str B := by rw [hB, str_app]
      have hc2 : str B ++ str [dig r] = str C := by rw [hC, str_app]
      have hCC : hexOf (l.take (k + 1)) = C := by rw [hC, hB, hA, hexOf_take l hlt, hq, hr, HX.out]
      have HCC := Lib.hid hCC; clear hCC
      rw [← hA]
      clear hA hB hC
      have hl1 : ¬ 9223372036854775807 < A.length + 1 := by omega
      have hl2 : ¬ 9223372036854775807 < B.length + 1 := by omega
      clear hAl hBl
      clear hq hr
      go_wp2_with fail
      refine region_plan [(0, true), (1, true), (2, true), (3, true), (4, true), (5, true), (6, true), (7, true), (8, true), (9, true), (10, true), (11, true), (12, true), (13, true), (14, true), (15, true), (16, true), (17, true), (18, true), (19, true), (20, true), (21, true), (22, true), (23, true)] [1, 2, 3, 4, 5, 6, 7, 8, 9, 10, 12, 13, 14, 15, 16, 17, 18, 19, 20, 21] (fun w' => True) (by kernel_rfl) (by kernel_rfl) rfl (by kernel_rfl) trivial (fun hS => ?_)
      repeat (first
        | (refine plan_read (v := ?_) rfl (fun _ _ _ h => h) rfl hS ?_ ?_; rotate_left 1; (focus (intro w' hS'; go_simp; try rfl)); simp only [Act.put, List.setIfInBounds_toArray, List.set_cons_zero, List.set_cons_succ])
        | (refine plan_skip rfl (fun _ _ _ h => h) rfl hS ?_; simp only [Act.put, List.setIfInBounds_toArray, List.set_cons_zero, List.set_cons_succ]))
      refine plan_nil ?_
      go_wp2_with fail
      go_roundw
      case rel => exact ⟨k + 1, by omega, by go_num, by rw [HCC.out], hbel.drew⟩
      case measure => simp [intOf]; omega
    · obtain rfl : k = l.length := by omega
      have hge : ¬ ((l.length : Int) < (l.length : Int)) := by omega
      rw [List.take_length]
      go_wp2_with fail
      go_ret
      exact ⟨rfl, hbel⟩
end Go.Proofs.Ytimaeghbjfialaa
