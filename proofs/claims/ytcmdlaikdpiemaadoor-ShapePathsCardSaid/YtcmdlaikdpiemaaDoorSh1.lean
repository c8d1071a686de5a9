/-
  The shape's functions of one or two numbers: what they answer.
-/
import Derived.Test.YtcmdlaikdpiemaaDoorProg
import Derived.Test.YtcmdlaikdpiemaaDoorWords
import Derived.BigQuiet
namespace Go.Proofs.YtcmdlaikdpiemaaDoor
open Go.RowKit

def tabL : List Nat := [0, 1, 56, 2, 57, 49, 28, 3, 61, 58, 42, 50, 38, 29, 17, 4, 62, 47, 59, 36, 45, 43, 51, 22, 53, 39, 33, 30, 24, 18, 12, 5, 63, 55, 48, 27, 60, 41, 37, 16, 46, 35, 44, 21, 52, 32, 23, 11, 54, 26, 40, 15, 34, 20, 31, 10, 25, 14, 19, 9, 13, 8, 7, 6]
/-- The table of the library's, as it lies. -/
def Tab (w : World) : Prop := ∀ j, j < 64 → w.cell? ⟨1, j, none⟩ = some (.int .u8 ((tabL.getD j 0 : Nat) : Int))
theorem Tab.below {w w' : World} {B : Nat} (h : Tab w) (hb : Below B w w') (hB : 1 < B) : Tab w' := fun j hj => (hb.cell (p := ⟨1, j, none⟩) hB).trans (h j hj)

/-- How many ones end a number. -/
def lvF : Nat → Nat → Nat
  | 0, _ => 0
  | f + 1, n => if n % 2 = 1 then 1 + lvF f (n / 2) else 0
def lv (n : Nat) : Nat := lvF 8 n
def tzE (x : Int) : Int := IntKind.u64.wrap (bits BinOp.and IntKind.u64 x (IntKind.u64.wrap (-x)) * 285870213051353865) / 288230376151711744
def tzI (n : Nat) : Nat := (tzE ((n : Int) + 1)).toNat
theorem tz_all : ((List.range 63).all fun n => (tzE ((n : Int) + 1) == ((tzI n : Nat) : Int)) && (Nat.blt (tzI n) 64) && (tabL.getD (tzI n) 0 == lv n)) = true := by decide +kernel
theorem tz_fin (n : Fin 63) : tzE (((n : Nat) : Int) + 1) = ((tzI n : Nat) : Int) ∧ tzI n < 64 ∧ tabL.getD (tzI n) 0 = lv n := by
  have := List.all_eq_true.1 tz_all n (List.mem_range.2 n.2)
  simp only [Bool.and_eq_true, beq_iff_eq, Nat.blt_eq] at this
  exact ⟨this.1.1, this.1.2, this.2⟩

def level (n : Int) : Int := if 0 ≤ n ∧ n ≤ 62 then (lv n.toNat : Nat) else 0
theorem lv_fin : ∀ n : Fin 63, lv n ≤ 5 := by decide +kernel
theorem level_cases (n : Int) : level n = 0 ∨ level n = 1 ∨ level n = 2 ∨ level n = 3 ∨ level n = 4 ∨ level n = 5 := by
  unfold level
  split
  · have := lv_fin ⟨n.toNat, by omega⟩
    simp only at this
    omega
  · exact .inl rfl
def half (n : Int) : Int := 2 ^ (level n).toNat / 2

theorem tz64_core (x : Int) (idx k : Nat) (w : World) (hx0 : (x == 0) = false)
    (key : IntKind.u64.wrap (bits BinOp.and IntKind.u64 x (IntKind.u64.wrap (-x)) * 285870213051353865) / 288230376151711744 = (idx : Int))
    (hi : idx < 64) (hk : k < 64) (hcell : w.cell? ⟨1, idx, none⟩ = some (.int .u8 k)) :
    Calls Tryd.prog 29 #[.int .u64 x] w fun e w' => e = .returned (.int .i64 k) ∧ w = w' := by
  have hlt : ((idx : Nat) : Int) < 64 := by omega
  go_enter Tryd.func29, Tryd.ntmps29
  go_wp2_with (simp only [key])
  go_ret
  exact ⟨rfl, rfl⟩

theorem tz64_any (n : Nat) (w : World) (h2 : n ≤ 62) (hT : Tab w) :
    Calls Tryd.prog 29 #[.int .u64 ((n : Int) + 1)] w fun e w' => e = .returned (.int .i64 ((lv n : Nat) : Int)) ∧ w = w' := by
  obtain ⟨e1, e2, e3⟩ := tz_fin ⟨n, by omega⟩
  simp only at e1 e2 e3
  have hc := hT (tzI n) e2
  rw [e3] at hc
  have hlv := lv_fin ⟨n, by omega⟩
  simp only at hlv
  exact tz64_core _ (tzI n) (lv n) w (by simp; omega) e1 e2 (by omega) hc

theorem tz_any (n : Nat) (w : World) (h2 : n ≤ 62) (hT : Tab w) :
    Calls Tryd.prog 26 #[.int .u64 ((n : Int) + 1)] w fun e w' => e = .returned (.int .i64 ((lv n : Nat) : Int)) ∧ w = w' := by
  have h := tz64_any n w h2 hT
  have H := Lib.hid h; clear h
  go_enter Tryd.func26, Tryd.ntmps26
  go_wp2_with fail
  refine H.out.mono ?_
  rintro e w' ⟨rfl, rfl⟩
  go_wp2_with fail
  go_ret
  exact ⟨rfl, rfl⟩

theorem is_any (n : Int) (w : World) : Calls Tryd.prog 25 #[.int .i64 n] w fun e w' => e = .returned (.bool (decide (0 ≤ n ∧ n ≤ 62))) ∧ w = w' := by
  by_cases h0 : 0 ≤ n
  · go_enter Tryd.func25, Tryd.ntmps25
    go_wp2
    go_ret
    exact ⟨ret_bool (bool_iff (by show decide (n < 63) = true ↔ _; rw [decide_eq_true_eq]; simp; omega)), rfl⟩
  · go_enter Tryd.func25, Tryd.ntmps25
    go_wp2
    go_ret
    exact ⟨ret_bool (by simp; omega), rfl⟩

theorem level_any (n : Int) (w : World) (hT : Tab w) : Calls Tryd.prog 12 #[.int .i64 n] w fun e w' => e = .returned (.int .i64 (level n)) ∧ w = w' := by
  have hi := is_any n w
  by_cases h : 0 ≤ n ∧ n ≤ 62
  · rw [decide_eq_true h] at hi
    have hl : level n = (lv n.toNat : Nat) := if_pos h
    rw [hl]
    obtain ⟨m, rfl⟩ := Int.eq_ofNat_of_zero_le h.1
    rw [Int.toNat_natCast]
    have ht := tz_any m w (by omega) hT
    have hw : IntKind.u64.wrap ((m : Int) + 1) = (m : Int) + 1 := IntWalk.u64_in _ (by omega)
    have hm : (m : Int) ≤ 62 := h.2
    have HI := Lib.hid hi; clear hi
    have HT := Lib.hid ht; clear ht
    clear h hl
    go_enter Tryd.func12, Tryd.ntmps12
    go_wp2_with fail
    refine HI.out.mono ?_
    rintro e w' ⟨rfl, rfl⟩
    go_wp2_with fail
    refine HT.out.mono ?_
    rintro e w' ⟨rfl, rfl⟩
    go_wp2_with fail
    go_ret
    exact ⟨rfl, rfl⟩
  · rw [decide_eq_false h] at hi
    have hl : level n = 0 := if_neg h
    rw [hl]
    have HI := Lib.hid hi; clear hi
    clear h hl
    go_enter Tryd.func12, Tryd.ntmps12
    go_wp2_with fail
    refine HI.out.mono ?_
    rintro e w' ⟨rfl, rfl⟩
    go_wp2_with fail
    go_ret
    exact ⟨rfl, rfl⟩

theorem half_any (n : Int) (w : World) (hT : Tab w) : Calls Tryd.prog 24 #[.int .i64 n] w fun e w' => e = .returned (.int .i64 (half n)) ∧ w = w' := by
  have h := level_any n w hT
  unfold half
  rcases level_cases n with e | e | e | e | e | e
  all_goals
    rw [e] at h ⊢
    have H := Lib.hid h; clear h
    clear e
    go_enter Tryd.func24, Tryd.ntmps24
    go_wp2_with fail
    refine H.out.mono ?_
    rintro e w' ⟨rfl, rfl⟩
    go_wp2_with fail
    go_ret
    exact ⟨rfl, rfl⟩

theorem half_in (n : Int) : 0 ≤ half n ∧ half n ≤ 16 ∧ (half n ≠ 0 → 0 ≤ n ∧ n ≤ 62) := by
  unfold half
  refine ⟨?_, ?_, ?_⟩
  · rcases level_cases n with e | e | e | e | e | e <;> rw [e] <;> decide
  · rcases level_cases n with e | e | e | e | e | e <;> rw [e] <;> decide
  · intro h
    by_cases hn : 0 ≤ n ∧ n ≤ 62
    · exact hn
    · exact absurd (by unfold level; rw [if_neg hn]; rfl) h

def left (n : Int) : Int × Bool := if half n = 0 then (0, false) else (n - half n, true)
def right (n : Int) : Int × Bool := if half n = 0 then (0, false) else (n + half n, true)

theorem left_any (n : Int) (w : World) (hT : Tab w) : Calls Tryd.prog 7 #[.int .i64 n] w fun e w' => e = .returned (.tuple #[.int .i64 (left n).1, .bool (left n).2]) ∧ w = w' := by
  have h := half_any n w hT
  have hi := half_in n
  unfold left
  obtain ⟨k, hk⟩ : ∃ k, k = half n := ⟨_, rfl⟩
  rw [← hk] at h hi ⊢
  have H := Lib.hid h; clear h
  clear hk hT
  by_cases h0 : k = 0
  · subst h0
    go_enter Tryd.func7, Tryd.ntmps7
    go_wp2_with fail
    refine H.out.mono ?_
    rintro e w' ⟨rfl, rfl⟩
    go_wp2_with fail
    go_ret2
    exact ⟨rfl, rfl⟩
  · have hn := hi.2.2 h0
    rw [if_neg h0]
    have h0' : (k == 0) = false := by simpa using h0
    have hk0 := hi.1
    have hk1 := hi.2.1
    have hn1 := hn.1
    have hn2 := hn.2
    clear h0 hi hn
    go_enter Tryd.func7, Tryd.ntmps7
    go_wp2_with fail
    refine H.out.mono ?_
    rintro e w' ⟨rfl, rfl⟩
    go_wp2_with fail
    refine H.out.mono ?_
    rintro e w' ⟨rfl, rfl⟩
    go_wp2_with fail
    go_ret2
    exact ⟨rfl, rfl⟩

theorem right_any (n : Int) (w : World) (hT : Tab w) : Calls Tryd.prog 8 #[.int .i64 n] w fun e w' => e = .returned (.tuple #[.int .i64 (right n).1, .bool (right n).2]) ∧ w = w' := by
  have h := half_any n w hT
  have hi := half_in n
  unfold right
  obtain ⟨k, hk⟩ : ∃ k, k = half n := ⟨_, rfl⟩
  rw [← hk] at h hi ⊢
  have H := Lib.hid h; clear h
  clear hk hT
  by_cases h0 : k = 0
  · subst h0
    go_enter Tryd.func8, Tryd.ntmps8
    go_wp2_with fail
    refine H.out.mono ?_
    rintro e w' ⟨rfl, rfl⟩
    go_wp2_with fail
    go_ret2
    exact ⟨rfl, rfl⟩
  · have hn := hi.2.2 h0
    rw [if_neg h0]
    have h0' : (k == 0) = false := by simpa using h0
    have hk0 := hi.1
    have hk1 := hi.2.1
    have hn1 := hn.1
    have hn2 := hn.2
    clear h0 hi hn
    go_enter Tryd.func8, Tryd.ntmps8
    go_wp2_with fail
    refine H.out.mono ?_
    rintro e w' ⟨rfl, rfl⟩
    go_wp2_with fail
    refine H.out.mono ?_
    rintro e w' ⟨rfl, rfl⟩
    go_wp2_with fail
    go_ret2
    exact ⟨rfl, rfl⟩

def under (n : Int) : Int × Int := if 0 ≤ n ∧ n ≤ 62 then ((n - (2 ^ (level n).toNat - 1)) / 2, (n + (2 ^ (level n).toNat - 1)) / 2) else (0, -1)
theorem under_fin : ((List.range 63).all fun n => decide ((2 : Int) ^ (lv n) - 1 ≤ (n : Int))) = true := by decide +kernel
theorem under_any (n : Int) (w : World) (hT : Tab w) : Calls Tryd.prog 10 #[.int .i64 n] w fun e w' => e = .returned (.tuple #[.int .i64 (under n).1, .int .i64 (under n).2]) ∧ w = w' := by
  have hi := is_any n w
  unfold under
  by_cases h : 0 ≤ n ∧ n ≤ 62
  · rw [if_pos h]
    rw [decide_eq_true h] at hi
    have hf := of_decide_eq_true (List.all_eq_true.1 under_fin n.toNat (List.mem_range.2 (by omega)))
    have hl : (level n).toNat = lv n.toNat := by unfold level; rw [if_pos h]; rfl
    rw [← hl] at hf
    have h1 := h.1
    have h2 := h.2
    have hL := level_any n w hT
    have hf' : 2 ^ (level n).toNat - 1 ≤ n := by omega
    clear hf hl h hT
    have HI := Lib.hid hi; clear hi
    rcases level_cases n with e | e | e | e | e | e
    all_goals
      rw [e] at hL hf' ⊢
      have HL := Lib.hid hL; clear hL
      clear e
      simp only [Int.reduceToNat, Int.reducePow, Int.reduceSub, Int.toNat_zero, Int.toNat_one, Int.pow_zero, Int.sub_self] at hf'
      go_enter Tryd.func10, Tryd.ntmps10
      go_wp2_with fail
      refine HI.out.mono ?_
      rintro e w' ⟨rfl, rfl⟩
      go_wp2_with fail
      refine HL.out.mono ?_
      rintro e w' ⟨rfl, rfl⟩
      go_wp2_with fail
      go_ret2
      exact ⟨ret_ints (by simp) (by simp), rfl⟩
  · rw [if_neg h]
    rw [decide_eq_false h] at hi
    have HI := Lib.hid hi; clear hi
    clear h hT
    go_enter Tryd.func10, Tryd.ntmps10
    go_wp2_with fail
    refine HI.out.mono ?_
    rintro e w' ⟨rfl, rfl⟩
    go_wp2_with fail
    go_ret2
    exact ⟨rfl, rfl⟩

def fits (n : Int) : Bool := decide (n = 1 ∨ n = 2 ∨ n = 4 ∨ n = 8 ∨ n = 16 ∨ n = 32)
theorem fits_all : ((List.range 33).all fun k => k == 0 || ((bits BinOp.and IntKind.i64 (k : Int) ((k : Int) - 1) == 0) == fits k)) = true := by decide +kernel
theorem fits_bit (k : Nat) (h1 : 1 ≤ k) (h2 : k ≤ 32) : (bits BinOp.and IntKind.i64 (k : Int) ((k : Int) - 1) == 0) = fits k := by
  have := List.all_eq_true.1 fits_all k (List.mem_range.2 (by omega))
  simp only [Bool.or_eq_true, beq_iff_eq] at this
  rcases this with h | h
  · omega
  · exact h

theorem fits_any (n : Int) (w : World) : Calls Tryd.prog 15 #[.int .i64 n] w fun e w' => e = .returned (.bool (fits n)) ∧ w = w' := by
  by_cases h1 : 1 ≤ n
  · by_cases h2 : n ≤ 32
    · obtain ⟨k, rfl⟩ := Int.eq_ofNat_of_zero_le (by omega : 0 ≤ n)
      have hb := fits_bit k (by omega) (by omega)
      obtain ⟨b, hbe⟩ : ∃ b, b = fits (k : Int) := ⟨_, rfl⟩
      rw [← hbe] at hb ⊢
      clear hbe
      go_enter Tryd.func15, Tryd.ntmps15
      go_wp2_with fail
      go_ret
      exact ⟨rfl, rfl⟩
    · have hf : fits n = false := by unfold fits; exact decide_eq_false (by omega)
      rw [hf]
      clear hf
      go_enter Tryd.func15, Tryd.ntmps15
      go_wp2_with fail
      go_ret
      exact ⟨rfl, rfl⟩
  · have hf : fits n = false := by unfold fits; exact decide_eq_false (by omega)
    rw [hf]
    clear hf
    go_enter Tryd.func15, Tryd.ntmps15
    go_wp2_with fail
    go_ret
    exact ⟨rfl, rfl⟩

def width (n : Int) : Int := if fits n = true then 2 * n - 1 else 0
theorem width_any (n : Int) (w : World) : Calls Tryd.prog 16 #[.int .i64 n] w fun e w' => e = .returned (.int .i64 (width n)) ∧ w = w' := by
  have h := fits_any n w
  unfold width
  by_cases hf : fits n = true
  · rw [if_pos hf]
    rw [hf] at h
    have hn : 1 ≤ n ∧ n ≤ 32 := by have := of_decide_eq_true hf; omega
    have H := Lib.hid h; clear h hf
    go_enter Tryd.func16, Tryd.ntmps16
    go_wp2_with fail
    refine H.out.mono ?_
    rintro e w' ⟨rfl, rfl⟩
    go_wp2_with fail
    go_ret
    exact ⟨rfl, rfl⟩
  · have hf' : fits n = false := by simpa using hf
    rw [if_neg hf]
    rw [hf'] at h
    have H := Lib.hid h; clear h hf hf'
    go_enter Tryd.func16, Tryd.ntmps16
    go_wp2_with fail
    refine H.out.mono ?_
    rintro e w' ⟨rfl, rfl⟩
    go_wp2_with fail
    go_ret
    exact ⟨rfl, rfl⟩

def above (n l : Int) : Int × Bool :=
  if n < 0 ∨ width l ≤ n ∨ n = l - 1 then (0, false)
  else if bits BinOp.and IntKind.i64 n (2 * 2 ^ (level n).toNat) = 0 then (n + 2 ^ (level n).toNat, true) else (n - 2 ^ (level n).toNat, true)

theorem width_in (l : Int) : width l = 0 ∨ (1 ≤ l ∧ l ≤ 32 ∧ width l = 2 * l - 1) := by
  unfold width
  by_cases hf : fits l = true
  · have := of_decide_eq_true hf
    rw [if_pos hf]
    exact .inr ⟨by omega, by omega, rfl⟩
  · rw [if_neg hf]; exact .inl rfl

theorem above_any (n l : Int) (w : World) (hT : Tab w) (hl1 : -9223372036854775808 ≤ l) (hl2 : l ≤ 9223372036854775807) : Calls Tryd.prog 17 #[.int .i64 n, .int .i64 l] w fun e w' => e = .returned (.tuple #[.int .i64 (above n l).1, .bool (above n l).2]) ∧ w = w' := by
  have hw := width_any l w
  have hwi := width_in l
  have hL := level_any n w hT
  unfold above
  obtain ⟨W, hWe⟩ : ∃ W, W = width l := ⟨_, rfl⟩
  rw [← hWe] at hw hwi ⊢
  clear hWe hT
  by_cases h0 : n < 0
  · rw [if_pos (.inl h0)]
    have HW := Lib.hid hw; clear hw
    have HWI := Lib.hid hwi; clear hwi
    have HL := Lib.hid hL; clear hL
    go_enter Tryd.func17, Tryd.ntmps17
    go_wp2_with fail
    go_ret2
    exact ⟨rfl, rfl⟩
  · by_cases h1 : W ≤ n
    · rw [if_pos (.inr (.inl h1))]
      have HW := Lib.hid hw; clear hw
      have HWI := Lib.hid hwi; clear hwi
      have HL := Lib.hid hL; clear hL
      go_enter Tryd.func17, Tryd.ntmps17
      go_wp2_with fail
      refine HW.out.mono ?_
      rintro e w' ⟨rfl, rfl⟩
      go_wp2_with fail
      go_ret2
      exact ⟨rfl, rfl⟩
    · have hl : 1 ≤ l ∧ l ≤ 32 ∧ n ≤ 62 := by omega
      obtain ⟨hl3, hl4, hn⟩ := hl
      by_cases h2 : n = l - 1
      · rw [if_pos (.inr (.inr h2))]
        have h2' : (n == l - 1) = true := by simp; omega
        have HW := Lib.hid hw; clear hw
        have HWI := Lib.hid hwi; clear hwi
        have HL := Lib.hid hL; clear hL
        clear h2
        go_enter Tryd.func17, Tryd.ntmps17
        go_wp2_with fail
        refine HW.out.mono ?_
        rintro e w' ⟨rfl, rfl⟩
        go_wp2_with fail
        go_ret2
        exact ⟨rfl, rfl⟩
      · rw [if_neg (by omega)]
        have h2' : (n == l - 1) = false := by simp; omega
        have HW := Lib.hid hw; clear hw
        have HWI := Lib.hid hwi; clear hwi
        clear h2
        rcases level_cases n with e | e | e | e | e | e
        all_goals
          rw [e] at hL ⊢
          have HL := Lib.hid hL; clear hL
          clear e
          simp only [Int.reduceToNat, Int.reducePow, Int.reduceMul, Int.toNat_zero, Int.toNat_one, Int.pow_zero, Int.mul_one]
          split
          all_goals
            rename_i hb
            (first
              | have hb' := beq_iff_eq.2 hb
              | have hb' := beq_eq_false_iff_ne.2 hb)
            clear hb
            go_enter Tryd.func17, Tryd.ntmps17
            go_wp2_with fail
            refine HW.out.mono ?_
            rintro e w' ⟨rfl, rfl⟩
            go_wp2_with fail
            refine HL.out.mono ?_
            rintro e w' ⟨rfl, rfl⟩
            go_wp2_with fail
            go_ret2
            exact ⟨rfl, rfl⟩

def beside (n l : Int) : Int × Bool := if (above n l).2 = true then (if n < (above n l).1 then ((right (above n l).1).1, (right (above n l).1).2) else ((left (above n l).1).1, (left (above n l).1).2)) else (0, false)

theorem beside_any (n l : Int) (w : World) (hT : Tab w) (hl1 : -9223372036854775808 ≤ l) (hl2 : l ≤ 9223372036854775807) : Calls Tryd.prog 19 #[.int .i64 n, .int .i64 l] w fun e w' => e = .returned (.tuple #[.int .i64 (beside n l).1, .bool (beside n l).2]) ∧ w = w' := by
  have ha := above_any n l w hT hl1 hl2
  unfold beside
  obtain ⟨⟨u, b⟩, hu⟩ : ∃ u, u = above n l := ⟨_, rfl⟩
  rw [← hu] at ha ⊢
  clear hu
  have hr := right_any u w hT
  have hl := left_any u w hT
  have HA := Lib.hid ha; clear ha
  have HR := Lib.hid hr; clear hr
  have HLF := Lib.hid hl; clear hl
  cases b with
  | false =>
    go_enter Tryd.func19, Tryd.ntmps19
    go_wp2_with fail
    refine HA.out.mono ?_
    rintro e w' ⟨rfl, rfl⟩
    go_wp2_with fail
    go_ret2
    exact ⟨rfl, rfl⟩
  | true =>
    by_cases h : n < u
    · rw [if_pos rfl, if_pos h]
      go_enter Tryd.func19, Tryd.ntmps19
      go_wp2_with fail
      refine HA.out.mono ?_
      rintro e w' ⟨rfl, rfl⟩
      go_wp2_with fail
      refine HR.out.mono ?_
      rintro e w' ⟨rfl, rfl⟩
      go_wp2_with fail
      go_ret2
      exact ⟨rfl, rfl⟩
    · rw [if_pos rfl, if_neg h]
      go_enter Tryd.func19, Tryd.ntmps19
      go_wp2_with fail
      refine HA.out.mono ?_
      rintro e w' ⟨rfl, rfl⟩
      go_wp2_with fail
      refine HLF.out.mono ?_
      rintro e w' ⟨rfl, rfl⟩
      go_wp2_with fail
      go_ret2
      exact ⟨rfl, rfl⟩
end Go.Proofs.YtcmdlaikdpiemaaDoor
