/-
  The law's example; where there is room; lists of texts compared.
-/
import Derived.Test.YtjlkgkfheaihpaaDoorSeg2
import Derived.Test.YtjlkgkfheaihpaaDoorTexts
namespace Go.Proofs.YtjlkgkfheaihpaaDoor
set_option maxRecDepth 4000
open Go.RowKit

theorem back_awake (w : World) (hT : Tab w) : Calls Tryd.prog 6 #[] w fun e w' => e = .returned (.bool true) ∧ Below w.heap.size w w' := by
  have hmk := make_bytes 32 (by omega)
  obtain ⟨Z, hZ⟩ : ∃ z : Array Value, z = (u8s (List.replicate 32 0)).toArray := ⟨_, rfl⟩
  rw [← hZ] at hmk
  replace hmk : ∀ W : World, (Instr.makeSlice 22 (.int .i64 32) (.int .i64 32)).run Tryd.prog W = .ok (.slice (some ⟨W.heap.size, 0, none⟩) 32 32) (W.alloc (.cells Z 5)) := hmk
  have hcv := cv_mark (w.alloc (.cells Z 5)) #[.int .u8 104, .int .u8 101, .int .u8 108, .int .u8 108, .int .u8 111] 5 5
  have hs1 : (w.alloc (.cells Z 5)).heap.size = w.heap.size + 1 := by simp
  rw [hs1] at hcv
  have hb1 : Below w.heap.size w (w.alloc (.cells Z 5)) := (Below.refl _ _).alloc (Nat.le_refl _) _
  have hal : Below (w.alloc (.cells Z 5)).heap.size (w.alloc (.cells Z 5)) ((w.alloc (.cells Z 5)).alloc (.cells #[.int .u8 104, .int .u8 101, .int .u8 108, .int .u8 108, .int .u8 111] 5 (5, 6))) := (Below.refl _ _).alloc (Nat.le_refl _) _
  have hb2 := hb1.trans (hal.mono hb1.size)
  have hSa : Sees (w.alloc (.cells Z 5)) 1 (some ⟨w.heap.size, 0, none⟩) 32 (u8s (List.replicate 32 0)) := by rw [hZ]; exact sees_new w 5 (u8s (List.replicate 32 0)) 1 32 (by simp)
  have hSb := sees_mark (w.alloc (.cells Z 5)) 5 (5, 6) (u8s [104, 101, 108, 108, 111]) 5 rfl
  rw [hs1] at hSb
  have HF := Lib.hid (frame_ok (List.replicate 32 0) [104, 101, 108, 108, 111] _ _ 32 5 5 _ (hSa.below hal) hSb (by simp) rfl (by omega) (by omega) (hT.below hb2))
  have HB2 := Lib.hid hb2
  clear hZ hs1 hb1 hal hb2 hSa hSb hT
  go_enter Tryd.func6, Tryd.ntmps6
  go_wp2_with (simp only [hmk])
  refine HF.out.mono ?_
  rintro e w' ⟨v, v', rfl, h1, h2, hb⟩
  obtain ⟨A1, c1, rfl⟩ := own_shape h1
  obtain ⟨A2, c2, rfl⟩ := own_shape h2
  have HB := Lib.hid hb; clear h1 h2 hb HF
  go_wp2_with fail
  go_ret
  exact ⟨rfl, HB2.out.trans (HB.out.mono HB2.out.size)⟩


theorem fits_any (a u t : Nat) (ha : a ≤ 100000) (hu : u ≤ 100000) (ht : t ≤ maxLen) (w : World) :
    Calls Tryd.prog 17 #[.int .i64 a, .int .i64 u, .int .i64 t] w fun e w' => e = .returned (.bool (decide (1 ≤ t ∧ t ≤ 65535 ∧ u + t + 88 ≤ a))) ∧ w = w' := by
  unfold maxLen at ht
  by_cases h1 : 1 ≤ t
  · have h1i : (1 : Int) ≤ (t : Int) := by omega
    by_cases h2 : t ≤ 65535
    · have h2i : (t : Int) ≤ 65535 := by omega
      have hw1 : IntKind.i64.wrap ((a : Int) - (u : Int)) = (a : Int) - (u : Int) := IntWalk.i64_in _ (by omega)
      have hw2 : IntKind.i64.wrap ((t : Int) + 40) = (t : Int) + 40 := IntWalk.i64_in _ (by omega)
      have hw3 : IntKind.i64.wrap ((t : Int) + 40 + 48) = (t : Int) + 40 + 48 := IntWalk.i64_in _ (by omega)
      by_cases h3 : u ≤ a
      · have h3i : (u : Int) ≤ (a : Int) := by omega
        go_enter Tryd.func17, Tryd.ntmps17
        go_wp2_with fail
        go_ret
        refine ⟨ret_bool (bool_iff ?_), rfl⟩
        simp
        omega
      · have h3i : ¬ (u : Int) ≤ (a : Int) := by omega
        go_enter Tryd.func17, Tryd.ntmps17
        go_wp2_with fail
        go_ret
        refine ⟨ret_bool (bool_iff ?_), rfl⟩
        simp
        omega
    · have h2i : ¬ (t : Int) ≤ 65535 := by omega
      go_enter Tryd.func17, Tryd.ntmps17
      go_wp2_with fail
      go_ret
      refine ⟨ret_bool (bool_iff ?_), rfl⟩
      simp
  · have h1i : ¬ (1 : Int) ≤ (t : Int) := by omega
    go_enter Tryd.func17, Tryd.ntmps17
    go_wp2_with fail
    go_ret
    refine ⟨ret_bool (bool_iff ?_), rfl⟩
    simp

theorem same_eq (L : List (List UInt8)) (A B : Option Addr) (k c c' : Nat) (w : World) (hk : L.length = k) (hkc : k ≤ 100000) (hA : Sees w 1 A k (strs L)) (hB : Sees w 1 B k (strs L)) :
    Calls Tryd.prog 15 #[.slice A k c, .slice B k c'] w fun e w' => e = .returned (.bool true) ∧ Below w.heap.size w w' := by
  have HA := Lib.hid hA; have HB := Lib.hid hB; have HK := Lib.hid hk
  clear hA hB hk
  go_enter Tryd.func15, Tryd.ntmps15
  go_wp2_with fail
  go_loopw [5] (fun i wr => ∃ j : Nat, j ≤ k ∧ i = .int .i64 j ∧ Below w.heap.size w wr) (fun i _ => k - (intOf i).toNat)
  case atStart => exact ⟨0, by omega, rfl, Below.refl _ _⟩
  case round =>
    obtain ⟨j, hj, rfl, hbr⟩ := hrel
    by_cases hlt : j < k
    · have hlti : (j : Int) < (k : Int) := by omega
      have hp := List.getElem?_eq_getElem (l := L) (i := j) (by rw [HK.out]; exact hlt)
      obtain ⟨t, ht⟩ : ∃ p, p = L[j]'(by rw [HK.out]; exact hlt) := ⟨_, rfl⟩
      rw [← ht] at hp
      obtain ⟨g, off, rfl, hcs⟩ := HA.out.2 (by omega)
      obtain ⟨g2, off2, rfl, hcs2⟩ := HB.out.2 (by omega)
      have hc0 : w.cell? ⟨g, off + j, none⟩ = some (.string (str t)) := hcs j _ (by simp [strs, hp])
      have hc1 := (hbr.cell (World.block_lt_of_cell? w _ hc0)).trans hc0
      have hd0 : w.cell? ⟨g2, off2 + j, none⟩ = some (.string (str t)) := hcs2 j _ (by simp [strs, hp])
      have hd1 := (hbr.cell (World.block_lt_of_cell? w _ hd0)).trans hd0
      have HBR := Lib.hid hbr
      clear hcs hcs2 hp ht hc0 hd0 hbr
      generalize str t = X at *
      go_wp2_with fail
      refine region_fast [(0, true), (1, true), (2, true), (3, true), (4, true), (5, true), (6, true), (7, true), (8, true)] [1, 4, 5, 6, 7] 242 [(131072, 1, 0, 0), (262144, 32, 0, 0), (524288, 393216, 3, 3), (1048576, 524288, 4, 7), (2097152, 2, 0, 0), (4194304, 32, 0, 0), (8388608, 6291456, 48, 48), (16777216, 8388608, 64, 112), (33554432, 17825792, 136, 255)] (fun w' => w'.cell? ⟨g, off + j, none⟩ = some (.string X) ∧ w'.cell? ⟨g2, off2 + j, none⟩ = some (.string X)) (by kernel_rfl) (by kernel_rfl) (by kernel_rfl) rfl (by kernel_rfl) (by kernel_rfl) ⟨hc1, hd1⟩ (fun hS => ?_)
      repeat (first
        | (refine plan_read (v := ?_) rfl (fun _ _ _ h => h) rfl hS ?_ ?_; rotate_left 1; (focus (intro w' hS'; obtain ⟨z1, z2⟩ := hS'; go_simp; try rfl)); (simp only [Act.put, List.setIfInBounds_toArray]; dsimp only [List.set_cons_zero, List.set_cons_succ]))
        | (refine plan_skip rfl (fun _ _ _ h => h) rfl hS ?_; (simp only [Act.put, List.setIfInBounds_toArray]; dsimp only [List.set_cons_zero, List.set_cons_succ])))
      refine plan_nil ?_
      go_wp2_with fail
      go_roundw
      case rel => exact ⟨j + 1, by omega, by go_num, HBR.out.drew⟩
      case measure => simp [intOf]; omega
    · obtain rfl : j = k := by omega
      have hge : ¬ ((j : Int) < (j : Int)) := by omega
      go_wp2_with fail
      go_ret
      exact ⟨rfl, hbr⟩
end Go.Proofs.YtjlkgkfheaihpaaDoor
