/-
  What the document's log tells of a region of zeros.
-/
import Derived.Test.YtbcnbehneodlgaaGreatDoorRf5
import Derived.Test.YtbcnbehneodlgaaGreatDoorRf7
namespace Go.Proofs.YtbcnbehneodlgaaGreatDoor
set_option maxRecDepth 4000
open Go.RowKit


set_option maxHeartbeats 4000000 in
theorem rtold_zero (lb d f sg sz : Nat) (w : World) (h : Blk w lb 58 (rlc d f sg sz (str (zr (sg * (sz * 128)))) 0 0 0 (.slice none 0 0) (str (zr 32)) 0 false false)) (hsg : 1 ≤ sg ∧ sg ≤ 256) (hsz : 2 ≤ sz ∧ sz ≤ 512) :
    Calls Tryz.prog 44 #[.pointer (some ⟨lb, 0, none⟩)] w fun e w' => e = .returned (.tuple #[]) ∧ Below w.heap.size w w' := by
  obtain ⟨N, hN⟩ : ∃ N, N = sz * 128 := ⟨_, rfl⟩
  have hNN : N ≤ sg * N := Nat.le_mul_of_pos_left _ (by omega)
  have hs : (str (zr (sg * (sz * 128)))).size = sg * N := by rw [size_str, zr_length, hN]
  have hx : (str (zr (sg * (sz * 128)))).extract 0 N = str (zr N) := by rw [str_extract, List.drop_zero, Nat.sub_zero, zr_take, Nat.min_eq_left (by rw [← hN]; exact hNN)]
  have HP := Lib.hid (fun W => rparse_no (zr N) (zr 32) N 0 0 W (zr_length N) (by omega) (by omega) (by omega) (zr_length 32) (by omega) (by omega) (pref_zeros _ _ _ _))
  obtain ⟨Z, hZ⟩ : ∃ Z, Z = str (zr (sg * (sz * 128))) := ⟨_, rfl⟩
  obtain ⟨L, hL⟩ : ∃ Z, Z = str (zr 32) := ⟨_, rfl⟩
  obtain ⟨U, hU⟩ : ∃ Z, Z = str (zr N) := ⟨_, rfl⟩
  obtain ⟨E, hE⟩ : ∃ Z, Z = str [] := ⟨_, rfl⟩
  obtain ⟨M, hM⟩ : ∃ M, M = sg * N := ⟨_, rfl⟩
  rw [← hZ] at hs hx h
  rw [← hL] at h HP
  rw [← hU] at HP hx
  rw [← hE] at HP
  rw [← hM] at hs hNN
  have hlt := h.lt
  have c2 : w.cell? ⟨lb, 2, none⟩ = some (.int .i64 sg) := h.cell 2
  have c3 : w.cell? ⟨lb, 3, none⟩ = some (.int .i64 sz) := h.cell 3
  have hsgi : (0 : Int) < (sg : Int) := by omega
  have hsgn : 0 < sg := by omega
  have hmb : (sg : Nat) * N ≤ 256 * 65536 := Nat.mul_le_mul hsg.2 (by omega)
  have hw1 : IntKind.i64.wrap (128 * (sz : Int)) = (N : Int) := by rw [hN, show (128 : Int) * (sz : Int) = ((sz * 128 : Nat) : Int) by omega]; exact IntWalk.i64_in _ (by omega)
  have hw2 : IntKind.i64.wrap (N : Int) = (N : Int) := IntWalk.i64_in _ (by omega)
  have hNM : (N : Int) ≤ (M : Int) := by omega
  have hz0 : IntKind.i64.wrap 0 = 0 := by decide
  have hN0 : (0 : Int) ≤ (N : Int) := by omega
  have H := Lib.hid h
  have HSZ := Lib.hid info_rprs
  clear h hN hsg hsz hZ hL hU hE hM hmb
  go_enter Tryz.func44, Tryz.ntmps44
  go_wp2_with fail
  go_loopw [2] (fun i wr => i = .int .i64 0 ∧ wr = w) (fun _ _ => 0)
  case atStart => exact ⟨rfl, rfl⟩
  case round =>
    obtain ⟨rfl, rfl⟩ := hrel
    go_wp2_with fail
    refine wp_mid6 ?F (fun p _ _ _ _ _ W' => Below wr.heap.size wr W') ?reg ?go
    case reg =>
      refine region_tree (.read 0 (.read 1 (.read 2 (.read 3 (.read 4 (.read 5 (.read 6 (.read 7 (.read 8 (.read 9 (.read 10 (.read 11 (.read 12 (.read 13 (.read 14 (.read 15 (.read 16 (.read 17 (.read 18 (.read 19 (.read 20 (.read 21 (.read 22 (.two 23 (.read 24 (.read 25 (.read 26 (.one 27 (.one 28 (.read 29 .leaf)))))) 27 (.one 23 (.read 24 (.read 25 (.read 26 (.one 28 (.read 29 .leaf)))))))))))))))))))))))))))))) [4, 5, 6, 7, 8, 9, 10, 11, 13, 14, 15, 16, 17, 18, 19, 20, 21, 22, 26, 27, 28] 478146544 [(1048576, 1, 0, 0), (2097152, 1048576, 1, 1), (4194304, 2097152, 2, 3), (8388608, 4194304, 4, 7), (16777216, 4, 0, 0), (33554432, 8, 0, 0), (67108864, 50331648, 48, 48), (134217728, 4, 0, 0), (268435456, 8, 0, 0), (536870912, 402653184, 384, 384), (1073741824, 8, 0, 0), (2147483648, 1610612736, 1536, 1920), (4294967296, 2222981120, 2120, 4095), (8589934592, 4, 0, 0), (17179869184, 1, 0, 0), (34359738368, 17179869184, 16384, 16384), (68719476736, 34359738368, 32768, 49152), (137438953472, 68719476736, 65536, 114688), (274877906944, 137438953472, 131072, 245760), (549755813888, 1, 0, 0), (1099511627776, 549755813888, 524288, 524288), (2199023255552, 1099511627776, 1048576, 1572864), (4398046511104, 2199023255552, 2097152, 3670016), (8796093022208, 4685809319936, 4468736, 8388607), (524288, 8796093022208, 8388608, 16777215), (17592186044416, 524288, 16777216, 33554431), (35184372088832, 524288, 16777216, 33554431), (16, 0, 0, 0), (0, 17592186044432, 201326591, 201326591), (32, 35184372088832, 536870911, 536870911)] (fun W => Below wr.heap.size wr W) (by kernel_rfl) (by kernel_rfl) (by kernel_rfl) rfl (by kernel_rfl) (by kernel_rfl) (Below.refl _ _).drew (fun hS => ?_)
      repeat (first
        | (refine tree_read (v := ?_) rfl (fun _ _ _ h => by first | exact h | cases h.1) rfl hS ?_ ?_; rotate_left 1; (focus (intro w' hS'; have e4 : w'.cell? ⟨lb, 4, none⟩ = some (.string Z) := (hS'.cell hlt).trans (H.out.cell 4); have e8 : w'.cell? ⟨lb, 8, none⟩ = some (.slice none 0 0) := (hS'.cell hlt).trans (H.out.cell 8); have e9 : w'.cell? ⟨lb, 9, none⟩ = some (.string L) := (hS'.cell hlt).trans (H.out.cell 9); go_simp; try rfl)); (simp only [Act.put, List.setIfInBounds_toArray]; dsimp only [List.set_cons_zero, List.set_cons_succ]))
        | (refine tree_skip rfl (fun _ _ _ h => by first | exact h | cases h.1) rfl hS ?_; (simp only [Act.put, List.setIfInBounds_toArray]; dsimp only [List.set_cons_zero, List.set_cons_succ])))
      obtain ⟨A0, n1, n2, A1, n3⟩ : (Option Addr × Nat × Nat × Option Addr × Nat) := ⟨none, 0, 0, none, 0⟩
      refine tree_two ?_ ?_
      · skip
        refine tree_do (by rfl) (by rfl) (fun K hK => ?_)
        go_simp
        refine (HP.out _).mono ?_
        rintro e w1 ⟨rfl, bel⟩
        have hS := hS.trans (bel.mono hS.size)
        refine hK.out _ _ (fun h => by cases h) (fun _ => ?_); clear hK K; try (simp only [Act.put, List.setIfInBounds_toArray]; dsimp only [List.set_cons_zero, List.set_cons_succ])
        repeat (first
          | (refine tree_read (v := ?_) rfl (fun _ _ _ h => by first | exact h | cases h.1) rfl hS ?_ ?_; rotate_left 1; (focus (intro w' hS'; have e4 : w'.cell? ⟨lb, 4, none⟩ = some (.string Z) := (hS'.cell hlt).trans (H.out.cell 4); have e8 : w'.cell? ⟨lb, 8, none⟩ = some (.slice none 0 0) := (hS'.cell hlt).trans (H.out.cell 8); have e9 : w'.cell? ⟨lb, 9, none⟩ = some (.string L) := (hS'.cell hlt).trans (H.out.cell 9); go_simp; try rfl)); (simp only [Act.put, List.setIfInBounds_toArray]; dsimp only [List.set_cons_zero, List.set_cons_succ]))
          | (refine tree_skip rfl (fun _ _ _ h => by first | exact h | cases h.1) rfl hS ?_; (simp only [Act.put, List.setIfInBounds_toArray]; dsimp only [List.set_cons_zero, List.set_cons_succ])))
        refine tree_do (by rfl) (by rfl) (fun K hK => ?_)
        go_simp
        have bel := (Below.refl _ _).alloc (Nat.le_refl w1.heap.size) (.cells #[.slice none 0 0, .string { data := #[] }, .bool false, .int .i64 0] 109)
        obtain ⟨p, hpe⟩ : ∃ p, w1.heap.size = p := ⟨_, rfl⟩
        have hp : Blk (w1.alloc (.cells #[.slice none 0 0, .string { data := #[] }, .bool false, .int .i64 0] 109)) p 109 #[.slice none 0 0, .string { data := #[] }, .bool false, .int .i64 0] := (by rw [← hpe]; exact Blk.new _ _ _)
        have hpl : wr.heap.size ≤ p := (by rw [← hpe]; exact hS.size)
        obtain ⟨w2, hw2⟩ : ∃ w2, w1.alloc (.cells #[.slice none 0 0, .string { data := #[] }, .bool false, .int .i64 0] 109) = w2 := ⟨_, rfl⟩
        rw [hw2] at bel hp
        rw [show w1.alloc (.cells #[.slice none 0 0, .string { data := #[] }, .bool false, .int .i64 0] 109) = w2 from hw2]
        rw [hpe]
        refine hK.out _ _ (fun _ => hS.trans (bel.mono hS.size)) (fun hS => ?_); clear hK K; replace hS := hS rfl; try (simp only [Act.put, List.setIfInBounds_toArray]; dsimp only [List.set_cons_zero, List.set_cons_succ])
        repeat (first
          | (refine tree_read (v := ?_) rfl (fun _ _ _ h => by first | exact h | cases h.1) rfl hS ?_ ?_; rotate_left 1; (focus (intro w' hS'; have e4 : w'.cell? ⟨lb, 4, none⟩ = some (.string Z) := (hS'.cell hlt).trans (H.out.cell 4); have e8 : w'.cell? ⟨lb, 8, none⟩ = some (.slice none 0 0) := (hS'.cell hlt).trans (H.out.cell 8); have e9 : w'.cell? ⟨lb, 9, none⟩ = some (.string L) := (hS'.cell hlt).trans (H.out.cell 9); go_simp; try rfl)); (simp only [Act.put, List.setIfInBounds_toArray]; dsimp only [List.set_cons_zero, List.set_cons_succ]))
          | (refine tree_skip rfl (fun _ _ _ h => by first | exact h | cases h.1) rfl hS ?_; (simp only [Act.put, List.setIfInBounds_toArray]; dsimp only [List.set_cons_zero, List.set_cons_succ])))
        refine tree_do (by rfl) (by rfl) (fun K hK => ?_)
        refine wp_store_row 109 (.tmp 4) (.tmp 44) rfl p _ rfl rfl 109 _ hp (by exact HSZ.out) (Eq.refl 4) (by simp [Value.oneCell']) ?_
        have hR : Below wr.heap.size wr (w2.setRow p #[.slice none 0 0, .string E, .bool false, .int .i64 0]) := below_setRow hS hpl _
        refine hK.out _ _ (fun _ => hR) (fun hS => ?_); clear hK K; replace hS := hS rfl; try (simp only [Act.put, List.setIfInBounds_toArray]; dsimp only [List.set_cons_zero, List.set_cons_succ])
        repeat (first
          | (refine tree_read (v := ?_) rfl (fun _ _ _ h => by first | exact h | cases h.1) rfl hS ?_ ?_; rotate_left 1; (focus (intro w' hS'; go_simp; try rfl)); (simp only [Act.put, List.setIfInBounds_toArray]; dsimp only [List.set_cons_zero, List.set_cons_succ]))
          | (refine tree_skip rfl (fun _ _ _ h => by first | exact h | cases h.1) rfl hS ?_; (simp only [Act.put, List.setIfInBounds_toArray]; dsimp only [List.set_cons_zero, List.set_cons_succ])))
        refine tree_leaf ?_
        refine ⟨rfl, p, A0, n1, n2, A1, n3, ?_, hR⟩
        rfl
      · skip
        refine tree_do (by rfl) (by rfl) (fun K hK => ?_)
        go_simp
        have bel := (Below.refl _ _).alloc (Nat.le_refl wr.drew.heap.size) (.cells #[.slice none 0 0, .string { data := #[] }, .bool false, .int .i64 0] 109)
        obtain ⟨p, hpe⟩ : ∃ p, wr.heap.size = p := ⟨_, rfl⟩
        have hp : Blk (wr.drew.alloc (.cells #[.slice none 0 0, .string { data := #[] }, .bool false, .int .i64 0] 109)) p 109 #[.slice none 0 0, .string { data := #[] }, .bool false, .int .i64 0] := (by rw [← hpe]; exact Blk.new _ _ _)
        have hpl : wr.heap.size ≤ p := (by rw [← hpe]; exact hS.size)
        obtain ⟨w2, hw2⟩ : ∃ w2, wr.drew.alloc (.cells #[.slice none 0 0, .string { data := #[] }, .bool false, .int .i64 0] 109) = w2 := ⟨_, rfl⟩
        rw [hw2] at bel hp
        rw [show (wr.alloc (.cells #[.slice none 0 0, .string { data := #[] }, .bool false, .int .i64 0] 109)).drew = w2 from hw2]
        rw [hpe]
        refine hK.out _ _ (fun _ => hS.trans (bel.mono hS.size)) (fun hS => ?_); clear hK K; replace hS := hS rfl; try (simp only [Act.put, List.setIfInBounds_toArray]; dsimp only [List.set_cons_zero, List.set_cons_succ])
        repeat (first
          | (refine tree_read (v := ?_) rfl (fun _ _ _ h => by first | exact h | cases h.1) rfl hS ?_ ?_; rotate_left 1; (focus (intro w' hS'; have e4 : w'.cell? ⟨lb, 4, none⟩ = some (.string Z) := (hS'.cell hlt).trans (H.out.cell 4); have e8 : w'.cell? ⟨lb, 8, none⟩ = some (.slice none 0 0) := (hS'.cell hlt).trans (H.out.cell 8); have e9 : w'.cell? ⟨lb, 9, none⟩ = some (.string L) := (hS'.cell hlt).trans (H.out.cell 9); go_simp; try rfl)); (simp only [Act.put, List.setIfInBounds_toArray]; dsimp only [List.set_cons_zero, List.set_cons_succ]))
          | (refine tree_skip rfl (fun _ _ _ h => by first | exact h | cases h.1) rfl hS ?_; (simp only [Act.put, List.setIfInBounds_toArray]; dsimp only [List.set_cons_zero, List.set_cons_succ])))
        refine tree_do (by rfl) (by rfl) (fun K hK => ?_)
        go_simp
        refine (HP.out _).mono ?_
        rintro e w1 ⟨rfl, bel⟩
        have hp := hp.below bel hp.lt
        have hS := hS.trans (bel.mono hS.size)
        refine hK.out _ _ (fun h => by cases h) (fun _ => ?_); clear hK K; try (simp only [Act.put, List.setIfInBounds_toArray]; dsimp only [List.set_cons_zero, List.set_cons_succ])
        repeat (first
          | (refine tree_read (v := ?_) rfl (fun _ _ _ h => by first | exact h | cases h.1) rfl hS ?_ ?_; rotate_left 1; (focus (intro w' hS'; have e4 : w'.cell? ⟨lb, 4, none⟩ = some (.string Z) := (hS'.cell hlt).trans (H.out.cell 4); have e8 : w'.cell? ⟨lb, 8, none⟩ = some (.slice none 0 0) := (hS'.cell hlt).trans (H.out.cell 8); have e9 : w'.cell? ⟨lb, 9, none⟩ = some (.string L) := (hS'.cell hlt).trans (H.out.cell 9); go_simp; try rfl)); (simp only [Act.put, List.setIfInBounds_toArray]; dsimp only [List.set_cons_zero, List.set_cons_succ]))
          | (refine tree_skip rfl (fun _ _ _ h => by first | exact h | cases h.1) rfl hS ?_; (simp only [Act.put, List.setIfInBounds_toArray]; dsimp only [List.set_cons_zero, List.set_cons_succ])))
        refine tree_do (by rfl) (by rfl) (fun K hK => ?_)
        refine wp_store_row 109 (.tmp 4) (.tmp 44) rfl p _ rfl rfl 109 _ hp (by exact HSZ.out) (Eq.refl 4) (by simp [Value.oneCell']) ?_
        have hR : Below wr.heap.size wr (w1.setRow p #[.slice none 0 0, .string E, .bool false, .int .i64 0]) := below_setRow hS hpl _
        refine hK.out _ _ (fun _ => hR) (fun hS => ?_); clear hK K; replace hS := hS rfl; try (simp only [Act.put, List.setIfInBounds_toArray]; dsimp only [List.set_cons_zero, List.set_cons_succ])
        repeat (first
          | (refine tree_read (v := ?_) rfl (fun _ _ _ h => by first | exact h | cases h.1) rfl hS ?_ ?_; rotate_left 1; (focus (intro w' hS'; go_simp; try rfl)); (simp only [Act.put, List.setIfInBounds_toArray]; dsimp only [List.set_cons_zero, List.set_cons_succ]))
          | (refine tree_skip rfl (fun _ _ _ h => by first | exact h | cases h.1) rfl hS ?_; (simp only [Act.put, List.setIfInBounds_toArray]; dsimp only [List.set_cons_zero, List.set_cons_succ])))
        refine tree_leaf ?_
        refine ⟨rfl, p, A0, n1, n2, A1, n3, ?_, hR⟩
        rfl
    case go =>
      intro p _ _ _ _ _ w3 hR
      go_wp2_with fail
      refine bodyPost_ret (results_none rfl _ _ _) rfl ?_
      exact ⟨rfl, hR⟩
end Go.Proofs.YtbcnbehneodlgaaGreatDoor
