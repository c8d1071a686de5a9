/-
  The document's disk: New, Read, Write, Flush.
-/
import Derived.Test.YtbcnbehneodlgaaGreatDoorRf1
import Derived.Test.YtbcnbehneodlgaaGreatDoorLog3
namespace Go.Proofs.YtbcnbehneodlgaaGreatDoor
set_option maxRecDepth 4000
open Go.RowKit

set_option maxHeartbeats 1000000 in
theorem rnew_any (n : Nat) (w : World) (hn : n ≤ 1000) : Calls Tryz.prog 26 #[.int .i64 n] w fun e w' => e = .returned (.pointer (some ⟨w.heap.size, 0, none⟩)) ∧ (∃ A cA, RD w' w.heap.size w.heap.size (List.replicate n (zr 128)) [] [] A cA none 0 none 0) ∧ Below w.heap.size w w' := by
  have hmk := make_bytes 128 (by omega)
  obtain ⟨Z, hZ⟩ : ∃ z : Array Value, z = (u8s (List.replicate 128 0)).toArray := ⟨_, rfl⟩
  have hcv : ∀ W : World, (convert 42 9 (.slice (some ⟨W.heap.size, 0, none⟩) 128 128)).run Tryz.prog (W.alloc (.cells (u8s (List.replicate 128 0)).toArray 5)).drew = .ok (.string (str (zr 128))) (W.alloc (.cells (u8s (List.replicate 128 0)).toArray 5)).drew := fun W => run_to_string Tryz.underlying42 Tryz.underlying5 Tryz.underlying9 128 ((sees_new W 5 (u8s (List.replicate 128 0)) 1 128 (by simp)).below (Below.refl _ _).drew)
  obtain ⟨X, hX⟩ : ∃ X, X = str (zr 128) := ⟨_, rfl⟩
  rw [← hZ] at hmk hcv
  rw [← hX] at hcv
  replace hmk : ∀ W : World, (Instr.makeSlice 42 (.int .i64 128) (.int .i64 128)).run Tryz.prog W = .ok (.slice (some ⟨W.heap.size, 0, none⟩) 128 128) (W.alloc (.cells Z 5)) := hmk
  have HX := Lib.hid hX
  clear hZ hX
  go_enter Tryz.func26, Tryz.ntmps26
  go_wp2_with fail
  have top0 : Blk (w.alloc (.cells #[.slice none 0 0, .slice none 0 0, .slice none 0 0, .int .i64 (-1)] 85)) w.heap.size 85 #[.slice none 0 0, .slice none 0 0, .slice none 0 0, .int .i64 (-1)] := Blk.new _ _ _
  have bel0 := (Below.refl w.heap.size w).alloc (Nat.le_refl _) (.cells #[.slice none 0 0, .slice none 0 0, .slice none 0 0, .int .i64 (-1)] 85)
  generalize w.alloc (.cells #[.slice none 0 0, .slice none 0 0, .slice none 0 0, .int .i64 (-1)] 85) = w1 at *
  have H0 := Lib.hid (And.intro top0 bel0)
  clear top0 bel0
  obtain ⟨d, hd⟩ : ∃ d, w.heap.size = d := ⟨_, rfl⟩
  rw [hd] at H0 ⊢
  go_loopw [4] (fun i wr => ∃ j : Nat, i = .int .i64 j ∧ j ≤ n ∧ Hid (∃ A c, Blk wr d 85 #[.slice A j c, .slice none 0 0, .slice none 0 0, .int .i64 (-1)] ∧ wr.ownsRow d 9 1 (.slice A j c) j (List.replicate j (.string X)) ∧ Below d w wr)) (fun i _ => n - (intOf i).toNat)
  case atStart => exact ⟨0, rfl, Nat.zero_le _, Lib.hid ⟨none, 0, H0.out.1, World.ownsRow_nil _ _ _ _, H0.out.2⟩⟩
  case round =>
    obtain ⟨j, rfl, hj, hr⟩ := hrel
    obtain ⟨A, c, top, own, bel⟩ := hr.out
    have hne := own_ne own top (by decide)
    have hdl := top.lt
    by_cases hlt : j < n
    · have hji : (j : Int) < (n : Int) := by omega
      have H := Lib.hid (And.intro top (And.intro own (And.intro bel hne)))
      have c0 : wr.drew.cell? ⟨d, 0, none⟩ = some (.slice A j c) := top.cell 0
      clear hr top own bel hne
      go_wp2_with fail
      refine region_fast [(0, true), (1, true), (2, true), (3, true), (4, true), (5, false), (6, false), (7, false), (8, false), (9, true), (10, true), (11, false)] [1, 2, 3, 4, 5, 6, 7, 8] 510 [(4096, 8, 0, 0), (8192, 8, 0, 0), (16384, 8192, 2, 2), (32768, 16384, 4, 6), (65536, 32768, 8, 14), (131072, 0, 0, 0), (262144, 131072, 32, 32), (524288, 262144, 64, 96), (1048576, 589824, 144, 254), (2097152, 4096, 511, 511), (4194304, 2097152, 1023, 1023), (0, 5242880, 1535, 2047)] (fun W => W.cell? ⟨d, 0, none⟩ = some (.slice A j c)) (by kernel_rfl) (by kernel_rfl) (by kernel_rfl) rfl (by kernel_rfl) (by kernel_rfl) c0 (fun hS => ?_)
      repeat (first
        | (refine plan_read (v := ?_) rfl (fun _ _ _ h => h) rfl hS ?_ ?_; rotate_left 1; (focus (intro w' hS'; have e0 := hS'; go_simp; try rfl)); (simp only [Act.put, List.setIfInBounds_toArray]; dsimp only [List.set_cons_zero, List.set_cons_succ]))
        | (refine plan_skip rfl (fun _ _ _ h => h) rfl hS ?_; (simp only [Act.put, List.setIfInBounds_toArray]; dsimp only [List.set_cons_zero, List.set_cons_succ])))
      refine plan_do (by rfl) (by rfl) (fun K hK => ?_)
      go_simp
      have b2 := (Below.refl wr.drew.heap.size wr.drew).alloc (Nat.le_refl _) (.cells Z 5)
      refine hK.out _ _ (fun _ => (b2.cell (World.block_lt_of_cell? _ _ hS)).trans hS) (fun hS => ?_); clear hK K; replace hS := hS rfl; try (simp only [Act.put, List.setIfInBounds_toArray]; dsimp only [List.set_cons_zero, List.set_cons_succ])
      repeat (first
        | (refine plan_read (v := ?_) rfl (fun _ _ _ h => h) rfl hS ?_ ?_; rotate_left 1; (focus (intro w' hS'; have e0 := hS'; go_simp; try rfl)); (simp only [Act.put, List.setIfInBounds_toArray]; dsimp only [List.set_cons_zero, List.set_cons_succ]))
        | (refine plan_skip rfl (fun _ _ _ h => h) rfl hS ?_; (simp only [Act.put, List.setIfInBounds_toArray]; dsimp only [List.set_cons_zero, List.set_cons_succ])))
      refine plan_do (by rfl) (by rfl) (fun K hK => ?_)
      have hcv1 := hcv wr
      go_simp
      have b3 := (Below.refl wr.heap.size wr).alloc (Nat.le_refl _) (.cells Z 5)
      refine hK.out _ _ (fun _ => hS) (fun hS => ?_); clear hK K; replace hS := hS rfl; try (simp only [Act.put, List.setIfInBounds_toArray]; dsimp only [List.set_cons_zero, List.set_cons_succ])
      repeat (first
        | (refine plan_read (v := ?_) rfl (fun _ _ _ h => h) rfl hS ?_ ?_; rotate_left 1; (focus (intro w' hS'; have e0 := hS'; go_simp; try rfl)); (simp only [Act.put, List.setIfInBounds_toArray]; dsimp only [List.set_cons_zero, List.set_cons_succ]))
        | (refine plan_skip rfl (fun _ _ _ h => h) rfl hS ?_; (simp only [Act.put, List.setIfInBounds_toArray]; dsimp only [List.set_cons_zero, List.set_cons_succ])))
      refine plan_do (by rfl) (by rfl) (fun K hK => ?_)
      go_simp
      obtain ⟨w2, hw2⟩ : ∃ w2, ((wr.alloc (.cells Z 5)).alloc (.cells #[.string X] 9)).drew = w2 := ⟨_, rfl⟩
      have b2 : Below wr.heap.size wr w2 := hw2 ▸ (b3.alloc b3.size (.cells #[.string X] 9)).drew
      have hse : Sees w2 1 (some ⟨wr.heap.size + 1, 0, none⟩) 1 [.string X] := by
        have := sees_new (wr.alloc (.cells Z 5)) 9 [.string X] 1 1 rfl
        rw [show (wr.alloc (.cells Z 5)).heap.size = wr.heap.size + 1 by simp] at this
        rw [← hw2]
        exact this.below (Below.refl _ _).drew
      rw [hw2]
      have hz2 := b2.size
      have c02 : w2.cell? ⟨d, 0, none⟩ = some (.slice A j c) := (b2.cell hdl).trans (H.out.1.cell 0)
      clear hS
      refine hK.out _ _ (fun _ => c02) (fun hS => ?_); clear hK K; replace hS := hS rfl; try (simp only [Act.put, List.setIfInBounds_toArray]; dsimp only [List.set_cons_zero, List.set_cons_succ])
      repeat (first
        | (refine plan_read (v := ?_) rfl (fun _ _ _ h => h) rfl hS ?_ ?_; rotate_left 1; (focus (intro w' hS'; have e0 := hS'; go_simp; try rfl)); (simp only [Act.put, List.setIfInBounds_toArray]; dsimp only [List.set_cons_zero, List.set_cons_succ]))
        | (refine plan_skip rfl (fun _ _ _ h => h) rfl hS ?_; (simp only [Act.put, List.setIfInBounds_toArray]; dsimp only [List.set_cons_zero, List.set_cons_succ])))
      refine plan_do (by rfl) (by rfl) (fun K hK => ?_)
      refine wp_app (.tmp 16) (.tmp 19) 28 rfl d 9 _ 1 16 Tryz.underlying28 info_string rfl (by decide) (.slice A j c) j _ rfl (own_below H.out.2.1 b2) (some ⟨wr.heap.size + 1, 0, none⟩) 1 _ [.string X] rfl hse (by simp [Value.oneCell']) (by unfold maxLen; omega) (by omega) (by omega) ?_
      intro v5 w5 o1 o2 o3 o4
      obtain ⟨A5, c5, rfl⟩ := own_shape o1
      have hf5 : Fr (fun k => (Value.slice A j c).ownBlock = some k) w2 w5 := Fr.of_grown o2 (fun k h => h)
      have top2 : Blk w2 d 85 _ := H.out.1.below b2 hdl
      have top5 := Blk.fr (F := fun k => (Value.slice A j c).ownBlock = some k) top2 hf5 (fun e => H.out.2.2.2 d e rfl)
      have hb5 : Below d w w5 := (H.out.2.2.1.trans (b2.mono (by have := H.out.2.2.1.size; omega))).grown o2 (by have := H.out.2.2.1.size; omega) (fun k hk => (H.out.2.1.lt k hk).1)
      have c05 : w5.cell? ⟨d, 0, none⟩ = some (.slice A j c) := top5.cell 0
      have f05 : w5.frozen? ⟨d, 0, none⟩ = false := top5.frozen 0
      clear hS
      refine hK.out _ _ (fun _ => c05) (fun hS => ?_); clear hK K; replace hS := hS rfl; try (simp only [Act.put, List.setIfInBounds_toArray]; dsimp only [List.set_cons_zero, List.set_cons_succ])
      repeat (first
        | (refine plan_read (v := ?_) rfl (fun _ _ _ h => h) rfl hS ?_ ?_; rotate_left 1; (focus (intro w' hS'; go_simp; try rfl)); (simp only [Act.put, List.setIfInBounds_toArray]; dsimp only [List.set_cons_zero, List.set_cons_succ]))
        | (refine plan_skip rfl (fun _ _ _ h => h) rfl hS ?_; (simp only [Act.put, List.setIfInBounds_toArray]; dsimp only [List.set_cons_zero, List.set_cons_succ])))
      refine plan_do (by rfl) (by rfl) (fun K hK => ?_)
      go_simp
      refine hK.out _ _ (fun h => by cases h) (fun _ => ?_); clear hK K; try (simp only [Act.put, List.setIfInBounds_toArray]; dsimp only [List.set_cons_zero, List.set_cons_succ])
      refine plan_nil ?_
      have top6 := top5.set_ 0 (.slice A5 (j + 1) c5)
      have hb6 : Below d w (w5.setCell ⟨d, 0, none⟩ (.slice A5 (j + 1) c5)) := hb5.setCell (Nat.le_refl _) _
      have own6 := own_fr o1 (Fr.setCell (F := fun k => k = d) w5 ⟨d, 0, none⟩ (.slice A5 (j + 1) c5) rfl) (own_ne o1 top5 (by decide))
      have H6 := Lib.hid (And.intro top6 (And.intro own6 hb6))
      clear top6 own6 hb6 c05 f05 hb5 top5 top2
      go_wp2_with fail
      go_roundw
      case rel => exact ⟨j + 1, by go_num, by omega, Lib.hid ⟨A5, c5, H6.out.1, by rw [List.replicate_succ']; exact H6.out.2.1, H6.out.2.2⟩⟩
      case measure => simp [intOf]; omega
    · obtain rfl : j = n := by omega
      have hge : ¬ ((j : Int) < (j : Int)) := by omega
      have H := Lib.hid (And.intro top (And.intro own bel))
      clear hr top own bel hne
      go_wp2_with fail
      go_ret
      have h3 : strs (List.replicate j (zr 128)) = List.replicate j (.string X) := by unfold strs; rw [List.map_replicate, HX.out]
      refine ⟨rfl, ⟨A, c, ?_, Nat.le_refl _, ?_, World.ownsRow_nil _ _ _ _, World.ownsRow_nil _ _ _ _, rfl⟩, H.out.2.2⟩
      · rw [List.length_replicate]; exact H.out.1
      · rw [h3, List.length_replicate]; exact H.out.2.1
end Go.Proofs.YtbcnbehneodlgaaGreatDoor
