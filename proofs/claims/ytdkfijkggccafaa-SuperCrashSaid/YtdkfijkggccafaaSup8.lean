/-
  The law's own example.
-/
import Derived.Test.YtdkfijkggccafaaSupM
import Derived.Test.YtdkfijkggccafaaLimit
namespace Go.Proofs.Ytdkfijkggccafaa
set_option maxRecDepth 4000
open Go.RowKit

def spx : Sp := ⟨1, 0, 2, 3, 4⟩
theorem spx_right : spx.right := by decide +kernel

set_option maxHeartbeats 1000000 in
theorem store_fresh (n : Nat) (h : 2 ≤ n) (h2 : n ≤ 65536) (s : Sp) (hs : s.right) (b : Nat) (F : Nat → Prop) (w : World) (hD : DiskAt w b F (Dk.new n)) (hF : ∀ k, F k → k < w.heap.size) :
    Calls Try.prog 17 #[.pointer (some ⟨b, 0, none⟩), s.val] w fun e w' => e = .returned Value.nilIface ∧ DiskTo w b F (stored n s) w' := by
  have hl : (Dk.new n).safe.length = n * 128 := List.length_replicate
  rw [← stored_eq]
  exact store_full s hs b F (Dk.new n) w hD (Dk.ok_new (by omega) h2) hF (by omega) (Nat.zero_le _) (show (-1 : Int) ≠ 0 by decide) (show (-1 : Int) ≠ 1 by decide)
theorem find_two (b : Nat) (F : Nat → Prop) (D : Dk) (w : World) (s : Sp) (hD : DiskAt w b F D) (hok : D.Ok) (hF : ∀ k, F k → k < w.heap.size) (hl : 256 ≤ D.safe.length) (hq : D.queue = []) (h0 : D.calls = -1) (hn : newOk (D.piece 0 2) ∧ newS (D.piece 0 2) = s) :
    Calls Try.prog 20 #[.pointer (some ⟨b, 0, none⟩)] w fun e w' => e = .returned (.tuple #[s.val, Value.nilIface]) ∧ DiskTo w b F D.ticked w' := by
  have := find_ok b F D w hD hok hF hl (by rw [hq]; exact Nat.zero_le _) (by rw [h0]; decide) hn.1
  rw [hn.2] at this
  exact this

set_option maxHeartbeats 1000000 in
theorem awake_any (w : World) : Calls Try.prog 6 #[] w fun e w' => e = .returned (.bool true) ∧ Below w.heap.size w w' := by
  have HN := Lib.hid (fun w => new_good 18 w (by omega) (by omega))
  have HSC := Lib.hid (sectors_any spx)
  rw [show (if spx.right then 2 + 2 * spx.slots + spx.segs * spx.size else 0) = 18 from (if_pos spx_right).trans (by decide)] at HSC
  have HST := Lib.hid (store_fresh 18 (by omega) (by omega) spx spx_right)
  have HFI := Lib.hid (fun b F w hD hF => find_two b F (stored 18 spx) w spx hD (stored_ok _ _ (by omega) (by omega)) hF (by rw [stored_length _ _ (by omega)]; omega) rfl rfl (by rw [stored_piece _ _ (by omega)]; exact new_one spx spx_right))
  generalize stored 18 spx = D1 at *
  have HSZ := Lib.hid (show (Try.prog.info? 23).map (·.size) = some 5 by kernel_rfl)
  unfold Sp.val spx at *
  go_enter Try.func6, Try.ntmps6
  have hal := alloc_row w 23 #[.int .i64 0, .int .i64 0, .int .i64 0, .int .i64 0, .int .i64 0] #[.int .i64 1, .int .i64 0, .int .i64 2, .int .i64 3, .int .i64 4]
  have HAL := Lib.hid hal
  have HK := Lib.hid (Blk.new w 23 #[.int .i64 0, .int .i64 0, .int .i64 0, .int .i64 0, .int .i64 0])
  clear hal
  go_wp2_with (refine wpList_store_row rfl 23 (.tmp 1) (.tmp 6) rfl w.heap.size _ rfl rfl 23 _ HK.out (by exact HSZ.out) (Eq.refl 5) (by simp [Value.oneCell']) ?_; generalize (World.setRow _ _ _) = W0 at *; clear HK)
  refine (HN.out _).mono ?_
  rintro e w1 ⟨⟨b, F, rfl, hD, hF⟩, hb1⟩
  have hR1 := HAL.out.1.below hb1 HAL.out.1.lt
  have c0 : w1.cell? ⟨w.heap.size, 0, none⟩ = some (.int .i64 1) := hR1.cell 0
  have c1 : w1.cell? ⟨w.heap.size, 1, none⟩ = some (.int .i64 0) := hR1.cell 1
  have c2 : w1.cell? ⟨w.heap.size, 2, none⟩ = some (.int .i64 2) := hR1.cell 2
  have c3 : w1.cell? ⟨w.heap.size, 3, none⟩ = some (.int .i64 3) := hR1.cell 3
  have c4 : w1.cell? ⟨w.heap.size, 4, none⟩ = some (.int .i64 4) := hR1.cell 4
  have HR1 := Lib.hid hR1
  have HD := Lib.hid hD; have HF := Lib.hid hF; have HB1 := Lib.hid (HAL.out.2.trans (hb1.mono HAL.out.2.size))
  have hWs := HAL.out.1.lt
  have HWS := Lib.hid hWs
  clear hR1 hD hF hb1 hWs HN
  go_wp2_with fail
  refine (HSC.out _).mono ?_
  rintro e w2 ⟨rfl, hb2⟩
  have hR2 := HR1.out.below hb2 HR1.out.lt
  have d0 : w2.cell? ⟨w.heap.size, 0, none⟩ = some (.int .i64 1) := hR2.cell 0
  have d1 : w2.cell? ⟨w.heap.size, 1, none⟩ = some (.int .i64 0) := hR2.cell 1
  have d2 : w2.cell? ⟨w.heap.size, 2, none⟩ = some (.int .i64 2) := hR2.cell 2
  have d3 : w2.cell? ⟨w.heap.size, 3, none⟩ = some (.int .i64 3) := hR2.cell 3
  have d4 : w2.cell? ⟨w.heap.size, 4, none⟩ = some (.int .i64 4) := hR2.cell 4
  have HR2 := Lib.hid hR2
  have HX := Lib.hid (HST.out b F w2 (HD.out.below hb2) (fun k hk => Nat.lt_of_lt_of_le (HF.out k hk).2 hb2.size))
  have HB2 := Lib.hid (HB1.out.trans (hb2.mono HB1.out.size))
  clear c0 c1 c2 c3 c4 hR2 hb2 HR1 HD HB1 HST HSC
  go_wp2_with fail
  refine HX.out.mono ?_
  rintro e w3 ⟨rfl, hto⟩
  have hB3 := hto.next (B := w.heap.size + 1) (fun k hk => by have := (HF.out k hk).1; have := HWS.out; omega) (by have := HR2.out.lt; omega)
  obtain ⟨F3, hD3, hF3, -, -, hb3⟩ := hB3
  have hR3 := HR2.out.below hb3 (by omega)
  have c0 : w3.cell? ⟨w.heap.size, 0, none⟩ = some (.int .i64 1) := hR3.cell 0
  have c1 : w3.cell? ⟨w.heap.size, 1, none⟩ = some (.int .i64 0) := hR3.cell 1
  have c2 : w3.cell? ⟨w.heap.size, 2, none⟩ = some (.int .i64 2) := hR3.cell 2
  have c3 : w3.cell? ⟨w.heap.size, 3, none⟩ = some (.int .i64 3) := hR3.cell 3
  have c4 : w3.cell? ⟨w.heap.size, 4, none⟩ = some (.int .i64 4) := hR3.cell 4
  have HR3 := Lib.hid hR3
  have HY := Lib.hid (HFI.out b F3 w3 hD3 (fun k hk => (hF3 k hk).2))
  have HB3 := Lib.hid (HB2.out.trans (hb3.mono (by omega)))
  have HF3 := Lib.hid hF3
  clear d0 d1 d2 d3 d4 hR3 hb3 hto hD3 hF3 HX HR2 HB2 HFI
  go_wp2_with fail
  refine HY.out.mono ?_
  rintro e w4 ⟨rfl, hto⟩
  have hB4 := hto.next (B := w.heap.size + 1) (fun k hk => (HF3.out k hk).1) (by have := HR3.out.lt; omega)
  obtain ⟨F4, -, -, -, -, hb4⟩ := hB4
  have hR4 := HR3.out.below hb4 (by omega)
  have hal4 := alloc_row w4 23 #[.int .i64 0, .int .i64 0, .int .i64 0, .int .i64 0, .int .i64 0] #[.int .i64 1, .int .i64 0, .int .i64 2, .int .i64 3, .int .i64 4]
  have HAL4 := Lib.hid hal4
  have HR4 := Lib.hid (hR4.below hal4.2 hR4.lt)
  have HK := Lib.hid (Blk.new w4 23 #[.int .i64 0, .int .i64 0, .int .i64 0, .int .i64 0, .int .i64 0])
  have HB4 := Lib.hid ((HB3.out.trans (hb4.mono (by omega))).trans (hal4.2.mono (HB3.out.trans (hb4.mono (by omega))).size))
  clear c0 c1 c2 c3 c4 hR4 hal4 hb4 hto HY HR3 HB3
  go_wp2_with (refine wpList_store_row rfl 23 (.tmp 4) (.tmp 27) rfl w4.heap.size _ rfl rfl 23 _ HK.out (by exact HSZ.out) (Eq.refl 5) (by simp [Value.oneCell']) ?_; generalize (World.setRow _ _ _) = W4 at *; have c0 : W4.cell? ⟨w.heap.size, 0, none⟩ = some (.int .i64 1) := HR4.out.cell 0; have c1 : W4.cell? ⟨w.heap.size, 1, none⟩ = some (.int .i64 0) := HR4.out.cell 1; have c2 : W4.cell? ⟨w.heap.size, 2, none⟩ = some (.int .i64 2) := HR4.out.cell 2; have c3 : W4.cell? ⟨w.heap.size, 3, none⟩ = some (.int .i64 3) := HR4.out.cell 3; have c4 : W4.cell? ⟨w.heap.size, 4, none⟩ = some (.int .i64 4) := HR4.out.cell 4; have d0 : W4.cell? ⟨w4.heap.size, 0, none⟩ = some (.int .i64 1) := HAL4.out.1.cell 0; have d1 : W4.cell? ⟨w4.heap.size, 1, none⟩ = some (.int .i64 0) := HAL4.out.1.cell 1; have d2 : W4.cell? ⟨w4.heap.size, 2, none⟩ = some (.int .i64 2) := HAL4.out.1.cell 2; have d3 : W4.cell? ⟨w4.heap.size, 3, none⟩ = some (.int .i64 3) := HAL4.out.1.cell 3; have d4 : W4.cell? ⟨w4.heap.size, 4, none⟩ = some (.int .i64 4) := HAL4.out.1.cell 4)
  go_ret
  exact ⟨rfl, HB4.out⟩
end Go.Proofs.Ytdkfijkggccafaa
