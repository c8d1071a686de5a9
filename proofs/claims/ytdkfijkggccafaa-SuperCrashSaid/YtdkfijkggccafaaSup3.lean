/-
  A superblock's octets, and what octets say: by the document.
-/
import Derived.Test.YtdkfijkggccafaaSup2
import Derived.Test.YtdkfijkggccafaaEye
import Derived.Test.YtdkfijkggccafaaTree
import Derived.Test.YtdkfijkggccafaaRes
namespace Go.Proofs.Ytdkfijkggccafaa
set_option maxRecDepth 4000
open Go.RowKit

theorem Blk.drew {g : Nat} {t : TypeId} {cs : Array Value} {w : World} (h : Blk w g t cs) : Blk w.drew g t cs := h
theorem str_extract (l : List UInt8) (a b : Nat) : (str l).extract a b = str ((l.drop a).take (b - a)) := by
  apply ByteArray.ext
  simp [str]

theorem value_any (l : List UInt8) (hl : l.length ≤ 8) (w : World) : Calls Try.prog 48 #[.string (str l)] w fun e w' => e = .returned (.int .u64 (vl l)) ∧ w = w' := by
  go_enter Try.func48, Try.ntmps48
  go_wp2_with fail
  go_loop [3, 4] (fun x i => ∃ k : Nat, k ≤ l.length ∧ i = .int .i64 k ∧ x = .int .u64 (vl (l.take k) : Nat)) (fun _ i => l.length - (intOf i).toNat)
  case atStart => exact ⟨0, by omega, rfl, rfl⟩
  case round =>
    obtain ⟨k, hk, rfl, rfl⟩ := hrel
    by_cases hlt : k < l.length
    · have hlti : (k : Int) < (l.length : Int) := by omega
      obtain ⟨c, hc⟩ : ∃ c, c = (l[k]'hlt).toNat := ⟨_, rfl⟩
      have hc256 : c < 256 := by rw [hc]; exact UInt8.toNat_lt _
      have hget : ∀ h, ((str l)[k]'h).toNat = c := fun h => hc.symm
      have hget2 : (l[k]'hlt).toNat = c := hc.symm
      have hn : vl (l.take (k + 1)) = vl (l.take k) * 256 + c := by
        rw [List.take_add_one, List.getElem?_eq_getElem hlt, Option.toList_some, vl_snoc, hc]
      have hv := vl_lt (l.take k)
      have hp : 256 ^ (l.take k).length ≤ 256 ^ 7 := Nat.pow_le_pow_right (by omega) (by rw [List.length_take]; omega)
      have h7 : (256 : Nat) ^ 7 = 72057594037927936 := by decide
      have HC := Lib.hid hc; have HN := Lib.hid hn; clear hc hn
      generalize vl (l.take k) = x at *
      have hx : x < 72057594037927936 := by omega
      clear hv hp h7
      have e1 : IntKind.u64.wrap ((x : Int) * 256) = (x : Int) * 256 := by rw [IntKind.wrap_u64]; omega
      have e2 : IntKind.u64.wrap ((x : Int) * 256 + (c : Int)) = (x : Int) * 256 + (c : Int) := by rw [IntKind.wrap_u64]; omega
      have e3 : IntKind.u64.wrap (c : Int) = (c : Int) := by rw [IntKind.wrap_u64]; omega
      go_wp2_with fail
      go_round
      case rel => exact ⟨k + 1, by omega, by go_num, by rw [HN.out]; go_num⟩
      case measure => simp [intOf]; omega
    · obtain rfl : k = l.length := by omega
      have hge : ¬ ((l.length : Int) < (l.length : Int)) := by omega
      rw [List.take_length]
      go_wp2_with fail
      go_ret
      exact ⟨rfl, rfl⟩

theorem number_sup (l : List UInt8) (hl : l.length ≤ 8) (w : World) : Calls Try.prog 35 #[.string (str l)] w fun e w' => e = .returned (.int .i64 (wrap64 (vl l))) ∧ w = w' := by
  have H := Lib.hid (value_any l hl)
  go_enter Try.func35, Try.ntmps35
  go_wp2_with fail
  refine (H.out _).mono ?_
  rintro e w' ⟨rfl, rfl⟩
  go_wp2_with fail
  go_ret
  exact ⟨rfl, rfl⟩

set_option maxHeartbeats 1000000 in
theorem roctets_any (s : Sp) (h : s.right) (w : World) : Calls Try.prog 12 #[s.val] w fun e w' => e = .returned (.string (str (spo s))) ∧ Below w.heap.size w w' := by
  have HL := Lib.hid (Sp.head_length s)
  have HH := Lib.hid (show spo s = crcw s.head ++ List.replicate 92 0 from rfl)
  generalize hP0 : spo s = P0 at *
  clear hP0
  obtain ⟨g, b, n, m, z, rfl, h1, h2, h3, h4, h5, h6, h7, h8, h9⟩ := s.nats h
  have HH0 := Lib.hid (show (Sp.mk g b n m z).head = [101, 110, 103, 115] ++ be g 8 ++ be b 8 ++ (be n 4 ++ be m 4 ++ be z 4) from rfl)
  generalize (Sp.mk g b n m z).head = L0 at *
  have HG := Lib.hid (number_any g 8 (by omega) (by omega))
  have HB := Lib.hid (number_any b 8 (by omega) (by omega))
  have HN := Lib.hid (number_any n 4 (by omega) (by omega))
  have HM := Lib.hid (number_any m 4 (by omega) (by omega))
  have HZ := Lib.hid (number_any z 4 (by omega) (by omega))
  have hg0 : IntKind.u64.wrap (g : Int) = (g : Int) := by rw [IntKind.wrap_u64]; omega
  have hb0 : IntKind.u64.wrap (b : Int) = (b : Int) := by rw [IntKind.wrap_u64]; omega
  have hn0 : IntKind.u64.wrap (n : Int) = (n : Int) := by rw [IntKind.wrap_u64]; omega
  have hm0 : IntKind.u64.wrap (m : Int) = (m : Int) := by rw [IntKind.wrap_u64]; omega
  have hz0 : IntKind.u64.wrap (z : Int) = (z : Int) := by rw [IntKind.wrap_u64]; omega
  have hW := with_any L0 (by rw [HL.out]; omega)
  have h36 : (crcw L0).length = 36 := by rw [crcw, List.length_append, length_be, HL.out]
  have hd : ∃ Y1 Y2 Y3 Y4 Y5 Y6 Y7 X1 X2 X3 X4 X5 : ByteArray, X1 = str (be g 8) ∧ X2 = str (be b 8) ∧ X3 = str (be n 4) ∧ X4 = str (be m 4) ∧ X5 = str (be z 4) ∧
      ({ data := #[101, 110, 103, 115] } : ByteArray) ++ X1 = Y1 ∧ Y1 ++ X2 = Y2 ∧ Y2 ++ X3 = Y3 ∧ Y3 ++ X4 = Y4 ∧ Y4 ++ X5 = Y5 ∧ Y5 = str L0 ∧ Y6 = str (List.replicate 92 0) ∧ Y7 = str P0 ∧ str (crcw L0) ++ Y6 = Y7 ∧
      (X1.size = 8 ∧ X2.size = 8 ∧ X3.size = 4 ∧ X4.size = 4 ∧ X5.size = 4 ∧ Y1.size = 12 ∧ Y2.size = 20 ∧ Y3.size = 24 ∧ Y4.size = 28 ∧ Y5.size = 32 ∧ Y6.size = 92) := by
    refine ⟨_, _, _, _, _, _, _, _, _, _, _, _, rfl, rfl, rfl, rfl, rfl, rfl, rfl, rfl, rfl, rfl, ?_, rfl, rfl, ?_, ?_⟩
    · rw [HH0.out, show ({ data := #[101, 110, 103, 115] } : ByteArray) = str [101, 110, 103, 115] from rfl, str_cat, str_cat, str_cat, str_cat, str_cat]
      congr 1
    · rw [HH.out, str_cat]
    · rw [show ({ data := #[101, 110, 103, 115] } : ByteArray) = str [101, 110, 103, 115] from rfl, str_cat, str_cat, str_cat, str_cat, str_cat]
      simp [size_str, length_be]
  obtain ⟨Y1, Y2, Y3, Y4, Y5, Y6, Y7, X1, X2, X3, X4, X5, hX1, hX2, hX3, hX4, hX5, k1, k2, k3, k4, k5, hY5, hY6, hY7, k6, s1, s2, s3, s4, s5, s6, s7, s8, s9, s10, s11⟩ := hd
  have hcv := fun (w : World) => run_to_string (P := Try.prog) Try.underlying25 Try.underlying5 Try.underlying9 92 (sees_new w 5 (u8s (List.replicate 92 0)) 1 92 (by simp))
  have hmk := make_bytes 92 (by omega)
  obtain ⟨Z, hZ⟩ : ∃ z : Array Value, z = (u8s (List.replicate 92 0)).toArray := ⟨_, rfl⟩
  obtain ⟨Yc, hYc⟩ : ∃ z, z = str (crcw L0) := ⟨_, rfl⟩
  have s12 : Yc.size = 36 := by rw [hYc, size_str, h36]
  rw [← hZ] at hmk
  rw [← hZ, ← hY6] at hcv
  rw [← hYc] at k6 hW
  rw [← hY5] at hW
  have HW := Lib.hid hW
  replace hmk : ∀ W : World, (Instr.makeSlice 25 (.int .i64 92) (.int .i64 92)).run Try.prog W = .ok (.slice (some ⟨W.heap.size, 0, none⟩) 92 92) (W.alloc (.cells Z 5)) := hmk
  rw [← hX1] at HG
  rw [← hX2] at HB
  rw [← hX3] at HN
  rw [← hX4] at HM
  rw [← hX5] at HZ
  rw [← hY7]
  clear hX1 hX2 hX3 hX4 hX5 hY5 hY6 hY7 hZ hW HL HH HH0 h36 hYc h
  unfold Sp.val at *
  go_enter Try.func12, Try.ntmps12
  go_wp2_with fail
  have hBk := Blk.new w 23 #[.int .i64 g, .int .i64 b, .int .i64 n, .int .i64 m, .int .i64 z]
  have hal : Below w.heap.size w (w.alloc (.cells #[.int .i64 g, .int .i64 b, .int .i64 n, .int .i64 m, .int .i64 z] 23)) := (Below.refl _ _).alloc (Nat.le_refl _) _
  have hc : ∀ w', Below (w.heap.size + 1) (w.alloc (.cells #[.int .i64 g, .int .i64 b, .int .i64 n, .int .i64 m, .int .i64 z] 23)) w' → (w'.cell? ⟨w.heap.size, 0, none⟩ = some (.int .i64 g) ∧ w'.cell? ⟨w.heap.size, 1, none⟩ = some (.int .i64 b) ∧ w'.cell? ⟨w.heap.size, 2, none⟩ = some (.int .i64 n) ∧ w'.cell? ⟨w.heap.size, 3, none⟩ = some (.int .i64 m) ∧ w'.cell? ⟨w.heap.size, 4, none⟩ = some (.int .i64 z)) := fun w' hb => by
    have hb := hBk.below hb (by omega)
    exact ⟨hb.cell 0, hb.cell 1, hb.cell 2, hb.cell 3, hb.cell 4⟩
  have HC := Lib.hid hc; have HA := Lib.hid hal; clear hc hal hBk
  obtain ⟨wA, hwA⟩ : ∃ x, x = w.alloc (.cells #[.int .i64 g, .int .i64 b, .int .i64 n, .int .i64 m, .int .i64 z] 23) := ⟨_, rfl⟩
  rw [← hwA] at HC HA ⊢
  have hszA : wA.heap.size = w.heap.size + 1 := by rw [hwA]; simp
  rw [← hszA] at HC
  have hb0 := (Below.refl wA.heap.size wA).drew
  clear hwA
  refine region_fast [(0, true), (1, true), (2, true), (5, true), (6, true), (7, true), (10, true), (11, true), (12, true), (15, true), (16, true), (17, true), (20, true), (21, true), (22, true), (3, false), (4, true), (8, false), (9, true), (13, false), (14, true), (18, false), (19, true), (23, false), (24, true), (25, true)] [3, 4, 5, 6, 7, 8, 9, 10, 11, 12, 13, 14, 15, 16, 17, 18, 19, 20, 21, 22, 23] 16777208 [(16, 2, 0, 0), (32, 16, 1, 1), (64, 32, 2, 3), (128, 64, 4, 7), (256, 128, 8, 15), (512, 2, 0, 0), (1024, 512, 32, 32), (2048, 1024, 64, 96), (4096, 2048, 136, 239), (8192, 4352, 272, 511), (16384, 2, 0, 0), (32768, 16384, 1024, 1024), (65536, 32768, 2048, 3072), (131072, 65536, 4352, 7663), (262144, 139264, 8704, 16383), (524288, 2, 0, 0), (1048576, 524288, 32768, 32768), (2097152, 1048576, 65536, 98304), (4194304, 2097152, 139264, 245231), (8388608, 4456448, 278528, 524287), (16777216, 2, 0, 0), (33554432, 16777216, 1048576, 1048576), (67108864, 33554432, 2097152, 3145728), (134217728, 67108864, 4456448, 7847407), (268435456, 142606336, 8912896, 16777215), (8, 268435456, 33554431, 33554431)] (fun w' => (w'.cell? ⟨w.heap.size, 0, none⟩ = some (.int .i64 g) ∧ w'.cell? ⟨w.heap.size, 1, none⟩ = some (.int .i64 b) ∧ w'.cell? ⟨w.heap.size, 2, none⟩ = some (.int .i64 n) ∧ w'.cell? ⟨w.heap.size, 3, none⟩ = some (.int .i64 m) ∧ w'.cell? ⟨w.heap.size, 4, none⟩ = some (.int .i64 z))) (by kernel_rfl) (by kernel_rfl) (by kernel_rfl) rfl (by kernel_rfl) (by kernel_rfl) (HC.out _ hb0) (fun hS => ?_)
  repeat (first
    | (refine plan_read (v := ?_) rfl (fun _ _ _ h => h) rfl hS ?_ ?_; rotate_left 1; (focus (intro w' hS'; obtain ⟨k0, k1, k2, k3, k4⟩ := hS'; go_simp; try rfl)); (simp only [Act.put, List.setIfInBounds_toArray]; dsimp only [List.set_cons_zero, List.set_cons_succ]))
    | (refine plan_skip rfl (fun _ _ _ h => h) rfl hS ?_; (simp only [Act.put, List.setIfInBounds_toArray]; dsimp only [List.set_cons_zero, List.set_cons_succ])))
  refine plan_do (by rfl) (by rfl) (fun K hK => ?_)
  go_simp
  refine (HG.out _).mono ?_
  rintro e w1 ⟨rfl, hb1⟩
  have hb1 := hb0.trans (hb1.mono hb0.size)
  refine hK.out _ _ (fun _ => (HC.out _ hb1)) (fun hS => ?_); clear hK K; replace hS := hS rfl; try (simp only [Act.put, List.setIfInBounds_toArray]; dsimp only [List.set_cons_zero, List.set_cons_succ])
  repeat (first
    | (refine plan_read (v := ?_) rfl (fun _ _ _ h => h) rfl hS ?_ ?_; rotate_left 1; (focus (intro w' hS'; obtain ⟨k0, k1, k2, k3, k4⟩ := hS'; go_simp; try rfl)); (simp only [Act.put, List.setIfInBounds_toArray]; dsimp only [List.set_cons_zero, List.set_cons_succ]))
    | (refine plan_skip rfl (fun _ _ _ h => h) rfl hS ?_; (simp only [Act.put, List.setIfInBounds_toArray]; dsimp only [List.set_cons_zero, List.set_cons_succ])))
  refine plan_do (by rfl) (by rfl) (fun K hK => ?_)
  go_simp
  refine (HB.out _).mono ?_
  rintro e w2 ⟨rfl, hb2⟩
  have hb2 := hb1.trans (hb2.mono hb1.size)
  refine hK.out _ _ (fun _ => (HC.out _ hb2)) (fun hS => ?_); clear hK K; replace hS := hS rfl; try (simp only [Act.put, List.setIfInBounds_toArray]; dsimp only [List.set_cons_zero, List.set_cons_succ])
  repeat (first
    | (refine plan_read (v := ?_) rfl (fun _ _ _ h => h) rfl hS ?_ ?_; rotate_left 1; (focus (intro w' hS'; obtain ⟨k0, k1, k2, k3, k4⟩ := hS'; go_simp; try rfl)); (simp only [Act.put, List.setIfInBounds_toArray]; dsimp only [List.set_cons_zero, List.set_cons_succ]))
    | (refine plan_skip rfl (fun _ _ _ h => h) rfl hS ?_; (simp only [Act.put, List.setIfInBounds_toArray]; dsimp only [List.set_cons_zero, List.set_cons_succ])))
  refine plan_do (by rfl) (by rfl) (fun K hK => ?_)
  go_simp
  refine (HN.out _).mono ?_
  rintro e w3 ⟨rfl, hb3⟩
  have hb3 := hb2.trans (hb3.mono hb2.size)
  refine hK.out _ _ (fun _ => (HC.out _ hb3)) (fun hS => ?_); clear hK K; replace hS := hS rfl; try (simp only [Act.put, List.setIfInBounds_toArray]; dsimp only [List.set_cons_zero, List.set_cons_succ])
  repeat (first
    | (refine plan_read (v := ?_) rfl (fun _ _ _ h => h) rfl hS ?_ ?_; rotate_left 1; (focus (intro w' hS'; obtain ⟨k0, k1, k2, k3, k4⟩ := hS'; go_simp; try rfl)); (simp only [Act.put, List.setIfInBounds_toArray]; dsimp only [List.set_cons_zero, List.set_cons_succ]))
    | (refine plan_skip rfl (fun _ _ _ h => h) rfl hS ?_; (simp only [Act.put, List.setIfInBounds_toArray]; dsimp only [List.set_cons_zero, List.set_cons_succ])))
  refine plan_do (by rfl) (by rfl) (fun K hK => ?_)
  go_simp
  refine (HM.out _).mono ?_
  rintro e w4 ⟨rfl, hb4⟩
  have hb4 := hb3.trans (hb4.mono hb3.size)
  refine hK.out _ _ (fun _ => (HC.out _ hb4)) (fun hS => ?_); clear hK K; replace hS := hS rfl; try (simp only [Act.put, List.setIfInBounds_toArray]; dsimp only [List.set_cons_zero, List.set_cons_succ])
  repeat (first
    | (refine plan_read (v := ?_) rfl (fun _ _ _ h => h) rfl hS ?_ ?_; rotate_left 1; (focus (intro w' hS'; obtain ⟨k0, k1, k2, k3, k4⟩ := hS'; go_simp; try rfl)); (simp only [Act.put, List.setIfInBounds_toArray]; dsimp only [List.set_cons_zero, List.set_cons_succ]))
    | (refine plan_skip rfl (fun _ _ _ h => h) rfl hS ?_; (simp only [Act.put, List.setIfInBounds_toArray]; dsimp only [List.set_cons_zero, List.set_cons_succ])))
  refine plan_do (by rfl) (by rfl) (fun K hK => ?_)
  go_simp
  refine (HZ.out _).mono ?_
  rintro e w5 ⟨rfl, hb5⟩
  have hb5 := hb4.trans (hb5.mono hb4.size)
  refine hK.out _ _ (fun _ => (HC.out _ hb5)) (fun hS => ?_); clear hK K; replace hS := hS rfl; try (simp only [Act.put, List.setIfInBounds_toArray]; dsimp only [List.set_cons_zero, List.set_cons_succ])
  repeat (first
    | (refine plan_read (v := ?_) rfl (fun _ _ _ h => h) rfl hS ?_ ?_; rotate_left 1; (focus (intro w' hS'; obtain ⟨k0, k1, k2, k3, k4⟩ := hS'; go_simp; try rfl)); (simp only [Act.put, List.setIfInBounds_toArray]; dsimp only [List.set_cons_zero, List.set_cons_succ]))
    | (refine plan_skip rfl (fun _ _ _ h => h) rfl hS ?_; (simp only [Act.put, List.setIfInBounds_toArray]; dsimp only [List.set_cons_zero, List.set_cons_succ])))
  refine plan_nil ?_
  have HB5 := Lib.hid (HA.out.trans (hb5.mono (by omega)))
  clear hS hb0 hb1 hb2 hb3 hb4 hb5 HC HG HB HN HM HZ HA
  go_wp2_with fail
  refine (HW.out _).mono ?_
  rintro e w6 ⟨rfl, hb6⟩
  have hb16 := HB5.out.trans (hb6.mono HB5.out.size)
  have HB16 := Lib.hid hb16; clear hb16 hb6
  go_wp2_with (simp only [hmk])
  go_ret
  exact ⟨rfl, HB16.out.alloc HB16.out.size _⟩

/-- What octets say. -/
def rdS (b : List UInt8) : Sp := ⟨wrap64 (vl ((b.drop 4).take 8)), wrap64 (vl ((b.drop 12).take 8)), wrap64 (vl ((b.drop 20).take 4)), wrap64 (vl ((b.drop 24).take 4)), wrap64 (vl ((b.drop 28).take 4))⟩
def rdOk (b : List UInt8) (place : Int) : Prop := b.length = 128 ∧ (rdS b).right ∧ spo (rdS b) = b ∧ (rdS b).gen.tmod 2 = place
instance (b : List UInt8) (place : Int) : Decidable (rdOk b place) := by unfold rdOk; infer_instance
def sp0 : Sp := ⟨0, 0, 0, 0, 0⟩
def readS (b : List UInt8) (place : Int) : Sp := if rdOk b place then rdS b else sp0

set_option maxHeartbeats 2000000 in
theorem rread_any (b : List UInt8) (place : Int) (hb : b.length ≤ 100000) (w : World) : Calls Try.prog 15 #[.string (str b), .int .i64 place] w fun e w' => e = .returned (.tuple #[(readS b place).val, .bool (decide (rdOk b place))]) ∧ Below w.heap.size w w' := by
  by_cases hlen : b.length = 128
  · have hx := fun a c : Nat => str_extract b a c
    have HN := Lib.hid number_sup
    obtain ⟨Y1, hY1⟩ : ∃ Y, Y = str ((b.drop 4).take 8) := ⟨_, rfl⟩
    obtain ⟨Y2, hY2⟩ : ∃ Y, Y = str ((b.drop 12).take 8) := ⟨_, rfl⟩
    obtain ⟨Y3, hY3⟩ : ∃ Y, Y = str ((b.drop 20).take 4) := ⟨_, rfl⟩
    obtain ⟨Y4, hY4⟩ : ∃ Y, Y = str ((b.drop 24).take 4) := ⟨_, rfl⟩
    obtain ⟨Y5, hY5⟩ : ∃ Y, Y = str ((b.drop 28).take 4) := ⟨_, rfl⟩
    have HY1 := Lib.hid hY1; have HY2 := Lib.hid hY2; have HY3 := Lib.hid hY3; have HY4 := Lib.hid hY4; have HY5 := Lib.hid hY5
    have x1 : (str b).extract 4 12 = Y1 := by rw [hY1, hx]
    have x2 : (str b).extract 12 20 = Y2 := by rw [hY2, hx]
    have x3 : (str b).extract 20 24 = Y3 := by rw [hY3, hx]
    have x4 : (str b).extract 24 28 = Y4 := by rw [hY4, hx]
    have x5 : (str b).extract 28 32 = Y5 := by rw [hY5, hx]
    have hs : (str b).size = 128 := by rw [size_str, hlen]
    obtain ⟨X, hX⟩ : ∃ X, X = str b := ⟨_, rfl⟩
    rw [← hX] at x1 x2 x3 x4 x5 hs ⊢
    have HX := Lib.hid hX
    have v1 := HN.out ((b.drop 4).take 8) (by rw [List.length_take]; omega)
    have v2 := HN.out ((b.drop 12).take 8) (by rw [List.length_take]; omega)
    have v3 := HN.out ((b.drop 20).take 4) (by rw [List.length_take]; omega)
    have v4 := HN.out ((b.drop 24).take 4) (by rw [List.length_take]; omega)
    have v5 := HN.out ((b.drop 28).take 4) (by rw [List.length_take]; omega)
    rw [← hY1] at v1
    rw [← hY2] at v2
    rw [← hY3] at v3
    rw [← hY4] at v4
    rw [← hY5] at v5
    have HR := Lib.hid (show rdS b = ⟨wrap64 (vl ((b.drop 4).take 8)), wrap64 (vl ((b.drop 12).take 8)), wrap64 (vl ((b.drop 20).take 4)), wrap64 (vl ((b.drop 24).take 4)), wrap64 (vl ((b.drop 28).take 4))⟩ from rfl)
    generalize wrap64 (vl ((b.drop 4).take 8)) = f1 at *
    generalize wrap64 (vl ((b.drop 12).take 8)) = f2 at *
    generalize wrap64 (vl ((b.drop 20).take 4)) = f3 at *
    generalize wrap64 (vl ((b.drop 24).take 4)) = f4 at *
    generalize wrap64 (vl ((b.drop 28).take 4)) = f5 at *
    have V1 := Lib.hid v1; have V2 := Lib.hid v2; have V3 := Lib.hid v3; have V4 := Lib.hid v4; have V5 := Lib.hid v5
    clear hX hY1 hY2 hY3 hY4 hY5 hx v1 v2 v3 v4 v5 HN
    go_enter Try.func15, Try.ntmps15
    go_wp2_with fail
    have HSZ := Lib.hid (show (Try.prog.info? 23).map (·.size) = some 5 by kernel_rfl)
    generalize hw0 : w.alloc _ = w0
    have hB0 : Below w.heap.size w w0 := by rw [← hw0]; exact (Below.refl _ _).alloc (Nat.le_refl _) _
    have HSZ0 : Hid (w0.heap.size = w.heap.size + 1) := Lib.hid (by rw [← hw0]; simp)
    have hZ0 : Blk w0 w.heap.size 23 #[.int .i64 0, .int .i64 0, .int .i64 0, .int .i64 0, .int .i64 0] := by rw [← hw0]; exact Blk.new _ _ _
    clear hw0
    have HBK0 := Lib.hid (Blk.new w0 23 #[.int .i64 0, .int .i64 0, .int .i64 0, .int .i64 0, .int .i64 0]).drew
    refine wp_at ?_ ?_ ?_ ?_
    rotate_left 2
    refine region_tree (.read 0 (.read 1 (.read 3 (.read 4 (.read 6 (.read 7 (.read 9 (.read 10 (.read 12 (.read 13 (.two 2 (.two 5 (.two 8 (.two 11 (.two 14 (.read 15 (.one 16 (.one 17 .leaf))) 16 (.one 14 (.read 15 (.one 17 .leaf)))) 16 (.one 11 (.one 14 (.read 15 (.one 17 .leaf))))) 16 (.one 8 (.one 11 (.one 14 (.read 15 (.one 17 .leaf)))))) 16 (.one 5 (.one 8 (.one 11 (.one 14 (.read 15 (.one 17 .leaf))))))) 16 (.one 2 (.one 5 (.one 8 (.one 11 (.one 14 (.read 15 (.one 17 .leaf)))))))))))))))))) [2, 3, 4, 5, 6, 7, 8, 9, 10, 11, 12, 13, 16] 81916 [(2048, 1, 0, 0), (4096, 2048, 1, 1), (8192, 4096, 2, 3), (16384, 1, 0, 0), (32768, 16384, 8, 8), (65536, 32768, 20, 31), (131072, 1, 0, 0), (262144, 131072, 64, 64), (524288, 262144, 160, 255), (1048576, 1, 0, 0), (2097152, 1048576, 512, 512), (4194304, 2097152, 1280, 2047), (8388608, 1, 0, 0), (16777216, 8388608, 4096, 4096), (33554432, 16777216, 10240, 16383), (67108864, 38346752, 18724, 32767), (64, 0, 0, 0), (0, 67108928, 131071, 131071)] (fun _ => True) (by kernel_rfl) (by kernel_rfl) (by kernel_rfl) rfl (by kernel_rfl) (by kernel_rfl) trivial (fun hS => ?_)
    repeat (first
      | (refine tree_read (v := ?_) rfl (fun _ _ _ h => by first | exact h | cases h.1) rfl hS ?_ ?_; rotate_left 1; (focus (intro w' hS'; go_simp; try rfl)); (simp only [Act.put, List.setIfInBounds_toArray]; dsimp only [List.set_cons_zero, List.set_cons_succ]))
      | (refine tree_skip rfl (fun _ _ _ h => by first | exact h | cases h.1) rfl hS ?_; (simp only [Act.put, List.setIfInBounds_toArray]; dsimp only [List.set_cons_zero, List.set_cons_succ])))
    refine tree_two ?_ ?_
    · skip
      refine tree_do (by rfl) (by rfl) (fun K hK => ?_)
      go_simp
      refine (V1.out _).mono ?_
      rintro e w' ⟨rfl, rfl⟩
      refine hK.out _ _ (fun _ => trivial) (fun hS => ?_); clear hK K; replace hS := hS rfl; try (simp only [Act.put, List.setIfInBounds_toArray]; dsimp only [List.set_cons_zero, List.set_cons_succ])
      refine tree_two ?_ ?_
      · skip
        refine tree_do (by rfl) (by rfl) (fun K hK => ?_)
        go_simp
        refine (V2.out _).mono ?_
        rintro e w' ⟨rfl, rfl⟩
        refine hK.out _ _ (fun _ => trivial) (fun hS => ?_); clear hK K; replace hS := hS rfl; try (simp only [Act.put, List.setIfInBounds_toArray]; dsimp only [List.set_cons_zero, List.set_cons_succ])
        refine tree_two ?_ ?_
        · skip
          refine tree_do (by rfl) (by rfl) (fun K hK => ?_)
          go_simp
          refine (V3.out _).mono ?_
          rintro e w' ⟨rfl, rfl⟩
          refine hK.out _ _ (fun _ => trivial) (fun hS => ?_); clear hK K; replace hS := hS rfl; try (simp only [Act.put, List.setIfInBounds_toArray]; dsimp only [List.set_cons_zero, List.set_cons_succ])
          refine tree_two ?_ ?_
          · skip
            refine tree_do (by rfl) (by rfl) (fun K hK => ?_)
            go_simp
            refine (V4.out _).mono ?_
            rintro e w' ⟨rfl, rfl⟩
            refine hK.out _ _ (fun _ => trivial) (fun hS => ?_); clear hK K; replace hS := hS rfl; try (simp only [Act.put, List.setIfInBounds_toArray]; dsimp only [List.set_cons_zero, List.set_cons_succ])
            refine tree_two ?_ ?_
            · skip
              refine tree_do (by rfl) (by rfl) (fun K hK => ?_)
              go_simp
              refine (V5.out _).mono ?_
              rintro e w' ⟨rfl, rfl⟩
              refine hK.out _ _ (fun h => by cases h) (fun _ => ?_); clear hK K; try (simp only [Act.put, List.setIfInBounds_toArray]; dsimp only [List.set_cons_zero, List.set_cons_succ])
              repeat (first
                | (refine tree_read (v := ?_) rfl (fun _ _ _ h => by first | exact h | cases h.1) rfl hS ?_ ?_; rotate_left 1; (focus (intro w' hS'; go_simp; try rfl)); (simp only [Act.put, List.setIfInBounds_toArray]; dsimp only [List.set_cons_zero, List.set_cons_succ]))
                | (refine tree_skip rfl (fun _ _ _ h => by first | exact h | cases h.1) rfl hS ?_; (simp only [Act.put, List.setIfInBounds_toArray]; dsimp only [List.set_cons_zero, List.set_cons_succ])))
              refine tree_do (by rfl) (by rfl) (fun K hK => ?_)
              go_simp
              refine hK.out _ _ (fun _ => trivial) (fun hS => ?_); clear hK K; replace hS := hS rfl; try (simp only [Act.put, List.setIfInBounds_toArray]; dsimp only [List.set_cons_zero, List.set_cons_succ])
              refine tree_do (by rfl) (by rfl) (fun K hK => ?_)
              refine wp_store_row 23 (.tmp 6) (.tmp 26) rfl w0.heap.size _ rfl rfl 23 _ (HBK0.out) (by exact HSZ.out) (Eq.refl 5) (by simp [Value.oneCell']) ?_
              refine hK.out _ _ (fun h => by cases h) (fun _ => ?_); clear hK K; try (simp only [Act.put, List.setIfInBounds_toArray]; dsimp only [List.set_cons_zero, List.set_cons_succ])
              refine tree_leaf ?_
              refine ⟨rfl, ?_, ?_⟩
              · dsimp only [Act.put]
                rfl
              · rfl
            · skip
              refine tree_do (by rfl) (by rfl) (fun K hK => ?_)
              go_simp
              refine hK.out _ _ (fun _ => trivial) (fun hS => ?_); clear hK K; replace hS := hS rfl; try (simp only [Act.put, List.setIfInBounds_toArray]; dsimp only [List.set_cons_zero, List.set_cons_succ])
              refine tree_do (by rfl) (by rfl) (fun K hK => ?_)
              go_simp
              refine (V5.out _).mono ?_
              rintro e w' ⟨rfl, rfl⟩
              refine hK.out _ _ (fun h => by cases h) (fun _ => ?_); clear hK K; try (simp only [Act.put, List.setIfInBounds_toArray]; dsimp only [List.set_cons_zero, List.set_cons_succ])
              repeat (first
                | (refine tree_read (v := ?_) rfl (fun _ _ _ h => by first | exact h | cases h.1) rfl hS ?_ ?_; rotate_left 1; (focus (intro w' hS'; go_simp; try rfl)); (simp only [Act.put, List.setIfInBounds_toArray]; dsimp only [List.set_cons_zero, List.set_cons_succ]))
                | (refine tree_skip rfl (fun _ _ _ h => by first | exact h | cases h.1) rfl hS ?_; (simp only [Act.put, List.setIfInBounds_toArray]; dsimp only [List.set_cons_zero, List.set_cons_succ])))
              refine tree_do (by rfl) (by rfl) (fun K hK => ?_)
              refine wp_store_row 23 (.tmp 6) (.tmp 26) rfl w0.heap.size _ rfl rfl 23 _ (HBK0.out) (by exact HSZ.out) (Eq.refl 5) (by simp [Value.oneCell']) ?_
              refine hK.out _ _ (fun h => by cases h) (fun _ => ?_); clear hK K; try (simp only [Act.put, List.setIfInBounds_toArray]; dsimp only [List.set_cons_zero, List.set_cons_succ])
              refine tree_leaf ?_
              refine ⟨rfl, ?_, ?_⟩
              · dsimp only [Act.put]
              · rfl
          · skip
            refine tree_do (by rfl) (by rfl) (fun K hK => ?_)
            go_simp
            refine hK.out _ _ (fun _ => trivial) (fun hS => ?_); clear hK K; replace hS := hS rfl; try (simp only [Act.put, List.setIfInBounds_toArray]; dsimp only [List.set_cons_zero, List.set_cons_succ])
            refine tree_do (by rfl) (by rfl) (fun K hK => ?_)
            go_simp
            refine (V4.out _).mono ?_
            rintro e w' ⟨rfl, rfl⟩
            refine hK.out _ _ (fun _ => trivial) (fun hS => ?_); clear hK K; replace hS := hS rfl; try (simp only [Act.put, List.setIfInBounds_toArray]; dsimp only [List.set_cons_zero, List.set_cons_succ])
            refine tree_do (by rfl) (by rfl) (fun K hK => ?_)
            go_simp
            refine (V5.out _).mono ?_
            rintro e w' ⟨rfl, rfl⟩
            refine hK.out _ _ (fun h => by cases h) (fun _ => ?_); clear hK K; try (simp only [Act.put, List.setIfInBounds_toArray]; dsimp only [List.set_cons_zero, List.set_cons_succ])
            repeat (first
              | (refine tree_read (v := ?_) rfl (fun _ _ _ h => by first | exact h | cases h.1) rfl hS ?_ ?_; rotate_left 1; (focus (intro w' hS'; go_simp; try rfl)); (simp only [Act.put, List.setIfInBounds_toArray]; dsimp only [List.set_cons_zero, List.set_cons_succ]))
              | (refine tree_skip rfl (fun _ _ _ h => by first | exact h | cases h.1) rfl hS ?_; (simp only [Act.put, List.setIfInBounds_toArray]; dsimp only [List.set_cons_zero, List.set_cons_succ])))
            refine tree_do (by rfl) (by rfl) (fun K hK => ?_)
            refine wp_store_row 23 (.tmp 6) (.tmp 26) rfl w0.heap.size _ rfl rfl 23 _ (HBK0.out) (by exact HSZ.out) (Eq.refl 5) (by simp [Value.oneCell']) ?_
            refine hK.out _ _ (fun h => by cases h) (fun _ => ?_); clear hK K; try (simp only [Act.put, List.setIfInBounds_toArray]; dsimp only [List.set_cons_zero, List.set_cons_succ])
            refine tree_leaf ?_
            refine ⟨rfl, ?_, ?_⟩
            · dsimp only [Act.put]
            · rfl
        · skip
          refine tree_do (by rfl) (by rfl) (fun K hK => ?_)
          go_simp
          refine hK.out _ _ (fun _ => trivial) (fun hS => ?_); clear hK K; replace hS := hS rfl; try (simp only [Act.put, List.setIfInBounds_toArray]; dsimp only [List.set_cons_zero, List.set_cons_succ])
          refine tree_do (by rfl) (by rfl) (fun K hK => ?_)
          go_simp
          refine (V3.out _).mono ?_
          rintro e w' ⟨rfl, rfl⟩
          refine hK.out _ _ (fun _ => trivial) (fun hS => ?_); clear hK K; replace hS := hS rfl; try (simp only [Act.put, List.setIfInBounds_toArray]; dsimp only [List.set_cons_zero, List.set_cons_succ])
          refine tree_do (by rfl) (by rfl) (fun K hK => ?_)
          go_simp
          refine (V4.out _).mono ?_
          rintro e w' ⟨rfl, rfl⟩
          refine hK.out _ _ (fun _ => trivial) (fun hS => ?_); clear hK K; replace hS := hS rfl; try (simp only [Act.put, List.setIfInBounds_toArray]; dsimp only [List.set_cons_zero, List.set_cons_succ])
          refine tree_do (by rfl) (by rfl) (fun K hK => ?_)
          go_simp
          refine (V5.out _).mono ?_
          rintro e w' ⟨rfl, rfl⟩
          refine hK.out _ _ (fun h => by cases h) (fun _ => ?_); clear hK K; try (simp only [Act.put, List.setIfInBounds_toArray]; dsimp only [List.set_cons_zero, List.set_cons_succ])
          repeat (first
            | (refine tree_read (v := ?_) rfl (fun _ _ _ h => by first | exact h | cases h.1) rfl hS ?_ ?_; rotate_left 1; (focus (intro w' hS'; go_simp; try rfl)); (simp only [Act.put, List.setIfInBounds_toArray]; dsimp only [List.set_cons_zero, List.set_cons_succ]))
            | (refine tree_skip rfl (fun _ _ _ h => by first | exact h | cases h.1) rfl hS ?_; (simp only [Act.put, List.setIfInBounds_toArray]; dsimp only [List.set_cons_zero, List.set_cons_succ])))
          refine tree_do (by rfl) (by rfl) (fun K hK => ?_)
          refine wp_store_row 23 (.tmp 6) (.tmp 26) rfl w0.heap.size _ rfl rfl 23 _ (HBK0.out) (by exact HSZ.out) (Eq.refl 5) (by simp [Value.oneCell']) ?_
          refine hK.out _ _ (fun h => by cases h) (fun _ => ?_); clear hK K; try (simp only [Act.put, List.setIfInBounds_toArray]; dsimp only [List.set_cons_zero, List.set_cons_succ])
          refine tree_leaf ?_
          refine ⟨rfl, ?_, ?_⟩
          · dsimp only [Act.put]
          · rfl
      · skip
        refine tree_do (by rfl) (by rfl) (fun K hK => ?_)
        go_simp
        refine hK.out _ _ (fun _ => trivial) (fun hS => ?_); clear hK K; replace hS := hS rfl; try (simp only [Act.put, List.setIfInBounds_toArray]; dsimp only [List.set_cons_zero, List.set_cons_succ])
        refine tree_do (by rfl) (by rfl) (fun K hK => ?_)
        go_simp
        refine (V2.out _).mono ?_
        rintro e w' ⟨rfl, rfl⟩
        refine hK.out _ _ (fun _ => trivial) (fun hS => ?_); clear hK K; replace hS := hS rfl; try (simp only [Act.put, List.setIfInBounds_toArray]; dsimp only [List.set_cons_zero, List.set_cons_succ])
        refine tree_do (by rfl) (by rfl) (fun K hK => ?_)
        go_simp
        refine (V3.out _).mono ?_
        rintro e w' ⟨rfl, rfl⟩
        refine hK.out _ _ (fun _ => trivial) (fun hS => ?_); clear hK K; replace hS := hS rfl; try (simp only [Act.put, List.setIfInBounds_toArray]; dsimp only [List.set_cons_zero, List.set_cons_succ])
        refine tree_do (by rfl) (by rfl) (fun K hK => ?_)
        go_simp
        refine (V4.out _).mono ?_
        rintro e w' ⟨rfl, rfl⟩
        refine hK.out _ _ (fun _ => trivial) (fun hS => ?_); clear hK K; replace hS := hS rfl; try (simp only [Act.put, List.setIfInBounds_toArray]; dsimp only [List.set_cons_zero, List.set_cons_succ])
        refine tree_do (by rfl) (by rfl) (fun K hK => ?_)
        go_simp
        refine (V5.out _).mono ?_
        rintro e w' ⟨rfl, rfl⟩
        refine hK.out _ _ (fun h => by cases h) (fun _ => ?_); clear hK K; try (simp only [Act.put, List.setIfInBounds_toArray]; dsimp only [List.set_cons_zero, List.set_cons_succ])
        repeat (first
          | (refine tree_read (v := ?_) rfl (fun _ _ _ h => by first | exact h | cases h.1) rfl hS ?_ ?_; rotate_left 1; (focus (intro w' hS'; go_simp; try rfl)); (simp only [Act.put, List.setIfInBounds_toArray]; dsimp only [List.set_cons_zero, List.set_cons_succ]))
          | (refine tree_skip rfl (fun _ _ _ h => by first | exact h | cases h.1) rfl hS ?_; (simp only [Act.put, List.setIfInBounds_toArray]; dsimp only [List.set_cons_zero, List.set_cons_succ])))
        refine tree_do (by rfl) (by rfl) (fun K hK => ?_)
        refine wp_store_row 23 (.tmp 6) (.tmp 26) rfl w0.heap.size _ rfl rfl 23 _ (HBK0.out) (by exact HSZ.out) (Eq.refl 5) (by simp [Value.oneCell']) ?_
        refine hK.out _ _ (fun h => by cases h) (fun _ => ?_); clear hK K; try (simp only [Act.put, List.setIfInBounds_toArray]; dsimp only [List.set_cons_zero, List.set_cons_succ])
        refine tree_leaf ?_
        refine ⟨rfl, ?_, ?_⟩
        · dsimp only [Act.put]
        · rfl
    · skip
      refine tree_do (by rfl) (by rfl) (fun K hK => ?_)
      go_simp
      refine hK.out _ _ (fun _ => trivial) (fun hS => ?_); clear hK K; replace hS := hS rfl; try (simp only [Act.put, List.setIfInBounds_toArray]; dsimp only [List.set_cons_zero, List.set_cons_succ])
      refine tree_do (by rfl) (by rfl) (fun K hK => ?_)
      go_simp
      refine (V1.out _).mono ?_
      rintro e w' ⟨rfl, rfl⟩
      refine hK.out _ _ (fun _ => trivial) (fun hS => ?_); clear hK K; replace hS := hS rfl; try (simp only [Act.put, List.setIfInBounds_toArray]; dsimp only [List.set_cons_zero, List.set_cons_succ])
      refine tree_do (by rfl) (by rfl) (fun K hK => ?_)
      go_simp
      refine (V2.out _).mono ?_
      rintro e w' ⟨rfl, rfl⟩
      refine hK.out _ _ (fun _ => trivial) (fun hS => ?_); clear hK K; replace hS := hS rfl; try (simp only [Act.put, List.setIfInBounds_toArray]; dsimp only [List.set_cons_zero, List.set_cons_succ])
      refine tree_do (by rfl) (by rfl) (fun K hK => ?_)
      go_simp
      refine (V3.out _).mono ?_
      rintro e w' ⟨rfl, rfl⟩
      refine hK.out _ _ (fun _ => trivial) (fun hS => ?_); clear hK K; replace hS := hS rfl; try (simp only [Act.put, List.setIfInBounds_toArray]; dsimp only [List.set_cons_zero, List.set_cons_succ])
      refine tree_do (by rfl) (by rfl) (fun K hK => ?_)
      go_simp
      refine (V4.out _).mono ?_
      rintro e w' ⟨rfl, rfl⟩
      refine hK.out _ _ (fun _ => trivial) (fun hS => ?_); clear hK K; replace hS := hS rfl; try (simp only [Act.put, List.setIfInBounds_toArray]; dsimp only [List.set_cons_zero, List.set_cons_succ])
      refine tree_do (by rfl) (by rfl) (fun K hK => ?_)
      go_simp
      refine (V5.out _).mono ?_
      rintro e w' ⟨rfl, rfl⟩
      refine hK.out _ _ (fun h => by cases h) (fun _ => ?_); clear hK K; try (simp only [Act.put, List.setIfInBounds_toArray]; dsimp only [List.set_cons_zero, List.set_cons_succ])
      repeat (first
        | (refine tree_read (v := ?_) rfl (fun _ _ _ h => by first | exact h | cases h.1) rfl hS ?_ ?_; rotate_left 1; (focus (intro w' hS'; go_simp; try rfl)); (simp only [Act.put, List.setIfInBounds_toArray]; dsimp only [List.set_cons_zero, List.set_cons_succ]))
        | (refine tree_skip rfl (fun _ _ _ h => by first | exact h | cases h.1) rfl hS ?_; (simp only [Act.put, List.setIfInBounds_toArray]; dsimp only [List.set_cons_zero, List.set_cons_succ])))
      refine tree_do (by rfl) (by rfl) (fun K hK => ?_)
      refine wp_store_row 23 (.tmp 6) (.tmp 26) rfl w0.heap.size _ rfl rfl 23 _ (HBK0.out) (by exact HSZ.out) (Eq.refl 5) (by simp [Value.oneCell']) ?_
      refine hK.out _ _ (fun h => by cases h) (fun _ => ?_); clear hK K; try (simp only [Act.put, List.setIfInBounds_toArray]; dsimp only [List.set_cons_zero, List.set_cons_succ])
      refine tree_leaf ?_
      refine ⟨rfl, ?_, ?_⟩
      · dsimp only [Act.put]
      · rfl
    have hB2 := below_setRow (((Below.refl w0.heap.size w0).alloc (Nat.le_refl _) (.cells #[.int .i64 0, .int .i64 0, .int .i64 0, .int .i64 0, .int .i64 0] 23)).drew) (Nat.le_refl _) #[.int .i64 f1, .int .i64 f2, .int .i64 f3, .int .i64 f4, .int .i64 f5]
    have hRW := HBK0.out.setRow #[.int .i64 f1, .int .i64 f2, .int .i64 f3, .int .i64 f4, .int .i64 f5]
    have hsz0 := HSZ0.out
    have hZW := hZ0.below hB2 (by omega)
    have hBW := hB0.trans (hB2.mono (by omega))
    generalize (World.setRow _ _ _) = W at *
    have HZW := Lib.hid hZW; have HBW := Lib.hid hBW; have HRW := Lib.hid hRW
    have HG := Lib.hid (rright_any ⟨f1, f2, f3, f4, f5⟩)
    have hdec : decide (Sp.mk f1 f2 f3 f4 f5).right = decide (rdS b).right := by rw [HR.out]
    rw [hdec] at HG
    have HO := Lib.hid (fun h => roctets_any ⟨f1, f2, f3, f4, f5⟩ h)
    unfold Sp.val at HG HO
    have hwl := hRW.lt
    clear hsz0 V1 V2 V3 V4 V5 hB2 hB0 hZ0 hZW hBW hRW HBK0 hdec x1 x2 x3 x4 x5 HY1 HY2 HY3 HY4 HY5
    by_cases hr : (rdS b).right
    · rw [decide_eq_true hr] at HG
      go_wp2_with (refine wpList_load_row rfl 23 (.tmp 6) rfl w0.heap.size rfl 23 _ (0, 0) _ HRW.out Try.underlying23 rfl (by exact HSZ.out) ?_)
      refine (HG.out _).mono ?_
      rintro e w1 ⟨rfl, hb1⟩
      have HRW1 := Lib.hid (HRW.out.below hb1 HRW.out.lt)
      have HZ1 := Lib.hid (HZW.out.below hb1 HZW.out.lt)
      have HB1 := Lib.hid (HBW.out.trans (hb1.mono HBW.out.size))
      clear hb1
      have c0 : w1.cell? ⟨w0.heap.size, 0, none⟩ = some (.int .i64 f1) := HRW1.out.cell 0
      have c1 : w1.cell? ⟨w0.heap.size, 1, none⟩ = some (.int .i64 f2) := HRW1.out.cell 1
      have c2 : w1.cell? ⟨w0.heap.size, 2, none⟩ = some (.int .i64 f3) := HRW1.out.cell 2
      have c3 : w1.cell? ⟨w0.heap.size, 3, none⟩ = some (.int .i64 f4) := HRW1.out.cell 3
      have c4 : w1.cell? ⟨w0.heap.size, 4, none⟩ = some (.int .i64 f5) := HRW1.out.cell 4
      have HO1 := Lib.hid (HO.out (by rw [← HR.out]; exact hr))
      clear HO HG
      go_wp2_with fail
      refine (HO1.out _).mono ?_
      rintro e w2 ⟨rfl, hb2⟩
      have HRW2 := Lib.hid (HRW1.out.below hb2 HRW1.out.lt)
      have HZ2 := Lib.hid (HZ1.out.below hb2 HZ1.out.lt)
      have HB2 := Lib.hid (HB1.out.trans (hb2.mono HB1.out.size))
      clear hb2 c0 c1 c2 c3 c4 HO1 HRW1 HZ1 HB1 HRW HZW HBW
      have c0 : w2.cell? ⟨w0.heap.size, 0, none⟩ = some (.int .i64 f1) := HRW2.out.cell 0
      have c1 : w2.cell? ⟨w0.heap.size, 1, none⟩ = some (.int .i64 f2) := HRW2.out.cell 1
      have c2 : w2.cell? ⟨w0.heap.size, 2, none⟩ = some (.int .i64 f3) := HRW2.out.cell 2
      have c3 : w2.cell? ⟨w0.heap.size, 3, none⟩ = some (.int .i64 f4) := HRW2.out.cell 3
      have c4 : w2.cell? ⟨w0.heap.size, 4, none⟩ = some (.int .i64 f5) := HRW2.out.cell 4
      have HSS := Lib.hid (show str (spo ⟨f1, f2, f3, f4, f5⟩) = X ↔ spo (rdS b) = b by rw [HX.out, str_eq, HR.out])
      have HST := Lib.hid (show ¬ str (spo ⟨f1, f2, f3, f4, f5⟩) = X → ¬ (str (spo ⟨f1, f2, f3, f4, f5⟩)).toList = X.toList by rw [HX.out, str_toList, str_toList, str_eq]; exact fun h => h)
      generalize str (spo ⟨f1, f2, f3, f4, f5⟩) = SP at *
      by_cases hsp : SP = X
      · subst hsp
        obtain ⟨r, hrr⟩ : ∃ r, r = f1.tmod 2 := ⟨_, rfl⟩
        have hr1 : 1 ≤ f1 ∧ f1 ≤ 1099511627776 := by rw [HR.out] at hr; exact ⟨hr.1, hr.2.1⟩
        have hr2 : 0 ≤ r ∧ r < 2 := by rw [hrr, Int.tmod_eq_emod_of_nonneg (by omega)]; omega
        have hrw : IntKind.i64.wrap r = r := IntWalk.i64_in _ (by omega)
        have HRR := Lib.hid hrr
        replace hrr : f1.tmod 2 = r := hrr.symm
        by_cases hpl : r = place
        · have hyes : rdOk b place := ⟨hlen, hr, HSS.out.1 rfl, by rw [HR.out]; exact hrr.trans hpl⟩
          have HY := Lib.hid hyes
          clear hyes
          subst hpl
          go_wp2_with (refine wpList_store_row rfl 23 (.tmp 4) (.tmp 44) rfl w.heap.size _ rfl rfl 23 _ HZ2.out (by exact HSZ.out) (Eq.refl 5) (by simp [Value.oneCell']) ?_)
          refine bodyPost_ret (results_row_tmp rfl _ _ w.heap.size 23 _ (0, 0) _ rfl (HZ2.out.setRow _) Try.underlying23 rfl (by exact HSZ.out)) rfl ⟨?_, below_setRow HB2.out (Nat.le_refl _) _⟩
          rw [readS, if_pos HY.out, decide_eq_true HY.out, HR.out]
          rfl
        · have hno : ¬ rdOk b place := fun h => hpl (by rw [← h.2.2.2, HR.out]; exact hrr.symm)
          have HNO := Lib.hid hno
          clear hno
          have hpl2 : (r == place) = false := by rw [beq_eq_false_iff_ne]; exact hpl
          have hpl3 : (r != place) = true := by rw [bne, hpl2]; rfl
          go_wp2_with (refine wpList_store_row rfl 23 (.tmp 4) (.tmp 43) rfl w.heap.size _ rfl rfl 23 _ HZ2.out (by exact HSZ.out) (Eq.refl 5) (by simp [Value.oneCell']) ?_)
          refine bodyPost_ret (results_row_tmp rfl _ _ w.heap.size 23 _ (0, 0) _ rfl (HZ2.out.setRow _) Try.underlying23 rfl (by exact HSZ.out)) rfl ⟨?_, below_setRow HB2.out (Nat.le_refl _) _⟩
          rw [readS, if_neg HNO.out, decide_eq_false HNO.out]
          rfl
      · have hno : ¬ rdOk b place := fun h => hsp (HSS.out.2 h.2.2.1)
        have HNO := Lib.hid hno
        clear hno
        have hsp2 := HST.out hsp
        go_wp2_with (refine wpList_store_row rfl 23 (.tmp 4) (.tmp 43) rfl w.heap.size _ rfl rfl 23 _ HZ2.out (by exact HSZ.out) (Eq.refl 5) (by simp [Value.oneCell']) ?_)
        refine bodyPost_ret (results_row_tmp rfl _ _ w.heap.size 23 _ (0, 0) _ rfl (HZ2.out.setRow _) Try.underlying23 rfl (by exact HSZ.out)) rfl ⟨?_, below_setRow HB2.out (Nat.le_refl _) _⟩
        rw [readS, if_neg HNO.out, decide_eq_false HNO.out]
        rfl
    · rw [decide_eq_false hr] at HG
      have hno : ¬ rdOk b place := fun h => hr h.2.1
      go_wp2_with (refine wpList_load_row rfl 23 (.tmp 6) rfl w0.heap.size rfl 23 _ (0, 0) _ HRW.out Try.underlying23 rfl (by exact HSZ.out) ?_)
      refine (HG.out _).mono ?_
      rintro e w1 ⟨rfl, hb1⟩
      have HZ1 := Lib.hid (HZW.out.below hb1 HZW.out.lt)
      have HB1 := Lib.hid (HBW.out.trans (hb1.mono HBW.out.size))
      go_wp2_with (refine wpList_store_row rfl 23 (.tmp 4) (.tmp 43) rfl w.heap.size _ rfl rfl 23 _ HZ1.out (by exact HSZ.out) (Eq.refl 5) (by simp [Value.oneCell']) ?_)
      refine bodyPost_ret (results_row_tmp rfl _ _ w.heap.size 23 _ (0, 0) _ rfl (HZ1.out.setRow _) Try.underlying23 rfl (by exact HSZ.out)) rfl ⟨?_, below_setRow HB1.out (Nat.le_refl _) _⟩
      rw [readS, if_neg hno, decide_eq_false hno]
      rfl
  · have hne : ((b.length : Int) == 128) = false := by rw [beq_eq_false_iff_ne]; omega
    have hno : ¬ rdOk b place := fun h => hlen h.1
    rw [readS, if_neg hno, decide_eq_false hno]
    have hne2 : ((b.length : Int) != 128) = true := by rw [bne, hne]; rfl
    go_enter Try.func15, Try.ntmps15
    go_wp2_with fail
    refine bodyPost_ret (results_row_tmp rfl _ _ w.heap.size 23 _ (0, 0) _ rfl (Blk.new w 23 _) Try.underlying23 rfl (by kernel_rfl)) rfl ⟨rfl, (Below.refl _ _).alloc (Nat.le_refl _) _⟩
end Go.Proofs.Ytdkfijkggccafaa
