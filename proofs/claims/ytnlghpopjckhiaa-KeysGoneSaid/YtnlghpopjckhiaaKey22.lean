/-
  The law KeysGone, walked.
-/
import Derived.Test.YtnlghpopjckhiaaKey21
import Derived.Test.YtnlghpopjckhiaaKey19
import Derived.Test.YtnlghpopjckhiaaTexts
import Derived.Test.YtnlghpopjckhiaaArrArg
namespace Go.Proofs.Ytnlghpopjckhiaa
set_option maxRecDepth 4000
open Go.RowKit

theorem texts_rows {w wr : World} {v : Value} {ps : List Pt} {L : List (List UInt8)} (h : RowsAt w wr v ps L) (hl : L.length ≤ 100000) :
    Calls Try.prog 18 #[v] wr fun e w' => ∃ v', e = .returned v' ∧ w'.ownsRow wr.heap.size 9 1 v' L.length (strs L) ∧ Below wr.heap.size wr w' := by
  have hlen : ps.length = L.length := by have := congrArg List.length h.data; simpa using this
  obtain ⟨A, c, rfl⟩ := own_shape h.row
  have hR : Rws wr A ps := fun h0 => by
    obtain ⟨g, off, e, hc⟩ := (Sees.of_own h.row).2 h0
    exact ⟨g, off, e, fun j p hj => hc j p.val (by rw [List.getElem?_map, hj]; rfl)⟩
  have := texts_any ps A L.length c wr hlen hl hR h.pts
  rw [h.data] at this
  rw [hlen]
  exact this

set_option maxHeartbeats 4000000 in
theorem gone_any (ys : List Ac) (AA : Option Addr) (cap : Nat) (k : List UInt8) (A1 : Option Addr) (n1 c1 : Nat) (x y : Int) (w : World) (hS : Sees w 5 AA ys.length (acs ys)) (hok : ∀ y ∈ ys, AcOk y) (hmax : ys.length ≤ maxLen)
    (hk : k.length = n1) (hK : Sees w 1 A1 n1 (u8s k)) (hn1 : n1 ≤ maxLen) (hx : -9223372036854775808 ≤ x ∧ x ≤ 9223372036854775807) (hy : -9223372036854775808 ≤ y ∧ y ≤ 9223372036854775807) :
    Calls Try.prog 4 #[.slice AA ys.length cap, .slice A1 n1 c1, .agg #[.int .i64 x, .int .i64 y]] w fun e w' => e = .returned (.bool true) ∧ Below w.heap.size w w' := by
  have HAW := Lib.hid awake_any
  have HSM := Lib.hid (fun w h => smalls_any ys AA cap 15 w h hok (by omega) hmax)
  have hbA : Below w.heap.size w (w.alloc (.cells #[.int .i64 x, .int .i64 y] 48)) := (Below.refl _ _).alloc (Nat.le_refl _) _
  have HBX := Lib.hid (Blk.new w 48 #[.int .i64 x, .int .i64 y])
  have HB1 := Lib.hid hbA
  have HS := Lib.hid (hS.below hbA)
  have HK := Lib.hid (hK.below hbA)
  have HOK := Lib.hid hok
  have HKL := Lib.hid hk
  have HA1 := Lib.hid (hK.lt)
  unfold maxLen at hn1
  clear hS hok hK hk hbA
  by_cases h32 : n1 = 32
  · subst h32
    have hlen32 : ((32 : Int) != 32) = false := by decide
    obtain ⟨KS, hKS⟩ : ∃ KS, str k = KS := ⟨_, rfl⟩
    obtain ⟨ZS, hZS⟩ : ∃ ZS, str (List.replicate 32 0) = ZS := ⟨_, rfl⟩
    have hcv : ∀ W, Sees W 1 A1 32 (u8s k) → (convert 37 9 (.slice A1 32 c1)).run Try.prog W = .ok (.string KS) W := fun W h => by rw [← hKS]; exact run_to_string Try.underlying37 Try.underlying5 Try.underlying9 c1 h
    have hmk := make_bytes 32 (by omega)
    obtain ⟨Z, hZ⟩ : ∃ z : Array Value, z = (u8s (List.replicate 32 0)).toArray := ⟨_, rfl⟩
    rw [← hZ] at hmk
    replace hmk : ∀ W : World, (Instr.makeSlice 37 (.int .i64 32) (.int .i64 32)).run Try.prog W = .ok (.slice (some ⟨W.heap.size, 0, none⟩) 32 32) (W.alloc (.cells Z 5)) := hmk
    have hcz : ∀ W : World, (convert 37 9 (.slice (some ⟨W.heap.size, 0, none⟩) 32 32)).run Try.prog (W.alloc (.cells Z 5)) = .ok (.string ZS) (W.alloc (.cells Z 5)) := fun W => by
      rw [← hZS, hZ]
      exact run_to_string Try.underlying37 Try.underlying5 Try.underlying9 32 (sees_mark W 5 (0, 0) (u8s (List.replicate 32 0)) 32 (by rw [length_u8s, List.length_replicate]))
    have hq : (KS.toList == ZS.toList) = decide (k = List.replicate 32 0) := by rw [← hKS, ← hZS, str_toList, str_toList, beq_dec]
    have HCV := Lib.hid hcv
    have HMK := Lib.hid hmk
    have HCZ := Lib.hid hcz
    have HQ := Lib.hid hq
    have HKS := Lib.hid hKS
    clear hcv hmk hcz hq hKS hZS hZ
    go_enter Try.func4, Try.ntmps4
    go_wp2_with fail
    obtain ⟨w1, hw1⟩ : ∃ w1, w.alloc (.cells #[.int .i64 x, .int .i64 y] 48) = w1 := ⟨_, rfl⟩
    obtain ⟨gb, hgb⟩ : ∃ gb, gb = w.heap.size := ⟨_, rfl⟩
    rw [hw1] at HS HK HB1 HBX ⊢
    rw [← hgb] at HBX ⊢
    clear hgb hw1
    refine region_fast [(0, false), (1, true), (2, true), (3, true), (4, false), (5, true), (6, true), (7, true), (8, true), (9, true), (10, true), (11, true), (12, true), (13, true), (14, true), (15, false), (16, false), (17, true), (18, true)] [15, 16] 98304 [(262144, 0, 0, 0), (524288, 262144, 1, 1), (1048576, 524288, 3, 3), (2097152, 1048577, 4, 7), (4194304, 3145728, 12, 15), (8388608, 5242880, 20, 31), (16777216, 9437184, 36, 63), (33554432, 16777216, 80, 127), (67108864, 33554434, 128, 255), (134217728, 100663296, 384, 511), (268435456, 167772160, 640, 1023), (536870912, 301989888, 1152, 2047), (1073741824, 536870912, 2176, 4095), (2147483648, 1073741826, 4096, 8191), (4294967296, 3221225472, 12288, 16383), (8589934592, 1073741824, 4096, 8191), (17179869184, 9663676416, 36864, 40959), (34359738368, 22548578304, 86016, 131071), (68719476736, 35433480192, 135168, 262143)] (fun W => Sees W 1 A1 32 (u8s k)) (by kernel_rfl) (by kernel_rfl) (by kernel_rfl) rfl (by kernel_rfl) (by kernel_rfl) HK.out (fun hS => ?_)
    refine plan_do (by rfl) (by rfl) (fun K hK => ?_)
    go_simp
    refine (HAW.out _).mono ?_
    rintro e w2 ⟨rfl, hb2⟩
    have HB2 := Lib.hid (below_of_drew hb2); clear hb2
    refine hK.out _ _ (fun h => by cases h) (fun _ => ?_); clear hK K; try (simp only [Act.put, List.setIfInBounds_toArray]; dsimp only [List.set_cons_zero, List.set_cons_succ])
    clear hS
    have hS := HK.out.below HB2.out
    repeat (first
      | (refine plan_read (v := ?_) rfl (fun _ _ _ h => h) rfl hS ?_ ?_; rotate_left 1; (focus (intro w' hS'; have q0 := HCV.out _ hS'; go_simp; try rfl)); (simp only [Act.put, List.setIfInBounds_toArray]; dsimp only [List.set_cons_zero, List.set_cons_succ]))
      | (refine plan_skip rfl (fun _ _ _ h => h) rfl hS ?_; (simp only [Act.put, List.setIfInBounds_toArray]; dsimp only [List.set_cons_zero, List.set_cons_succ])))
    refine plan_do (by rfl) (by rfl) (fun K hK => ?_)
    go_simp
    refine (HSM.out _ (HS.out.below HB2.out)).mono ?_
    rintro e w3 ⟨hr, hb3⟩
    have HB3 := Lib.hid (HB2.out.trans (hb3.mono HB2.out.size)); clear hb3
    rcases hr with rfl | ⟨rfl, hl15⟩
    · skip
      refine hK.out _ _ (fun h => by cases h) (fun _ => ?_); clear hK K; try (simp only [Act.put, List.setIfInBounds_toArray]; dsimp only [List.set_cons_zero, List.set_cons_succ])
      clear hS
      have hS := HK.out.below HB3.out
      repeat (first
        | (refine plan_read (v := ?_) rfl (fun _ _ _ h => h) rfl hS ?_ ?_; rotate_left 1; (focus (intro w' hS'; have q0 := HCV.out _ hS'; go_simp; try rfl)); (simp only [Act.put, List.setIfInBounds_toArray]; dsimp only [List.set_cons_zero, List.set_cons_succ]))
        | (refine plan_skip rfl (fun _ _ _ h => h) rfl hS ?_; (simp only [Act.put, List.setIfInBounds_toArray]; dsimp only [List.set_cons_zero, List.set_cons_succ])))
      refine plan_pass (by rfl) (by rfl) (fun _ => hS) ?_; try (simp only [Act.put, List.setIfInBounds_toArray]; dsimp only [List.set_cons_zero, List.set_cons_succ])
      refine plan_pass (by rfl) (by rfl) (fun _ => hS) ?_; try (simp only [Act.put, List.setIfInBounds_toArray]; dsimp only [List.set_cons_zero, List.set_cons_succ])
      repeat (first
        | (refine plan_read (v := ?_) rfl (fun _ _ _ h => h) rfl hS ?_ ?_; rotate_left 1; (focus (intro w' hS'; skip; go_simp; try rfl)); (simp only [Act.put, List.setIfInBounds_toArray]; dsimp only [List.set_cons_zero, List.set_cons_succ]))
        | (refine plan_skip rfl (fun _ _ _ h => h) rfl hS ?_; (simp only [Act.put, List.setIfInBounds_toArray]; dsimp only [List.set_cons_zero, List.set_cons_succ])))
      refine plan_nil ?_
      go_wp2_with fail
      refine (HAW.out _).mono ?_
      rintro e w4 ⟨rfl, hb4⟩
      have HB4 := Lib.hid ((HB1.out.trans (HB3.out.mono HB1.out.size)).trans (hb4.mono (HB1.out.trans (HB3.out.mono HB1.out.size)).size))
      go_wp2_with fail
      go_ret
      exact ⟨rfl, HB4.out⟩
    · have HL15 := hl15
      clear hl15
      refine hK.out _ _ (fun h => by cases h) (fun _ => ?_); clear hK K; try (simp only [Act.put, List.setIfInBounds_toArray]; dsimp only [List.set_cons_zero, List.set_cons_succ])
      clear hS
      have hS := HK.out.below HB3.out
      repeat (first
        | (refine plan_read (v := ?_) rfl (fun _ _ _ h => h) rfl hS ?_ ?_; rotate_left 1; (focus (intro w' hS'; have q0 := HCV.out _ hS'; go_simp; try rfl)); (simp only [Act.put, List.setIfInBounds_toArray]; dsimp only [List.set_cons_zero, List.set_cons_succ]))
        | (refine plan_skip rfl (fun _ _ _ h => h) rfl hS ?_; (simp only [Act.put, List.setIfInBounds_toArray]; dsimp only [List.set_cons_zero, List.set_cons_succ])))
      refine plan_do (by rfl) (by rfl) (fun K hK => ?_)
      have hmk := HMK.out
      go_simp
      clear hmk
      have hb4 : Below w3.heap.size w3 (w3.alloc (.cells Z 5)) := (Below.refl _ _).alloc (Nat.le_refl _) _
      have HB4 := Lib.hid (HB3.out.trans (hb4.mono HB3.out.size))
      have HCZ4 := Lib.hid (HCZ.out w3)
      clear hb4
      generalize w3.alloc (.cells Z 5) = w4 at *
      clear hS
      refine hK.out _ _ (fun _ => HK.out.below HB4.out) (fun hS => ?_); clear hK K; replace hS := hS rfl; try (simp only [Act.put, List.setIfInBounds_toArray]; dsimp only [List.set_cons_zero, List.set_cons_succ])
      refine plan_do (by rfl) (by rfl) (fun K hK => ?_)
      have hcz := HCZ4.out
      go_simp
      clear hcz
      refine hK.out _ _ (fun _ => HK.out.below HB4.out) (fun hS => ?_); clear hK K; replace hS := hS rfl; try (simp only [Act.put, List.setIfInBounds_toArray]; dsimp only [List.set_cons_zero, List.set_cons_succ])
      have hq := HQ.out
      by_cases hz : k = List.replicate 32 0
      · rw [decide_eq_true hz] at hq
        clear hz
        repeat (first
          | (refine plan_read (v := ?_) rfl (fun _ _ _ h => h) rfl hS ?_ ?_; rotate_left 1; (focus (intro w' hS'; skip; go_simp; try rfl)); (simp only [Act.put, List.setIfInBounds_toArray]; dsimp only [List.set_cons_zero, List.set_cons_succ]))
          | (refine plan_skip rfl (fun _ _ _ h => h) rfl hS ?_; (simp only [Act.put, List.setIfInBounds_toArray]; dsimp only [List.set_cons_zero, List.set_cons_succ])))
        refine plan_nil ?_
        go_wp2_with fail
        refine (HAW.out _).mono ?_
        rintro e w5 ⟨rfl, hb5⟩
        have HB5 := Lib.hid ((HB1.out.trans (HB4.out.mono HB1.out.size)).trans (hb5.mono (HB1.out.trans (HB4.out.mono HB1.out.size)).size))
        go_wp2_with fail
        go_ret
        exact ⟨rfl, HB5.out⟩
      · rw [decide_eq_false hz] at hq
        have HNZ := Lib.hid hz
        clear hz
        repeat (first
          | (refine plan_read (v := ?_) rfl (fun _ _ _ h => h) rfl hS ?_ ?_; rotate_left 1; (focus (intro w' hS'; skip; go_simp; try rfl)); (simp only [Act.put, List.setIfInBounds_toArray]; dsimp only [List.set_cons_zero, List.set_cons_succ]))
          | (refine plan_skip rfl (fun _ _ _ h => h) rfl hS ?_; (simp only [Act.put, List.setIfInBounds_toArray]; dsimp only [List.set_cons_zero, List.set_cons_succ])))
        refine plan_nil ?_
        clear hq HQ HCZ4 HCZ HMK HAW HSM HB3 HB2 hS
        have HN := Lib.hid (fun w => new_good 16 w (by omega) (by omega))
        have HO := Lib.hid (open_fresh 8 (by omega) (by omega))
        go_wp2_with fail
        refine (HN.out _).mono ?_
        rintro e w5 ⟨⟨b, F, rfl, hD, hF⟩, hb5⟩
        have HOX := Lib.hid (HO.out b F w5 hD (fun k hk => (hF k hk).2))
        have HB5 := Lib.hid (HB4.out.trans (hb5.mono HB4.out.size))
        have HF5 := Lib.hid (fun k hk => Nat.le_trans HB4.out.size (hF k hk).1)
        clear hD hF hb5 HN HO HB4
        go_wp2_with fail
        refine HOX.out.mono ?_
        rintro e w6 ⟨t, sg, rfl, F6, K6, G6, st, fr, sub⟩
        have hn6 : ∀ k, k < w1.heap.size → ¬ G6 k := fun k hk hg => Nat.not_le.2 hk (HF5.out k (sub k (Nat.lt_of_lt_of_le hk HB5.out.size) hg))
        have hb6 : Below w1.heap.size w1 w6 := HB5.out.trans (fr.below HB5.out.size (fun k hk => HF5.out k hk))
        have hG0 : GoodG k (List.replicate 8 none) false := by
          have hn : ∀ (m : Nat) (p : Nat × List UInt8), (List.replicate 8 (none : Kd))[m]? ≠ some (some p) := fun m p h => by
            rw [List.getElem?_replicate] at h
            split at h <;> cases h
          exact ⟨by simp, fun m p h => absurd h (hn m p), fun i j p q h => absurd h (hn i p), ⟨(fun h => by cases h), fun ⟨m, h⟩ => absurd h (hn m _)⟩⟩
        have HG6 := Lib.hid (show Gon w1 w6 t b sg k (List.replicate 8 none) false from ⟨⟨_, F6, K6, G6, st, by rw [List.map_replicate, List.map_replicate]; rfl, hn6⟩, hb6, hG0⟩)
        clear st fr sub hn6 hb6 hG0 HOX HB5 HF5
        obtain ⟨r, hr0⟩ : ∃ r, r = restN x ys.length := ⟨_, rfl⟩
        have hrl : 0 < ys.length → r < ys.length := fun h => by rw [hr0]; exact restN_lt _ _ h
        have hrest : 0 < ys.length → ∀ w, Calls Try.prog 9 #[.int .i64 x, .int .i64 ys.length] w fun e w' => e = .returned (.int .i64 (r : Nat)) ∧ w = w' := fun h w => by
          rw [hr0]
          exact rest_at x ys.length w hx.1 hx.2 h (by have := HL15.out; omega)
        have HRL := Lib.hid hrl
        have HRS := Lib.hid hrest
        clear hr0 hrl hrest hx
        go_wp2_with fail
        go_loopw [11, 12] (fun l i wr => ∃ (j : Nat) (ld : Bool), i = .int .i64 j ∧ l = .bool ld ∧ j ≤ ys.length ∧ Hid (ld = decide (r < j)) ∧ Hid (∃ Q, Gon w1 wr t b sg k Q ld)) (fun _ i _ => ys.length - (intOf i).toNat)
        case atStart => exact ⟨0, false, rfl, rfl, Nat.zero_le _, Lib.hid (decide_eq_false (Nat.not_lt_zero r)).symm, Lib.hid ⟨_, HG6.out⟩⟩
        case round =>
          obtain ⟨j, ld, rfl, rfl, hj, hld, hr⟩ := hrel
          by_cases hlt : j < ys.length
          · obtain ⟨Q, hN⟩ := hr.out
            have hl15 : ys.length ≤ 15 := HL15.out
            have hget : ys[j]? = some (ys[j]'hlt) := List.getElem?_eq_getElem hlt
            generalize ys[j] = ya at hget
            obtain ⟨g, o, rfl, q0, q1, q2, q3, q4⟩ := in_act (HS.out.below hN.bel) hget
            have hyo := HOK.out ya (List.mem_of_getElem? hget)
            have HR7 := Lib.hid (rest_at ya.bk 7 wr hyo.2.1.1 hyo.2.1.2 (by omega) (by omega))
            have hx7 : restN ya.bk 7 < 7 := restN_lt _ _ (by omega)
            generalize restN ya.bk 7 = x7 at HR7 hx7
            have hkd := hyo.1
            obtain ⟨kd, bk, bb, kA, kl, kc, pA, pl, pc⟩ := ya
            simp only at q0 q1 q2 hkd HR7
            have HKY := Lib.hid (fun w => key_any bb w)
            have HOC := Lib.hid (fun w => roctets_any x7 (keyc bb) (by omega) (keyc_length _) w)
            obtain ⟨D, hD, hwi⟩ := within_b k (keyo x7 (keyc bb)) (by rw [HKL.out]; omega) (by rw [keyo_length _ _ (keyc_length _)]; omega)
            have HWI := Lib.hid hwi
            have HDD := Lib.hid hD
            clear hwi hD
            have HNN := Lib.hid hN
            have HGE := Lib.hid hget
            have hS14 : Sees wr 1 A1 32 (u8s k) := HK.out.below hN.bel
            have hq2 : wr.cell? ⟨g, o + j * 5 + 2, none⟩ = some (.int .u8 (bb.toNat : Nat)) := q2
            have hrn := HRL.out (by omega)
            have HRX := Lib.hid (HRS.out (by omega))
            have hbx : ∀ W, Below wr.heap.size wr W → W.cell? ⟨gb, 0, none⟩ = some (.int .i64 x) := fun W hW => by
              have := HBX.out.below hN.bel HBX.out.lt
              exact (this.below hW this.lt).cell 0
            have HBXX := Lib.hid hbx
            have hac : ∀ W, Below wr.heap.size wr W → W.cell? ⟨g, o + j * 5, none⟩ = some (.int .i64 kd) ∧ W.cell? ⟨g, o + j * 5 + 2, none⟩ = some (.int .u8 (bb.toNat : Nat)) := fun W hW =>
              ⟨(World.cell?_of_block (a := ⟨g, o + j * 5, none⟩) (hW.block g (World.block_lt_of_cell? _ _ q0))).trans q0, (World.cell?_of_block (a := ⟨g, o + j * 5 + 2, none⟩) (hW.block g (World.block_lt_of_cell? _ _ q2))).trans q2⟩
            have HAC := Lib.hid hac
            clear hN hget q0 q2 q3 q4 hyo hr hbx hac HRL
            go_wp2_with fail
            refine HR7.out.mono ?_
            rintro e w7 ⟨rfl, rfl⟩
            go_wp2_with fail
            refine region_fast [(0, true), (1, true), (2, true), (3, true), (4, true), (5, true), (6, true), (7, true), (8, false), (9, false), (10, false), (11, false)] [2, 3, 4, 5, 6, 7, 8, 9, 10] 2044 [(9223372036854775808, 2, 0, 0), (18446744073709551616, 9223372036854775808, 1, 1), (36893488147419103232, 8192, 0, 0), (73786976294838206464, 1, 0, 0), (147573952589676412928, 4096, 0, 0), (295147905179352825856, 221360928884514619392, 24, 24), (590295810358705651712, 295147905179352825856, 32, 56), (1180591620717411303424, 590295810358705651712, 64, 120), (2361183241434822606848, 1180591620717411303424, 128, 248), (4722366482869645213696, 2361183241434822606848, 256, 504), (9444732965739290427392, 4759259971017064316928, 772, 1020), (18889465931478580854784, 9463179709812999979008, 1026, 2047)] (fun W => Sees W 1 A1 32 (u8s k) ∧ W.cell? ⟨g, o + j * 5 + 2, none⟩ = some (.int .u8 (bb.toNat : Nat))) (by kernel_rfl) (by kernel_rfl) (by kernel_rfl) rfl (by kernel_rfl) (by kernel_rfl) ⟨hS14, hq2⟩ (fun hS => ?_)
            repeat (first
              | (refine plan_read (v := ?_) rfl (fun _ _ _ h => h) rfl hS ?_ ?_; rotate_left 1; (focus (intro w' hS'; have e0 := HCV.out _ hS'.1; have e1 := hS'.2; go_simp; try rfl)); (simp only [Act.put, List.setIfInBounds_toArray]; dsimp only [List.set_cons_zero, List.set_cons_succ]))
              | (refine plan_skip rfl (fun _ _ _ h => h) rfl hS ?_; (simp only [Act.put, List.setIfInBounds_toArray]; dsimp only [List.set_cons_zero, List.set_cons_succ])))
            refine plan_do (by rfl) (by rfl) (fun K hK => ?_)
            go_simp
            refine (HKY.out _).mono ?_
            rintro e w7 ⟨⟨v7, rfl, ho7⟩, hb7⟩
            obtain ⟨A7, c7, rfl⟩ := own_shape ho7
            obtain ⟨T7, hT7⟩ : ∃ T, str (keyc bb) = T := ⟨_, rfl⟩
            have hcv7 := run_to_string Try.underlying37 Try.underlying5 Try.underlying9 c7 (Sees.of_own ho7)
            rw [hT7] at hcv7 HOC
            have HB7 := Lib.hid (below_of_drew hb7)
            clear ho7 hb7 hT7 hS14 hq2
            have HSS := Lib.hid (fun W (hW : Below wr.heap.size wr W) => And.intro (HK.out.below (HNN.out.bel.trans (hW.mono HNN.out.bel.size))) (HAC.out W hW).2)
            refine hK.out _ _ (fun _ => HSS.out w7 HB7.out) (fun hS => ?_); clear hK K; replace hS := hS rfl; try (simp only [Act.put, List.setIfInBounds_toArray]; dsimp only [List.set_cons_zero, List.set_cons_succ])
            refine plan_do (by rfl) (by rfl) (fun K hK => ?_)
            go_simp
            clear hcv7
            refine hK.out _ _ (fun _ => HSS.out w7 HB7.out) (fun hS => ?_); clear hK K; replace hS := hS rfl; try (simp only [Act.put, List.setIfInBounds_toArray]; dsimp only [List.set_cons_zero, List.set_cons_succ])
            obtain ⟨O8, hO8⟩ : ∃ O, str (keyo x7 (keyc bb)) = O := ⟨_, rfl⟩
            rw [hO8] at HOC HWI
            rw [HKS.out] at HWI
            clear hO8
            refine plan_do (by rfl) (by rfl) (fun K hK => ?_)
            go_simp
            refine (HOC.out _).mono ?_
            rintro e w8 ⟨rfl, hb8⟩
            have HB8 := Lib.hid (HB7.out.trans (hb8.mono HB7.out.size)); clear hb8
            refine hK.out _ _ (fun _ => HSS.out w8 HB8.out) (fun hS => ?_); clear hK K; replace hS := hS rfl; try (simp only [Act.put, List.setIfInBounds_toArray]; dsimp only [List.set_cons_zero, List.set_cons_succ])
            refine plan_do (by rfl) (by rfl) (fun K hK => ?_)
            go_simp
            refine (HWI.out _).mono ?_
            rintro e w9 ⟨rfl, hb9⟩
            have HB9 := Lib.hid (HB8.out.trans (hb9.mono HB8.out.size)); clear hb9 HWI HOC
            refine hK.out _ _ (fun h => by cases h) (fun _ => ?_); clear hK K; try (simp only [Act.put, List.setIfInBounds_toArray]; dsimp only [List.set_cons_zero, List.set_cons_succ])
            try refine plan_nil ?_
            have HG9 := Lib.hid (HNN.out.below HB9.out)
            cases D with
            | true =>
              go_wp2_with fail
              go_ret
              exact ⟨rfl, HB1.out.trans (HG9.out.bel.mono HB1.out.size)⟩
            | false =>
              have HST := Lib.hid (fun h => Bool.false_ne_true (HDD.out.2 h))
              have hb0 := HBXX.out w9 HB9.out
              by_cases hjr : j = r
              · have hjb : ((j : Int) == (r : Int)) = true := by rw [beq_iff_eq]; omega
                have hldf : ld = false := by rw [hld.out]; exact decide_eq_false (by omega)
                have LDQ : Hid (true = decide (r < j + 1)) := Lib.hid (decide_eq_true (by omega)).symm
                subst hldf
                clear hjr hld HSS
                go_wp2_with fail
                refine (HRX.out _).mono ?_
                rintro e w10 ⟨rfl, rfl⟩
                obtain ⟨ad, rfl⟩ : ∃ ad, A1 = some ad := by
                  obtain ⟨g1, o1, e, -⟩ := HK.out.2 (by omega)
                  exact ⟨_, e⟩
                have HPK := Lib.hid (put_gon HG9.out HKL.out 100 k HKL.out (.inr ⟨rfl, rfl⟩) w9 ad c1 (Below.refl _ _) (HK.out.below HG9.out.bel) (.inr (Nat.lt_of_lt_of_le (HA1.out (by omega) (by omega) ad rfl) HB1.out.size)))
                have HBW := Lib.hid HB9.out.size
                go_wp2_with fail
                refine HPK.out.mono ?_
                rintro e w11 ⟨v, Q', ld', rfl, hg11, -, h2⟩
                obtain ⟨rfl, rfl⟩ := h2 (by first | rfl | trivial) (by first | rfl | trivial)
                have HG11 := Lib.hid hg11
                clear hg11 h2 HPK
                have hc9 : w11.cell? ⟨g, o + j * 5, none⟩ = some (.int .i64 kd) ∧ w11.cell? ⟨g, o + j * 5 + 2, none⟩ = some (.int .u8 (bb.toNat : Nat)) := by
                  obtain ⟨g', o', e', r0, r1, r2, -, -⟩ := in_act (HS.out.below HG11.out.bel) HGE.out
                  injection e' with e'
                  injection e' with e1 e2
                  subst e1 e2
                  exact ⟨r0, r2⟩
                obtain ⟨r0, r2⟩ := hc9
                by_cases hev : kd.tmod 2 = 0
                · have hev' : (kd.tmod 2 == 0) = true := by rw [beq_iff_eq]; exact hev
                  clear hev
                  go_wp2_with fail
                  refine (HKY.out _).mono ?_
                  rintro e w12 ⟨⟨v12, rfl, ho12⟩, hb12⟩
                  obtain ⟨g12, c12, cur12, rfl, hg12, -, -, -, -⟩ := own_open ho12 (by omega)
                  have HPT := Lib.hid (put_gon HG11.out HKL.out x7 (keyc bb) (keyc_length _) (.inl ⟨hx7, HST.out⟩) w12 ⟨g12, 0, none⟩ c12 hb12 (Sees.of_own ho12) (.inl hg12))
                  clear ho12 hb12 hg12
                  go_wp2_with fail
                  refine HPT.out.mono ?_
                  rintro e w13 ⟨v13, Q', ld', rfl, hg13, h2, -⟩
                  obtain rfl := h2 (by omega)
                  have HZN := Lib.hid hg13
                  clear hg13 h2 HPT
                  go_wp2_with fail
                  go_roundw
                  case rel => exact ⟨j + 1, _, by go_num, rfl, by omega, LDQ, Lib.hid ⟨_, HZN.out⟩⟩
                  case measure => simp [intOf]; omega
                · have hev' : (kd.tmod 2 == 0) = false := by rw [beq_eq_false_iff_ne]; exact hev
                  clear hev
                  go_wp2_with fail
                  refine (shred_gon HG11.out HKL.out x7).mono ?_
                  rintro e w13 ⟨v13, Q', ld', rfl, hg13, h2, -⟩
                  obtain rfl := h2 (by omega)
                  have HZN := Lib.hid hg13
                  clear hg13 h2
                  go_wp2_with fail
                  go_roundw
                  case rel => exact ⟨j + 1, _, by go_num, rfl, by omega, LDQ, Lib.hid ⟨_, HZN.out⟩⟩
                  case measure => simp [intOf]; omega
              · have hjb : ((j : Int) == (r : Int)) = false := by rw [beq_eq_false_iff_ne]; omega
                have LDQ : Hid (ld = decide (r < j + 1)) := Lib.hid (by rw [hld.out]; exact decide_eq_decide.2 (by omega))
                have hc9 := HAC.out w9 HB9.out
                obtain ⟨r0, r2⟩ := hc9
                have HG11 := HG9
                clear hjr hld HSS
                go_wp2_with fail
                refine (HRX.out _).mono ?_
                rintro e w10 ⟨rfl, rfl⟩
                by_cases hev : kd.tmod 2 = 0
                · have hev' : (kd.tmod 2 == 0) = true := by rw [beq_iff_eq]; exact hev
                  clear hev
                  go_wp2_with fail
                  refine (HKY.out _).mono ?_
                  rintro e w12 ⟨⟨v12, rfl, ho12⟩, hb12⟩
                  obtain ⟨g12, c12, cur12, rfl, hg12, -, -, -, -⟩ := own_open ho12 (by omega)
                  have HPT := Lib.hid (put_gon HG11.out HKL.out x7 (keyc bb) (keyc_length _) (.inl ⟨hx7, HST.out⟩) w12 ⟨g12, 0, none⟩ c12 hb12 (Sees.of_own ho12) (.inl hg12))
                  clear ho12 hb12 hg12
                  go_wp2_with fail
                  refine HPT.out.mono ?_
                  rintro e w13 ⟨v13, Q', ld', rfl, hg13, h2, -⟩
                  obtain rfl := h2 (by omega)
                  have HZN := Lib.hid hg13
                  clear hg13 h2 HPT
                  go_wp2_with fail
                  go_roundw
                  case rel => exact ⟨j + 1, _, by go_num, rfl, by omega, LDQ, Lib.hid ⟨_, HZN.out⟩⟩
                  case measure => simp [intOf]; omega
                · have hev' : (kd.tmod 2 == 0) = false := by rw [beq_eq_false_iff_ne]; exact hev
                  clear hev
                  go_wp2_with fail
                  refine (shred_gon HG11.out HKL.out x7).mono ?_
                  rintro e w13 ⟨v13, Q', ld', rfl, hg13, h2, -⟩
                  obtain rfl := h2 (by omega)
                  have HZN := Lib.hid hg13
                  clear hg13 h2
                  go_wp2_with fail
                  go_roundw
                  case rel => exact ⟨j + 1, _, by go_num, rfl, by omega, LDQ, Lib.hid ⟨_, HZN.out⟩⟩
                  case measure => simp [intOf]; omega
          · obtain rfl : j = ys.length := by omega
            obtain ⟨Q, hN⟩ := hr.out
            cases ld with
            | false =>
              have HNN := Lib.hid hN
              clear hr hN
              go_wp2_with fail
              go_ret
              exact ⟨rfl, HB1.out.trans (HNN.out.bel.mono HB1.out.size)⟩
            | true =>
              have HSH := Lib.hid (shred_gon hN HKL.out 100)
              clear hr hN
              go_wp2_with fail
              refine HSH.out.mono ?_
              rintro e w7 ⟨v7, Q', ld', rfl, hg7, -, h2⟩
              obtain ⟨rfl, rfl⟩ := h2 (by first | rfl | trivial) (by first | rfl | trivial)
              have HG7 := Lib.hid hg7
              have HCL := Lib.hid (hg7.good.clean HKL.out HNZ.out)
              have HAL := Lib.hid (fun wr (h : Gon w1 wr t b sg k Q' false) => all_gon h HKL.out)
              have hL16 : ((List.range 16).map (sect (slos (cl Q')))).length = 16 := by simp
              generalize (List.range 16).map (sect (slos (cl Q'))) = L at HCL HAL hL16
              clear hg7 h2 HSH
              go_wp2_with fail
              refine (HAL.out _ HG7.out).mono ?_
              rintro e w8 ⟨v8, ps, rfl, hrows⟩
              have HRO := Lib.hid hrows
              clear hrows
              go_wp2_with fail
              refine (texts_rows HRO.out (by omega)).mono ?_
              rintro e w9 ⟨v9, rfl, ho9, hb9⟩
              have HB9 := Lib.hid (HRO.out.bel.trans (hb9.mono HRO.out.bel.size))
              have HO9 := Lib.hid (own_base (base' := w7.heap.size) ho9 HRO.out.bel.size)
              have hz9 := HB9.out.size
              have hy1 : ∀ W, Below w1.heap.size w1 W → W.cell? ⟨gb, 1, none⟩ = some (.int .i64 y) := fun W hW => (HBX.out.below hW HBX.out.lt).cell 1
              have e9 := hy1 w9 (HG7.out.below HB9.out).bel
              have halc : Below w9.heap.size w9 (w9.alloc (.cells #[.int .i64 y] 3)) := (Below.refl _ _).alloc (Nat.le_refl _) _
              have hcr := crash_gon (HG7.out.below (HB9.out.trans (halc.mono HB9.out.size))) HKL.out (some ⟨w9.heap.size, 0, none⟩) 1 1 [y] rfl (by unfold maxLen; omega) (sees_new w9 3 [.int .i64 y] 1 1 rfl) w7 HG7.out (HB9.out.trans (halc.mono HB9.out.size)) (fun a ha => by injection ha with ha; subst ha; exact hz9)
              have HCR := Lib.hid hcr
              have HO9' := Lib.hid (own_below HO9.out halc)
              clear ho9 hb9 hy1 hcr halc
              go_wp2_with fail
              refine HCR.out.mono ?_
              rintro e w10 ⟨⟨z10, rfl⟩, hg10, hf10, ET, KT, ht1, ht2, ht3⟩
              have HT10 := Lib.hid (And.intro ht1 (And.intro ht2 ht3))
              have HG10 := Lib.hid hg10
              have HO10 := Lib.hid (own_keep HO9'.out (fun g hg => hf10 g (HO9'.out.lt g hg).1 (HO9'.out.lt g hg).2))
              clear hg10 hf10 ht1 ht2 ht3 HCR HO9' HO9 e9
              go_wp2_with fail
              refine (HAL.out _ HG10.out).mono ?_
              rintro e w11 ⟨v11, ps2, rfl, hrows⟩
              have HR2 := Lib.hid hrows
              clear hrows
              go_wp2_with fail
              refine (texts_rows HR2.out (by omega)).mono ?_
              rintro e w12 ⟨v12, rfl, ho12, hb12⟩
              have HB12 := Lib.hid (HR2.out.bel.trans (hb12.mono HR2.out.bel.size))
              have HG12 := Lib.hid (HG10.out.below HB12.out)
              have HO12 := Lib.hid (own_below HO10.out HB12.out)
              obtain ⟨A12, c12, rfl⟩ := own_shape ho12
              obtain ⟨A9, c9, rfl⟩ := own_shape HO12.out
              have hS12 := Sees.of_own ho12
              rw [hL16] at hS12 HO12 ⊢
              have HO12 := Lib.hid (own_base (base' := w1.heap.size) HO12.out HG7.out.bel.size)
              have hz12 := HG12.out.bel.size
              have HS12 := Lib.hid hS12
              have HL16 := Lib.hid hL16
              clear ho12 hb12 hS12 hL16
              go_wp2_with (at_builtin; refine wpList_app rfl (.tmp 122) (.tmp 125) _ rfl w1.heap.size 9 _ 1 16 Try.underlying51 info_string rfl (by decide) _ 16 _ rfl HO12.out A12 16 c12 (strs L) rfl HS12.out (strs_one L) (by unfold maxLen; omega) (by omega) hz12 ?_; intro v13 w13 hown13 hgr13 hat13 hnil13; have HOW13 := Lib.hid (And.intro hown13 hgr13); clear hown13 hgr13 hat13 hnil13)
              have hgr : w12.grownBy w13 (Value.slice A9 16 c9).ownBlock := HOW13.out.2
              have hB13 : Below w1.heap.size w1 w13 := HG12.out.bel.grown hgr hz12 (fun k hk => (HO12.out.lt k hk).1)
              have hT13 : KAt w13 t b sg (0 : Nat) ET false KT := (HT10.out.1.below HB12.out).keep (fun k hk hl => hgr.block k hl (fun e => by
                have h1 := (HO10.out.lt k (by cases A9 with | none => cases e | some a => exact e.symm)).1
                have h2 := HT10.out.2.1 k hk
                omega))
              obtain ⟨A13, c13, rfl⟩ := own_shape HOW13.out.1
              have hs13 := Sees.of_own HOW13.out.1
              rw [show strs L ++ strs L = strs (L ++ L) by unfold strs; rw [List.map_append]] at hs13
              have HT13 := Lib.hid (And.intro hT13 (And.intro hs13 hB13))
              have HCC := Lib.hid (show ∀ t ∈ L ++ L, t.length = 128 ∧ ¬ Stands k t from fun t ht => (List.mem_append.1 ht).elim (HCL.out t) (HCL.out t))
              have HLL := Lib.hid (show (L ++ L).length = 32 by rw [List.length_append, HL16.out])
              generalize L ++ L = M at hs13 HT13 HCC HLL
              clear hgr hB13 hT13 hs13 HOW13 HO12 HO10 HR2 HRO HG12 hz12 hz9
              rw [show 16 + 16 = 32 from rfl]
              go_loopw [15] (fun i wr => ∃ j : Nat, i = .int .i64 j ∧ j ≤ 32 ∧ Hid (Below w13.heap.size w13 wr)) (fun i _ => 32 - (intOf i).toNat)
              case atStart => exact ⟨0, rfl, Nat.zero_le _, Lib.hid (Below.refl _ _)⟩
              case round =>
                obtain ⟨j, rfl, hj, hr⟩ := hrel
                by_cases hlt : j < 32
                · have hlti : (j : Int) < 32 := by omega
                  have hMj : M[j]? = some (M[j]'(by rw [HLL.out]; exact hlt)) := List.getElem?_eq_getElem (by rw [HLL.out]; exact hlt)
                  generalize M[j]'(by rw [HLL.out]; exact hlt) = tx at hMj
                  obtain ⟨hx1, hx2⟩ := HCC.out tx (List.mem_of_getElem? hMj)
                  obtain ⟨g, o, rfl, hcs⟩ := HT13.out.2.1.2 (by omega)
                  have hc0 := hcs j (.string (str tx)) (by unfold strs; rw [List.getElem?_map, hMj]; rfl)
                  have hcr : wr.cell? ⟨g, o + j, none⟩ = some (.string (str tx)) := (World.cell?_of_block (a := ⟨g, o + j, none⟩) (hr.out.block g (World.block_lt_of_cell? _ _ hc0))).trans hc0
                  obtain ⟨D, hD, hwi⟩ := within_b k tx (by rw [HKL.out]; omega) (by omega)
                  have hDf : D = false := by
                    cases D with
                    | false => rfl
                    | true => exact absurd (hD.1 rfl) hx2
                  subst hDf
                  rw [HKS.out] at hwi
                  obtain ⟨TX, hTX⟩ : ∃ T, str tx = T := ⟨_, rfl⟩
                  rw [hTX] at hwi hcr
                  have HWI := Lib.hid hwi
                  have hSk : Sees wr 1 A1 32 (u8s k) := HK.out.below (HT13.out.2.2.trans (hr.out.mono HT13.out.2.2.size))
                  clear hMj hx1 hx2 hcs hc0 hD hwi hTX
                  go_wp2_with fail
                  refine region_fast [(0, true), (1, true), (2, true), (3, true), (4, true), (5, true), (6, false)] [2, 3, 4, 5] 60 [(10889035741470030830827987437816582766592, 2, 0, 0), (21778071482940061661655974875633165533184, 10889035741470030830827987437816582766592, 1, 1), (43556142965880123323311949751266331066368, 16384, 0, 0), (87112285931760246646623899502532662132736, 32768, 0, 0), (174224571863520493293247799005065324265472, 130668428897640369969935849253798993199104, 12, 12), (348449143727040986586495598010130648530944, 174224571863520493293247799005065324265472, 16, 28), (696898287454081973172991196020261297061888, 370227215209981048248151572885763814064128, 34, 63)] (fun W => Sees W 1 A1 32 (u8s k) ∧ W.cell? ⟨g, o + j, none⟩ = some (.string TX)) (by kernel_rfl) (by kernel_rfl) (by kernel_rfl) rfl (by kernel_rfl) (by kernel_rfl) ⟨hSk, hcr⟩ (fun hS => ?_)
                  repeat (first
                    | (refine plan_read (v := ?_) rfl (fun _ _ _ h => h) rfl hS ?_ ?_; rotate_left 1; (focus (intro w' hS'; have e0 := HCV.out _ hS'.1; have e1 := hS'.2; go_simp; try rfl)); (simp only [Act.put, List.setIfInBounds_toArray]; dsimp only [List.set_cons_zero, List.set_cons_succ]))
                    | (refine plan_skip rfl (fun _ _ _ h => h) rfl hS ?_; (simp only [Act.put, List.setIfInBounds_toArray]; dsimp only [List.set_cons_zero, List.set_cons_succ])))
                  refine plan_do (by rfl) (by rfl) (fun K hK => ?_)
                  go_simp
                  refine (HWI.out _).mono ?_
                  rintro e w14 ⟨rfl, hb14⟩
                  have HB14 := Lib.hid (hr.out.trans ((below_of_drew hb14).mono hr.out.size))
                  clear hb14 hSk hcr
                  refine hK.out _ _ (fun h => by cases h) (fun _ => ?_); clear hK K; try (simp only [Act.put, List.setIfInBounds_toArray]; dsimp only [List.set_cons_zero, List.set_cons_succ])
                  try refine plan_nil ?_
                  go_wp2_with fail
                  go_roundw
                  case rel => exact ⟨j + 1, by go_num, by omega, HB14⟩
                  case measure => simp [intOf]; omega
                · obtain rfl : j = 32 := by omega
                  have HGT := Lib.hid (get_gon (HT13.out.1.below hr.out) HT10.out.2.2 HG7.out.good)
                  have HBE := Lib.hid (HT13.out.2.2.trans (hr.out.mono HT13.out.2.2.size))
                  clear hr
                  go_wp2_with fail
                  refine HGT.out.mono ?_
                  rintro e w14 ⟨hb14, rfl⟩
                  have HB14 := Lib.hid (HBE.out.trans (hb14.mono HBE.out.size))
                  clear hb14
                  go_wp2_with fail
                  go_ret
                  exact ⟨rfl, HB1.out.trans (HB14.out.mono HB1.out.size)⟩
  · have hne : ((n1 : Int) != 32) = true := by rw [bne_iff_ne]; omega
    go_enter Try.func4, Try.ntmps4
    go_wp2_with fail
    generalize w.alloc (.cells #[.int .i64 x, .int .i64 y] 48) = w1 at *
    refine region_fast [(0, false), (1, true), (2, true), (3, true), (4, false), (5, true), (6, true), (7, true), (8, true), (9, true), (10, true), (11, true), (12, true), (13, true), (14, true), (15, false), (16, false), (17, true), (18, true)] [15, 16] 98304 [(262144, 0, 0, 0), (524288, 262144, 1, 1), (1048576, 524288, 3, 3), (2097152, 1048577, 4, 7), (4194304, 3145728, 12, 15), (8388608, 5242880, 20, 31), (16777216, 9437184, 36, 63), (33554432, 16777216, 80, 127), (67108864, 33554434, 128, 255), (134217728, 100663296, 384, 511), (268435456, 167772160, 640, 1023), (536870912, 301989888, 1152, 2047), (1073741824, 536870912, 2176, 4095), (2147483648, 1073741826, 4096, 8191), (4294967296, 3221225472, 12288, 16383), (8589934592, 1073741824, 4096, 8191), (17179869184, 9663676416, 36864, 40959), (34359738368, 22548578304, 86016, 131071), (68719476736, 35433480192, 135168, 262143)] (fun _ => True) (by kernel_rfl) (by kernel_rfl) (by kernel_rfl) rfl (by kernel_rfl) (by kernel_rfl) trivial (fun hS => ?_)
    refine plan_do (by rfl) (by rfl) (fun K hK => ?_)
    go_simp
    refine (HAW.out _).mono ?_
    rintro e w2 ⟨rfl, hb2⟩
    have HB2 := Lib.hid (below_of_drew hb2); clear hb2
    refine hK.out _ _ (fun h => by cases h) (fun _ => ?_); clear hK K; try (simp only [Act.put, List.setIfInBounds_toArray]; dsimp only [List.set_cons_zero, List.set_cons_succ])
    clear hS
    have hS := trivial
    repeat (first
      | (refine plan_read (v := ?_) rfl (fun _ _ _ h => h) rfl hS ?_ ?_; rotate_left 1; (focus (intro w' hS'; skip; go_simp; try rfl)); (simp only [Act.put, List.setIfInBounds_toArray]; dsimp only [List.set_cons_zero, List.set_cons_succ]))
      | (refine plan_skip rfl (fun _ _ _ h => h) rfl hS ?_; (simp only [Act.put, List.setIfInBounds_toArray]; dsimp only [List.set_cons_zero, List.set_cons_succ])))
    refine plan_do (by rfl) (by rfl) (fun K hK => ?_)
    go_simp
    refine (HSM.out _ (HS.out.below HB2.out)).mono ?_
    rintro e w3 ⟨hr, hb3⟩
    have HB3 := Lib.hid (HB2.out.trans (hb3.mono HB2.out.size)); clear hb3
    rcases hr with rfl | ⟨rfl, -⟩
    all_goals
      refine hK.out _ _ (fun h => by cases h) (fun _ => ?_); clear hK K; try (simp only [Act.put, List.setIfInBounds_toArray]; dsimp only [List.set_cons_zero, List.set_cons_succ])
      clear hS
      have hS := trivial
      repeat (first
        | (refine plan_read (v := ?_) rfl (fun _ _ _ h => h) rfl hS ?_ ?_; rotate_left 1; (focus (intro w' hS'; skip; go_simp; try rfl)); (simp only [Act.put, List.setIfInBounds_toArray]; dsimp only [List.set_cons_zero, List.set_cons_succ]))
        | (refine plan_skip rfl (fun _ _ _ h => h) rfl hS ?_; (simp only [Act.put, List.setIfInBounds_toArray]; dsimp only [List.set_cons_zero, List.set_cons_succ])))
      refine plan_pass (by rfl) (by rfl) (fun _ => hS) ?_; try (simp only [Act.put, List.setIfInBounds_toArray]; dsimp only [List.set_cons_zero, List.set_cons_succ])
      refine plan_pass (by rfl) (by rfl) (fun _ => hS) ?_; try (simp only [Act.put, List.setIfInBounds_toArray]; dsimp only [List.set_cons_zero, List.set_cons_succ])
      repeat (first
        | (refine plan_read (v := ?_) rfl (fun _ _ _ h => h) rfl hS ?_ ?_; rotate_left 1; (focus (intro w' hS'; skip; go_simp; try rfl)); (simp only [Act.put, List.setIfInBounds_toArray]; dsimp only [List.set_cons_zero, List.set_cons_succ]))
        | (refine plan_skip rfl (fun _ _ _ h => h) rfl hS ?_; (simp only [Act.put, List.setIfInBounds_toArray]; dsimp only [List.set_cons_zero, List.set_cons_succ])))
      refine plan_nil ?_
      go_wp2_with fail
      refine (HAW.out _).mono ?_
      rintro e w4 ⟨rfl, hb4⟩
      have HB4 := Lib.hid ((HB1.out.trans (HB3.out.mono HB1.out.size)).trans (hb4.mono (HB1.out.trans (HB3.out.mono HB1.out.size)).size))
      go_wp2_with fail
      go_ret
      exact ⟨rfl, HB4.out⟩

theorem gone_walk (a0 : Option Addr) (ys0 : List Ac) (len0 cap0 : Nat) (a1 : Option Addr) (len1 cap1 : Nat) (z1 : List Int) (z2 : List Int) (W : World) (m0 : ys0.length = len0) (w0 : Sees W 5 a0 ys0.length (acs ys0) ∧ (∀ y ∈ ys0, AcOk y) ∧ ys0.length ≤ maxLen)
    (w1 : IsRow .u8 W a1 len1 cap1 z1) (l2 : z2.length = 2) (w2 : ∀ n ∈ z2, (Lit.int .i64 n).wf = true) :
    Calls Try.prog 4 #[.slice a0 len0 cap0, .slice a1 len1 cap1, .agg (z2.map (Value.int .i64)).toArray] W fun e w' => e = .returned (.bool true) ∧ Below W.heap.size W w' := by
  subst m0
  obtain ⟨l, hl, hA, h3, h4⟩ := w1.bytes
  obtain ⟨q, k, rfl⟩ : ∃ q k, z2 = [q, k] := by
    match z2, l2 with
    | [q, k], _ => exact ⟨q, k, rfl⟩
  exact gone_any ys0 a0 cap0 l a1 len1 cap1 q k W w0.1 w0.2.1 w0.2.2 hl hA (Nat.le_trans h3 h4) (wf_i64 (w2 q (by simp))) (wf_i64 (w2 k (by simp)))
end Go.Proofs.Ytnlghpopjckhiaa
