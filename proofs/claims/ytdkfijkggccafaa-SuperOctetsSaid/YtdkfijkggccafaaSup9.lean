/-
  The law SuperOctets, walked.
-/
import Derived.Test.YtdkfijkggccafaaSup8
import Derived.Test.YtdkfijkggccafaaStructArg
namespace Go.Proofs.Ytdkfijkggccafaa
set_option maxRecDepth 4000
open Go.RowKit

theorem Blk.cells5 {w : World} {g : Nat} {t : TypeId} {s1 s2 s3 s4 s5 : Int} (h : Blk w g t #[.int .i64 s1, .int .i64 s2, .int .i64 s3, .int .i64 s4, .int .i64 s5]) : w.cell? ⟨g, 0, none⟩ = some (.int .i64 s1) ∧ w.cell? ⟨g, 1, none⟩ = some (.int .i64 s2) ∧ w.cell? ⟨g, 2, none⟩ = some (.int .i64 s3) ∧ w.cell? ⟨g, 3, none⟩ = some (.int .i64 s4) ∧ w.cell? ⟨g, 4, none⟩ = some (.int .i64 s5) :=
  ⟨h.cell 0, h.cell 1, h.cell 2, h.cell 3, h.cell 4⟩

set_option maxHeartbeats 4000000 in
theorem octets_walk_no (s : Sp) (hr : ¬ s.right) (w : World) : Calls Try.prog 3 #[s.val] w fun e w' => e = .returned (.bool true) ∧ Below w.heap.size w w' := by
  have HAW := Lib.hid awake_any
  have HRT := Lib.hid (right_any s)
  have HRR := Lib.hid (rright_any s)
  rw [decide_eq_false hr] at HRT HRR
  have HSC := Lib.hid (sectors_any s)
  have HO := Lib.hid (octets_no s hr)
  rw [if_neg hr] at HSC
  obtain ⟨s1, s2, s3, s4, s5⟩ := s
  clear hr
  have HSZ := Lib.hid (show (Try.prog.info? 23).map (·.size) = some 5 by kernel_rfl)
  have HK0 := Lib.hid (Blk.new w 23 #[.int .i64 s1, .int .i64 s2, .int .i64 s3, .int .i64 s4, .int .i64 s5])
  have hal : Below w.heap.size w (w.alloc (.cells #[.int .i64 s1, .int .i64 s2, .int .i64 s3, .int .i64 s4, .int .i64 s5] 23)) := (Below.refl _ _).alloc (Nat.le_refl _) _
  have HA := Lib.hid hal
  clear hal
  unfold Sp.val at *
  go_enter Try.func3, Try.ntmps3
  go_wp2_with fail
  refine (HAW.out _).mono ?_
  rintro e w1 ⟨rfl, hb1⟩
  have hR1 := HK0.out.below hb1 HK0.out.lt
  have c0 : w1.cell? ⟨w.heap.size, 0, none⟩ = some (.int .i64 s1) := hR1.cell 0
  have c1 : w1.cell? ⟨w.heap.size, 1, none⟩ = some (.int .i64 s2) := hR1.cell 1
  have c2 : w1.cell? ⟨w.heap.size, 2, none⟩ = some (.int .i64 s3) := hR1.cell 2
  have c3 : w1.cell? ⟨w.heap.size, 3, none⟩ = some (.int .i64 s4) := hR1.cell 3
  have c4 : w1.cell? ⟨w.heap.size, 4, none⟩ = some (.int .i64 s5) := hR1.cell 4
  have HR1 := Lib.hid hR1
  have HB1 := Lib.hid (HA.out.trans (hb1.mono HA.out.size))
  clear hR1 hb1 HA HK0 HAW
  go_wp2_with fail
  refine (HO.out _).mono ?_
  rintro e w2 ⟨rfl, hb2⟩
  have hR2 := HR1.out.below hb2 HR1.out.lt
  have HR2 := Lib.hid hR2
  have HC2 := Lib.hid hR2.cells5
  have HB2 := Lib.hid (HB1.out.trans (hb2.mono HB1.out.size))
  clear hR2 hb2 HR1 HB1 c0 c1 c2 c3 c4 HO
  go_wp2_with fail
  have hd0 := (Below.refl w2.heap.size w2).drew
  refine region_fast [(0, true), (2, true), (1, false), (3, false), (4, true), (5, true), (6, true), (7, true), (8, false), (9, true), (10, true)] [1, 2, 7, 8] 390 [(65536, 2, 0, 0), (131072, 65536, 1, 1), (262144, 2, 0, 0), (524288, 262144, 6, 7), (1048576, 655360, 10, 15), (2097152, 1048576, 24, 31), (4194304, 2097168, 32, 63), (8388608, 2097154, 32, 63), (16777216, 10485760, 160, 191), (33554432, 23068672, 352, 511), (67108864, 35651584, 544, 1023)] (fun w' => (w'.cell? ⟨w.heap.size, 0, none⟩ = some (.int .i64 s1) ∧ w'.cell? ⟨w.heap.size, 1, none⟩ = some (.int .i64 s2) ∧ w'.cell? ⟨w.heap.size, 2, none⟩ = some (.int .i64 s3) ∧ w'.cell? ⟨w.heap.size, 3, none⟩ = some (.int .i64 s4) ∧ w'.cell? ⟨w.heap.size, 4, none⟩ = some (.int .i64 s5))) (by kernel_rfl) (by kernel_rfl) (by kernel_rfl) rfl (by kernel_rfl) (by kernel_rfl) HC2.out (fun hS => ?_)
  repeat (first
    | (refine plan_read (v := ?_) rfl (fun _ _ _ h => h) rfl hS ?_ ?_; rotate_left 1; (focus (intro w' hS'; obtain ⟨k0, k1, k2, k3, k4⟩ := hS'; go_simp; try rfl)); (simp only [Act.put, List.setIfInBounds_toArray]; dsimp only [List.set_cons_zero, List.set_cons_succ]))
    | (refine plan_skip rfl (fun _ _ _ h => h) rfl hS ?_; (simp only [Act.put, List.setIfInBounds_toArray]; dsimp only [List.set_cons_zero, List.set_cons_succ])))
  refine plan_do (by rfl) (by rfl) (fun K hK => ?_)
  go_simp
  refine (HRT.out _).mono ?_
  rintro e w3 ⟨rfl, hb3⟩
  have hb23 := hd0.trans hb3
  refine hK.out _ _ (fun _ => (HR2.out.below hb23 HR2.out.lt).cells5) (fun hS => ?_); clear hK K; replace hS := hS rfl; try (simp only [Act.put, List.setIfInBounds_toArray]; dsimp only [List.set_cons_zero, List.set_cons_succ])
  repeat (first
    | (refine plan_read (v := ?_) rfl (fun _ _ _ h => h) rfl hS ?_ ?_; rotate_left 1; (focus (intro w' hS'; obtain ⟨k0, k1, k2, k3, k4⟩ := hS'; go_simp; try rfl)); (simp only [Act.put, List.setIfInBounds_toArray]; dsimp only [List.set_cons_zero, List.set_cons_succ]))
    | (refine plan_skip rfl (fun _ _ _ h => h) rfl hS ?_; (simp only [Act.put, List.setIfInBounds_toArray]; dsimp only [List.set_cons_zero, List.set_cons_succ])))
  refine plan_do (by rfl) (by rfl) (fun K hK => ?_)
  go_simp
  refine (HRR.out _).mono ?_
  rintro e w4 ⟨rfl, hb4⟩
  have hb24 := hb23.trans (hb4.mono hb23.size)
  refine hK.out _ _ (fun h => by cases h) (fun _ => ?_); clear hK K; try (simp only [Act.put, List.setIfInBounds_toArray]; dsimp only [List.set_cons_zero, List.set_cons_succ])
  replace hS := (HR2.out.below hb24 HR2.out.lt).cells5
  repeat (first
    | (refine plan_read (v := ?_) rfl (fun _ _ _ h => h) rfl hS ?_ ?_; rotate_left 1; (focus (intro w' hS'; obtain ⟨k0, k1, k2, k3, k4⟩ := hS'; go_simp; try rfl)); (simp only [Act.put, List.setIfInBounds_toArray]; dsimp only [List.set_cons_zero, List.set_cons_succ]))
    | (refine plan_skip rfl (fun _ _ _ h => h) rfl hS ?_; (simp only [Act.put, List.setIfInBounds_toArray]; dsimp only [List.set_cons_zero, List.set_cons_succ])))
  refine plan_do (by rfl) (by rfl) (fun K hK => ?_)
  go_simp
  refine (HRT.out _).mono ?_
  rintro e w5 ⟨rfl, hb5⟩
  have hb25 := hb24.trans (hb5.mono hb24.size)
  refine hK.out _ _ (fun _ => (HR2.out.below hb25 HR2.out.lt).cells5) (fun hS => ?_); clear hK K; replace hS := hS rfl; try (simp only [Act.put, List.setIfInBounds_toArray]; dsimp only [List.set_cons_zero, List.set_cons_succ])
  repeat (first
    | (refine plan_read (v := ?_) rfl (fun _ _ _ h => h) rfl hS ?_ ?_; rotate_left 1; (focus (intro w' hS'; obtain ⟨k0, k1, k2, k3, k4⟩ := hS'; go_simp; try rfl)); (simp only [Act.put, List.setIfInBounds_toArray]; dsimp only [List.set_cons_zero, List.set_cons_succ]))
    | (refine plan_skip rfl (fun _ _ _ h => h) rfl hS ?_; (simp only [Act.put, List.setIfInBounds_toArray]; dsimp only [List.set_cons_zero, List.set_cons_succ])))
  refine plan_nil ?_
  have hR5 := HR2.out.below hb25 HR2.out.lt
  have c0 : w5.cell? ⟨w.heap.size, 0, none⟩ = some (.int .i64 s1) := hR5.cell 0
  have c1 : w5.cell? ⟨w.heap.size, 1, none⟩ = some (.int .i64 s2) := hR5.cell 1
  have c2 : w5.cell? ⟨w.heap.size, 2, none⟩ = some (.int .i64 s3) := hR5.cell 2
  have c3 : w5.cell? ⟨w.heap.size, 3, none⟩ = some (.int .i64 s4) := hR5.cell 3
  have c4 : w5.cell? ⟨w.heap.size, 4, none⟩ = some (.int .i64 s5) := hR5.cell 4
  have HB5 := Lib.hid (HB2.out.trans (hb25.mono HB2.out.size))
  clear hR5 hb23 hb24 hb25 hd0 hb3 hb4 hb5 hS HR2 HC2 HB2 HRT HRR
  go_wp2_with fail
  refine (HSC.out _).mono ?_
  rintro e w6 ⟨rfl, hb6⟩
  have HB6 := Lib.hid (HB5.out.trans (hb6.mono HB5.out.size))
  go_wp2_with fail
  go_ret
  exact ⟨rfl, HB6.out⟩

set_option maxHeartbeats 4000000 in
theorem octets_walk_yes (s : Sp) (hr : s.right) (w : World) : Calls Try.prog 3 #[s.val] w fun e w' => e = .returned (.bool true) ∧ Below w.heap.size w w' := by
  have HAW := Lib.hid awake_any
  have HRT := Lib.hid (right_any s)
  have HRR := Lib.hid (rright_any s)
  rw [decide_eq_true hr] at HRT HRR
  have HSC := Lib.hid (sectors_any s)
  have HO := Lib.hid (octets_ok s hr)
  have hsl := spo_length s
  have HRD := Lib.hid (fun A c place w hS hA => read_any (spo s) A 128 c place w hS hsl (by omega) hA)
  have hq0 := s.place_eq hr
  have hq2 : s.place < 2 := Nat.mod_lt _ (by omega)
  have HQ1 := Lib.hid (show decide (rdOk (spo s) (s.place : Int)) = true from decide_eq_true ((rdOk_spo s hr _).2 hq0))
  have HQ2 := Lib.hid (show decide (rdOk (spo s) (1 - (s.place : Int))) = false from decide_eq_false (fun k => by have := (rdOk_spo s hr _).1 k; omega))
  have HQ3 := Lib.hid (show readS (spo s) (s.place : Int) = s from readS_spo s hr _ hq0)
  have HRO := Lib.hid (roctets_any s hr)
  have hb := hr
  rw [if_pos hr] at HSC
  generalize hpl : s.place = a at *
  obtain ⟨⟨q1, q2, q3, q4, q5⟩, hqq⟩ : ∃ x, x = readS (spo s) (1 - (a : Int)) := ⟨_, rfl⟩
  have HRD1 := Lib.hid (fun A c w hS hA => HRD.out A c (a : Int) w hS hA)
  have HRD2 := Lib.hid (fun A c w hS hA => HRD.out A c (1 - (a : Int)) w hS hA)
  rw [HQ1.out, HQ3.out] at HRD1
  rw [HQ2.out, ← hqq] at HRD2
  generalize hlx : spo s = lx at *
  obtain ⟨s1, s2, s3, s4, s5⟩ := s
  replace hq0 : s1.tmod 2 = (a : Int) := hq0
  obtain ⟨-, -, -, -, h5, h6, h7, h8, h9, h10⟩ := hb
  simp only at h5 h6 h7 h8 h9 h10
  have hm : 0 ≤ s4 * s5 ∧ s4 * s5 ≤ 131072 := ⟨Int.mul_nonneg (by omega) (by omega), Int.le_trans (Int.mul_le_mul h8 h10 (by omega) (by omega)) (by omega)⟩
  have e1 : IntKind.i64.wrap (s4 * s5) = s4 * s5 := IntWalk.i64_in _ (by omega)
  have e2 : IntKind.i64.wrap (2 * s3) = 2 * s3 := IntWalk.i64_in _ (by omega)
  have e3 : IntKind.i64.wrap (2 + 2 * s3) = 2 + 2 * s3 := IntWalk.i64_in _ (by omega)
  have e4 : IntKind.i64.wrap (2 + 2 * s3 + s4 * s5) = 2 + 2 * s3 + s4 * s5 := IntWalk.i64_in _ (by omega)
  have e5 : IntKind.i64.wrap (a : Int) = (a : Int) := IntWalk.i64_in _ (by omega)
  have e6 : IntKind.i64.wrap (1 - (a : Int)) = 1 - (a : Int) := IntWalk.i64_in _ (by omega)
  clear hr hlx hpl HQ1 HQ2 HQ3 HRD hqq
  have HSZ := Lib.hid (show (Try.prog.info? 23).map (·.size) = some 5 by kernel_rfl)
  have HK0 := Lib.hid (Blk.new w 23 #[.int .i64 s1, .int .i64 s2, .int .i64 s3, .int .i64 s4, .int .i64 s5])
  have hal : Below w.heap.size w (w.alloc (.cells #[.int .i64 s1, .int .i64 s2, .int .i64 s3, .int .i64 s4, .int .i64 s5] 23)) := (Below.refl _ _).alloc (Nat.le_refl _) _
  have HA := Lib.hid hal
  clear hal
  unfold Sp.val at *
  go_enter Try.func3, Try.ntmps3
  go_wp2_with fail
  refine (HAW.out _).mono ?_
  rintro e w1 ⟨rfl, hb1⟩
  have hR1 := HK0.out.below hb1 HK0.out.lt
  have c0 : w1.cell? ⟨w.heap.size, 0, none⟩ = some (.int .i64 s1) := hR1.cell 0
  have c1 : w1.cell? ⟨w.heap.size, 1, none⟩ = some (.int .i64 s2) := hR1.cell 1
  have c2 : w1.cell? ⟨w.heap.size, 2, none⟩ = some (.int .i64 s3) := hR1.cell 2
  have c3 : w1.cell? ⟨w.heap.size, 3, none⟩ = some (.int .i64 s4) := hR1.cell 3
  have c4 : w1.cell? ⟨w.heap.size, 4, none⟩ = some (.int .i64 s5) := hR1.cell 4
  have HR1 := Lib.hid hR1
  have HB1 := Lib.hid (HA.out.trans (hb1.mono HA.out.size))
  clear hR1 hb1 HA HK0 HAW
  go_wp2_with fail
  refine (HO.out _).mono ?_
  rintro e w2 ⟨v2, rfl, hown2, hb2⟩
  obtain ⟨g2, k2, cur, rfl, -, -, hk2, -, -⟩ := own_open hown2 (by omega)
  have HS2 := Lib.hid (Sees.of_own hown2)
  clear hown2
  have hR2 := HR1.out.below hb2 HR1.out.lt
  have HR2 := Lib.hid hR2
  have HC2 := Lib.hid hR2.cells5
  have HB2 := Lib.hid (HB1.out.trans (hb2.mono HB1.out.size))
  clear hR2 hb2 HR1 HB1 c0 c1 c2 c3 c4 HO
  go_wp2_with fail
  have hd0 := (Below.refl w2.heap.size w2).drew
  refine region_fast [(0, true), (2, true), (1, false), (3, false), (4, true), (5, true), (6, true), (7, true), (8, false), (9, true), (10, true)] [1, 2, 7, 8] 390 [(65536, 2, 0, 0), (131072, 65536, 1, 1), (262144, 2, 0, 0), (524288, 262144, 6, 7), (1048576, 655360, 10, 15), (2097152, 1048576, 24, 31), (4194304, 2097168, 32, 63), (8388608, 2097154, 32, 63), (16777216, 10485760, 160, 191), (33554432, 23068672, 352, 511), (67108864, 35651584, 544, 1023)] (fun w' => (w'.cell? ⟨w.heap.size, 0, none⟩ = some (.int .i64 s1) ∧ w'.cell? ⟨w.heap.size, 1, none⟩ = some (.int .i64 s2) ∧ w'.cell? ⟨w.heap.size, 2, none⟩ = some (.int .i64 s3) ∧ w'.cell? ⟨w.heap.size, 3, none⟩ = some (.int .i64 s4) ∧ w'.cell? ⟨w.heap.size, 4, none⟩ = some (.int .i64 s5))) (by kernel_rfl) (by kernel_rfl) (by kernel_rfl) rfl (by kernel_rfl) (by kernel_rfl) HC2.out (fun hS => ?_)
  repeat (first
    | (refine plan_read (v := ?_) rfl (fun _ _ _ h => h) rfl hS ?_ ?_; rotate_left 1; (focus (intro w' hS'; obtain ⟨k0, k1, k2, k3, k4⟩ := hS'; go_simp; try rfl)); (simp only [Act.put, List.setIfInBounds_toArray]; dsimp only [List.set_cons_zero, List.set_cons_succ]))
    | (refine plan_skip rfl (fun _ _ _ h => h) rfl hS ?_; (simp only [Act.put, List.setIfInBounds_toArray]; dsimp only [List.set_cons_zero, List.set_cons_succ])))
  refine plan_do (by rfl) (by rfl) (fun K hK => ?_)
  go_simp
  refine (HRT.out _).mono ?_
  rintro e w3 ⟨rfl, hb3⟩
  have hb23 := hd0.trans hb3
  refine hK.out _ _ (fun _ => (HR2.out.below hb23 HR2.out.lt).cells5) (fun hS => ?_); clear hK K; replace hS := hS rfl; try (simp only [Act.put, List.setIfInBounds_toArray]; dsimp only [List.set_cons_zero, List.set_cons_succ])
  repeat (first
    | (refine plan_read (v := ?_) rfl (fun _ _ _ h => h) rfl hS ?_ ?_; rotate_left 1; (focus (intro w' hS'; obtain ⟨k0, k1, k2, k3, k4⟩ := hS'; go_simp; try rfl)); (simp only [Act.put, List.setIfInBounds_toArray]; dsimp only [List.set_cons_zero, List.set_cons_succ]))
    | (refine plan_skip rfl (fun _ _ _ h => h) rfl hS ?_; (simp only [Act.put, List.setIfInBounds_toArray]; dsimp only [List.set_cons_zero, List.set_cons_succ])))
  refine plan_do (by rfl) (by rfl) (fun K hK => ?_)
  go_simp
  refine (HRR.out _).mono ?_
  rintro e w4 ⟨rfl, hb4⟩
  have hb24 := hb23.trans (hb4.mono hb23.size)
  refine hK.out _ _ (fun h => by cases h) (fun _ => ?_); clear hK K; try (simp only [Act.put, List.setIfInBounds_toArray]; dsimp only [List.set_cons_zero, List.set_cons_succ])
  replace hS := (HR2.out.below hb24 HR2.out.lt).cells5
  repeat (first
    | (refine plan_read (v := ?_) rfl (fun _ _ _ h => h) rfl hS ?_ ?_; rotate_left 1; (focus (intro w' hS'; obtain ⟨k0, k1, k2, k3, k4⟩ := hS'; go_simp; try rfl)); (simp only [Act.put, List.setIfInBounds_toArray]; dsimp only [List.set_cons_zero, List.set_cons_succ]))
    | (refine plan_skip rfl (fun _ _ _ h => h) rfl hS ?_; (simp only [Act.put, List.setIfInBounds_toArray]; dsimp only [List.set_cons_zero, List.set_cons_succ])))
  refine plan_do (by rfl) (by rfl) (fun K hK => ?_)
  go_simp
  refine (HRT.out _).mono ?_
  rintro e w5 ⟨rfl, hb5⟩
  have hb25 := hb24.trans (hb5.mono hb24.size)
  refine hK.out _ _ (fun _ => (HR2.out.below hb25 HR2.out.lt).cells5) (fun hS => ?_); clear hK K; replace hS := hS rfl; try (simp only [Act.put, List.setIfInBounds_toArray]; dsimp only [List.set_cons_zero, List.set_cons_succ])
  repeat (first
    | (refine plan_read (v := ?_) rfl (fun _ _ _ h => h) rfl hS ?_ ?_; rotate_left 1; (focus (intro w' hS'; obtain ⟨k0, k1, k2, k3, k4⟩ := hS'; go_simp; try rfl)); (simp only [Act.put, List.setIfInBounds_toArray]; dsimp only [List.set_cons_zero, List.set_cons_succ]))
    | (refine plan_skip rfl (fun _ _ _ h => h) rfl hS ?_; (simp only [Act.put, List.setIfInBounds_toArray]; dsimp only [List.set_cons_zero, List.set_cons_succ])))
  refine plan_nil ?_
  have hR5 := HR2.out.below hb25 HR2.out.lt
  have c0 : w5.cell? ⟨w.heap.size, 0, none⟩ = some (.int .i64 s1) := hR5.cell 0
  have c1 : w5.cell? ⟨w.heap.size, 1, none⟩ = some (.int .i64 s2) := hR5.cell 1
  have c2 : w5.cell? ⟨w.heap.size, 2, none⟩ = some (.int .i64 s3) := hR5.cell 2
  have c3 : w5.cell? ⟨w.heap.size, 3, none⟩ = some (.int .i64 s4) := hR5.cell 3
  have c4 : w5.cell? ⟨w.heap.size, 4, none⟩ = some (.int .i64 s5) := hR5.cell 4
  have HB5 := Lib.hid (HB2.out.trans (hb25.mono HB2.out.size))
  have HS5 := Lib.hid (HS2.out.below hb25)
  have HR5 := Lib.hid hR5
  have HX := Lib.hid (HRD1.out _ k2 w5 HS5.out (by intro h; cases h))
  clear hR5 hb23 hb24 hb25 hd0 hb3 hb4 hb5 hS HR2 HC2 HB2 HRT HRR HS2 HRD1
  go_wp2_with fail
  refine HX.out.mono ?_
  rintro e w6 ⟨rfl, hb6⟩
  have hal6 := alloc_row w6 23 #[.int .i64 0, .int .i64 0, .int .i64 0, .int .i64 0, .int .i64 0] #[.int .i64 s1, .int .i64 s2, .int .i64 s3, .int .i64 s4, .int .i64 s5]
  have hb56 := hb6.trans (hal6.2.mono hb6.size)
  have HR6 := Lib.hid (HR5.out.below hb56 HR5.out.lt)
  have HS6 := Lib.hid (HS5.out.below hb56)
  have HB6 := Lib.hid (HB5.out.trans (hb56.mono HB5.out.size))
  have HT6 := Lib.hid hal6.1
  have HK6 := Lib.hid (Blk.new w6 23 #[.int .i64 0, .int .i64 0, .int .i64 0, .int .i64 0, .int .i64 0])
  have HX2 := Lib.hid (HRD2.out _ k2 _ HS6.out (by intro h; cases h))
  clear hal6 hb56 hb6 HX HR5 HS5 HB5 HRD2 c0 c1 c2 c3 c4
  go_wp2_with (refine wpList_store_row rfl 23 (.tmp 5) (.tmp 43) rfl w6.heap.size _ rfl rfl 23 _ HK6.out (by exact HSZ.out) (Eq.refl 5) (by simp [Value.oneCell']) ?_; generalize (World.setRow _ _ _) = W6 at *; clear HK6; have c0 : W6.cell? ⟨w.heap.size, 0, none⟩ = some (.int .i64 s1) := HR6.out.cell 0; have c1 : W6.cell? ⟨w.heap.size, 1, none⟩ = some (.int .i64 s2) := HR6.out.cell 1; have c2 : W6.cell? ⟨w.heap.size, 2, none⟩ = some (.int .i64 s3) := HR6.out.cell 2; have c3 : W6.cell? ⟨w.heap.size, 3, none⟩ = some (.int .i64 s4) := HR6.out.cell 3; have c4 : W6.cell? ⟨w.heap.size, 4, none⟩ = some (.int .i64 s5) := HR6.out.cell 4)
  refine HX2.out.mono ?_
  rintro e w7 ⟨rfl, hb7⟩
  have hal7 := alloc_row w7 23 #[.int .i64 0, .int .i64 0, .int .i64 0, .int .i64 0, .int .i64 0] #[.int .i64 q1, .int .i64 q2, .int .i64 q3, .int .i64 q4, .int .i64 q5]
  have hb67 := hb7.trans (hal7.2.mono hb7.size)
  have HR7 := Lib.hid (HR6.out.below hb67 HR6.out.lt)
  have HT7 := Lib.hid (HT6.out.below hb67 HT6.out.lt)
  have HS7 := Lib.hid (HS6.out.below hb67)
  have HB7 := Lib.hid (HB6.out.trans (hb67.mono HB6.out.size))
  have HK7 := Lib.hid (Blk.new w7 23 #[.int .i64 0, .int .i64 0, .int .i64 0, .int .i64 0, .int .i64 0])
  clear hal7 hb67 hb7 HX2 HR6 HS6 HB6 HT6 c0 c1 c2 c3 c4
  go_wp2_with (refine wpList_store_row rfl 23 (.tmp 7) (.tmp 52) rfl w7.heap.size _ rfl rfl 23 _ HK7.out (by exact HSZ.out) (Eq.refl 5) (by simp [Value.oneCell']) ?_; generalize (World.setRow _ _ _) = W7 at *; clear HK7)
  have HCV := Lib.hid (fun (w : World) (h : Sees w 1 (some ⟨g2, 0, none⟩) 128 (u8s lx)) => run_to_string (P := Try.prog) (w := w) Try.underlying25 Try.underlying5 Try.underlying9 k2 h)
  have hd0 := (Below.refl W7.heap.size W7).drew
  generalize str lx = X at *
  refine region_fast [(0, true), (1, true), (2, true), (3, false), (4, true), (5, true), (6, true), (7, true), (8, true), (9, true), (10, true), (11, true), (12, true), (13, true), (14, true), (15, true), (16, true), (17, true), (18, true), (20, true), (21, true), (22, true), (23, true), (24, true), (25, true), (26, true), (27, true), (28, true), (29, true), (19, false), (30, true), (31, true), (32, true)] [2, 3, 10, 19, 20, 21, 22, 23, 24, 25, 26, 27, 28, 29] 1073218572 [(18014398509481984, 8, 0, 0), (36028797018963968, 18014398509481984, 1, 1), (72057594037927936, 2, 0, 0), (144115188075855872, 72057594037927936, 4, 4), (288230376151711744, 180143985094819840, 10, 15), (576460752303423488, 288230376151711744, 24, 31), (1152921504606846976, 576460752303423552, 32, 63), (2305843009213693952, 1729382256910270464, 96, 127), (4611686018427387904, 2305843009213693952, 160, 255), (9223372036854775808, 4611686018427387936, 256, 511), (18446744073709551616, 4611686018427387906, 256, 511), (36893488147419103232, 32281802128991715328, 1792, 2047), (73786976294838206464, 41505174165846491136, 2304, 4095), (147573952589676412928, 73786976294838206464, 4352, 8191), (295147905179352825856, 147573952589676413184, 8192, 16383), (590295810358705651712, 442721857769029238784, 24576, 32767), (1180591620717411303424, 737869762948382064640, 40960, 65535), (2361183241434822606848, 1180591620717411303424, 73728, 131071), (4722366482869645213696, 2361183241434822606850, 131072, 262143), (9444732965739290427392, 7083549724304467820544, 393216, 524287), (18889465931478580854784, 2361183241434822606850, 131072, 262143), (37778931862957161709568, 21250649172913403461632, 1179648, 1310719), (75557863725914323419136, 40140115104391984316416, 2228224, 3407871), (151115727451828646838272, 77919046967349146025984, 4325376, 7602175), (302231454903657293676544, 2361183241434822606850, 131072, 262143), (604462909807314587353088, 304592638145092116283392, 16908288, 17039359), (1208925819614629174706176, 2361183241434822606850, 131072, 262143), (2417851639229258349412352, 1211287002856063997313024, 67239936, 67371007), (4835703278458516698824704, 3024675732278007759372288, 167903232, 251920383), (9671406556917033397649408, 4989180189151780168269824, 276955136, 536084479), (19342813113834066795298816, 9683212473124207510683648, 537526272, 1073741823), (38685626227668133590597632, 19345174297075501617905664, 1073872896, 2147483647), (4, 38685626227668133590597632, 4294967295, 4294967295)] (fun w' => (Sees w' 1 (some ⟨g2, 0, none⟩) 128 (u8s lx) ∧ (w'.cell? ⟨w6.heap.size, 0, none⟩ = some (.int .i64 s1) ∧ w'.cell? ⟨w6.heap.size, 1, none⟩ = some (.int .i64 s2) ∧ w'.cell? ⟨w6.heap.size, 2, none⟩ = some (.int .i64 s3) ∧ w'.cell? ⟨w6.heap.size, 3, none⟩ = some (.int .i64 s4) ∧ w'.cell? ⟨w6.heap.size, 4, none⟩ = some (.int .i64 s5)) ∧ w'.cell? ⟨w.heap.size, 0, none⟩ = some (.int .i64 s1) ∧ w'.cell? ⟨w.heap.size, 1, none⟩ = some (.int .i64 s2) ∧ w'.cell? ⟨w.heap.size, 2, none⟩ = some (.int .i64 s3) ∧ w'.cell? ⟨w.heap.size, 3, none⟩ = some (.int .i64 s4) ∧ w'.cell? ⟨w.heap.size, 4, none⟩ = some (.int .i64 s5))) (by kernel_rfl) (by kernel_rfl) (by kernel_rfl) rfl (by kernel_rfl) (by kernel_rfl) ⟨HS7.out, HT7.out.cells5, HR7.out.cells5⟩ (fun hS => ?_)
  repeat (first
    | (refine plan_read (v := ?_) rfl (fun _ _ _ h => h) rfl hS ?_ ?_; rotate_left 1; (focus (intro w' hS'; obtain ⟨hss, ⟨j0, j1, j2, j3, j4⟩, k0, k1, k2, k3, k4⟩ := hS'; have hcc := HCV.out _ hss; go_simp; try rfl)); (simp only [Act.put, List.setIfInBounds_toArray]; dsimp only [List.set_cons_zero, List.set_cons_succ]))
    | (refine plan_skip rfl (fun _ _ _ h => h) rfl hS ?_; (simp only [Act.put, List.setIfInBounds_toArray]; dsimp only [List.set_cons_zero, List.set_cons_succ])))
  refine plan_do (by rfl) (by rfl) (fun K hK => ?_)
  go_simp
  refine (HRO.out _).mono ?_
  rintro e w8 ⟨rfl, hb8⟩
  have hb78 := hd0.trans hb8
  refine hK.out _ _ (fun _ => ⟨HS7.out.below hb78, (HT7.out.below hb78 HT7.out.lt).cells5, (HR7.out.below hb78 HR7.out.lt).cells5⟩) (fun hS => ?_); clear hK K; replace hS := hS rfl; try (simp only [Act.put, List.setIfInBounds_toArray]; dsimp only [List.set_cons_zero, List.set_cons_succ])
  repeat (first
    | (refine plan_read (v := ?_) rfl (fun _ _ _ h => h) rfl hS ?_ ?_; rotate_left 1; (focus (intro w' hS'; obtain ⟨hss, ⟨j0, j1, j2, j3, j4⟩, k0, k1, k2, k3, k4⟩ := hS'; go_simp; try rfl)); (simp only [Act.put, List.setIfInBounds_toArray]; dsimp only [List.set_cons_zero, List.set_cons_succ]))
    | (refine plan_skip rfl (fun _ _ _ h => h) rfl hS ?_; (simp only [Act.put, List.setIfInBounds_toArray]; dsimp only [List.set_cons_zero, List.set_cons_succ])))
  refine plan_do (by rfl) (by rfl) (fun K hK => ?_)
  go_simp
  refine (HSC.out _).mono ?_
  rintro e w9 ⟨rfl, hb9⟩
  have hb79 := hb78.trans (hb9.mono hb78.size)
  refine hK.out _ _ (fun _ => ⟨HS7.out.below hb79, (HT7.out.below hb79 HT7.out.lt).cells5, (HR7.out.below hb79 HR7.out.lt).cells5⟩) (fun hS => ?_); clear hK K; replace hS := hS rfl; try (simp only [Act.put, List.setIfInBounds_toArray]; dsimp only [List.set_cons_zero, List.set_cons_succ])
  repeat (first
    | (refine plan_read (v := ?_) rfl (fun _ _ _ h => h) rfl hS ?_ ?_; rotate_left 1; (focus (intro w' hS'; obtain ⟨hss, ⟨j0, j1, j2, j3, j4⟩, k0, k1, k2, k3, k4⟩ := hS'; go_simp; try rfl)); (simp only [Act.put, List.setIfInBounds_toArray]; dsimp only [List.set_cons_zero, List.set_cons_succ]))
    | (refine plan_skip rfl (fun _ _ _ h => h) rfl hS ?_; (simp only [Act.put, List.setIfInBounds_toArray]; dsimp only [List.set_cons_zero, List.set_cons_succ])))
  refine plan_nil ?_
  have HB9 := Lib.hid (HB7.out.trans (hb79.mono HB7.out.size))
  clear hb78 hb79 hb8 hb9 hS
  go_wp2_with fail
  go_ret
  exact ⟨rfl, HB9.out⟩

theorem octets_walk (s : Sp) (w : World) : Calls Try.prog 3 #[s.val] w fun e w' => e = .returned (.bool true) ∧ Below w.heap.size w w' := by
  by_cases hr : s.right
  · exact octets_walk_yes s hr w
  · exact octets_walk_no s hr w
end Go.Proofs.Ytdkfijkggccafaa

