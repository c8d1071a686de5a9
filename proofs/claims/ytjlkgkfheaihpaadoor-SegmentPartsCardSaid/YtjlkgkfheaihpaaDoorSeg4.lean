/-
  The law of a segment's parts, walked.
-/
import Derived.Test.YtjlkgkfheaihpaaDoorSeg3
namespace Go.Proofs.YtjlkgkfheaihpaaDoor
open Go.RowKit

theorem awake_any (w : World) (hT : Tab w) : Calls Tryd.prog 6 #[] w fun e w' => e = .returned (.bool true) ∧ Below w.heap.size w w' := by
  have hmk := make_bytes 32 (by omega)
  obtain ⟨Z, hZ⟩ : ∃ z : Array Value, z = (u8s (List.replicate 32 0)).toArray := ⟨_, rfl⟩
  rw [← hZ] at hmk
  replace hmk : ∀ W : World, (Instr.makeSlice 22 (.int .i64 32) (.int .i64 32)).run Tryd.prog W = .ok (.slice (some ⟨W.heap.size, 0, none⟩) 32 32) (W.alloc (.cells Z 5)) := hmk
  have hcv := cv_mark (w.alloc (.cells Z 5)) #[.int .u8 104, .int .u8 101, .int .u8 108, .int .u8 108, .int .u8 111] 5 5
  have hs1 : (w.alloc (.cells Z 5)).heap.size = w.heap.size + 1 := by simp
  rw [hs1] at hcv
  have hb1 : Below w.heap.size w (w.alloc (.cells Z 5)) := (Below.refl _ _).alloc (Nat.le_refl _) _
  have hal : Below (w.alloc (.cells Z 5)).heap.size (w.alloc (.cells Z 5)) ((w.alloc (.cells Z 5)).alloc (.cells #[.int .u8 104, .int .u8 101, .int .u8 108, .int .u8 108, .int .u8 111] 5 (5, 6))) := (Below.refl _ _).alloc (Nat.le_refl _) _
  have hb2 := hb1.trans (hal.mono hb1.size)
  have hSa : Sees (w.alloc (.cells Z 5)) 1 (some ⟨w.heap.size, 0, none⟩) 32 (u8s (List.replicate 32 0)) := by rw [hZ]; exact sees_new w 5 (u8s (List.replicate 32 0)) 1 32 (by simp)
  have hSb := sees_mark (w.alloc (.cells Z 5)) 5 (5, 6) (u8s [104, 101, 108, 108, 111]) 5 rfl
  rw [hs1] at hSb
  have HF := Lib.hid (frame_ok (List.replicate 32 0) [104, 101, 108, 108, 111] _ _ 32 5 5 _ (hSa.below hal) hSb (by simp) rfl (by omega) (by omega) (hT.below hb2))
  have HB2 := Lib.hid hb2
  clear hZ hs1 hb1 hal hb2 hSa hSb hT
  go_enter Tryd.func6, Tryd.ntmps6
  go_wp2_with (simp only [hmk])
  refine HF.out.mono ?_
  rintro e w' ⟨v, v', rfl, h1, h2, hb⟩
  obtain ⟨A1, c1, rfl⟩ := own_shape h1
  obtain ⟨A2, c2, rfl⟩ := own_shape h2
  have HB := Lib.hid hb; clear h1 h2 hb HF
  go_wp2_with fail
  go_ret
  exact ⟨rfl, HB2.out.trans (HB.out.mono HB2.out.size)⟩

theorem wf_i64 {n : Int} (h : (Lit.int .i64 n).wf = true) : -9223372036854775808 ≤ n ∧ n ≤ 9223372036854775807 := by
  simp [Lit.wf, IntKind.min, IntKind.max, IntKind.bits, IntKind.signed] at h
  omega

set_option maxRecDepth 4000 in
set_option maxHeartbeats 2000000 in
theorem parts_big (l t : List UInt8) (A B : Option Addr) (n c m c' : Nat) (q k : Int) (w : World) (hA : Sees w 1 A n (u8s l)) (hB : Sees w 1 B m (u8s t)) (hl : l.length = n) (ht : t.length = m) (hq : (Lit.int .i64 q).wf = true) (hk : (Lit.int .i64 k).wf = true) (hT : Tab w) (hs : 50 < n ∨ 700 < m) :
    Calls Tryd.prog 3 #[.slice A n c, .slice B m c', .agg #[.int .i64 q, .int .i64 k]] w fun e w' => e = .returned (.bool true) ∧ Below w.heap.size w w' := by
  have HAW := Lib.hid awake_any
  have HT := Lib.hid hT; clear hA hB hT
  by_cases h50 : 50 < n
  · have h50i : (50 : Int) < (n : Int) := by omega
    have hb0 : Below w.heap.size w (w.alloc (.cells #[.int .i64 q, .int .i64 k] 23)) := (Below.refl _ _).alloc (Nat.le_refl _) _
    have hT0 := HT.out.below hb0
    have HT0 := Lib.hid hT0; have HB0 := Lib.hid hb0; clear hT0 hb0
    go_enter Tryd.func3, Tryd.ntmps3
    go_wp2_with fail
    refine (HAW.out _ HT0.out).mono ?_
    rintro e w1 ⟨rfl, hb1⟩
    have hT1 := HT0.out.below hb1
    have hb01 := HB0.out.trans (hb1.mono HB0.out.size)
    have HT1 := Lib.hid hT1; have HB1 := Lib.hid hb01; clear hT1 hb01 hb1
    go_wp2_with fail
    refine (HAW.out _ HT1.out).mono ?_
    rintro e w2 ⟨rfl, hb2⟩
    have hb02 := HB1.out.trans (hb2.mono HB1.out.size)
    have HB2 := Lib.hid hb02; clear hb02 hb2
    go_wp2_with fail
    go_ret
    exact ⟨rfl, HB2.out⟩
  · have h50i : (n : Int) ≤ 50 := by omega
    have h700i : (700 : Int) < (m : Int) := by omega
    have hb0 : Below w.heap.size w (w.alloc (.cells #[.int .i64 q, .int .i64 k] 23)) := (Below.refl _ _).alloc (Nat.le_refl _) _
    have hT0 := HT.out.below hb0
    have HT0 := Lib.hid hT0; have HB0 := Lib.hid hb0; clear hT0 hb0
    go_enter Tryd.func3, Tryd.ntmps3
    go_wp2_with fail
    refine (HAW.out _ HT0.out).mono ?_
    rintro e w1 ⟨rfl, hb1⟩
    have hT1 := HT0.out.below hb1
    have hb01 := HB0.out.trans (hb1.mono HB0.out.size)
    have HT1 := Lib.hid hT1; have HB1 := Lib.hid hb01; clear hT1 hb01 hb1
    go_wp2_with fail
    refine (HAW.out _ HT1.out).mono ?_
    rintro e w2 ⟨rfl, hb2⟩
    have hb02 := HB1.out.trans (hb2.mono HB1.out.size)
    have HB2 := Lib.hid hb02; clear hb02 hb2
    go_wp2_with fail
    go_ret
    exact ⟨rfl, HB2.out⟩

set_option maxRecDepth 4000 in
set_option maxHeartbeats 2000000 in
theorem parts_nochain (l t : List UInt8) (A B : Option Addr) (n c m c' : Nat) (q k : Int) (w : World) (hA : Sees w 1 A n (u8s l)) (hB : Sees w 1 B m (u8s t)) (hl : l.length = n) (ht : t.length = m) (hq : (Lit.int .i64 q).wf = true) (hk : (Lit.int .i64 k).wf = true) (hT : Tab w) (hs : n ≤ 50 ∧ m ≤ 700) (h32 : n ≠ 32) :
    Calls Tryd.prog 3 #[.slice A n c, .slice B m c', .agg #[.int .i64 q, .int .i64 k]] w fun e w' => e = .returned (.bool true) ∧ Below w.heap.size w w' := by
  have HAW := Lib.hid awake_any
  have h50i : (n : Int) ≤ 50 := by omega
  have h700i : (m : Int) ≤ 700 := by omega
  have hqb := wf_i64 hq
  have hkb := wf_i64 hk
  have hb0 : Below w.heap.size w (w.alloc (.cells #[.int .i64 q, .int .i64 k] 23)) := (Below.refl _ _).alloc (Nat.le_refl _) _
  have hT0 := hT.below hb0
  obtain ⟨X, hX⟩ : ∃ X, X = str l := ⟨_, rfl⟩
  obtain ⟨Y, hY⟩ : ∃ Y, Y = str t := ⟨_, rfl⟩
  have hcx : ∀ w', Sees w' 1 A n (u8s l) → (convert 22 9 (.slice A n c)).run Tryd.prog w' = .ok (.string X) w' := fun w' h => by rw [hX]; exact run_to_string Tryd.underlying22 Tryd.underlying5 Tryd.underlying9 c h
  have hcy : ∀ w', Sees w' 1 B m (u8s t) → (convert 22 9 (.slice B m c')).run Tryd.prog w' = .ok (.string Y) w' := fun w' h => by rw [hY]; exact run_to_string Tryd.underlying22 Tryd.underlying5 Tryd.underlying9 c' h
  have hbk := Blk.new w 23 #[.int .i64 q, .int .i64 k]
  have HT0 := Lib.hid hT0; have HB0 := Lib.hid hb0; have HA := Lib.hid (hA.below hb0); have HB := Lib.hid (hB.below hb0); have HX := Lib.hid hX; have HY := Lib.hid hY; have HCX := Lib.hid hcx; have HCY := Lib.hid hcy; have HBK := Lib.hid hbk; have HQB := Lib.hid hqb; have HKB := Lib.hid hkb
  clear hT0 hb0 hA hB hT hX hY hcx hcy hbk hqb hkb hq hk
  go_enter Tryd.func3, Tryd.ntmps3
  go_wp2_with fail
  refine (HAW.out _ HT0.out).mono ?_
  rintro e w1 ⟨rfl, hb1⟩
  have hT1 : Tab w1.drew.drew := HT0.out.below hb1.drew.drew
  have hb01 : Below w.heap.size w w1.drew.drew := HB0.out.trans (hb1.mono HB0.out.size).drew.drew
  have hA1 := HA.out.below hb1
  have hB1 := HB.out.below hb1
  have hK1 := HBK.out.below hb1 HBK.out.lt
  have hk0 : w1.cell? ⟨w.heap.size, 0, none⟩ = some (.int .i64 q) := by rw [hK1.cell]; rfl
  have hk1 : w1.cell? ⟨w.heap.size, 1, none⟩ = some (.int .i64 k) := by rw [hK1.cell]; rfl
  have HT1 := Lib.hid hT1; have HB1 := Lib.hid hb01; have HA1 := Lib.hid hA1; have HB1' := Lib.hid hB1; have HK0 := Lib.hid hk0; have HK1 := Lib.hid hk1
  clear hT1 hb01 hb1 hA1 hB1 hK1 hk0 hk1
  go_wp2_with fail
  refine region_fast [(0, true), (1, true), (2, true), (3, true), (4, true), (5, true)] [2, 3, 4] 28 [(1073741824, 32, 0, 0), (2147483648, 1073741824, 1, 1), (4294967296, 32, 0, 0), (8589934592, 4294967296, 4, 4), (128, 2147483648, 3, 3), (256, 8589934592, 31, 31)] (fun w' => w'.cell? ⟨w.heap.size, 0, none⟩ = some (.int .i64 q) ∧ w'.cell? ⟨w.heap.size, 1, none⟩ = some (.int .i64 k)) (by kernel_rfl) (by kernel_rfl) (by kernel_rfl) rfl (by kernel_rfl) (by kernel_rfl) ⟨HK0.out, HK1.out⟩ (fun hS => ?_)
  repeat (first
    | (refine plan_read (v := ?_) rfl (fun _ _ _ h => h) rfl hS ?_ ?_; rotate_left 1; (focus (intro w' hS'; obtain ⟨c0, c1⟩ := hS'; go_simp; try rfl)); (simp only [Act.put, List.setIfInBounds_toArray]; dsimp only [List.set_cons_zero, List.set_cons_succ]))
    | (refine plan_skip rfl (fun _ _ _ h => h) rfl hS ?_; (simp only [Act.put, List.setIfInBounds_toArray]; dsimp only [List.set_cons_zero, List.set_cons_succ])))
  refine plan_nil ?_
  go_wp2_with fail
  refine region_fast [(0, true), (1, true), (2, true), (3, true), (4, true), (5, true)] [2, 3, 4] 28 [(17179869184, 1, 0, 0), (34359738368, 17179869184, 1, 1), (68719476736, 2, 0, 0), (137438953472, 68719476736, 4, 4), (512, 34359738368, 3, 3), (1024, 137438953472, 31, 31)] (fun w' => Sees w' 1 A n (u8s l) ∧ Sees w' 1 B m (u8s t)) (by kernel_rfl) (by kernel_rfl) (by kernel_rfl) rfl (by kernel_rfl) (by kernel_rfl) ⟨HA1.out, HB1'.out⟩ (fun hS => ?_)
  repeat (first
    | (refine plan_read (v := ?_) rfl (fun _ _ _ h => h) rfl hS ?_ ?_; rotate_left 1; (focus (intro w' hS'; have e1 := HCX.out _ hS'.1; have e2 := HCY.out _ hS'.2; go_simp; try rfl)); (simp only [Act.put, List.setIfInBounds_toArray]; dsimp only [List.set_cons_zero, List.set_cons_succ]))
    | (refine plan_skip rfl (fun _ _ _ h => h) rfl hS ?_; (simp only [Act.put, List.setIfInBounds_toArray]; dsimp only [List.set_cons_zero, List.set_cons_succ])))
  refine plan_nil ?_
  clear hS
  have hA2 : Sees w1.drew.drew 1 A n (u8s l) := HA1.out
  have hB2 : Sees w1.drew.drew 1 B m (u8s t) := HB1'.out
  have HA2 := Lib.hid hA2; have HB2 := Lib.hid hB2
  clear hA2 hB2 HA1 HB1' HK0 HK1 HBK HA HB HB0 HT0 HCX HCY
  generalize w1.drew.drew = W at *
  have h3 : ((n : Int) == 32) = false := by rw [beq_eq_false_iff_ne]; omega
  have h4 : ((n : Int) != 32) = true := by rw [bne, h3]; rfl
  go_wp2_with fail
  refine (head_no q k A n c _ (.inl h32)).mono ?_
  rintro e w2 ⟨rfl, rfl⟩
  go_wp2_with fail
  refine (foot_no k A n c _ (.inl h32)).mono ?_
  rintro e w2 ⟨rfl, rfl⟩
  go_wp2_with fail
  refine (frame_no A B n c m c' _ (.inr (.inr h32))).mono ?_
  rintro e w2 ⟨rfl, rfl⟩
  go_wp2_with fail
  go_ret
  exact ⟨rfl, HB1.out⟩

set_option maxRecDepth 4000 in
set_option maxHeartbeats 2000000 in
theorem parts_n_neg (l t : List UInt8) (A B : Option Addr) (n c m c' : Nat) (q k : Int) (w : World) (hA : Sees w 1 A n (u8s l)) (hB : Sees w 1 B m (u8s t)) (hl : l.length = n) (ht : t.length = m) (hq : (Lit.int .i64 q).wf = true) (hk : (Lit.int .i64 k).wf = true) (hT : Tab w) (hs : n ≤ 50 ∧ m ≤ 700) (h32 : n = 32) (hm : m < 1) (hk0 : k < 0) :
    Calls Tryd.prog 3 #[.slice A n c, .slice B m c', .agg #[.int .i64 q, .int .i64 k]] w fun e w' => e = .returned (.bool true) ∧ Below w.heap.size w w' := by
  subst h32
  have HAW := Lib.hid awake_any
  have h700i : (m : Int) ≤ 700 := by omega
  have hqb := wf_i64 hq
  have hkb := wf_i64 hk
  have hb0 : Below w.heap.size w (w.alloc (.cells #[.int .i64 q, .int .i64 k] 23)) := (Below.refl _ _).alloc (Nat.le_refl _) _
  have hT0 := hT.below hb0
  obtain ⟨X, hX⟩ : ∃ X, X = str l := ⟨_, rfl⟩
  obtain ⟨Y, hY⟩ : ∃ Y, Y = str t := ⟨_, rfl⟩
  have hcx : ∀ w', Sees w' 1 A 32 (u8s l) → (convert 22 9 (.slice A 32 c)).run Tryd.prog w' = .ok (.string X) w' := fun w' h => by rw [hX]; exact run_to_string Tryd.underlying22 Tryd.underlying5 Tryd.underlying9 c h
  have hcy : ∀ w', Sees w' 1 B m (u8s t) → (convert 22 9 (.slice B m c')).run Tryd.prog w' = .ok (.string Y) w' := fun w' h => by rw [hY]; exact run_to_string Tryd.underlying22 Tryd.underlying5 Tryd.underlying9 c' h
  have hbk := Blk.new w 23 #[.int .i64 q, .int .i64 k]
  have HT0 := Lib.hid hT0; have HB0 := Lib.hid hb0; have HA := Lib.hid (hA.below hb0); have HB := Lib.hid (hB.below hb0); have HX := Lib.hid hX; have HY := Lib.hid hY; have HCX := Lib.hid hcx; have HCY := Lib.hid hcy; have HBK := Lib.hid hbk; have HQB := Lib.hid hqb; have HKB := Lib.hid hkb
  clear hT0 hb0 hA hB hT hX hY hcx hcy hbk hqb hkb hq hk
  go_enter Tryd.func3, Tryd.ntmps3
  go_wp2_with fail
  refine (HAW.out _ HT0.out).mono ?_
  rintro e w1 ⟨rfl, hb1⟩
  have hT1 : Tab w1.drew.drew := HT0.out.below hb1.drew.drew
  have hb01 : Below w.heap.size w w1.drew.drew := HB0.out.trans (hb1.mono HB0.out.size).drew.drew
  have hA1 := HA.out.below hb1
  have hB1 := HB.out.below hb1
  have hK1 := HBK.out.below hb1 HBK.out.lt
  have hk0 : w1.cell? ⟨w.heap.size, 0, none⟩ = some (.int .i64 q) := by rw [hK1.cell]; rfl
  have hk1 : w1.cell? ⟨w.heap.size, 1, none⟩ = some (.int .i64 k) := by rw [hK1.cell]; rfl
  have HT1 := Lib.hid hT1; have HB1 := Lib.hid hb01; have HA1 := Lib.hid hA1; have HB1' := Lib.hid hB1; have HK0 := Lib.hid hk0; have HK1 := Lib.hid hk1
  clear hT1 hb01 hb1 hA1 hB1 hK1 hk0 hk1
  go_wp2_with fail
  refine region_fast [(0, true), (1, true), (2, true), (3, true), (4, true), (5, true)] [2, 3, 4] 28 [(1073741824, 32, 0, 0), (2147483648, 1073741824, 1, 1), (4294967296, 32, 0, 0), (8589934592, 4294967296, 4, 4), (128, 2147483648, 3, 3), (256, 8589934592, 31, 31)] (fun w' => w'.cell? ⟨w.heap.size, 0, none⟩ = some (.int .i64 q) ∧ w'.cell? ⟨w.heap.size, 1, none⟩ = some (.int .i64 k)) (by kernel_rfl) (by kernel_rfl) (by kernel_rfl) rfl (by kernel_rfl) (by kernel_rfl) ⟨HK0.out, HK1.out⟩ (fun hS => ?_)
  repeat (first
    | (refine plan_read (v := ?_) rfl (fun _ _ _ h => h) rfl hS ?_ ?_; rotate_left 1; (focus (intro w' hS'; obtain ⟨c0, c1⟩ := hS'; go_simp; try rfl)); (simp only [Act.put, List.setIfInBounds_toArray]; dsimp only [List.set_cons_zero, List.set_cons_succ]))
    | (refine plan_skip rfl (fun _ _ _ h => h) rfl hS ?_; (simp only [Act.put, List.setIfInBounds_toArray]; dsimp only [List.set_cons_zero, List.set_cons_succ])))
  refine plan_nil ?_
  go_wp2_with fail
  refine region_fast [(0, true), (1, true), (2, true), (3, true), (4, true), (5, true)] [2, 3, 4] 28 [(17179869184, 1, 0, 0), (34359738368, 17179869184, 1, 1), (68719476736, 2, 0, 0), (137438953472, 68719476736, 4, 4), (512, 34359738368, 3, 3), (1024, 137438953472, 31, 31)] (fun w' => Sees w' 1 A 32 (u8s l) ∧ Sees w' 1 B m (u8s t)) (by kernel_rfl) (by kernel_rfl) (by kernel_rfl) rfl (by kernel_rfl) (by kernel_rfl) ⟨HA1.out, HB1'.out⟩ (fun hS => ?_)
  repeat (first
    | (refine plan_read (v := ?_) rfl (fun _ _ _ h => h) rfl hS ?_ ?_; rotate_left 1; (focus (intro w' hS'; have e1 := HCX.out _ hS'.1; have e2 := HCY.out _ hS'.2; go_simp; try rfl)); (simp only [Act.put, List.setIfInBounds_toArray]; dsimp only [List.set_cons_zero, List.set_cons_succ]))
    | (refine plan_skip rfl (fun _ _ _ h => h) rfl hS ?_; (simp only [Act.put, List.setIfInBounds_toArray]; dsimp only [List.set_cons_zero, List.set_cons_succ])))
  refine plan_nil ?_
  clear hS
  have hA2 : Sees w1.drew.drew 1 A 32 (u8s l) := HA1.out
  have hB2 : Sees w1.drew.drew 1 B m (u8s t) := HB1'.out
  have HA2 := Lib.hid hA2; have HB2 := Lib.hid hB2
  clear hA2 hB2 HA1 HB1' HK0 HK1 HBK HA HB HB0 HT0 HCX HCY
  generalize w1.drew.drew = W at *
  have hmi : (m : Int) < 1 := by omega
  have hsz0 := HB1.out.size
  go_wp2_with fail
  refine (head_no q k A 32 c _ (.inr hk0)).mono ?_
  rintro e w2 ⟨rfl, rfl⟩
  go_wp2_with fail
  refine (foot_no k A 32 c _ (.inr hk0)).mono ?_
  rintro e w2 ⟨rfl, rfl⟩
  go_wp2_with fail
  refine (frame_no A B 32 c m c' _ (.inl hm)).mono ?_
  rintro e w4 ⟨rfl, rfl⟩
  go_wp2_with fail
  go_ret
  exact ⟨rfl, HB1.out⟩

set_option maxRecDepth 4000 in
set_option maxHeartbeats 2000000 in
theorem parts_n_okneg (l t : List UInt8) (A B : Option Addr) (n c m c' : Nat) (q k : Int) (w : World) (hA : Sees w 1 A n (u8s l)) (hB : Sees w 1 B m (u8s t)) (hl : l.length = n) (ht : t.length = m) (hq : (Lit.int .i64 q).wf = true) (hk : (Lit.int .i64 k).wf = true) (hT : Tab w) (hs : n ≤ 50 ∧ m ≤ 700) (h32 : n = 32) (hm : m < 1) (hk0 : 0 ≤ k) (hq0 : q < 0) :
    Calls Tryd.prog 3 #[.slice A n c, .slice B m c', .agg #[.int .i64 q, .int .i64 k]] w fun e w' => e = .returned (.bool true) ∧ Below w.heap.size w w' := by
  subst h32
  have HAW := Lib.hid awake_any
  have h700i : (m : Int) ≤ 700 := by omega
  have hqb := wf_i64 hq
  have hkb := wf_i64 hk
  have hb0 : Below w.heap.size w (w.alloc (.cells #[.int .i64 q, .int .i64 k] 23)) := (Below.refl _ _).alloc (Nat.le_refl _) _
  have hT0 := hT.below hb0
  obtain ⟨X, hX⟩ : ∃ X, X = str l := ⟨_, rfl⟩
  obtain ⟨Y, hY⟩ : ∃ Y, Y = str t := ⟨_, rfl⟩
  have hcx : ∀ w', Sees w' 1 A 32 (u8s l) → (convert 22 9 (.slice A 32 c)).run Tryd.prog w' = .ok (.string X) w' := fun w' h => by rw [hX]; exact run_to_string Tryd.underlying22 Tryd.underlying5 Tryd.underlying9 c h
  have hcy : ∀ w', Sees w' 1 B m (u8s t) → (convert 22 9 (.slice B m c')).run Tryd.prog w' = .ok (.string Y) w' := fun w' h => by rw [hY]; exact run_to_string Tryd.underlying22 Tryd.underlying5 Tryd.underlying9 c' h
  have hbk := Blk.new w 23 #[.int .i64 q, .int .i64 k]
  have HT0 := Lib.hid hT0; have HB0 := Lib.hid hb0; have HA := Lib.hid (hA.below hb0); have HB := Lib.hid (hB.below hb0); have HX := Lib.hid hX; have HY := Lib.hid hY; have HCX := Lib.hid hcx; have HCY := Lib.hid hcy; have HBK := Lib.hid hbk; have HQB := Lib.hid hqb; have HKB := Lib.hid hkb
  clear hT0 hb0 hA hB hT hX hY hcx hcy hbk hqb hkb hq hk
  go_enter Tryd.func3, Tryd.ntmps3
  go_wp2_with fail
  refine (HAW.out _ HT0.out).mono ?_
  rintro e w1 ⟨rfl, hb1⟩
  have hT1 : Tab w1.drew.drew := HT0.out.below hb1.drew.drew
  have hb01 : Below w.heap.size w w1.drew.drew := HB0.out.trans (hb1.mono HB0.out.size).drew.drew
  have hA1 := HA.out.below hb1
  have hB1 := HB.out.below hb1
  have hK1 := HBK.out.below hb1 HBK.out.lt
  have hk0 : w1.cell? ⟨w.heap.size, 0, none⟩ = some (.int .i64 q) := by rw [hK1.cell]; rfl
  have hk1 : w1.cell? ⟨w.heap.size, 1, none⟩ = some (.int .i64 k) := by rw [hK1.cell]; rfl
  have HT1 := Lib.hid hT1; have HB1 := Lib.hid hb01; have HA1 := Lib.hid hA1; have HB1' := Lib.hid hB1; have HK0 := Lib.hid hk0; have HK1 := Lib.hid hk1
  clear hT1 hb01 hb1 hA1 hB1 hK1 hk0 hk1
  go_wp2_with fail
  refine region_fast [(0, true), (1, true), (2, true), (3, true), (4, true), (5, true)] [2, 3, 4] 28 [(1073741824, 32, 0, 0), (2147483648, 1073741824, 1, 1), (4294967296, 32, 0, 0), (8589934592, 4294967296, 4, 4), (128, 2147483648, 3, 3), (256, 8589934592, 31, 31)] (fun w' => w'.cell? ⟨w.heap.size, 0, none⟩ = some (.int .i64 q) ∧ w'.cell? ⟨w.heap.size, 1, none⟩ = some (.int .i64 k)) (by kernel_rfl) (by kernel_rfl) (by kernel_rfl) rfl (by kernel_rfl) (by kernel_rfl) ⟨HK0.out, HK1.out⟩ (fun hS => ?_)
  repeat (first
    | (refine plan_read (v := ?_) rfl (fun _ _ _ h => h) rfl hS ?_ ?_; rotate_left 1; (focus (intro w' hS'; obtain ⟨c0, c1⟩ := hS'; go_simp; try rfl)); (simp only [Act.put, List.setIfInBounds_toArray]; dsimp only [List.set_cons_zero, List.set_cons_succ]))
    | (refine plan_skip rfl (fun _ _ _ h => h) rfl hS ?_; (simp only [Act.put, List.setIfInBounds_toArray]; dsimp only [List.set_cons_zero, List.set_cons_succ])))
  refine plan_nil ?_
  go_wp2_with fail
  refine region_fast [(0, true), (1, true), (2, true), (3, true), (4, true), (5, true)] [2, 3, 4] 28 [(17179869184, 1, 0, 0), (34359738368, 17179869184, 1, 1), (68719476736, 2, 0, 0), (137438953472, 68719476736, 4, 4), (512, 34359738368, 3, 3), (1024, 137438953472, 31, 31)] (fun w' => Sees w' 1 A 32 (u8s l) ∧ Sees w' 1 B m (u8s t)) (by kernel_rfl) (by kernel_rfl) (by kernel_rfl) rfl (by kernel_rfl) (by kernel_rfl) ⟨HA1.out, HB1'.out⟩ (fun hS => ?_)
  repeat (first
    | (refine plan_read (v := ?_) rfl (fun _ _ _ h => h) rfl hS ?_ ?_; rotate_left 1; (focus (intro w' hS'; have e1 := HCX.out _ hS'.1; have e2 := HCY.out _ hS'.2; go_simp; try rfl)); (simp only [Act.put, List.setIfInBounds_toArray]; dsimp only [List.set_cons_zero, List.set_cons_succ]))
    | (refine plan_skip rfl (fun _ _ _ h => h) rfl hS ?_; (simp only [Act.put, List.setIfInBounds_toArray]; dsimp only [List.set_cons_zero, List.set_cons_succ])))
  refine plan_nil ?_
  clear hS
  have hA2 : Sees w1.drew.drew 1 A 32 (u8s l) := HA1.out
  have hB2 : Sees w1.drew.drew 1 B m (u8s t) := HB1'.out
  have HA2 := Lib.hid hA2; have HB2 := Lib.hid hB2
  clear hA2 hB2 HA1 HB1' HK0 HK1 HBK HA HB HB0 HT0 HCX HCY
  generalize w1.drew.drew = W at *
  have hmi : (m : Int) < 1 := by omega
  have hsz0 := HB1.out.size
  obtain ⟨kn, rfl⟩ : ∃ kn : Nat, k = (kn : Int) := ⟨k.toNat, by omega⟩
  have hkn : kn < 9223372036854775808 := by have := HKB.out; omega
  go_wp2_with fail
  refine (head_bad q kn l A c _ HA2.out hl hkn (by omega) (by have := HQB.out; omega)).mono ?_
  rintro e w2 ⟨rfl, hb2⟩
  have hb02 := HB1.out.trans (hb2.mono HB1.out.size)
  have hA3 := HA2.out.below hb2
  have hB3 := HB2.out.below hb2
  have hT3 := HT1.out.below hb2
  have HB02 := Lib.hid hb02; have HA3 := Lib.hid hA3; have HB3 := Lib.hid hB3; have HT3 := Lib.hid hT3
  clear hb02 hA3 hB3 hT3 hb2 HB1 HA2 HB2 HT1
  go_wp2_with fail
  refine (foot_ok kn l A c _ HA3.out hl hkn).mono ?_
  rintro e w3 ⟨v3, rfl, hown3, hb3⟩
  obtain ⟨A3, c3, rfl⟩ := own_shape hown3
  have hb03 := HB02.out.trans (hb3.mono HB02.out.size)
  have hA4 := HA3.out.below hb3
  have hB4 := HB3.out.below hb3
  have hT4 := HT3.out.below hb3
  have HO3 := Lib.hid hown3; have HB03 := Lib.hid hb03; have HA4 := Lib.hid hA4; have HB4 := Lib.hid hB4; have HT4 := Lib.hid hT4
  clear hown3 hb03 hA4 hB4 hT4 hb3 HB02 HA3 HB3 HT3
  go_wp2_with fail
  refine (frame_no A B 32 c m c' _ (.inl hm)).mono ?_
  rintro e w4 ⟨rfl, rfl⟩
  go_wp2_with fail
  obtain ⟨Z3, hZ3⟩ : ∃ X, X = str (ft kn l) := ⟨_, rfl⟩
  have HRT := Lib.hid (rfoot_any kn l hl hkn)
  rw [← HX.out, ← hZ3] at HRT
  have hc3 : ∀ w', Sees w' 1 A3 48 (u8s (ft kn l)) → (convert 22 9 (.slice A3 48 c3)).run Tryd.prog w' = .ok (.string Z3) w' := fun w' h => by rw [hZ3]; exact run_to_string Tryd.underlying22 Tryd.underlying5 Tryd.underlying9 c3 h
  have HC3 := Lib.hid hc3; clear hc3 hZ3
  refine region_fast [(0, true), (1, true), (2, true), (3, true), (4, false), (5, true)] [2, 3, 4] 28 [(316912650057057350374175801344, 4096, 0, 0), (633825300114114700748351602688, 316912650057057350374175801344, 1, 1), (1267650600228229401496703205376, 256, 0, 0), (2535301200456458802993406410752, 512, 0, 0), (5070602400912917605986812821504, 3802951800684688204490109616128, 12, 12), (10141204801825835211973625643008, 5704427701027032306735164424192, 18, 31)] (fun w' => Sees w' 1 A3 48 (u8s (ft kn l))) (by kernel_rfl) (by kernel_rfl) (by kernel_rfl) rfl (by kernel_rfl) (by kernel_rfl) (Sees.of_own HO3.out) (fun hS => ?_)
  repeat (first
    | (refine plan_read (v := ?_) rfl (fun _ _ _ h => h) rfl hS ?_ ?_; rotate_left 1; (focus (intro w' hS'; have e3 := HC3.out _ hS'; go_simp; try rfl)); (simp only [Act.put, List.setIfInBounds_toArray]; dsimp only [List.set_cons_zero, List.set_cons_succ]))
    | (refine plan_skip rfl (fun _ _ _ h => h) rfl hS ?_; (simp only [Act.put, List.setIfInBounds_toArray]; dsimp only [List.set_cons_zero, List.set_cons_succ])))
  refine plan_do (by rfl) (by rfl) (fun K hK => ?_)
  go_simp
  refine (HRT.out _).mono ?_
  rintro e w6 ⟨rfl, hb6⟩
  have hb06 : Below w.heap.size w w6 := HB03.out.drew.trans (hb6.mono HB03.out.drew.size)
  have hs6 := hS.below hb6
  refine hK.out _ _ (fun _ => hs6) (fun hS => ?_); clear hK K; replace hS := hS rfl; try (simp only [Act.put, List.setIfInBounds_toArray]; dsimp only [List.set_cons_zero, List.set_cons_succ])
  repeat (first
    | (refine plan_read (v := ?_) rfl (fun _ _ _ h => h) rfl hS ?_ ?_; rotate_left 1; (focus (intro w' hS'; have e3 := HC3.out _ hS'; go_simp; try rfl)); (simp only [Act.put, List.setIfInBounds_toArray]; dsimp only [List.set_cons_zero, List.set_cons_succ]))
    | (refine plan_skip rfl (fun _ _ _ h => h) rfl hS ?_; (simp only [Act.put, List.setIfInBounds_toArray]; dsimp only [List.set_cons_zero, List.set_cons_succ])))
  refine plan_nil ?_
  have HB06 := Lib.hid hb06; clear hb06 hb6 hs6 hS
  go_wp2_with fail
  go_ret
  exact ⟨rfl, HB06.out⟩

set_option maxRecDepth 4000 in
set_option maxHeartbeats 2000000 in
theorem parts_n_okbig (l t : List UInt8) (A B : Option Addr) (n c m c' : Nat) (q k : Int) (w : World) (hA : Sees w 1 A n (u8s l)) (hB : Sees w 1 B m (u8s t)) (hl : l.length = n) (ht : t.length = m) (hq : (Lit.int .i64 q).wf = true) (hk : (Lit.int .i64 k).wf = true) (hT : Tab w) (hs : n ≤ 50 ∧ m ≤ 700) (h32 : n = 32) (hm : m < 1) (hk0 : 0 ≤ k) (hq0 : 4294967295 < q) :
    Calls Tryd.prog 3 #[.slice A n c, .slice B m c', .agg #[.int .i64 q, .int .i64 k]] w fun e w' => e = .returned (.bool true) ∧ Below w.heap.size w w' := by
  subst h32
  have HAW := Lib.hid awake_any
  have h700i : (m : Int) ≤ 700 := by omega
  have hqb := wf_i64 hq
  have hkb := wf_i64 hk
  have hb0 : Below w.heap.size w (w.alloc (.cells #[.int .i64 q, .int .i64 k] 23)) := (Below.refl _ _).alloc (Nat.le_refl _) _
  have hT0 := hT.below hb0
  obtain ⟨X, hX⟩ : ∃ X, X = str l := ⟨_, rfl⟩
  obtain ⟨Y, hY⟩ : ∃ Y, Y = str t := ⟨_, rfl⟩
  have hcx : ∀ w', Sees w' 1 A 32 (u8s l) → (convert 22 9 (.slice A 32 c)).run Tryd.prog w' = .ok (.string X) w' := fun w' h => by rw [hX]; exact run_to_string Tryd.underlying22 Tryd.underlying5 Tryd.underlying9 c h
  have hcy : ∀ w', Sees w' 1 B m (u8s t) → (convert 22 9 (.slice B m c')).run Tryd.prog w' = .ok (.string Y) w' := fun w' h => by rw [hY]; exact run_to_string Tryd.underlying22 Tryd.underlying5 Tryd.underlying9 c' h
  have hbk := Blk.new w 23 #[.int .i64 q, .int .i64 k]
  have HT0 := Lib.hid hT0; have HB0 := Lib.hid hb0; have HA := Lib.hid (hA.below hb0); have HB := Lib.hid (hB.below hb0); have HX := Lib.hid hX; have HY := Lib.hid hY; have HCX := Lib.hid hcx; have HCY := Lib.hid hcy; have HBK := Lib.hid hbk; have HQB := Lib.hid hqb; have HKB := Lib.hid hkb
  clear hT0 hb0 hA hB hT hX hY hcx hcy hbk hqb hkb hq hk
  go_enter Tryd.func3, Tryd.ntmps3
  go_wp2_with fail
  refine (HAW.out _ HT0.out).mono ?_
  rintro e w1 ⟨rfl, hb1⟩
  have hT1 : Tab w1.drew.drew := HT0.out.below hb1.drew.drew
  have hb01 : Below w.heap.size w w1.drew.drew := HB0.out.trans (hb1.mono HB0.out.size).drew.drew
  have hA1 := HA.out.below hb1
  have hB1 := HB.out.below hb1
  have hK1 := HBK.out.below hb1 HBK.out.lt
  have hk0 : w1.cell? ⟨w.heap.size, 0, none⟩ = some (.int .i64 q) := by rw [hK1.cell]; rfl
  have hk1 : w1.cell? ⟨w.heap.size, 1, none⟩ = some (.int .i64 k) := by rw [hK1.cell]; rfl
  have HT1 := Lib.hid hT1; have HB1 := Lib.hid hb01; have HA1 := Lib.hid hA1; have HB1' := Lib.hid hB1; have HK0 := Lib.hid hk0; have HK1 := Lib.hid hk1
  clear hT1 hb01 hb1 hA1 hB1 hK1 hk0 hk1
  go_wp2_with fail
  refine region_fast [(0, true), (1, true), (2, true), (3, true), (4, true), (5, true)] [2, 3, 4] 28 [(1073741824, 32, 0, 0), (2147483648, 1073741824, 1, 1), (4294967296, 32, 0, 0), (8589934592, 4294967296, 4, 4), (128, 2147483648, 3, 3), (256, 8589934592, 31, 31)] (fun w' => w'.cell? ⟨w.heap.size, 0, none⟩ = some (.int .i64 q) ∧ w'.cell? ⟨w.heap.size, 1, none⟩ = some (.int .i64 k)) (by kernel_rfl) (by kernel_rfl) (by kernel_rfl) rfl (by kernel_rfl) (by kernel_rfl) ⟨HK0.out, HK1.out⟩ (fun hS => ?_)
  repeat (first
    | (refine plan_read (v := ?_) rfl (fun _ _ _ h => h) rfl hS ?_ ?_; rotate_left 1; (focus (intro w' hS'; obtain ⟨c0, c1⟩ := hS'; go_simp; try rfl)); (simp only [Act.put, List.setIfInBounds_toArray]; dsimp only [List.set_cons_zero, List.set_cons_succ]))
    | (refine plan_skip rfl (fun _ _ _ h => h) rfl hS ?_; (simp only [Act.put, List.setIfInBounds_toArray]; dsimp only [List.set_cons_zero, List.set_cons_succ])))
  refine plan_nil ?_
  go_wp2_with fail
  refine region_fast [(0, true), (1, true), (2, true), (3, true), (4, true), (5, true)] [2, 3, 4] 28 [(17179869184, 1, 0, 0), (34359738368, 17179869184, 1, 1), (68719476736, 2, 0, 0), (137438953472, 68719476736, 4, 4), (512, 34359738368, 3, 3), (1024, 137438953472, 31, 31)] (fun w' => Sees w' 1 A 32 (u8s l) ∧ Sees w' 1 B m (u8s t)) (by kernel_rfl) (by kernel_rfl) (by kernel_rfl) rfl (by kernel_rfl) (by kernel_rfl) ⟨HA1.out, HB1'.out⟩ (fun hS => ?_)
  repeat (first
    | (refine plan_read (v := ?_) rfl (fun _ _ _ h => h) rfl hS ?_ ?_; rotate_left 1; (focus (intro w' hS'; have e1 := HCX.out _ hS'.1; have e2 := HCY.out _ hS'.2; go_simp; try rfl)); (simp only [Act.put, List.setIfInBounds_toArray]; dsimp only [List.set_cons_zero, List.set_cons_succ]))
    | (refine plan_skip rfl (fun _ _ _ h => h) rfl hS ?_; (simp only [Act.put, List.setIfInBounds_toArray]; dsimp only [List.set_cons_zero, List.set_cons_succ])))
  refine plan_nil ?_
  clear hS
  have hA2 : Sees w1.drew.drew 1 A 32 (u8s l) := HA1.out
  have hB2 : Sees w1.drew.drew 1 B m (u8s t) := HB1'.out
  have HA2 := Lib.hid hA2; have HB2 := Lib.hid hB2
  clear hA2 hB2 HA1 HB1' HK0 HK1 HBK HA HB HB0 HT0 HCX HCY
  generalize w1.drew.drew = W at *
  have hmi : (m : Int) < 1 := by omega
  have hsz0 := HB1.out.size
  obtain ⟨kn, rfl⟩ : ∃ kn : Nat, k = (kn : Int) := ⟨k.toNat, by omega⟩
  have hkn : kn < 9223372036854775808 := by have := HKB.out; omega
  go_wp2_with fail
  refine (head_bad q kn l A c _ HA2.out hl hkn (by omega) (by have := HQB.out; omega)).mono ?_
  rintro e w2 ⟨rfl, hb2⟩
  have hb02 := HB1.out.trans (hb2.mono HB1.out.size)
  have hA3 := HA2.out.below hb2
  have hB3 := HB2.out.below hb2
  have hT3 := HT1.out.below hb2
  have HB02 := Lib.hid hb02; have HA3 := Lib.hid hA3; have HB3 := Lib.hid hB3; have HT3 := Lib.hid hT3
  clear hb02 hA3 hB3 hT3 hb2 HB1 HA2 HB2 HT1
  go_wp2_with fail
  refine (foot_ok kn l A c _ HA3.out hl hkn).mono ?_
  rintro e w3 ⟨v3, rfl, hown3, hb3⟩
  obtain ⟨A3, c3, rfl⟩ := own_shape hown3
  have hb03 := HB02.out.trans (hb3.mono HB02.out.size)
  have hA4 := HA3.out.below hb3
  have hB4 := HB3.out.below hb3
  have hT4 := HT3.out.below hb3
  have HO3 := Lib.hid hown3; have HB03 := Lib.hid hb03; have HA4 := Lib.hid hA4; have HB4 := Lib.hid hB4; have HT4 := Lib.hid hT4
  clear hown3 hb03 hA4 hB4 hT4 hb3 HB02 HA3 HB3 HT3
  go_wp2_with fail
  refine (frame_no A B 32 c m c' _ (.inl hm)).mono ?_
  rintro e w4 ⟨rfl, rfl⟩
  go_wp2_with fail
  obtain ⟨Z3, hZ3⟩ : ∃ X, X = str (ft kn l) := ⟨_, rfl⟩
  have HRT := Lib.hid (rfoot_any kn l hl hkn)
  rw [← HX.out, ← hZ3] at HRT
  have hc3 : ∀ w', Sees w' 1 A3 48 (u8s (ft kn l)) → (convert 22 9 (.slice A3 48 c3)).run Tryd.prog w' = .ok (.string Z3) w' := fun w' h => by rw [hZ3]; exact run_to_string Tryd.underlying22 Tryd.underlying5 Tryd.underlying9 c3 h
  have HC3 := Lib.hid hc3; clear hc3 hZ3
  refine region_fast [(0, true), (1, true), (2, true), (3, true), (4, false), (5, true)] [2, 3, 4] 28 [(316912650057057350374175801344, 4096, 0, 0), (633825300114114700748351602688, 316912650057057350374175801344, 1, 1), (1267650600228229401496703205376, 256, 0, 0), (2535301200456458802993406410752, 512, 0, 0), (5070602400912917605986812821504, 3802951800684688204490109616128, 12, 12), (10141204801825835211973625643008, 5704427701027032306735164424192, 18, 31)] (fun w' => Sees w' 1 A3 48 (u8s (ft kn l))) (by kernel_rfl) (by kernel_rfl) (by kernel_rfl) rfl (by kernel_rfl) (by kernel_rfl) (Sees.of_own HO3.out) (fun hS => ?_)
  repeat (first
    | (refine plan_read (v := ?_) rfl (fun _ _ _ h => h) rfl hS ?_ ?_; rotate_left 1; (focus (intro w' hS'; have e3 := HC3.out _ hS'; go_simp; try rfl)); (simp only [Act.put, List.setIfInBounds_toArray]; dsimp only [List.set_cons_zero, List.set_cons_succ]))
    | (refine plan_skip rfl (fun _ _ _ h => h) rfl hS ?_; (simp only [Act.put, List.setIfInBounds_toArray]; dsimp only [List.set_cons_zero, List.set_cons_succ])))
  refine plan_do (by rfl) (by rfl) (fun K hK => ?_)
  go_simp
  refine (HRT.out _).mono ?_
  rintro e w6 ⟨rfl, hb6⟩
  have hb06 : Below w.heap.size w w6 := HB03.out.drew.trans (hb6.mono HB03.out.drew.size)
  have hs6 := hS.below hb6
  refine hK.out _ _ (fun _ => hs6) (fun hS => ?_); clear hK K; replace hS := hS rfl; try (simp only [Act.put, List.setIfInBounds_toArray]; dsimp only [List.set_cons_zero, List.set_cons_succ])
  repeat (first
    | (refine plan_read (v := ?_) rfl (fun _ _ _ h => h) rfl hS ?_ ?_; rotate_left 1; (focus (intro w' hS'; have e3 := HC3.out _ hS'; go_simp; try rfl)); (simp only [Act.put, List.setIfInBounds_toArray]; dsimp only [List.set_cons_zero, List.set_cons_succ]))
    | (refine plan_skip rfl (fun _ _ _ h => h) rfl hS ?_; (simp only [Act.put, List.setIfInBounds_toArray]; dsimp only [List.set_cons_zero, List.set_cons_succ])))
  refine plan_nil ?_
  have HB06 := Lib.hid hb06; clear hb06 hb6 hs6 hS
  go_wp2_with fail
  go_ret
  exact ⟨rfl, HB06.out⟩

set_option maxRecDepth 4000 in
set_option maxHeartbeats 2000000 in
theorem parts_n_okok (l t : List UInt8) (A B : Option Addr) (n c m c' : Nat) (q k : Int) (w : World) (hA : Sees w 1 A n (u8s l)) (hB : Sees w 1 B m (u8s t)) (hl : l.length = n) (ht : t.length = m) (hq : (Lit.int .i64 q).wf = true) (hk : (Lit.int .i64 k).wf = true) (hT : Tab w) (hs : n ≤ 50 ∧ m ≤ 700) (h32 : n = 32) (hm : m < 1) (hk0 : 0 ≤ k) (hq0 : 0 ≤ q) (hq1 : q ≤ 4294967295) :
    Calls Tryd.prog 3 #[.slice A n c, .slice B m c', .agg #[.int .i64 q, .int .i64 k]] w fun e w' => e = .returned (.bool true) ∧ Below w.heap.size w w' := by
  subst h32
  have HAW := Lib.hid awake_any
  have h700i : (m : Int) ≤ 700 := by omega
  have hqb := wf_i64 hq
  have hkb := wf_i64 hk
  have hb0 : Below w.heap.size w (w.alloc (.cells #[.int .i64 q, .int .i64 k] 23)) := (Below.refl _ _).alloc (Nat.le_refl _) _
  have hT0 := hT.below hb0
  obtain ⟨X, hX⟩ : ∃ X, X = str l := ⟨_, rfl⟩
  obtain ⟨Y, hY⟩ : ∃ Y, Y = str t := ⟨_, rfl⟩
  have hcx : ∀ w', Sees w' 1 A 32 (u8s l) → (convert 22 9 (.slice A 32 c)).run Tryd.prog w' = .ok (.string X) w' := fun w' h => by rw [hX]; exact run_to_string Tryd.underlying22 Tryd.underlying5 Tryd.underlying9 c h
  have hcy : ∀ w', Sees w' 1 B m (u8s t) → (convert 22 9 (.slice B m c')).run Tryd.prog w' = .ok (.string Y) w' := fun w' h => by rw [hY]; exact run_to_string Tryd.underlying22 Tryd.underlying5 Tryd.underlying9 c' h
  have hbk := Blk.new w 23 #[.int .i64 q, .int .i64 k]
  have HT0 := Lib.hid hT0; have HB0 := Lib.hid hb0; have HA := Lib.hid (hA.below hb0); have HB := Lib.hid (hB.below hb0); have HX := Lib.hid hX; have HY := Lib.hid hY; have HCX := Lib.hid hcx; have HCY := Lib.hid hcy; have HBK := Lib.hid hbk; have HQB := Lib.hid hqb; have HKB := Lib.hid hkb
  clear hT0 hb0 hA hB hT hX hY hcx hcy hbk hqb hkb hq hk
  go_enter Tryd.func3, Tryd.ntmps3
  go_wp2_with fail
  refine (HAW.out _ HT0.out).mono ?_
  rintro e w1 ⟨rfl, hb1⟩
  have hT1 : Tab w1.drew.drew := HT0.out.below hb1.drew.drew
  have hb01 : Below w.heap.size w w1.drew.drew := HB0.out.trans (hb1.mono HB0.out.size).drew.drew
  have hA1 := HA.out.below hb1
  have hB1 := HB.out.below hb1
  have hK1 := HBK.out.below hb1 HBK.out.lt
  have hk0 : w1.cell? ⟨w.heap.size, 0, none⟩ = some (.int .i64 q) := by rw [hK1.cell]; rfl
  have hk1 : w1.cell? ⟨w.heap.size, 1, none⟩ = some (.int .i64 k) := by rw [hK1.cell]; rfl
  have HT1 := Lib.hid hT1; have HB1 := Lib.hid hb01; have HA1 := Lib.hid hA1; have HB1' := Lib.hid hB1; have HK0 := Lib.hid hk0; have HK1 := Lib.hid hk1
  clear hT1 hb01 hb1 hA1 hB1 hK1 hk0 hk1
  go_wp2_with fail
  refine region_fast [(0, true), (1, true), (2, true), (3, true), (4, true), (5, true)] [2, 3, 4] 28 [(1073741824, 32, 0, 0), (2147483648, 1073741824, 1, 1), (4294967296, 32, 0, 0), (8589934592, 4294967296, 4, 4), (128, 2147483648, 3, 3), (256, 8589934592, 31, 31)] (fun w' => w'.cell? ⟨w.heap.size, 0, none⟩ = some (.int .i64 q) ∧ w'.cell? ⟨w.heap.size, 1, none⟩ = some (.int .i64 k)) (by kernel_rfl) (by kernel_rfl) (by kernel_rfl) rfl (by kernel_rfl) (by kernel_rfl) ⟨HK0.out, HK1.out⟩ (fun hS => ?_)
  repeat (first
    | (refine plan_read (v := ?_) rfl (fun _ _ _ h => h) rfl hS ?_ ?_; rotate_left 1; (focus (intro w' hS'; obtain ⟨c0, c1⟩ := hS'; go_simp; try rfl)); (simp only [Act.put, List.setIfInBounds_toArray]; dsimp only [List.set_cons_zero, List.set_cons_succ]))
    | (refine plan_skip rfl (fun _ _ _ h => h) rfl hS ?_; (simp only [Act.put, List.setIfInBounds_toArray]; dsimp only [List.set_cons_zero, List.set_cons_succ])))
  refine plan_nil ?_
  go_wp2_with fail
  refine region_fast [(0, true), (1, true), (2, true), (3, true), (4, true), (5, true)] [2, 3, 4] 28 [(17179869184, 1, 0, 0), (34359738368, 17179869184, 1, 1), (68719476736, 2, 0, 0), (137438953472, 68719476736, 4, 4), (512, 34359738368, 3, 3), (1024, 137438953472, 31, 31)] (fun w' => Sees w' 1 A 32 (u8s l) ∧ Sees w' 1 B m (u8s t)) (by kernel_rfl) (by kernel_rfl) (by kernel_rfl) rfl (by kernel_rfl) (by kernel_rfl) ⟨HA1.out, HB1'.out⟩ (fun hS => ?_)
  repeat (first
    | (refine plan_read (v := ?_) rfl (fun _ _ _ h => h) rfl hS ?_ ?_; rotate_left 1; (focus (intro w' hS'; have e1 := HCX.out _ hS'.1; have e2 := HCY.out _ hS'.2; go_simp; try rfl)); (simp only [Act.put, List.setIfInBounds_toArray]; dsimp only [List.set_cons_zero, List.set_cons_succ]))
    | (refine plan_skip rfl (fun _ _ _ h => h) rfl hS ?_; (simp only [Act.put, List.setIfInBounds_toArray]; dsimp only [List.set_cons_zero, List.set_cons_succ])))
  refine plan_nil ?_
  clear hS
  have hA2 : Sees w1.drew.drew 1 A 32 (u8s l) := HA1.out
  have hB2 : Sees w1.drew.drew 1 B m (u8s t) := HB1'.out
  have HA2 := Lib.hid hA2; have HB2 := Lib.hid hB2
  clear hA2 hB2 HA1 HB1' HK0 HK1 HBK HA HB HB0 HT0 HCX HCY
  generalize w1.drew.drew = W at *
  have hmi : (m : Int) < 1 := by omega
  have hsz0 := HB1.out.size
  obtain ⟨kn, rfl⟩ : ∃ kn : Nat, k = (kn : Int) := ⟨k.toNat, by omega⟩
  have hkn : kn < 9223372036854775808 := by have := HKB.out; omega
  obtain ⟨qn, rfl⟩ : ∃ qn : Nat, q = (qn : Int) := ⟨q.toNat, by omega⟩
  go_wp2_with fail
  refine (head_ok qn kn l A c _ HA2.out hl hkn (by omega)).mono ?_
  rintro e w2 ⟨v2, rfl, hown2, hb2⟩
  obtain ⟨A2, c2, rfl⟩ := own_shape hown2
  have HO2 := Lib.hid hown2
  have hb02 := HB1.out.trans (hb2.mono HB1.out.size)
  have hA3 := HA2.out.below hb2
  have hB3 := HB2.out.below hb2
  have hT3 := HT1.out.below hb2
  have HB02 := Lib.hid hb02; have HA3 := Lib.hid hA3; have HB3 := Lib.hid hB3; have HT3 := Lib.hid hT3
  clear hb02 hA3 hB3 hT3 hb2 hown2 HB1 HA2 HB2 HT1
  go_wp2_with fail
  refine (foot_ok kn l A c _ HA3.out hl hkn).mono ?_
  rintro e w3 ⟨v3, rfl, hown3, hb3⟩
  obtain ⟨A3, c3, rfl⟩ := own_shape hown3
  have hO2 := own_below HO2.out hb3
  have hb03 := HB02.out.trans (hb3.mono HB02.out.size)
  have hA4 := HA3.out.below hb3
  have hB4 := HB3.out.below hb3
  have hT4 := HT3.out.below hb3
  have HO3 := Lib.hid hown3; have HB03 := Lib.hid hb03; have HA4 := Lib.hid hA4; have HB4 := Lib.hid hB4; have HT4 := Lib.hid hT4; have HO2b := Lib.hid hO2
  clear hown3 hb03 hA4 hB4 hT4 hb3 HB02 HA3 HB3 HT3 hO2 HO2
  go_wp2_with fail
  refine (frame_no A B 32 c m c' _ (.inl hm)).mono ?_
  rintro e w4 ⟨rfl, rfl⟩
  go_wp2_with fail
  obtain ⟨Z3, hZ3⟩ : ∃ X, X = str (ft kn l) := ⟨_, rfl⟩
  have HRT := Lib.hid (rfoot_any kn l hl hkn)
  rw [← HX.out, ← hZ3] at HRT
  have hc3 : ∀ w', Sees w' 1 A3 48 (u8s (ft kn l)) → (convert 22 9 (.slice A3 48 c3)).run Tryd.prog w' = .ok (.string Z3) w' := fun w' h => by rw [hZ3]; exact run_to_string Tryd.underlying22 Tryd.underlying5 Tryd.underlying9 c3 h
  have HC3 := Lib.hid hc3; clear hc3 hZ3
  refine region_fast [(0, true), (1, true), (2, true), (3, true), (4, false), (5, true)] [2, 3, 4] 28 [(316912650057057350374175801344, 4096, 0, 0), (633825300114114700748351602688, 316912650057057350374175801344, 1, 1), (1267650600228229401496703205376, 256, 0, 0), (2535301200456458802993406410752, 512, 0, 0), (5070602400912917605986812821504, 3802951800684688204490109616128, 12, 12), (10141204801825835211973625643008, 5704427701027032306735164424192, 18, 31)] (fun w' => Sees w' 1 A3 48 (u8s (ft kn l))) (by kernel_rfl) (by kernel_rfl) (by kernel_rfl) rfl (by kernel_rfl) (by kernel_rfl) (Sees.of_own HO3.out) (fun hS => ?_)
  repeat (first
    | (refine plan_read (v := ?_) rfl (fun _ _ _ h => h) rfl hS ?_ ?_; rotate_left 1; (focus (intro w' hS'; have e3 := HC3.out _ hS'; go_simp; try rfl)); (simp only [Act.put, List.setIfInBounds_toArray]; dsimp only [List.set_cons_zero, List.set_cons_succ]))
    | (refine plan_skip rfl (fun _ _ _ h => h) rfl hS ?_; (simp only [Act.put, List.setIfInBounds_toArray]; dsimp only [List.set_cons_zero, List.set_cons_succ])))
  refine plan_do (by rfl) (by rfl) (fun K hK => ?_)
  go_simp
  refine (HRT.out _).mono ?_
  rintro e w6 ⟨rfl, hb6⟩
  have hb06 : Below w.heap.size w w6 := HB03.out.drew.trans (hb6.mono HB03.out.drew.size)
  have hs6 := hS.below hb6
  have hO6 : Sees w6 1 A2 128 (u8s (hd qn kn l)) := Sees.below (w := (_ : World).drew) (Sees.of_own HO2b.out) hb6
  refine hK.out _ _ (fun _ => hs6) (fun hS => ?_); clear hK K; replace hS := hS rfl; try (simp only [Act.put, List.setIfInBounds_toArray]; dsimp only [List.set_cons_zero, List.set_cons_succ])
  repeat (first
    | (refine plan_read (v := ?_) rfl (fun _ _ _ h => h) rfl hS ?_ ?_; rotate_left 1; (focus (intro w' hS'; have e3 := HC3.out _ hS'; go_simp; try rfl)); (simp only [Act.put, List.setIfInBounds_toArray]; dsimp only [List.set_cons_zero, List.set_cons_succ]))
    | (refine plan_skip rfl (fun _ _ _ h => h) rfl hS ?_; (simp only [Act.put, List.setIfInBounds_toArray]; dsimp only [List.set_cons_zero, List.set_cons_succ])))
  refine plan_nil ?_
  have HB06 := Lib.hid hb06; clear hb06 hb6 hs6 hS
  have HO6 := Lib.hid hO6; clear hO6
  obtain ⟨Z6, hZ6⟩ : ∃ X, X = str (hd qn kn l) := ⟨_, rfl⟩
  have HRH := Lib.hid (rhead_any qn kn l hl (by omega) hkn)
  rw [← HX.out, ← hZ6] at HRH
  have hc6 : ∀ w', Sees w' 1 A2 128 (u8s (hd qn kn l)) → (convert 22 9 (.slice A2 128 c2)).run Tryd.prog w' = .ok (.string Z6) w' := fun w' h => by rw [hZ6]; exact run_to_string Tryd.underlying22 Tryd.underlying5 Tryd.underlying9 c2 h
  have HC6 := Lib.hid hc6; clear hc6 hZ6
  go_wp2_with fail
  refine region_fast [(0, true), (1, true), (2, true), (3, true), (4, true), (5, false), (6, true), (7, true)] [2, 3, 4, 5] 60 [(10384593717069655257060992658440192, 2048, 0, 0), (20769187434139310514121985316880384, 10384593717069655257060992658440192, 1, 1), (41538374868278621028243970633760768, 128, 0, 0), (83076749736557242056487941267521536, 256, 0, 0), (166153499473114484112975882535043072, 512, 0, 0), (332306998946228968225951765070086144, 290768624077950347197707794436325376, 28, 28), (664613997892457936451903530140172288, 353076186380368278740073750386966528, 34, 63), (64, 664613997892457936451903530140172288, 127, 127)] (fun w' => Sees w' 1 A2 128 (u8s (hd qn kn l))) (by kernel_rfl) (by kernel_rfl) (by kernel_rfl) rfl (by kernel_rfl) (by kernel_rfl) HO6.out (fun hS => ?_)
  repeat (first
    | (refine plan_read (v := ?_) rfl (fun _ _ _ h => h) rfl hS ?_ ?_; rotate_left 1; (focus (intro w' hS'; have e6 := HC6.out _ hS'; go_simp; try rfl)); (simp only [Act.put, List.setIfInBounds_toArray]; dsimp only [List.set_cons_zero, List.set_cons_succ]))
    | (refine plan_skip rfl (fun _ _ _ h => h) rfl hS ?_; (simp only [Act.put, List.setIfInBounds_toArray]; dsimp only [List.set_cons_zero, List.set_cons_succ])))
  refine plan_do (by rfl) (by rfl) (fun K hK => ?_)
  go_simp
  refine (HRH.out _).mono ?_
  rintro e w7 ⟨rfl, hb7⟩
  have hb07 : Below w.heap.size w w7 := HB06.out.drew.trans (hb7.mono HB06.out.drew.size)
  have hs7 := hS.below hb7
  refine hK.out _ _ (fun _ => hs7) (fun hS => ?_); clear hK K; replace hS := hS rfl; try (simp only [Act.put, List.setIfInBounds_toArray]; dsimp only [List.set_cons_zero, List.set_cons_succ])
  repeat (first
    | (refine plan_read (v := ?_) rfl (fun _ _ _ h => h) rfl hS ?_ ?_; rotate_left 1; (focus (intro w' hS'; have e6 := HC6.out _ hS'; go_simp; try rfl)); (simp only [Act.put, List.setIfInBounds_toArray]; dsimp only [List.set_cons_zero, List.set_cons_succ]))
    | (refine plan_skip rfl (fun _ _ _ h => h) rfl hS ?_; (simp only [Act.put, List.setIfInBounds_toArray]; dsimp only [List.set_cons_zero, List.set_cons_succ])))
  refine plan_nil ?_
  have HB07 := Lib.hid hb07; clear hb07 hb7 hs7 hS
  go_wp2_with fail
  go_ret
  exact ⟨rfl, HB07.out⟩

set_option maxRecDepth 4000 in
set_option maxHeartbeats 2000000 in
theorem parts_f_neg (l t : List UInt8) (A B : Option Addr) (n c m c' : Nat) (q k : Int) (w : World) (hA : Sees w 1 A n (u8s l)) (hB : Sees w 1 B m (u8s t)) (hl : l.length = n) (ht : t.length = m) (hq : (Lit.int .i64 q).wf = true) (hk : (Lit.int .i64 k).wf = true) (hT : Tab w) (hs : n ≤ 50 ∧ m ≤ 700) (h32 : n = 32) (hm : 1 ≤ m) (hk0 : k < 0) :
    Calls Tryd.prog 3 #[.slice A n c, .slice B m c', .agg #[.int .i64 q, .int .i64 k]] w fun e w' => e = .returned (.bool true) ∧ Below w.heap.size w w' := by
  subst h32
  have HAW := Lib.hid awake_any
  have h700i : (m : Int) ≤ 700 := by omega
  have hqb := wf_i64 hq
  have hkb := wf_i64 hk
  have hb0 : Below w.heap.size w (w.alloc (.cells #[.int .i64 q, .int .i64 k] 23)) := (Below.refl _ _).alloc (Nat.le_refl _) _
  have hT0 := hT.below hb0
  obtain ⟨X, hX⟩ : ∃ X, X = str l := ⟨_, rfl⟩
  obtain ⟨Y, hY⟩ : ∃ Y, Y = str t := ⟨_, rfl⟩
  have hcx : ∀ w', Sees w' 1 A 32 (u8s l) → (convert 22 9 (.slice A 32 c)).run Tryd.prog w' = .ok (.string X) w' := fun w' h => by rw [hX]; exact run_to_string Tryd.underlying22 Tryd.underlying5 Tryd.underlying9 c h
  have hcy : ∀ w', Sees w' 1 B m (u8s t) → (convert 22 9 (.slice B m c')).run Tryd.prog w' = .ok (.string Y) w' := fun w' h => by rw [hY]; exact run_to_string Tryd.underlying22 Tryd.underlying5 Tryd.underlying9 c' h
  have hbk := Blk.new w 23 #[.int .i64 q, .int .i64 k]
  have HT0 := Lib.hid hT0; have HB0 := Lib.hid hb0; have HA := Lib.hid (hA.below hb0); have HB := Lib.hid (hB.below hb0); have HX := Lib.hid hX; have HY := Lib.hid hY; have HCX := Lib.hid hcx; have HCY := Lib.hid hcy; have HBK := Lib.hid hbk; have HQB := Lib.hid hqb; have HKB := Lib.hid hkb
  clear hT0 hb0 hA hB hT hX hY hcx hcy hbk hqb hkb hq hk
  go_enter Tryd.func3, Tryd.ntmps3
  go_wp2_with fail
  refine (HAW.out _ HT0.out).mono ?_
  rintro e w1 ⟨rfl, hb1⟩
  have hT1 : Tab w1.drew.drew := HT0.out.below hb1.drew.drew
  have hb01 : Below w.heap.size w w1.drew.drew := HB0.out.trans (hb1.mono HB0.out.size).drew.drew
  have hA1 := HA.out.below hb1
  have hB1 := HB.out.below hb1
  have hK1 := HBK.out.below hb1 HBK.out.lt
  have hk0 : w1.cell? ⟨w.heap.size, 0, none⟩ = some (.int .i64 q) := by rw [hK1.cell]; rfl
  have hk1 : w1.cell? ⟨w.heap.size, 1, none⟩ = some (.int .i64 k) := by rw [hK1.cell]; rfl
  have HT1 := Lib.hid hT1; have HB1 := Lib.hid hb01; have HA1 := Lib.hid hA1; have HB1' := Lib.hid hB1; have HK0 := Lib.hid hk0; have HK1 := Lib.hid hk1
  clear hT1 hb01 hb1 hA1 hB1 hK1 hk0 hk1
  go_wp2_with fail
  refine region_fast [(0, true), (1, true), (2, true), (3, true), (4, true), (5, true)] [2, 3, 4] 28 [(1073741824, 32, 0, 0), (2147483648, 1073741824, 1, 1), (4294967296, 32, 0, 0), (8589934592, 4294967296, 4, 4), (128, 2147483648, 3, 3), (256, 8589934592, 31, 31)] (fun w' => w'.cell? ⟨w.heap.size, 0, none⟩ = some (.int .i64 q) ∧ w'.cell? ⟨w.heap.size, 1, none⟩ = some (.int .i64 k)) (by kernel_rfl) (by kernel_rfl) (by kernel_rfl) rfl (by kernel_rfl) (by kernel_rfl) ⟨HK0.out, HK1.out⟩ (fun hS => ?_)
  repeat (first
    | (refine plan_read (v := ?_) rfl (fun _ _ _ h => h) rfl hS ?_ ?_; rotate_left 1; (focus (intro w' hS'; obtain ⟨c0, c1⟩ := hS'; go_simp; try rfl)); (simp only [Act.put, List.setIfInBounds_toArray]; dsimp only [List.set_cons_zero, List.set_cons_succ]))
    | (refine plan_skip rfl (fun _ _ _ h => h) rfl hS ?_; (simp only [Act.put, List.setIfInBounds_toArray]; dsimp only [List.set_cons_zero, List.set_cons_succ])))
  refine plan_nil ?_
  go_wp2_with fail
  refine region_fast [(0, true), (1, true), (2, true), (3, true), (4, true), (5, true)] [2, 3, 4] 28 [(17179869184, 1, 0, 0), (34359738368, 17179869184, 1, 1), (68719476736, 2, 0, 0), (137438953472, 68719476736, 4, 4), (512, 34359738368, 3, 3), (1024, 137438953472, 31, 31)] (fun w' => Sees w' 1 A 32 (u8s l) ∧ Sees w' 1 B m (u8s t)) (by kernel_rfl) (by kernel_rfl) (by kernel_rfl) rfl (by kernel_rfl) (by kernel_rfl) ⟨HA1.out, HB1'.out⟩ (fun hS => ?_)
  repeat (first
    | (refine plan_read (v := ?_) rfl (fun _ _ _ h => h) rfl hS ?_ ?_; rotate_left 1; (focus (intro w' hS'; have e1 := HCX.out _ hS'.1; have e2 := HCY.out _ hS'.2; go_simp; try rfl)); (simp only [Act.put, List.setIfInBounds_toArray]; dsimp only [List.set_cons_zero, List.set_cons_succ]))
    | (refine plan_skip rfl (fun _ _ _ h => h) rfl hS ?_; (simp only [Act.put, List.setIfInBounds_toArray]; dsimp only [List.set_cons_zero, List.set_cons_succ])))
  refine plan_nil ?_
  clear hS
  have hA2 : Sees w1.drew.drew 1 A 32 (u8s l) := HA1.out
  have hB2 : Sees w1.drew.drew 1 B m (u8s t) := HB1'.out
  have HA2 := Lib.hid hA2; have HB2 := Lib.hid hB2
  clear hA2 hB2 HA1 HB1' HK0 HK1 HBK HA HB HB0 HT0 HCX HCY
  generalize w1.drew.drew = W at *
  have hmi : (1 : Int) ≤ (m : Int) := by omega
  have hsz0 := HB1.out.size
  go_wp2_with fail
  refine (head_no q k A 32 c _ (.inr hk0)).mono ?_
  rintro e w2 ⟨rfl, rfl⟩
  go_wp2_with fail
  refine (foot_no k A 32 c _ (.inr hk0)).mono ?_
  rintro e w2 ⟨rfl, rfl⟩
  go_wp2_with fail
  refine (frame_ok l t A B c m c' _ HA2.out HB2.out hl ht hm (by omega) HT1.out).mono ?_
  rintro e w4 ⟨v4, v5, rfl, hown4, hown5, hb4⟩
  obtain ⟨A4, c4, rfl⟩ := own_shape hown4
  obtain ⟨A5, c5, rfl⟩ := own_shape hown5
  have hb04 := HB1.out.trans (hb4.mono HB1.out.size)
  obtain ⟨Z1, hZ1⟩ : ∃ X, X = str (frm l t) := ⟨_, rfl⟩
  obtain ⟨Z2, hZ2⟩ : ∃ X, X = str (sha (l ++ t)) := ⟨_, rfl⟩
  have HRF := Lib.hid (rframe_any l t hl (by omega))
  rw [← HX.out, ← HY.out, ← hZ1, ← hZ2] at HRF
  have hc4 : ∀ w', Sees w' 1 A4 (m + 40) (u8s (frm l t)) → (convert 22 9 (.slice A4 (m + 40) c4)).run Tryd.prog w' = .ok (.string Z1) w' := fun w' h => by rw [hZ1]; exact run_to_string Tryd.underlying22 Tryd.underlying5 Tryd.underlying9 c4 h
  have hc5 : ∀ w', Sees w' 1 A5 32 (u8s (sha (l ++ t))) → (convert 22 9 (.slice A5 32 c5)).run Tryd.prog w' = .ok (.string Z2) w' := fun w' h => by rw [hZ2]; exact run_to_string Tryd.underlying22 Tryd.underlying5 Tryd.underlying9 c5 h
  have HC4 := Lib.hid hc4; have HC5 := Lib.hid hc5; have HO4 := Lib.hid hown4; have HO5 := Lib.hid hown5; have HB04 := Lib.hid hb04
  clear hZ1 hZ2 hc4 hc5 hown4 hown5 hb04 hb4 HB1 HA2 HB2 HT1
  go_wp2_with fail
  refine (HRF.out _).mono ?_
  rintro e w5 ⟨rfl, hb5⟩
  have hb05 := HB04.out.trans (hb5.mono HB04.out.size)
  have e4 := HC4.out _ (Sees.of_own (own_below HO4.out hb5))
  have e5 := HC5.out _ (Sees.of_own (own_below HO5.out hb5))
  have HB05 := Lib.hid hb05
  clear hb05 hb5 HB04
  go_wp2_with fail
  go_ret
  exact ⟨rfl, HB05.out⟩

set_option maxRecDepth 4000 in
set_option maxHeartbeats 2000000 in
theorem parts_f_okneg (l t : List UInt8) (A B : Option Addr) (n c m c' : Nat) (q k : Int) (w : World) (hA : Sees w 1 A n (u8s l)) (hB : Sees w 1 B m (u8s t)) (hl : l.length = n) (ht : t.length = m) (hq : (Lit.int .i64 q).wf = true) (hk : (Lit.int .i64 k).wf = true) (hT : Tab w) (hs : n ≤ 50 ∧ m ≤ 700) (h32 : n = 32) (hm : 1 ≤ m) (hk0 : 0 ≤ k) (hq0 : q < 0) :
    Calls Tryd.prog 3 #[.slice A n c, .slice B m c', .agg #[.int .i64 q, .int .i64 k]] w fun e w' => e = .returned (.bool true) ∧ Below w.heap.size w w' := by
  subst h32
  have HAW := Lib.hid awake_any
  have h700i : (m : Int) ≤ 700 := by omega
  have hqb := wf_i64 hq
  have hkb := wf_i64 hk
  have hb0 : Below w.heap.size w (w.alloc (.cells #[.int .i64 q, .int .i64 k] 23)) := (Below.refl _ _).alloc (Nat.le_refl _) _
  have hT0 := hT.below hb0
  obtain ⟨X, hX⟩ : ∃ X, X = str l := ⟨_, rfl⟩
  obtain ⟨Y, hY⟩ : ∃ Y, Y = str t := ⟨_, rfl⟩
  have hcx : ∀ w', Sees w' 1 A 32 (u8s l) → (convert 22 9 (.slice A 32 c)).run Tryd.prog w' = .ok (.string X) w' := fun w' h => by rw [hX]; exact run_to_string Tryd.underlying22 Tryd.underlying5 Tryd.underlying9 c h
  have hcy : ∀ w', Sees w' 1 B m (u8s t) → (convert 22 9 (.slice B m c')).run Tryd.prog w' = .ok (.string Y) w' := fun w' h => by rw [hY]; exact run_to_string Tryd.underlying22 Tryd.underlying5 Tryd.underlying9 c' h
  have hbk := Blk.new w 23 #[.int .i64 q, .int .i64 k]
  have HT0 := Lib.hid hT0; have HB0 := Lib.hid hb0; have HA := Lib.hid (hA.below hb0); have HB := Lib.hid (hB.below hb0); have HX := Lib.hid hX; have HY := Lib.hid hY; have HCX := Lib.hid hcx; have HCY := Lib.hid hcy; have HBK := Lib.hid hbk; have HQB := Lib.hid hqb; have HKB := Lib.hid hkb
  clear hT0 hb0 hA hB hT hX hY hcx hcy hbk hqb hkb hq hk
  go_enter Tryd.func3, Tryd.ntmps3
  go_wp2_with fail
  refine (HAW.out _ HT0.out).mono ?_
  rintro e w1 ⟨rfl, hb1⟩
  have hT1 : Tab w1.drew.drew := HT0.out.below hb1.drew.drew
  have hb01 : Below w.heap.size w w1.drew.drew := HB0.out.trans (hb1.mono HB0.out.size).drew.drew
  have hA1 := HA.out.below hb1
  have hB1 := HB.out.below hb1
  have hK1 := HBK.out.below hb1 HBK.out.lt
  have hk0 : w1.cell? ⟨w.heap.size, 0, none⟩ = some (.int .i64 q) := by rw [hK1.cell]; rfl
  have hk1 : w1.cell? ⟨w.heap.size, 1, none⟩ = some (.int .i64 k) := by rw [hK1.cell]; rfl
  have HT1 := Lib.hid hT1; have HB1 := Lib.hid hb01; have HA1 := Lib.hid hA1; have HB1' := Lib.hid hB1; have HK0 := Lib.hid hk0; have HK1 := Lib.hid hk1
  clear hT1 hb01 hb1 hA1 hB1 hK1 hk0 hk1
  go_wp2_with fail
  refine region_fast [(0, true), (1, true), (2, true), (3, true), (4, true), (5, true)] [2, 3, 4] 28 [(1073741824, 32, 0, 0), (2147483648, 1073741824, 1, 1), (4294967296, 32, 0, 0), (8589934592, 4294967296, 4, 4), (128, 2147483648, 3, 3), (256, 8589934592, 31, 31)] (fun w' => w'.cell? ⟨w.heap.size, 0, none⟩ = some (.int .i64 q) ∧ w'.cell? ⟨w.heap.size, 1, none⟩ = some (.int .i64 k)) (by kernel_rfl) (by kernel_rfl) (by kernel_rfl) rfl (by kernel_rfl) (by kernel_rfl) ⟨HK0.out, HK1.out⟩ (fun hS => ?_)
  repeat (first
    | (refine plan_read (v := ?_) rfl (fun _ _ _ h => h) rfl hS ?_ ?_; rotate_left 1; (focus (intro w' hS'; obtain ⟨c0, c1⟩ := hS'; go_simp; try rfl)); (simp only [Act.put, List.setIfInBounds_toArray]; dsimp only [List.set_cons_zero, List.set_cons_succ]))
    | (refine plan_skip rfl (fun _ _ _ h => h) rfl hS ?_; (simp only [Act.put, List.setIfInBounds_toArray]; dsimp only [List.set_cons_zero, List.set_cons_succ])))
  refine plan_nil ?_
  go_wp2_with fail
  refine region_fast [(0, true), (1, true), (2, true), (3, true), (4, true), (5, true)] [2, 3, 4] 28 [(17179869184, 1, 0, 0), (34359738368, 17179869184, 1, 1), (68719476736, 2, 0, 0), (137438953472, 68719476736, 4, 4), (512, 34359738368, 3, 3), (1024, 137438953472, 31, 31)] (fun w' => Sees w' 1 A 32 (u8s l) ∧ Sees w' 1 B m (u8s t)) (by kernel_rfl) (by kernel_rfl) (by kernel_rfl) rfl (by kernel_rfl) (by kernel_rfl) ⟨HA1.out, HB1'.out⟩ (fun hS => ?_)
  repeat (first
    | (refine plan_read (v := ?_) rfl (fun _ _ _ h => h) rfl hS ?_ ?_; rotate_left 1; (focus (intro w' hS'; have e1 := HCX.out _ hS'.1; have e2 := HCY.out _ hS'.2; go_simp; try rfl)); (simp only [Act.put, List.setIfInBounds_toArray]; dsimp only [List.set_cons_zero, List.set_cons_succ]))
    | (refine plan_skip rfl (fun _ _ _ h => h) rfl hS ?_; (simp only [Act.put, List.setIfInBounds_toArray]; dsimp only [List.set_cons_zero, List.set_cons_succ])))
  refine plan_nil ?_
  clear hS
  have hA2 : Sees w1.drew.drew 1 A 32 (u8s l) := HA1.out
  have hB2 : Sees w1.drew.drew 1 B m (u8s t) := HB1'.out
  have HA2 := Lib.hid hA2; have HB2 := Lib.hid hB2
  clear hA2 hB2 HA1 HB1' HK0 HK1 HBK HA HB HB0 HT0 HCX HCY
  generalize w1.drew.drew = W at *
  have hmi : (1 : Int) ≤ (m : Int) := by omega
  have hsz0 := HB1.out.size
  obtain ⟨kn, rfl⟩ : ∃ kn : Nat, k = (kn : Int) := ⟨k.toNat, by omega⟩
  have hkn : kn < 9223372036854775808 := by have := HKB.out; omega
  go_wp2_with fail
  refine (head_bad q kn l A c _ HA2.out hl hkn (by omega) (by have := HQB.out; omega)).mono ?_
  rintro e w2 ⟨rfl, hb2⟩
  have hb02 := HB1.out.trans (hb2.mono HB1.out.size)
  have hA3 := HA2.out.below hb2
  have hB3 := HB2.out.below hb2
  have hT3 := HT1.out.below hb2
  have HB02 := Lib.hid hb02; have HA3 := Lib.hid hA3; have HB3 := Lib.hid hB3; have HT3 := Lib.hid hT3
  clear hb02 hA3 hB3 hT3 hb2 HB1 HA2 HB2 HT1
  go_wp2_with fail
  refine (foot_ok kn l A c _ HA3.out hl hkn).mono ?_
  rintro e w3 ⟨v3, rfl, hown3, hb3⟩
  obtain ⟨A3, c3, rfl⟩ := own_shape hown3
  have hb03 := HB02.out.trans (hb3.mono HB02.out.size)
  have hA4 := HA3.out.below hb3
  have hB4 := HB3.out.below hb3
  have hT4 := HT3.out.below hb3
  have HO3 := Lib.hid hown3; have HB03 := Lib.hid hb03; have HA4 := Lib.hid hA4; have HB4 := Lib.hid hB4; have HT4 := Lib.hid hT4
  clear hown3 hb03 hA4 hB4 hT4 hb3 HB02 HA3 HB3 HT3
  go_wp2_with fail
  refine (frame_ok l t A B c m c' _ HA4.out HB4.out hl ht hm (by omega) HT4.out).mono ?_
  rintro e w4 ⟨v4, v5, rfl, hown4, hown5, hb4⟩
  obtain ⟨A4, c4, rfl⟩ := own_shape hown4
  obtain ⟨A5, c5, rfl⟩ := own_shape hown5
  have hO3 := own_below HO3.out hb4
  have hb04 := HB03.out.trans (hb4.mono HB03.out.size)
  obtain ⟨Z1, hZ1⟩ : ∃ X, X = str (frm l t) := ⟨_, rfl⟩
  obtain ⟨Z2, hZ2⟩ : ∃ X, X = str (sha (l ++ t)) := ⟨_, rfl⟩
  have HRF := Lib.hid (rframe_any l t hl (by omega))
  rw [← HX.out, ← HY.out, ← hZ1, ← hZ2] at HRF
  have hc4 : ∀ w', Sees w' 1 A4 (m + 40) (u8s (frm l t)) → (convert 22 9 (.slice A4 (m + 40) c4)).run Tryd.prog w' = .ok (.string Z1) w' := fun w' h => by rw [hZ1]; exact run_to_string Tryd.underlying22 Tryd.underlying5 Tryd.underlying9 c4 h
  have hc5 : ∀ w', Sees w' 1 A5 32 (u8s (sha (l ++ t))) → (convert 22 9 (.slice A5 32 c5)).run Tryd.prog w' = .ok (.string Z2) w' := fun w' h => by rw [hZ2]; exact run_to_string Tryd.underlying22 Tryd.underlying5 Tryd.underlying9 c5 h
  have HC4 := Lib.hid hc4; have HC5 := Lib.hid hc5; have HO4 := Lib.hid hown4; have HO5 := Lib.hid hown5; have HB04 := Lib.hid hb04; have HO3b := Lib.hid hO3
  clear hZ1 hZ2 hc4 hc5 hown4 hown5 hb04 hO3 HO3 hb4 HB03 HA4 HB4 HT4
  go_wp2_with fail
  refine (HRF.out _).mono ?_
  rintro e w5 ⟨rfl, hb5⟩
  have hb05 := HB04.out.trans (hb5.mono HB04.out.size)
  have e4 := HC4.out _ (Sees.of_own (own_below HO4.out hb5))
  have e5 := HC5.out _ (Sees.of_own (own_below HO5.out hb5))
  have hO3 := own_below HO3b.out hb5
  have HB05 := Lib.hid hb05; have HO3c := Lib.hid hO3
  clear hb05 hb5 HB04 hO3 HO3b
  go_wp2_with fail
  obtain ⟨Z3, hZ3⟩ : ∃ X, X = str (ft kn l) := ⟨_, rfl⟩
  have HRT := Lib.hid (rfoot_any kn l hl hkn)
  rw [← HX.out, ← hZ3] at HRT
  have hc3 : ∀ w', Sees w' 1 A3 48 (u8s (ft kn l)) → (convert 22 9 (.slice A3 48 c3)).run Tryd.prog w' = .ok (.string Z3) w' := fun w' h => by rw [hZ3]; exact run_to_string Tryd.underlying22 Tryd.underlying5 Tryd.underlying9 c3 h
  have HC3 := Lib.hid hc3; clear hc3 hZ3
  refine region_fast [(0, true), (1, true), (2, true), (3, true), (4, false), (5, true)] [2, 3, 4] 28 [(316912650057057350374175801344, 4096, 0, 0), (633825300114114700748351602688, 316912650057057350374175801344, 1, 1), (1267650600228229401496703205376, 256, 0, 0), (2535301200456458802993406410752, 512, 0, 0), (5070602400912917605986812821504, 3802951800684688204490109616128, 12, 12), (10141204801825835211973625643008, 5704427701027032306735164424192, 18, 31)] (fun w' => Sees w' 1 A3 48 (u8s (ft kn l))) (by kernel_rfl) (by kernel_rfl) (by kernel_rfl) rfl (by kernel_rfl) (by kernel_rfl) (Sees.of_own HO3c.out) (fun hS => ?_)
  repeat (first
    | (refine plan_read (v := ?_) rfl (fun _ _ _ h => h) rfl hS ?_ ?_; rotate_left 1; (focus (intro w' hS'; have e3 := HC3.out _ hS'; go_simp; try rfl)); (simp only [Act.put, List.setIfInBounds_toArray]; dsimp only [List.set_cons_zero, List.set_cons_succ]))
    | (refine plan_skip rfl (fun _ _ _ h => h) rfl hS ?_; (simp only [Act.put, List.setIfInBounds_toArray]; dsimp only [List.set_cons_zero, List.set_cons_succ])))
  refine plan_do (by rfl) (by rfl) (fun K hK => ?_)
  go_simp
  refine (HRT.out _).mono ?_
  rintro e w6 ⟨rfl, hb6⟩
  have hb06 : Below w.heap.size w w6 := HB05.out.drew.trans (hb6.mono HB05.out.drew.size)
  have hs6 := hS.below hb6
  refine hK.out _ _ (fun _ => hs6) (fun hS => ?_); clear hK K; replace hS := hS rfl; try (simp only [Act.put, List.setIfInBounds_toArray]; dsimp only [List.set_cons_zero, List.set_cons_succ])
  repeat (first
    | (refine plan_read (v := ?_) rfl (fun _ _ _ h => h) rfl hS ?_ ?_; rotate_left 1; (focus (intro w' hS'; have e3 := HC3.out _ hS'; go_simp; try rfl)); (simp only [Act.put, List.setIfInBounds_toArray]; dsimp only [List.set_cons_zero, List.set_cons_succ]))
    | (refine plan_skip rfl (fun _ _ _ h => h) rfl hS ?_; (simp only [Act.put, List.setIfInBounds_toArray]; dsimp only [List.set_cons_zero, List.set_cons_succ])))
  refine plan_nil ?_
  have HB06 := Lib.hid hb06; clear hb06 hb6 hs6 hS
  go_wp2_with fail
  go_ret
  exact ⟨rfl, HB06.out⟩

set_option maxRecDepth 4000 in
set_option maxHeartbeats 2000000 in
theorem parts_f_okbig (l t : List UInt8) (A B : Option Addr) (n c m c' : Nat) (q k : Int) (w : World) (hA : Sees w 1 A n (u8s l)) (hB : Sees w 1 B m (u8s t)) (hl : l.length = n) (ht : t.length = m) (hq : (Lit.int .i64 q).wf = true) (hk : (Lit.int .i64 k).wf = true) (hT : Tab w) (hs : n ≤ 50 ∧ m ≤ 700) (h32 : n = 32) (hm : 1 ≤ m) (hk0 : 0 ≤ k) (hq0 : 4294967295 < q) :
    Calls Tryd.prog 3 #[.slice A n c, .slice B m c', .agg #[.int .i64 q, .int .i64 k]] w fun e w' => e = .returned (.bool true) ∧ Below w.heap.size w w' := by
  subst h32
  have HAW := Lib.hid awake_any
  have h700i : (m : Int) ≤ 700 := by omega
  have hqb := wf_i64 hq
  have hkb := wf_i64 hk
  have hb0 : Below w.heap.size w (w.alloc (.cells #[.int .i64 q, .int .i64 k] 23)) := (Below.refl _ _).alloc (Nat.le_refl _) _
  have hT0 := hT.below hb0
  obtain ⟨X, hX⟩ : ∃ X, X = str l := ⟨_, rfl⟩
  obtain ⟨Y, hY⟩ : ∃ Y, Y = str t := ⟨_, rfl⟩
  have hcx : ∀ w', Sees w' 1 A 32 (u8s l) → (convert 22 9 (.slice A 32 c)).run Tryd.prog w' = .ok (.string X) w' := fun w' h => by rw [hX]; exact run_to_string Tryd.underlying22 Tryd.underlying5 Tryd.underlying9 c h
  have hcy : ∀ w', Sees w' 1 B m (u8s t) → (convert 22 9 (.slice B m c')).run Tryd.prog w' = .ok (.string Y) w' := fun w' h => by rw [hY]; exact run_to_string Tryd.underlying22 Tryd.underlying5 Tryd.underlying9 c' h
  have hbk := Blk.new w 23 #[.int .i64 q, .int .i64 k]
  have HT0 := Lib.hid hT0; have HB0 := Lib.hid hb0; have HA := Lib.hid (hA.below hb0); have HB := Lib.hid (hB.below hb0); have HX := Lib.hid hX; have HY := Lib.hid hY; have HCX := Lib.hid hcx; have HCY := Lib.hid hcy; have HBK := Lib.hid hbk; have HQB := Lib.hid hqb; have HKB := Lib.hid hkb
  clear hT0 hb0 hA hB hT hX hY hcx hcy hbk hqb hkb hq hk
  go_enter Tryd.func3, Tryd.ntmps3
  go_wp2_with fail
  refine (HAW.out _ HT0.out).mono ?_
  rintro e w1 ⟨rfl, hb1⟩
  have hT1 : Tab w1.drew.drew := HT0.out.below hb1.drew.drew
  have hb01 : Below w.heap.size w w1.drew.drew := HB0.out.trans (hb1.mono HB0.out.size).drew.drew
  have hA1 := HA.out.below hb1
  have hB1 := HB.out.below hb1
  have hK1 := HBK.out.below hb1 HBK.out.lt
  have hk0 : w1.cell? ⟨w.heap.size, 0, none⟩ = some (.int .i64 q) := by rw [hK1.cell]; rfl
  have hk1 : w1.cell? ⟨w.heap.size, 1, none⟩ = some (.int .i64 k) := by rw [hK1.cell]; rfl
  have HT1 := Lib.hid hT1; have HB1 := Lib.hid hb01; have HA1 := Lib.hid hA1; have HB1' := Lib.hid hB1; have HK0 := Lib.hid hk0; have HK1 := Lib.hid hk1
  clear hT1 hb01 hb1 hA1 hB1 hK1 hk0 hk1
  go_wp2_with fail
  refine region_fast [(0, true), (1, true), (2, true), (3, true), (4, true), (5, true)] [2, 3, 4] 28 [(1073741824, 32, 0, 0), (2147483648, 1073741824, 1, 1), (4294967296, 32, 0, 0), (8589934592, 4294967296, 4, 4), (128, 2147483648, 3, 3), (256, 8589934592, 31, 31)] (fun w' => w'.cell? ⟨w.heap.size, 0, none⟩ = some (.int .i64 q) ∧ w'.cell? ⟨w.heap.size, 1, none⟩ = some (.int .i64 k)) (by kernel_rfl) (by kernel_rfl) (by kernel_rfl) rfl (by kernel_rfl) (by kernel_rfl) ⟨HK0.out, HK1.out⟩ (fun hS => ?_)
  repeat (first
    | (refine plan_read (v := ?_) rfl (fun _ _ _ h => h) rfl hS ?_ ?_; rotate_left 1; (focus (intro w' hS'; obtain ⟨c0, c1⟩ := hS'; go_simp; try rfl)); (simp only [Act.put, List.setIfInBounds_toArray]; dsimp only [List.set_cons_zero, List.set_cons_succ]))
    | (refine plan_skip rfl (fun _ _ _ h => h) rfl hS ?_; (simp only [Act.put, List.setIfInBounds_toArray]; dsimp only [List.set_cons_zero, List.set_cons_succ])))
  refine plan_nil ?_
  go_wp2_with fail
  refine region_fast [(0, true), (1, true), (2, true), (3, true), (4, true), (5, true)] [2, 3, 4] 28 [(17179869184, 1, 0, 0), (34359738368, 17179869184, 1, 1), (68719476736, 2, 0, 0), (137438953472, 68719476736, 4, 4), (512, 34359738368, 3, 3), (1024, 137438953472, 31, 31)] (fun w' => Sees w' 1 A 32 (u8s l) ∧ Sees w' 1 B m (u8s t)) (by kernel_rfl) (by kernel_rfl) (by kernel_rfl) rfl (by kernel_rfl) (by kernel_rfl) ⟨HA1.out, HB1'.out⟩ (fun hS => ?_)
  repeat (first
    | (refine plan_read (v := ?_) rfl (fun _ _ _ h => h) rfl hS ?_ ?_; rotate_left 1; (focus (intro w' hS'; have e1 := HCX.out _ hS'.1; have e2 := HCY.out _ hS'.2; go_simp; try rfl)); (simp only [Act.put, List.setIfInBounds_toArray]; dsimp only [List.set_cons_zero, List.set_cons_succ]))
    | (refine plan_skip rfl (fun _ _ _ h => h) rfl hS ?_; (simp only [Act.put, List.setIfInBounds_toArray]; dsimp only [List.set_cons_zero, List.set_cons_succ])))
  refine plan_nil ?_
  clear hS
  have hA2 : Sees w1.drew.drew 1 A 32 (u8s l) := HA1.out
  have hB2 : Sees w1.drew.drew 1 B m (u8s t) := HB1'.out
  have HA2 := Lib.hid hA2; have HB2 := Lib.hid hB2
  clear hA2 hB2 HA1 HB1' HK0 HK1 HBK HA HB HB0 HT0 HCX HCY
  generalize w1.drew.drew = W at *
  have hmi : (1 : Int) ≤ (m : Int) := by omega
  have hsz0 := HB1.out.size
  obtain ⟨kn, rfl⟩ : ∃ kn : Nat, k = (kn : Int) := ⟨k.toNat, by omega⟩
  have hkn : kn < 9223372036854775808 := by have := HKB.out; omega
  go_wp2_with fail
  refine (head_bad q kn l A c _ HA2.out hl hkn (by omega) (by have := HQB.out; omega)).mono ?_
  rintro e w2 ⟨rfl, hb2⟩
  have hb02 := HB1.out.trans (hb2.mono HB1.out.size)
  have hA3 := HA2.out.below hb2
  have hB3 := HB2.out.below hb2
  have hT3 := HT1.out.below hb2
  have HB02 := Lib.hid hb02; have HA3 := Lib.hid hA3; have HB3 := Lib.hid hB3; have HT3 := Lib.hid hT3
  clear hb02 hA3 hB3 hT3 hb2 HB1 HA2 HB2 HT1
  go_wp2_with fail
  refine (foot_ok kn l A c _ HA3.out hl hkn).mono ?_
  rintro e w3 ⟨v3, rfl, hown3, hb3⟩
  obtain ⟨A3, c3, rfl⟩ := own_shape hown3
  have hb03 := HB02.out.trans (hb3.mono HB02.out.size)
  have hA4 := HA3.out.below hb3
  have hB4 := HB3.out.below hb3
  have hT4 := HT3.out.below hb3
  have HO3 := Lib.hid hown3; have HB03 := Lib.hid hb03; have HA4 := Lib.hid hA4; have HB4 := Lib.hid hB4; have HT4 := Lib.hid hT4
  clear hown3 hb03 hA4 hB4 hT4 hb3 HB02 HA3 HB3 HT3
  go_wp2_with fail
  refine (frame_ok l t A B c m c' _ HA4.out HB4.out hl ht hm (by omega) HT4.out).mono ?_
  rintro e w4 ⟨v4, v5, rfl, hown4, hown5, hb4⟩
  obtain ⟨A4, c4, rfl⟩ := own_shape hown4
  obtain ⟨A5, c5, rfl⟩ := own_shape hown5
  have hO3 := own_below HO3.out hb4
  have hb04 := HB03.out.trans (hb4.mono HB03.out.size)
  obtain ⟨Z1, hZ1⟩ : ∃ X, X = str (frm l t) := ⟨_, rfl⟩
  obtain ⟨Z2, hZ2⟩ : ∃ X, X = str (sha (l ++ t)) := ⟨_, rfl⟩
  have HRF := Lib.hid (rframe_any l t hl (by omega))
  rw [← HX.out, ← HY.out, ← hZ1, ← hZ2] at HRF
  have hc4 : ∀ w', Sees w' 1 A4 (m + 40) (u8s (frm l t)) → (convert 22 9 (.slice A4 (m + 40) c4)).run Tryd.prog w' = .ok (.string Z1) w' := fun w' h => by rw [hZ1]; exact run_to_string Tryd.underlying22 Tryd.underlying5 Tryd.underlying9 c4 h
  have hc5 : ∀ w', Sees w' 1 A5 32 (u8s (sha (l ++ t))) → (convert 22 9 (.slice A5 32 c5)).run Tryd.prog w' = .ok (.string Z2) w' := fun w' h => by rw [hZ2]; exact run_to_string Tryd.underlying22 Tryd.underlying5 Tryd.underlying9 c5 h
  have HC4 := Lib.hid hc4; have HC5 := Lib.hid hc5; have HO4 := Lib.hid hown4; have HO5 := Lib.hid hown5; have HB04 := Lib.hid hb04; have HO3b := Lib.hid hO3
  clear hZ1 hZ2 hc4 hc5 hown4 hown5 hb04 hO3 HO3 hb4 HB03 HA4 HB4 HT4
  go_wp2_with fail
  refine (HRF.out _).mono ?_
  rintro e w5 ⟨rfl, hb5⟩
  have hb05 := HB04.out.trans (hb5.mono HB04.out.size)
  have e4 := HC4.out _ (Sees.of_own (own_below HO4.out hb5))
  have e5 := HC5.out _ (Sees.of_own (own_below HO5.out hb5))
  have hO3 := own_below HO3b.out hb5
  have HB05 := Lib.hid hb05; have HO3c := Lib.hid hO3
  clear hb05 hb5 HB04 hO3 HO3b
  go_wp2_with fail
  obtain ⟨Z3, hZ3⟩ : ∃ X, X = str (ft kn l) := ⟨_, rfl⟩
  have HRT := Lib.hid (rfoot_any kn l hl hkn)
  rw [← HX.out, ← hZ3] at HRT
  have hc3 : ∀ w', Sees w' 1 A3 48 (u8s (ft kn l)) → (convert 22 9 (.slice A3 48 c3)).run Tryd.prog w' = .ok (.string Z3) w' := fun w' h => by rw [hZ3]; exact run_to_string Tryd.underlying22 Tryd.underlying5 Tryd.underlying9 c3 h
  have HC3 := Lib.hid hc3; clear hc3 hZ3
  refine region_fast [(0, true), (1, true), (2, true), (3, true), (4, false), (5, true)] [2, 3, 4] 28 [(316912650057057350374175801344, 4096, 0, 0), (633825300114114700748351602688, 316912650057057350374175801344, 1, 1), (1267650600228229401496703205376, 256, 0, 0), (2535301200456458802993406410752, 512, 0, 0), (5070602400912917605986812821504, 3802951800684688204490109616128, 12, 12), (10141204801825835211973625643008, 5704427701027032306735164424192, 18, 31)] (fun w' => Sees w' 1 A3 48 (u8s (ft kn l))) (by kernel_rfl) (by kernel_rfl) (by kernel_rfl) rfl (by kernel_rfl) (by kernel_rfl) (Sees.of_own HO3c.out) (fun hS => ?_)
  repeat (first
    | (refine plan_read (v := ?_) rfl (fun _ _ _ h => h) rfl hS ?_ ?_; rotate_left 1; (focus (intro w' hS'; have e3 := HC3.out _ hS'; go_simp; try rfl)); (simp only [Act.put, List.setIfInBounds_toArray]; dsimp only [List.set_cons_zero, List.set_cons_succ]))
    | (refine plan_skip rfl (fun _ _ _ h => h) rfl hS ?_; (simp only [Act.put, List.setIfInBounds_toArray]; dsimp only [List.set_cons_zero, List.set_cons_succ])))
  refine plan_do (by rfl) (by rfl) (fun K hK => ?_)
  go_simp
  refine (HRT.out _).mono ?_
  rintro e w6 ⟨rfl, hb6⟩
  have hb06 : Below w.heap.size w w6 := HB05.out.drew.trans (hb6.mono HB05.out.drew.size)
  have hs6 := hS.below hb6
  refine hK.out _ _ (fun _ => hs6) (fun hS => ?_); clear hK K; replace hS := hS rfl; try (simp only [Act.put, List.setIfInBounds_toArray]; dsimp only [List.set_cons_zero, List.set_cons_succ])
  repeat (first
    | (refine plan_read (v := ?_) rfl (fun _ _ _ h => h) rfl hS ?_ ?_; rotate_left 1; (focus (intro w' hS'; have e3 := HC3.out _ hS'; go_simp; try rfl)); (simp only [Act.put, List.setIfInBounds_toArray]; dsimp only [List.set_cons_zero, List.set_cons_succ]))
    | (refine plan_skip rfl (fun _ _ _ h => h) rfl hS ?_; (simp only [Act.put, List.setIfInBounds_toArray]; dsimp only [List.set_cons_zero, List.set_cons_succ])))
  refine plan_nil ?_
  have HB06 := Lib.hid hb06; clear hb06 hb6 hs6 hS
  go_wp2_with fail
  go_ret
  exact ⟨rfl, HB06.out⟩

set_option maxRecDepth 4000 in
set_option maxHeartbeats 2000000 in
theorem parts_f_okok (l t : List UInt8) (A B : Option Addr) (n c m c' : Nat) (q k : Int) (w : World) (hA : Sees w 1 A n (u8s l)) (hB : Sees w 1 B m (u8s t)) (hl : l.length = n) (ht : t.length = m) (hq : (Lit.int .i64 q).wf = true) (hk : (Lit.int .i64 k).wf = true) (hT : Tab w) (hs : n ≤ 50 ∧ m ≤ 700) (h32 : n = 32) (hm : 1 ≤ m) (hk0 : 0 ≤ k) (hq0 : 0 ≤ q) (hq1 : q ≤ 4294967295) :
    Calls Tryd.prog 3 #[.slice A n c, .slice B m c', .agg #[.int .i64 q, .int .i64 k]] w fun e w' => e = .returned (.bool true) ∧ Below w.heap.size w w' := by
  subst h32
  have HAW := Lib.hid awake_any
  have h700i : (m : Int) ≤ 700 := by omega
  have hqb := wf_i64 hq
  have hkb := wf_i64 hk
  have hb0 : Below w.heap.size w (w.alloc (.cells #[.int .i64 q, .int .i64 k] 23)) := (Below.refl _ _).alloc (Nat.le_refl _) _
  have hT0 := hT.below hb0
  obtain ⟨X, hX⟩ : ∃ X, X = str l := ⟨_, rfl⟩
  obtain ⟨Y, hY⟩ : ∃ Y, Y = str t := ⟨_, rfl⟩
  have hcx : ∀ w', Sees w' 1 A 32 (u8s l) → (convert 22 9 (.slice A 32 c)).run Tryd.prog w' = .ok (.string X) w' := fun w' h => by rw [hX]; exact run_to_string Tryd.underlying22 Tryd.underlying5 Tryd.underlying9 c h
  have hcy : ∀ w', Sees w' 1 B m (u8s t) → (convert 22 9 (.slice B m c')).run Tryd.prog w' = .ok (.string Y) w' := fun w' h => by rw [hY]; exact run_to_string Tryd.underlying22 Tryd.underlying5 Tryd.underlying9 c' h
  have hbk := Blk.new w 23 #[.int .i64 q, .int .i64 k]
  have HT0 := Lib.hid hT0; have HB0 := Lib.hid hb0; have HA := Lib.hid (hA.below hb0); have HB := Lib.hid (hB.below hb0); have HX := Lib.hid hX; have HY := Lib.hid hY; have HCX := Lib.hid hcx; have HCY := Lib.hid hcy; have HBK := Lib.hid hbk; have HQB := Lib.hid hqb; have HKB := Lib.hid hkb
  clear hT0 hb0 hA hB hT hX hY hcx hcy hbk hqb hkb hq hk
  go_enter Tryd.func3, Tryd.ntmps3
  go_wp2_with fail
  refine (HAW.out _ HT0.out).mono ?_
  rintro e w1 ⟨rfl, hb1⟩
  have hT1 : Tab w1.drew.drew := HT0.out.below hb1.drew.drew
  have hb01 : Below w.heap.size w w1.drew.drew := HB0.out.trans (hb1.mono HB0.out.size).drew.drew
  have hA1 := HA.out.below hb1
  have hB1 := HB.out.below hb1
  have hK1 := HBK.out.below hb1 HBK.out.lt
  have hk0 : w1.cell? ⟨w.heap.size, 0, none⟩ = some (.int .i64 q) := by rw [hK1.cell]; rfl
  have hk1 : w1.cell? ⟨w.heap.size, 1, none⟩ = some (.int .i64 k) := by rw [hK1.cell]; rfl
  have HT1 := Lib.hid hT1; have HB1 := Lib.hid hb01; have HA1 := Lib.hid hA1; have HB1' := Lib.hid hB1; have HK0 := Lib.hid hk0; have HK1 := Lib.hid hk1
  clear hT1 hb01 hb1 hA1 hB1 hK1 hk0 hk1
  go_wp2_with fail
  refine region_fast [(0, true), (1, true), (2, true), (3, true), (4, true), (5, true)] [2, 3, 4] 28 [(1073741824, 32, 0, 0), (2147483648, 1073741824, 1, 1), (4294967296, 32, 0, 0), (8589934592, 4294967296, 4, 4), (128, 2147483648, 3, 3), (256, 8589934592, 31, 31)] (fun w' => w'.cell? ⟨w.heap.size, 0, none⟩ = some (.int .i64 q) ∧ w'.cell? ⟨w.heap.size, 1, none⟩ = some (.int .i64 k)) (by kernel_rfl) (by kernel_rfl) (by kernel_rfl) rfl (by kernel_rfl) (by kernel_rfl) ⟨HK0.out, HK1.out⟩ (fun hS => ?_)
  repeat (first
    | (refine plan_read (v := ?_) rfl (fun _ _ _ h => h) rfl hS ?_ ?_; rotate_left 1; (focus (intro w' hS'; obtain ⟨c0, c1⟩ := hS'; go_simp; try rfl)); (simp only [Act.put, List.setIfInBounds_toArray]; dsimp only [List.set_cons_zero, List.set_cons_succ]))
    | (refine plan_skip rfl (fun _ _ _ h => h) rfl hS ?_; (simp only [Act.put, List.setIfInBounds_toArray]; dsimp only [List.set_cons_zero, List.set_cons_succ])))
  refine plan_nil ?_
  go_wp2_with fail
  refine region_fast [(0, true), (1, true), (2, true), (3, true), (4, true), (5, true)] [2, 3, 4] 28 [(17179869184, 1, 0, 0), (34359738368, 17179869184, 1, 1), (68719476736, 2, 0, 0), (137438953472, 68719476736, 4, 4), (512, 34359738368, 3, 3), (1024, 137438953472, 31, 31)] (fun w' => Sees w' 1 A 32 (u8s l) ∧ Sees w' 1 B m (u8s t)) (by kernel_rfl) (by kernel_rfl) (by kernel_rfl) rfl (by kernel_rfl) (by kernel_rfl) ⟨HA1.out, HB1'.out⟩ (fun hS => ?_)
  repeat (first
    | (refine plan_read (v := ?_) rfl (fun _ _ _ h => h) rfl hS ?_ ?_; rotate_left 1; (focus (intro w' hS'; have e1 := HCX.out _ hS'.1; have e2 := HCY.out _ hS'.2; go_simp; try rfl)); (simp only [Act.put, List.setIfInBounds_toArray]; dsimp only [List.set_cons_zero, List.set_cons_succ]))
    | (refine plan_skip rfl (fun _ _ _ h => h) rfl hS ?_; (simp only [Act.put, List.setIfInBounds_toArray]; dsimp only [List.set_cons_zero, List.set_cons_succ])))
  refine plan_nil ?_
  clear hS
  have hA2 : Sees w1.drew.drew 1 A 32 (u8s l) := HA1.out
  have hB2 : Sees w1.drew.drew 1 B m (u8s t) := HB1'.out
  have HA2 := Lib.hid hA2; have HB2 := Lib.hid hB2
  clear hA2 hB2 HA1 HB1' HK0 HK1 HBK HA HB HB0 HT0 HCX HCY
  generalize w1.drew.drew = W at *
  have hmi : (1 : Int) ≤ (m : Int) := by omega
  have hsz0 := HB1.out.size
  obtain ⟨kn, rfl⟩ : ∃ kn : Nat, k = (kn : Int) := ⟨k.toNat, by omega⟩
  have hkn : kn < 9223372036854775808 := by have := HKB.out; omega
  obtain ⟨qn, rfl⟩ : ∃ qn : Nat, q = (qn : Int) := ⟨q.toNat, by omega⟩
  go_wp2_with fail
  refine (head_ok qn kn l A c _ HA2.out hl hkn (by omega)).mono ?_
  rintro e w2 ⟨v2, rfl, hown2, hb2⟩
  obtain ⟨A2, c2, rfl⟩ := own_shape hown2
  have HO2 := Lib.hid hown2
  have hb02 := HB1.out.trans (hb2.mono HB1.out.size)
  have hA3 := HA2.out.below hb2
  have hB3 := HB2.out.below hb2
  have hT3 := HT1.out.below hb2
  have HB02 := Lib.hid hb02; have HA3 := Lib.hid hA3; have HB3 := Lib.hid hB3; have HT3 := Lib.hid hT3
  clear hb02 hA3 hB3 hT3 hb2 hown2 HB1 HA2 HB2 HT1
  go_wp2_with fail
  refine (foot_ok kn l A c _ HA3.out hl hkn).mono ?_
  rintro e w3 ⟨v3, rfl, hown3, hb3⟩
  obtain ⟨A3, c3, rfl⟩ := own_shape hown3
  have hO2 := own_below HO2.out hb3
  have hb03 := HB02.out.trans (hb3.mono HB02.out.size)
  have hA4 := HA3.out.below hb3
  have hB4 := HB3.out.below hb3
  have hT4 := HT3.out.below hb3
  have HO3 := Lib.hid hown3; have HB03 := Lib.hid hb03; have HA4 := Lib.hid hA4; have HB4 := Lib.hid hB4; have HT4 := Lib.hid hT4; have HO2b := Lib.hid hO2
  clear hown3 hb03 hA4 hB4 hT4 hb3 HB02 HA3 HB3 HT3 hO2 HO2
  go_wp2_with fail
  refine (frame_ok l t A B c m c' _ HA4.out HB4.out hl ht hm (by omega) HT4.out).mono ?_
  rintro e w4 ⟨v4, v5, rfl, hown4, hown5, hb4⟩
  obtain ⟨A4, c4, rfl⟩ := own_shape hown4
  obtain ⟨A5, c5, rfl⟩ := own_shape hown5
  have hO3 := own_below HO3.out hb4
  have hO2 := own_below HO2b.out hb4
  have hb04 := HB03.out.trans (hb4.mono HB03.out.size)
  obtain ⟨Z1, hZ1⟩ : ∃ X, X = str (frm l t) := ⟨_, rfl⟩
  obtain ⟨Z2, hZ2⟩ : ∃ X, X = str (sha (l ++ t)) := ⟨_, rfl⟩
  have HRF := Lib.hid (rframe_any l t hl (by omega))
  rw [← HX.out, ← HY.out, ← hZ1, ← hZ2] at HRF
  have hc4 : ∀ w', Sees w' 1 A4 (m + 40) (u8s (frm l t)) → (convert 22 9 (.slice A4 (m + 40) c4)).run Tryd.prog w' = .ok (.string Z1) w' := fun w' h => by rw [hZ1]; exact run_to_string Tryd.underlying22 Tryd.underlying5 Tryd.underlying9 c4 h
  have hc5 : ∀ w', Sees w' 1 A5 32 (u8s (sha (l ++ t))) → (convert 22 9 (.slice A5 32 c5)).run Tryd.prog w' = .ok (.string Z2) w' := fun w' h => by rw [hZ2]; exact run_to_string Tryd.underlying22 Tryd.underlying5 Tryd.underlying9 c5 h
  have HC4 := Lib.hid hc4; have HC5 := Lib.hid hc5; have HO4 := Lib.hid hown4; have HO5 := Lib.hid hown5; have HB04 := Lib.hid hb04; have HO3b := Lib.hid hO3; have HO2c := Lib.hid hO2
  clear hZ1 hZ2 hc4 hc5 hown4 hown5 hb04 hO3 HO3 hO2 HO2b hb4 HB03 HA4 HB4 HT4
  go_wp2_with fail
  refine (HRF.out _).mono ?_
  rintro e w5 ⟨rfl, hb5⟩
  have hb05 := HB04.out.trans (hb5.mono HB04.out.size)
  have e4 := HC4.out _ (Sees.of_own (own_below HO4.out hb5))
  have e5 := HC5.out _ (Sees.of_own (own_below HO5.out hb5))
  have hO3 := own_below HO3b.out hb5
  have hO2 := own_below HO2c.out hb5
  have HB05 := Lib.hid hb05; have HO3c := Lib.hid hO3; have HO2d := Lib.hid hO2
  clear hb05 hb5 HB04 hO3 HO3b hO2 HO2c
  go_wp2_with fail
  obtain ⟨Z3, hZ3⟩ : ∃ X, X = str (ft kn l) := ⟨_, rfl⟩
  have HRT := Lib.hid (rfoot_any kn l hl hkn)
  rw [← HX.out, ← hZ3] at HRT
  have hc3 : ∀ w', Sees w' 1 A3 48 (u8s (ft kn l)) → (convert 22 9 (.slice A3 48 c3)).run Tryd.prog w' = .ok (.string Z3) w' := fun w' h => by rw [hZ3]; exact run_to_string Tryd.underlying22 Tryd.underlying5 Tryd.underlying9 c3 h
  have HC3 := Lib.hid hc3; clear hc3 hZ3
  refine region_fast [(0, true), (1, true), (2, true), (3, true), (4, false), (5, true)] [2, 3, 4] 28 [(316912650057057350374175801344, 4096, 0, 0), (633825300114114700748351602688, 316912650057057350374175801344, 1, 1), (1267650600228229401496703205376, 256, 0, 0), (2535301200456458802993406410752, 512, 0, 0), (5070602400912917605986812821504, 3802951800684688204490109616128, 12, 12), (10141204801825835211973625643008, 5704427701027032306735164424192, 18, 31)] (fun w' => Sees w' 1 A3 48 (u8s (ft kn l))) (by kernel_rfl) (by kernel_rfl) (by kernel_rfl) rfl (by kernel_rfl) (by kernel_rfl) (Sees.of_own HO3c.out) (fun hS => ?_)
  repeat (first
    | (refine plan_read (v := ?_) rfl (fun _ _ _ h => h) rfl hS ?_ ?_; rotate_left 1; (focus (intro w' hS'; have e3 := HC3.out _ hS'; go_simp; try rfl)); (simp only [Act.put, List.setIfInBounds_toArray]; dsimp only [List.set_cons_zero, List.set_cons_succ]))
    | (refine plan_skip rfl (fun _ _ _ h => h) rfl hS ?_; (simp only [Act.put, List.setIfInBounds_toArray]; dsimp only [List.set_cons_zero, List.set_cons_succ])))
  refine plan_do (by rfl) (by rfl) (fun K hK => ?_)
  go_simp
  refine (HRT.out _).mono ?_
  rintro e w6 ⟨rfl, hb6⟩
  have hb06 : Below w.heap.size w w6 := HB05.out.drew.trans (hb6.mono HB05.out.drew.size)
  have hs6 := hS.below hb6
  have hO6 : Sees w6 1 A2 128 (u8s (hd qn kn l)) := Sees.below (w := (_ : World).drew) (Sees.of_own HO2d.out) hb6
  refine hK.out _ _ (fun _ => hs6) (fun hS => ?_); clear hK K; replace hS := hS rfl; try (simp only [Act.put, List.setIfInBounds_toArray]; dsimp only [List.set_cons_zero, List.set_cons_succ])
  repeat (first
    | (refine plan_read (v := ?_) rfl (fun _ _ _ h => h) rfl hS ?_ ?_; rotate_left 1; (focus (intro w' hS'; have e3 := HC3.out _ hS'; go_simp; try rfl)); (simp only [Act.put, List.setIfInBounds_toArray]; dsimp only [List.set_cons_zero, List.set_cons_succ]))
    | (refine plan_skip rfl (fun _ _ _ h => h) rfl hS ?_; (simp only [Act.put, List.setIfInBounds_toArray]; dsimp only [List.set_cons_zero, List.set_cons_succ])))
  refine plan_nil ?_
  have HB06 := Lib.hid hb06; clear hb06 hb6 hs6 hS
  have HO6 := Lib.hid hO6; clear hO6
  obtain ⟨Z6, hZ6⟩ : ∃ X, X = str (hd qn kn l) := ⟨_, rfl⟩
  have HRH := Lib.hid (rhead_any qn kn l hl (by omega) hkn)
  rw [← HX.out, ← hZ6] at HRH
  have hc6 : ∀ w', Sees w' 1 A2 128 (u8s (hd qn kn l)) → (convert 22 9 (.slice A2 128 c2)).run Tryd.prog w' = .ok (.string Z6) w' := fun w' h => by rw [hZ6]; exact run_to_string Tryd.underlying22 Tryd.underlying5 Tryd.underlying9 c2 h
  have HC6 := Lib.hid hc6; clear hc6 hZ6
  go_wp2_with fail
  refine region_fast [(0, true), (1, true), (2, true), (3, true), (4, true), (5, false), (6, true), (7, true)] [2, 3, 4, 5] 60 [(10384593717069655257060992658440192, 2048, 0, 0), (20769187434139310514121985316880384, 10384593717069655257060992658440192, 1, 1), (41538374868278621028243970633760768, 128, 0, 0), (83076749736557242056487941267521536, 256, 0, 0), (166153499473114484112975882535043072, 512, 0, 0), (332306998946228968225951765070086144, 290768624077950347197707794436325376, 28, 28), (664613997892457936451903530140172288, 353076186380368278740073750386966528, 34, 63), (64, 664613997892457936451903530140172288, 127, 127)] (fun w' => Sees w' 1 A2 128 (u8s (hd qn kn l))) (by kernel_rfl) (by kernel_rfl) (by kernel_rfl) rfl (by kernel_rfl) (by kernel_rfl) HO6.out (fun hS => ?_)
  repeat (first
    | (refine plan_read (v := ?_) rfl (fun _ _ _ h => h) rfl hS ?_ ?_; rotate_left 1; (focus (intro w' hS'; have e6 := HC6.out _ hS'; go_simp; try rfl)); (simp only [Act.put, List.setIfInBounds_toArray]; dsimp only [List.set_cons_zero, List.set_cons_succ]))
    | (refine plan_skip rfl (fun _ _ _ h => h) rfl hS ?_; (simp only [Act.put, List.setIfInBounds_toArray]; dsimp only [List.set_cons_zero, List.set_cons_succ])))
  refine plan_do (by rfl) (by rfl) (fun K hK => ?_)
  go_simp
  refine (HRH.out _).mono ?_
  rintro e w7 ⟨rfl, hb7⟩
  have hb07 : Below w.heap.size w w7 := HB06.out.drew.trans (hb7.mono HB06.out.drew.size)
  have hs7 := hS.below hb7
  refine hK.out _ _ (fun _ => hs7) (fun hS => ?_); clear hK K; replace hS := hS rfl; try (simp only [Act.put, List.setIfInBounds_toArray]; dsimp only [List.set_cons_zero, List.set_cons_succ])
  repeat (first
    | (refine plan_read (v := ?_) rfl (fun _ _ _ h => h) rfl hS ?_ ?_; rotate_left 1; (focus (intro w' hS'; have e6 := HC6.out _ hS'; go_simp; try rfl)); (simp only [Act.put, List.setIfInBounds_toArray]; dsimp only [List.set_cons_zero, List.set_cons_succ]))
    | (refine plan_skip rfl (fun _ _ _ h => h) rfl hS ?_; (simp only [Act.put, List.setIfInBounds_toArray]; dsimp only [List.set_cons_zero, List.set_cons_succ])))
  refine plan_nil ?_
  have HB07 := Lib.hid hb07; clear hb07 hb7 hs7 hS
  go_wp2_with fail
  go_ret
  exact ⟨rfl, HB07.out⟩

set_option maxRecDepth 4000 in
set_option maxHeartbeats 2000000 in
theorem parts_any (l t : List UInt8) (A B : Option Addr) (n c m c' : Nat) (q k : Int) (w : World) (hA : Sees w 1 A n (u8s l)) (hB : Sees w 1 B m (u8s t)) (hl : l.length = n) (ht : t.length = m) (hq : (Lit.int .i64 q).wf = true) (hk : (Lit.int .i64 k).wf = true) (hT : Tab w) :
    Calls Tryd.prog 3 #[.slice A n c, .slice B m c', .agg #[.int .i64 q, .int .i64 k]] w fun e w' => e = .returned (.bool true) ∧ Below w.heap.size w w' := by
  by_cases hs : n ≤ 50 ∧ m ≤ 700
  · by_cases h32 : n = 32
    · by_cases hm : m < 1
      · by_cases hk0 : k < 0
        · exact parts_n_neg l t A B n c m c' q k w hA hB hl ht hq hk hT hs h32 hm hk0
        · by_cases hq0 : q < 0
          · exact parts_n_okneg l t A B n c m c' q k w hA hB hl ht hq hk hT hs h32 hm (by omega) hq0
          · by_cases hq1 : 4294967295 < q
            · exact parts_n_okbig l t A B n c m c' q k w hA hB hl ht hq hk hT hs h32 hm (by omega) hq1
            · exact parts_n_okok l t A B n c m c' q k w hA hB hl ht hq hk hT hs h32 hm (by omega) (by omega) (by omega)
      · by_cases hk0 : k < 0
        · exact parts_f_neg l t A B n c m c' q k w hA hB hl ht hq hk hT hs h32 (by omega) hk0
        · by_cases hq0 : q < 0
          · exact parts_f_okneg l t A B n c m c' q k w hA hB hl ht hq hk hT hs h32 (by omega) (by omega) hq0
          · by_cases hq1 : 4294967295 < q
            · exact parts_f_okbig l t A B n c m c' q k w hA hB hl ht hq hk hT hs h32 (by omega) (by omega) hq1
            · exact parts_f_okok l t A B n c m c' q k w hA hB hl ht hq hk hT hs h32 (by omega) (by omega) (by omega) (by omega)
    · exact parts_nochain l t A B n c m c' q k w hA hB hl ht hq hk hT hs h32
  · exact parts_big l t A B n c m c' q k w hA hB hl ht hq hk hT (by omega)
end Go.Proofs.YtjlkgkfheaihpaaDoor
