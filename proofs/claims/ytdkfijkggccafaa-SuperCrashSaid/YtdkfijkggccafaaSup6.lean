/-
  The newest superblock of two sectors: by the code and by the document.
-/
import Derived.Test.YtdkfijkggccafaaSup5
namespace Go.Proofs.Ytdkfijkggccafaa
set_option maxRecDepth 4000
open Go.RowKit

/-- Which of two is the newest. -/
def newOk (b : List UInt8) : Prop := 256 ≤ b.length ∧ (rdOk (b.take 128) 0 ∨ rdOk ((b.drop 128).take 128) 1)
instance (b : List UInt8) : Decidable (newOk b) := by unfold newOk; infer_instance
/-- The second one is taken. -/
def newT (b : List UInt8) : Prop := rdOk ((b.drop 128).take 128) 1 ∧ (¬ rdOk (b.take 128) 0 ∨ (readS (b.take 128) 0).gen < (readS ((b.drop 128).take 128) 1).gen)
instance (b : List UInt8) : Decidable (newT b) := by unfold newT; infer_instance
def newS (b : List UInt8) : Sp := if b.length < 256 then sp0 else if newT b then readS ((b.drop 128).take 128) 1 else readS (b.take 128) 0

theorem alloc_row (w : World) (T : TypeId) (Z CS : Array Value) : Blk ((w.alloc (.cells Z T)).setRow w.heap.size CS) w.heap.size T CS ∧ Below w.heap.size w ((w.alloc (.cells Z T)).setRow w.heap.size CS) :=
  ⟨(Blk.new w T Z).setRow CS, below_setRow ((Below.refl _ _).alloc (Nat.le_refl _) _) (Nat.le_refl _) _⟩

set_option maxHeartbeats 2000000 in
theorem newest_any (b : List UInt8) (A : Option Addr) (n c : Nat) (w : World) (hS : Sees w 1 A n (u8s b)) (hb : b.length = n) (hn : n ≤ 1000000) (hc : n ≤ c) :
    Calls Try.prog 13 #[.slice A n c] w fun e w' => e = .returned (.tuple #[(newS b).val, .bool (decide (newOk b))]) ∧ Below w.heap.size w w' := by
  have HSZ := Lib.hid (show (Try.prog.info? 23).map (·.size) = some 5 by kernel_rfl)
  by_cases h : n < 256
  · have hi : (n : Int) < 256 := by omega
    have HR := Lib.hid (show newS b = sp0 ∧ decide (newOk b) = false from ⟨if_pos (by omega), decide_eq_false (fun k => by have := k.1; omega)⟩)
    rw [HR.out.1, HR.out.2]
    go_enter Try.func13, Try.ntmps13
    go_wp2_with fail
    refine bodyPost_ret (results_row_tmp rfl _ _ w.heap.size 23 _ (0, 0) _ rfl (Blk.new w 23 _) Try.underlying23 rfl (by exact HSZ.out)) rfl ⟨rfl, (Below.refl _ _).alloc (Nat.le_refl _) _⟩
  · have hi : ¬ (n : Int) < 256 := by omega
    obtain ⟨g, off, rfl, hcs⟩ := hS.2 (by omega)
    have hal : Below w.heap.size w (w.alloc (.cells #[.int .i64 0, .int .i64 0, .int .i64 0, .int .i64 0, .int .i64 0] 23)) := (Below.refl _ _).alloc (Nat.le_refl _) _
    have hS1 := hS.below hal
    have hp1 := hS1.piece 0 128 (by omega)
    have hp2 := hS1.piece 128 128 (by omega)
    rw [← u8s_drop, ← u8s_take] at hp1 hp2
    rw [List.drop_zero, Nat.add_zero] at hp1
    have HX := Lib.hid (read_any (b.take 128) (some ⟨g, off, none⟩) 128 c 0 _ hp1 (by rw [List.length_take]; omega) (by omega) (by intro h; cases h))
    have HP2 := Lib.hid hp2; have HA := Lib.hid hal
    have HZ := Lib.hid (Blk.new w 23 #[.int .i64 0, .int .i64 0, .int .i64 0, .int .i64 0, .int .i64 0])
    clear hS hS1 hp1 hp2 hal hcs
    have hlen2 : ((b.drop 128).take 128).length = 128 := by rw [List.length_take, List.length_drop]; omega
    have HNS := Lib.hid (show newS b = if newT b then readS ((b.drop 128).take 128) 1 else readS (b.take 128) 0 from if_neg (by omega))
    have HNO := Lib.hid (show newOk b ↔ (rdOk (b.take 128) 0 ∨ rdOk ((b.drop 128).take 128) 1) from ⟨fun h => h.2, fun h => ⟨by omega, h⟩⟩)
    have HNT := Lib.hid (show newT b ↔ rdOk ((b.drop 128).take 128) 1 ∧ (¬ rdOk (b.take 128) 0 ∨ (readS (b.take 128) 0).gen < (readS ((b.drop 128).take 128) 1).gen) from Iff.rfl)
    have HX2A := Lib.hid (fun w hS => read_any ((b.drop 128).take 128) (some ⟨g, off + 128, none⟩) 128 (c - 128) 1 w hS hlen2 (by omega) (by intro h; cases h))
    generalize readS (b.take 128) 0 = s at *
    generalize readS ((b.drop 128).take 128) 1 = t at *
    generalize hq0 : decide (rdOk (b.take 128) 0) = q0 at *
    generalize hq1 : decide (rdOk ((b.drop 128).take 128) 1) = q1 at *
    have HQ0 := Lib.hid hq0; have HQ1 := Lib.hid hq1; clear hq0 hq1
    obtain ⟨s1, s2, s3, s4, s5⟩ := s
    obtain ⟨t1, t2, t3, t4, t5⟩ := t
    go_enter Try.func13, Try.ntmps13
    go_wp2_with fail
    refine HX.out.mono ?_
    rintro e w1 ⟨rfl, hb1⟩
    have hal1 := alloc_row w1 23 #[.int .i64 0, .int .i64 0, .int .i64 0, .int .i64 0, .int .i64 0] #[.int .i64 s1, .int .i64 s2, .int .i64 s3, .int .i64 s4, .int .i64 s5]
    have hz1 := (HZ.out.below hb1 HZ.out.lt)
    have hZ1 := hz1.below hal1.2 hz1.lt
    have hb1' := hb1.trans (hal1.2.mono hb1.size)
    have hS2 := HP2.out.below hb1'
    have HX2 := Lib.hid (HX2A.out _ hS2)
    clear hS2 HP2 HX2A
    have HK1 := Lib.hid (Blk.new w1 23 #[.int .i64 0, .int .i64 0, .int .i64 0, .int .i64 0, .int .i64 0])
    have HW1 := Lib.hid (And.intro hal1.1 (And.intro hZ1 (HA.out.trans (hb1'.mono HA.out.size))))
    clear hal1 hz1 hZ1 hb1' hb1 HX
    unfold Sp.val at *
    go_wp2_with (refine wpList_store_row rfl 23 (.tmp 4) (.tmp 16) rfl w1.heap.size _ rfl rfl 23 _ HK1.out (by exact HSZ.out) (Eq.refl 5) (by simp [Value.oneCell']) ?_; generalize (World.setRow _ _ _) = W1 at *)
    refine HX2.out.mono ?_
    rintro e w2 ⟨rfl, hb2⟩
    have hal2 := alloc_row w2 23 #[.int .i64 0, .int .i64 0, .int .i64 0, .int .i64 0, .int .i64 0] #[.int .i64 t1, .int .i64 t2, .int .i64 t3, .int .i64 t4, .int .i64 t5]
    have hz2 := HW1.out.2.1.below hb2 HW1.out.2.1.lt
    have hs2 := HW1.out.1.below hb2 HW1.out.1.lt
    have hZ2 := hz2.below hal2.2 hz2.lt
    have hS2 := hs2.below hal2.2 hs2.lt
    have hB2 := HW1.out.2.2.trans ((hb2.trans (hal2.2.mono hb2.size)).mono HW1.out.2.2.size)
    have HK2 := Lib.hid (Blk.new w2 23 #[.int .i64 0, .int .i64 0, .int .i64 0, .int .i64 0, .int .i64 0])
    have HW2 := Lib.hid (And.intro hS2 (And.intro hal2.1 (And.intro hZ2 hB2)))
    clear hal2 hz2 hs2 hZ2 hS2 hB2 hb2 HX2 HW1 HK1
    cases q1
    · cases q0
      · skip
        go_wp2_with first
          | (refine wpList_store_row rfl 23 (.tmp 6) (.tmp 22) rfl w2.heap.size _ rfl rfl 23 _ HK2.out (by exact HSZ.out) (Eq.refl 5) (by simp [Value.oneCell']) ?_; generalize (World.setRow _ _ _) = W2 at *; have c0 : W2.cell? ⟨w1.heap.size, 0, none⟩ = some (.int .i64 s1) := HW2.out.1.cell 0; have d0 : W2.cell? ⟨w2.heap.size, 0, none⟩ = some (.int .i64 t1) := HW2.out.2.1.cell 0; have c1 : W2.cell? ⟨w1.heap.size, 1, none⟩ = some (.int .i64 s2) := HW2.out.1.cell 1; have d1 : W2.cell? ⟨w2.heap.size, 1, none⟩ = some (.int .i64 t2) := HW2.out.2.1.cell 1; have c2 : W2.cell? ⟨w1.heap.size, 2, none⟩ = some (.int .i64 s3) := HW2.out.1.cell 2; have d2 : W2.cell? ⟨w2.heap.size, 2, none⟩ = some (.int .i64 t3) := HW2.out.2.1.cell 2; have c3 : W2.cell? ⟨w1.heap.size, 3, none⟩ = some (.int .i64 s4) := HW2.out.1.cell 3; have d3 : W2.cell? ⟨w2.heap.size, 3, none⟩ = some (.int .i64 t4) := HW2.out.2.1.cell 3; have c4 : W2.cell? ⟨w1.heap.size, 4, none⟩ = some (.int .i64 s5) := HW2.out.1.cell 4; have d4 : W2.cell? ⟨w2.heap.size, 4, none⟩ = some (.int .i64 t5) := HW2.out.2.1.cell 4)
          | (refine wpList_store_row rfl 23 (.tmp 2) (.tmp 37) rfl w.heap.size _ rfl rfl 23 _ HW2.out.2.2.1 (by exact HSZ.out) (Eq.refl 5) (by simp [Value.oneCell']) ?_)
        refine bodyPost_ret (results_row_tmp rfl _ _ w.heap.size 23 _ (0, 0) _ rfl (HW2.out.2.2.1.setRow _) Try.underlying23 rfl (by exact HSZ.out)) rfl ⟨?_, below_setRow HW2.out.2.2.2 (Nat.le_refl _) _⟩
        rw [show newS b = ⟨s1, s2, s3, s4, s5⟩ from HNS.out.trans (if_neg (fun h => absurd (HNT.out.1 h).1 (of_decide_eq_false HQ1.out))), show decide (newOk b) = false from decide_eq_false (fun h => (HNO.out.1 h).elim (of_decide_eq_false HQ0.out) (of_decide_eq_false HQ1.out))]
        rfl
      · skip
        go_wp2_with first
          | (refine wpList_store_row rfl 23 (.tmp 6) (.tmp 22) rfl w2.heap.size _ rfl rfl 23 _ HK2.out (by exact HSZ.out) (Eq.refl 5) (by simp [Value.oneCell']) ?_; generalize (World.setRow _ _ _) = W2 at *; have c0 : W2.cell? ⟨w1.heap.size, 0, none⟩ = some (.int .i64 s1) := HW2.out.1.cell 0; have d0 : W2.cell? ⟨w2.heap.size, 0, none⟩ = some (.int .i64 t1) := HW2.out.2.1.cell 0; have c1 : W2.cell? ⟨w1.heap.size, 1, none⟩ = some (.int .i64 s2) := HW2.out.1.cell 1; have d1 : W2.cell? ⟨w2.heap.size, 1, none⟩ = some (.int .i64 t2) := HW2.out.2.1.cell 1; have c2 : W2.cell? ⟨w1.heap.size, 2, none⟩ = some (.int .i64 s3) := HW2.out.1.cell 2; have d2 : W2.cell? ⟨w2.heap.size, 2, none⟩ = some (.int .i64 t3) := HW2.out.2.1.cell 2; have c3 : W2.cell? ⟨w1.heap.size, 3, none⟩ = some (.int .i64 s4) := HW2.out.1.cell 3; have d3 : W2.cell? ⟨w2.heap.size, 3, none⟩ = some (.int .i64 t4) := HW2.out.2.1.cell 3; have c4 : W2.cell? ⟨w1.heap.size, 4, none⟩ = some (.int .i64 s5) := HW2.out.1.cell 4; have d4 : W2.cell? ⟨w2.heap.size, 4, none⟩ = some (.int .i64 t5) := HW2.out.2.1.cell 4)
          | (refine wpList_store_row rfl 23 (.tmp 2) (.tmp 37) rfl w.heap.size _ rfl rfl 23 _ HW2.out.2.2.1 (by exact HSZ.out) (Eq.refl 5) (by simp [Value.oneCell']) ?_)
        refine bodyPost_ret (results_row_tmp rfl _ _ w.heap.size 23 _ (0, 0) _ rfl (HW2.out.2.2.1.setRow _) Try.underlying23 rfl (by exact HSZ.out)) rfl ⟨?_, below_setRow HW2.out.2.2.2 (Nat.le_refl _) _⟩
        rw [show newS b = ⟨s1, s2, s3, s4, s5⟩ from HNS.out.trans (if_neg (fun h => absurd (HNT.out.1 h).1 (of_decide_eq_false HQ1.out))), show decide (newOk b) = true from decide_eq_true (HNO.out.2 (.inl (of_decide_eq_true HQ0.out)))]
        rfl
    · cases q0
      · skip
        go_wp2_with first
          | (refine wpList_store_row rfl 23 (.tmp 6) (.tmp 22) rfl w2.heap.size _ rfl rfl 23 _ HK2.out (by exact HSZ.out) (Eq.refl 5) (by simp [Value.oneCell']) ?_; generalize (World.setRow _ _ _) = W2 at *; have c0 : W2.cell? ⟨w1.heap.size, 0, none⟩ = some (.int .i64 s1) := HW2.out.1.cell 0; have d0 : W2.cell? ⟨w2.heap.size, 0, none⟩ = some (.int .i64 t1) := HW2.out.2.1.cell 0; have c1 : W2.cell? ⟨w1.heap.size, 1, none⟩ = some (.int .i64 s2) := HW2.out.1.cell 1; have d1 : W2.cell? ⟨w2.heap.size, 1, none⟩ = some (.int .i64 t2) := HW2.out.2.1.cell 1; have c2 : W2.cell? ⟨w1.heap.size, 2, none⟩ = some (.int .i64 s3) := HW2.out.1.cell 2; have d2 : W2.cell? ⟨w2.heap.size, 2, none⟩ = some (.int .i64 t3) := HW2.out.2.1.cell 2; have c3 : W2.cell? ⟨w1.heap.size, 3, none⟩ = some (.int .i64 s4) := HW2.out.1.cell 3; have d3 : W2.cell? ⟨w2.heap.size, 3, none⟩ = some (.int .i64 t4) := HW2.out.2.1.cell 3; have c4 : W2.cell? ⟨w1.heap.size, 4, none⟩ = some (.int .i64 s5) := HW2.out.1.cell 4; have d4 : W2.cell? ⟨w2.heap.size, 4, none⟩ = some (.int .i64 t5) := HW2.out.2.1.cell 4)
          | (refine wpList_store_row rfl 23 (.tmp 2) (.tmp 36) rfl w.heap.size _ rfl rfl 23 _ HW2.out.2.2.1 (by exact HSZ.out) (Eq.refl 5) (by simp [Value.oneCell']) ?_)
        refine bodyPost_ret (results_row_tmp rfl _ _ w.heap.size 23 _ (0, 0) _ rfl (HW2.out.2.2.1.setRow _) Try.underlying23 rfl (by exact HSZ.out)) rfl ⟨?_, below_setRow HW2.out.2.2.2 (Nat.le_refl _) _⟩
        rw [show newS b = ⟨t1, t2, t3, t4, t5⟩ from HNS.out.trans (if_pos (HNT.out.2 ⟨of_decide_eq_true HQ1.out, .inl (of_decide_eq_false HQ0.out)⟩)), show decide (newOk b) = true from decide_eq_true (HNO.out.2 (.inr (of_decide_eq_true HQ1.out)))]
        rfl
      · by_cases hgt : s1 < t1
        · skip
          go_wp2_with first
            | (refine wpList_store_row rfl 23 (.tmp 6) (.tmp 22) rfl w2.heap.size _ rfl rfl 23 _ HK2.out (by exact HSZ.out) (Eq.refl 5) (by simp [Value.oneCell']) ?_; generalize (World.setRow _ _ _) = W2 at *; have c0 : W2.cell? ⟨w1.heap.size, 0, none⟩ = some (.int .i64 s1) := HW2.out.1.cell 0; have d0 : W2.cell? ⟨w2.heap.size, 0, none⟩ = some (.int .i64 t1) := HW2.out.2.1.cell 0; have c1 : W2.cell? ⟨w1.heap.size, 1, none⟩ = some (.int .i64 s2) := HW2.out.1.cell 1; have d1 : W2.cell? ⟨w2.heap.size, 1, none⟩ = some (.int .i64 t2) := HW2.out.2.1.cell 1; have c2 : W2.cell? ⟨w1.heap.size, 2, none⟩ = some (.int .i64 s3) := HW2.out.1.cell 2; have d2 : W2.cell? ⟨w2.heap.size, 2, none⟩ = some (.int .i64 t3) := HW2.out.2.1.cell 2; have c3 : W2.cell? ⟨w1.heap.size, 3, none⟩ = some (.int .i64 s4) := HW2.out.1.cell 3; have d3 : W2.cell? ⟨w2.heap.size, 3, none⟩ = some (.int .i64 t4) := HW2.out.2.1.cell 3; have c4 : W2.cell? ⟨w1.heap.size, 4, none⟩ = some (.int .i64 s5) := HW2.out.1.cell 4; have d4 : W2.cell? ⟨w2.heap.size, 4, none⟩ = some (.int .i64 t5) := HW2.out.2.1.cell 4)
            | (refine wpList_store_row rfl 23 (.tmp 2) (.tmp 36) rfl w.heap.size _ rfl rfl 23 _ HW2.out.2.2.1 (by exact HSZ.out) (Eq.refl 5) (by simp [Value.oneCell']) ?_)
          refine bodyPost_ret (results_row_tmp rfl _ _ w.heap.size 23 _ (0, 0) _ rfl (HW2.out.2.2.1.setRow _) Try.underlying23 rfl (by exact HSZ.out)) rfl ⟨?_, below_setRow HW2.out.2.2.2 (Nat.le_refl _) _⟩
          rw [show newS b = ⟨t1, t2, t3, t4, t5⟩ from HNS.out.trans (if_pos (HNT.out.2 ⟨of_decide_eq_true HQ1.out, .inr hgt⟩)), show decide (newOk b) = true from decide_eq_true (HNO.out.2 (.inl (of_decide_eq_true HQ0.out)))]
          rfl
        · skip
          go_wp2_with first
            | (refine wpList_store_row rfl 23 (.tmp 6) (.tmp 22) rfl w2.heap.size _ rfl rfl 23 _ HK2.out (by exact HSZ.out) (Eq.refl 5) (by simp [Value.oneCell']) ?_; generalize (World.setRow _ _ _) = W2 at *; have c0 : W2.cell? ⟨w1.heap.size, 0, none⟩ = some (.int .i64 s1) := HW2.out.1.cell 0; have d0 : W2.cell? ⟨w2.heap.size, 0, none⟩ = some (.int .i64 t1) := HW2.out.2.1.cell 0; have c1 : W2.cell? ⟨w1.heap.size, 1, none⟩ = some (.int .i64 s2) := HW2.out.1.cell 1; have d1 : W2.cell? ⟨w2.heap.size, 1, none⟩ = some (.int .i64 t2) := HW2.out.2.1.cell 1; have c2 : W2.cell? ⟨w1.heap.size, 2, none⟩ = some (.int .i64 s3) := HW2.out.1.cell 2; have d2 : W2.cell? ⟨w2.heap.size, 2, none⟩ = some (.int .i64 t3) := HW2.out.2.1.cell 2; have c3 : W2.cell? ⟨w1.heap.size, 3, none⟩ = some (.int .i64 s4) := HW2.out.1.cell 3; have d3 : W2.cell? ⟨w2.heap.size, 3, none⟩ = some (.int .i64 t4) := HW2.out.2.1.cell 3; have c4 : W2.cell? ⟨w1.heap.size, 4, none⟩ = some (.int .i64 s5) := HW2.out.1.cell 4; have d4 : W2.cell? ⟨w2.heap.size, 4, none⟩ = some (.int .i64 t5) := HW2.out.2.1.cell 4)
            | (refine wpList_store_row rfl 23 (.tmp 2) (.tmp 37) rfl w.heap.size _ rfl rfl 23 _ HW2.out.2.2.1 (by exact HSZ.out) (Eq.refl 5) (by simp [Value.oneCell']) ?_)
          refine bodyPost_ret (results_row_tmp rfl _ _ w.heap.size 23 _ (0, 0) _ rfl (HW2.out.2.2.1.setRow _) Try.underlying23 rfl (by exact HSZ.out)) rfl ⟨?_, below_setRow HW2.out.2.2.2 (Nat.le_refl _) _⟩
          rw [show newS b = ⟨s1, s2, s3, s4, s5⟩ from HNS.out.trans (if_neg (fun h => (HNT.out.1 h).2.elim (fun k => k (of_decide_eq_true HQ0.out)) (fun k => absurd hgt (Int.not_le.2 k)))), show decide (newOk b) = true from decide_eq_true (HNO.out.2 (.inl (of_decide_eq_true HQ0.out)))]
          rfl

set_option maxHeartbeats 2000000 in
theorem rnewest_any (b : List UInt8) (hn : b.length ≤ 100000) (w : World) :
    Calls Try.prog 14 #[.string (str b)] w fun e w' => e = .returned (.tuple #[(newS b).val, .bool (decide (newOk b))]) ∧ Below w.heap.size w w' := by
  have HSZ := Lib.hid (show (Try.prog.info? 23).map (·.size) = some 5 by kernel_rfl)
  by_cases h : b.length < 256
  · have hi : (b.length : Int) < 256 := by omega
    have HR := Lib.hid (show newS b = sp0 ∧ decide (newOk b) = false from ⟨if_pos (by omega), decide_eq_false (fun k => by have := k.1; omega)⟩)
    rw [HR.out.1, HR.out.2]
    go_enter Try.func14, Try.ntmps14
    go_wp2_with fail
    refine bodyPost_ret (results_row_tmp rfl _ _ w.heap.size 23 _ (0, 0) _ rfl (Blk.new w 23 _) Try.underlying23 rfl (by exact HSZ.out)) rfl ⟨rfl, (Below.refl _ _).alloc (Nat.le_refl _) _⟩
  · have hi : ¬ (b.length : Int) < 256 := by omega
    obtain ⟨n, hnl⟩ : ∃ n, n = b.length := ⟨_, rfl⟩
    have hal : Below w.heap.size w (w.alloc (.cells #[.int .i64 0, .int .i64 0, .int .i64 0, .int .i64 0, .int .i64 0] 23)) := (Below.refl _ _).alloc (Nat.le_refl _) _
    have hx := fun a c : Nat => str_extract b a c
    have HA := Lib.hid hal
    have HZ := Lib.hid (Blk.new w 23 #[.int .i64 0, .int .i64 0, .int .i64 0, .int .i64 0, .int .i64 0])
    have HX0 := Lib.hid (rread_any (b.take 128) 0 (by rw [List.length_take]; omega))
    have HX1 := Lib.hid (rread_any ((b.drop 128).take 128) 1 (by rw [List.length_take]; omega))
    have HNS := Lib.hid (show newS b = if newT b then readS ((b.drop 128).take 128) 1 else readS (b.take 128) 0 from if_neg (by omega))
    have HNO := Lib.hid (show newOk b ↔ (rdOk (b.take 128) 0 ∨ rdOk ((b.drop 128).take 128) 1) from ⟨fun h => h.2, fun h => ⟨by omega, h⟩⟩)
    have HNT := Lib.hid (show newT b ↔ rdOk ((b.drop 128).take 128) 1 ∧ (¬ rdOk (b.take 128) 0 ∨ (readS (b.take 128) 0).gen < (readS ((b.drop 128).take 128) 1).gen) from Iff.rfl)
    have x1 : (str b).extract 0 128 = str (b.take 128) := by rw [hx, List.drop_zero]
    have x2 : (str b).extract 128 256 = str ((b.drop 128).take 128) := hx 128 256
    have hs : (str b).size = b.length := size_str b
    obtain ⟨Y1, hY1⟩ : ∃ Y, Y = str (b.take 128) := ⟨_, rfl⟩
    obtain ⟨Y2, hY2⟩ : ∃ Y, Y = str ((b.drop 128).take 128) := ⟨_, rfl⟩
    rw [← hY1] at x1 HX0
    rw [← hY2] at x2 HX1
    obtain ⟨X, hX⟩ : ∃ X, X = str b := ⟨_, rfl⟩
    rw [← hX] at x1 x2 hs ⊢
    rw [← hnl] at hs hi
    have hn256 : 256 ≤ n := by omega
    have HX := Lib.hid (HX0.out (w.alloc (.cells #[.int .i64 0, .int .i64 0, .int .i64 0, .int .i64 0, .int .i64 0] 23)))
    have HX2A := HX1
    clear hx hX hY1 hY2 hal HX0 HX1 h hn hnl
    generalize readS (b.take 128) 0 = s at *
    generalize readS ((b.drop 128).take 128) 1 = t at *
    generalize hq0 : decide (rdOk (b.take 128) 0) = q0 at *
    generalize hq1 : decide (rdOk ((b.drop 128).take 128) 1) = q1 at *
    have HQ0 := Lib.hid hq0; have HQ1 := Lib.hid hq1; clear hq0 hq1
    obtain ⟨s1, s2, s3, s4, s5⟩ := s
    obtain ⟨t1, t2, t3, t4, t5⟩ := t
    go_enter Try.func14, Try.ntmps14
    go_wp2_with fail
    refine HX.out.mono ?_
    rintro e w1 ⟨rfl, hb1⟩
    have hal1 := alloc_row w1 23 #[.int .i64 0, .int .i64 0, .int .i64 0, .int .i64 0, .int .i64 0] #[.int .i64 s1, .int .i64 s2, .int .i64 s3, .int .i64 s4, .int .i64 s5]
    have hz1 := (HZ.out.below hb1 HZ.out.lt)
    have hZ1 := hz1.below hal1.2 hz1.lt
    have hb1' := hb1.trans (hal1.2.mono hb1.size)
    have HX2 := Lib.hid (HX2A.out ((w1.alloc (.cells #[.int .i64 0, .int .i64 0, .int .i64 0, .int .i64 0, .int .i64 0] 23)).setRow w1.heap.size #[.int .i64 s1, .int .i64 s2, .int .i64 s3, .int .i64 s4, .int .i64 s5]))
    clear HX2A
    have HK1 := Lib.hid (Blk.new w1 23 #[.int .i64 0, .int .i64 0, .int .i64 0, .int .i64 0, .int .i64 0])
    have HW1 := Lib.hid (And.intro hal1.1 (And.intro hZ1 (HA.out.trans (hb1'.mono HA.out.size))))
    clear hal1 hz1 hZ1 hb1' hb1 HX
    unfold Sp.val at *
    go_wp2_with (refine wpList_store_row rfl 23 (.tmp 4) (.tmp 16) rfl w1.heap.size _ rfl rfl 23 _ HK1.out (by exact HSZ.out) (Eq.refl 5) (by simp [Value.oneCell']) ?_; generalize (World.setRow _ _ _) = W1 at *)
    refine HX2.out.mono ?_
    rintro e w2 ⟨rfl, hb2⟩
    have hal2 := alloc_row w2 23 #[.int .i64 0, .int .i64 0, .int .i64 0, .int .i64 0, .int .i64 0] #[.int .i64 t1, .int .i64 t2, .int .i64 t3, .int .i64 t4, .int .i64 t5]
    have hz2 := HW1.out.2.1.below hb2 HW1.out.2.1.lt
    have hs2 := HW1.out.1.below hb2 HW1.out.1.lt
    have hZ2 := hz2.below hal2.2 hz2.lt
    have hS2 := hs2.below hal2.2 hs2.lt
    have hB2 := HW1.out.2.2.trans ((hb2.trans (hal2.2.mono hb2.size)).mono HW1.out.2.2.size)
    have HK2 := Lib.hid (Blk.new w2 23 #[.int .i64 0, .int .i64 0, .int .i64 0, .int .i64 0, .int .i64 0])
    have HW2 := Lib.hid (And.intro hS2 (And.intro hal2.1 (And.intro hZ2 hB2)))
    clear hal2 hz2 hs2 hZ2 hS2 hB2 hb2 HX2 HW1 HK1
    cases q1
    · cases q0
      · skip
        go_wp2_with first
          | (refine wpList_store_row rfl 23 (.tmp 6) (.tmp 22) rfl w2.heap.size _ rfl rfl 23 _ HK2.out (by exact HSZ.out) (Eq.refl 5) (by simp [Value.oneCell']) ?_; generalize (World.setRow _ _ _) = W2 at *; have c0 : W2.cell? ⟨w1.heap.size, 0, none⟩ = some (.int .i64 s1) := HW2.out.1.cell 0; have d0 : W2.cell? ⟨w2.heap.size, 0, none⟩ = some (.int .i64 t1) := HW2.out.2.1.cell 0; have c1 : W2.cell? ⟨w1.heap.size, 1, none⟩ = some (.int .i64 s2) := HW2.out.1.cell 1; have d1 : W2.cell? ⟨w2.heap.size, 1, none⟩ = some (.int .i64 t2) := HW2.out.2.1.cell 1; have c2 : W2.cell? ⟨w1.heap.size, 2, none⟩ = some (.int .i64 s3) := HW2.out.1.cell 2; have d2 : W2.cell? ⟨w2.heap.size, 2, none⟩ = some (.int .i64 t3) := HW2.out.2.1.cell 2; have c3 : W2.cell? ⟨w1.heap.size, 3, none⟩ = some (.int .i64 s4) := HW2.out.1.cell 3; have d3 : W2.cell? ⟨w2.heap.size, 3, none⟩ = some (.int .i64 t4) := HW2.out.2.1.cell 3; have c4 : W2.cell? ⟨w1.heap.size, 4, none⟩ = some (.int .i64 s5) := HW2.out.1.cell 4; have d4 : W2.cell? ⟨w2.heap.size, 4, none⟩ = some (.int .i64 t5) := HW2.out.2.1.cell 4)
          | (refine wpList_store_row rfl 23 (.tmp 2) (.tmp 37) rfl w.heap.size _ rfl rfl 23 _ HW2.out.2.2.1 (by exact HSZ.out) (Eq.refl 5) (by simp [Value.oneCell']) ?_)
        refine bodyPost_ret (results_row_tmp rfl _ _ w.heap.size 23 _ (0, 0) _ rfl (HW2.out.2.2.1.setRow _) Try.underlying23 rfl (by exact HSZ.out)) rfl ⟨?_, below_setRow HW2.out.2.2.2 (Nat.le_refl _) _⟩
        rw [show newS b = ⟨s1, s2, s3, s4, s5⟩ from HNS.out.trans (if_neg (fun h => absurd (HNT.out.1 h).1 (of_decide_eq_false HQ1.out))), show decide (newOk b) = false from decide_eq_false (fun h => (HNO.out.1 h).elim (of_decide_eq_false HQ0.out) (of_decide_eq_false HQ1.out))]
        rfl
      · skip
        go_wp2_with first
          | (refine wpList_store_row rfl 23 (.tmp 6) (.tmp 22) rfl w2.heap.size _ rfl rfl 23 _ HK2.out (by exact HSZ.out) (Eq.refl 5) (by simp [Value.oneCell']) ?_; generalize (World.setRow _ _ _) = W2 at *; have c0 : W2.cell? ⟨w1.heap.size, 0, none⟩ = some (.int .i64 s1) := HW2.out.1.cell 0; have d0 : W2.cell? ⟨w2.heap.size, 0, none⟩ = some (.int .i64 t1) := HW2.out.2.1.cell 0; have c1 : W2.cell? ⟨w1.heap.size, 1, none⟩ = some (.int .i64 s2) := HW2.out.1.cell 1; have d1 : W2.cell? ⟨w2.heap.size, 1, none⟩ = some (.int .i64 t2) := HW2.out.2.1.cell 1; have c2 : W2.cell? ⟨w1.heap.size, 2, none⟩ = some (.int .i64 s3) := HW2.out.1.cell 2; have d2 : W2.cell? ⟨w2.heap.size, 2, none⟩ = some (.int .i64 t3) := HW2.out.2.1.cell 2; have c3 : W2.cell? ⟨w1.heap.size, 3, none⟩ = some (.int .i64 s4) := HW2.out.1.cell 3; have d3 : W2.cell? ⟨w2.heap.size, 3, none⟩ = some (.int .i64 t4) := HW2.out.2.1.cell 3; have c4 : W2.cell? ⟨w1.heap.size, 4, none⟩ = some (.int .i64 s5) := HW2.out.1.cell 4; have d4 : W2.cell? ⟨w2.heap.size, 4, none⟩ = some (.int .i64 t5) := HW2.out.2.1.cell 4)
          | (refine wpList_store_row rfl 23 (.tmp 2) (.tmp 37) rfl w.heap.size _ rfl rfl 23 _ HW2.out.2.2.1 (by exact HSZ.out) (Eq.refl 5) (by simp [Value.oneCell']) ?_)
        refine bodyPost_ret (results_row_tmp rfl _ _ w.heap.size 23 _ (0, 0) _ rfl (HW2.out.2.2.1.setRow _) Try.underlying23 rfl (by exact HSZ.out)) rfl ⟨?_, below_setRow HW2.out.2.2.2 (Nat.le_refl _) _⟩
        rw [show newS b = ⟨s1, s2, s3, s4, s5⟩ from HNS.out.trans (if_neg (fun h => absurd (HNT.out.1 h).1 (of_decide_eq_false HQ1.out))), show decide (newOk b) = true from decide_eq_true (HNO.out.2 (.inl (of_decide_eq_true HQ0.out)))]
        rfl
    · cases q0
      · skip
        go_wp2_with first
          | (refine wpList_store_row rfl 23 (.tmp 6) (.tmp 22) rfl w2.heap.size _ rfl rfl 23 _ HK2.out (by exact HSZ.out) (Eq.refl 5) (by simp [Value.oneCell']) ?_; generalize (World.setRow _ _ _) = W2 at *; have c0 : W2.cell? ⟨w1.heap.size, 0, none⟩ = some (.int .i64 s1) := HW2.out.1.cell 0; have d0 : W2.cell? ⟨w2.heap.size, 0, none⟩ = some (.int .i64 t1) := HW2.out.2.1.cell 0; have c1 : W2.cell? ⟨w1.heap.size, 1, none⟩ = some (.int .i64 s2) := HW2.out.1.cell 1; have d1 : W2.cell? ⟨w2.heap.size, 1, none⟩ = some (.int .i64 t2) := HW2.out.2.1.cell 1; have c2 : W2.cell? ⟨w1.heap.size, 2, none⟩ = some (.int .i64 s3) := HW2.out.1.cell 2; have d2 : W2.cell? ⟨w2.heap.size, 2, none⟩ = some (.int .i64 t3) := HW2.out.2.1.cell 2; have c3 : W2.cell? ⟨w1.heap.size, 3, none⟩ = some (.int .i64 s4) := HW2.out.1.cell 3; have d3 : W2.cell? ⟨w2.heap.size, 3, none⟩ = some (.int .i64 t4) := HW2.out.2.1.cell 3; have c4 : W2.cell? ⟨w1.heap.size, 4, none⟩ = some (.int .i64 s5) := HW2.out.1.cell 4; have d4 : W2.cell? ⟨w2.heap.size, 4, none⟩ = some (.int .i64 t5) := HW2.out.2.1.cell 4)
          | (refine wpList_store_row rfl 23 (.tmp 2) (.tmp 36) rfl w.heap.size _ rfl rfl 23 _ HW2.out.2.2.1 (by exact HSZ.out) (Eq.refl 5) (by simp [Value.oneCell']) ?_)
        refine bodyPost_ret (results_row_tmp rfl _ _ w.heap.size 23 _ (0, 0) _ rfl (HW2.out.2.2.1.setRow _) Try.underlying23 rfl (by exact HSZ.out)) rfl ⟨?_, below_setRow HW2.out.2.2.2 (Nat.le_refl _) _⟩
        rw [show newS b = ⟨t1, t2, t3, t4, t5⟩ from HNS.out.trans (if_pos (HNT.out.2 ⟨of_decide_eq_true HQ1.out, .inl (of_decide_eq_false HQ0.out)⟩)), show decide (newOk b) = true from decide_eq_true (HNO.out.2 (.inr (of_decide_eq_true HQ1.out)))]
        rfl
      · by_cases hgt : s1 < t1
        · skip
          go_wp2_with first
            | (refine wpList_store_row rfl 23 (.tmp 6) (.tmp 22) rfl w2.heap.size _ rfl rfl 23 _ HK2.out (by exact HSZ.out) (Eq.refl 5) (by simp [Value.oneCell']) ?_; generalize (World.setRow _ _ _) = W2 at *; have c0 : W2.cell? ⟨w1.heap.size, 0, none⟩ = some (.int .i64 s1) := HW2.out.1.cell 0; have d0 : W2.cell? ⟨w2.heap.size, 0, none⟩ = some (.int .i64 t1) := HW2.out.2.1.cell 0; have c1 : W2.cell? ⟨w1.heap.size, 1, none⟩ = some (.int .i64 s2) := HW2.out.1.cell 1; have d1 : W2.cell? ⟨w2.heap.size, 1, none⟩ = some (.int .i64 t2) := HW2.out.2.1.cell 1; have c2 : W2.cell? ⟨w1.heap.size, 2, none⟩ = some (.int .i64 s3) := HW2.out.1.cell 2; have d2 : W2.cell? ⟨w2.heap.size, 2, none⟩ = some (.int .i64 t3) := HW2.out.2.1.cell 2; have c3 : W2.cell? ⟨w1.heap.size, 3, none⟩ = some (.int .i64 s4) := HW2.out.1.cell 3; have d3 : W2.cell? ⟨w2.heap.size, 3, none⟩ = some (.int .i64 t4) := HW2.out.2.1.cell 3; have c4 : W2.cell? ⟨w1.heap.size, 4, none⟩ = some (.int .i64 s5) := HW2.out.1.cell 4; have d4 : W2.cell? ⟨w2.heap.size, 4, none⟩ = some (.int .i64 t5) := HW2.out.2.1.cell 4)
            | (refine wpList_store_row rfl 23 (.tmp 2) (.tmp 33) rfl w.heap.size _ rfl rfl 23 _ HW2.out.2.2.1 (by exact HSZ.out) (Eq.refl 5) (by simp [Value.oneCell']) ?_)
          refine bodyPost_ret (results_row_tmp rfl _ _ w.heap.size 23 _ (0, 0) _ rfl (HW2.out.2.2.1.setRow _) Try.underlying23 rfl (by exact HSZ.out)) rfl ⟨?_, below_setRow HW2.out.2.2.2 (Nat.le_refl _) _⟩
          rw [show newS b = ⟨t1, t2, t3, t4, t5⟩ from HNS.out.trans (if_pos (HNT.out.2 ⟨of_decide_eq_true HQ1.out, .inr hgt⟩)), show decide (newOk b) = true from decide_eq_true (HNO.out.2 (.inl (of_decide_eq_true HQ0.out)))]
          rfl
        · skip
          go_wp2_with first
            | (refine wpList_store_row rfl 23 (.tmp 6) (.tmp 22) rfl w2.heap.size _ rfl rfl 23 _ HK2.out (by exact HSZ.out) (Eq.refl 5) (by simp [Value.oneCell']) ?_; generalize (World.setRow _ _ _) = W2 at *; have c0 : W2.cell? ⟨w1.heap.size, 0, none⟩ = some (.int .i64 s1) := HW2.out.1.cell 0; have d0 : W2.cell? ⟨w2.heap.size, 0, none⟩ = some (.int .i64 t1) := HW2.out.2.1.cell 0; have c1 : W2.cell? ⟨w1.heap.size, 1, none⟩ = some (.int .i64 s2) := HW2.out.1.cell 1; have d1 : W2.cell? ⟨w2.heap.size, 1, none⟩ = some (.int .i64 t2) := HW2.out.2.1.cell 1; have c2 : W2.cell? ⟨w1.heap.size, 2, none⟩ = some (.int .i64 s3) := HW2.out.1.cell 2; have d2 : W2.cell? ⟨w2.heap.size, 2, none⟩ = some (.int .i64 t3) := HW2.out.2.1.cell 2; have c3 : W2.cell? ⟨w1.heap.size, 3, none⟩ = some (.int .i64 s4) := HW2.out.1.cell 3; have d3 : W2.cell? ⟨w2.heap.size, 3, none⟩ = some (.int .i64 t4) := HW2.out.2.1.cell 3; have c4 : W2.cell? ⟨w1.heap.size, 4, none⟩ = some (.int .i64 s5) := HW2.out.1.cell 4; have d4 : W2.cell? ⟨w2.heap.size, 4, none⟩ = some (.int .i64 t5) := HW2.out.2.1.cell 4)
            | (refine wpList_store_row rfl 23 (.tmp 2) (.tmp 34) rfl w.heap.size _ rfl rfl 23 _ HW2.out.2.2.1 (by exact HSZ.out) (Eq.refl 5) (by simp [Value.oneCell']) ?_)
          refine bodyPost_ret (results_row_tmp rfl _ _ w.heap.size 23 _ (0, 0) _ rfl (HW2.out.2.2.1.setRow _) Try.underlying23 rfl (by exact HSZ.out)) rfl ⟨?_, below_setRow HW2.out.2.2.2 (Nat.le_refl _) _⟩
          rw [show newS b = ⟨s1, s2, s3, s4, s5⟩ from HNS.out.trans (if_neg (fun h => (HNT.out.1 h).2.elim (fun k => k (of_decide_eq_true HQ0.out)) (fun k => absurd hgt (Int.not_le.2 k)))), show decide (newOk b) = true from decide_eq_true (HNO.out.2 (.inl (of_decide_eq_true HQ0.out)))]
          rfl
end Go.Proofs.Ytdkfijkggccafaa
