/-
  What octets say: by the code.
-/
import Derived.Test.YtdkfijkggccafaaSup4
namespace Go.Proofs.Ytdkfijkggccafaa
set_option maxRecDepth 4000
open Go.RowKit

set_option maxHeartbeats 1000000 in
theorem read_any (b : List UInt8) (A : Option Addr) (n c : Nat) (place : Int) (w : World) (hS : Sees w 1 A n (u8s b)) (hb : b.length = n) (hn : n ≤ 1000000) (hA : A = none → c = 0) :
    Calls Try.prog 11 #[.slice A n c, .int .i64 place] w fun e w' => e = .returned (.tuple #[(readS b place).val, .bool (decide (rdOk b place))]) ∧ Below w.heap.size w w' := by
  rw [eye5_read]
  have HOK := Lib.hid (eye5_ok b place)
  obtain ⟨l1, hl1⟩ : ∃ l, l = eyeL b 0 4 := ⟨_, rfl⟩
  obtain ⟨e1, he1⟩ : ∃ l, l = eyeE b 0 4 := ⟨_, rfl⟩
  obtain ⟨l2, hl2⟩ : ∃ l, l = eyeL l1 e1 8 := ⟨_, rfl⟩
  obtain ⟨e2, he2⟩ : ∃ l, l = eyeE l1 e1 8 := ⟨_, rfl⟩
  obtain ⟨l3, hl3⟩ : ∃ l, l = eyeL l2 e2 8 := ⟨_, rfl⟩
  obtain ⟨e3, he3⟩ : ∃ l, l = eyeE l2 e2 8 := ⟨_, rfl⟩
  obtain ⟨l4, hl4⟩ : ∃ l, l = eyeL l3 e3 4 := ⟨_, rfl⟩
  obtain ⟨e4, he4⟩ : ∃ l, l = eyeE l3 e3 4 := ⟨_, rfl⟩
  obtain ⟨l5, hl5⟩ : ∃ l, l = eyeL l4 e4 4 := ⟨_, rfl⟩
  obtain ⟨e5, he5⟩ : ∃ l, l = eyeE l4 e4 4 := ⟨_, rfl⟩
  have hey : eye5 b = ⟨wrap64 (eyeN l1 e1 8), wrap64 (eyeN l2 e2 8), eyeN l3 e3 4, eyeN l4 e4 4, eyeN l5 e5 4⟩ := by
    rw [he5, hl5, he4, hl4, he3, hl3, he2, hl2, he1, hl1]; rfl
  have b1 : e1 ≤ 10 ∧ l1.length ≤ n := ⟨by rw [he1]; exact eyeE_le _ _ _ (by omega), by rw [hl1]; exact Nat.le_trans (eyeL_le _ _ _) (by omega)⟩
  have b2 : e2 ≤ 10 ∧ l2.length ≤ n := ⟨by rw [he2]; exact eyeE_le _ _ _ b1.1, by rw [hl2]; exact Nat.le_trans (eyeL_le _ _ _) b1.2⟩
  have b3 : e3 ≤ 10 ∧ l3.length ≤ n := ⟨by rw [he3]; exact eyeE_le _ _ _ b2.1, by rw [hl3]; exact Nat.le_trans (eyeL_le _ _ _) b2.2⟩
  have b4 : e4 ≤ 10 ∧ l4.length ≤ n := ⟨by rw [he4]; exact eyeE_le _ _ _ b3.1, by rw [hl4]; exact Nat.le_trans (eyeL_le _ _ _) b3.2⟩
  have b5 : e5 ≤ 10 ∧ l5.length ≤ n := ⟨by rw [he5]; exact eyeE_le _ _ _ b4.1, by rw [hl5]; exact Nat.le_trans (eyeL_le _ _ _) b4.2⟩
  have HP := Lib.hid (fun base p w hE h1 => (pass_any base p 4 b w hE (by omega) (by omega) (by omega) h1))
  have H1 := Lib.hid (fun base p w hE => (e64_any base p e1 l1 w hE (by omega) (by omega)))
  have H2 := Lib.hid (fun base p w hE => (e64_any base p e2 l2 w hE (by omega) (by omega)))
  have H3 := Lib.hid (fun base p w hE => (e32_any base p e3 l3 w hE (by omega) (by omega)))
  have H4 := Lib.hid (fun base p w hE => (e32_any base p e4 l4 w hE (by omega) (by omega)))
  have H5 := Lib.hid (fun base p w hE => (e32_any base p e5 l5 w hE (by omega) (by omega)))
  rw [← hl1, ← he1] at HP
  rw [← hl2, ← he2] at H1
  rw [← hl3, ← he3] at H2
  rw [← hl4, ← he4] at H3
  rw [← hl5, ← he5] at H4
  generalize eyeN l1 e1 8 = f1 at *
  generalize eyeN l2 e2 8 = f2 at *
  generalize eyeN l3 e3 4 = f3 at *
  generalize eyeN l4 e4 4 = f4 at *
  generalize eyeN l5 e5 4 = f5 at *
  have HEY := Lib.hid hey
  clear hl1 he1 hl2 he2 hl3 he3 hl4 he4 hl5 he5 b1 b2 b3 b4 b5 hey
  have HOP : Hid (∀ w, Sees w 1 A n (u8s b) → Calls Try.prog 28 #[.slice A n c] w fun e w' => ∃ p, e = .returned (.pointer (some ⟨p, 0, none⟩)) ∧ Eye w' w.heap.size p b 0 ∧ Below w.heap.size w w') := by
    refine Lib.hid (fun w hS => ?_)
    cases A with
    | some ad => exact open_any b ad n c w hS hb (by omega)
    | none =>
      obtain rfl := hA rfl
      by_cases h0 : n = 0
      · subst h0
        obtain rfl : b = [] := List.length_eq_zero_iff.1 hb
        exact open_nil w
      · obtain ⟨g, off, e, -⟩ := hS.2 (by omega)
        cases e
  have HS := Lib.hid hS
  clear hA hS
  have HSZ := Lib.hid (show (Try.prog.info? 23).map (·.size) = some 5 by kernel_rfl)
  go_enter Try.func11, Try.ntmps11
  have HZ := Lib.hid (Blk.new w 23 #[.int .i64 0, .int .i64 0, .int .i64 0, .int .i64 0, .int .i64 0])
  have hal : Below w.heap.size w (w.alloc (.cells #[.int .i64 0, .int .i64 0, .int .i64 0, .int .i64 0, .int .i64 0] 23)) := (Below.refl _ _).alloc (Nat.le_refl _) _
  have HX := Lib.hid (HOP.out _ (HS.out.below hal))
  have HA := Lib.hid hal
  clear hal HOP
  go_wp2_with fail
  refine HX.out.mono ?_
  rintro e w1 ⟨p, rfl, hE1, hb1⟩
  have HQ := Lib.hid (HP.out _ _ _ hE1 (by have := hb1.size; omega))
  have HB1 := Lib.hid hb1
  clear hE1 hb1 HX HP
  go_wp2_with fail
  refine HQ.out.mono ?_
  rintro e w2 ⟨⟨v2, rfl⟩, hE2, hb2⟩
  have HQ1 := Lib.hid (H1.out _ _ _ hE2)
  have HB2 := Lib.hid (HB1.out.trans hb2)
  clear hE2 hb2 HQ H1 HB1
  go_wp2_with fail
  refine HQ1.out.mono ?_
  rintro e w3 ⟨rfl, hE3, hb3⟩
  have HQ2 := Lib.hid (H2.out _ _ _ hE3)
  have HB3 := Lib.hid (HB2.out.trans hb3)
  clear hE3 hb3 HQ1 H2 HB2
  go_wp2_with fail
  refine HQ2.out.mono ?_
  rintro e w4 ⟨rfl, hE4, hb4⟩
  have HQ3 := Lib.hid (H3.out _ _ _ hE4)
  have HB4 := Lib.hid (HB3.out.trans hb4)
  clear hE4 hb4 HQ2 H3 HB3
  go_wp2_with fail
  refine HQ3.out.mono ?_
  rintro e w5 ⟨rfl, hE5, hb5⟩
  have HQ4 := Lib.hid (H4.out _ _ _ hE5)
  have HB5 := Lib.hid (HB4.out.trans hb5)
  clear hE5 hb5 HQ3 H4 HB4
  go_wp2_with fail
  refine HQ4.out.mono ?_
  rintro e w6 ⟨rfl, hE6, hb6⟩
  have HQ5 := Lib.hid (H5.out _ _ _ hE6)
  have HB6 := Lib.hid (HB5.out.trans hb6)
  clear hE6 hb6 HQ4 H5 HB5
  go_wp2_with fail
  refine HQ5.out.mono ?_
  rintro e w7 ⟨rfl, -, hb7⟩
  have HB7 := Lib.hid (HB6.out.trans hb7)
  clear hb7 HQ5 HB6
  have HK := Lib.hid (Blk.new w7 23 #[.int .i64 0, .int .i64 0, .int .i64 0, .int .i64 0, .int .i64 0])
  have hR0 := HK.out.setRow #[.int .i64 (wrap64 f1), .int .i64 (wrap64 f2), .int .i64 f3, .int .i64 f4, .int .i64 f5]
  have hB0 := below_setRow ((Below.refl w7.heap.size w7).alloc (Nat.le_refl _) (.cells #[.int .i64 0, .int .i64 0, .int .i64 0, .int .i64 0, .int .i64 0] 23)) (Nat.le_refl _) #[.int .i64 (wrap64 f1), .int .i64 (wrap64 f2), .int .i64 f3, .int .i64 f4, .int .i64 f5]
  have hB8 : Below (w.heap.size + 1) (w.alloc (.cells #[.int .i64 0, .int .i64 0, .int .i64 0, .int .i64 0, .int .i64 0] 23)) _ := (HB7.out.mono (by simp)).trans (hB0.mono (by have := HB7.out.size; simpa using this))
  have hZ8 := HZ.out.below hB8 (by omega)
  have hB8' := HA.out.trans (hB8.mono (by omega))
  have HW8 := Lib.hid (And.intro hR0 (And.intro hZ8 hB8'))
  have HSN := Lib.hid (HS.out.below hB8')
  clear hR0 hB0 hB8 hZ8 hB8'
  go_wp2_with (refine wpList_store_row rfl 23 (.tmp 7) (.tmp 26) rfl w7.heap.size _ rfl rfl 23 _ HK.out (by exact HSZ.out) (Eq.refl 5) (by simp [Value.oneCell']) ?_; generalize (World.setRow _ _ _) = W at *; have c0 : W.cell? ⟨w7.heap.size, 0, none⟩ = some (.int .i64 (wrap64 f1)) := HW8.out.1.cell 0; have c1 : W.cell? ⟨w7.heap.size, 1, none⟩ = some (.int .i64 (wrap64 f2)) := HW8.out.1.cell 1; have c2 : W.cell? ⟨w7.heap.size, 2, none⟩ = some (.int .i64 f3) := HW8.out.1.cell 2; have c3 : W.cell? ⟨w7.heap.size, 3, none⟩ = some (.int .i64 f4) := HW8.out.1.cell 3; have c4 : W.cell? ⟨w7.heap.size, 4, none⟩ = some (.int .i64 f5) := HW8.out.1.cell 4)
  by_cases hr : (eye5 b).right
  · have HO := Lib.hid (octets_ok _ hr W)
    rw [HEY.out] at HO
    unfold Sp.val at HO
    refine HO.out.mono ?_
    rintro e w9 ⟨v9, rfl, hown9, hb9⟩
    obtain ⟨A9, k9, rfl⟩ := own_shape hown9
    have hR9 := HW8.out.1.below hb9 HW8.out.1.lt
    have HZ9 := Lib.hid (HW8.out.2.1.below hb9 HW8.out.2.1.lt)
    have HB9 := Lib.hid (HW8.out.2.2.trans (hb9.mono HW8.out.2.2.size))
    have HE := Lib.hid (equal_any _ b A9 A 128 k9 n c w9 (Sees.of_own hown9) (HSN.out.below hb9))
    have c0' : w9.cell? ⟨w7.heap.size, 0, none⟩ = some (.int .i64 (wrap64 f1)) := hR9.cell 0
    have c1' : w9.cell? ⟨w7.heap.size, 1, none⟩ = some (.int .i64 (wrap64 f2)) := hR9.cell 1
    have c2' : w9.cell? ⟨w7.heap.size, 2, none⟩ = some (.int .i64 f3) := hR9.cell 2
    have c3' : w9.cell? ⟨w7.heap.size, 3, none⟩ = some (.int .i64 f4) := hR9.cell 3
    have c4' : w9.cell? ⟨w7.heap.size, 4, none⟩ = some (.int .i64 f5) := hR9.cell 4
    have HSP := Lib.hid (show decide (spo ⟨wrap64 f1, wrap64 f2, f3, f4, f5⟩ = b) = decide (spo (eye5 b) = b) by rw [HEY.out])
    rw [HSP.out] at HE
    clear hown9 hb9 hR9 c0 c1 c2 c3 c4 HO HW8
    by_cases hsp : spo (eye5 b) = b
    · rw [decide_eq_true hsp] at HE
      obtain ⟨r, hrr⟩ : ∃ r, r = (wrap64 f1).tmod 2 := ⟨_, rfl⟩
      have hr1 : 1 ≤ wrap64 f1 ∧ wrap64 f1 ≤ 1099511627776 := by rw [HEY.out] at hr; exact ⟨hr.1, hr.2.1⟩
      have hr2 : 0 ≤ r ∧ r < 2 := by rw [hrr, Int.tmod_eq_emod_of_nonneg (by omega)]; omega
      have hrw : IntKind.i64.wrap r = r := IntWalk.i64_in _ (by omega)
      replace hrr : (wrap64 f1).tmod 2 = r := hrr.symm
      have HG := Lib.hid (show (eye5 b).gen.tmod 2 = r by rw [HEY.out]; exact hrr)
      generalize wrap64 (f1 : Int) = g1 at *
      by_cases hpl : r = place
      · have HY := Lib.hid (HOK.out.2 ⟨hr, hsp, by rw [HG.out]; exact hpl⟩)
        subst hpl
        go_wp2_with fail
        refine HE.out.mono ?_
        rintro e w' ⟨rfl, rfl⟩
        go_wp2_with (refine wpList_store_row rfl 23 (.tmp 4) (.tmp 48) rfl w.heap.size _ rfl rfl 23 _ HZ9.out (by exact HSZ.out) (Eq.refl 5) (by simp [Value.oneCell']) ?_)
        refine bodyPost_ret (results_row_tmp rfl _ _ w.heap.size 23 _ (0, 0) _ rfl (HZ9.out.setRow _) Try.underlying23 rfl (by exact HSZ.out)) rfl ⟨?_, below_setRow HB9.out (Nat.le_refl _) _⟩
        try rw [if_pos HY.out, decide_eq_true HY.out]
        rw [HEY.out]
        rfl
      · have HNO := Lib.hid (show ¬ rdOk b place from fun h => hpl (by rw [← (HOK.out.1 h).2.2]; exact HG.out.symm))
        have hpl2 : (r == place) = false := by rw [beq_eq_false_iff_ne]; exact hpl
        have hpl3 : (r != place) = true := by rw [bne, hpl2]; rfl
        go_wp2_with fail
        refine HE.out.mono ?_
        rintro e w' ⟨rfl, rfl⟩
        go_wp2_with (refine wpList_store_row rfl 23 (.tmp 4) (.tmp 47) rfl w.heap.size _ rfl rfl 23 _ HZ9.out (by exact HSZ.out) (Eq.refl 5) (by simp [Value.oneCell']) ?_)
        refine bodyPost_ret (results_row_tmp rfl _ _ w.heap.size 23 _ (0, 0) _ rfl (HZ9.out.setRow _) Try.underlying23 rfl (by exact HSZ.out)) rfl ⟨?_, below_setRow HB9.out (Nat.le_refl _) _⟩
        try rw [if_neg HNO.out, decide_eq_false HNO.out]
        rfl
    · rw [decide_eq_false hsp] at HE
      have HNO := Lib.hid (show ¬ rdOk b place from fun h => hsp (HOK.out.1 h).2.1)
      go_wp2_with fail
      refine HE.out.mono ?_
      rintro e w' ⟨rfl, rfl⟩
      go_wp2_with (refine wpList_store_row rfl 23 (.tmp 4) (.tmp 47) rfl w.heap.size _ rfl rfl 23 _ HZ9.out (by exact HSZ.out) (Eq.refl 5) (by simp [Value.oneCell']) ?_)
      refine bodyPost_ret (results_row_tmp rfl _ _ w.heap.size 23 _ (0, 0) _ rfl (HZ9.out.setRow _) Try.underlying23 rfl (by exact HSZ.out)) rfl ⟨?_, below_setRow HB9.out (Nat.le_refl _) _⟩
      try rw [if_neg HNO.out, decide_eq_false HNO.out]
      rfl
  · have HO := Lib.hid (octets_no _ hr W)
    have HNO := Lib.hid (show ¬ rdOk b place from fun h => hr (HOK.out.1 h).1)
    rw [HEY.out] at HO
    unfold Sp.val at HO
    refine HO.out.mono ?_
    rintro e w9 ⟨rfl, hb9⟩
    have HZ9 := Lib.hid (HW8.out.2.1.below hb9 HW8.out.2.1.lt)
    have HB9 := Lib.hid (HW8.out.2.2.trans (hb9.mono HW8.out.2.2.size))
    clear hb9 c0 c1 c2 c3 c4 HO HW8
    go_wp2_with (refine wpList_store_row rfl 23 (.tmp 4) (.tmp 47) rfl w.heap.size _ rfl rfl 23 _ HZ9.out (by exact HSZ.out) (Eq.refl 5) (by simp [Value.oneCell']) ?_)
    refine bodyPost_ret (results_row_tmp rfl _ _ w.heap.size 23 _ (0, 0) _ rfl (HZ9.out.setRow _) Try.underlying23 rfl (by exact HSZ.out)) rfl ⟨?_, below_setRow HB9.out (Nat.le_refl _) _⟩
    try rw [if_neg HNO.out, decide_eq_false HNO.out]
    rfl
end Go.Proofs.Ytdkfijkggccafaa
