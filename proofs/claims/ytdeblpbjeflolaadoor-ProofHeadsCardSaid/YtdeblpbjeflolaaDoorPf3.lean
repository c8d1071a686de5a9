/-
  The law of heads, walked.
-/
import Derived.Test.YtdeblpbjeflolaaDoorPf2
import Derived.Test.YtdeblpbjeflolaaDoorRowsArg
namespace Go.Proofs.YtdeblpbjeflolaaDoor
set_option maxRecDepth 4000
open Go.RowKit

theorem heads_long (A : Option Addr) (k c : Nat) (at_ : Int) (w : World) (hT : Tab w) (hk : 20 < k) :
    Calls Tryd.prog 3 #[.slice A k c, .int .i64 at_] w fun e w' => e = .returned (.bool true) ∧ Below w.heap.size w w' := by
  have hki : (20 : Int) < (k : Int) := by omega
  have HAW := Lib.hid (awake_any w hT)
  go_enter Tryd.func3, Tryd.ntmps3
  go_wp2_with fail
  refine HAW.out.mono ?_
  rintro e w1 ⟨rfl, hb1⟩
  have HAW1 := Lib.hid (awake_any w1 (hT.below hb1))
  have HB1 := Lib.hid hb1
  clear hb1
  go_wp2_with fail
  refine HAW1.out.mono ?_
  rintro e w2 ⟨rfl, hb2⟩
  have HB2 := Lib.hid (HB1.out.trans (hb2.mono HB1.out.size))
  go_wp2_with fail
  go_ret
  exact ⟨rfl, HB2.out⟩

set_option maxHeartbeats 4000000 in
theorem heads_any (ps : List Pt) (A : Option Addr) (k c : Nat) (at_ : Int) (w : World) (hk : ps.length = k) (hI : InRows w A ps c) (hT : Tab w) (hat : (Lit.int .i64 at_).wf = true) (h20 : k ≤ 20) :
    Calls Tryd.prog 3 #[.slice A k c, .int .i64 at_] w fun e w' => e = .returned (.bool true) ∧ Below w.heap.size w w' := by
  have hki : ¬ (20 : Int) < (k : Int) := by omega
  have hwr : IntKind.i64.wrap ((k : Int) + 1) = (k : Int) + 1 := IntWalk.i64_in _ (by omega)
  have HAW := Lib.hid (awake_any w hT)
  have HAT := Lib.hid (wfi64 hat)
  have HT := Lib.hid hT; have HI := Lib.hid hI; have HK := Lib.hid hk; clear hT hI hk hat
  go_enter Tryd.func3, Tryd.ntmps3
  go_wp2_with fail
  refine HAW.out.mono ?_
  rintro e w1 ⟨rfl, hb1⟩
  have HB1 := Lib.hid hb1
  have HI1 := Lib.hid (HI.out.below hb1)
  clear hb1 HAW
  go_wp2_with fail
  go_loopw [5] (fun i wr => ∃ j : Nat, j ≤ k ∧ i = .int .i64 j ∧ (∀ p ∈ ps.take j, p.n ≤ 300) ∧ w1 = wr) (fun i _ => k - (intOf i).toNat)
  case atStart => exact ⟨0, by omega, rfl, (fun p hp => by simp at hp), rfl⟩
  case round =>
    obtain ⟨j, hj, rfl, hall, rfl⟩ := hrel
    have HALL := Lib.hid hall; clear hall
    by_cases hlt : j < k
    · have hlti : (j : Int) < (k : Int) := by omega
      have hp := List.getElem?_eq_getElem (l := ps) (i := j) (by rw [HK.out]; exact hlt)
      obtain ⟨⟨B, n, c', l⟩, hpe⟩ : ∃ p, p = ps[j]'(by rw [HK.out]; exact hlt) := ⟨_, rfl⟩
      rw [← hpe] at hp
      obtain ⟨g, off, rfl, hcs⟩ := HI1.out.row (by rw [HK.out]; omega)
      have hc0 := hcs j _ hp
      simp only [Pt.val] at hc0
      have HP := Lib.hid hp
      clear hpe hp hcs
      by_cases hn : n ≤ 300
      · have hni : ¬ (300 : Int) < (n : Int) := by omega
        go_wp2_with fail
        go_roundw
        case rel =>
          refine ⟨j + 1, by omega, by go_num, fun p hp => ?_, trivial⟩
          rw [List.take_add_one, HP.out] at hp
          rcases List.mem_append.1 hp with hp | hp
          · exact HALL.out p hp
          · simp at hp; subst hp; exact hn
        case measure => simp [intOf]; omega
      · have hni : (300 : Int) < (n : Int) := by omega
        go_wp2_with fail
        go_ret
        exact ⟨rfl, HB1.out⟩
    · obtain rfl : j = k := by omega
      have hge : ¬ ((j : Int) < (j : Int)) := by omega
      have hall : ∀ p ∈ ps, p.l.length ≤ 300 := fun p hp => by
        have h1 := HALL.out p (by rw [List.take_of_length_le (by rw [HK.out]; exact Nat.le_refl _)]; exact hp)
        rw [(HI1.out.pts p hp).2]; exact h1
      have HL := Lib.hid hall
      clear hall
      have HH := Lib.hid (head_any' ps A j c w1 HK.out (by omega) HI1.out.row HI1.out.pts (fun p hp => Nat.le_trans (HL.out p hp) (by omega)) (HT.out.below HB1.out))
      go_wp2_with fail
      refine HH.out.mono ?_
      rintro e w2 ⟨v2, rfl, hown2, hb2⟩
      obtain ⟨A2, c2, rfl⟩ := own_shape hown2
      have HB2 := Lib.hid (HB1.out.trans (hb2.mono HB1.out.size))
      have HI2 := Lib.hid (HI1.out.below hb2)
      have HS2 := Lib.hid (Sees.of_own hown2)
      have HR := Lib.hid (rest_any at_ (j + 1) w2 (by have := HAT.out; omega) (by have := HAT.out; omega) (by omega) (by omega))
      clear hown2 hb2 HH HI1
      go_wp2_with fail
      refine HR.out.mono ?_
      rintro e w3 ⟨⟨m, hm, rfl⟩, rfl⟩
      obtain ⟨A', hsl, hA'⟩ := slice_rows Tryd.underlying22 (by kernel_rfl) HK.out HI2.out m (by omega)
      have hR' : Rws w2 A' (ps.take m) := fun h0 => by
        rw [hA' (by rw [List.length_take] at h0; have := HK.out; omega)]
        exact HI2.out.row.take m h0
      have hkt : (ps.take m).length = m := by rw [List.length_take]; have := HK.out; omega
      have HH2 := Lib.hid (head_any' (ps.take m) A' m c w2 hkt (by omega) hR' (HI2.out.pts.take m) (fun p hp => Nat.le_trans (HL.out p (List.mem_of_mem_take hp)) (by omega)) (HT.out.below HB2.out))
      have HR' := Lib.hid hR'; have HKT := Lib.hid hkt
      have HSL := Lib.hid hsl
      have hcm : ¬ (c < m) := by have := HI2.out.le; have := HK.out; omega
      clear hA' hR' hkt HR
      go_wp2_with (simp only [hsl])
      refine HH2.out.mono ?_
      rintro e w4 ⟨v4, rfl, hown4, hb4⟩
      obtain ⟨A4, c4, rfl⟩ := own_shape hown4
      have HB4 := Lib.hid (HB2.out.trans (hb4.mono HB2.out.size))
      have HI4 := Lib.hid (HI2.out.below hb4)
      have HR4 := Lib.hid (HR'.out.below hb4)
      have HS24 := Lib.hid (HS2.out.below hb4)
      have HS4 := Lib.hid (Sees.of_own hown4)
      clear hown4 hb4 HH2
      obtain ⟨X, hX⟩ : ∃ X, X = str (hdc (ps.map (·.l))) := ⟨_, rfl⟩
      obtain ⟨Y, hY⟩ : ∃ Y, Y = str (hdc ((ps.take m).map (·.l))) := ⟨_, rfl⟩
      have hcx : ∀ w', Sees w' 1 A2 32 (u8s (hdc (ps.map (·.l)))) → (convert 24 9 (.slice A2 32 c2)).run Tryd.prog w' = .ok (.string X) w' := fun w' h => by rw [hX]; exact run_to_string Tryd.underlying24 Tryd.underlying5 Tryd.underlying9 c2 h
      have hcy : ∀ w', Sees w' 1 A4 32 (u8s (hdc ((ps.take m).map (·.l)))) → (convert 24 9 (.slice A4 32 c4)).run Tryd.prog w' = .ok (.string Y) w' := fun w' h => by rw [hY]; exact run_to_string Tryd.underlying24 Tryd.underlying5 Tryd.underlying9 c4 h
      have HCX := Lib.hid hcx; have HCY := Lib.hid hcy
      have hsz4 := HB4.out.size
      replace hX : str (hdc (ps.map Pt.l)) = X := hX.symm
      replace hY : str (hdc ((ps.take m).map Pt.l)) = Y := hY.symm
      have HX := Lib.hid hX; have HY := Lib.hid hY
      clear hcx hcy hX hY
      go_wp2_with fail
      refine region_fast [(0, true), (1, true), (2, true), (3, true), (4, true), (5, true), (6, true), (7, true), (8, false), (9, false), (10, true), (11, true), (12, true), (13, true), (14, true), (15, true), (16, true), (17, true), (18, true), (19, true), (20, true), (21, true), (22, true), (23, false), (24, false), (25, true), (26, true), (27, true)] [1, 2, 7, 8, 9, 14, 20, 21, 22, 23, 24] 32523142 [(281474976710656, 64, 0, 0), (562949953421312, 1, 0, 0), (1125899906842624, 562949953421312, 2, 2), (2251799813685248, 1407374883553280, 5, 7), (4503599627370496, 2251799813685248, 8, 15), (9007199254740992, 4503599627370624, 16, 31), (18014398509481984, 13510798882111488, 48, 63), (36028797018963968, 4503599627370497, 16, 31), (72057594037927936, 40532396646334464, 144, 159), (144115188075855872, 76561193665298432, 272, 415), (288230376151711744, 166633186212708352, 592, 1023), (576460752303423488, 292733975779082240, 1040, 2047), (1152921504606846976, 576460752303423488, 2560, 4095), (2305843009213693952, 1152921504606847488, 4096, 8191), (4611686018427387904, 1152921504606847232, 4096, 8191), (9223372036854775808, 8070450532247928832, 28672, 32767), (18446744073709551616, 10376293541461622784, 36864, 65535), (36893488147419103232, 18446744073709551616, 69632, 131071), (73786976294838206464, 36893488147419104256, 131072, 262143), (147573952589676412928, 110680464442257309696, 393216, 524287), (295147905179352825856, 36893488147419103233, 131072, 262143), (590295810358705651712, 36893488147419103488, 131072, 262143), (1180591620717411303424, 922337203685477580800, 3276800, 3407871), (2361183241434822606848, 1217485108864830406656, 4325376, 7602175), (4722366482869645213696, 2398076729582241710080, 8519680, 15990783), (9444732965739290427392, 4906833923606740729856, 17432576, 33554431), (18889465931478580854784, 9481626453886709530624, 33685504, 67108863), (16, 18889465931478580854784, 134217727, 134217727)] (fun w' => Sees w' 1 A2 32 (u8s (hdc (ps.map Pt.l))) ∧ Sees w' 1 A4 32 (u8s (hdc ((ps.take m).map Pt.l))) ∧ Rws w' A ps ∧ Pts w' ps ∧ Rws w' A' (ps.take m)) (by kernel_rfl) (by kernel_rfl) (by kernel_rfl) rfl (by kernel_rfl) (by kernel_rfl) ⟨HS24.out, HS4.out, HI4.out.row, HI4.out.pts, HR4.out⟩ (fun hS => ?_)
      repeat (first
        | (refine plan_read (v := ?_) rfl (fun _ _ _ h => h) rfl hS ?_ ?_; rotate_left 1; (focus (intro w' hS'; have e1 := HCX.out _ hS'.1; have e2 := HCY.out _ hS'.2.1; go_simp; try rfl)); (simp only [Act.put, List.setIfInBounds_toArray]; dsimp only [List.set_cons_zero, List.set_cons_succ]))
        | (refine plan_skip rfl (fun _ _ _ h => h) rfl hS ?_; (simp only [Act.put, List.setIfInBounds_toArray]; dsimp only [List.set_cons_zero, List.set_cons_succ])))
      refine plan_do (by rfl) (by rfl) (fun K hK => ?_)
      go_simp
      refine (texts_any ps A j c _ HK.out (by omega) hS.2.2.1 hS.2.2.2.1).mono ?_
      rintro e w5 ⟨v5, rfl, hown5, hb5⟩
      obtain ⟨A5, c5, rfl⟩ := own_shape hown5
      have HS5 := Lib.hid (Sees.of_own hown5)
      have HB5 := Lib.hid (HB4.out.trans ((below_of_drew hb5).mono HB4.out.size))
      have q1 := hS.1.below hb5
      have q2 := hS.2.1.below hb5
      have q3 := (show Rws _ A ps from hS.2.2.1).below hb5
      have q4 := (show Pts _ ps from hS.2.2.2.1).below hb5
      have q5 := (show Rws _ A' (ps.take m) from hS.2.2.2.2).below hb5
      clear hown5 hb5
      refine hK.out _ _ (fun _ => ⟨q1, q2, q3, q4, q5⟩) (fun hS => ?_); clear hK K; replace hS := hS rfl; try (simp only [Act.put, List.setIfInBounds_toArray]; dsimp only [List.set_cons_zero, List.set_cons_succ])
      refine plan_do (by rfl) (by rfl) (fun K hK => ?_)
      go_simp
      refine (rhead_any' (ps.map Pt.l) A5 j c5 _ (by rw [List.length_map]; exact HK.out) (by omega) HS5.out (fun t ht => by obtain ⟨p, hp, rfl⟩ := List.mem_map.1 ht; have := HL.out p hp; omega)).mono ?_
      rintro e w6 ⟨rfl, hb6⟩
      rw [HX.out]
      have HB6 := Lib.hid (HB5.out.trans (hb6.mono HB5.out.size))
      have q1 := q1.below hb6
      have q2 := q2.below hb6
      have q3 := q3.below hb6
      have q4 := q4.below hb6
      have q5 := q5.below hb6
      clear hb6
      refine hK.out _ _ (fun _ => ⟨q1, q2, q3, q4, q5⟩) (fun hS => ?_); clear hK K; replace hS := hS rfl; try (simp only [Act.put, List.setIfInBounds_toArray]; dsimp only [List.set_cons_zero, List.set_cons_succ])
      repeat (first
        | (refine plan_read (v := ?_) rfl (fun _ _ _ h => h) rfl hS ?_ ?_; rotate_left 1; (focus (intro w' hS'; have e1 := HCX.out _ hS'.1; have e2 := HCY.out _ hS'.2.1; go_simp; try rfl)); (simp only [Act.put, List.setIfInBounds_toArray]; dsimp only [List.set_cons_zero, List.set_cons_succ]))
        | (refine plan_skip rfl (fun _ _ _ h => h) rfl hS ?_; (simp only [Act.put, List.setIfInBounds_toArray]; dsimp only [List.set_cons_zero, List.set_cons_succ])))
      refine plan_do (by rfl) (by rfl) (fun K hK => ?_)
      go_simp
      refine (texts_any (ps.take m) A' m c _ HKT.out (by omega) hS.2.2.2.2 ((show Pts _ ps from hS.2.2.2.1).take m)).mono ?_
      rintro e w7 ⟨v7, rfl, hown7, hb7⟩
      obtain ⟨A7, c7, rfl⟩ := own_shape hown7
      have HS7 := Lib.hid (Sees.of_own hown7)
      have HB7 := Lib.hid (HB6.out.trans (hb7.mono HB6.out.size))
      have q1 := hS.1.below hb7
      have q2 := hS.2.1.below hb7
      have q3 := (show Rws _ A ps from hS.2.2.1).below hb7
      have q4 := (show Pts _ ps from hS.2.2.2.1).below hb7
      have q5 := (show Rws _ A' (ps.take m) from hS.2.2.2.2).below hb7
      clear hown7 hb7
      refine hK.out _ _ (fun _ => ⟨q1, q2, q3, q4, q5⟩) (fun hS => ?_); clear hK K; replace hS := hS rfl; try (simp only [Act.put, List.setIfInBounds_toArray]; dsimp only [List.set_cons_zero, List.set_cons_succ])
      refine plan_do (by rfl) (by rfl) (fun K hK => ?_)
      go_simp
      refine (rhead_any' ((ps.take m).map Pt.l) A7 m c7 _ (by rw [List.length_map]; exact HKT.out) (by omega) HS7.out (fun t ht => by obtain ⟨p, hp, rfl⟩ := List.mem_map.1 ht; have := HL.out p (List.mem_of_mem_take hp); omega)).mono ?_
      rintro e w8 ⟨rfl, hb8⟩
      rw [HY.out]
      have HB8 := Lib.hid (HB7.out.trans (hb8.mono HB7.out.size))
      have q1 := q1.below hb8
      have q2 := q2.below hb8
      have q3 := q3.below hb8
      have q4 := q4.below hb8
      have q5 := q5.below hb8
      clear hb8
      refine hK.out _ _ (fun _ => ⟨q1, q2, q3, q4, q5⟩) (fun hS => ?_); clear hK K; replace hS := hS rfl; try (simp only [Act.put, List.setIfInBounds_toArray]; dsimp only [List.set_cons_zero, List.set_cons_succ])
      repeat (first
        | (refine plan_read (v := ?_) rfl (fun _ _ _ h => h) rfl hS ?_ ?_; rotate_left 1; (focus (intro w' hS'; have e1 := HCX.out _ hS'.1; have e2 := HCY.out _ hS'.2.1; go_simp; try rfl)); (simp only [Act.put, List.setIfInBounds_toArray]; dsimp only [List.set_cons_zero, List.set_cons_succ]))
        | (refine plan_skip rfl (fun _ _ _ h => h) rfl hS ?_; (simp only [Act.put, List.setIfInBounds_toArray]; dsimp only [List.set_cons_zero, List.set_cons_succ])))
      refine plan_nil ?_
      go_wp2_with fail
      go_ret
      exact ⟨rfl, HB8.out⟩

theorem heads_walk (a0 : Option Addr) (ps0 : List Pt) (len0 cap0 : Nat) (a1 : Int) (W : World) (hT : Tab W) (m0 : ps0.length = len0) (w0 : InRows W a0 ps0 cap0) (w1 : (Lit.int .i64 a1).wf = true) :
    Calls Tryd.prog 3 #[.slice a0 len0 cap0, .int .i64 a1] W fun e W' => e = .returned (.bool true) ∧ Below W.heap.size W W' := by
  by_cases h : 20 < len0
  · exact heads_long a0 len0 cap0 a1 W hT h
  · exact heads_any ps0 a0 len0 cap0 a1 W m0 w0 hT w1 (by omega)
end Go.Proofs.YtdeblpbjeflolaaDoor
