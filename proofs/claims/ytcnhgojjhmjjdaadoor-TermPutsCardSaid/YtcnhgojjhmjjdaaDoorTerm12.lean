/-
  TermPuts: which terms there are, their numbers, and what a number is.
-/
import Derived.Test.YtcnhgojjhmjjdaaDoorTerm10
namespace Go.Proofs.YtcnhgojjhmjjdaaDoor
set_option maxRecDepth 4000
open Go.RowKit

set_option maxHeartbeats 1000000 in
theorem puts_walk (A : Option Addr) (ts : List Tm) (len c : Nat) (n : Int) (t : Tm) (W : World) (hT : Tab10 W) (hm : ts.length = len) (hI : InTerms W A ts c) (_wn : (Lit.int .i64 n).wf = true) (_wt : wfT t) :
    Calls Tryd.prog 5 #[.slice A len c, .int .i64 n, tval t] W fun e W' => e = .returned (.bool true) ∧ Below W.heap.size W W' := by
  subst hm
  have HA := Lib.hid (fun w h => awake_any w h)
  have HT := Lib.hid hT; clear hT
  obtain ⟨tk, ta, tx, ty⟩ := t
  have b0 := (Below.refl W.heap.size W).alloc (Nat.le_refl _) (.cells #[.int .i64 tk, .int .i64 ta, .int .i64 tx, .int .i64 ty] 33)
  have HB0 := Lib.hid b0
  have HX0 := Lib.hid (Blk.new W 33 #[.int .i64 tk, .int .i64 ta, .int .i64 tx, .int .i64 ty]); clear b0
  unfold tval
  by_cases h60 : 100 < ts.length
  · go_enter Tryd.func5, Tryd.ntmps5
    go_wp2_with fail
    refine (HA.out _ (HT.out.below (Nat.le_refl _) HB0.out)).mono ?_
    rintro e w1 ⟨rfl, b1⟩
    have HB1 := Lib.hid (HB0.out.trans (b1.mono HB0.out.size)); clear b1
    go_wp2_with fail
    refine (HA.out w1 (HT.out.below (Nat.le_refl _) HB1.out)).mono ?_
    rintro e w2 ⟨rfl, b2⟩
    go_wp2_with fail
    go_ret
    exact ⟨rfl, HB1.out.trans (b2.mono HB1.out.size)⟩
  · obtain ⟨hpool, hlen⟩ := putsT_pool ts (fit_wf hI.wf)
    have HI := Lib.hid hI; clear hI
    have HM := Lib.hid (fun w h1 h2 => made_any A ts c w h1 (by omega) h2)
    obtain ⟨l, hl⟩ : ∃ l, putsT [] ts = l := ⟨_, rfl⟩
    rw [hl] at HM hpool hlen
    have HL := Lib.hid hl; clear hl
    have HFI := Lib.hid (fun base v w h hll => rfind_any v ⟨tk, ta, tx, ty⟩ l base w h hll)
    have HPF := Lib.hid (fun p base w h => find_any p ⟨tk, ta, tx, ty⟩ l base w h)
    have hfind : (⟨tk, ta, tx, ty⟩ : Tm) ∈ l ∨ (⟨tk, ta, tx, ty⟩ : Tm) ∉ l := Decidable.em _
    unfold tval at HFI HPF
    go_enter Tryd.func5, Tryd.ntmps5
    go_wp2_with fail
    refine (HA.out _ (HT.out.below (Nat.le_refl _) HB0.out)).mono ?_
    rintro e w1 ⟨rfl, b1⟩
    have HB1 := Lib.hid (HB0.out.trans (b1.mono HB0.out.size))
    have HX1 := Lib.hid (HX0.out.below b1 (HX0.out.lt)); clear b1
    go_wp2_with fail
    have HT1 := Lib.hid (HT.out.below (Nat.le_refl _) HB1.out)
    refine (HM.out w1 (HI.out.below HB1.out) HT1.out).mono ?_
    rintro e w2 ⟨p, v, rfl, hm⟩
    obtain ⟨vA, vc, rfl⟩ := own_shape hm.list
    have HM2 := Lib.hid hm; clear hm
    have hll : l.length ≤ 100 := by omega
    obtain ⟨tA, tc, mb, dA, dc, sA, sc, hP⟩ := HM2.out.pool.choose_spec.1.is
    have HLEN := Lib.hid (plen_any p tA l.length tc w2 (own_len hP.ts) hP.cell0); clear hP
    go_wp2_with fail
    refine HLEN.out.mono ?_
    rintro e w3 ⟨rfl, rfl⟩
    by_cases h0 : 0 ≤ n ∧ n < l.length
    · obtain ⟨X, rfl⟩ : ∃ X : Nat, n = X := ⟨n.toNat, by omega⟩
      have hX : X < l.length := by omega
      have hget : l[X]? = some (l[X]'hX) := List.getElem?_eq_getElem hX
      generalize l[X] = u at hget
      have HG := Lib.hid (get_ok p X u l w1.heap.size w2 HM2.out.pool.choose_spec.1.is hget)
      have HGT := Lib.hid hget; clear hget
      obtain ⟨k, a, x, y⟩ := u
      unfold tval at HG
      go_wp2_with fail
      refine HG.out.mono ?_
      rintro e w3 ⟨rfl, b3⟩
      have HM3 := Lib.hid (HM2.out.below b3)
      have HX3 := Lib.hid ((HX1.out.keep (HM2.out.bel.block _ HX1.out.lt)).keep (b3.block _ (Nat.lt_of_lt_of_le HX1.out.lt HM2.out.bel.size)))
      clear b3
      go_wp2_with fail
      have HA1 := Lib.hid ((Below.refl w3.heap.size w3).alloc (Nat.le_refl _) (.cells #[.int .i64 k, .int .i64 a, .int .i64 x, .int .i64 y] 33))
      have HX9 := Lib.hid (Blk.new w3 33 #[.int .i64 k, .int .i64 a, .int .i64 x, .int .i64 y])
      obtain ⟨tg, rfl, q0, q1, q2, q3⟩ := own_tm (HM3.out.below HA1.out).list HGT.out
      have n0 := HX9.out.cell 0
      have n1 := HX9.out.cell 1
      have n2 := HX9.out.cell 2
      have n3 := HX9.out.cell 3
      simp only [List.getElem?_toArray, List.getElem?_cons_zero, List.getElem?_cons_succ] at n0 n1 n2 n3
      have HS := Lib.hid (And.intro q0 (And.intro q1 (And.intro q2 (And.intro q3 (And.intro n0 (And.intro n1 (And.intro n2 n3)))))))
      clear q0 q1 q2 q3 n0 n1 n2 n3
      refine region_fast [(0, true), (1, true), (2, true), (3, true), (4, true), (5, true), (6, true), (7, true), (8, true), (9, true), (10, true), (11, true), (12, true), (13, true), (14, true), (15, true), (16, true), (17, true), (18, true), (19, true), (20, true), (21, true), (22, true), (23, true), (24, true), (25, true), (26, true), (27, true), (28, true), (29, true)] [1, 2, 3, 4, 5, 6, 7, 8, 14, 15, 16, 17, 26] 67355134 [(4398046511104, 1024, 0, 0), (8796093022208, 2, 0, 0), (17592186044416, 8796093022208, 2, 2), (35184372088832, 17592186044416, 4, 6), (70368744177664, 35184372088834, 8, 14), (140737488355328, 35184372089088, 8, 14), (281474976710656, 175921860444160, 40, 46), (562949953421312, 387028092977152, 88, 126), (1125899906842624, 598134325510144, 136, 254), (2251799813685248, 1130297953353728, 257, 511), (4503599627370496, 2251799813685248, 520, 1023), (9007199254740992, 4503599627371520, 1024, 2047), (18014398509481984, 13510798882111488, 3072, 4095), (36028797018963968, 18014398509482496, 4096, 8191), (72057594037927936, 18014398509482240, 4096, 8191), (144115188075855872, 18014398509481986, 4096, 8191), (288230376151711744, 234187180623265792, 53248, 57343), (576460752303423488, 306244774661193728, 69632, 122879), (1152921504606846976, 630503947831869440, 143360, 262143), (2305843009213693952, 1175439502743699456, 267264, 524287), (4611686018427387904, 2310346608841064448, 525312, 1048575), (9223372036854775808, 4611686018427387904, 1052672, 2097151), (18446744073709551616, 9223372036854776832, 2097152, 4194303), (36893488147419103232, 27670116110564327424, 6291456, 8388607), (73786976294838206464, 46116860184273879040, 10485760, 16777215), (147573952589676412928, 73786976294838206976, 16777216, 33554431), (295147905179352825856, 73786976294838206464, 16777216, 33554431), (590295810358705651712, 516508834063867445248, 117440512, 134217727), (1180591620717411303424, 673306158690398633984, 153092096, 268435455), (2361183241434822606848, 1189814992754266079232, 270532608, 536870911)] (fun W' => W'.cell? ⟨tg, X * 4, none⟩ = some (.int .i64 k) ∧ W'.cell? ⟨tg, X * 4 + 1, none⟩ = some (.int .i64 a) ∧ W'.cell? ⟨tg, X * 4 + 2, none⟩ = some (.int .i64 x) ∧ W'.cell? ⟨tg, X * 4 + 3, none⟩ = some (.int .i64 y) ∧ W'.cell? ⟨w3.heap.size, 0, none⟩ = some (.int .i64 k) ∧ W'.cell? ⟨w3.heap.size, 1, none⟩ = some (.int .i64 a) ∧ W'.cell? ⟨w3.heap.size, 2, none⟩ = some (.int .i64 x) ∧ W'.cell? ⟨w3.heap.size, 3, none⟩ = some (.int .i64 y)) (by kernel_rfl) (by kernel_rfl) (by kernel_rfl) rfl (by kernel_rfl) (by kernel_rfl) HS.out (fun hS => ?_)
      repeat (first
        | (refine plan_read (v := ?_) rfl (fun _ _ _ h => h) rfl hS ?_ ?_; rotate_left 1; (focus (intro w' hS'; obtain ⟨s1, s2, s3, s4, s5, s6, s7, s8⟩ := hS'; go_simp; try rfl)); (simp only [Act.put, List.setIfInBounds_toArray]; dsimp only [List.set_cons_zero, List.set_cons_succ]))
        | (refine plan_skip rfl (fun _ _ _ h => h) rfl hS ?_; (simp only [Act.put, List.setIfInBounds_toArray]; dsimp only [List.set_cons_zero, List.set_cons_succ])))
      refine plan_nil ?_
      clear hS
      have HM4 := Lib.hid ((HM3.out.below HA1.out).below (Below.refl _ _).drew)
      have HX4 := Lib.hid (HX3.out.below HA1.out HX3.out.lt).drew
      have c0 : (w3.alloc (.cells #[.int .i64 k, .int .i64 a, .int .i64 x, .int .i64 y] 33)).drew.cell? ⟨W.heap.size, 0, none⟩ = some (.int .i64 tk) := HX4.out.cell 0
      have c1 : (w3.alloc (.cells #[.int .i64 k, .int .i64 a, .int .i64 x, .int .i64 y] 33)).drew.cell? ⟨W.heap.size, 1, none⟩ = some (.int .i64 ta) := HX4.out.cell 1
      have c2 : (w3.alloc (.cells #[.int .i64 k, .int .i64 a, .int .i64 x, .int .i64 y] 33)).drew.cell? ⟨W.heap.size, 2, none⟩ = some (.int .i64 tx) := HX4.out.cell 2
      have c3 : (w3.alloc (.cells #[.int .i64 k, .int .i64 a, .int .i64 x, .int .i64 y] 33)).drew.cell? ⟨W.heap.size, 3, none⟩ = some (.int .i64 ty) := HX4.out.cell 3
      have HPF2 := Lib.hid (HPF.out p w1.heap.size _ HM4.out.pool.choose_spec.1.is)
      generalize (w3.alloc (.cells #[.int .i64 k, .int .i64 a, .int .i64 x, .int .i64 y] 33)).drew = w4 at *
      rcases hfind with hf | hf
      · rw [if_pos hf, decide_eq_true hf] at HPF2
        have HNU := Lib.hid (show numT l ⟨tk, ta, tx, ty⟩ = l.idxOf (⟨tk, ta, tx, ty⟩ : Tm) from if_pos hf)
        clear hf
        generalize l.idxOf (⟨tk, ta, tx, ty⟩ : Tm) = NN at *
        go_wp2_with fail
        refine HPF2.out.mono ?_
        rintro e w5 ⟨rfl, b5⟩
        have HM5 := Lib.hid (HM4.out.below b5)
        have HX5 := Lib.hid (HX4.out.keep (b5.block _ HX4.out.lt))
        clear c0 c1 c2 c3
        have c0 : w5.cell? ⟨W.heap.size, 0, none⟩ = some (.int .i64 tk) := HX5.out.cell 0
        have c1 : w5.cell? ⟨W.heap.size, 1, none⟩ = some (.int .i64 ta) := HX5.out.cell 1
        have c2 : w5.cell? ⟨W.heap.size, 2, none⟩ = some (.int .i64 tx) := HX5.out.cell 2
        have c3 : w5.cell? ⟨W.heap.size, 3, none⟩ = some (.int .i64 ty) := HX5.out.cell 3
        go_wp2_with fail
        refine (HFI.out w1.heap.size _ w5 HM5.out.list (by omega)).mono ?_
        rintro e w6 ⟨rfl, b6⟩
        rw [HNU.out]
        go_wp2_with fail
        go_ret
        exact ⟨ret_bool (by simp), HB1.out.trans ((HM5.out.bel.trans (b6.mono HM5.out.bel.size)).mono HB1.out.size)⟩
      · rw [if_neg hf, decide_eq_false hf] at HPF2
        have HNU := Lib.hid (show numT l ⟨tk, ta, tx, ty⟩ = -1 from if_neg hf)
        clear hf
        go_wp2_with fail
        refine HPF2.out.mono ?_
        rintro e w5 ⟨rfl, b5⟩
        have HM5 := Lib.hid (HM4.out.below b5)
        have HX5 := Lib.hid (HX4.out.keep (b5.block _ HX4.out.lt))
        clear c0 c1 c2 c3
        have c0 : w5.cell? ⟨W.heap.size, 0, none⟩ = some (.int .i64 tk) := HX5.out.cell 0
        have c1 : w5.cell? ⟨W.heap.size, 1, none⟩ = some (.int .i64 ta) := HX5.out.cell 1
        have c2 : w5.cell? ⟨W.heap.size, 2, none⟩ = some (.int .i64 tx) := HX5.out.cell 2
        have c3 : w5.cell? ⟨W.heap.size, 3, none⟩ = some (.int .i64 ty) := HX5.out.cell 3
        go_wp2_with fail
        refine (HFI.out w1.heap.size _ w5 HM5.out.list (by omega)).mono ?_
        rintro e w6 ⟨rfl, b6⟩
        rw [HNU.out]
        go_wp2_with fail
        go_ret
        exact ⟨ret_bool (by simp), HB1.out.trans ((HM5.out.bel.trans (b6.mono HM5.out.bel.size)).mono HB1.out.size)⟩
    · have hth : thereT l.length n = false := by
        rcases Decidable.em (0 ≤ n) with h | h
        · simp [thereT]; omega
        · simp [thereT]; omega
      have hor : n < 0 ∨ (0 ≤ n ∧ (l.length : Int) ≤ n) := by omega
      have HG := Lib.hid (get_no p n l w1.heap.size w2 HM2.out.pool.choose_spec.1.is hth)
      unfold tval at HG
      clear hth
      rcases hor with hor | hor
      · have hn0 : ¬ (0 ≤ n) := by omega
        clear h0
        go_wp2_with fail
        refine HG.out.mono ?_
        rintro e w3 ⟨rfl, b3⟩
        have HM3 := Lib.hid (HM2.out.below b3)
        have HX3 := Lib.hid ((HX1.out.keep (HM2.out.bel.block _ HX1.out.lt)).keep (b3.block _ (Nat.lt_of_lt_of_le HX1.out.lt HM2.out.bel.size)))
        clear b3
        go_wp2_with fail
        have HA1 := Lib.hid ((Below.refl w3.heap.size w3).alloc (Nat.le_refl _) (.cells #[.int .i64 0, .int .i64 0, .int .i64 0, .int .i64 0] 33))
        have HX9 := Lib.hid (Blk.new w3 33 #[.int .i64 0, .int .i64 0, .int .i64 0, .int .i64 0])
        have n0 := HX9.out.cell 0
        have n1 := HX9.out.cell 1
        have n2 := HX9.out.cell 2
        have n3 := HX9.out.cell 3
        simp only [List.getElem?_toArray, List.getElem?_cons_zero, List.getElem?_cons_succ] at n0 n1 n2 n3
        have HS := Lib.hid (And.intro n0 (And.intro n1 (And.intro n2 n3)))
        clear n0 n1 n2 n3
        have hd0 : decide (0 ≤ n) = false := by simp; omega
        have hd1 : ¬ (0 ≤ n) := by omega
        refine region_fast [(0, true), (1, true), (2, true), (3, true), (4, true), (5, true), (6, true), (7, true), (8, true), (9, true), (10, true), (11, true), (12, true), (13, true), (14, true), (15, true), (16, true), (17, true), (18, true), (19, true), (20, true), (21, true), (22, true), (23, true), (24, true), (25, true), (26, true), (27, true), (28, true), (29, true)] [1, 2, 3, 4, 5, 6, 7, 8, 14, 15, 16, 17, 26] 67355134 [(4398046511104, 1024, 0, 0), (8796093022208, 2, 0, 0), (17592186044416, 8796093022208, 2, 2), (35184372088832, 17592186044416, 4, 6), (70368744177664, 35184372088834, 8, 14), (140737488355328, 35184372089088, 8, 14), (281474976710656, 175921860444160, 40, 46), (562949953421312, 387028092977152, 88, 126), (1125899906842624, 598134325510144, 136, 254), (2251799813685248, 1130297953353728, 257, 511), (4503599627370496, 2251799813685248, 520, 1023), (9007199254740992, 4503599627371520, 1024, 2047), (18014398509481984, 13510798882111488, 3072, 4095), (36028797018963968, 18014398509482496, 4096, 8191), (72057594037927936, 18014398509482240, 4096, 8191), (144115188075855872, 18014398509481986, 4096, 8191), (288230376151711744, 234187180623265792, 53248, 57343), (576460752303423488, 306244774661193728, 69632, 122879), (1152921504606846976, 630503947831869440, 143360, 262143), (2305843009213693952, 1175439502743699456, 267264, 524287), (4611686018427387904, 2310346608841064448, 525312, 1048575), (9223372036854775808, 4611686018427387904, 1052672, 2097151), (18446744073709551616, 9223372036854776832, 2097152, 4194303), (36893488147419103232, 27670116110564327424, 6291456, 8388607), (73786976294838206464, 46116860184273879040, 10485760, 16777215), (147573952589676412928, 73786976294838206976, 16777216, 33554431), (295147905179352825856, 73786976294838206464, 16777216, 33554431), (590295810358705651712, 516508834063867445248, 117440512, 134217727), (1180591620717411303424, 673306158690398633984, 153092096, 268435455), (2361183241434822606848, 1189814992754266079232, 270532608, 536870911)] (fun W' => W'.cell? ⟨w3.heap.size, 0, none⟩ = some (.int .i64 0) ∧ W'.cell? ⟨w3.heap.size, 1, none⟩ = some (.int .i64 0) ∧ W'.cell? ⟨w3.heap.size, 2, none⟩ = some (.int .i64 0) ∧ W'.cell? ⟨w3.heap.size, 3, none⟩ = some (.int .i64 0)) (by kernel_rfl) (by kernel_rfl) (by kernel_rfl) rfl (by kernel_rfl) (by kernel_rfl) HS.out (fun hS => ?_)
        repeat (first
          | (refine plan_read (v := ?_) rfl (fun _ _ _ h => h) rfl hS ?_ ?_; rotate_left 1; (focus (intro w' hS'; obtain ⟨s5, s6, s7, s8⟩ := hS'; go_simp; try rfl)); (simp only [Act.put, List.setIfInBounds_toArray]; dsimp only [List.set_cons_zero, List.set_cons_succ]))
          | (refine plan_skip rfl (fun _ _ _ h => h) rfl hS ?_; (simp only [Act.put, List.setIfInBounds_toArray]; dsimp only [List.set_cons_zero, List.set_cons_succ])))
        refine plan_nil ?_
        clear hS
        have HM4 := Lib.hid ((HM3.out.below HA1.out).below (Below.refl _ _).drew)
        have HX4 := Lib.hid (HX3.out.below HA1.out HX3.out.lt).drew
        have c0 : (w3.alloc (.cells #[.int .i64 0, .int .i64 0, .int .i64 0, .int .i64 0] 33)).drew.cell? ⟨W.heap.size, 0, none⟩ = some (.int .i64 tk) := HX4.out.cell 0
        have c1 : (w3.alloc (.cells #[.int .i64 0, .int .i64 0, .int .i64 0, .int .i64 0] 33)).drew.cell? ⟨W.heap.size, 1, none⟩ = some (.int .i64 ta) := HX4.out.cell 1
        have c2 : (w3.alloc (.cells #[.int .i64 0, .int .i64 0, .int .i64 0, .int .i64 0] 33)).drew.cell? ⟨W.heap.size, 2, none⟩ = some (.int .i64 tx) := HX4.out.cell 2
        have c3 : (w3.alloc (.cells #[.int .i64 0, .int .i64 0, .int .i64 0, .int .i64 0] 33)).drew.cell? ⟨W.heap.size, 3, none⟩ = some (.int .i64 ty) := HX4.out.cell 3
        have HPF2 := Lib.hid (HPF.out p w1.heap.size _ HM4.out.pool.choose_spec.1.is)
        generalize (w3.alloc (.cells #[.int .i64 0, .int .i64 0, .int .i64 0, .int .i64 0] 33)).drew = w4 at *
        rcases hfind with hf | hf
        · rw [if_pos hf, decide_eq_true hf] at HPF2
          have HNU := Lib.hid (show numT l ⟨tk, ta, tx, ty⟩ = l.idxOf (⟨tk, ta, tx, ty⟩ : Tm) from if_pos hf)
          clear hf
          generalize l.idxOf (⟨tk, ta, tx, ty⟩ : Tm) = NN at *
          go_wp2_with fail
          refine HPF2.out.mono ?_
          rintro e w5 ⟨rfl, b5⟩
          have HM5 := Lib.hid (HM4.out.below b5)
          have HX5 := Lib.hid (HX4.out.keep (b5.block _ HX4.out.lt))
          clear c0 c1 c2 c3
          have c0 : w5.cell? ⟨W.heap.size, 0, none⟩ = some (.int .i64 tk) := HX5.out.cell 0
          have c1 : w5.cell? ⟨W.heap.size, 1, none⟩ = some (.int .i64 ta) := HX5.out.cell 1
          have c2 : w5.cell? ⟨W.heap.size, 2, none⟩ = some (.int .i64 tx) := HX5.out.cell 2
          have c3 : w5.cell? ⟨W.heap.size, 3, none⟩ = some (.int .i64 ty) := HX5.out.cell 3
          go_wp2_with fail
          refine (HFI.out w1.heap.size _ w5 HM5.out.list (by omega)).mono ?_
          rintro e w6 ⟨rfl, b6⟩
          rw [HNU.out]
          go_wp2_with fail
          go_ret
          exact ⟨ret_bool (by simp), HB1.out.trans ((HM5.out.bel.trans (b6.mono HM5.out.bel.size)).mono HB1.out.size)⟩
        · rw [if_neg hf, decide_eq_false hf] at HPF2
          have HNU := Lib.hid (show numT l ⟨tk, ta, tx, ty⟩ = -1 from if_neg hf)
          clear hf
          go_wp2_with fail
          refine HPF2.out.mono ?_
          rintro e w5 ⟨rfl, b5⟩
          have HM5 := Lib.hid (HM4.out.below b5)
          have HX5 := Lib.hid (HX4.out.keep (b5.block _ HX4.out.lt))
          clear c0 c1 c2 c3
          have c0 : w5.cell? ⟨W.heap.size, 0, none⟩ = some (.int .i64 tk) := HX5.out.cell 0
          have c1 : w5.cell? ⟨W.heap.size, 1, none⟩ = some (.int .i64 ta) := HX5.out.cell 1
          have c2 : w5.cell? ⟨W.heap.size, 2, none⟩ = some (.int .i64 tx) := HX5.out.cell 2
          have c3 : w5.cell? ⟨W.heap.size, 3, none⟩ = some (.int .i64 ty) := HX5.out.cell 3
          go_wp2_with fail
          refine (HFI.out w1.heap.size _ w5 HM5.out.list (by omega)).mono ?_
          rintro e w6 ⟨rfl, b6⟩
          rw [HNU.out]
          go_wp2_with fail
          go_ret
          exact ⟨ret_bool (by simp), HB1.out.trans ((HM5.out.bel.trans (b6.mono HM5.out.bel.size)).mono HB1.out.size)⟩
      · have hn0 := hor.1
        have hn1 : ¬ (n < (l.length : Int)) := by omega
        clear h0 hor
        go_wp2_with fail
        refine HG.out.mono ?_
        rintro e w3 ⟨rfl, b3⟩
        have HM3 := Lib.hid (HM2.out.below b3)
        have HX3 := Lib.hid ((HX1.out.keep (HM2.out.bel.block _ HX1.out.lt)).keep (b3.block _ (Nat.lt_of_lt_of_le HX1.out.lt HM2.out.bel.size)))
        clear b3
        go_wp2_with fail
        have HA1 := Lib.hid ((Below.refl w3.heap.size w3).alloc (Nat.le_refl _) (.cells #[.int .i64 0, .int .i64 0, .int .i64 0, .int .i64 0] 33))
        have HX9 := Lib.hid (Blk.new w3 33 #[.int .i64 0, .int .i64 0, .int .i64 0, .int .i64 0])
        have n0 := HX9.out.cell 0
        have n1 := HX9.out.cell 1
        have n2 := HX9.out.cell 2
        have n3 := HX9.out.cell 3
        simp only [List.getElem?_toArray, List.getElem?_cons_zero, List.getElem?_cons_succ] at n0 n1 n2 n3
        have HS := Lib.hid (And.intro n0 (And.intro n1 (And.intro n2 n3)))
        clear n0 n1 n2 n3
        have hd0 : decide (0 ≤ n) = true := decide_eq_true (by omega)
        have hd1 : decide (n < (l.length : Int)) = false := decide_eq_false (by omega)
        have hd2 : ¬ (n < (l.length : Int)) := by omega
        refine region_fast [(0, true), (1, true), (2, true), (3, true), (4, true), (5, true), (6, true), (7, true), (8, true), (9, true), (10, true), (11, true), (12, true), (13, true), (14, true), (15, true), (16, true), (17, true), (18, true), (19, true), (20, true), (21, true), (22, true), (23, true), (24, true), (25, true), (26, true), (27, true), (28, true), (29, true)] [1, 2, 3, 4, 5, 6, 7, 8, 14, 15, 16, 17, 26] 67355134 [(4398046511104, 1024, 0, 0), (8796093022208, 2, 0, 0), (17592186044416, 8796093022208, 2, 2), (35184372088832, 17592186044416, 4, 6), (70368744177664, 35184372088834, 8, 14), (140737488355328, 35184372089088, 8, 14), (281474976710656, 175921860444160, 40, 46), (562949953421312, 387028092977152, 88, 126), (1125899906842624, 598134325510144, 136, 254), (2251799813685248, 1130297953353728, 257, 511), (4503599627370496, 2251799813685248, 520, 1023), (9007199254740992, 4503599627371520, 1024, 2047), (18014398509481984, 13510798882111488, 3072, 4095), (36028797018963968, 18014398509482496, 4096, 8191), (72057594037927936, 18014398509482240, 4096, 8191), (144115188075855872, 18014398509481986, 4096, 8191), (288230376151711744, 234187180623265792, 53248, 57343), (576460752303423488, 306244774661193728, 69632, 122879), (1152921504606846976, 630503947831869440, 143360, 262143), (2305843009213693952, 1175439502743699456, 267264, 524287), (4611686018427387904, 2310346608841064448, 525312, 1048575), (9223372036854775808, 4611686018427387904, 1052672, 2097151), (18446744073709551616, 9223372036854776832, 2097152, 4194303), (36893488147419103232, 27670116110564327424, 6291456, 8388607), (73786976294838206464, 46116860184273879040, 10485760, 16777215), (147573952589676412928, 73786976294838206976, 16777216, 33554431), (295147905179352825856, 73786976294838206464, 16777216, 33554431), (590295810358705651712, 516508834063867445248, 117440512, 134217727), (1180591620717411303424, 673306158690398633984, 153092096, 268435455), (2361183241434822606848, 1189814992754266079232, 270532608, 536870911)] (fun W' => W'.cell? ⟨w3.heap.size, 0, none⟩ = some (.int .i64 0) ∧ W'.cell? ⟨w3.heap.size, 1, none⟩ = some (.int .i64 0) ∧ W'.cell? ⟨w3.heap.size, 2, none⟩ = some (.int .i64 0) ∧ W'.cell? ⟨w3.heap.size, 3, none⟩ = some (.int .i64 0)) (by kernel_rfl) (by kernel_rfl) (by kernel_rfl) rfl (by kernel_rfl) (by kernel_rfl) HS.out (fun hS => ?_)
        repeat (first
          | (refine plan_read (v := ?_) rfl (fun _ _ _ h => h) rfl hS ?_ ?_; rotate_left 1; (focus (intro w' hS'; obtain ⟨s5, s6, s7, s8⟩ := hS'; go_simp; try rfl)); (simp only [Act.put, List.setIfInBounds_toArray]; dsimp only [List.set_cons_zero, List.set_cons_succ]))
          | (refine plan_skip rfl (fun _ _ _ h => h) rfl hS ?_; (simp only [Act.put, List.setIfInBounds_toArray]; dsimp only [List.set_cons_zero, List.set_cons_succ])))
        refine plan_nil ?_
        clear hS
        have HM4 := Lib.hid ((HM3.out.below HA1.out).below (Below.refl _ _).drew)
        have HX4 := Lib.hid (HX3.out.below HA1.out HX3.out.lt).drew
        have c0 : (w3.alloc (.cells #[.int .i64 0, .int .i64 0, .int .i64 0, .int .i64 0] 33)).drew.cell? ⟨W.heap.size, 0, none⟩ = some (.int .i64 tk) := HX4.out.cell 0
        have c1 : (w3.alloc (.cells #[.int .i64 0, .int .i64 0, .int .i64 0, .int .i64 0] 33)).drew.cell? ⟨W.heap.size, 1, none⟩ = some (.int .i64 ta) := HX4.out.cell 1
        have c2 : (w3.alloc (.cells #[.int .i64 0, .int .i64 0, .int .i64 0, .int .i64 0] 33)).drew.cell? ⟨W.heap.size, 2, none⟩ = some (.int .i64 tx) := HX4.out.cell 2
        have c3 : (w3.alloc (.cells #[.int .i64 0, .int .i64 0, .int .i64 0, .int .i64 0] 33)).drew.cell? ⟨W.heap.size, 3, none⟩ = some (.int .i64 ty) := HX4.out.cell 3
        have HPF2 := Lib.hid (HPF.out p w1.heap.size _ HM4.out.pool.choose_spec.1.is)
        generalize (w3.alloc (.cells #[.int .i64 0, .int .i64 0, .int .i64 0, .int .i64 0] 33)).drew = w4 at *
        rcases hfind with hf | hf
        · rw [if_pos hf, decide_eq_true hf] at HPF2
          have HNU := Lib.hid (show numT l ⟨tk, ta, tx, ty⟩ = l.idxOf (⟨tk, ta, tx, ty⟩ : Tm) from if_pos hf)
          clear hf
          generalize l.idxOf (⟨tk, ta, tx, ty⟩ : Tm) = NN at *
          go_wp2_with fail
          refine HPF2.out.mono ?_
          rintro e w5 ⟨rfl, b5⟩
          have HM5 := Lib.hid (HM4.out.below b5)
          have HX5 := Lib.hid (HX4.out.keep (b5.block _ HX4.out.lt))
          clear c0 c1 c2 c3
          have c0 : w5.cell? ⟨W.heap.size, 0, none⟩ = some (.int .i64 tk) := HX5.out.cell 0
          have c1 : w5.cell? ⟨W.heap.size, 1, none⟩ = some (.int .i64 ta) := HX5.out.cell 1
          have c2 : w5.cell? ⟨W.heap.size, 2, none⟩ = some (.int .i64 tx) := HX5.out.cell 2
          have c3 : w5.cell? ⟨W.heap.size, 3, none⟩ = some (.int .i64 ty) := HX5.out.cell 3
          go_wp2_with fail
          refine (HFI.out w1.heap.size _ w5 HM5.out.list (by omega)).mono ?_
          rintro e w6 ⟨rfl, b6⟩
          rw [HNU.out]
          go_wp2_with fail
          go_ret
          exact ⟨ret_bool (by simp), HB1.out.trans ((HM5.out.bel.trans (b6.mono HM5.out.bel.size)).mono HB1.out.size)⟩
        · rw [if_neg hf, decide_eq_false hf] at HPF2
          have HNU := Lib.hid (show numT l ⟨tk, ta, tx, ty⟩ = -1 from if_neg hf)
          clear hf
          go_wp2_with fail
          refine HPF2.out.mono ?_
          rintro e w5 ⟨rfl, b5⟩
          have HM5 := Lib.hid (HM4.out.below b5)
          have HX5 := Lib.hid (HX4.out.keep (b5.block _ HX4.out.lt))
          clear c0 c1 c2 c3
          have c0 : w5.cell? ⟨W.heap.size, 0, none⟩ = some (.int .i64 tk) := HX5.out.cell 0
          have c1 : w5.cell? ⟨W.heap.size, 1, none⟩ = some (.int .i64 ta) := HX5.out.cell 1
          have c2 : w5.cell? ⟨W.heap.size, 2, none⟩ = some (.int .i64 tx) := HX5.out.cell 2
          have c3 : w5.cell? ⟨W.heap.size, 3, none⟩ = some (.int .i64 ty) := HX5.out.cell 3
          go_wp2_with fail
          refine (HFI.out w1.heap.size _ w5 HM5.out.list (by omega)).mono ?_
          rintro e w6 ⟨rfl, b6⟩
          rw [HNU.out]
          go_wp2_with fail
          go_ret
          exact ⟨ret_bool (by simp), HB1.out.trans ((HM5.out.bel.trans (b6.mono HM5.out.bel.size)).mono HB1.out.size)⟩
end Go.Proofs.YtcnhgojjhmjjdaaDoor
