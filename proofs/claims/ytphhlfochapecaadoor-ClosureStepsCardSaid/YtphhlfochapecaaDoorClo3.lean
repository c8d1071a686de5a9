/-
  A term made of known ones.
-/
import Derived.Test.YtphhlfochapecaaDoorClo2
namespace Go.Proofs.YtphhlfochapecaaDoor
set_option maxRecDepth 4000
open Go.RowKit

set_option maxHeartbeats 1000000 in
theorem together_any (b p n : Nat) (l : List Tm) (s : Sr) (kb kc : Nat) (base pb : Nat) (w : World) (hS : SearchIs w base b p s kb kc) (hP : PoolIs w pb p l) (hp : Pool l) (hl : s.kn.length = l.length) (hn : n < l.length) (hst : s.st.length + 2 ≤ 10000) (hll : l.length ≤ 10000) :
    Calls Tryd.prog 34 #[.pointer (some ⟨b, 0, none⟩), .int .i64 n] w fun e w' => e = .returned (.tuple #[]) ∧ SearchIs w' base b p (togS l s n) kb kc ∧ Below base w w' := by
  have hx : l[n]? = some (l[n]'hn) := List.getElem?_eq_getElem hn
  generalize l[n] = t at hx
  have hr := hp.right n t hx
  have HG := Lib.hid (get_ok p n t l pb w hP hx)
  have hst0 := fun w1 hb => GotAt.start (t := t) hS (w1 := w1) hb
  have c0 : w.cell? ⟨b, 0, none⟩ = some (.pointer (some ⟨p, 0, none⟩)) := by obtain ⟨_, _, h⟩ := hS; exact h.cell0
  have HST := Lib.hid hst0; clear hst0 hP
  have hsz : base ≤ w.heap.size := by obtain ⟨_, _, h⟩ := hS; exact h.size
  have hnk : n < s.kn.length := by omega
  have hkl : s.kn.length ≤ 10000 := by omega
  clear hS
  by_cases k3 : t.k = 3
  · have hxx := okT_x hr (by omega)
    obtain ⟨X, hX⟩ : ∃ X : Nat, t.x = X := ⟨t.x.toNat, by omega⟩
    have hap : togS l s n = if at_ s.kn X = true then learnS s n 4 0 else s := by
      unfold togS; rw [hx]; simp only
      simp [k3, hX]
    obtain ⟨K, hK⟩ : ∃ K, at_ s.kn X = K := ⟨_, rfl⟩
    rw [hK] at hap
    have HE := Lib.hid hap; clear hap
    obtain ⟨k, a, x, y⟩ := t
    unfold tval at HG
    simp only at k3 hX hxx HST
    subst k3
    subst hX
    have g1 : X < s.kn.length := by omega
    have g1i : (X : Int) < (s.kn.length : Int) := by omega
    clear hx hr hl hxx
    cases K with
    | true =>
      rw [if_pos rfl] at HE
      go_enter Tryd.func34, Tryd.ntmps34
      go_wp2_with fail
      refine HG.out.mono ?_
      rintro e w1 ⟨rfl, b1⟩
      have H1 := Lib.hid (HST.out w1 b1)
      clear b1 c0
      go_wp2_with fail
      have e3 := (H1.out.drew).box.cell 0
      obtain ⟨sA1, sc1, hpa, _⟩ := (H1.out.drew).srch
      have e1 := hpa.cell1
      have e2 := hpa.mark (n := X) g1
      rw [hK] at e2
      have e4 := (H1.out.drew).box.cell 2
      simp only [List.getElem?_toArray, List.getElem?_cons_zero, List.getElem?_cons_succ] at e3 e4
      have HS1 := Lib.hid (And.intro e1 (And.intro e2 (And.intro e3 (e4))))
      clear e1 e2 e3 e4 hpa
      refine region_fast [(0, true), (1, true), (2, true), (3, true), (4, true), (5, true), (6, true), (7, true), (8, true), (9, true), (10, true), (11, true), (12, true), (13, true)] [8, 9] 768 [(65536, 16, 0, 0), (131072, 65536, 1, 1), (262144, 131072, 2, 3), (524288, 262144, 4, 7), (1048576, 524289, 8, 15), (2097152, 1572864, 24, 31), (4194304, 2621440, 40, 63), (8388608, 4718592, 72, 127), (16777216, 524304, 8, 15), (33554432, 17301504, 264, 271), (67108864, 42467328, 648, 1023), (134217728, 67633152, 1032, 2047), (268435456, 134742016, 2056, 4095), (32768, 268435456, 4104, 8191)] (fun W => W.cell? ⟨b, 1, none⟩ = some (.slice (some ⟨kb, 0, none⟩) s.kn.length kc) ∧ W.cell? ⟨kb, X, none⟩ = some (.bool true) ∧ W.cell? ⟨w1.heap.size, 0, none⟩ = some (.int .i64 3) ∧ W.cell? ⟨w1.heap.size, 2, none⟩ = some (.int .i64 (X : Int))) (by kernel_rfl) (by kernel_rfl) (by kernel_rfl) rfl (by kernel_rfl) (by kernel_rfl) HS1.out (fun hS => ?_)
      repeat (first
        | (refine plan_read (v := ?_) rfl (fun _ _ _ h => h) rfl hS ?_ ?_; rotate_left 1; (focus (intro w' hS'; obtain ⟨s1, s2, s3, s4⟩ := hS'; go_simp; try rfl)); (simp only [Act.put, List.setIfInBounds_toArray]; dsimp only [List.set_cons_zero, List.set_cons_succ]))
        | (refine plan_skip rfl (fun _ _ _ h => h) rfl hS ?_; (simp only [Act.put, List.setIfInBounds_toArray]; dsimp only [List.set_cons_zero, List.set_cons_succ])))
      refine plan_nil ?_
      clear hS HS1
      go_wp2_with fail
      refine (learn_in b p n 4 0 s kb kc base _ _ (H1.out.drew).srch hnk (by omega) hkl).mono ?_
      rintro e w3 ⟨rfl, h1, h2⟩
      have H3 := Lib.hid ((H1.out.drew).learnt h1 h2); clear h1 h2
      go_wp2_with fail
      refine bodyPost_end (results_none rfl _ _ _) rfl ?_
      refine ⟨rfl, ?_, H3.out.bel⟩
      rw [HE.out]
      exact H3.out.srch.is
    | false =>
      rw [if_neg (by simp)] at HE
      go_enter Tryd.func34, Tryd.ntmps34
      go_wp2_with fail
      refine HG.out.mono ?_
      rintro e w1 ⟨rfl, b1⟩
      have H1 := Lib.hid (HST.out w1 b1)
      clear b1 c0
      go_wp2_with fail
      have e3 := (H1.out.drew).box.cell 0
      obtain ⟨sA1, sc1, hpa, _⟩ := (H1.out.drew).srch
      have e1 := hpa.cell1
      have e2 := hpa.mark (n := X) g1
      rw [hK] at e2
      have e4 := (H1.out.drew).box.cell 2
      simp only [List.getElem?_toArray, List.getElem?_cons_zero, List.getElem?_cons_succ] at e3 e4
      have HS1 := Lib.hid (And.intro e1 (And.intro e2 (And.intro e3 (e4))))
      clear e1 e2 e3 e4 hpa
      refine region_fast [(0, true), (1, true), (2, true), (3, true), (4, true), (5, true), (6, true), (7, true), (8, true), (9, true), (10, true), (11, true), (12, true), (13, true)] [8, 9] 768 [(65536, 16, 0, 0), (131072, 65536, 1, 1), (262144, 131072, 2, 3), (524288, 262144, 4, 7), (1048576, 524289, 8, 15), (2097152, 1572864, 24, 31), (4194304, 2621440, 40, 63), (8388608, 4718592, 72, 127), (16777216, 524304, 8, 15), (33554432, 17301504, 264, 271), (67108864, 42467328, 648, 1023), (134217728, 67633152, 1032, 2047), (268435456, 134742016, 2056, 4095), (32768, 268435456, 4104, 8191)] (fun W => W.cell? ⟨b, 1, none⟩ = some (.slice (some ⟨kb, 0, none⟩) s.kn.length kc) ∧ W.cell? ⟨kb, X, none⟩ = some (.bool false) ∧ W.cell? ⟨w1.heap.size, 0, none⟩ = some (.int .i64 3) ∧ W.cell? ⟨w1.heap.size, 2, none⟩ = some (.int .i64 (X : Int))) (by kernel_rfl) (by kernel_rfl) (by kernel_rfl) rfl (by kernel_rfl) (by kernel_rfl) HS1.out (fun hS => ?_)
      repeat (first
        | (refine plan_read (v := ?_) rfl (fun _ _ _ h => h) rfl hS ?_ ?_; rotate_left 1; (focus (intro w' hS'; obtain ⟨s1, s2, s3, s4⟩ := hS'; go_simp; try rfl)); (simp only [Act.put, List.setIfInBounds_toArray]; dsimp only [List.set_cons_zero, List.set_cons_succ]))
        | (refine plan_skip rfl (fun _ _ _ h => h) rfl hS ?_; (simp only [Act.put, List.setIfInBounds_toArray]; dsimp only [List.set_cons_zero, List.set_cons_succ])))
      refine plan_nil ?_
      clear hS HS1
      go_wp2_with fail
      have e3 := (H1.out.drew.drew).box.cell 0
      simp only [List.getElem?_toArray, List.getElem?_cons_zero, List.getElem?_cons_succ] at e3
      have HS3 := Lib.hid (e3)
      clear e3
      refine region_fast [(0, true), (1, true), (2, true), (3, true), (4, true), (5, true), (6, true), (7, true), (8, true), (9, true), (10, true), (11, true), (12, true), (13, true), (14, true), (15, true), (16, true), (17, true), (18, true), (19, true), (20, true), (21, true), (22, true), (23, true)] [8, 9, 18, 19] 787200 [(8589934592, 16, 0, 0), (17179869184, 8589934592, 1, 1), (34359738368, 17179869184, 2, 3), (68719476736, 34359738368, 4, 7), (137438953472, 68719476737, 8, 15), (274877906944, 206158430208, 24, 31), (549755813888, 343597383680, 40, 63), (1099511627776, 618475290624, 72, 127), (2199023255552, 68719476752, 8, 15), (4398046511104, 2267742732288, 264, 271), (8796093022208, 5566277615616, 648, 1023), (17592186044416, 8864812498944, 1032, 2047), (35184372088832, 17660905521152, 2056, 4095), (70368744177664, 35184372088832, 4104, 8191), (140737488355328, 70368744177665, 8192, 16383), (281474976710656, 211106232532992, 24576, 32767), (562949953421312, 351843720888320, 40960, 65535), (1125899906842624, 633318697598976, 73728, 131071), (2251799813685248, 70368744177680, 8192, 16383), (4503599627370496, 2322168557862912, 270336, 278527), (9007199254740992, 5699868278390784, 663552, 1048575), (18014398509481984, 9077567998918656, 1056768, 2097151), (36028797018963968, 18084767253659648, 2105344, 4194303), (4294967296, 36028797018963968, 4202496, 8388607)] (fun W => W.cell? ⟨w1.heap.size, 0, none⟩ = some (.int .i64 3)) (by kernel_rfl) (by kernel_rfl) (by kernel_rfl) rfl (by kernel_rfl) (by kernel_rfl) HS3.out (fun hS => ?_)
      repeat (first
        | (refine plan_read (v := ?_) rfl (fun _ _ _ h => h) rfl hS ?_ ?_; rotate_left 1; (focus (intro w' hS'; have s3 := hS'; go_simp; try rfl)); (simp only [Act.put, List.setIfInBounds_toArray]; dsimp only [List.set_cons_zero, List.set_cons_succ]))
        | (refine plan_skip rfl (fun _ _ _ h => h) rfl hS ?_; (simp only [Act.put, List.setIfInBounds_toArray]; dsimp only [List.set_cons_zero, List.set_cons_succ])))
      refine plan_nil ?_
      clear hS HS3
      go_wp2_with fail
      have e3 := (H1.out.drew.drew.drew).box.cell 0
      simp only [List.getElem?_toArray, List.getElem?_cons_zero, List.getElem?_cons_succ] at e3
      have HS5 := Lib.hid (e3)
      clear e3
      refine region_fast [(0, true), (1, true), (2, true), (3, true), (4, true), (5, true), (6, true), (7, true), (8, true), (9, true), (10, true), (11, true), (12, true), (13, true), (14, true), (15, true), (16, true), (17, true), (18, true), (19, true), (20, true), (21, true), (22, true), (23, true)] [8, 9, 18, 19] 787200 [(1152921504606846976, 16, 0, 0), (2305843009213693952, 1152921504606846976, 1, 1), (4611686018427387904, 2305843009213693952, 2, 3), (9223372036854775808, 4611686018427387904, 4, 7), (18446744073709551616, 9223372036854775809, 8, 15), (36893488147419103232, 27670116110564327424, 24, 31), (73786976294838206464, 46116860184273879040, 40, 63), (147573952589676412928, 83010348331692982272, 72, 127), (295147905179352825856, 9223372036854775824, 8, 15), (590295810358705651712, 304371277216207601664, 264, 271), (1180591620717411303424, 747093134985236840448, 648, 1023), (2361183241434822606848, 1189814992754266079232, 1032, 2047), (4722366482869645213696, 2370406613471677382656, 2056, 4095), (9444732965739290427392, 4722366482869645213696, 4104, 8191), (18889465931478580854784, 9444732965739290427393, 8192, 16383), (37778931862957161709568, 28334198897217871282176, 24576, 32767), (75557863725914323419136, 47223664828696452136960, 40960, 65535), (151115727451828646838272, 85002596691653613846528, 73728, 131071), (302231454903657293676544, 9444732965739290427408, 8192, 16383), (604462909807314587353088, 311676187869396584103936, 270336, 278527), (1208925819614629174706176, 765023370224882524618752, 663552, 1048575), (2417851639229258349412352, 1218370552580368465133568, 1056768, 2097151), (4835703278458516698824704, 2427296372194997639839744, 2105344, 4194303), (576460752303423488, 4835703278458516698824704, 4202496, 8388607)] (fun W => W.cell? ⟨w1.heap.size, 0, none⟩ = some (.int .i64 3)) (by kernel_rfl) (by kernel_rfl) (by kernel_rfl) rfl (by kernel_rfl) (by kernel_rfl) HS5.out (fun hS => ?_)
      repeat (first
        | (refine plan_read (v := ?_) rfl (fun _ _ _ h => h) rfl hS ?_ ?_; rotate_left 1; (focus (intro w' hS'; have s3 := hS'; go_simp; try rfl)); (simp only [Act.put, List.setIfInBounds_toArray]; dsimp only [List.set_cons_zero, List.set_cons_succ]))
        | (refine plan_skip rfl (fun _ _ _ h => h) rfl hS ?_; (simp only [Act.put, List.setIfInBounds_toArray]; dsimp only [List.set_cons_zero, List.set_cons_succ])))
      refine plan_nil ?_
      clear hS HS5
      go_wp2_with fail
      refine bodyPost_end (results_none rfl _ _ _) rfl ?_
      refine ⟨rfl, ?_, (H1.out.drew.drew.drew).bel⟩
      rw [HE.out]
      exact (H1.out.drew.drew.drew).srch.is
  · have k3b : ((t.k : Int) == 3) = false := by simpa using k3
    by_cases k2 : t.k = 2
    · skip
      have hxx := okT_x hr (by omega)
      have hyy := okT_y hr (by omega) (by omega)
      obtain ⟨X, hX⟩ : ∃ X : Nat, t.x = X := ⟨t.x.toNat, by omega⟩
      obtain ⟨Y, hY⟩ : ∃ Y : Nat, t.y = Y := ⟨t.y.toNat, by omega⟩
      have hap : togS l s n = if at_ s.kn X = true ∧ at_ s.kn Y = true then learnS s n 5 0 else s := by
        unfold togS; rw [hx]; simp only
        simp [k2, hX, hY]
      obtain ⟨K, hK⟩ : ∃ K, at_ s.kn X = K := ⟨_, rfl⟩
      obtain ⟨M, hM⟩ : ∃ M, at_ s.kn Y = M := ⟨_, rfl⟩
      rw [hK, hM] at hap
      have HE := Lib.hid hap; clear hap
      clear k3b k3
      obtain ⟨k, a, x, y⟩ := t
      unfold tval at HG
      simp only at k2 hX hY hxx hyy HST
      subst k2
      subst hX
      subst hY
      have g1 : X < s.kn.length := by omega
      have g1i : (X : Int) < (s.kn.length : Int) := by omega
      have g2 : Y < s.kn.length := by omega
      have g2i : (Y : Int) < (s.kn.length : Int) := by omega
      clear hx hr hl hxx hyy
      cases K with
      | true =>
        cases M with
        | true =>
          rw [if_pos ⟨rfl, rfl⟩] at HE
          go_enter Tryd.func34, Tryd.ntmps34
          go_wp2_with fail
          refine HG.out.mono ?_
          rintro e w1 ⟨rfl, b1⟩
          have H1 := Lib.hid (HST.out w1 b1)
          clear b1 c0
          go_wp2_with fail
          have e3 := (H1.out.drew).box.cell 0
          simp only [List.getElem?_toArray, List.getElem?_cons_zero, List.getElem?_cons_succ] at e3
          have HS1 := Lib.hid (e3)
          clear e3
          refine region_fast [(0, true), (1, true), (2, true), (3, true), (4, true), (5, true), (6, true), (7, true), (8, true), (9, true), (10, true), (11, true), (12, true), (13, true)] [8, 9] 768 [(65536, 16, 0, 0), (131072, 65536, 1, 1), (262144, 131072, 2, 3), (524288, 262144, 4, 7), (1048576, 524289, 8, 15), (2097152, 1572864, 24, 31), (4194304, 2621440, 40, 63), (8388608, 4718592, 72, 127), (16777216, 524304, 8, 15), (33554432, 17301504, 264, 271), (67108864, 42467328, 648, 1023), (134217728, 67633152, 1032, 2047), (268435456, 134742016, 2056, 4095), (32768, 268435456, 4104, 8191)] (fun W => W.cell? ⟨w1.heap.size, 0, none⟩ = some (.int .i64 2)) (by kernel_rfl) (by kernel_rfl) (by kernel_rfl) rfl (by kernel_rfl) (by kernel_rfl) HS1.out (fun hS => ?_)
          repeat (first
            | (refine plan_read (v := ?_) rfl (fun _ _ _ h => h) rfl hS ?_ ?_; rotate_left 1; (focus (intro w' hS'; have s3 := hS'; go_simp; try rfl)); (simp only [Act.put, List.setIfInBounds_toArray]; dsimp only [List.set_cons_zero, List.set_cons_succ]))
            | (refine plan_skip rfl (fun _ _ _ h => h) rfl hS ?_; (simp only [Act.put, List.setIfInBounds_toArray]; dsimp only [List.set_cons_zero, List.set_cons_succ])))
          refine plan_nil ?_
          clear hS HS1
          go_wp2_with fail
          have e3 := (H1.out.drew.drew).box.cell 0
          obtain ⟨sA3, sc3, hpa, _⟩ := (H1.out.drew.drew).srch
          have e1 := hpa.cell1
          have e2 := hpa.mark (n := X) g1
          rw [hK] at e2
          have e4 := (H1.out.drew.drew).box.cell 2
          have e5 := hpa.mark (n := Y) g2
          rw [hM] at e5
          have e6 := (H1.out.drew.drew).box.cell 3
          simp only [List.getElem?_toArray, List.getElem?_cons_zero, List.getElem?_cons_succ] at e3 e4 e6
          have HS3 := Lib.hid (And.intro e1 (And.intro e2 (And.intro e3 (And.intro e4 (And.intro e5 (e6))))))
          clear e1 e2 e3 e4 e5 e6 hpa
          refine region_fast [(0, true), (1, true), (2, true), (3, true), (4, true), (5, true), (6, true), (7, true), (8, true), (9, true), (10, true), (11, true), (12, true), (13, true), (14, true), (15, true), (16, true), (17, true), (18, true), (19, true), (20, true), (21, true), (22, true), (23, true)] [8, 9, 18, 19] 787200 [(8589934592, 16, 0, 0), (17179869184, 8589934592, 1, 1), (34359738368, 17179869184, 2, 3), (68719476736, 34359738368, 4, 7), (137438953472, 68719476737, 8, 15), (274877906944, 206158430208, 24, 31), (549755813888, 343597383680, 40, 63), (1099511627776, 618475290624, 72, 127), (2199023255552, 68719476752, 8, 15), (4398046511104, 2267742732288, 264, 271), (8796093022208, 5566277615616, 648, 1023), (17592186044416, 8864812498944, 1032, 2047), (35184372088832, 17660905521152, 2056, 4095), (70368744177664, 35184372088832, 4104, 8191), (140737488355328, 70368744177665, 8192, 16383), (281474976710656, 211106232532992, 24576, 32767), (562949953421312, 351843720888320, 40960, 65535), (1125899906842624, 633318697598976, 73728, 131071), (2251799813685248, 70368744177680, 8192, 16383), (4503599627370496, 2322168557862912, 270336, 278527), (9007199254740992, 5699868278390784, 663552, 1048575), (18014398509481984, 9077567998918656, 1056768, 2097151), (36028797018963968, 18084767253659648, 2105344, 4194303), (4294967296, 36028797018963968, 4202496, 8388607)] (fun W => W.cell? ⟨b, 1, none⟩ = some (.slice (some ⟨kb, 0, none⟩) s.kn.length kc) ∧ W.cell? ⟨kb, X, none⟩ = some (.bool true) ∧ W.cell? ⟨w1.heap.size, 0, none⟩ = some (.int .i64 2) ∧ W.cell? ⟨w1.heap.size, 2, none⟩ = some (.int .i64 (X : Int)) ∧ W.cell? ⟨kb, Y, none⟩ = some (.bool true) ∧ W.cell? ⟨w1.heap.size, 3, none⟩ = some (.int .i64 (Y : Int))) (by kernel_rfl) (by kernel_rfl) (by kernel_rfl) rfl (by kernel_rfl) (by kernel_rfl) HS3.out (fun hS => ?_)
          repeat (first
            | (refine plan_read (v := ?_) rfl (fun _ _ _ h => h) rfl hS ?_ ?_; rotate_left 1; (focus (intro w' hS'; obtain ⟨s1, s2, s3, s4, s5, s6⟩ := hS'; go_simp; try rfl)); (simp only [Act.put, List.setIfInBounds_toArray]; dsimp only [List.set_cons_zero, List.set_cons_succ]))
            | (refine plan_skip rfl (fun _ _ _ h => h) rfl hS ?_; (simp only [Act.put, List.setIfInBounds_toArray]; dsimp only [List.set_cons_zero, List.set_cons_succ])))
          refine plan_nil ?_
          clear hS HS3
          go_wp2_with fail
          refine (learn_in b p n 5 0 s kb kc base _ _ (H1.out.drew.drew).srch hnk (by omega) hkl).mono ?_
          rintro e w3 ⟨rfl, h1, h2⟩
          have H3 := Lib.hid ((H1.out.drew.drew).learnt h1 h2); clear h1 h2
          go_wp2_with fail
          refine bodyPost_end (results_none rfl _ _ _) rfl ?_
          refine ⟨rfl, ?_, H3.out.bel⟩
          rw [HE.out]
          exact H3.out.srch.is
        | false =>
          rw [if_neg (by simp)] at HE
          go_enter Tryd.func34, Tryd.ntmps34
          go_wp2_with fail
          refine HG.out.mono ?_
          rintro e w1 ⟨rfl, b1⟩
          have H1 := Lib.hid (HST.out w1 b1)
          clear b1 c0
          go_wp2_with fail
          have e3 := (H1.out.drew).box.cell 0
          simp only [List.getElem?_toArray, List.getElem?_cons_zero, List.getElem?_cons_succ] at e3
          have HS1 := Lib.hid (e3)
          clear e3
          refine region_fast [(0, true), (1, true), (2, true), (3, true), (4, true), (5, true), (6, true), (7, true), (8, true), (9, true), (10, true), (11, true), (12, true), (13, true)] [8, 9] 768 [(65536, 16, 0, 0), (131072, 65536, 1, 1), (262144, 131072, 2, 3), (524288, 262144, 4, 7), (1048576, 524289, 8, 15), (2097152, 1572864, 24, 31), (4194304, 2621440, 40, 63), (8388608, 4718592, 72, 127), (16777216, 524304, 8, 15), (33554432, 17301504, 264, 271), (67108864, 42467328, 648, 1023), (134217728, 67633152, 1032, 2047), (268435456, 134742016, 2056, 4095), (32768, 268435456, 4104, 8191)] (fun W => W.cell? ⟨w1.heap.size, 0, none⟩ = some (.int .i64 2)) (by kernel_rfl) (by kernel_rfl) (by kernel_rfl) rfl (by kernel_rfl) (by kernel_rfl) HS1.out (fun hS => ?_)
          repeat (first
            | (refine plan_read (v := ?_) rfl (fun _ _ _ h => h) rfl hS ?_ ?_; rotate_left 1; (focus (intro w' hS'; have s3 := hS'; go_simp; try rfl)); (simp only [Act.put, List.setIfInBounds_toArray]; dsimp only [List.set_cons_zero, List.set_cons_succ]))
            | (refine plan_skip rfl (fun _ _ _ h => h) rfl hS ?_; (simp only [Act.put, List.setIfInBounds_toArray]; dsimp only [List.set_cons_zero, List.set_cons_succ])))
          refine plan_nil ?_
          clear hS HS1
          go_wp2_with fail
          have e3 := (H1.out.drew.drew).box.cell 0
          obtain ⟨sA3, sc3, hpa, _⟩ := (H1.out.drew.drew).srch
          have e1 := hpa.cell1
          have e2 := hpa.mark (n := X) g1
          rw [hK] at e2
          have e4 := (H1.out.drew.drew).box.cell 2
          have e5 := hpa.mark (n := Y) g2
          rw [hM] at e5
          have e6 := (H1.out.drew.drew).box.cell 3
          simp only [List.getElem?_toArray, List.getElem?_cons_zero, List.getElem?_cons_succ] at e3 e4 e6
          have HS3 := Lib.hid (And.intro e1 (And.intro e2 (And.intro e3 (And.intro e4 (And.intro e5 (e6))))))
          clear e1 e2 e3 e4 e5 e6 hpa
          refine region_fast [(0, true), (1, true), (2, true), (3, true), (4, true), (5, true), (6, true), (7, true), (8, true), (9, true), (10, true), (11, true), (12, true), (13, true), (14, true), (15, true), (16, true), (17, true), (18, true), (19, true), (20, true), (21, true), (22, true), (23, true)] [8, 9, 18, 19] 787200 [(8589934592, 16, 0, 0), (17179869184, 8589934592, 1, 1), (34359738368, 17179869184, 2, 3), (68719476736, 34359738368, 4, 7), (137438953472, 68719476737, 8, 15), (274877906944, 206158430208, 24, 31), (549755813888, 343597383680, 40, 63), (1099511627776, 618475290624, 72, 127), (2199023255552, 68719476752, 8, 15), (4398046511104, 2267742732288, 264, 271), (8796093022208, 5566277615616, 648, 1023), (17592186044416, 8864812498944, 1032, 2047), (35184372088832, 17660905521152, 2056, 4095), (70368744177664, 35184372088832, 4104, 8191), (140737488355328, 70368744177665, 8192, 16383), (281474976710656, 211106232532992, 24576, 32767), (562949953421312, 351843720888320, 40960, 65535), (1125899906842624, 633318697598976, 73728, 131071), (2251799813685248, 70368744177680, 8192, 16383), (4503599627370496, 2322168557862912, 270336, 278527), (9007199254740992, 5699868278390784, 663552, 1048575), (18014398509481984, 9077567998918656, 1056768, 2097151), (36028797018963968, 18084767253659648, 2105344, 4194303), (4294967296, 36028797018963968, 4202496, 8388607)] (fun W => W.cell? ⟨b, 1, none⟩ = some (.slice (some ⟨kb, 0, none⟩) s.kn.length kc) ∧ W.cell? ⟨kb, X, none⟩ = some (.bool true) ∧ W.cell? ⟨w1.heap.size, 0, none⟩ = some (.int .i64 2) ∧ W.cell? ⟨w1.heap.size, 2, none⟩ = some (.int .i64 (X : Int)) ∧ W.cell? ⟨kb, Y, none⟩ = some (.bool false) ∧ W.cell? ⟨w1.heap.size, 3, none⟩ = some (.int .i64 (Y : Int))) (by kernel_rfl) (by kernel_rfl) (by kernel_rfl) rfl (by kernel_rfl) (by kernel_rfl) HS3.out (fun hS => ?_)
          repeat (first
            | (refine plan_read (v := ?_) rfl (fun _ _ _ h => h) rfl hS ?_ ?_; rotate_left 1; (focus (intro w' hS'; obtain ⟨s1, s2, s3, s4, s5, s6⟩ := hS'; go_simp; try rfl)); (simp only [Act.put, List.setIfInBounds_toArray]; dsimp only [List.set_cons_zero, List.set_cons_succ]))
            | (refine plan_skip rfl (fun _ _ _ h => h) rfl hS ?_; (simp only [Act.put, List.setIfInBounds_toArray]; dsimp only [List.set_cons_zero, List.set_cons_succ])))
          refine plan_nil ?_
          clear hS HS3
          go_wp2_with fail
          have e3 := (H1.out.drew.drew.drew).box.cell 0
          simp only [List.getElem?_toArray, List.getElem?_cons_zero, List.getElem?_cons_succ] at e3
          have HS5 := Lib.hid (e3)
          clear e3
          refine region_fast [(0, true), (1, true), (2, true), (3, true), (4, true), (5, true), (6, true), (7, true), (8, true), (9, true), (10, true), (11, true), (12, true), (13, true), (14, true), (15, true), (16, true), (17, true), (18, true), (19, true), (20, true), (21, true), (22, true), (23, true)] [8, 9, 18, 19] 787200 [(1152921504606846976, 16, 0, 0), (2305843009213693952, 1152921504606846976, 1, 1), (4611686018427387904, 2305843009213693952, 2, 3), (9223372036854775808, 4611686018427387904, 4, 7), (18446744073709551616, 9223372036854775809, 8, 15), (36893488147419103232, 27670116110564327424, 24, 31), (73786976294838206464, 46116860184273879040, 40, 63), (147573952589676412928, 83010348331692982272, 72, 127), (295147905179352825856, 9223372036854775824, 8, 15), (590295810358705651712, 304371277216207601664, 264, 271), (1180591620717411303424, 747093134985236840448, 648, 1023), (2361183241434822606848, 1189814992754266079232, 1032, 2047), (4722366482869645213696, 2370406613471677382656, 2056, 4095), (9444732965739290427392, 4722366482869645213696, 4104, 8191), (18889465931478580854784, 9444732965739290427393, 8192, 16383), (37778931862957161709568, 28334198897217871282176, 24576, 32767), (75557863725914323419136, 47223664828696452136960, 40960, 65535), (151115727451828646838272, 85002596691653613846528, 73728, 131071), (302231454903657293676544, 9444732965739290427408, 8192, 16383), (604462909807314587353088, 311676187869396584103936, 270336, 278527), (1208925819614629174706176, 765023370224882524618752, 663552, 1048575), (2417851639229258349412352, 1218370552580368465133568, 1056768, 2097151), (4835703278458516698824704, 2427296372194997639839744, 2105344, 4194303), (576460752303423488, 4835703278458516698824704, 4202496, 8388607)] (fun W => W.cell? ⟨w1.heap.size, 0, none⟩ = some (.int .i64 2)) (by kernel_rfl) (by kernel_rfl) (by kernel_rfl) rfl (by kernel_rfl) (by kernel_rfl) HS5.out (fun hS => ?_)
          repeat (first
            | (refine plan_read (v := ?_) rfl (fun _ _ _ h => h) rfl hS ?_ ?_; rotate_left 1; (focus (intro w' hS'; have s3 := hS'; go_simp; try rfl)); (simp only [Act.put, List.setIfInBounds_toArray]; dsimp only [List.set_cons_zero, List.set_cons_succ]))
            | (refine plan_skip rfl (fun _ _ _ h => h) rfl hS ?_; (simp only [Act.put, List.setIfInBounds_toArray]; dsimp only [List.set_cons_zero, List.set_cons_succ])))
          refine plan_nil ?_
          clear hS HS5
          go_wp2_with fail
          refine bodyPost_end (results_none rfl _ _ _) rfl ?_
          refine ⟨rfl, ?_, (H1.out.drew.drew.drew).bel⟩
          rw [HE.out]
          exact (H1.out.drew.drew.drew).srch.is
      | false =>
        rw [if_neg (by simp)] at HE
        go_enter Tryd.func34, Tryd.ntmps34
        go_wp2_with fail
        refine HG.out.mono ?_
        rintro e w1 ⟨rfl, b1⟩
        have H1 := Lib.hid (HST.out w1 b1)
        clear b1 c0
        go_wp2_with fail
        have e3 := (H1.out.drew).box.cell 0
        simp only [List.getElem?_toArray, List.getElem?_cons_zero, List.getElem?_cons_succ] at e3
        have HS1 := Lib.hid (e3)
        clear e3
        refine region_fast [(0, true), (1, true), (2, true), (3, true), (4, true), (5, true), (6, true), (7, true), (8, true), (9, true), (10, true), (11, true), (12, true), (13, true)] [8, 9] 768 [(65536, 16, 0, 0), (131072, 65536, 1, 1), (262144, 131072, 2, 3), (524288, 262144, 4, 7), (1048576, 524289, 8, 15), (2097152, 1572864, 24, 31), (4194304, 2621440, 40, 63), (8388608, 4718592, 72, 127), (16777216, 524304, 8, 15), (33554432, 17301504, 264, 271), (67108864, 42467328, 648, 1023), (134217728, 67633152, 1032, 2047), (268435456, 134742016, 2056, 4095), (32768, 268435456, 4104, 8191)] (fun W => W.cell? ⟨w1.heap.size, 0, none⟩ = some (.int .i64 2)) (by kernel_rfl) (by kernel_rfl) (by kernel_rfl) rfl (by kernel_rfl) (by kernel_rfl) HS1.out (fun hS => ?_)
        repeat (first
          | (refine plan_read (v := ?_) rfl (fun _ _ _ h => h) rfl hS ?_ ?_; rotate_left 1; (focus (intro w' hS'; have s3 := hS'; go_simp; try rfl)); (simp only [Act.put, List.setIfInBounds_toArray]; dsimp only [List.set_cons_zero, List.set_cons_succ]))
          | (refine plan_skip rfl (fun _ _ _ h => h) rfl hS ?_; (simp only [Act.put, List.setIfInBounds_toArray]; dsimp only [List.set_cons_zero, List.set_cons_succ])))
        refine plan_nil ?_
        clear hS HS1
        go_wp2_with fail
        have e3 := (H1.out.drew.drew).box.cell 0
        obtain ⟨sA3, sc3, hpa, _⟩ := (H1.out.drew.drew).srch
        have e1 := hpa.cell1
        have e2 := hpa.mark (n := X) g1
        rw [hK] at e2
        have e4 := (H1.out.drew.drew).box.cell 2
        simp only [List.getElem?_toArray, List.getElem?_cons_zero, List.getElem?_cons_succ] at e3 e4
        have HS3 := Lib.hid (And.intro e1 (And.intro e2 (And.intro e3 (e4))))
        clear e1 e2 e3 e4 hpa
        refine region_fast [(0, true), (1, true), (2, true), (3, true), (4, true), (5, true), (6, true), (7, true), (8, true), (9, true), (10, true), (11, true), (12, true), (13, true), (14, true), (15, true), (16, true), (17, true), (18, true), (19, true), (20, true), (21, true), (22, true), (23, true)] [8, 9, 18, 19] 787200 [(8589934592, 16, 0, 0), (17179869184, 8589934592, 1, 1), (34359738368, 17179869184, 2, 3), (68719476736, 34359738368, 4, 7), (137438953472, 68719476737, 8, 15), (274877906944, 206158430208, 24, 31), (549755813888, 343597383680, 40, 63), (1099511627776, 618475290624, 72, 127), (2199023255552, 68719476752, 8, 15), (4398046511104, 2267742732288, 264, 271), (8796093022208, 5566277615616, 648, 1023), (17592186044416, 8864812498944, 1032, 2047), (35184372088832, 17660905521152, 2056, 4095), (70368744177664, 35184372088832, 4104, 8191), (140737488355328, 70368744177665, 8192, 16383), (281474976710656, 211106232532992, 24576, 32767), (562949953421312, 351843720888320, 40960, 65535), (1125899906842624, 633318697598976, 73728, 131071), (2251799813685248, 70368744177680, 8192, 16383), (4503599627370496, 2322168557862912, 270336, 278527), (9007199254740992, 5699868278390784, 663552, 1048575), (18014398509481984, 9077567998918656, 1056768, 2097151), (36028797018963968, 18084767253659648, 2105344, 4194303), (4294967296, 36028797018963968, 4202496, 8388607)] (fun W => W.cell? ⟨b, 1, none⟩ = some (.slice (some ⟨kb, 0, none⟩) s.kn.length kc) ∧ W.cell? ⟨kb, X, none⟩ = some (.bool false) ∧ W.cell? ⟨w1.heap.size, 0, none⟩ = some (.int .i64 2) ∧ W.cell? ⟨w1.heap.size, 2, none⟩ = some (.int .i64 (X : Int))) (by kernel_rfl) (by kernel_rfl) (by kernel_rfl) rfl (by kernel_rfl) (by kernel_rfl) HS3.out (fun hS => ?_)
        repeat (first
          | (refine plan_read (v := ?_) rfl (fun _ _ _ h => h) rfl hS ?_ ?_; rotate_left 1; (focus (intro w' hS'; obtain ⟨s1, s2, s3, s4⟩ := hS'; go_simp; try rfl)); (simp only [Act.put, List.setIfInBounds_toArray]; dsimp only [List.set_cons_zero, List.set_cons_succ]))
          | (refine plan_skip rfl (fun _ _ _ h => h) rfl hS ?_; (simp only [Act.put, List.setIfInBounds_toArray]; dsimp only [List.set_cons_zero, List.set_cons_succ])))
        refine plan_nil ?_
        clear hS HS3
        go_wp2_with fail
        have e3 := (H1.out.drew.drew.drew).box.cell 0
        simp only [List.getElem?_toArray, List.getElem?_cons_zero, List.getElem?_cons_succ] at e3
        have HS5 := Lib.hid (e3)
        clear e3
        refine region_fast [(0, true), (1, true), (2, true), (3, true), (4, true), (5, true), (6, true), (7, true), (8, true), (9, true), (10, true), (11, true), (12, true), (13, true), (14, true), (15, true), (16, true), (17, true), (18, true), (19, true), (20, true), (21, true), (22, true), (23, true)] [8, 9, 18, 19] 787200 [(1152921504606846976, 16, 0, 0), (2305843009213693952, 1152921504606846976, 1, 1), (4611686018427387904, 2305843009213693952, 2, 3), (9223372036854775808, 4611686018427387904, 4, 7), (18446744073709551616, 9223372036854775809, 8, 15), (36893488147419103232, 27670116110564327424, 24, 31), (73786976294838206464, 46116860184273879040, 40, 63), (147573952589676412928, 83010348331692982272, 72, 127), (295147905179352825856, 9223372036854775824, 8, 15), (590295810358705651712, 304371277216207601664, 264, 271), (1180591620717411303424, 747093134985236840448, 648, 1023), (2361183241434822606848, 1189814992754266079232, 1032, 2047), (4722366482869645213696, 2370406613471677382656, 2056, 4095), (9444732965739290427392, 4722366482869645213696, 4104, 8191), (18889465931478580854784, 9444732965739290427393, 8192, 16383), (37778931862957161709568, 28334198897217871282176, 24576, 32767), (75557863725914323419136, 47223664828696452136960, 40960, 65535), (151115727451828646838272, 85002596691653613846528, 73728, 131071), (302231454903657293676544, 9444732965739290427408, 8192, 16383), (604462909807314587353088, 311676187869396584103936, 270336, 278527), (1208925819614629174706176, 765023370224882524618752, 663552, 1048575), (2417851639229258349412352, 1218370552580368465133568, 1056768, 2097151), (4835703278458516698824704, 2427296372194997639839744, 2105344, 4194303), (576460752303423488, 4835703278458516698824704, 4202496, 8388607)] (fun W => W.cell? ⟨w1.heap.size, 0, none⟩ = some (.int .i64 2)) (by kernel_rfl) (by kernel_rfl) (by kernel_rfl) rfl (by kernel_rfl) (by kernel_rfl) HS5.out (fun hS => ?_)
        repeat (first
          | (refine plan_read (v := ?_) rfl (fun _ _ _ h => h) rfl hS ?_ ?_; rotate_left 1; (focus (intro w' hS'; have s3 := hS'; go_simp; try rfl)); (simp only [Act.put, List.setIfInBounds_toArray]; dsimp only [List.set_cons_zero, List.set_cons_succ]))
          | (refine plan_skip rfl (fun _ _ _ h => h) rfl hS ?_; (simp only [Act.put, List.setIfInBounds_toArray]; dsimp only [List.set_cons_zero, List.set_cons_succ])))
        refine plan_nil ?_
        clear hS HS5
        go_wp2_with fail
        refine bodyPost_end (results_none rfl _ _ _) rfl ?_
        refine ⟨rfl, ?_, (H1.out.drew.drew.drew).bel⟩
        rw [HE.out]
        exact (H1.out.drew.drew.drew).srch.is
    · have k2b : ((t.k : Int) == 2) = false := by simpa using k2
      by_cases k4 : t.k = 4
      · skip
        have hxx := okT_x hr (by omega)
        have hyy := okT_y hr (by omega) (by omega)
        obtain ⟨X, hX⟩ : ∃ X : Nat, t.x = X := ⟨t.x.toNat, by omega⟩
        obtain ⟨Y, hY⟩ : ∃ Y : Nat, t.y = Y := ⟨t.y.toNat, by omega⟩
        have hap : togS l s n = if at_ s.kn X = true ∧ at_ s.kn Y = true then learnS s n 6 0 else s := by
          unfold togS; rw [hx]; simp only
          simp [k4, hX, hY]
        obtain ⟨K, hK⟩ : ∃ K, at_ s.kn X = K := ⟨_, rfl⟩
        obtain ⟨M, hM⟩ : ∃ M, at_ s.kn Y = M := ⟨_, rfl⟩
        rw [hK, hM] at hap
        have HE := Lib.hid hap; clear hap
        clear k3b k3 k2 k2b
        obtain ⟨k, a, x, y⟩ := t
        unfold tval at HG
        simp only at k4 hX hY hxx hyy HST
        subst k4
        subst hX
        subst hY
        have g1 : X < s.kn.length := by omega
        have g1i : (X : Int) < (s.kn.length : Int) := by omega
        have g2 : Y < s.kn.length := by omega
        have g2i : (Y : Int) < (s.kn.length : Int) := by omega
        clear hx hr hl hxx hyy
        cases K with
        | true =>
          cases M with
          | true =>
            rw [if_pos ⟨rfl, rfl⟩] at HE
            go_enter Tryd.func34, Tryd.ntmps34
            go_wp2_with fail
            refine HG.out.mono ?_
            rintro e w1 ⟨rfl, b1⟩
            have H1 := Lib.hid (HST.out w1 b1)
            clear b1 c0
            go_wp2_with fail
            have e3 := (H1.out.drew).box.cell 0
            simp only [List.getElem?_toArray, List.getElem?_cons_zero, List.getElem?_cons_succ] at e3
            have HS1 := Lib.hid (e3)
            clear e3
            refine region_fast [(0, true), (1, true), (2, true), (3, true), (4, true), (5, true), (6, true), (7, true), (8, true), (9, true), (10, true), (11, true), (12, true), (13, true)] [8, 9] 768 [(65536, 16, 0, 0), (131072, 65536, 1, 1), (262144, 131072, 2, 3), (524288, 262144, 4, 7), (1048576, 524289, 8, 15), (2097152, 1572864, 24, 31), (4194304, 2621440, 40, 63), (8388608, 4718592, 72, 127), (16777216, 524304, 8, 15), (33554432, 17301504, 264, 271), (67108864, 42467328, 648, 1023), (134217728, 67633152, 1032, 2047), (268435456, 134742016, 2056, 4095), (32768, 268435456, 4104, 8191)] (fun W => W.cell? ⟨w1.heap.size, 0, none⟩ = some (.int .i64 4)) (by kernel_rfl) (by kernel_rfl) (by kernel_rfl) rfl (by kernel_rfl) (by kernel_rfl) HS1.out (fun hS => ?_)
            repeat (first
              | (refine plan_read (v := ?_) rfl (fun _ _ _ h => h) rfl hS ?_ ?_; rotate_left 1; (focus (intro w' hS'; have s3 := hS'; go_simp; try rfl)); (simp only [Act.put, List.setIfInBounds_toArray]; dsimp only [List.set_cons_zero, List.set_cons_succ]))
              | (refine plan_skip rfl (fun _ _ _ h => h) rfl hS ?_; (simp only [Act.put, List.setIfInBounds_toArray]; dsimp only [List.set_cons_zero, List.set_cons_succ])))
            refine plan_nil ?_
            clear hS HS1
            go_wp2_with fail
            have e3 := (H1.out.drew.drew).box.cell 0
            simp only [List.getElem?_toArray, List.getElem?_cons_zero, List.getElem?_cons_succ] at e3
            have HS3 := Lib.hid (e3)
            clear e3
            refine region_fast [(0, true), (1, true), (2, true), (3, true), (4, true), (5, true), (6, true), (7, true), (8, true), (9, true), (10, true), (11, true), (12, true), (13, true), (14, true), (15, true), (16, true), (17, true), (18, true), (19, true), (20, true), (21, true), (22, true), (23, true)] [8, 9, 18, 19] 787200 [(8589934592, 16, 0, 0), (17179869184, 8589934592, 1, 1), (34359738368, 17179869184, 2, 3), (68719476736, 34359738368, 4, 7), (137438953472, 68719476737, 8, 15), (274877906944, 206158430208, 24, 31), (549755813888, 343597383680, 40, 63), (1099511627776, 618475290624, 72, 127), (2199023255552, 68719476752, 8, 15), (4398046511104, 2267742732288, 264, 271), (8796093022208, 5566277615616, 648, 1023), (17592186044416, 8864812498944, 1032, 2047), (35184372088832, 17660905521152, 2056, 4095), (70368744177664, 35184372088832, 4104, 8191), (140737488355328, 70368744177665, 8192, 16383), (281474976710656, 211106232532992, 24576, 32767), (562949953421312, 351843720888320, 40960, 65535), (1125899906842624, 633318697598976, 73728, 131071), (2251799813685248, 70368744177680, 8192, 16383), (4503599627370496, 2322168557862912, 270336, 278527), (9007199254740992, 5699868278390784, 663552, 1048575), (18014398509481984, 9077567998918656, 1056768, 2097151), (36028797018963968, 18084767253659648, 2105344, 4194303), (4294967296, 36028797018963968, 4202496, 8388607)] (fun W => W.cell? ⟨w1.heap.size, 0, none⟩ = some (.int .i64 4)) (by kernel_rfl) (by kernel_rfl) (by kernel_rfl) rfl (by kernel_rfl) (by kernel_rfl) HS3.out (fun hS => ?_)
            repeat (first
              | (refine plan_read (v := ?_) rfl (fun _ _ _ h => h) rfl hS ?_ ?_; rotate_left 1; (focus (intro w' hS'; have s3 := hS'; go_simp; try rfl)); (simp only [Act.put, List.setIfInBounds_toArray]; dsimp only [List.set_cons_zero, List.set_cons_succ]))
              | (refine plan_skip rfl (fun _ _ _ h => h) rfl hS ?_; (simp only [Act.put, List.setIfInBounds_toArray]; dsimp only [List.set_cons_zero, List.set_cons_succ])))
            refine plan_nil ?_
            clear hS HS3
            go_wp2_with fail
            have e3 := (H1.out.drew.drew.drew).box.cell 0
            obtain ⟨sA5, sc5, hpa, _⟩ := (H1.out.drew.drew.drew).srch
            have e1 := hpa.cell1
            have e2 := hpa.mark (n := X) g1
            rw [hK] at e2
            have e4 := (H1.out.drew.drew.drew).box.cell 2
            have e5 := hpa.mark (n := Y) g2
            rw [hM] at e5
            have e6 := (H1.out.drew.drew.drew).box.cell 3
            simp only [List.getElem?_toArray, List.getElem?_cons_zero, List.getElem?_cons_succ] at e3 e4 e6
            have HS5 := Lib.hid (And.intro e1 (And.intro e2 (And.intro e3 (And.intro e4 (And.intro e5 (e6))))))
            clear e1 e2 e3 e4 e5 e6 hpa
            refine region_fast [(0, true), (1, true), (2, true), (3, true), (4, true), (5, true), (6, true), (7, true), (8, true), (9, true), (10, true), (11, true), (12, true), (13, true), (14, true), (15, true), (16, true), (17, true), (18, true), (19, true), (20, true), (21, true), (22, true), (23, true)] [8, 9, 18, 19] 787200 [(1152921504606846976, 16, 0, 0), (2305843009213693952, 1152921504606846976, 1, 1), (4611686018427387904, 2305843009213693952, 2, 3), (9223372036854775808, 4611686018427387904, 4, 7), (18446744073709551616, 9223372036854775809, 8, 15), (36893488147419103232, 27670116110564327424, 24, 31), (73786976294838206464, 46116860184273879040, 40, 63), (147573952589676412928, 83010348331692982272, 72, 127), (295147905179352825856, 9223372036854775824, 8, 15), (590295810358705651712, 304371277216207601664, 264, 271), (1180591620717411303424, 747093134985236840448, 648, 1023), (2361183241434822606848, 1189814992754266079232, 1032, 2047), (4722366482869645213696, 2370406613471677382656, 2056, 4095), (9444732965739290427392, 4722366482869645213696, 4104, 8191), (18889465931478580854784, 9444732965739290427393, 8192, 16383), (37778931862957161709568, 28334198897217871282176, 24576, 32767), (75557863725914323419136, 47223664828696452136960, 40960, 65535), (151115727451828646838272, 85002596691653613846528, 73728, 131071), (302231454903657293676544, 9444732965739290427408, 8192, 16383), (604462909807314587353088, 311676187869396584103936, 270336, 278527), (1208925819614629174706176, 765023370224882524618752, 663552, 1048575), (2417851639229258349412352, 1218370552580368465133568, 1056768, 2097151), (4835703278458516698824704, 2427296372194997639839744, 2105344, 4194303), (576460752303423488, 4835703278458516698824704, 4202496, 8388607)] (fun W => W.cell? ⟨b, 1, none⟩ = some (.slice (some ⟨kb, 0, none⟩) s.kn.length kc) ∧ W.cell? ⟨kb, X, none⟩ = some (.bool true) ∧ W.cell? ⟨w1.heap.size, 0, none⟩ = some (.int .i64 4) ∧ W.cell? ⟨w1.heap.size, 2, none⟩ = some (.int .i64 (X : Int)) ∧ W.cell? ⟨kb, Y, none⟩ = some (.bool true) ∧ W.cell? ⟨w1.heap.size, 3, none⟩ = some (.int .i64 (Y : Int))) (by kernel_rfl) (by kernel_rfl) (by kernel_rfl) rfl (by kernel_rfl) (by kernel_rfl) HS5.out (fun hS => ?_)
            repeat (first
              | (refine plan_read (v := ?_) rfl (fun _ _ _ h => h) rfl hS ?_ ?_; rotate_left 1; (focus (intro w' hS'; obtain ⟨s1, s2, s3, s4, s5, s6⟩ := hS'; go_simp; try rfl)); (simp only [Act.put, List.setIfInBounds_toArray]; dsimp only [List.set_cons_zero, List.set_cons_succ]))
              | (refine plan_skip rfl (fun _ _ _ h => h) rfl hS ?_; (simp only [Act.put, List.setIfInBounds_toArray]; dsimp only [List.set_cons_zero, List.set_cons_succ])))
            refine plan_nil ?_
            clear hS HS5
            go_wp2_with fail
            refine (learn_in b p n 6 0 s kb kc base _ _ (H1.out.drew.drew.drew).srch hnk (by omega) hkl).mono ?_
            rintro e w3 ⟨rfl, h1, h2⟩
            have H3 := Lib.hid ((H1.out.drew.drew.drew).learnt h1 h2); clear h1 h2
            go_wp2_with fail
            refine bodyPost_end (results_none rfl _ _ _) rfl ?_
            refine ⟨rfl, ?_, H3.out.bel⟩
            rw [HE.out]
            exact H3.out.srch.is
          | false =>
            rw [if_neg (by simp)] at HE
            go_enter Tryd.func34, Tryd.ntmps34
            go_wp2_with fail
            refine HG.out.mono ?_
            rintro e w1 ⟨rfl, b1⟩
            have H1 := Lib.hid (HST.out w1 b1)
            clear b1 c0
            go_wp2_with fail
            have e3 := (H1.out.drew).box.cell 0
            simp only [List.getElem?_toArray, List.getElem?_cons_zero, List.getElem?_cons_succ] at e3
            have HS1 := Lib.hid (e3)
            clear e3
            refine region_fast [(0, true), (1, true), (2, true), (3, true), (4, true), (5, true), (6, true), (7, true), (8, true), (9, true), (10, true), (11, true), (12, true), (13, true)] [8, 9] 768 [(65536, 16, 0, 0), (131072, 65536, 1, 1), (262144, 131072, 2, 3), (524288, 262144, 4, 7), (1048576, 524289, 8, 15), (2097152, 1572864, 24, 31), (4194304, 2621440, 40, 63), (8388608, 4718592, 72, 127), (16777216, 524304, 8, 15), (33554432, 17301504, 264, 271), (67108864, 42467328, 648, 1023), (134217728, 67633152, 1032, 2047), (268435456, 134742016, 2056, 4095), (32768, 268435456, 4104, 8191)] (fun W => W.cell? ⟨w1.heap.size, 0, none⟩ = some (.int .i64 4)) (by kernel_rfl) (by kernel_rfl) (by kernel_rfl) rfl (by kernel_rfl) (by kernel_rfl) HS1.out (fun hS => ?_)
            repeat (first
              | (refine plan_read (v := ?_) rfl (fun _ _ _ h => h) rfl hS ?_ ?_; rotate_left 1; (focus (intro w' hS'; have s3 := hS'; go_simp; try rfl)); (simp only [Act.put, List.setIfInBounds_toArray]; dsimp only [List.set_cons_zero, List.set_cons_succ]))
              | (refine plan_skip rfl (fun _ _ _ h => h) rfl hS ?_; (simp only [Act.put, List.setIfInBounds_toArray]; dsimp only [List.set_cons_zero, List.set_cons_succ])))
            refine plan_nil ?_
            clear hS HS1
            go_wp2_with fail
            have e3 := (H1.out.drew.drew).box.cell 0
            simp only [List.getElem?_toArray, List.getElem?_cons_zero, List.getElem?_cons_succ] at e3
            have HS3 := Lib.hid (e3)
            clear e3
            refine region_fast [(0, true), (1, true), (2, true), (3, true), (4, true), (5, true), (6, true), (7, true), (8, true), (9, true), (10, true), (11, true), (12, true), (13, true), (14, true), (15, true), (16, true), (17, true), (18, true), (19, true), (20, true), (21, true), (22, true), (23, true)] [8, 9, 18, 19] 787200 [(8589934592, 16, 0, 0), (17179869184, 8589934592, 1, 1), (34359738368, 17179869184, 2, 3), (68719476736, 34359738368, 4, 7), (137438953472, 68719476737, 8, 15), (274877906944, 206158430208, 24, 31), (549755813888, 343597383680, 40, 63), (1099511627776, 618475290624, 72, 127), (2199023255552, 68719476752, 8, 15), (4398046511104, 2267742732288, 264, 271), (8796093022208, 5566277615616, 648, 1023), (17592186044416, 8864812498944, 1032, 2047), (35184372088832, 17660905521152, 2056, 4095), (70368744177664, 35184372088832, 4104, 8191), (140737488355328, 70368744177665, 8192, 16383), (281474976710656, 211106232532992, 24576, 32767), (562949953421312, 351843720888320, 40960, 65535), (1125899906842624, 633318697598976, 73728, 131071), (2251799813685248, 70368744177680, 8192, 16383), (4503599627370496, 2322168557862912, 270336, 278527), (9007199254740992, 5699868278390784, 663552, 1048575), (18014398509481984, 9077567998918656, 1056768, 2097151), (36028797018963968, 18084767253659648, 2105344, 4194303), (4294967296, 36028797018963968, 4202496, 8388607)] (fun W => W.cell? ⟨w1.heap.size, 0, none⟩ = some (.int .i64 4)) (by kernel_rfl) (by kernel_rfl) (by kernel_rfl) rfl (by kernel_rfl) (by kernel_rfl) HS3.out (fun hS => ?_)
            repeat (first
              | (refine plan_read (v := ?_) rfl (fun _ _ _ h => h) rfl hS ?_ ?_; rotate_left 1; (focus (intro w' hS'; have s3 := hS'; go_simp; try rfl)); (simp only [Act.put, List.setIfInBounds_toArray]; dsimp only [List.set_cons_zero, List.set_cons_succ]))
              | (refine plan_skip rfl (fun _ _ _ h => h) rfl hS ?_; (simp only [Act.put, List.setIfInBounds_toArray]; dsimp only [List.set_cons_zero, List.set_cons_succ])))
            refine plan_nil ?_
            clear hS HS3
            go_wp2_with fail
            have e3 := (H1.out.drew.drew.drew).box.cell 0
            obtain ⟨sA5, sc5, hpa, _⟩ := (H1.out.drew.drew.drew).srch
            have e1 := hpa.cell1
            have e2 := hpa.mark (n := X) g1
            rw [hK] at e2
            have e4 := (H1.out.drew.drew.drew).box.cell 2
            have e5 := hpa.mark (n := Y) g2
            rw [hM] at e5
            have e6 := (H1.out.drew.drew.drew).box.cell 3
            simp only [List.getElem?_toArray, List.getElem?_cons_zero, List.getElem?_cons_succ] at e3 e4 e6
            have HS5 := Lib.hid (And.intro e1 (And.intro e2 (And.intro e3 (And.intro e4 (And.intro e5 (e6))))))
            clear e1 e2 e3 e4 e5 e6 hpa
            refine region_fast [(0, true), (1, true), (2, true), (3, true), (4, true), (5, true), (6, true), (7, true), (8, true), (9, true), (10, true), (11, true), (12, true), (13, true), (14, true), (15, true), (16, true), (17, true), (18, true), (19, true), (20, true), (21, true), (22, true), (23, true)] [8, 9, 18, 19] 787200 [(1152921504606846976, 16, 0, 0), (2305843009213693952, 1152921504606846976, 1, 1), (4611686018427387904, 2305843009213693952, 2, 3), (9223372036854775808, 4611686018427387904, 4, 7), (18446744073709551616, 9223372036854775809, 8, 15), (36893488147419103232, 27670116110564327424, 24, 31), (73786976294838206464, 46116860184273879040, 40, 63), (147573952589676412928, 83010348331692982272, 72, 127), (295147905179352825856, 9223372036854775824, 8, 15), (590295810358705651712, 304371277216207601664, 264, 271), (1180591620717411303424, 747093134985236840448, 648, 1023), (2361183241434822606848, 1189814992754266079232, 1032, 2047), (4722366482869645213696, 2370406613471677382656, 2056, 4095), (9444732965739290427392, 4722366482869645213696, 4104, 8191), (18889465931478580854784, 9444732965739290427393, 8192, 16383), (37778931862957161709568, 28334198897217871282176, 24576, 32767), (75557863725914323419136, 47223664828696452136960, 40960, 65535), (151115727451828646838272, 85002596691653613846528, 73728, 131071), (302231454903657293676544, 9444732965739290427408, 8192, 16383), (604462909807314587353088, 311676187869396584103936, 270336, 278527), (1208925819614629174706176, 765023370224882524618752, 663552, 1048575), (2417851639229258349412352, 1218370552580368465133568, 1056768, 2097151), (4835703278458516698824704, 2427296372194997639839744, 2105344, 4194303), (576460752303423488, 4835703278458516698824704, 4202496, 8388607)] (fun W => W.cell? ⟨b, 1, none⟩ = some (.slice (some ⟨kb, 0, none⟩) s.kn.length kc) ∧ W.cell? ⟨kb, X, none⟩ = some (.bool true) ∧ W.cell? ⟨w1.heap.size, 0, none⟩ = some (.int .i64 4) ∧ W.cell? ⟨w1.heap.size, 2, none⟩ = some (.int .i64 (X : Int)) ∧ W.cell? ⟨kb, Y, none⟩ = some (.bool false) ∧ W.cell? ⟨w1.heap.size, 3, none⟩ = some (.int .i64 (Y : Int))) (by kernel_rfl) (by kernel_rfl) (by kernel_rfl) rfl (by kernel_rfl) (by kernel_rfl) HS5.out (fun hS => ?_)
            repeat (first
              | (refine plan_read (v := ?_) rfl (fun _ _ _ h => h) rfl hS ?_ ?_; rotate_left 1; (focus (intro w' hS'; obtain ⟨s1, s2, s3, s4, s5, s6⟩ := hS'; go_simp; try rfl)); (simp only [Act.put, List.setIfInBounds_toArray]; dsimp only [List.set_cons_zero, List.set_cons_succ]))
              | (refine plan_skip rfl (fun _ _ _ h => h) rfl hS ?_; (simp only [Act.put, List.setIfInBounds_toArray]; dsimp only [List.set_cons_zero, List.set_cons_succ])))
            refine plan_nil ?_
            clear hS HS5
            go_wp2_with fail
            refine bodyPost_end (results_none rfl _ _ _) rfl ?_
            refine ⟨rfl, ?_, (H1.out.drew.drew.drew).bel⟩
            rw [HE.out]
            exact (H1.out.drew.drew.drew).srch.is
        | false =>
          rw [if_neg (by simp)] at HE
          go_enter Tryd.func34, Tryd.ntmps34
          go_wp2_with fail
          refine HG.out.mono ?_
          rintro e w1 ⟨rfl, b1⟩
          have H1 := Lib.hid (HST.out w1 b1)
          clear b1 c0
          go_wp2_with fail
          have e3 := (H1.out.drew).box.cell 0
          simp only [List.getElem?_toArray, List.getElem?_cons_zero, List.getElem?_cons_succ] at e3
          have HS1 := Lib.hid (e3)
          clear e3
          refine region_fast [(0, true), (1, true), (2, true), (3, true), (4, true), (5, true), (6, true), (7, true), (8, true), (9, true), (10, true), (11, true), (12, true), (13, true)] [8, 9] 768 [(65536, 16, 0, 0), (131072, 65536, 1, 1), (262144, 131072, 2, 3), (524288, 262144, 4, 7), (1048576, 524289, 8, 15), (2097152, 1572864, 24, 31), (4194304, 2621440, 40, 63), (8388608, 4718592, 72, 127), (16777216, 524304, 8, 15), (33554432, 17301504, 264, 271), (67108864, 42467328, 648, 1023), (134217728, 67633152, 1032, 2047), (268435456, 134742016, 2056, 4095), (32768, 268435456, 4104, 8191)] (fun W => W.cell? ⟨w1.heap.size, 0, none⟩ = some (.int .i64 4)) (by kernel_rfl) (by kernel_rfl) (by kernel_rfl) rfl (by kernel_rfl) (by kernel_rfl) HS1.out (fun hS => ?_)
          repeat (first
            | (refine plan_read (v := ?_) rfl (fun _ _ _ h => h) rfl hS ?_ ?_; rotate_left 1; (focus (intro w' hS'; have s3 := hS'; go_simp; try rfl)); (simp only [Act.put, List.setIfInBounds_toArray]; dsimp only [List.set_cons_zero, List.set_cons_succ]))
            | (refine plan_skip rfl (fun _ _ _ h => h) rfl hS ?_; (simp only [Act.put, List.setIfInBounds_toArray]; dsimp only [List.set_cons_zero, List.set_cons_succ])))
          refine plan_nil ?_
          clear hS HS1
          go_wp2_with fail
          have e3 := (H1.out.drew.drew).box.cell 0
          simp only [List.getElem?_toArray, List.getElem?_cons_zero, List.getElem?_cons_succ] at e3
          have HS3 := Lib.hid (e3)
          clear e3
          refine region_fast [(0, true), (1, true), (2, true), (3, true), (4, true), (5, true), (6, true), (7, true), (8, true), (9, true), (10, true), (11, true), (12, true), (13, true), (14, true), (15, true), (16, true), (17, true), (18, true), (19, true), (20, true), (21, true), (22, true), (23, true)] [8, 9, 18, 19] 787200 [(8589934592, 16, 0, 0), (17179869184, 8589934592, 1, 1), (34359738368, 17179869184, 2, 3), (68719476736, 34359738368, 4, 7), (137438953472, 68719476737, 8, 15), (274877906944, 206158430208, 24, 31), (549755813888, 343597383680, 40, 63), (1099511627776, 618475290624, 72, 127), (2199023255552, 68719476752, 8, 15), (4398046511104, 2267742732288, 264, 271), (8796093022208, 5566277615616, 648, 1023), (17592186044416, 8864812498944, 1032, 2047), (35184372088832, 17660905521152, 2056, 4095), (70368744177664, 35184372088832, 4104, 8191), (140737488355328, 70368744177665, 8192, 16383), (281474976710656, 211106232532992, 24576, 32767), (562949953421312, 351843720888320, 40960, 65535), (1125899906842624, 633318697598976, 73728, 131071), (2251799813685248, 70368744177680, 8192, 16383), (4503599627370496, 2322168557862912, 270336, 278527), (9007199254740992, 5699868278390784, 663552, 1048575), (18014398509481984, 9077567998918656, 1056768, 2097151), (36028797018963968, 18084767253659648, 2105344, 4194303), (4294967296, 36028797018963968, 4202496, 8388607)] (fun W => W.cell? ⟨w1.heap.size, 0, none⟩ = some (.int .i64 4)) (by kernel_rfl) (by kernel_rfl) (by kernel_rfl) rfl (by kernel_rfl) (by kernel_rfl) HS3.out (fun hS => ?_)
          repeat (first
            | (refine plan_read (v := ?_) rfl (fun _ _ _ h => h) rfl hS ?_ ?_; rotate_left 1; (focus (intro w' hS'; have s3 := hS'; go_simp; try rfl)); (simp only [Act.put, List.setIfInBounds_toArray]; dsimp only [List.set_cons_zero, List.set_cons_succ]))
            | (refine plan_skip rfl (fun _ _ _ h => h) rfl hS ?_; (simp only [Act.put, List.setIfInBounds_toArray]; dsimp only [List.set_cons_zero, List.set_cons_succ])))
          refine plan_nil ?_
          clear hS HS3
          go_wp2_with fail
          have e3 := (H1.out.drew.drew.drew).box.cell 0
          obtain ⟨sA5, sc5, hpa, _⟩ := (H1.out.drew.drew.drew).srch
          have e1 := hpa.cell1
          have e2 := hpa.mark (n := X) g1
          rw [hK] at e2
          have e4 := (H1.out.drew.drew.drew).box.cell 2
          simp only [List.getElem?_toArray, List.getElem?_cons_zero, List.getElem?_cons_succ] at e3 e4
          have HS5 := Lib.hid (And.intro e1 (And.intro e2 (And.intro e3 (e4))))
          clear e1 e2 e3 e4 hpa
          refine region_fast [(0, true), (1, true), (2, true), (3, true), (4, true), (5, true), (6, true), (7, true), (8, true), (9, true), (10, true), (11, true), (12, true), (13, true), (14, true), (15, true), (16, true), (17, true), (18, true), (19, true), (20, true), (21, true), (22, true), (23, true)] [8, 9, 18, 19] 787200 [(1152921504606846976, 16, 0, 0), (2305843009213693952, 1152921504606846976, 1, 1), (4611686018427387904, 2305843009213693952, 2, 3), (9223372036854775808, 4611686018427387904, 4, 7), (18446744073709551616, 9223372036854775809, 8, 15), (36893488147419103232, 27670116110564327424, 24, 31), (73786976294838206464, 46116860184273879040, 40, 63), (147573952589676412928, 83010348331692982272, 72, 127), (295147905179352825856, 9223372036854775824, 8, 15), (590295810358705651712, 304371277216207601664, 264, 271), (1180591620717411303424, 747093134985236840448, 648, 1023), (2361183241434822606848, 1189814992754266079232, 1032, 2047), (4722366482869645213696, 2370406613471677382656, 2056, 4095), (9444732965739290427392, 4722366482869645213696, 4104, 8191), (18889465931478580854784, 9444732965739290427393, 8192, 16383), (37778931862957161709568, 28334198897217871282176, 24576, 32767), (75557863725914323419136, 47223664828696452136960, 40960, 65535), (151115727451828646838272, 85002596691653613846528, 73728, 131071), (302231454903657293676544, 9444732965739290427408, 8192, 16383), (604462909807314587353088, 311676187869396584103936, 270336, 278527), (1208925819614629174706176, 765023370224882524618752, 663552, 1048575), (2417851639229258349412352, 1218370552580368465133568, 1056768, 2097151), (4835703278458516698824704, 2427296372194997639839744, 2105344, 4194303), (576460752303423488, 4835703278458516698824704, 4202496, 8388607)] (fun W => W.cell? ⟨b, 1, none⟩ = some (.slice (some ⟨kb, 0, none⟩) s.kn.length kc) ∧ W.cell? ⟨kb, X, none⟩ = some (.bool false) ∧ W.cell? ⟨w1.heap.size, 0, none⟩ = some (.int .i64 4) ∧ W.cell? ⟨w1.heap.size, 2, none⟩ = some (.int .i64 (X : Int))) (by kernel_rfl) (by kernel_rfl) (by kernel_rfl) rfl (by kernel_rfl) (by kernel_rfl) HS5.out (fun hS => ?_)
          repeat (first
            | (refine plan_read (v := ?_) rfl (fun _ _ _ h => h) rfl hS ?_ ?_; rotate_left 1; (focus (intro w' hS'; obtain ⟨s1, s2, s3, s4⟩ := hS'; go_simp; try rfl)); (simp only [Act.put, List.setIfInBounds_toArray]; dsimp only [List.set_cons_zero, List.set_cons_succ]))
            | (refine plan_skip rfl (fun _ _ _ h => h) rfl hS ?_; (simp only [Act.put, List.setIfInBounds_toArray]; dsimp only [List.set_cons_zero, List.set_cons_succ])))
          refine plan_nil ?_
          clear hS HS5
          go_wp2_with fail
          refine bodyPost_end (results_none rfl _ _ _) rfl ?_
          refine ⟨rfl, ?_, (H1.out.drew.drew.drew).bel⟩
          rw [HE.out]
          exact (H1.out.drew.drew.drew).srch.is
      · have k4b : ((t.k : Int) == 4) = false := by simpa using k4
        have HE := Lib.hid (show togS l s n = s by unfold togS; rw [hx]; simp only; rw [if_neg (by simp [k3]), if_neg (by simp [k2]), if_neg (by simp [k4])])
        obtain ⟨k, a, x, y⟩ := t
        unfold tval at HG
        simp only at k2 k3 k4 k2b k3b k4b HST
        clear hx hr k2 k3 k4 hl
        go_enter Tryd.func34, Tryd.ntmps34
        go_wp2_with fail
        refine HG.out.mono ?_
        rintro e w1 ⟨rfl, b1⟩
        have H1 := Lib.hid (HST.out w1 b1)
        clear b1 c0
        go_wp2_with fail
        have e3 := (H1.out.drew).box.cell 0
        simp only [List.getElem?_toArray, List.getElem?_cons_zero, List.getElem?_cons_succ] at e3
        have HS1 := Lib.hid (e3)
        clear e3
        refine region_fast [(0, true), (1, true), (2, true), (3, true), (4, true), (5, true), (6, true), (7, true), (8, true), (9, true), (10, true), (11, true), (12, true), (13, true)] [8, 9] 768 [(65536, 16, 0, 0), (131072, 65536, 1, 1), (262144, 131072, 2, 3), (524288, 262144, 4, 7), (1048576, 524289, 8, 15), (2097152, 1572864, 24, 31), (4194304, 2621440, 40, 63), (8388608, 4718592, 72, 127), (16777216, 524304, 8, 15), (33554432, 17301504, 264, 271), (67108864, 42467328, 648, 1023), (134217728, 67633152, 1032, 2047), (268435456, 134742016, 2056, 4095), (32768, 268435456, 4104, 8191)] (fun W => W.cell? ⟨w1.heap.size, 0, none⟩ = some (.int .i64 k)) (by kernel_rfl) (by kernel_rfl) (by kernel_rfl) rfl (by kernel_rfl) (by kernel_rfl) HS1.out (fun hS => ?_)
        repeat (first
          | (refine plan_read (v := ?_) rfl (fun _ _ _ h => h) rfl hS ?_ ?_; rotate_left 1; (focus (intro w' hS'; have s3 := hS'; go_simp; try rfl)); (simp only [Act.put, List.setIfInBounds_toArray]; dsimp only [List.set_cons_zero, List.set_cons_succ]))
          | (refine plan_skip rfl (fun _ _ _ h => h) rfl hS ?_; (simp only [Act.put, List.setIfInBounds_toArray]; dsimp only [List.set_cons_zero, List.set_cons_succ])))
        refine plan_nil ?_
        clear hS HS1
        go_wp2_with fail
        have e3 := (H1.out.drew.drew).box.cell 0
        simp only [List.getElem?_toArray, List.getElem?_cons_zero, List.getElem?_cons_succ] at e3
        have HS3 := Lib.hid (e3)
        clear e3
        refine region_fast [(0, true), (1, true), (2, true), (3, true), (4, true), (5, true), (6, true), (7, true), (8, true), (9, true), (10, true), (11, true), (12, true), (13, true), (14, true), (15, true), (16, true), (17, true), (18, true), (19, true), (20, true), (21, true), (22, true), (23, true)] [8, 9, 18, 19] 787200 [(8589934592, 16, 0, 0), (17179869184, 8589934592, 1, 1), (34359738368, 17179869184, 2, 3), (68719476736, 34359738368, 4, 7), (137438953472, 68719476737, 8, 15), (274877906944, 206158430208, 24, 31), (549755813888, 343597383680, 40, 63), (1099511627776, 618475290624, 72, 127), (2199023255552, 68719476752, 8, 15), (4398046511104, 2267742732288, 264, 271), (8796093022208, 5566277615616, 648, 1023), (17592186044416, 8864812498944, 1032, 2047), (35184372088832, 17660905521152, 2056, 4095), (70368744177664, 35184372088832, 4104, 8191), (140737488355328, 70368744177665, 8192, 16383), (281474976710656, 211106232532992, 24576, 32767), (562949953421312, 351843720888320, 40960, 65535), (1125899906842624, 633318697598976, 73728, 131071), (2251799813685248, 70368744177680, 8192, 16383), (4503599627370496, 2322168557862912, 270336, 278527), (9007199254740992, 5699868278390784, 663552, 1048575), (18014398509481984, 9077567998918656, 1056768, 2097151), (36028797018963968, 18084767253659648, 2105344, 4194303), (4294967296, 36028797018963968, 4202496, 8388607)] (fun W => W.cell? ⟨w1.heap.size, 0, none⟩ = some (.int .i64 k)) (by kernel_rfl) (by kernel_rfl) (by kernel_rfl) rfl (by kernel_rfl) (by kernel_rfl) HS3.out (fun hS => ?_)
        repeat (first
          | (refine plan_read (v := ?_) rfl (fun _ _ _ h => h) rfl hS ?_ ?_; rotate_left 1; (focus (intro w' hS'; have s3 := hS'; go_simp; try rfl)); (simp only [Act.put, List.setIfInBounds_toArray]; dsimp only [List.set_cons_zero, List.set_cons_succ]))
          | (refine plan_skip rfl (fun _ _ _ h => h) rfl hS ?_; (simp only [Act.put, List.setIfInBounds_toArray]; dsimp only [List.set_cons_zero, List.set_cons_succ])))
        refine plan_nil ?_
        clear hS HS3
        go_wp2_with fail
        have e3 := (H1.out.drew.drew.drew).box.cell 0
        simp only [List.getElem?_toArray, List.getElem?_cons_zero, List.getElem?_cons_succ] at e3
        have HS5 := Lib.hid (e3)
        clear e3
        refine region_fast [(0, true), (1, true), (2, true), (3, true), (4, true), (5, true), (6, true), (7, true), (8, true), (9, true), (10, true), (11, true), (12, true), (13, true), (14, true), (15, true), (16, true), (17, true), (18, true), (19, true), (20, true), (21, true), (22, true), (23, true)] [8, 9, 18, 19] 787200 [(1152921504606846976, 16, 0, 0), (2305843009213693952, 1152921504606846976, 1, 1), (4611686018427387904, 2305843009213693952, 2, 3), (9223372036854775808, 4611686018427387904, 4, 7), (18446744073709551616, 9223372036854775809, 8, 15), (36893488147419103232, 27670116110564327424, 24, 31), (73786976294838206464, 46116860184273879040, 40, 63), (147573952589676412928, 83010348331692982272, 72, 127), (295147905179352825856, 9223372036854775824, 8, 15), (590295810358705651712, 304371277216207601664, 264, 271), (1180591620717411303424, 747093134985236840448, 648, 1023), (2361183241434822606848, 1189814992754266079232, 1032, 2047), (4722366482869645213696, 2370406613471677382656, 2056, 4095), (9444732965739290427392, 4722366482869645213696, 4104, 8191), (18889465931478580854784, 9444732965739290427393, 8192, 16383), (37778931862957161709568, 28334198897217871282176, 24576, 32767), (75557863725914323419136, 47223664828696452136960, 40960, 65535), (151115727451828646838272, 85002596691653613846528, 73728, 131071), (302231454903657293676544, 9444732965739290427408, 8192, 16383), (604462909807314587353088, 311676187869396584103936, 270336, 278527), (1208925819614629174706176, 765023370224882524618752, 663552, 1048575), (2417851639229258349412352, 1218370552580368465133568, 1056768, 2097151), (4835703278458516698824704, 2427296372194997639839744, 2105344, 4194303), (576460752303423488, 4835703278458516698824704, 4202496, 8388607)] (fun W => W.cell? ⟨w1.heap.size, 0, none⟩ = some (.int .i64 k)) (by kernel_rfl) (by kernel_rfl) (by kernel_rfl) rfl (by kernel_rfl) (by kernel_rfl) HS5.out (fun hS => ?_)
        repeat (first
          | (refine plan_read (v := ?_) rfl (fun _ _ _ h => h) rfl hS ?_ ?_; rotate_left 1; (focus (intro w' hS'; have s3 := hS'; go_simp; try rfl)); (simp only [Act.put, List.setIfInBounds_toArray]; dsimp only [List.set_cons_zero, List.set_cons_succ]))
          | (refine plan_skip rfl (fun _ _ _ h => h) rfl hS ?_; (simp only [Act.put, List.setIfInBounds_toArray]; dsimp only [List.set_cons_zero, List.set_cons_succ])))
        refine plan_nil ?_
        clear hS HS5
        go_wp2_with fail
        refine bodyPost_end (results_none rfl _ _ _) rfl ?_
        refine ⟨rfl, ?_, (H1.out.drew.drew.drew).bel⟩
        rw [HE.out]
        exact (H1.out.drew.drew.drew).srch.is
end Go.Proofs.YtphhlfochapecaaDoor
