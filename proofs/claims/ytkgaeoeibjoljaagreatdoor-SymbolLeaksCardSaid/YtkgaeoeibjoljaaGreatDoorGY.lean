/-
  A term made of known ones.
  A search until nothing more follows.
-/
import Derived.Test.YtkgaeoeibjoljaaGreatDoorGX
import Derived.Laws.MakeOwn
namespace Go.Proofs.YtkgaeoeibjoljaaGreatDoor
section
set_option maxRecDepth 4000
open Go.RowKit
set_option maxHeartbeats 1000000 in
theorem together_any (b p n : Nat) (l : List Tm) (s : Sr) (kb kc : Nat) (base pb : Nat) (w : World) (hS : SearchIs w base b p s kb kc) (hP : PoolIs w pb p l) (hp : Pool l) (hl : s.kn.length = l.length) (hn : n < l.length) (hst : s.st.length + 2 <= 10000) (hll : l.length <= 10000) :
  Calls Tryz.prog 159 #[.pointer (some ⟨b, 0, none⟩), .int .i64 n] w fun e w' => e = .returned (.tuple #[]) /\ SearchIs w' base b p (togS l s n) kb kc /\ Below base w w' := by
 have hx : l[n]? = some (l[n]'hn) := List.getElem?_eq_getElem hn
 generalize l[n] = t at hx
 have hr := hp.right n t hx
 have HG := Lh (get_ok p n t l pb w hP hx)
 have hst0 := fun w1 hb => GotAt.start (t := t) hS (w1 := w1) hb
 have c0 : w.cell? ⟨b, 0, none⟩ = some (.pointer (some ⟨p, 0, none⟩)) := by obtain ⟨_, _, h⟩ := hS; exact h.cell0
 have HST := Lh hst0; clear hst0 hP
 have hsz : base <= w.heap.size := by obtain ⟨_, _, h⟩ := hS; exact h.size
 have hnk : n < s.kn.length := by omega
 have hkl : s.kn.length <= 10000 := by omega
 clear hS
 by_cases k3 : t.k = 3
 ·have hxx := okT_x hr (by omega)
  obtain ⟨X, hX⟩ : ∃ X : Nat, t.x = X := ⟨t.x.toNat, by omega⟩
  have hap : togS l s n = if at_ s.kn X = true then learnS s n 4 0 else s := by
   unfold togS; rw [hx]; simp only
   simp [k3, hX]
  obtain ⟨K, hK⟩ : ∃ K, at_ s.kn X = K := ⟨_, rfl⟩
  rw [hK] at hap
  have HE := Lh hap; clear hap
  obtain ⟨k, a, x, y⟩ := t
  unfold tval at HG
  simp only at k3 hX hxx HST
  subst k3
  subst hX
  have g1 : X < s.kn.length := by omega
  have g1i : (X : Int) < (s.kn.length : Int) := by omega
  clear hx hr hl hxx
  cases K with
  | true =>
   rw [if_pos rfl] at HE
   go_enter Tryz.func159, Tryz.ntmps159
   go_wp2_with fail
   refine HG.out.mono ?_
   rintro e w1 ⟨rfl, b1⟩
   have H1 := Lh (HST.out w1 b1)
   clear b1 c0
   go_wp2_with fail
   have e3 := (H1.out.drew).box.cell 0
   obtain ⟨sA1, sc1, hpa, _⟩ := (H1.out.drew).srch
   have e1 := hpa.cell1
   have e2 := hpa.mark (n := X) g1
   rw [hK] at e2
   have e4 := (H1.out.drew).box.cell 2
   simp only [List.getElem?_toArray, List.getElem?_cons_zero, List.getElem?_cons_succ] at e3 e4
   have HS1 := Lh (Ai e1 (Ai e2 (Ai e3 (e4))))
   clear e1 e2 e3 e4 hpa
   refine region_fast [(0, true), (1, true), (2, true), (3, true), (4, true), (5, true), (6, true), (7, true), (8, true), (9, true), (10, true), (11, true), (12, true), (13, true)] [8, 9] 768 [(65536, 16, 0, 0), (131072, 65536, 1, 1), (262144, 131072, 2, 3), (524288, 262144, 4, 7), (1048576, 524289, 8, 15), (2097152, 1572864, 24, 31), (4194304, 2621440, 40, 63), (8388608, 4718592, 72, 127), (16777216, 524304, 8, 15), (33554432, 17301504, 264, 271), (67108864, 42467328, 648, 1023), (134217728, 67633152, 1032, 2047), (268435456, 134742016, 2056, 4095), (32768, 268435456, 4104, 8191)] (fun W => W.cell? ⟨b, 1, none⟩ = some (.slice (some ⟨kb, 0, none⟩) s.kn.length kc) /\ W.cell? ⟨kb, X, none⟩ = some (.bool true) /\ W.cell? ⟨w1.heap.size, 0, none⟩ = some (.int .i64 3) /\ W.cell? ⟨w1.heap.size, 2, none⟩ = some (.int .i64 (X : Int))) (by kernel_rfl) (by kernel_rfl) (by kernel_rfl) rfl (by kernel_rfl) (by kernel_rfl) HS1.out (fun hS => ?_)
   repeat (first
    | (refine plan_read (v := ?_) rfl (fun _ _ _ h => h) rfl hS ?_ ?_; rotate_left 1; (focus (intro w' hS'; obtain ⟨s1, s2, s3, s4⟩ := hS'; go_simp; try rfl)); (simp only [Act.put, pu1]; dsimp only [pu2, pu3]))
    | (refine plan_skip rfl (fun _ _ _ h => h) rfl hS ?_; (simp only [Act.put, pu1]; dsimp only [pu2, pu3])))
   refine plan_nil ?_
   clear hS HS1
   go_wp2_with fail
   refine (learn_in b p n 4 0 s kb kc base _ _ (H1.out.drew).srch hnk (by omega) hkl).mono ?_
   rintro e w3 ⟨rfl, h1, h2⟩
   have H3 := Lh ((H1.out.drew).learnt h1 h2); clear h1 h2
   go_wp2_with fail
   refine bodyPost_end (results_none rfl _ _ _) rfl ?_
   refine ⟨rfl, ?_, H3.out.bel⟩
   rw [HE.out]
   exact H3.out.srch.is
  | false =>
   rw [if_neg (by simp)] at HE
   go_enter Tryz.func159, Tryz.ntmps159
   go_wp2_with fail
   refine HG.out.mono ?_
   rintro e w1 ⟨rfl, b1⟩
   have H1 := Lh (HST.out w1 b1)
   clear b1 c0
   go_wp2_with fail
   have e3 := (H1.out.drew).box.cell 0
   obtain ⟨sA1, sc1, hpa, _⟩ := (H1.out.drew).srch
   have e1 := hpa.cell1
   have e2 := hpa.mark (n := X) g1
   rw [hK] at e2
   have e4 := (H1.out.drew).box.cell 2
   simp only [List.getElem?_toArray, List.getElem?_cons_zero, List.getElem?_cons_succ] at e3 e4
   have HS1 := Lh (Ai e1 (Ai e2 (Ai e3 (e4))))
   clear e1 e2 e3 e4 hpa
   refine region_fast [(0, true), (1, true), (2, true), (3, true), (4, true), (5, true), (6, true), (7, true), (8, true), (9, true), (10, true), (11, true), (12, true), (13, true)] [8, 9] 768 [(65536, 16, 0, 0), (131072, 65536, 1, 1), (262144, 131072, 2, 3), (524288, 262144, 4, 7), (1048576, 524289, 8, 15), (2097152, 1572864, 24, 31), (4194304, 2621440, 40, 63), (8388608, 4718592, 72, 127), (16777216, 524304, 8, 15), (33554432, 17301504, 264, 271), (67108864, 42467328, 648, 1023), (134217728, 67633152, 1032, 2047), (268435456, 134742016, 2056, 4095), (32768, 268435456, 4104, 8191)] (fun W => W.cell? ⟨b, 1, none⟩ = some (.slice (some ⟨kb, 0, none⟩) s.kn.length kc) /\ W.cell? ⟨kb, X, none⟩ = some (.bool false) /\ W.cell? ⟨w1.heap.size, 0, none⟩ = some (.int .i64 3) /\ W.cell? ⟨w1.heap.size, 2, none⟩ = some (.int .i64 (X : Int))) (by kernel_rfl) (by kernel_rfl) (by kernel_rfl) rfl (by kernel_rfl) (by kernel_rfl) HS1.out (fun hS => ?_)
   repeat (first
    | (refine plan_read (v := ?_) rfl (fun _ _ _ h => h) rfl hS ?_ ?_; rotate_left 1; (focus (intro w' hS'; obtain ⟨s1, s2, s3, s4⟩ := hS'; go_simp; try rfl)); (simp only [Act.put, pu1]; dsimp only [pu2, pu3]))
    | (refine plan_skip rfl (fun _ _ _ h => h) rfl hS ?_; (simp only [Act.put, pu1]; dsimp only [pu2, pu3])))
   refine plan_nil ?_
   clear hS HS1
   go_wp2_with fail
   have e3 := (H1.out.drew.drew).box.cell 0
   simp only [List.getElem?_toArray, List.getElem?_cons_zero, List.getElem?_cons_succ] at e3
   have HS3 := Lh (e3)
   clear e3
   refine region_fast [(0, true), (1, true), (2, true), (3, true), (4, true), (5, true), (6, true), (7, true), (8, true), (9, true), (10, true), (11, true), (12, true), (13, true), (14, true), (15, true), (16, true), (17, true), (18, true), (19, true), (20, true), (21, true), (22, true), (23, true)] [8, 9, 18, 19] 787200 [(8589934592, 16, 0, 0), (17179869184, 8589934592, 1, 1), (34359738368, 17179869184, 2, 3), (68719476736, 34359738368, 4, 7), (137438953472, 68719476737, 8, 15), (274877906944, 206158430208, 24, 31), (549755813888, 343597383680, 40, 63), (1099511627776, 618475290624, 72, 127), (2199023255552, 68719476752, 8, 15), (4398046511104, 2267742732288, 264, 271), (8796093022208, 5566277615616, 648, 1023), (17592186044416, 8864812498944, 1032, 2047), (35184372088832, 17660905521152, 2056, 4095), (70368744177664, 35184372088832, 4104, 8191), (140737488355328, 70368744177665, 8192, 16383), (281474976710656, 211106232532992, 24576, 32767), (562949953421312, 351843720888320, 40960, 65535), (1125899906842624, 633318697598976, 73728, 131071), (2251799813685248, 70368744177680, 8192, 16383), (4503599627370496, 2322168557862912, 270336, 278527), (9007199254740992, 5699868278390784, 663552, 1048575), (18014398509481984, 9077567998918656, 1056768, 2097151), (36028797018963968, 18084767253659648, 2105344, 4194303), (4294967296, 36028797018963968, 4202496, 8388607)] (fun W => W.cell? ⟨w1.heap.size, 0, none⟩ = some (.int .i64 3)) (by kernel_rfl) (by kernel_rfl) (by kernel_rfl) rfl (by kernel_rfl) (by kernel_rfl) HS3.out (fun hS => ?_)
   repeat (first
    | (refine plan_read (v := ?_) rfl (fun _ _ _ h => h) rfl hS ?_ ?_; rotate_left 1; (focus (intro w' hS'; have s3 := hS'; go_simp; try rfl)); (simp only [Act.put, pu1]; dsimp only [pu2, pu3]))
    | (refine plan_skip rfl (fun _ _ _ h => h) rfl hS ?_; (simp only [Act.put, pu1]; dsimp only [pu2, pu3])))
   refine plan_nil ?_
   clear hS HS3
   go_wp2_with fail
   have e3 := (H1.out.drew.drew.drew).box.cell 0
   simp only [List.getElem?_toArray, List.getElem?_cons_zero, List.getElem?_cons_succ] at e3
   have HS5 := Lh (e3)
   clear e3
   refine region_fast [(0, true), (1, true), (2, true), (3, true), (4, true), (5, true), (6, true), (7, true), (8, true), (9, true), (10, true), (11, true), (12, true), (13, true), (14, true), (15, true), (16, true), (17, true), (18, true), (19, true), (20, true), (21, true), (22, true), (23, true)] [8, 9, 18, 19] 787200 [(1152921504606846976, 16, 0, 0), (2305843009213693952, 1152921504606846976, 1, 1), (4611686018427387904, 2305843009213693952, 2, 3), (9223372036854775808, 4611686018427387904, 4, 7), (18446744073709551616, 9223372036854775809, 8, 15), (36893488147419103232, 27670116110564327424, 24, 31), (73786976294838206464, 46116860184273879040, 40, 63), (147573952589676412928, 83010348331692982272, 72, 127), (295147905179352825856, 9223372036854775824, 8, 15), (590295810358705651712, 304371277216207601664, 264, 271), (1180591620717411303424, 747093134985236840448, 648, 1023), (2361183241434822606848, 1189814992754266079232, 1032, 2047), (4722366482869645213696, 2370406613471677382656, 2056, 4095), (9444732965739290427392, 4722366482869645213696, 4104, 8191), (18889465931478580854784, 9444732965739290427393, 8192, 16383), (37778931862957161709568, 28334198897217871282176, 24576, 32767), (75557863725914323419136, 47223664828696452136960, 40960, 65535), (151115727451828646838272, 85002596691653613846528, 73728, 131071), (302231454903657293676544, 9444732965739290427408, 8192, 16383), (604462909807314587353088, 311676187869396584103936, 270336, 278527), (1208925819614629174706176, 765023370224882524618752, 663552, 1048575), (2417851639229258349412352, 1218370552580368465133568, 1056768, 2097151), (4835703278458516698824704, 2427296372194997639839744, 2105344, 4194303), (576460752303423488, 4835703278458516698824704, 4202496, 8388607)] (fun W => W.cell? ⟨w1.heap.size, 0, none⟩ = some (.int .i64 3)) (by kernel_rfl) (by kernel_rfl) (by kernel_rfl) rfl (by kernel_rfl) (by kernel_rfl) HS5.out (fun hS => ?_)
   repeat (first
    | (refine plan_read (v := ?_) rfl (fun _ _ _ h => h) rfl hS ?_ ?_; rotate_left 1; (focus (intro w' hS'; have s3 := hS'; go_simp; try rfl)); (simp only [Act.put, pu1]; dsimp only [pu2, pu3]))
    | (refine plan_skip rfl (fun _ _ _ h => h) rfl hS ?_; (simp only [Act.put, pu1]; dsimp only [pu2, pu3])))
   refine plan_nil ?_
   clear hS HS5
   go_wp2_with fail
   refine bodyPost_end (results_none rfl _ _ _) rfl ?_
   refine ⟨rfl, ?_, (H1.out.drew.drew.drew).bel⟩
   rw [HE.out]
   exact (H1.out.drew.drew.drew).srch.is
 ·have k3b : ((t.k : Int) == 3) = false := by simpa using k3
  by_cases k2 : t.k = 2
  ·skip
   have hxx := okT_x hr (by omega)
   have hyy := okT_y hr (by omega) (by omega)
   obtain ⟨X, hX⟩ : ∃ X : Nat, t.x = X := ⟨t.x.toNat, by omega⟩
   obtain ⟨Y, hY⟩ : ∃ Y : Nat, t.y = Y := ⟨t.y.toNat, by omega⟩
   have hap : togS l s n = if at_ s.kn X = true /\ at_ s.kn Y = true then learnS s n 5 0 else s := by
    unfold togS; rw [hx]; simp only
    simp [k2, hX, hY]
   obtain ⟨K, hK⟩ : ∃ K, at_ s.kn X = K := ⟨_, rfl⟩
   obtain ⟨M, hM⟩ : ∃ M, at_ s.kn Y = M := ⟨_, rfl⟩
   rw [hK, hM] at hap
   have HE := Lh hap; clear hap
   clear k3b k3
   obtain ⟨k, a, x, y⟩ := t
   unfold tval at HG
   simp only at k2 hX hY hxx hyy HST
   subst k2
   subst hX
   subst hY
   have g1 : X < s.kn.length := by omega
   have g1i : (X : Int) < (s.kn.length : Int) := by omega
   have g2 : Y < s.kn.length := by omega
   have g2i : (Y : Int) < (s.kn.length : Int) := by omega
   clear hx hr hl hxx hyy
   cases K with
   | true =>
    cases M with
    | true =>
     rw [if_pos ⟨rfl, rfl⟩] at HE
     go_enter Tryz.func159, Tryz.ntmps159
     go_wp2_with fail
     refine HG.out.mono ?_
     rintro e w1 ⟨rfl, b1⟩
     have H1 := Lh (HST.out w1 b1)
     clear b1 c0
     go_wp2_with fail
     have e3 := (H1.out.drew).box.cell 0
     simp only [List.getElem?_toArray, List.getElem?_cons_zero, List.getElem?_cons_succ] at e3
     have HS1 := Lh (e3)
     clear e3
     refine region_fast [(0, true), (1, true), (2, true), (3, true), (4, true), (5, true), (6, true), (7, true), (8, true), (9, true), (10, true), (11, true), (12, true), (13, true)] [8, 9] 768 [(65536, 16, 0, 0), (131072, 65536, 1, 1), (262144, 131072, 2, 3), (524288, 262144, 4, 7), (1048576, 524289, 8, 15), (2097152, 1572864, 24, 31), (4194304, 2621440, 40, 63), (8388608, 4718592, 72, 127), (16777216, 524304, 8, 15), (33554432, 17301504, 264, 271), (67108864, 42467328, 648, 1023), (134217728, 67633152, 1032, 2047), (268435456, 134742016, 2056, 4095), (32768, 268435456, 4104, 8191)] (fun W => W.cell? ⟨w1.heap.size, 0, none⟩ = some (.int .i64 2)) (by kernel_rfl) (by kernel_rfl) (by kernel_rfl) rfl (by kernel_rfl) (by kernel_rfl) HS1.out (fun hS => ?_)
     repeat (first
      | (refine plan_read (v := ?_) rfl (fun _ _ _ h => h) rfl hS ?_ ?_; rotate_left 1; (focus (intro w' hS'; have s3 := hS'; go_simp; try rfl)); (simp only [Act.put, pu1]; dsimp only [pu2, pu3]))
      | (refine plan_skip rfl (fun _ _ _ h => h) rfl hS ?_; (simp only [Act.put, pu1]; dsimp only [pu2, pu3])))
     refine plan_nil ?_
     clear hS HS1
     go_wp2_with fail
     have e3 := (H1.out.drew.drew).box.cell 0
     obtain ⟨sA3, sc3, hpa, _⟩ := (H1.out.drew.drew).srch
     have e1 := hpa.cell1
     have e2 := hpa.mark (n := X) g1
     rw [hK] at e2
     have e4 := (H1.out.drew.drew).box.cell 2
     have e5 := hpa.mark (n := Y) g2
     rw [hM] at e5
     have e6 := (H1.out.drew.drew).box.cell 3
     simp only [List.getElem?_toArray, List.getElem?_cons_zero, List.getElem?_cons_succ] at e3 e4 e6
     have HS3 := Lh (Ai e1 (Ai e2 (Ai e3 (Ai e4 (Ai e5 (e6))))))
     clear e1 e2 e3 e4 e5 e6 hpa
     refine region_fast [(0, true), (1, true), (2, true), (3, true), (4, true), (5, true), (6, true), (7, true), (8, true), (9, true), (10, true), (11, true), (12, true), (13, true), (14, true), (15, true), (16, true), (17, true), (18, true), (19, true), (20, true), (21, true), (22, true), (23, true)] [8, 9, 18, 19] 787200 [(8589934592, 16, 0, 0), (17179869184, 8589934592, 1, 1), (34359738368, 17179869184, 2, 3), (68719476736, 34359738368, 4, 7), (137438953472, 68719476737, 8, 15), (274877906944, 206158430208, 24, 31), (549755813888, 343597383680, 40, 63), (1099511627776, 618475290624, 72, 127), (2199023255552, 68719476752, 8, 15), (4398046511104, 2267742732288, 264, 271), (8796093022208, 5566277615616, 648, 1023), (17592186044416, 8864812498944, 1032, 2047), (35184372088832, 17660905521152, 2056, 4095), (70368744177664, 35184372088832, 4104, 8191), (140737488355328, 70368744177665, 8192, 16383), (281474976710656, 211106232532992, 24576, 32767), (562949953421312, 351843720888320, 40960, 65535), (1125899906842624, 633318697598976, 73728, 131071), (2251799813685248, 70368744177680, 8192, 16383), (4503599627370496, 2322168557862912, 270336, 278527), (9007199254740992, 5699868278390784, 663552, 1048575), (18014398509481984, 9077567998918656, 1056768, 2097151), (36028797018963968, 18084767253659648, 2105344, 4194303), (4294967296, 36028797018963968, 4202496, 8388607)] (fun W => W.cell? ⟨b, 1, none⟩ = some (.slice (some ⟨kb, 0, none⟩) s.kn.length kc) /\ W.cell? ⟨kb, X, none⟩ = some (.bool true) /\ W.cell? ⟨w1.heap.size, 0, none⟩ = some (.int .i64 2) /\ W.cell? ⟨w1.heap.size, 2, none⟩ = some (.int .i64 (X : Int)) /\ W.cell? ⟨kb, Y, none⟩ = some (.bool true) /\ W.cell? ⟨w1.heap.size, 3, none⟩ = some (.int .i64 (Y : Int))) (by kernel_rfl) (by kernel_rfl) (by kernel_rfl) rfl (by kernel_rfl) (by kernel_rfl) HS3.out (fun hS => ?_)
     repeat (first
      | (refine plan_read (v := ?_) rfl (fun _ _ _ h => h) rfl hS ?_ ?_; rotate_left 1; (focus (intro w' hS'; obtain ⟨s1, s2, s3, s4, s5, s6⟩ := hS'; go_simp; try rfl)); (simp only [Act.put, pu1]; dsimp only [pu2, pu3]))
      | (refine plan_skip rfl (fun _ _ _ h => h) rfl hS ?_; (simp only [Act.put, pu1]; dsimp only [pu2, pu3])))
     refine plan_nil ?_
     clear hS HS3
     go_wp2_with fail
     refine (learn_in b p n 5 0 s kb kc base _ _ (H1.out.drew.drew).srch hnk (by omega) hkl).mono ?_
     rintro e w3 ⟨rfl, h1, h2⟩
     have H3 := Lh ((H1.out.drew.drew).learnt h1 h2); clear h1 h2
     go_wp2_with fail
     refine bodyPost_end (results_none rfl _ _ _) rfl ?_
     refine ⟨rfl, ?_, H3.out.bel⟩
     rw [HE.out]
     exact H3.out.srch.is
    | false =>
     rw [if_neg (by simp)] at HE
     go_enter Tryz.func159, Tryz.ntmps159
     go_wp2_with fail
     refine HG.out.mono ?_
     rintro e w1 ⟨rfl, b1⟩
     have H1 := Lh (HST.out w1 b1)
     clear b1 c0
     go_wp2_with fail
     have e3 := (H1.out.drew).box.cell 0
     simp only [List.getElem?_toArray, List.getElem?_cons_zero, List.getElem?_cons_succ] at e3
     have HS1 := Lh (e3)
     clear e3
     refine region_fast [(0, true), (1, true), (2, true), (3, true), (4, true), (5, true), (6, true), (7, true), (8, true), (9, true), (10, true), (11, true), (12, true), (13, true)] [8, 9] 768 [(65536, 16, 0, 0), (131072, 65536, 1, 1), (262144, 131072, 2, 3), (524288, 262144, 4, 7), (1048576, 524289, 8, 15), (2097152, 1572864, 24, 31), (4194304, 2621440, 40, 63), (8388608, 4718592, 72, 127), (16777216, 524304, 8, 15), (33554432, 17301504, 264, 271), (67108864, 42467328, 648, 1023), (134217728, 67633152, 1032, 2047), (268435456, 134742016, 2056, 4095), (32768, 268435456, 4104, 8191)] (fun W => W.cell? ⟨w1.heap.size, 0, none⟩ = some (.int .i64 2)) (by kernel_rfl) (by kernel_rfl) (by kernel_rfl) rfl (by kernel_rfl) (by kernel_rfl) HS1.out (fun hS => ?_)
     repeat (first
      | (refine plan_read (v := ?_) rfl (fun _ _ _ h => h) rfl hS ?_ ?_; rotate_left 1; (focus (intro w' hS'; have s3 := hS'; go_simp; try rfl)); (simp only [Act.put, pu1]; dsimp only [pu2, pu3]))
      | (refine plan_skip rfl (fun _ _ _ h => h) rfl hS ?_; (simp only [Act.put, pu1]; dsimp only [pu2, pu3])))
     refine plan_nil ?_
     clear hS HS1
     go_wp2_with fail
     have e3 := (H1.out.drew.drew).box.cell 0
     obtain ⟨sA3, sc3, hpa, _⟩ := (H1.out.drew.drew).srch
     have e1 := hpa.cell1
     have e2 := hpa.mark (n := X) g1
     rw [hK] at e2
     have e4 := (H1.out.drew.drew).box.cell 2
     have e5 := hpa.mark (n := Y) g2
     rw [hM] at e5
     have e6 := (H1.out.drew.drew).box.cell 3
     simp only [List.getElem?_toArray, List.getElem?_cons_zero, List.getElem?_cons_succ] at e3 e4 e6
     have HS3 := Lh (Ai e1 (Ai e2 (Ai e3 (Ai e4 (Ai e5 (e6))))))
     clear e1 e2 e3 e4 e5 e6 hpa
     refine region_fast [(0, true), (1, true), (2, true), (3, true), (4, true), (5, true), (6, true), (7, true), (8, true), (9, true), (10, true), (11, true), (12, true), (13, true), (14, true), (15, true), (16, true), (17, true), (18, true), (19, true), (20, true), (21, true), (22, true), (23, true)] [8, 9, 18, 19] 787200 [(8589934592, 16, 0, 0), (17179869184, 8589934592, 1, 1), (34359738368, 17179869184, 2, 3), (68719476736, 34359738368, 4, 7), (137438953472, 68719476737, 8, 15), (274877906944, 206158430208, 24, 31), (549755813888, 343597383680, 40, 63), (1099511627776, 618475290624, 72, 127), (2199023255552, 68719476752, 8, 15), (4398046511104, 2267742732288, 264, 271), (8796093022208, 5566277615616, 648, 1023), (17592186044416, 8864812498944, 1032, 2047), (35184372088832, 17660905521152, 2056, 4095), (70368744177664, 35184372088832, 4104, 8191), (140737488355328, 70368744177665, 8192, 16383), (281474976710656, 211106232532992, 24576, 32767), (562949953421312, 351843720888320, 40960, 65535), (1125899906842624, 633318697598976, 73728, 131071), (2251799813685248, 70368744177680, 8192, 16383), (4503599627370496, 2322168557862912, 270336, 278527), (9007199254740992, 5699868278390784, 663552, 1048575), (18014398509481984, 9077567998918656, 1056768, 2097151), (36028797018963968, 18084767253659648, 2105344, 4194303), (4294967296, 36028797018963968, 4202496, 8388607)] (fun W => W.cell? ⟨b, 1, none⟩ = some (.slice (some ⟨kb, 0, none⟩) s.kn.length kc) /\ W.cell? ⟨kb, X, none⟩ = some (.bool true) /\ W.cell? ⟨w1.heap.size, 0, none⟩ = some (.int .i64 2) /\ W.cell? ⟨w1.heap.size, 2, none⟩ = some (.int .i64 (X : Int)) /\ W.cell? ⟨kb, Y, none⟩ = some (.bool false) /\ W.cell? ⟨w1.heap.size, 3, none⟩ = some (.int .i64 (Y : Int))) (by kernel_rfl) (by kernel_rfl) (by kernel_rfl) rfl (by kernel_rfl) (by kernel_rfl) HS3.out (fun hS => ?_)
     repeat (first
      | (refine plan_read (v := ?_) rfl (fun _ _ _ h => h) rfl hS ?_ ?_; rotate_left 1; (focus (intro w' hS'; obtain ⟨s1, s2, s3, s4, s5, s6⟩ := hS'; go_simp; try rfl)); (simp only [Act.put, pu1]; dsimp only [pu2, pu3]))
      | (refine plan_skip rfl (fun _ _ _ h => h) rfl hS ?_; (simp only [Act.put, pu1]; dsimp only [pu2, pu3])))
     refine plan_nil ?_
     clear hS HS3
     go_wp2_with fail
     have e3 := (H1.out.drew.drew.drew).box.cell 0
     simp only [List.getElem?_toArray, List.getElem?_cons_zero, List.getElem?_cons_succ] at e3
     have HS5 := Lh (e3)
     clear e3
     refine region_fast [(0, true), (1, true), (2, true), (3, true), (4, true), (5, true), (6, true), (7, true), (8, true), (9, true), (10, true), (11, true), (12, true), (13, true), (14, true), (15, true), (16, true), (17, true), (18, true), (19, true), (20, true), (21, true), (22, true), (23, true)] [8, 9, 18, 19] 787200 [(1152921504606846976, 16, 0, 0), (2305843009213693952, 1152921504606846976, 1, 1), (4611686018427387904, 2305843009213693952, 2, 3), (9223372036854775808, 4611686018427387904, 4, 7), (18446744073709551616, 9223372036854775809, 8, 15), (36893488147419103232, 27670116110564327424, 24, 31), (73786976294838206464, 46116860184273879040, 40, 63), (147573952589676412928, 83010348331692982272, 72, 127), (295147905179352825856, 9223372036854775824, 8, 15), (590295810358705651712, 304371277216207601664, 264, 271), (1180591620717411303424, 747093134985236840448, 648, 1023), (2361183241434822606848, 1189814992754266079232, 1032, 2047), (4722366482869645213696, 2370406613471677382656, 2056, 4095), (9444732965739290427392, 4722366482869645213696, 4104, 8191), (18889465931478580854784, 9444732965739290427393, 8192, 16383), (37778931862957161709568, 28334198897217871282176, 24576, 32767), (75557863725914323419136, 47223664828696452136960, 40960, 65535), (151115727451828646838272, 85002596691653613846528, 73728, 131071), (302231454903657293676544, 9444732965739290427408, 8192, 16383), (604462909807314587353088, 311676187869396584103936, 270336, 278527), (1208925819614629174706176, 765023370224882524618752, 663552, 1048575), (2417851639229258349412352, 1218370552580368465133568, 1056768, 2097151), (4835703278458516698824704, 2427296372194997639839744, 2105344, 4194303), (576460752303423488, 4835703278458516698824704, 4202496, 8388607)] (fun W => W.cell? ⟨w1.heap.size, 0, none⟩ = some (.int .i64 2)) (by kernel_rfl) (by kernel_rfl) (by kernel_rfl) rfl (by kernel_rfl) (by kernel_rfl) HS5.out (fun hS => ?_)
     repeat (first
      | (refine plan_read (v := ?_) rfl (fun _ _ _ h => h) rfl hS ?_ ?_; rotate_left 1; (focus (intro w' hS'; have s3 := hS'; go_simp; try rfl)); (simp only [Act.put, pu1]; dsimp only [pu2, pu3]))
      | (refine plan_skip rfl (fun _ _ _ h => h) rfl hS ?_; (simp only [Act.put, pu1]; dsimp only [pu2, pu3])))
     refine plan_nil ?_
     clear hS HS5
     go_wp2_with fail
     refine bodyPost_end (results_none rfl _ _ _) rfl ?_
     refine ⟨rfl, ?_, (H1.out.drew.drew.drew).bel⟩
     rw [HE.out]
     exact (H1.out.drew.drew.drew).srch.is
   | false =>
    rw [if_neg (by simp)] at HE
    go_enter Tryz.func159, Tryz.ntmps159
    go_wp2_with fail
    refine HG.out.mono ?_
    rintro e w1 ⟨rfl, b1⟩
    have H1 := Lh (HST.out w1 b1)
    clear b1 c0
    go_wp2_with fail
    have e3 := (H1.out.drew).box.cell 0
    simp only [List.getElem?_toArray, List.getElem?_cons_zero, List.getElem?_cons_succ] at e3
    have HS1 := Lh (e3)
    clear e3
    refine region_fast [(0, true), (1, true), (2, true), (3, true), (4, true), (5, true), (6, true), (7, true), (8, true), (9, true), (10, true), (11, true), (12, true), (13, true)] [8, 9] 768 [(65536, 16, 0, 0), (131072, 65536, 1, 1), (262144, 131072, 2, 3), (524288, 262144, 4, 7), (1048576, 524289, 8, 15), (2097152, 1572864, 24, 31), (4194304, 2621440, 40, 63), (8388608, 4718592, 72, 127), (16777216, 524304, 8, 15), (33554432, 17301504, 264, 271), (67108864, 42467328, 648, 1023), (134217728, 67633152, 1032, 2047), (268435456, 134742016, 2056, 4095), (32768, 268435456, 4104, 8191)] (fun W => W.cell? ⟨w1.heap.size, 0, none⟩ = some (.int .i64 2)) (by kernel_rfl) (by kernel_rfl) (by kernel_rfl) rfl (by kernel_rfl) (by kernel_rfl) HS1.out (fun hS => ?_)
    repeat (first
     | (refine plan_read (v := ?_) rfl (fun _ _ _ h => h) rfl hS ?_ ?_; rotate_left 1; (focus (intro w' hS'; have s3 := hS'; go_simp; try rfl)); (simp only [Act.put, pu1]; dsimp only [pu2, pu3]))
     | (refine plan_skip rfl (fun _ _ _ h => h) rfl hS ?_; (simp only [Act.put, pu1]; dsimp only [pu2, pu3])))
    refine plan_nil ?_
    clear hS HS1
    go_wp2_with fail
    have e3 := (H1.out.drew.drew).box.cell 0
    obtain ⟨sA3, sc3, hpa, _⟩ := (H1.out.drew.drew).srch
    have e1 := hpa.cell1
    have e2 := hpa.mark (n := X) g1
    rw [hK] at e2
    have e4 := (H1.out.drew.drew).box.cell 2
    simp only [List.getElem?_toArray, List.getElem?_cons_zero, List.getElem?_cons_succ] at e3 e4
    have HS3 := Lh (Ai e1 (Ai e2 (Ai e3 (e4))))
    clear e1 e2 e3 e4 hpa
    refine region_fast [(0, true), (1, true), (2, true), (3, true), (4, true), (5, true), (6, true), (7, true), (8, true), (9, true), (10, true), (11, true), (12, true), (13, true), (14, true), (15, true), (16, true), (17, true), (18, true), (19, true), (20, true), (21, true), (22, true), (23, true)] [8, 9, 18, 19] 787200 [(8589934592, 16, 0, 0), (17179869184, 8589934592, 1, 1), (34359738368, 17179869184, 2, 3), (68719476736, 34359738368, 4, 7), (137438953472, 68719476737, 8, 15), (274877906944, 206158430208, 24, 31), (549755813888, 343597383680, 40, 63), (1099511627776, 618475290624, 72, 127), (2199023255552, 68719476752, 8, 15), (4398046511104, 2267742732288, 264, 271), (8796093022208, 5566277615616, 648, 1023), (17592186044416, 8864812498944, 1032, 2047), (35184372088832, 17660905521152, 2056, 4095), (70368744177664, 35184372088832, 4104, 8191), (140737488355328, 70368744177665, 8192, 16383), (281474976710656, 211106232532992, 24576, 32767), (562949953421312, 351843720888320, 40960, 65535), (1125899906842624, 633318697598976, 73728, 131071), (2251799813685248, 70368744177680, 8192, 16383), (4503599627370496, 2322168557862912, 270336, 278527), (9007199254740992, 5699868278390784, 663552, 1048575), (18014398509481984, 9077567998918656, 1056768, 2097151), (36028797018963968, 18084767253659648, 2105344, 4194303), (4294967296, 36028797018963968, 4202496, 8388607)] (fun W => W.cell? ⟨b, 1, none⟩ = some (.slice (some ⟨kb, 0, none⟩) s.kn.length kc) /\ W.cell? ⟨kb, X, none⟩ = some (.bool false) /\ W.cell? ⟨w1.heap.size, 0, none⟩ = some (.int .i64 2) /\ W.cell? ⟨w1.heap.size, 2, none⟩ = some (.int .i64 (X : Int))) (by kernel_rfl) (by kernel_rfl) (by kernel_rfl) rfl (by kernel_rfl) (by kernel_rfl) HS3.out (fun hS => ?_)
    repeat (first
     | (refine plan_read (v := ?_) rfl (fun _ _ _ h => h) rfl hS ?_ ?_; rotate_left 1; (focus (intro w' hS'; obtain ⟨s1, s2, s3, s4⟩ := hS'; go_simp; try rfl)); (simp only [Act.put, pu1]; dsimp only [pu2, pu3]))
     | (refine plan_skip rfl (fun _ _ _ h => h) rfl hS ?_; (simp only [Act.put, pu1]; dsimp only [pu2, pu3])))
    refine plan_nil ?_
    clear hS HS3
    go_wp2_with fail
    have e3 := (H1.out.drew.drew.drew).box.cell 0
    simp only [List.getElem?_toArray, List.getElem?_cons_zero, List.getElem?_cons_succ] at e3
    have HS5 := Lh (e3)
    clear e3
    refine region_fast [(0, true), (1, true), (2, true), (3, true), (4, true), (5, true), (6, true), (7, true), (8, true), (9, true), (10, true), (11, true), (12, true), (13, true), (14, true), (15, true), (16, true), (17, true), (18, true), (19, true), (20, true), (21, true), (22, true), (23, true)] [8, 9, 18, 19] 787200 [(1152921504606846976, 16, 0, 0), (2305843009213693952, 1152921504606846976, 1, 1), (4611686018427387904, 2305843009213693952, 2, 3), (9223372036854775808, 4611686018427387904, 4, 7), (18446744073709551616, 9223372036854775809, 8, 15), (36893488147419103232, 27670116110564327424, 24, 31), (73786976294838206464, 46116860184273879040, 40, 63), (147573952589676412928, 83010348331692982272, 72, 127), (295147905179352825856, 9223372036854775824, 8, 15), (590295810358705651712, 304371277216207601664, 264, 271), (1180591620717411303424, 747093134985236840448, 648, 1023), (2361183241434822606848, 1189814992754266079232, 1032, 2047), (4722366482869645213696, 2370406613471677382656, 2056, 4095), (9444732965739290427392, 4722366482869645213696, 4104, 8191), (18889465931478580854784, 9444732965739290427393, 8192, 16383), (37778931862957161709568, 28334198897217871282176, 24576, 32767), (75557863725914323419136, 47223664828696452136960, 40960, 65535), (151115727451828646838272, 85002596691653613846528, 73728, 131071), (302231454903657293676544, 9444732965739290427408, 8192, 16383), (604462909807314587353088, 311676187869396584103936, 270336, 278527), (1208925819614629174706176, 765023370224882524618752, 663552, 1048575), (2417851639229258349412352, 1218370552580368465133568, 1056768, 2097151), (4835703278458516698824704, 2427296372194997639839744, 2105344, 4194303), (576460752303423488, 4835703278458516698824704, 4202496, 8388607)] (fun W => W.cell? ⟨w1.heap.size, 0, none⟩ = some (.int .i64 2)) (by kernel_rfl) (by kernel_rfl) (by kernel_rfl) rfl (by kernel_rfl) (by kernel_rfl) HS5.out (fun hS => ?_)
    repeat (first
     | (refine plan_read (v := ?_) rfl (fun _ _ _ h => h) rfl hS ?_ ?_; rotate_left 1; (focus (intro w' hS'; have s3 := hS'; go_simp; try rfl)); (simp only [Act.put, pu1]; dsimp only [pu2, pu3]))
     | (refine plan_skip rfl (fun _ _ _ h => h) rfl hS ?_; (simp only [Act.put, pu1]; dsimp only [pu2, pu3])))
    refine plan_nil ?_
    clear hS HS5
    go_wp2_with fail
    refine bodyPost_end (results_none rfl _ _ _) rfl ?_
    refine ⟨rfl, ?_, (H1.out.drew.drew.drew).bel⟩
    rw [HE.out]
    exact (H1.out.drew.drew.drew).srch.is
  ·have k2b : ((t.k : Int) == 2) = false := by simpa using k2
   by_cases k4 : t.k = 4
   ·skip
    have hxx := okT_x hr (by omega)
    have hyy := okT_y hr (by omega) (by omega)
    obtain ⟨X, hX⟩ : ∃ X : Nat, t.x = X := ⟨t.x.toNat, by omega⟩
    obtain ⟨Y, hY⟩ : ∃ Y : Nat, t.y = Y := ⟨t.y.toNat, by omega⟩
    have hap : togS l s n = if at_ s.kn X = true /\ at_ s.kn Y = true then learnS s n 6 0 else s := by
     unfold togS; rw [hx]; simp only
     simp [k4, hX, hY]
    obtain ⟨K, hK⟩ : ∃ K, at_ s.kn X = K := ⟨_, rfl⟩
    obtain ⟨M, hM⟩ : ∃ M, at_ s.kn Y = M := ⟨_, rfl⟩
    rw [hK, hM] at hap
    have HE := Lh hap; clear hap
    clear k3b k3 k2 k2b
    obtain ⟨k, a, x, y⟩ := t
    unfold tval at HG
    simp only at k4 hX hY hxx hyy HST
    subst k4
    subst hX
    subst hY
    have g1 : X < s.kn.length := by omega
    have g1i : (X : Int) < (s.kn.length : Int) := by omega
    have g2 : Y < s.kn.length := by omega
    have g2i : (Y : Int) < (s.kn.length : Int) := by omega
    clear hx hr hl hxx hyy
    cases K with
    | true =>
     cases M with
     | true =>
      rw [if_pos ⟨rfl, rfl⟩] at HE
      go_enter Tryz.func159, Tryz.ntmps159
      go_wp2_with fail
      refine HG.out.mono ?_
      rintro e w1 ⟨rfl, b1⟩
      have H1 := Lh (HST.out w1 b1)
      clear b1 c0
      go_wp2_with fail
      have e3 := (H1.out.drew).box.cell 0
      simp only [List.getElem?_toArray, List.getElem?_cons_zero, List.getElem?_cons_succ] at e3
      have HS1 := Lh (e3)
      clear e3
      refine region_fast [(0, true), (1, true), (2, true), (3, true), (4, true), (5, true), (6, true), (7, true), (8, true), (9, true), (10, true), (11, true), (12, true), (13, true)] [8, 9] 768 [(65536, 16, 0, 0), (131072, 65536, 1, 1), (262144, 131072, 2, 3), (524288, 262144, 4, 7), (1048576, 524289, 8, 15), (2097152, 1572864, 24, 31), (4194304, 2621440, 40, 63), (8388608, 4718592, 72, 127), (16777216, 524304, 8, 15), (33554432, 17301504, 264, 271), (67108864, 42467328, 648, 1023), (134217728, 67633152, 1032, 2047), (268435456, 134742016, 2056, 4095), (32768, 268435456, 4104, 8191)] (fun W => W.cell? ⟨w1.heap.size, 0, none⟩ = some (.int .i64 4)) (by kernel_rfl) (by kernel_rfl) (by kernel_rfl) rfl (by kernel_rfl) (by kernel_rfl) HS1.out (fun hS => ?_)
      repeat (first
       | (refine plan_read (v := ?_) rfl (fun _ _ _ h => h) rfl hS ?_ ?_; rotate_left 1; (focus (intro w' hS'; have s3 := hS'; go_simp; try rfl)); (simp only [Act.put, pu1]; dsimp only [pu2, pu3]))
       | (refine plan_skip rfl (fun _ _ _ h => h) rfl hS ?_; (simp only [Act.put, pu1]; dsimp only [pu2, pu3])))
      refine plan_nil ?_
      clear hS HS1
      go_wp2_with fail
      have e3 := (H1.out.drew.drew).box.cell 0
      simp only [List.getElem?_toArray, List.getElem?_cons_zero, List.getElem?_cons_succ] at e3
      have HS3 := Lh (e3)
      clear e3
      refine region_fast [(0, true), (1, true), (2, true), (3, true), (4, true), (5, true), (6, true), (7, true), (8, true), (9, true), (10, true), (11, true), (12, true), (13, true), (14, true), (15, true), (16, true), (17, true), (18, true), (19, true), (20, true), (21, true), (22, true), (23, true)] [8, 9, 18, 19] 787200 [(8589934592, 16, 0, 0), (17179869184, 8589934592, 1, 1), (34359738368, 17179869184, 2, 3), (68719476736, 34359738368, 4, 7), (137438953472, 68719476737, 8, 15), (274877906944, 206158430208, 24, 31), (549755813888, 343597383680, 40, 63), (1099511627776, 618475290624, 72, 127), (2199023255552, 68719476752, 8, 15), (4398046511104, 2267742732288, 264, 271), (8796093022208, 5566277615616, 648, 1023), (17592186044416, 8864812498944, 1032, 2047), (35184372088832, 17660905521152, 2056, 4095), (70368744177664, 35184372088832, 4104, 8191), (140737488355328, 70368744177665, 8192, 16383), (281474976710656, 211106232532992, 24576, 32767), (562949953421312, 351843720888320, 40960, 65535), (1125899906842624, 633318697598976, 73728, 131071), (2251799813685248, 70368744177680, 8192, 16383), (4503599627370496, 2322168557862912, 270336, 278527), (9007199254740992, 5699868278390784, 663552, 1048575), (18014398509481984, 9077567998918656, 1056768, 2097151), (36028797018963968, 18084767253659648, 2105344, 4194303), (4294967296, 36028797018963968, 4202496, 8388607)] (fun W => W.cell? ⟨w1.heap.size, 0, none⟩ = some (.int .i64 4)) (by kernel_rfl) (by kernel_rfl) (by kernel_rfl) rfl (by kernel_rfl) (by kernel_rfl) HS3.out (fun hS => ?_)
      repeat (first
       | (refine plan_read (v := ?_) rfl (fun _ _ _ h => h) rfl hS ?_ ?_; rotate_left 1; (focus (intro w' hS'; have s3 := hS'; go_simp; try rfl)); (simp only [Act.put, pu1]; dsimp only [pu2, pu3]))
       | (refine plan_skip rfl (fun _ _ _ h => h) rfl hS ?_; (simp only [Act.put, pu1]; dsimp only [pu2, pu3])))
      refine plan_nil ?_
      clear hS HS3
      go_wp2_with fail
      have e3 := (H1.out.drew.drew.drew).box.cell 0
      obtain ⟨sA5, sc5, hpa, _⟩ := (H1.out.drew.drew.drew).srch
      have e1 := hpa.cell1
      have e2 := hpa.mark (n := X) g1
      rw [hK] at e2
      have e4 := (H1.out.drew.drew.drew).box.cell 2
      have e5 := hpa.mark (n := Y) g2
      rw [hM] at e5
      have e6 := (H1.out.drew.drew.drew).box.cell 3
      simp only [List.getElem?_toArray, List.getElem?_cons_zero, List.getElem?_cons_succ] at e3 e4 e6
      have HS5 := Lh (Ai e1 (Ai e2 (Ai e3 (Ai e4 (Ai e5 (e6))))))
      clear e1 e2 e3 e4 e5 e6 hpa
      refine region_fast [(0, true), (1, true), (2, true), (3, true), (4, true), (5, true), (6, true), (7, true), (8, true), (9, true), (10, true), (11, true), (12, true), (13, true), (14, true), (15, true), (16, true), (17, true), (18, true), (19, true), (20, true), (21, true), (22, true), (23, true)] [8, 9, 18, 19] 787200 [(1152921504606846976, 16, 0, 0), (2305843009213693952, 1152921504606846976, 1, 1), (4611686018427387904, 2305843009213693952, 2, 3), (9223372036854775808, 4611686018427387904, 4, 7), (18446744073709551616, 9223372036854775809, 8, 15), (36893488147419103232, 27670116110564327424, 24, 31), (73786976294838206464, 46116860184273879040, 40, 63), (147573952589676412928, 83010348331692982272, 72, 127), (295147905179352825856, 9223372036854775824, 8, 15), (590295810358705651712, 304371277216207601664, 264, 271), (1180591620717411303424, 747093134985236840448, 648, 1023), (2361183241434822606848, 1189814992754266079232, 1032, 2047), (4722366482869645213696, 2370406613471677382656, 2056, 4095), (9444732965739290427392, 4722366482869645213696, 4104, 8191), (18889465931478580854784, 9444732965739290427393, 8192, 16383), (37778931862957161709568, 28334198897217871282176, 24576, 32767), (75557863725914323419136, 47223664828696452136960, 40960, 65535), (151115727451828646838272, 85002596691653613846528, 73728, 131071), (302231454903657293676544, 9444732965739290427408, 8192, 16383), (604462909807314587353088, 311676187869396584103936, 270336, 278527), (1208925819614629174706176, 765023370224882524618752, 663552, 1048575), (2417851639229258349412352, 1218370552580368465133568, 1056768, 2097151), (4835703278458516698824704, 2427296372194997639839744, 2105344, 4194303), (576460752303423488, 4835703278458516698824704, 4202496, 8388607)] (fun W => W.cell? ⟨b, 1, none⟩ = some (.slice (some ⟨kb, 0, none⟩) s.kn.length kc) /\ W.cell? ⟨kb, X, none⟩ = some (.bool true) /\ W.cell? ⟨w1.heap.size, 0, none⟩ = some (.int .i64 4) /\ W.cell? ⟨w1.heap.size, 2, none⟩ = some (.int .i64 (X : Int)) /\ W.cell? ⟨kb, Y, none⟩ = some (.bool true) /\ W.cell? ⟨w1.heap.size, 3, none⟩ = some (.int .i64 (Y : Int))) (by kernel_rfl) (by kernel_rfl) (by kernel_rfl) rfl (by kernel_rfl) (by kernel_rfl) HS5.out (fun hS => ?_)
      repeat (first
       | (refine plan_read (v := ?_) rfl (fun _ _ _ h => h) rfl hS ?_ ?_; rotate_left 1; (focus (intro w' hS'; obtain ⟨s1, s2, s3, s4, s5, s6⟩ := hS'; go_simp; try rfl)); (simp only [Act.put, pu1]; dsimp only [pu2, pu3]))
       | (refine plan_skip rfl (fun _ _ _ h => h) rfl hS ?_; (simp only [Act.put, pu1]; dsimp only [pu2, pu3])))
      refine plan_nil ?_
      clear hS HS5
      go_wp2_with fail
      refine (learn_in b p n 6 0 s kb kc base _ _ (H1.out.drew.drew.drew).srch hnk (by omega) hkl).mono ?_
      rintro e w3 ⟨rfl, h1, h2⟩
      have H3 := Lh ((H1.out.drew.drew.drew).learnt h1 h2); clear h1 h2
      go_wp2_with fail
      refine bodyPost_end (results_none rfl _ _ _) rfl ?_
      refine ⟨rfl, ?_, H3.out.bel⟩
      rw [HE.out]
      exact H3.out.srch.is
     | false =>
      rw [if_neg (by simp)] at HE
      go_enter Tryz.func159, Tryz.ntmps159
      go_wp2_with fail
      refine HG.out.mono ?_
      rintro e w1 ⟨rfl, b1⟩
      have H1 := Lh (HST.out w1 b1)
      clear b1 c0
      go_wp2_with fail
      have e3 := (H1.out.drew).box.cell 0
      simp only [List.getElem?_toArray, List.getElem?_cons_zero, List.getElem?_cons_succ] at e3
      have HS1 := Lh (e3)
      clear e3
      refine region_fast [(0, true), (1, true), (2, true), (3, true), (4, true), (5, true), (6, true), (7, true), (8, true), (9, true), (10, true), (11, true), (12, true), (13, true)] [8, 9] 768 [(65536, 16, 0, 0), (131072, 65536, 1, 1), (262144, 131072, 2, 3), (524288, 262144, 4, 7), (1048576, 524289, 8, 15), (2097152, 1572864, 24, 31), (4194304, 2621440, 40, 63), (8388608, 4718592, 72, 127), (16777216, 524304, 8, 15), (33554432, 17301504, 264, 271), (67108864, 42467328, 648, 1023), (134217728, 67633152, 1032, 2047), (268435456, 134742016, 2056, 4095), (32768, 268435456, 4104, 8191)] (fun W => W.cell? ⟨w1.heap.size, 0, none⟩ = some (.int .i64 4)) (by kernel_rfl) (by kernel_rfl) (by kernel_rfl) rfl (by kernel_rfl) (by kernel_rfl) HS1.out (fun hS => ?_)
      repeat (first
       | (refine plan_read (v := ?_) rfl (fun _ _ _ h => h) rfl hS ?_ ?_; rotate_left 1; (focus (intro w' hS'; have s3 := hS'; go_simp; try rfl)); (simp only [Act.put, pu1]; dsimp only [pu2, pu3]))
       | (refine plan_skip rfl (fun _ _ _ h => h) rfl hS ?_; (simp only [Act.put, pu1]; dsimp only [pu2, pu3])))
      refine plan_nil ?_
      clear hS HS1
      go_wp2_with fail
      have e3 := (H1.out.drew.drew).box.cell 0
      simp only [List.getElem?_toArray, List.getElem?_cons_zero, List.getElem?_cons_succ] at e3
      have HS3 := Lh (e3)
      clear e3
      refine region_fast [(0, true), (1, true), (2, true), (3, true), (4, true), (5, true), (6, true), (7, true), (8, true), (9, true), (10, true), (11, true), (12, true), (13, true), (14, true), (15, true), (16, true), (17, true), (18, true), (19, true), (20, true), (21, true), (22, true), (23, true)] [8, 9, 18, 19] 787200 [(8589934592, 16, 0, 0), (17179869184, 8589934592, 1, 1), (34359738368, 17179869184, 2, 3), (68719476736, 34359738368, 4, 7), (137438953472, 68719476737, 8, 15), (274877906944, 206158430208, 24, 31), (549755813888, 343597383680, 40, 63), (1099511627776, 618475290624, 72, 127), (2199023255552, 68719476752, 8, 15), (4398046511104, 2267742732288, 264, 271), (8796093022208, 5566277615616, 648, 1023), (17592186044416, 8864812498944, 1032, 2047), (35184372088832, 17660905521152, 2056, 4095), (70368744177664, 35184372088832, 4104, 8191), (140737488355328, 70368744177665, 8192, 16383), (281474976710656, 211106232532992, 24576, 32767), (562949953421312, 351843720888320, 40960, 65535), (1125899906842624, 633318697598976, 73728, 131071), (2251799813685248, 70368744177680, 8192, 16383), (4503599627370496, 2322168557862912, 270336, 278527), (9007199254740992, 5699868278390784, 663552, 1048575), (18014398509481984, 9077567998918656, 1056768, 2097151), (36028797018963968, 18084767253659648, 2105344, 4194303), (4294967296, 36028797018963968, 4202496, 8388607)] (fun W => W.cell? ⟨w1.heap.size, 0, none⟩ = some (.int .i64 4)) (by kernel_rfl) (by kernel_rfl) (by kernel_rfl) rfl (by kernel_rfl) (by kernel_rfl) HS3.out (fun hS => ?_)
      repeat (first
       | (refine plan_read (v := ?_) rfl (fun _ _ _ h => h) rfl hS ?_ ?_; rotate_left 1; (focus (intro w' hS'; have s3 := hS'; go_simp; try rfl)); (simp only [Act.put, pu1]; dsimp only [pu2, pu3]))
       | (refine plan_skip rfl (fun _ _ _ h => h) rfl hS ?_; (simp only [Act.put, pu1]; dsimp only [pu2, pu3])))
      refine plan_nil ?_
      clear hS HS3
      go_wp2_with fail
      have e3 := (H1.out.drew.drew.drew).box.cell 0
      obtain ⟨sA5, sc5, hpa, _⟩ := (H1.out.drew.drew.drew).srch
      have e1 := hpa.cell1
      have e2 := hpa.mark (n := X) g1
      rw [hK] at e2
      have e4 := (H1.out.drew.drew.drew).box.cell 2
      have e5 := hpa.mark (n := Y) g2
      rw [hM] at e5
      have e6 := (H1.out.drew.drew.drew).box.cell 3
      simp only [List.getElem?_toArray, List.getElem?_cons_zero, List.getElem?_cons_succ] at e3 e4 e6
      have HS5 := Lh (Ai e1 (Ai e2 (Ai e3 (Ai e4 (Ai e5 (e6))))))
      clear e1 e2 e3 e4 e5 e6 hpa
      refine region_fast [(0, true), (1, true), (2, true), (3, true), (4, true), (5, true), (6, true), (7, true), (8, true), (9, true), (10, true), (11, true), (12, true), (13, true), (14, true), (15, true), (16, true), (17, true), (18, true), (19, true), (20, true), (21, true), (22, true), (23, true)] [8, 9, 18, 19] 787200 [(1152921504606846976, 16, 0, 0), (2305843009213693952, 1152921504606846976, 1, 1), (4611686018427387904, 2305843009213693952, 2, 3), (9223372036854775808, 4611686018427387904, 4, 7), (18446744073709551616, 9223372036854775809, 8, 15), (36893488147419103232, 27670116110564327424, 24, 31), (73786976294838206464, 46116860184273879040, 40, 63), (147573952589676412928, 83010348331692982272, 72, 127), (295147905179352825856, 9223372036854775824, 8, 15), (590295810358705651712, 304371277216207601664, 264, 271), (1180591620717411303424, 747093134985236840448, 648, 1023), (2361183241434822606848, 1189814992754266079232, 1032, 2047), (4722366482869645213696, 2370406613471677382656, 2056, 4095), (9444732965739290427392, 4722366482869645213696, 4104, 8191), (18889465931478580854784, 9444732965739290427393, 8192, 16383), (37778931862957161709568, 28334198897217871282176, 24576, 32767), (75557863725914323419136, 47223664828696452136960, 40960, 65535), (151115727451828646838272, 85002596691653613846528, 73728, 131071), (302231454903657293676544, 9444732965739290427408, 8192, 16383), (604462909807314587353088, 311676187869396584103936, 270336, 278527), (1208925819614629174706176, 765023370224882524618752, 663552, 1048575), (2417851639229258349412352, 1218370552580368465133568, 1056768, 2097151), (4835703278458516698824704, 2427296372194997639839744, 2105344, 4194303), (576460752303423488, 4835703278458516698824704, 4202496, 8388607)] (fun W => W.cell? ⟨b, 1, none⟩ = some (.slice (some ⟨kb, 0, none⟩) s.kn.length kc) /\ W.cell? ⟨kb, X, none⟩ = some (.bool true) /\ W.cell? ⟨w1.heap.size, 0, none⟩ = some (.int .i64 4) /\ W.cell? ⟨w1.heap.size, 2, none⟩ = some (.int .i64 (X : Int)) /\ W.cell? ⟨kb, Y, none⟩ = some (.bool false) /\ W.cell? ⟨w1.heap.size, 3, none⟩ = some (.int .i64 (Y : Int))) (by kernel_rfl) (by kernel_rfl) (by kernel_rfl) rfl (by kernel_rfl) (by kernel_rfl) HS5.out (fun hS => ?_)
      repeat (first
       | (refine plan_read (v := ?_) rfl (fun _ _ _ h => h) rfl hS ?_ ?_; rotate_left 1; (focus (intro w' hS'; obtain ⟨s1, s2, s3, s4, s5, s6⟩ := hS'; go_simp; try rfl)); (simp only [Act.put, pu1]; dsimp only [pu2, pu3]))
       | (refine plan_skip rfl (fun _ _ _ h => h) rfl hS ?_; (simp only [Act.put, pu1]; dsimp only [pu2, pu3])))
      refine plan_nil ?_
      clear hS HS5
      go_wp2_with fail
      refine bodyPost_end (results_none rfl _ _ _) rfl ?_
      refine ⟨rfl, ?_, (H1.out.drew.drew.drew).bel⟩
      rw [HE.out]
      exact (H1.out.drew.drew.drew).srch.is
    | false =>
     rw [if_neg (by simp)] at HE
     go_enter Tryz.func159, Tryz.ntmps159
     go_wp2_with fail
     refine HG.out.mono ?_
     rintro e w1 ⟨rfl, b1⟩
     have H1 := Lh (HST.out w1 b1)
     clear b1 c0
     go_wp2_with fail
     have e3 := (H1.out.drew).box.cell 0
     simp only [List.getElem?_toArray, List.getElem?_cons_zero, List.getElem?_cons_succ] at e3
     have HS1 := Lh (e3)
     clear e3
     refine region_fast [(0, true), (1, true), (2, true), (3, true), (4, true), (5, true), (6, true), (7, true), (8, true), (9, true), (10, true), (11, true), (12, true), (13, true)] [8, 9] 768 [(65536, 16, 0, 0), (131072, 65536, 1, 1), (262144, 131072, 2, 3), (524288, 262144, 4, 7), (1048576, 524289, 8, 15), (2097152, 1572864, 24, 31), (4194304, 2621440, 40, 63), (8388608, 4718592, 72, 127), (16777216, 524304, 8, 15), (33554432, 17301504, 264, 271), (67108864, 42467328, 648, 1023), (134217728, 67633152, 1032, 2047), (268435456, 134742016, 2056, 4095), (32768, 268435456, 4104, 8191)] (fun W => W.cell? ⟨w1.heap.size, 0, none⟩ = some (.int .i64 4)) (by kernel_rfl) (by kernel_rfl) (by kernel_rfl) rfl (by kernel_rfl) (by kernel_rfl) HS1.out (fun hS => ?_)
     repeat (first
      | (refine plan_read (v := ?_) rfl (fun _ _ _ h => h) rfl hS ?_ ?_; rotate_left 1; (focus (intro w' hS'; have s3 := hS'; go_simp; try rfl)); (simp only [Act.put, pu1]; dsimp only [pu2, pu3]))
      | (refine plan_skip rfl (fun _ _ _ h => h) rfl hS ?_; (simp only [Act.put, pu1]; dsimp only [pu2, pu3])))
     refine plan_nil ?_
     clear hS HS1
     go_wp2_with fail
     have e3 := (H1.out.drew.drew).box.cell 0
     simp only [List.getElem?_toArray, List.getElem?_cons_zero, List.getElem?_cons_succ] at e3
     have HS3 := Lh (e3)
     clear e3
     refine region_fast [(0, true), (1, true), (2, true), (3, true), (4, true), (5, true), (6, true), (7, true), (8, true), (9, true), (10, true), (11, true), (12, true), (13, true), (14, true), (15, true), (16, true), (17, true), (18, true), (19, true), (20, true), (21, true), (22, true), (23, true)] [8, 9, 18, 19] 787200 [(8589934592, 16, 0, 0), (17179869184, 8589934592, 1, 1), (34359738368, 17179869184, 2, 3), (68719476736, 34359738368, 4, 7), (137438953472, 68719476737, 8, 15), (274877906944, 206158430208, 24, 31), (549755813888, 343597383680, 40, 63), (1099511627776, 618475290624, 72, 127), (2199023255552, 68719476752, 8, 15), (4398046511104, 2267742732288, 264, 271), (8796093022208, 5566277615616, 648, 1023), (17592186044416, 8864812498944, 1032, 2047), (35184372088832, 17660905521152, 2056, 4095), (70368744177664, 35184372088832, 4104, 8191), (140737488355328, 70368744177665, 8192, 16383), (281474976710656, 211106232532992, 24576, 32767), (562949953421312, 351843720888320, 40960, 65535), (1125899906842624, 633318697598976, 73728, 131071), (2251799813685248, 70368744177680, 8192, 16383), (4503599627370496, 2322168557862912, 270336, 278527), (9007199254740992, 5699868278390784, 663552, 1048575), (18014398509481984, 9077567998918656, 1056768, 2097151), (36028797018963968, 18084767253659648, 2105344, 4194303), (4294967296, 36028797018963968, 4202496, 8388607)] (fun W => W.cell? ⟨w1.heap.size, 0, none⟩ = some (.int .i64 4)) (by kernel_rfl) (by kernel_rfl) (by kernel_rfl) rfl (by kernel_rfl) (by kernel_rfl) HS3.out (fun hS => ?_)
     repeat (first
      | (refine plan_read (v := ?_) rfl (fun _ _ _ h => h) rfl hS ?_ ?_; rotate_left 1; (focus (intro w' hS'; have s3 := hS'; go_simp; try rfl)); (simp only [Act.put, pu1]; dsimp only [pu2, pu3]))
      | (refine plan_skip rfl (fun _ _ _ h => h) rfl hS ?_; (simp only [Act.put, pu1]; dsimp only [pu2, pu3])))
     refine plan_nil ?_
     clear hS HS3
     go_wp2_with fail
     have e3 := (H1.out.drew.drew.drew).box.cell 0
     obtain ⟨sA5, sc5, hpa, _⟩ := (H1.out.drew.drew.drew).srch
     have e1 := hpa.cell1
     have e2 := hpa.mark (n := X) g1
     rw [hK] at e2
     have e4 := (H1.out.drew.drew.drew).box.cell 2
     simp only [List.getElem?_toArray, List.getElem?_cons_zero, List.getElem?_cons_succ] at e3 e4
     have HS5 := Lh (Ai e1 (Ai e2 (Ai e3 (e4))))
     clear e1 e2 e3 e4 hpa
     refine region_fast [(0, true), (1, true), (2, true), (3, true), (4, true), (5, true), (6, true), (7, true), (8, true), (9, true), (10, true), (11, true), (12, true), (13, true), (14, true), (15, true), (16, true), (17, true), (18, true), (19, true), (20, true), (21, true), (22, true), (23, true)] [8, 9, 18, 19] 787200 [(1152921504606846976, 16, 0, 0), (2305843009213693952, 1152921504606846976, 1, 1), (4611686018427387904, 2305843009213693952, 2, 3), (9223372036854775808, 4611686018427387904, 4, 7), (18446744073709551616, 9223372036854775809, 8, 15), (36893488147419103232, 27670116110564327424, 24, 31), (73786976294838206464, 46116860184273879040, 40, 63), (147573952589676412928, 83010348331692982272, 72, 127), (295147905179352825856, 9223372036854775824, 8, 15), (590295810358705651712, 304371277216207601664, 264, 271), (1180591620717411303424, 747093134985236840448, 648, 1023), (2361183241434822606848, 1189814992754266079232, 1032, 2047), (4722366482869645213696, 2370406613471677382656, 2056, 4095), (9444732965739290427392, 4722366482869645213696, 4104, 8191), (18889465931478580854784, 9444732965739290427393, 8192, 16383), (37778931862957161709568, 28334198897217871282176, 24576, 32767), (75557863725914323419136, 47223664828696452136960, 40960, 65535), (151115727451828646838272, 85002596691653613846528, 73728, 131071), (302231454903657293676544, 9444732965739290427408, 8192, 16383), (604462909807314587353088, 311676187869396584103936, 270336, 278527), (1208925819614629174706176, 765023370224882524618752, 663552, 1048575), (2417851639229258349412352, 1218370552580368465133568, 1056768, 2097151), (4835703278458516698824704, 2427296372194997639839744, 2105344, 4194303), (576460752303423488, 4835703278458516698824704, 4202496, 8388607)] (fun W => W.cell? ⟨b, 1, none⟩ = some (.slice (some ⟨kb, 0, none⟩) s.kn.length kc) /\ W.cell? ⟨kb, X, none⟩ = some (.bool false) /\ W.cell? ⟨w1.heap.size, 0, none⟩ = some (.int .i64 4) /\ W.cell? ⟨w1.heap.size, 2, none⟩ = some (.int .i64 (X : Int))) (by kernel_rfl) (by kernel_rfl) (by kernel_rfl) rfl (by kernel_rfl) (by kernel_rfl) HS5.out (fun hS => ?_)
     repeat (first
      | (refine plan_read (v := ?_) rfl (fun _ _ _ h => h) rfl hS ?_ ?_; rotate_left 1; (focus (intro w' hS'; obtain ⟨s1, s2, s3, s4⟩ := hS'; go_simp; try rfl)); (simp only [Act.put, pu1]; dsimp only [pu2, pu3]))
      | (refine plan_skip rfl (fun _ _ _ h => h) rfl hS ?_; (simp only [Act.put, pu1]; dsimp only [pu2, pu3])))
     refine plan_nil ?_
     clear hS HS5
     go_wp2_with fail
     refine bodyPost_end (results_none rfl _ _ _) rfl ?_
     refine ⟨rfl, ?_, (H1.out.drew.drew.drew).bel⟩
     rw [HE.out]
     exact (H1.out.drew.drew.drew).srch.is
   ·have k4b : ((t.k : Int) == 4) = false := by simpa using k4
    have HE := Lh (show togS l s n = s by unfold togS; rw [hx]; simp only; rw [if_neg (by simp [k3]), if_neg (by simp [k2]), if_neg (by simp [k4])])
    obtain ⟨k, a, x, y⟩ := t
    unfold tval at HG
    simp only at k2 k3 k4 k2b k3b k4b HST
    clear hx hr k2 k3 k4 hl
    go_enter Tryz.func159, Tryz.ntmps159
    go_wp2_with fail
    refine HG.out.mono ?_
    rintro e w1 ⟨rfl, b1⟩
    have H1 := Lh (HST.out w1 b1)
    clear b1 c0
    go_wp2_with fail
    have e3 := (H1.out.drew).box.cell 0
    simp only [List.getElem?_toArray, List.getElem?_cons_zero, List.getElem?_cons_succ] at e3
    have HS1 := Lh (e3)
    clear e3
    refine region_fast [(0, true), (1, true), (2, true), (3, true), (4, true), (5, true), (6, true), (7, true), (8, true), (9, true), (10, true), (11, true), (12, true), (13, true)] [8, 9] 768 [(65536, 16, 0, 0), (131072, 65536, 1, 1), (262144, 131072, 2, 3), (524288, 262144, 4, 7), (1048576, 524289, 8, 15), (2097152, 1572864, 24, 31), (4194304, 2621440, 40, 63), (8388608, 4718592, 72, 127), (16777216, 524304, 8, 15), (33554432, 17301504, 264, 271), (67108864, 42467328, 648, 1023), (134217728, 67633152, 1032, 2047), (268435456, 134742016, 2056, 4095), (32768, 268435456, 4104, 8191)] (fun W => W.cell? ⟨w1.heap.size, 0, none⟩ = some (.int .i64 k)) (by kernel_rfl) (by kernel_rfl) (by kernel_rfl) rfl (by kernel_rfl) (by kernel_rfl) HS1.out (fun hS => ?_)
    repeat (first
     | (refine plan_read (v := ?_) rfl (fun _ _ _ h => h) rfl hS ?_ ?_; rotate_left 1; (focus (intro w' hS'; have s3 := hS'; go_simp; try rfl)); (simp only [Act.put, pu1]; dsimp only [pu2, pu3]))
     | (refine plan_skip rfl (fun _ _ _ h => h) rfl hS ?_; (simp only [Act.put, pu1]; dsimp only [pu2, pu3])))
    refine plan_nil ?_
    clear hS HS1
    go_wp2_with fail
    have e3 := (H1.out.drew.drew).box.cell 0
    simp only [List.getElem?_toArray, List.getElem?_cons_zero, List.getElem?_cons_succ] at e3
    have HS3 := Lh (e3)
    clear e3
    refine region_fast [(0, true), (1, true), (2, true), (3, true), (4, true), (5, true), (6, true), (7, true), (8, true), (9, true), (10, true), (11, true), (12, true), (13, true), (14, true), (15, true), (16, true), (17, true), (18, true), (19, true), (20, true), (21, true), (22, true), (23, true)] [8, 9, 18, 19] 787200 [(8589934592, 16, 0, 0), (17179869184, 8589934592, 1, 1), (34359738368, 17179869184, 2, 3), (68719476736, 34359738368, 4, 7), (137438953472, 68719476737, 8, 15), (274877906944, 206158430208, 24, 31), (549755813888, 343597383680, 40, 63), (1099511627776, 618475290624, 72, 127), (2199023255552, 68719476752, 8, 15), (4398046511104, 2267742732288, 264, 271), (8796093022208, 5566277615616, 648, 1023), (17592186044416, 8864812498944, 1032, 2047), (35184372088832, 17660905521152, 2056, 4095), (70368744177664, 35184372088832, 4104, 8191), (140737488355328, 70368744177665, 8192, 16383), (281474976710656, 211106232532992, 24576, 32767), (562949953421312, 351843720888320, 40960, 65535), (1125899906842624, 633318697598976, 73728, 131071), (2251799813685248, 70368744177680, 8192, 16383), (4503599627370496, 2322168557862912, 270336, 278527), (9007199254740992, 5699868278390784, 663552, 1048575), (18014398509481984, 9077567998918656, 1056768, 2097151), (36028797018963968, 18084767253659648, 2105344, 4194303), (4294967296, 36028797018963968, 4202496, 8388607)] (fun W => W.cell? ⟨w1.heap.size, 0, none⟩ = some (.int .i64 k)) (by kernel_rfl) (by kernel_rfl) (by kernel_rfl) rfl (by kernel_rfl) (by kernel_rfl) HS3.out (fun hS => ?_)
    repeat (first
     | (refine plan_read (v := ?_) rfl (fun _ _ _ h => h) rfl hS ?_ ?_; rotate_left 1; (focus (intro w' hS'; have s3 := hS'; go_simp; try rfl)); (simp only [Act.put, pu1]; dsimp only [pu2, pu3]))
     | (refine plan_skip rfl (fun _ _ _ h => h) rfl hS ?_; (simp only [Act.put, pu1]; dsimp only [pu2, pu3])))
    refine plan_nil ?_
    clear hS HS3
    go_wp2_with fail
    have e3 := (H1.out.drew.drew.drew).box.cell 0
    simp only [List.getElem?_toArray, List.getElem?_cons_zero, List.getElem?_cons_succ] at e3
    have HS5 := Lh (e3)
    clear e3
    refine region_fast [(0, true), (1, true), (2, true), (3, true), (4, true), (5, true), (6, true), (7, true), (8, true), (9, true), (10, true), (11, true), (12, true), (13, true), (14, true), (15, true), (16, true), (17, true), (18, true), (19, true), (20, true), (21, true), (22, true), (23, true)] [8, 9, 18, 19] 787200 [(1152921504606846976, 16, 0, 0), (2305843009213693952, 1152921504606846976, 1, 1), (4611686018427387904, 2305843009213693952, 2, 3), (9223372036854775808, 4611686018427387904, 4, 7), (18446744073709551616, 9223372036854775809, 8, 15), (36893488147419103232, 27670116110564327424, 24, 31), (73786976294838206464, 46116860184273879040, 40, 63), (147573952589676412928, 83010348331692982272, 72, 127), (295147905179352825856, 9223372036854775824, 8, 15), (590295810358705651712, 304371277216207601664, 264, 271), (1180591620717411303424, 747093134985236840448, 648, 1023), (2361183241434822606848, 1189814992754266079232, 1032, 2047), (4722366482869645213696, 2370406613471677382656, 2056, 4095), (9444732965739290427392, 4722366482869645213696, 4104, 8191), (18889465931478580854784, 9444732965739290427393, 8192, 16383), (37778931862957161709568, 28334198897217871282176, 24576, 32767), (75557863725914323419136, 47223664828696452136960, 40960, 65535), (151115727451828646838272, 85002596691653613846528, 73728, 131071), (302231454903657293676544, 9444732965739290427408, 8192, 16383), (604462909807314587353088, 311676187869396584103936, 270336, 278527), (1208925819614629174706176, 765023370224882524618752, 663552, 1048575), (2417851639229258349412352, 1218370552580368465133568, 1056768, 2097151), (4835703278458516698824704, 2427296372194997639839744, 2105344, 4194303), (576460752303423488, 4835703278458516698824704, 4202496, 8388607)] (fun W => W.cell? ⟨w1.heap.size, 0, none⟩ = some (.int .i64 k)) (by kernel_rfl) (by kernel_rfl) (by kernel_rfl) rfl (by kernel_rfl) (by kernel_rfl) HS5.out (fun hS => ?_)
    repeat (first
     | (refine plan_read (v := ?_) rfl (fun _ _ _ h => h) rfl hS ?_ ?_; rotate_left 1; (focus (intro w' hS'; have s3 := hS'; go_simp; try rfl)); (simp only [Act.put, pu1]; dsimp only [pu2, pu3]))
     | (refine plan_skip rfl (fun _ _ _ h => h) rfl hS ?_; (simp only [Act.put, pu1]; dsimp only [pu2, pu3])))
    refine plan_nil ?_
    clear hS HS5
    go_wp2_with fail
    refine bodyPost_end (results_none rfl _ _ _) rfl ?_
    refine ⟨rfl, ?_, (H1.out.drew.drew.drew).bel⟩
    rw [HE.out]
    exact (H1.out.drew.drew.drew).srch.is
end
section
set_option maxRecDepth 4000
open Go.RowKit
theorem info_bool : (Tryz.prog.info? 4).map (fun i => (i.zero, i.size, i.bytes)) = some (some (.bool false), 1, 1) := by kernel_rfl
theorem make_bools (n : Nat) (hn : n <= 100000) (W : World) : (Instr.makeSlice 26 (.int .i64 (n : Int)) (.int .i64 (n : Int))).run Tryz.prog W = .ok (.slice (some ⟨W.heap.size, 0, none⟩) n n) (W.alloc (.cells (bls (List.replicate n false)).toArray 4)) := by
 obtain ⟨i, hi, hz, hs, hb⟩ := info_parts info_bool
 have h := run_make (P := Tryz.prog) W 26 4 i (.bool false) Tryz.underlying26 hi hz .i64 .i64 (n : Int) (n : Int) (by omega) (by omega) (by rw [hb]; omega) (by omega)
 have e0 : bls (List.replicate n false) = List.replicate n (Value.bool false) := by simp [bls]
 have e1 : madeCells (Value.bool false).cells ((n : Int).toNat * i.size) = (bls (List.replicate n false)).toArray := by
  rw [hs, Int.toNat_natCast, Nat.mul_one, e0, <- toList_madeCells_one (.bool false) n]
  rfl
 rw [e1, Int.toNat_natCast] at h
 exact h
structure RunAt (w W : World) (l : List Tm) (gv : List Int) (b p kb : Nat) (s : Sr) : Prop where
 srch : SearchIs W w.heap.size b p s kb l.length
 good : Good l gv s
 bel : Below w.heap.size w W
theorem RunAt.step {w W W' : World} {l : List Tm} {gv : List Int} {b p kb : Nat} {s s' : Sr} (h : RunAt w W l gv b p kb s) (h1 : SearchIs W' w.heap.size b p s' kb l.length) (h2 : Below w.heap.size W W') (h3 : Good l gv s') : RunAt w W' l gv b p kb s' :=
 ⟨h1, h3, h.bel.trans h2⟩
def Gave (l : List Tm) (gv : List Int) (j : Nat) (s : Sr) : Prop := ∀ (i : Nat) (x : Int), i < j -> gv[i]? = some x -> 0 <= x -> x < l.length -> at_ s.kn x.toNat = true
theorem shut_next {l : List Tm} {s s' : Sr} {j : Nat} (h1 : Grow s s') (h2 : s' = s -> ∀ m, m < j -> ShutAt l s.kn m) : bodyS l s' j = s -> ∀ m, m < j + 1 -> ShutAt l s.kn m := by
 intro e m hm
 have hg := bodyS_grow l s' j
 have e1 : s' = s := by
  refine h1.eq ?_
  have := hg.le
  rw [e] at this
  exact this
 subst e1
 rcases Nat.lt_or_ge m j with h | h
 ·exact h2 rfl m h
 ·obtain rfl : m = j := by omega
  exact shut_of_body e
set_option maxHeartbeats 1000000 in
theorem run_any (p : Nat) (l : List Tm) (A : Option Addr) (gv : List Int) (c pb : Nat) (w : World) (hP : PoolIs w pb p l) (hp : Pool l) (hll : l.length <= 1000) (hgl : gv.length <= 10000) (hg : Sees w 1 A gv.length (i64s gv)) (hwf : ∀ x ∈ gv, (Lit.int .i64 x).wf = true) :
  Calls Tryz.prog 142 #[.pointer (some ⟨p, 0, none⟩), .slice A gv.length c] w fun e w' => ∃ b kb s, e = .returned (.pointer (some ⟨b, 0, none⟩)) /\ RunAt w w' l gv b p kb s /\ s.kn = clo l gv := by
 have hlen : Calls Tryz.prog 49 #[.pointer (some ⟨p, 0, none⟩)] w fun e w' => e = .returned (.int .i64 l.length) /\ w = w' := by
  obtain ⟨tA, tc, mb, dA, dc, sA, sc, h⟩ := hP
  exact plen_any p tA l.length tc w (own_len h.ts) h.cell0
 have hlen2 : ∀ W, Below w.heap.size w W -> Calls Tryz.prog 49 #[.pointer (some ⟨p, 0, none⟩)] W fun e w' => e = .returned (.int .i64 l.length) /\ W = w' := fun W hW => by
  obtain ⟨tA, tc, mb, dA, dc, sA, sc, h⟩ := hP.below hW
  exact plen_any p tA l.length tc W (own_len h.ts) h.cell0
 have HLEN := Lh hlen; have HLEN2 := Lh hlen2; clear hlen hlen2
 have HP := Lh (Ai hP hp); clear hP hp
 have hmk := make_bools l.length (by omega) w
 have HGV := Lh hg; clear hg
 have HWF := Lh hwf; clear hwf
 go_enter Tryz.func142, Tryz.ntmps142
 go_wp2_with fail
 refine HLEN.out.mono ?_
 rintro e w1 ⟨rfl, rfl⟩
 go_wp2_with fail
 go_loopw [7, 19] (fun _ i wr => ∃ j : Nat, i = .int .i64 j /\ j <= gv.length /\ Hid (∃ s, RunAt w wr l gv (w.heap.size + 1) p w.heap.size s /\ Gave l gv j s)) (fun _ i _ => gv.length - (intOf i).toNat)
 case atStart =>
  refine ⟨0, rfl, Nat.zero_le _, Lh ⟨⟨List.replicate l.length false, []⟩, ⟨⟨none, 0, ⟨?_, ?_, World.ownsRow_nil _ _ _ _, by omega, by omega⟩⟩, Good.start _ rfl, ?_⟩, fun i x hi => by omega⟩⟩
  ·have := Blk.new (w.alloc (.cells (bls (List.replicate l.length false)).toArray 4)) 206 #[.pointer (some ⟨p, 0, none⟩), .slice (some ⟨w.heap.size, 0, none⟩) l.length l.length, .slice none 0 0]
   simpa using this
  ·exact Blk.alloc (Blk.new w 4 (bls (List.replicate l.length false)).toArray) _
  ·exact ((Below.refl _ _).alloc (Nat.le_refl _) _).alloc (by simp) _
 case round =>
  obtain ⟨j, rfl, hj, hr⟩ := hrel
  by_cases hlt : j < gv.length
  ·have hget : gv[j]? = some (gv[j]'hlt) := List.getElem?_eq_getElem hlt
   generalize gv[j] = x at hget
   obtain ⟨s, hr1, hr2⟩ := hr.out
   have hgs := HGV.out.below hr1.bel
   obtain ⟨gg, go, hAe, hgc⟩ := hgs.2 (by omega)
   have q0 : wr.cell? ⟨gg, go + j, none⟩ = some (.int .i64 x) := hgc j _ (by simp [i64s, hget])
   subst hAe
   have hsl := hr1.good.le
   have hkl := hr1.good.len
   have hwx := wf_i64 (HWF.out x (List.mem_of_getElem? hget))
   have hxm := List.mem_of_getElem? hget
   have HR := Lh (Ai hr1 (Ai hr2 (Ai hget hxm))); clear hr1 hr2 hget hgs hgc hr hxm
   by_cases h0 : 0 <= x
   ·by_cases h1 : x < l.length
    ·obtain ⟨X, rfl⟩ : ∃ X : Nat, x = X := ⟨x.toNat, by omega⟩
     go_wp2_with fail
     refine (HLEN2.out wr HR.out.1.bel).mono ?_
     rintro e w1 ⟨rfl, rfl⟩
     go_wp2_with fail
     refine (learn_any (w.heap.size + 1) p X 0 0 s w.heap.size l.length w.heap.size wr HR.out.1.srch (by omega) (by omega) (by omega)).mono ?_
     rintro e w2 ⟨rfl, h2, h3⟩
     have HR2 : Hid (∃ s, RunAt w w2 l gv (w.heap.size + 1) p w.heap.size s /\ Gave l gv (j + 1) s) := Lh ⟨_, HR.out.1.step h2 h3 (HR.out.1.good.giv HR.out.2.2.2 h0 h1), fun i y hi hy h4 h5 => by
      rcases Nat.lt_or_ge i j with h6 | h6
      ·exact learnS_keep _ _ _ _ (HR.out.2.1 i y h6 hy h4 h5)
      ·obtain rfl : i = j := by omega
       rw [HR.out.2.2.1] at hy
       injection hy with hy
       subst hy
       exact learnS_at _ _ _ _ (by rw [HR.out.1.good.len]; omega)⟩
     clear h2 h3
     go_wp2_with fail
     go_roundw
     case rel => exact ⟨j + 1, by go_num, by omega, HR2⟩
     case measure => simp [intOf]; omega
    ·go_wp2_with fail
     refine (HLEN2.out wr HR.out.1.bel).mono ?_
     rintro e w1 ⟨rfl, rfl⟩
     have HR2 : Hid (∃ s, RunAt w wr l gv (w.heap.size + 1) p w.heap.size s /\ Gave l gv (j + 1) s) := Lh ⟨_, HR.out.1, fun i y hi hy h4 h5 => by
      rcases Nat.lt_or_ge i j with h6 | h6
      ·exact HR.out.2.1 i y h6 hy h4 h5
      ·obtain rfl : i = j := by omega
       rw [HR.out.2.2.1] at hy
       injection hy with hy
       omega⟩
     go_wp2_with fail
     go_roundw
     case rel => exact ⟨j + 1, by go_num, by omega, HR2⟩
     case measure => simp [intOf]; omega
   ·have HR2 : Hid (∃ s, RunAt w wr l gv (w.heap.size + 1) p w.heap.size s /\ Gave l gv (j + 1) s) := Lh ⟨_, HR.out.1, fun i y hi hy h4 h5 => by
      rcases Nat.lt_or_ge i j with h6 | h6
      ·exact HR.out.2.1 i y h6 hy h4 h5
      ·obtain rfl : i = j := by omega
       rw [HR.out.2.2.1] at hy
       injection hy with hy
       omega⟩
    go_wp2_with fail
    go_roundw
    case rel => exact ⟨j + 1, by go_num, by omega, HR2⟩
    case measure => simp [intOf]; omega
  ·obtain rfl : j = gv.length := by omega
   go_wp2_with fail
   go_loopw [8, 9, 10, 52] (fun z _ _ _ wr => ∃ y : Int, z = .int .i64 y /\ -1 <= y /\ y <= l.length /\ Hid (∃ s, RunAt w wr l gv (w.heap.size + 1) p w.heap.size s /\ Gave l gv gv.length s /\ y <= s.st.length /\ (y = s.st.length -> ∀ n, n < l.length -> ShutAt l s.kn n))) (fun z _ _ _ _ => (l.length + 1 - intOf z).toNat)
   case atStart =>
    obtain ⟨s, h1, h2⟩ := hr.out
    exact ⟨-1, rfl, by omega, by omega, Lh ⟨s, h1, h2, by omega, fun h => by omega⟩⟩
   case round =>
    obtain ⟨y, rfl, hy0, hy1, hr'⟩ := hrel
    obtain ⟨s, h1, h2, h3, h4⟩ := hr'.out
    have hsl := h1.good.le
    have c2 := (show ∃ sA sc, wr.cell? ⟨w.heap.size + 1, 2, none⟩ = some (.slice sA s.st.length sc) by obtain ⟨_, _, h⟩ := h1.srch; exact ⟨_, _, h.cell2⟩)
    have c1 := (show wr.cell? ⟨w.heap.size + 1, 1, none⟩ = some (.slice (some ⟨w.heap.size, 0, none⟩) s.kn.length l.length) by obtain ⟨_, _, h⟩ := h1.srch; exact h.cell1)
    rw [h1.good.len] at c1
    obtain ⟨sA, sc, c2⟩ := c2
    have HR := Lh (Ai h1 (Ai h2 h4)); clear h1 h2 h4 hr'
    by_cases hlt2 : y < s.st.length
    ·go_wp2_with fail
     have hy : y < l.length := by omega
     go_loopw [9, 10, 52] (fun _ _ i wr => ∃ j : Nat, i = .int .i64 j /\ j <= l.length /\ Hid (∃ s', RunAt w wr l gv (w.heap.size + 1) p w.heap.size s' /\ Grow s s' /\ keepS s s' /\ (s' = s -> ∀ m, m < j -> ShutAt l s.kn m))) (fun _ _ i _ => l.length - (intOf i).toNat)
     case atStart => exact ⟨0, rfl, Nat.zero_le _, Lh ⟨s, HR.out.1, Grow.refl _, fun _ h => h, fun _ m hm => by omega⟩⟩
     case round =>
      obtain ⟨j, rfl, hj, hi'⟩ := hrel
      obtain ⟨s', g1, g2, g3, g4⟩ := hi'.out
      by_cases hlt3 : j < l.length
      ·have hsl' := g1.good.le
       have hkl' := g1.good.len
       have m0 := (show wr.cell? ⟨w.heap.size, j, none⟩ = some (.bool (at_ s'.kn j)) by obtain ⟨_, _, h⟩ := g1.srch; exact h.mark (by omega))
       have HI := Lh (Ai g1 (Ai g2 (Ai g3 g4))); clear g1 g2 g3 g4 hi'
       have hbody : bodyS l s' j = togS l (if at_ s'.kn j = true then apartS l s' j else s') j := rfl
       obtain ⟨K, hK⟩ : ∃ K, at_ s'.kn j = K := ⟨_, rfl⟩
       rw [hK] at m0 hbody
       have HK := Lh hK; clear hK
       cases K with
       | true =>
        rw [if_pos rfl] at hbody
        have HB := Lh hbody; clear hbody
        go_wp2_with fail
        refine (apart_any (w.heap.size + 1) p j l s' w.heap.size l.length w.heap.size pb wr HI.out.1.srch (HP.out.1.below HI.out.1.bel) HP.out.2 HI.out.1.good.len hlt3 (by omega) (by omega)).mono ?_
        rintro e w2 ⟨rfl, a1, a2⟩
        have ha := apartS_grow l s' j
        have hag := HI.out.1.good.apart HP.out.2 HK.out
        have HI2 := Lh (Ai (HI.out.1.step a1 a2 hag) ha); clear a1 a2 ha hag
        have hsl2 := HI2.out.1.good.le
        go_wp2_with fail
        refine (together_any (w.heap.size + 1) p j l _ w.heap.size l.length w.heap.size pb w2 HI2.out.1.srch (HP.out.1.below HI2.out.1.bel) HP.out.2 HI2.out.1.good.len hlt3 (by omega) (by omega)).mono ?_
        rintro e w3 ⟨rfl, a1, a2⟩
        rw [<- HB.out] at a1
        have HI3 : Hid (∃ s', RunAt w w3 l gv (w.heap.size + 1) p w.heap.size s' /\ Grow s s' /\ keepS s s' /\ (s' = s -> ∀ m, m < j + 1 -> ShutAt l s.kn m)) := Lh ⟨_, HI2.out.1.step a1 a2 (HI.out.1.good.body HP.out.2 j), HI.out.2.1.trans (bodyS_grow _ _ _), fun m hm => bodyS_keep l s' j m (HI.out.2.2.1 m hm), shut_next HI.out.2.1 HI.out.2.2.2⟩
        clear a1 a2
        go_wp2_with fail
        go_roundw
        case rel => exact ⟨j + 1, by go_num, by omega, HI3⟩
        case measure => simp [intOf]; omega
       | false =>
        rw [if_neg (by simp)] at hbody
        have HB := Lh hbody; clear hbody
        go_wp2_with fail
        refine (together_any (w.heap.size + 1) p j l _ w.heap.size l.length w.heap.size pb wr HI.out.1.srch (HP.out.1.below HI.out.1.bel) HP.out.2 HI.out.1.good.len hlt3 (by omega) (by omega)).mono ?_
        rintro e w3 ⟨rfl, a1, a2⟩
        rw [<- HB.out] at a1
        have HI3 : Hid (∃ s', RunAt w w3 l gv (w.heap.size + 1) p w.heap.size s' /\ Grow s s' /\ keepS s s' /\ (s' = s -> ∀ m, m < j + 1 -> ShutAt l s.kn m)) := Lh ⟨_, HI.out.1.step a1 a2 (HI.out.1.good.body HP.out.2 j), HI.out.2.1.trans (bodyS_grow _ _ _), fun m hm => bodyS_keep l s' j m (HI.out.2.2.1 m hm), shut_next HI.out.2.1 HI.out.2.2.2⟩
        clear a1 a2
        go_wp2_with fail
        go_roundw
        case rel => exact ⟨j + 1, by go_num, by omega, HI3⟩
        case measure => simp [intOf]; omega
      ·obtain rfl : j = l.length := by omega
       have HI3 : Hid (∃ s'', RunAt w wr l gv (w.heap.size + 1) p w.heap.size s'' /\ Gave l gv gv.length s'' /\ (s.st.length : Int) <= s''.st.length /\ ((s.st.length : Int) = s''.st.length -> ∀ n, n < l.length -> ShutAt l s''.kn n)) := Lh ⟨s', g1, fun i x h1 h2 h3 h4 => g3 _ (HR.out.2.1 i x h1 h2 h3 h4), by have := g2.le; omega, fun he n hn => by
        have e := g2.eq (by omega)
        rw [e]
        exact g4 e n hn⟩
       clear g1 g2 g3 g4 hi'
       go_wp2_with fail
       go_roundw
       case rel => exact ⟨s.st.length, rfl, by omega, by omega, HI3⟩
       case measure => simp [intOf]; omega
    ·obtain rfl : y = s.st.length := by omega
     go_wp2_with fail
     go_ret
     refine ⟨w.heap.size + 1, rfl, w.heap.size, s, HR.out.1, HR.out.1.good.done HP.out.2 (fun n hn hl => ?_) (HR.out.2.2 (by trivial))⟩
     obtain ⟨i, hi, e⟩ := List.mem_iff_getElem.1 hn
     have := HR.out.2.1 i n hi (by rw [List.getElem?_eq_getElem hi, e]) (by omega) (by omega)
     simpa using this
end
end Go.Proofs.YtkgaeoeibjoljaaGreatDoor
