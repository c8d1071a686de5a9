/-
  The law FaultTexts, walked.
-/
import Derived.Test.YtnfcnjnecankbaaDoorFt17
namespace Go.Proofs.YtnfcnjnecankbaaDoor
set_option maxRecDepth 4000
open Go.RowKit

theorem lcs_drop (ls : List Lk) (j : Nat) : (lcs ls).drop (j * 2) = lcs (ls.drop j) := by
  induction ls generalizing j with
  | nil => simp [lcs]
  | cons y ls ih =>
    cases j with
    | zero => simp
    | succ j =>
      rw [List.drop_succ_cons, ← ih]
      show (lcells y ++ lcs ls).drop ((j + 1) * 2) = _
      rw [List.drop_append, lcells_length, List.drop_eq_nil_of_le (by rw [lcells_length]; omega), List.nil_append, show (j + 1) * 2 - 2 = j * 2 by omega]
theorem links_drop {w : World} {g o : Nat} {ls : List Lk} (h : Sees w 2 (some ⟨g, o, none⟩) ls.length (lcs ls)) {j : Nat} (hj : j ≤ ls.length) : Sees w 2 (some ⟨g, o + j * 2, none⟩) (ls.drop j).length (lcs (ls.drop j)) := by
  refine ⟨by simp, fun h0 => ?_⟩
  rw [List.length_drop] at h0
  obtain ⟨g', o', e, hc⟩ := h.2 (by omega)
  injection e with e
  injection e with e1 e2 _
  subst e1 e2
  refine ⟨g, o + j * 2, rfl, fun k u hk => ?_⟩
  rw [← lcs_drop, List.getElem?_drop] at hk
  rw [Nat.add_assoc]
  exact hc _ u hk

set_option maxHeartbeats 4000000 in
theorem texts_any_ (ls : List Lk) (A : Option Addr) (c : Nat) (e : Int) (w : World) (hI : InLinks w A ls) (hcap : ls.length ≤ c) (hT : Tabs w) (he : -9223372036854775808 ≤ e ∧ e ≤ 9223372036854775807) :
    Calls Tryd.prog 3 #[.slice A ls.length c, .int .i64 e] w fun r w' => r = .returned (.bool true) ∧ Below w.heap.size w w' := by
  have HAW := Lib.hid awake_any
  have HSM := Lib.hid (fun w h => smalls_any ls A c w h hI.ok hI.most)
  have HI := Lib.hid hI
  have HT := Lib.hid hT
  have HE := Lib.hid he
  have HCAP := Lib.hid hcap
  clear hI hT he hcap
  go_enter Tryd.func3, Tryd.ntmps3
  go_wp2_with fail
  refine (HAW.out _ HT.out).mono ?_
  rintro r w1 ⟨rfl, hb1⟩
  have HB1 := Lib.hid hb1
  have HX := Lib.hid (HSM.out w1 (HI.out.below hb1).sees)
  clear hb1
  go_wp2_with fail
  refine HX.out.mono ?_
  rintro r w2 ⟨hr, hb2⟩
  have HB2 := Lib.hid (HB1.out.trans (hb2.mono HB1.out.size))
  clear hb2 HX HB1
  rcases hr with rfl | ⟨rfl, hsm⟩
  · go_wp2_with fail
    refine (HAW.out _ (HT.out.below HB2.out)).mono ?_
    rintro r w3 ⟨rfl, hb3⟩
    have HB3 := Lib.hid (HB2.out.trans (hb3.mono HB2.out.size))
    go_wp2_with fail
    go_ret
    exact ⟨rfl, HB3.out⟩
  · have HM := Lib.hid (made_any ls A c e w2 (HI.out.below HB2.out).sees (by have := hsm.out.1; omega))
    have hl20 : ls.length ≤ 20 := hsm.out.1
    have HOK := Lib.hid (show ∀ y ∈ ls, LkOk y ∧ y.op.size ≤ 50 from fun y hy => ⟨HI.out.ok y hy, hsm.out.2 y hy⟩)
    by_cases h0 : ls.length = 0
    · have h0' : ((ls.length : Int) == 0) = true := by rw [beq_iff_eq]; omega
      clear h0
      go_wp2_with fail
      refine (HAW.out _ (HT.out.below HB2.out)).mono ?_
      rintro r w3 ⟨rfl, hb3⟩
      have HB3 := Lib.hid (HB2.out.trans (hb3.mono HB2.out.size))
      go_wp2_with fail
      go_ret
      exact ⟨rfl, HB3.out⟩
    · have h0' : ((ls.length : Int) == 0) = false := by rw [beq_eq_false_iff_ne]; omega
      by_cases hz : e = 0
      · have he' : (e == 0) = true := by rw [beq_iff_eq]; exact hz
        have hH : Hid (e = 0) := Lib.hid hz
        clear h0 hz
        go_wp2_with fail
        refine (HAW.out _ (HT.out.below HB2.out)).mono ?_
        rintro r w3 ⟨rfl, hb3⟩
        have HB3 := Lib.hid (HB2.out.trans (hb3.mono HB2.out.size))
        go_wp2_with fail
        go_ret
        exact ⟨rfl, HB3.out⟩
      · have he' : (e == 0) = false := by rw [beq_eq_false_iff_ne]; exact hz
        have HZ := Lib.hid (And.intro h0 hz)
        clear h0 hz
        go_wp2_with fail
        refine HM.out.mono ?_
        rintro r w3 ⟨⟨v, rfl, hm⟩, hb3⟩
        have HB3 := Lib.hid (HB2.out.trans (hb3.mono HB2.out.size))
        have HCH : Hid (Chn w3 v ls e) := Lib.hid (by
          rcases hm with ⟨h, -⟩ | ⟨h, -⟩ | ⟨-, -, h⟩
          · exact absurd h HZ.out.2
          · exact absurd h.symm HZ.out.1
          · exact h)
        clear hm hb3 HM
        go_wp2_with fail
        go_loopw [5, 6] (fun v i wr => ∃ j : Nat, i = .int .i64 j ∧ j ≤ ls.length ∧ Hid (Chn wr v (ls.drop j) e ∧ Below w3.heap.size w3 wr)) (fun _ i _ => ls.length - (intOf i).toNat)
        case atStart => exact ⟨0, rfl, Nat.zero_le _, Lib.hid ⟨HCH.out, Below.refl _ _⟩⟩
        case round =>
          obtain ⟨j, rfl, hj, hr⟩ := hrel
          have HBr := Lib.hid (HB3.out.trans (hr.out.2.mono HB3.out.size))
          by_cases hlt : j < ls.length
          · have hyj : ls[j]? = some (ls[j]'hlt) := List.getElem?_eq_getElem hlt
            have hdr : ls.drop j = ls[j]'hlt :: ls.drop (j + 1) := List.drop_eq_getElem_cons hlt
            generalize ls[j] = y at hyj hdr
            have hsees := (HI.out.below HBr.out).sees
            obtain ⟨g, o, rfl, c0, c1⟩ := in_link hsees hyj
            have hch := hr.out.1
            rw [hdr] at hch
            obtain ⟨p, v', rfl, hbp, hcv⟩ := hch
            have hb4 : Below wr.heap.size wr (wr.alloc (.cells #[.pointer none] 29)) := (Below.refl _ _).alloc (Nat.le_refl _) _
            have hn4 := Blk.new wr 29 #[.pointer none]
            have hglt : g < wr.heap.size := World.block_lt_of_cell? _ _ c0
            have HLK := Lib.hid (fun w' (h : Below wr.heap.size wr w') => And.intro ((World.cell?_of_block (h.block g hglt)).trans c0) ((World.cell?_of_block (h.block g hglt)).trans c1))
            have HAS := Lib.hid (asP_hit ⟨p, 0, none⟩ ⟨wr.heap.size, 0, none⟩ _ (wr.alloc (.cells #[.pointer none] 29)).drew (((HT.out.below HBr.out).below hb4.drew)).2 (hn4.cell 0) (hn4.frozen 0))
            have HB4 := Lib.hid (And.intro hb4 hn4)
            have HCV := Lib.hid (And.intro hbp (And.intro hcv hr.out.2))
            have HD := Lib.hid hdr
            have HY := Lib.hid hyj
            have HSE := Lib.hid hsees
            have hS0 := HLK.out _ hb4
            have hlti : (j : Int) < (ls.length : Int) := by omega
            clear hr hyj hdr hsees hbp hcv hb4 hn4 hglt c0 c1
            obtain ⟨yo, ya⟩ := y
            simp only at hS0 HLK
            go_wp2_with fail
            refine region_fast [(0, true), (1, true), (2, false), (3, true), (4, true), (5, false), (6, true), (7, true), (8, true), (13, true), (14, true), (15, true), (16, true), (17, true), (9, false), (10, true), (11, true), (12, false), (18, true), (19, true), (20, true), (25, true), (26, true), (27, true), (28, true), (29, true), (21, false), (22, true), (23, true), (24, false), (30, true), (31, true), (32, true), (35, true), (36, true), (37, true), (38, true), (33, false), (34, false), (39, false), (40, true), (41, true)] [1, 9, 10, 11, 12, 14, 21, 22, 23, 24, 26, 33, 34, 36, 38] 369465777666 [(34359738368, 32, 0, 0), (68719476736, 128, 0, 0), (137438953472, 103079215104, 3, 3), (274877906944, 137438953472, 4, 7), (549755813888, 274877906944, 12, 15), (1099511627776, 549755814016, 16, 31), (2199023255552, 1649267441664, 48, 63), (4398046511104, 2748779069440, 80, 127), (8796093022208, 4398046511104, 144, 255), (17592186044416, 8796093022336, 256, 511), (35184372088832, 26388279066624, 768, 1023), (70368744177664, 43980465111040, 1280, 2047), (140737488355328, 79164837199872, 2304, 4095), (281474976710656, 8796093022209, 256, 511), (562949953421312, 8796093022272, 256, 511), (1125899906842624, 853221023154176, 24832, 25087), (2251799813685248, 1134695999864832, 33024, 57855), (4503599627370496, 2260595906707456, 65792, 123391), (9007199254740992, 4653133208748032, 135424, 262143), (18014398509481984, 9015995347763200, 262400, 524287), (36028797018963968, 18014398509481984, 524544, 1048575), (72057594037927936, 36028797018964096, 1048576, 2097151), (144115188075855872, 108086391056891904, 3145728, 4194303), (288230376151711744, 180143985094819840, 5242880, 8388607), (576460752303423488, 324259173170675712, 9437184, 16777215), (1152921504606846976, 36028797018963969, 1048576, 2097151), (2305843009213693952, 36028797018964032, 1048576, 2097151), (4611686018427387904, 3494793310839504896, 101711872, 102760447), (9223372036854775808, 4647714815446351872, 135266304, 236978175), (18446744073709551616, 9259400833873739776, 269484032, 505413631), (36893488147419103232, 19059233623031939072, 554696704, 1073741823), (73786976294838206464, 36929516944438067200, 1074790400, 2147483647), (147573952589676412928, 73786976294838206464, 2148532224, 4294967295), (295147905179352825856, 147573952589676413056, 4294967296, 8589934591), (590295810358705651712, 442721857769029238784, 12884901888, 17179869183), (1180591620717411303424, 147573952589676412929, 4294967296, 8589934591), (2361183241434822606848, 147573952589676412992, 4294967296, 8589934591), (4722366482869645213696, 3689348814741910323200, 107374182400, 111669149695), (9444732965739290427392, 147573952589676412930, 4294967296, 8589934591), (18889465931478580854784, 14314673401198612054016, 433791696896, 549755813887), (37778931862957161709568, 19627335694426962919424, 571230650368, 1099511627775), (75557863725914323419136, 37926505815546838122496, 1103806595072, 2199023255551)] (fun W => W.cell? ⟨g, o + j * 2, none⟩ = some (.string yo) ∧ W.cell? ⟨g, o + j * 2 + 1, none⟩ = some (.int .i64 ya)) (by kernel_rfl) (by kernel_rfl) (by kernel_rfl) rfl (by kernel_rfl) (by kernel_rfl) hS0 (fun hS => ?_)
            repeat (first
              | (refine plan_read (v := ?_) rfl (fun _ _ _ h => h) rfl hS ?_ ?_; rotate_left 1; (focus (intro w' hS'; have e0 := hS'.1; have e1 := hS'.2; go_simp; try rfl)); (simp only [Act.put, List.setIfInBounds_toArray]; dsimp only [List.set_cons_zero, List.set_cons_succ]))
              | (refine plan_skip rfl (fun _ _ _ h => h) rfl hS ?_; (simp only [Act.put, List.setIfInBounds_toArray]; dsimp only [List.set_cons_zero, List.set_cons_succ])))
            refine plan_do (by rfl) (by rfl) (fun K hK => ?_)
            go_simp
            refine HAS.out.mono ?_
            rintro r w4 ⟨rfl, wA, hA, rfl⟩
            have hA2 := below_of_drew hA
            have hbA : Below wr.heap.size wr wA := HB4.out.1.trans (hA2.mono HB4.out.1.size)
            have hb5 : Below wr.heap.size wr (wA.setCell ⟨wr.heap.size, 0, none⟩ (.pointer (some ⟨p, 0, none⟩))) := hbA.trans ((Fr.setCell (F := (· = wr.heap.size)) _ _ _ rfl).below hbA.size (fun k hk => by omega))
            have c7 : (wA.setCell ⟨wr.heap.size, 0, none⟩ (.pointer (some ⟨p, 0, none⟩))).cell? ⟨wr.heap.size, 0, none⟩ = some (.pointer (some ⟨p, 0, none⟩)) := ((HB4.out.2.below hA2 HB4.out.2.lt).set_ 0 (.pointer (some ⟨p, 0, none⟩))).cell 0
            have hlt7 := World.block_lt_of_cell? _ _ c7
            have HB5 := Lib.hid hb5
            generalize wA.setCell ⟨wr.heap.size, 0, none⟩ (.pointer (some ⟨p, 0, none⟩)) = w4 at *
            have HC7 := Lib.hid (fun w' (h : Below w4.heap.size w4 w') => (World.cell?_of_block (a := ⟨wr.heap.size, 0, none⟩) (h.block wr.heap.size hlt7)).trans c7)
            have hbk := HCV.out.1.below hb5 HCV.out.1.lt
            have d0 : w4.cell? ⟨p, 0, none⟩ = some (.string yo) := hbk.cell 0
            have d1 : w4.cell? ⟨p, 1, none⟩ = some (.int .i64 ya) := hbk.cell 1
            have hs4 := HLK.out w4 hb5
            have hcv4 := HCV.out.2.1.keep hb5
            have hok4 : ∀ z ∈ (⟨yo, ya⟩ : Lk) :: ls.drop (j + 1), LkOk z ∧ z.op.size ≤ 50 := fun z hz => HOK.out z (by rw [← HD.out] at hz; exact List.mem_of_mem_drop hz)
            have HFE := Lib.hid (ferror_chain (ls.drop (j + 1)) ⟨yo, ya⟩ p e w4 ⟨p, v', rfl, hbk, hcv4⟩ hok4 (by simp; omega) HE.out ((HT.out.below HBr.out).below hb5).1)
            have HRT := Lib.hid (fun w' (h : Below wr.heap.size wr w') => rtext_any (ls.drop j) (some ⟨g, o + j * 2, none⟩) (c - j) e w' ((links_drop HSE.out (by omega)).below h) (fun z hz => HOK.out z (List.mem_of_mem_drop hz)) (by simp; omega) HE.out)
            rw [HD.out] at HRT
            have HUW := Lib.hid (fun w' (h : Below w4.heap.size w4 w') => unwrap_any p (_, _) v' w' (hbk.below h hbk.lt))
            have hlen : ((⟨yo, ya⟩ : Lk) :: ls.drop (j + 1)).length = ls.length - j := by rw [← HD.out]; simp
            rw [hlen] at HRT
            obtain ⟨T, hTT⟩ : ∃ T, str (chT (⟨yo, ya⟩ :: ls.drop (j + 1)) e) = T := ⟨_, rfl⟩
            rw [hTT] at HRT HFE
            have hcapc : (ls.length : Int) ≤ (c : Int) := by have := HCAP.out; omega
            have hcj : ¬ c = j := by have := HCAP.out; omega
            clear hTT hlen hok4 hcv4 hbk hb5 hbA hA2 hA HAS HB4 hlt7
            refine hK.out _ _ (fun h => by cases h) (fun _ => ?_); clear hK K; try (simp only [Act.put, List.setIfInBounds_toArray]; dsimp only [List.set_cons_zero, List.set_cons_succ])
            clear hS
            have hS := hs4
            repeat (first
              | (refine plan_read (v := ?_) rfl (fun _ _ _ h => h) rfl hS ?_ ?_; rotate_left 1; (focus (intro w' hS'; have e0 := hS'.1; have e1 := hS'.2; go_simp; try rfl)); (simp only [Act.put, List.setIfInBounds_toArray]; dsimp only [List.set_cons_zero, List.set_cons_succ]))
              | (refine plan_skip rfl (fun _ _ _ h => h) rfl hS ?_; (simp only [Act.put, List.setIfInBounds_toArray]; dsimp only [List.set_cons_zero, List.set_cons_succ])))
            refine plan_do (by rfl) (by rfl) (fun K hK => ?_)
            go_simp
            refine hK.out _ _ (fun h => by cases h) (fun _ => ?_); clear hK K; try (simp only [Act.put, List.setIfInBounds_toArray]; dsimp only [List.set_cons_zero, List.set_cons_succ])
            repeat (first
              | (refine plan_read (v := ?_) rfl (fun _ _ _ h => h) rfl hS ?_ ?_; rotate_left 1; (focus (intro w' hS'; have e0 := hS'.1; have e1 := hS'.2; go_simp; try rfl)); (simp only [Act.put, List.setIfInBounds_toArray]; dsimp only [List.set_cons_zero, List.set_cons_succ]))
              | (refine plan_skip rfl (fun _ _ _ h => h) rfl hS ?_; (simp only [Act.put, List.setIfInBounds_toArray]; dsimp only [List.set_cons_zero, List.set_cons_succ])))
            refine plan_do (by rfl) (by rfl) (fun K hK => ?_)
            go_simp
            refine hK.out _ _ (fun _ => hs4) (fun hS => ?_); clear hK K; replace hS := hS rfl; try (simp only [Act.put, List.setIfInBounds_toArray]; dsimp only [List.set_cons_zero, List.set_cons_succ])
            repeat (first
              | (refine plan_read (v := ?_) rfl (fun _ _ _ h => h) rfl hS ?_ ?_; rotate_left 1; (focus (intro w' hS'; have e0 := hS'.1; have e1 := hS'.2; go_simp; try rfl)); (simp only [Act.put, List.setIfInBounds_toArray]; dsimp only [List.set_cons_zero, List.set_cons_succ]))
              | (refine plan_skip rfl (fun _ _ _ h => h) rfl hS ?_; (simp only [Act.put, List.setIfInBounds_toArray]; dsimp only [List.set_cons_zero, List.set_cons_succ])))
            refine plan_do (by rfl) (by rfl) (fun K hK => ?_)
            go_simp
            refine hK.out _ _ (fun _ => hs4) (fun hS => ?_); clear hK K; replace hS := hS rfl; try (simp only [Act.put, List.setIfInBounds_toArray]; dsimp only [List.set_cons_zero, List.set_cons_succ])
            repeat (first
              | (refine plan_read (v := ?_) rfl (fun _ _ _ h => h) rfl hS ?_ ?_; rotate_left 1; (focus (intro w' hS'; have e0 := hS'.1; have e1 := hS'.2; go_simp; try rfl)); (simp only [Act.put, List.setIfInBounds_toArray]; dsimp only [List.set_cons_zero, List.set_cons_succ]))
              | (refine plan_skip rfl (fun _ _ _ h => h) rfl hS ?_; (simp only [Act.put, List.setIfInBounds_toArray]; dsimp only [List.set_cons_zero, List.set_cons_succ])))
            refine plan_do (by rfl) (by rfl) (fun K hK => ?_)
            go_simp
            refine hK.out _ _ (fun _ => hs4) (fun hS => ?_); clear hK K; replace hS := hS rfl; try (simp only [Act.put, List.setIfInBounds_toArray]; dsimp only [List.set_cons_zero, List.set_cons_succ])
            repeat (first
              | (refine plan_read (v := ?_) rfl (fun _ _ _ h => h) rfl hS ?_ ?_; rotate_left 1; (focus (intro w' hS'; have e0 := hS'.1; have e1 := hS'.2; go_simp; try rfl)); (simp only [Act.put, List.setIfInBounds_toArray]; dsimp only [List.set_cons_zero, List.set_cons_succ]))
              | (refine plan_skip rfl (fun _ _ _ h => h) rfl hS ?_; (simp only [Act.put, List.setIfInBounds_toArray]; dsimp only [List.set_cons_zero, List.set_cons_succ])))
            refine plan_do (by rfl) (by rfl) (fun K hK => ?_)
            go_simp
            refine hK.out _ _ (fun _ => hs4) (fun hS => ?_); clear hK K; replace hS := hS rfl; try (simp only [Act.put, List.setIfInBounds_toArray]; dsimp only [List.set_cons_zero, List.set_cons_succ])
            repeat (first
              | (refine plan_read (v := ?_) rfl (fun _ _ _ h => h) rfl hS ?_ ?_; rotate_left 1; (focus (intro w' hS'; have e0 := hS'.1; have e1 := hS'.2; go_simp; try rfl)); (simp only [Act.put, List.setIfInBounds_toArray]; dsimp only [List.set_cons_zero, List.set_cons_succ]))
              | (refine plan_skip rfl (fun _ _ _ h => h) rfl hS ?_; (simp only [Act.put, List.setIfInBounds_toArray]; dsimp only [List.set_cons_zero, List.set_cons_succ])))
            refine plan_do (by rfl) (by rfl) (fun K hK => ?_)
            go_simp
            refine hK.out _ _ (fun _ => hs4) (fun hS => ?_); clear hK K; replace hS := hS rfl; try (simp only [Act.put, List.setIfInBounds_toArray]; dsimp only [List.set_cons_zero, List.set_cons_succ])
            repeat (first
              | (refine plan_read (v := ?_) rfl (fun _ _ _ h => h) rfl hS ?_ ?_; rotate_left 1; (focus (intro w' hS'; have e0 := hS'.1; have e1 := hS'.2; go_simp; try rfl)); (simp only [Act.put, List.setIfInBounds_toArray]; dsimp only [List.set_cons_zero, List.set_cons_succ]))
              | (refine plan_skip rfl (fun _ _ _ h => h) rfl hS ?_; (simp only [Act.put, List.setIfInBounds_toArray]; dsimp only [List.set_cons_zero, List.set_cons_succ])))
            refine plan_do (by rfl) (by rfl) (fun K hK => ?_)
            go_simp
            refine HFE.out.mono ?_
            rintro r w5 ⟨rfl, hb5⟩
            have HB6 := Lib.hid (And.intro (HB5.out.trans (hb5.mono HB5.out.size)) hb5)
            have hs5 := HLK.out w5 HB6.out.1
            have HR5 := Lib.hid (HRT.out w5 HB6.out.1)
            clear hb5
            refine hK.out _ _ (fun _ => hs5) (fun hS => ?_); clear hK K; replace hS := hS rfl; try (simp only [Act.put, List.setIfInBounds_toArray]; dsimp only [List.set_cons_zero, List.set_cons_succ])
            repeat (first
              | (refine plan_read (v := ?_) rfl (fun _ _ _ h => h) rfl hS ?_ ?_; rotate_left 1; (focus (intro w' hS'; have e0 := hS'.1; have e1 := hS'.2; go_simp; try rfl)); (simp only [Act.put, List.setIfInBounds_toArray]; dsimp only [List.set_cons_zero, List.set_cons_succ]))
              | (refine plan_skip rfl (fun _ _ _ h => h) rfl hS ?_; (simp only [Act.put, List.setIfInBounds_toArray]; dsimp only [List.set_cons_zero, List.set_cons_succ])))
            refine plan_do (by rfl) (by rfl) (fun K hK => ?_)
            go_simp
            refine HR5.out.mono ?_
            rintro r w6 ⟨rfl, hb6⟩
            have HB7 := Lib.hid (And.intro (HB6.out.1.trans (hb6.mono HB6.out.1.size)) (HB6.out.2.trans (hb6.mono HB6.out.2.size)))
            clear hb6
            refine hK.out _ _ (fun h => by cases h) (fun _ => ?_); clear hK K; try (simp only [Act.put, List.setIfInBounds_toArray]; dsimp only [List.set_cons_zero, List.set_cons_succ])
            clear hS
            have hS := HLK.out w6 HB7.out.1
            repeat (first
              | (refine plan_read (v := ?_) rfl (fun _ _ _ h => h) rfl hS ?_ ?_; rotate_left 1; (focus (intro w' hS'; have e0 := hS'.1; have e1 := hS'.2; go_simp; try rfl)); (simp only [Act.put, List.setIfInBounds_toArray]; dsimp only [List.set_cons_zero, List.set_cons_succ]))
              | (refine plan_skip rfl (fun _ _ _ h => h) rfl hS ?_; (simp only [Act.put, List.setIfInBounds_toArray]; dsimp only [List.set_cons_zero, List.set_cons_succ])))
            refine plan_nil ?_
            have c76 := HC7.out w6 HB7.out.2
            have HU6 := Lib.hid (HUW.out w6 HB7.out.2)
            go_wp2_with fail
            refine HU6.out.mono ?_
            rintro r w7 ⟨rfl, rfl⟩
            go_wp2_with fail
            go_roundw
            case rel => exact ⟨j + 1, by go_num, by omega, Lib.hid ⟨HCV.out.2.1.keep HB7.out.1, HCV.out.2.2.trans (HB7.out.1.mono HCV.out.2.2.size)⟩⟩
            case measure => simp [intOf]; omega
          · obtain rfl : j = ls.length := by omega
            have hv : u5 = .iface 28 (.int .i64 e) := by
              have h1 := hr.out.1
              rw [List.drop_length] at h1
              exact h1
            have hn4 := Blk.new wr 28 #[.int .i64 0]
            have hb4 : Below wr.heap.size wr (wr.alloc (.cells #[.int .i64 0] 28)) := (Below.refl _ _).alloc (Nat.le_refl _) _
            subst hv
            have HAS := Lib.hid (asE_hit _ [] e ⟨wr.heap.size, 0, none⟩ (.int .i64 0) (wr.alloc (.cells #[.int .i64 0] 28)) ((HT.out.below HBr.out).below hb4).2 rfl (hn4.cell 0) (hn4.frozen 0))
            have HB4 := Lib.hid (And.intro hb4 hn4)
            clear hr hn4 hb4
            go_wp2_with fail
            refine HAS.out.mono ?_
            rintro r w4 ⟨rfl, wA, hA, rfl⟩
            have hbA : Below wr.heap.size wr wA := HB4.out.1.trans (hA.mono HB4.out.1.size)
            have hb5 : Below wr.heap.size wr (wA.setCell ⟨wr.heap.size, 0, none⟩ (.int .i64 e)) := hbA.trans ((Fr.setCell (F := (· = wr.heap.size)) _ _ _ rfl).below hbA.size (fun k hk => by omega))
            have c8 : (wA.setCell ⟨wr.heap.size, 0, none⟩ (.int .i64 e)).cell? ⟨wr.heap.size, 0, none⟩ = some (.int .i64 e) := ((HB4.out.2.below hA HB4.out.2.lt).set_ 0 (.int .i64 e)).cell 0
            have HB5 := Lib.hid (HBr.out.trans (hb5.mono HBr.out.size))
            generalize wA.setCell ⟨wr.heap.size, 0, none⟩ (.int .i64 e) = w5 at *
            clear hA hbA hb5 HAS HB4
            go_wp2_with fail
            go_ret
            exact ⟨rfl, HB5.out⟩

theorem texts_walk (a0 : Option Addr) (ys0 : List Lk) (len0 cap0 : Nat) (a1 : Int) (W : World) (hT : Tabs W) (m0 : ys0.length = len0) (w0 : InLinks W a0 ys0 ∧ ys0.length ≤ cap0) (w1 : (Lit.int .i64 a1).wf = true) :
    Calls Tryd.prog 3 #[.slice a0 len0 cap0, .int .i64 a1] W fun e w' => e = .returned (.bool true) ∧ Below W.heap.size W w' := by
  subst m0
  exact texts_any_ ys0 a0 cap0 a1 W w0.1 w0.2 hT (wf_i64 w1)
end Go.Proofs.YtnfcnjnecankbaaDoor
