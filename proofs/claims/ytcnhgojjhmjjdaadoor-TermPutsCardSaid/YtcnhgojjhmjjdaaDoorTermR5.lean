/-
  The document's text of a term.
-/
import Derived.Test.YtcnhgojjhmjjdaaDoorTermR4
import Derived.Test.YtcnhgojjhmjjdaaDoorTerm5
namespace Go.Proofs.YtcnhgojjhmjjdaaDoor
set_option maxRecDepth 4000
open Go.RowKit

theorem rtext_any (l : List Tm) (base : Nat) (v : Value) (hp : Pool l) : ∀ (X : Nat) (w : World), LIs w base v l → X < l.length → (sizs l).getD X 0 ≤ 10000 →
    Calls Tryd.prog 12 #[v, .int .i64 X] w fun e w' => e = .returned (.string (str ((txts l).getD X []))) ∧ Below w.heap.size w w' := by
  intro X
  induction X using Nat.strongRecOn with
  | _ X ih =>
    intro w h hX hsz
    obtain ⟨A, c, rfl⟩ := own_shape h
    have hx : l[X]? = some (l[X]'hX) := List.getElem?_eq_getElem hX
    generalize l[X] = t at hx
    obtain ⟨tg, rfl, q0, q1, q2, q3⟩ := own_tm h hx
    have hll := own_len h
    unfold maxLen at hll
    have hr := hp.right X t hx
    have hf := hp.fits t (List.mem_of_getElem? hx)
    have hB : ∀ o, Below w.heap.size w (w.alloc o) := fun o => (Below.refl _ _).alloc (Nat.le_refl _) o
    have HB := Lib.hid hB
    have HA : Hid (LIs (w.alloc (.cells #[.int .i64 t.k, .int .i64 t.a, .int .i64 t.x, .int .i64 t.y] 33)) base (.slice (some ⟨tg, 0, none⟩) l.length c) l) := Lib.hid (own_below h (hB _))
    have htx := txts_get hp hx
    have hsx := sizs_get hp hx
    rw [List.getD_eq_getElem?_getD, hsx] at hsz
    simp only [Option.getD_some] at hsz
    have hE := Lib.hid (show (txts l).getD X [] = txtT (txts l) t by rw [List.getD_eq_getElem?_getD, htx]; rfl)
    have HI := Lib.hid (rnum_any t.a hf.1 hf.2)
    have hle := Lib.itoa_length_le t.a hf.1 hf.2
    have hsub : ∀ Y : Nat, Y < X → (sizs l).getD Y 0 ≤ 10000 → ((txts l).getD Y []).length ≤ 10000 ∧ ∀ W, LIs W base (.slice (some ⟨tg, 0, none⟩) l.length c) l → Calls Tryd.prog 12 #[.slice (some ⟨tg, 0, none⟩) l.length c, .int .i64 Y] W fun e w' => e = .returned (.string (str ((txts l).getD Y []))) ∧ Below W.heap.size W w' := fun Y hY hs => ⟨by have := sizs_txts hp Y (by omega) hs; omega, fun W hW => ih Y hY W hW (by omega) hs⟩
    have hpos := sizs_pos hp
    clear htx hsx h hf hx hB
    by_cases k1 : t.k = 1
    · have e1 := Lib.hid (show txtT (txts l) t = [97] ++ Lib.itoa t.a by simp [txtT, k1])
      obtain ⟨k, a, x, y⟩ := t
      simp only at k1 q0 q1 q2 q3 HA HI e1 hE hle
      subst k1
      clear ih hsub hpos
      generalize Lib.itoa a = NA at *
      have hsz1 : ¬ (9223372036854775807 < 1 + NA.length) := by omega
      go_enter Tryd.func12, Tryd.ntmps12
      go_wp2_with (go_at_call 22; refine (HI.out _).mono ?_; rintro e' w' ⟨rfl, bel⟩)
      go_ret
      exact ⟨ret_val (congrArg Value.string (by rw [hE.out, e1.out, ← str_append]; rfl)), (HB.out _).trans (bel.mono (HB.out _).size)⟩
    · have hx := okT_x hr k1
      have k1b : ((t.k : Int) == 1) = false := by simpa using k1
      unfold sizT at hsz
      rw [if_neg k1] at hsz
      by_cases k3 : t.k = 3
      · rw [if_pos k3] at hsz
        have e1 := Lib.hid (show txtT (txts l) t = [104, 40] ++ (txts l).getD t.x.toNat [] ++ [41] by simp [txtT, k3])
        obtain ⟨hlx, hcx⟩ := hsub t.x.toNat (by omega) (by omega)
        obtain ⟨X1, hX1⟩ : ∃ X1 : Nat, t.x = X1 := ⟨t.x.toNat, by omega⟩
        obtain ⟨k, a, x, y⟩ := t
        simp only at k1 k3 k1b q0 q1 q2 q3 HA hX1 hlx hcx e1 hsz hx hE
        subst k3
        subst hX1
        simp only [Int.toNat_natCast] at hlx hcx e1
        have HX := Lib.hid hcx; clear hcx ih hsub hpos hsz hr k1 k1b
        generalize (txts l).getD X1 [] = SX at *
        have g1 : ¬ (9223372036854775807 < 2 + SX.length) := by omega
        have g2 : ¬ (9223372036854775807 < 2 + SX.length + 1) := by omega
        go_enter Tryd.func12, Tryd.ntmps12
        go_wp2_with (go_at_call 12; refine (HX.out _ HA.out).mono ?_; rintro e' w' ⟨rfl, bel⟩)
        go_ret
        exact ⟨ret_val (congrArg Value.string (by rw [hE.out, e1.out]; simp only [show (⟨#[104, 40]⟩ : ByteArray) = str [104, 40] from rfl, show (⟨#[41]⟩ : ByteArray) = str [41] from rfl, str_append])), (HB.out _).trans (bel.mono (HB.out _).size)⟩
      · rw [if_neg k3] at hsz
        have k3b : ((t.k : Int) == 3) = false := by simpa using k3
        have hy := okT_y hr k1 k3
        have px := hpos t.x.toNat (by omega)
        have py := hpos t.y.toNat (by omega)
        obtain ⟨hlx, hcx⟩ := hsub t.x.toNat (by omega) (by omega)
        obtain ⟨hly, hcy⟩ := hsub t.y.toNat (by omega) (by omega)
        have hl3 : ((txts l).getD t.x.toNat []).length + ((txts l).getD t.y.toNat []).length ≤ 20000 := by omega
        obtain ⟨X1, hX1⟩ : ∃ X1 : Nat, t.x = X1 := ⟨t.x.toNat, by omega⟩
        obtain ⟨Y1, hY1⟩ : ∃ Y1 : Nat, t.y = Y1 := ⟨t.y.toNat, by omega⟩
        have n2 := (Blk.new w 33 #[.int .i64 t.k, .int .i64 t.a, .int .i64 t.x, .int .i64 t.y]).cell 2
        have n3 := (Blk.new w 33 #[.int .i64 t.k, .int .i64 t.a, .int .i64 t.x, .int .i64 t.y]).cell 3
        have hBA := HB.out (.cells #[.int .i64 t.k, .int .i64 t.a, .int .i64 t.x, .int .i64 t.y] 33)
        have hz1 : w.heap.size + 1 ≤ (w.alloc (.cells #[.int .i64 t.k, .int .i64 t.a, .int .i64 t.x, .int .i64 t.y] 33)).heap.size := by simp
        have hkk := okT_kind hr
        by_cases k2 : t.k = 2
        · have e1 := Lib.hid (show txtT (txts l) t = [40] ++ (txts l).getD t.x.toNat [] ++ [44] ++ (txts l).getD t.y.toNat [] ++ [41] by simp [txtT, k2])
          obtain ⟨k, a, x, y⟩ := t
          simp only at k1 k2 k1b q0 q1 q2 q3 HA hX1 hY1 hlx hcx hly hcy e1 hx hy n2 n3 hBA hl3 hz1
          subst k2
          subst hX1
          subst hY1
          simp only [Int.toNat_natCast] at hlx hcx hly hcy e1 hl3
          have HX := Lib.hid hcx; have HY := Lib.hid hcy
          have HS := Lib.hid (And.intro HA.out (And.intro n2 (And.intro n3 (And.intro hBA hz1))))
          clear hcx hcy ih hsub hpos hsz hr k1 k1b px py n2 n3 hBA hkk hz1
          generalize (txts l).getD X1 [] = SX at *
          generalize (txts l).getD Y1 [] = SY at *
          have g1 : ¬ (9223372036854775807 < 1 + SX.length) := by omega
          have g2 : ¬ (9223372036854775807 < 1 + SX.length + 1) := by omega
          have g3 : ¬ (9223372036854775807 < 1 + SX.length + 1 + SY.length) := by omega
          have g4 : ¬ (9223372036854775807 < 1 + SX.length + 1 + SY.length + 1) := by omega
          go_enter Tryd.func12, Tryd.ntmps12
          go_wp2_with fail
          refine region_fast [(0, true), (1, true), (2, true), (6, true), (7, true), (8, true), (3, false), (4, true), (5, true), (9, false), (10, true), (11, true), (12, true)] [1, 2, 3, 4, 5, 6, 7, 8, 9] 1022 [(1048576, 1, 0, 0), (2097152, 32, 0, 0), (4194304, 2097152, 2, 2), (8388608, 5242880, 5, 7), (16777216, 8388608, 8, 15), (33554432, 16777216, 16, 31), (67108864, 1, 0, 0), (134217728, 32, 0, 0), (268435456, 134217728, 128, 128), (536870912, 335544320, 328, 463), (1073741824, 570425344, 544, 1023), (2147483648, 1073741824, 1024, 2047), (16, 2147483648, 4095, 4095)] (fun W => LIs W base (.slice (some ⟨tg, 0, none⟩) l.length c) l ∧ W.cell? ⟨w.heap.size, 2, none⟩ = some (.int .i64 (X1 : Int)) ∧ W.cell? ⟨w.heap.size, 3, none⟩ = some (.int .i64 (Y1 : Int)) ∧ Below w.heap.size w W ∧ w.heap.size + 1 ≤ W.heap.size) (by kernel_rfl) (by kernel_rfl) (by kernel_rfl) rfl (by kernel_rfl) (by kernel_rfl) ⟨HS.out.1, HS.out.2.1, HS.out.2.2.1, HS.out.2.2.2.1.drew, HS.out.2.2.2.2⟩ (fun hS => ?_)
          repeat (first
            | (refine plan_read (v := ?_) rfl (fun _ _ _ h => h) rfl hS ?_ ?_; rotate_left 1; (focus (intro w' hS'; obtain ⟨s1, s2, s3, s4, s5⟩ := hS'; go_simp; try rfl)); (simp only [Act.put, List.setIfInBounds_toArray]; dsimp only [List.set_cons_zero, List.set_cons_succ]))
            | (refine plan_skip rfl (fun _ _ _ h => h) rfl hS ?_; (simp only [Act.put, List.setIfInBounds_toArray]; dsimp only [List.set_cons_zero, List.set_cons_succ])))
          refine plan_do (by rfl) (by rfl) (fun K hK => ?_)
          go_simp
          refine (HX.out _ hS.1).mono ?_
          rintro e w1 ⟨rfl, bel⟩
          refine hK.out _ _ (fun _ => ⟨own_below hS.1 bel, (World.cell?_of_block (a := ⟨w.heap.size, 2, none⟩) (bel.block w.heap.size hS.2.2.2.2)).trans hS.2.1, (World.cell?_of_block (a := ⟨w.heap.size, 3, none⟩) (bel.block w.heap.size hS.2.2.2.2)).trans hS.2.2.1, hS.2.2.2.1.trans (bel.mono hS.2.2.2.1.size), Nat.le_trans hS.2.2.2.2 bel.size⟩) (fun hS => ?_); clear hK K; replace hS := hS rfl; try (simp only [Act.put, List.setIfInBounds_toArray]; dsimp only [List.set_cons_zero, List.set_cons_succ])
          repeat (first
            | (refine plan_read (v := ?_) rfl (fun _ _ _ h => h) rfl hS ?_ ?_; rotate_left 1; (focus (intro w' hS'; obtain ⟨s1, s2, s3, s4, s5⟩ := hS'; go_simp; try rfl)); (simp only [Act.put, List.setIfInBounds_toArray]; dsimp only [List.set_cons_zero, List.set_cons_succ]))
            | (refine plan_skip rfl (fun _ _ _ h => h) rfl hS ?_; (simp only [Act.put, List.setIfInBounds_toArray]; dsimp only [List.set_cons_zero, List.set_cons_succ])))
          refine plan_do (by rfl) (by rfl) (fun K hK => ?_)
          go_simp
          refine (HY.out _ hS.1).mono ?_
          rintro e w2 ⟨rfl, bel2⟩
          refine hK.out _ _ (fun _ => ⟨own_below hS.1 bel2, (World.cell?_of_block (a := ⟨w.heap.size, 2, none⟩) (bel2.block w.heap.size hS.2.2.2.2)).trans hS.2.1, (World.cell?_of_block (a := ⟨w.heap.size, 3, none⟩) (bel2.block w.heap.size hS.2.2.2.2)).trans hS.2.2.1, hS.2.2.2.1.trans (bel2.mono hS.2.2.2.1.size), Nat.le_trans hS.2.2.2.2 bel2.size⟩) (fun hS => ?_); clear hK K; replace hS := hS rfl; try (simp only [Act.put, List.setIfInBounds_toArray]; dsimp only [List.set_cons_zero, List.set_cons_succ])
          repeat (first
            | (refine plan_read (v := ?_) rfl (fun _ _ _ h => h) rfl hS ?_ ?_; rotate_left 1; (focus (intro w' hS'; obtain ⟨s1, s2, s3, s4, s5⟩ := hS'; go_simp; try rfl)); (simp only [Act.put, List.setIfInBounds_toArray]; dsimp only [List.set_cons_zero, List.set_cons_succ]))
            | (refine plan_skip rfl (fun _ _ _ h => h) rfl hS ?_; (simp only [Act.put, List.setIfInBounds_toArray]; dsimp only [List.set_cons_zero, List.set_cons_succ])))
          refine plan_nil ?_
          go_wp2_with fail
          go_ret
          exact ⟨ret_val (congrArg Value.string (by rw [hE.out, e1.out]; simp only [show (⟨#[40]⟩ : ByteArray) = str [40] from rfl, show (⟨#[44]⟩ : ByteArray) = str [44] from rfl, show (⟨#[41]⟩ : ByteArray) = str [41] from rfl, str_append])), hS.2.2.2.1⟩
        · have k2b : ((t.k : Int) == 2) = false := by simpa using k2
          have e1 := Lib.hid (show txtT (txts l) t = [123] ++ (txts l).getD t.y.toNat [] ++ [125, 95] ++ (txts l).getD t.x.toNat [] by simp [txtT, k1, k2, k3])
          obtain ⟨k, a, x, y⟩ := t
          simp only at k1 k2 k3 k2b k3b k1b q0 q1 q2 q3 HA hX1 hY1 hlx hcx hly hcy e1 hx hy n2 n3 hBA hl3 hz1
          skip
          subst hX1
          subst hY1
          simp only [Int.toNat_natCast] at hlx hcx hly hcy e1 hl3
          have HX := Lib.hid hcx; have HY := Lib.hid hcy
          have HS := Lib.hid (And.intro HA.out (And.intro n2 (And.intro n3 (And.intro hBA hz1))))
          clear hcx hcy ih hsub hpos hsz hr k1 k2 k3 px py n2 n3 hBA hkk hz1
          generalize (txts l).getD X1 [] = SX at *
          generalize (txts l).getD Y1 [] = SY at *
          have g1 : ¬ (9223372036854775807 < 1 + SY.length) := by omega
          have g2 : ¬ (9223372036854775807 < 1 + SY.length + 2) := by omega
          have g3 : ¬ (9223372036854775807 < 1 + SY.length + 2 + SX.length) := by omega
          go_enter Tryd.func12, Tryd.ntmps12
          go_wp2_with fail
          refine region_fast [(0, true), (1, true), (2, true), (6, true), (7, true), (8, true), (3, false), (4, true), (5, true), (9, false), (10, true), (11, true)] [1, 2, 3, 4, 5, 6, 7, 8, 9] 1022 [(1099511627776, 1, 0, 0), (2199023255552, 32, 0, 0), (4398046511104, 2199023255552, 2, 2), (8796093022208, 5497558138880, 5, 7), (17592186044416, 8796093022208, 8, 15), (35184372088832, 17592186044416, 16, 31), (70368744177664, 1, 0, 0), (140737488355328, 32, 0, 0), (281474976710656, 140737488355328, 128, 128), (562949953421312, 351843720888320, 328, 463), (1125899906842624, 598134325510144, 544, 1023), (16, 1125899906842624, 2047, 2047)] (fun W => LIs W base (.slice (some ⟨tg, 0, none⟩) l.length c) l ∧ W.cell? ⟨w.heap.size, 2, none⟩ = some (.int .i64 (X1 : Int)) ∧ W.cell? ⟨w.heap.size, 3, none⟩ = some (.int .i64 (Y1 : Int)) ∧ Below w.heap.size w W ∧ w.heap.size + 1 ≤ W.heap.size) (by kernel_rfl) (by kernel_rfl) (by kernel_rfl) rfl (by kernel_rfl) (by kernel_rfl) ⟨HS.out.1, HS.out.2.1, HS.out.2.2.1, HS.out.2.2.2.1.drew, HS.out.2.2.2.2⟩ (fun hS => ?_)
          repeat (first
            | (refine plan_read (v := ?_) rfl (fun _ _ _ h => h) rfl hS ?_ ?_; rotate_left 1; (focus (intro w' hS'; obtain ⟨s1, s2, s3, s4, s5⟩ := hS'; go_simp; try rfl)); (simp only [Act.put, List.setIfInBounds_toArray]; dsimp only [List.set_cons_zero, List.set_cons_succ]))
            | (refine plan_skip rfl (fun _ _ _ h => h) rfl hS ?_; (simp only [Act.put, List.setIfInBounds_toArray]; dsimp only [List.set_cons_zero, List.set_cons_succ])))
          refine plan_do (by rfl) (by rfl) (fun K hK => ?_)
          go_simp
          refine (HY.out _ hS.1).mono ?_
          rintro e w1 ⟨rfl, bel⟩
          refine hK.out _ _ (fun _ => ⟨own_below hS.1 bel, (World.cell?_of_block (a := ⟨w.heap.size, 2, none⟩) (bel.block w.heap.size hS.2.2.2.2)).trans hS.2.1, (World.cell?_of_block (a := ⟨w.heap.size, 3, none⟩) (bel.block w.heap.size hS.2.2.2.2)).trans hS.2.2.1, hS.2.2.2.1.trans (bel.mono hS.2.2.2.1.size), Nat.le_trans hS.2.2.2.2 bel.size⟩) (fun hS => ?_); clear hK K; replace hS := hS rfl; try (simp only [Act.put, List.setIfInBounds_toArray]; dsimp only [List.set_cons_zero, List.set_cons_succ])
          repeat (first
            | (refine plan_read (v := ?_) rfl (fun _ _ _ h => h) rfl hS ?_ ?_; rotate_left 1; (focus (intro w' hS'; obtain ⟨s1, s2, s3, s4, s5⟩ := hS'; go_simp; try rfl)); (simp only [Act.put, List.setIfInBounds_toArray]; dsimp only [List.set_cons_zero, List.set_cons_succ]))
            | (refine plan_skip rfl (fun _ _ _ h => h) rfl hS ?_; (simp only [Act.put, List.setIfInBounds_toArray]; dsimp only [List.set_cons_zero, List.set_cons_succ])))
          refine plan_do (by rfl) (by rfl) (fun K hK => ?_)
          go_simp
          refine (HX.out _ hS.1).mono ?_
          rintro e w2 ⟨rfl, bel2⟩
          refine hK.out _ _ (fun _ => ⟨own_below hS.1 bel2, (World.cell?_of_block (a := ⟨w.heap.size, 2, none⟩) (bel2.block w.heap.size hS.2.2.2.2)).trans hS.2.1, (World.cell?_of_block (a := ⟨w.heap.size, 3, none⟩) (bel2.block w.heap.size hS.2.2.2.2)).trans hS.2.2.1, hS.2.2.2.1.trans (bel2.mono hS.2.2.2.1.size), Nat.le_trans hS.2.2.2.2 bel2.size⟩) (fun hS => ?_); clear hK K; replace hS := hS rfl; try (simp only [Act.put, List.setIfInBounds_toArray]; dsimp only [List.set_cons_zero, List.set_cons_succ])
          repeat (first
            | (refine plan_read (v := ?_) rfl (fun _ _ _ h => h) rfl hS ?_ ?_; rotate_left 1; (focus (intro w' hS'; obtain ⟨s1, s2, s3, s4, s5⟩ := hS'; go_simp; try rfl)); (simp only [Act.put, List.setIfInBounds_toArray]; dsimp only [List.set_cons_zero, List.set_cons_succ]))
            | (refine plan_skip rfl (fun _ _ _ h => h) rfl hS ?_; (simp only [Act.put, List.setIfInBounds_toArray]; dsimp only [List.set_cons_zero, List.set_cons_succ])))
          refine plan_nil ?_
          go_wp2_with fail
          go_ret
          exact ⟨ret_val (congrArg Value.string (by rw [hE.out, e1.out]; simp only [show (⟨#[123]⟩ : ByteArray) = str [123] from rfl, show (⟨#[125, 95]⟩ : ByteArray) = str [125, 95] from rfl, str_append])), hS.2.2.2.1⟩
end Go.Proofs.YtcnhgojjhmjjdaaDoor
