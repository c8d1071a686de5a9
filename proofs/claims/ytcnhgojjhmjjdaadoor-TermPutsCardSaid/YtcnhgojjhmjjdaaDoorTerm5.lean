/-
  A term's text.
-/
import Derived.Test.YtcnhgojjhmjjdaaDoorTerm4
namespace Go.Proofs.YtcnhgojjhmjjdaaDoor
set_option maxRecDepth 4000
open Go.RowKit

theorem str_append (a b : List UInt8) : str a ++ str b = str (a ++ b) := by
  rw [← str_of (str a ++ str b)]
  congr 1

/-- What text meets where it begins. -/
structure TextAt (w : World) (base p : Nat) (l : List Tm) : Prop where
  pool : PoolIs w base p l
  ok : Pool l
  tab : Tab10 w
  wf : ∀ t ∈ l, wfT t
theorem TextAt.below {w w' : World} {base p : Nat} {l : List Tm} (h : TextAt w base p l) (hb : Below w.heap.size w w') : TextAt w' base p l :=
  ⟨h.pool.below hb, h.ok, h.tab.below (Nat.le_refl _) hb, h.wf⟩

theorem text_any (l : List Tm) (base p : Nat) : ∀ (X : Nat) (w : World), TextAt w base p l → X < l.length → (sizs l).getD X 0 ≤ 10000 →
    Calls Tryd.prog 21 #[.pointer (some ⟨p, 0, none⟩), .int .i64 X] w fun e w' => e = .returned (.string (str ((txts l).getD X []))) ∧ Below w.heap.size w w' := by
  intro X
  induction X using Nat.strongRecOn with
  | _ X ih =>
    intro w hT hX hsz
    obtain ⟨⟨tA, tc, mb, dA, dc, sA, sc, hP⟩, hp, htab, hwf⟩ := id hT
    have hx : l[X]? = some (l[X]'hX) := List.getElem?_eq_getElem hX
    generalize l[X] = t at hx
    obtain ⟨tg, rfl, q0, q1, q2, q3⟩ := own_tm hP.ts hx
    have hll := own_len hP.ts
    unfold maxLen at hll
    have hr := hp.right X t hx
    have hw := hwf t (List.mem_of_getElem? hx)
    have c0 := hP.cell0
    have hB : ∀ o, Below w.heap.size w (w.alloc o) := fun o => (Below.refl _ _).alloc (Nat.le_refl _) o
    have HB := Lib.hid hB
    have HA := Lib.hid (hT.below (hB (.cells #[.int .i64 t.k, .int .i64 t.a, .int .i64 t.x, .int .i64 t.y] 33)))
    have htx := txts_get hp hx
    have hsx := sizs_get hp hx
    rw [List.getD_eq_getElem?_getD, hsx] at hsz
    simp only [Option.getD_some] at hsz
    have hE := Lib.hid (show (txts l).getD X [] = txtT (txts l) t by rw [List.getD_eq_getElem?_getD, htx]; rfl)
    have hI := itoa_any t.a (wf_i64 hw.2.1).1 (wf_i64 hw.2.1).2
    have HI := Lib.hid hI
    have hle := itoa_le t.a hw.2.1
    have hsub : ∀ Y : Nat, Y < X → (sizs l).getD Y 0 ≤ 10000 → ((txts l).getD Y []).length ≤ 10000 ∧ ∀ W, TextAt W base p l → Calls Tryd.prog 21 #[.pointer (some ⟨p, 0, none⟩), .int .i64 Y] W fun e w' => e = .returned (.string (str ((txts l).getD Y []))) ∧ Below W.heap.size W w' := fun Y hY hs => ⟨by have := sizs_txts hp Y (by omega) hs; omega, fun W hW => ih Y hY W hW (by omega) hs⟩
    have hpos := sizs_pos hp
    clear hI htx hsx hT hP htab hwf hp hw hx hB
    by_cases k1 : t.k = 1
    · have e1 := Lib.hid (show txtT (txts l) t = [97] ++ Lib.itoa t.a by simp [txtT, k1])
      obtain ⟨k, a, x, y⟩ := t
      simp only at k1 q0 q1 q2 q3 HA HI
      subst k1
      clear ih hsub hpos
      go_enter Tryd.func21, Tryd.ntmps21
      go_wp2_with (go_at_call 26; refine (HI.out _ HA.out.tab).mono ?_; rintro e' w' ⟨rfl, bel⟩)
      go_ret
      exact ⟨ret_val (congrArg Value.string (by rw [hE.out, e1.out, ← str_append]; rfl)), (HB.out _).trans (bel.mono (HB.out _).size)⟩
    · have hx := okT_x hr k1
      have k1b : ((t.k : Int) == 1) = false := by simpa using k1
      unfold sizT at hsz
      rw [if_neg k1] at hsz
      by_cases k3 : t.k = 3
      · rw [if_pos k3] at hsz
        have e1 := Lib.hid (show txtT (txts l) t = [104, 40] ++ (txts l).getD t.x.toNat [] ++ [41] by simp [txtT, k3])
        obtain ⟨hlx, hcx⟩ := hsub t.x.toNat (by omega) (by omega)
        obtain ⟨X1, hX1⟩ : ∃ X1 : Nat, t.x = X1 := ⟨t.x.toNat, by omega⟩
        obtain ⟨k, a, x, y⟩ := t
        simp only at k1 k3 k1b q0 q1 q2 q3 HA HI hX1 hlx hcx e1 hsz hx
        subst k3
        subst hX1
        simp only [Int.toNat_natCast] at hlx hcx e1
        have HX := Lib.hid hcx; clear hcx ih hsub hpos hsz hr k1 k1b
        generalize (txts l).getD X1 [] = SX at *
        go_enter Tryd.func21, Tryd.ntmps21
        go_wp2_with (go_at_call 21; refine (HX.out _ HA.out).mono ?_; rintro e' w' ⟨rfl, bel⟩)
        go_ret
        exact ⟨ret_val (congrArg Value.string (by rw [hE.out, e1.out]; simp only [show (⟨#[104, 40]⟩ : ByteArray) = str [104, 40] from rfl, show (⟨#[41]⟩ : ByteArray) = str [41] from rfl, str_append])), (HB.out _).trans (bel.mono (HB.out _).size)⟩
      · rw [if_neg k3] at hsz
        have k3b : ((t.k : Int) == 3) = false := by simpa using k3
        have hy := okT_y hr k1 k3
        have px := hpos t.x.toNat (by omega)
        have py := hpos t.y.toNat (by omega)
        obtain ⟨hlx, hcx⟩ := hsub t.x.toNat (by omega) (by omega)
        obtain ⟨hly, hcy⟩ := hsub t.y.toNat (by omega) (by omega)
        have hl3 : ((txts l).getD t.x.toNat []).length + ((txts l).getD t.y.toNat []).length ≤ 20000 := by omega
        obtain ⟨X1, hX1⟩ : ∃ X1 : Nat, t.x = X1 := ⟨t.x.toNat, by omega⟩
        obtain ⟨Y1, hY1⟩ : ∃ Y1 : Nat, t.y = Y1 := ⟨t.y.toNat, by omega⟩
        have n2 := (Blk.new w 33 #[.int .i64 t.k, .int .i64 t.a, .int .i64 t.x, .int .i64 t.y]).cell 2
        have n3 := (Blk.new w 33 #[.int .i64 t.k, .int .i64 t.a, .int .i64 t.x, .int .i64 t.y]).cell 3
        have hBA := HB.out (.cells #[.int .i64 t.k, .int .i64 t.a, .int .i64 t.x, .int .i64 t.y] 33)
        have hz1 : w.heap.size + 1 ≤ (w.alloc (.cells #[.int .i64 t.k, .int .i64 t.a, .int .i64 t.x, .int .i64 t.y] 33)).heap.size := by simp
        have hkk := okT_kind hr
        by_cases k2 : t.k = 2
        · have e1 := Lib.hid (show txtT (txts l) t = [40] ++ (txts l).getD t.x.toNat [] ++ [44] ++ (txts l).getD t.y.toNat [] ++ [41] by simp [txtT, k2])
          obtain ⟨k, a, x, y⟩ := t
          simp only at k1 k2 k3 k1b k3b q0 q1 q2 q3 HA HI hX1 hY1 hlx hcx hly hcy e1 hx hy n2 n3 hBA hl3 hz1
          subst k2
          subst hX1
          subst hY1
          simp only [Int.toNat_natCast] at hlx hcx hly hcy e1 hl3
          have HX := Lib.hid hcx; have HY := Lib.hid hcy
          have HS := Lib.hid (And.intro HA.out (And.intro n2 (And.intro n3 (And.intro hBA hz1))))
          clear hcx hcy ih hsub hpos hsz hr k1 k1b k3 k3b px py n2 n3 hBA hkk hz1
          generalize (txts l).getD X1 [] = SX at *
          generalize (txts l).getD Y1 [] = SY at *
          have g1 : ¬ (9223372036854775807 < 1 + SX.length) := by omega
          have g2 : ¬ (9223372036854775807 < 1 + SX.length + 1) := by omega
          have g3 : ¬ (9223372036854775807 < 1 + SX.length + 1 + SY.length) := by omega
          have g4 : ¬ (9223372036854775807 < 1 + SX.length + 1 + SY.length + 1) := by omega
          go_enter Tryd.func21, Tryd.ntmps21
          go_wp2_with fail
          refine region_fast [(0, true), (1, true), (2, true), (6, true), (7, true), (8, true), (3, false), (4, true), (5, true), (9, false), (10, true), (11, true), (12, true)] [1, 2, 3, 4, 5, 6, 7, 8, 9] 1022 [(2147483648, 1, 0, 0), (4294967296, 32, 0, 0), (8589934592, 4294967296, 2, 2), (17179869184, 10737418240, 5, 7), (34359738368, 17179869184, 8, 15), (68719476736, 34359738368, 16, 31), (137438953472, 1, 0, 0), (274877906944, 32, 0, 0), (549755813888, 274877906944, 128, 128), (1099511627776, 687194767360, 328, 463), (2199023255552, 1168231104512, 544, 1023), (4398046511104, 2199023255552, 1024, 2047), (16, 4398046511104, 4095, 4095)] (fun W => TextAt W base p l ∧ W.cell? ⟨w.heap.size, 2, none⟩ = some (.int .i64 (X1 : Int)) ∧ W.cell? ⟨w.heap.size, 3, none⟩ = some (.int .i64 (Y1 : Int)) ∧ Below w.heap.size w W ∧ w.heap.size + 1 ≤ W.heap.size) (by kernel_rfl) (by kernel_rfl) (by kernel_rfl) rfl (by kernel_rfl) (by kernel_rfl) ⟨HS.out.1.below (Below.refl _ _).drew, HS.out.2.1, HS.out.2.2.1, HS.out.2.2.2.1.drew, HS.out.2.2.2.2⟩ (fun hS => ?_)
          repeat (first
            | (refine plan_read (v := ?_) rfl (fun _ _ _ h => h) rfl hS ?_ ?_; rotate_left 1; (focus (intro w' hS'; obtain ⟨s1, s2, s3, s4, s5⟩ := hS'; go_simp; try rfl)); (simp only [Act.put, List.setIfInBounds_toArray]; dsimp only [List.set_cons_zero, List.set_cons_succ]))
            | (refine plan_skip rfl (fun _ _ _ h => h) rfl hS ?_; (simp only [Act.put, List.setIfInBounds_toArray]; dsimp only [List.set_cons_zero, List.set_cons_succ])))
          refine plan_do (by rfl) (by rfl) (fun K hK => ?_)
          go_simp
          refine (HX.out _ hS.1).mono ?_
          rintro e w1 ⟨rfl, bel⟩
          refine hK.out _ _ (fun _ => ⟨hS.1.below bel, (World.cell?_of_block (a := ⟨w.heap.size, 2, none⟩) (bel.block w.heap.size hS.2.2.2.2)).trans hS.2.1, (World.cell?_of_block (a := ⟨w.heap.size, 3, none⟩) (bel.block w.heap.size hS.2.2.2.2)).trans hS.2.2.1, hS.2.2.2.1.trans (bel.mono hS.2.2.2.1.size), Nat.le_trans hS.2.2.2.2 bel.size⟩) (fun hS => ?_); clear hK K; replace hS := hS rfl; try (simp only [Act.put, List.setIfInBounds_toArray]; dsimp only [List.set_cons_zero, List.set_cons_succ])
          repeat (first
            | (refine plan_read (v := ?_) rfl (fun _ _ _ h => h) rfl hS ?_ ?_; rotate_left 1; (focus (intro w' hS'; obtain ⟨s1, s2, s3, s4, s5⟩ := hS'; go_simp; try rfl)); (simp only [Act.put, List.setIfInBounds_toArray]; dsimp only [List.set_cons_zero, List.set_cons_succ]))
            | (refine plan_skip rfl (fun _ _ _ h => h) rfl hS ?_; (simp only [Act.put, List.setIfInBounds_toArray]; dsimp only [List.set_cons_zero, List.set_cons_succ])))
          refine plan_do (by rfl) (by rfl) (fun K hK => ?_)
          go_simp
          refine (HY.out _ hS.1).mono ?_
          rintro e w2 ⟨rfl, bel2⟩
          refine hK.out _ _ (fun _ => ⟨hS.1.below bel2, (World.cell?_of_block (a := ⟨w.heap.size, 2, none⟩) (bel2.block w.heap.size hS.2.2.2.2)).trans hS.2.1, (World.cell?_of_block (a := ⟨w.heap.size, 3, none⟩) (bel2.block w.heap.size hS.2.2.2.2)).trans hS.2.2.1, hS.2.2.2.1.trans (bel2.mono hS.2.2.2.1.size), Nat.le_trans hS.2.2.2.2 bel2.size⟩) (fun hS => ?_); clear hK K; replace hS := hS rfl; try (simp only [Act.put, List.setIfInBounds_toArray]; dsimp only [List.set_cons_zero, List.set_cons_succ])
          repeat (first
            | (refine plan_read (v := ?_) rfl (fun _ _ _ h => h) rfl hS ?_ ?_; rotate_left 1; (focus (intro w' hS'; obtain ⟨s1, s2, s3, s4, s5⟩ := hS'; go_simp; try rfl)); (simp only [Act.put, List.setIfInBounds_toArray]; dsimp only [List.set_cons_zero, List.set_cons_succ]))
            | (refine plan_skip rfl (fun _ _ _ h => h) rfl hS ?_; (simp only [Act.put, List.setIfInBounds_toArray]; dsimp only [List.set_cons_zero, List.set_cons_succ])))
          refine plan_nil ?_
          go_wp2_with fail
          go_ret
          exact ⟨ret_val (congrArg Value.string (by rw [hE.out, e1.out]; simp only [show (⟨#[40]⟩ : ByteArray) = str [40] from rfl, show (⟨#[44]⟩ : ByteArray) = str [44] from rfl, show (⟨#[41]⟩ : ByteArray) = str [41] from rfl, str_append])), hS.2.2.2.1⟩
        · have k2b : ((t.k : Int) == 2) = false := by simpa using k2
          have e1 := Lib.hid (show txtT (txts l) t = [123] ++ (txts l).getD t.y.toNat [] ++ [125, 95] ++ (txts l).getD t.x.toNat [] by simp [txtT, k1, k2, k3])
          obtain ⟨k, a, x, y⟩ := t
          simp only at k1 k2 k3 k1b k2b k3b q0 q1 q2 q3 HA HI hX1 hY1 hlx hcx hly hcy e1 hx hy n2 n3 hBA hl3 hz1
          subst hX1
          subst hY1
          simp only [Int.toNat_natCast] at hlx hcx hly hcy e1 hl3
          have HX := Lib.hid hcx; have HY := Lib.hid hcy
          have HS := Lib.hid (And.intro HA.out (And.intro n2 (And.intro n3 (And.intro hBA hz1))))
          clear hcx hcy ih hsub hpos hsz hr k1 k2 k3 px py n2 n3 hBA hkk hz1
          generalize (txts l).getD X1 [] = SX at *
          generalize (txts l).getD Y1 [] = SY at *
          have g1 : ¬ (9223372036854775807 < 1 + SY.length) := by omega
          have g2 : ¬ (9223372036854775807 < 1 + SY.length + 2) := by omega
          have g3 : ¬ (9223372036854775807 < 1 + SY.length + 2 + SX.length) := by omega
          go_enter Tryd.func21, Tryd.ntmps21
          go_wp2_with fail
          refine region_fast [(0, true), (1, true), (2, true), (6, true), (7, true), (8, true), (3, false), (4, true), (5, true), (9, false), (10, true), (11, true)] [1, 2, 3, 4, 5, 6, 7, 8, 9] 1022 [(8796093022208, 1, 0, 0), (17592186044416, 32, 0, 0), (35184372088832, 17592186044416, 2, 2), (70368744177664, 43980465111040, 5, 7), (140737488355328, 70368744177664, 8, 15), (281474976710656, 140737488355328, 16, 31), (562949953421312, 1, 0, 0), (1125899906842624, 32, 0, 0), (2251799813685248, 1125899906842624, 128, 128), (4503599627370496, 2814749767106560, 328, 463), (9007199254740992, 4785074604081152, 544, 1023), (16, 9007199254740992, 2047, 2047)] (fun W => TextAt W base p l ∧ W.cell? ⟨w.heap.size, 2, none⟩ = some (.int .i64 (X1 : Int)) ∧ W.cell? ⟨w.heap.size, 3, none⟩ = some (.int .i64 (Y1 : Int)) ∧ Below w.heap.size w W ∧ w.heap.size + 1 ≤ W.heap.size) (by kernel_rfl) (by kernel_rfl) (by kernel_rfl) rfl (by kernel_rfl) (by kernel_rfl) ⟨HS.out.1.below (Below.refl _ _).drew, HS.out.2.1, HS.out.2.2.1, HS.out.2.2.2.1.drew, HS.out.2.2.2.2⟩ (fun hS => ?_)
          repeat (first
            | (refine plan_read (v := ?_) rfl (fun _ _ _ h => h) rfl hS ?_ ?_; rotate_left 1; (focus (intro w' hS'; obtain ⟨s1, s2, s3, s4, s5⟩ := hS'; go_simp; try rfl)); (simp only [Act.put, List.setIfInBounds_toArray]; dsimp only [List.set_cons_zero, List.set_cons_succ]))
            | (refine plan_skip rfl (fun _ _ _ h => h) rfl hS ?_; (simp only [Act.put, List.setIfInBounds_toArray]; dsimp only [List.set_cons_zero, List.set_cons_succ])))
          refine plan_do (by rfl) (by rfl) (fun K hK => ?_)
          go_simp
          refine (HY.out _ hS.1).mono ?_
          rintro e w1 ⟨rfl, bel⟩
          refine hK.out _ _ (fun _ => ⟨hS.1.below bel, (World.cell?_of_block (a := ⟨w.heap.size, 2, none⟩) (bel.block w.heap.size hS.2.2.2.2)).trans hS.2.1, (World.cell?_of_block (a := ⟨w.heap.size, 3, none⟩) (bel.block w.heap.size hS.2.2.2.2)).trans hS.2.2.1, hS.2.2.2.1.trans (bel.mono hS.2.2.2.1.size), Nat.le_trans hS.2.2.2.2 bel.size⟩) (fun hS => ?_); clear hK K; replace hS := hS rfl; try (simp only [Act.put, List.setIfInBounds_toArray]; dsimp only [List.set_cons_zero, List.set_cons_succ])
          repeat (first
            | (refine plan_read (v := ?_) rfl (fun _ _ _ h => h) rfl hS ?_ ?_; rotate_left 1; (focus (intro w' hS'; obtain ⟨s1, s2, s3, s4, s5⟩ := hS'; go_simp; try rfl)); (simp only [Act.put, List.setIfInBounds_toArray]; dsimp only [List.set_cons_zero, List.set_cons_succ]))
            | (refine plan_skip rfl (fun _ _ _ h => h) rfl hS ?_; (simp only [Act.put, List.setIfInBounds_toArray]; dsimp only [List.set_cons_zero, List.set_cons_succ])))
          refine plan_do (by rfl) (by rfl) (fun K hK => ?_)
          go_simp
          refine (HX.out _ hS.1).mono ?_
          rintro e w2 ⟨rfl, bel2⟩
          refine hK.out _ _ (fun _ => ⟨hS.1.below bel2, (World.cell?_of_block (a := ⟨w.heap.size, 2, none⟩) (bel2.block w.heap.size hS.2.2.2.2)).trans hS.2.1, (World.cell?_of_block (a := ⟨w.heap.size, 3, none⟩) (bel2.block w.heap.size hS.2.2.2.2)).trans hS.2.2.1, hS.2.2.2.1.trans (bel2.mono hS.2.2.2.1.size), Nat.le_trans hS.2.2.2.2 bel2.size⟩) (fun hS => ?_); clear hK K; replace hS := hS rfl; try (simp only [Act.put, List.setIfInBounds_toArray]; dsimp only [List.set_cons_zero, List.set_cons_succ])
          repeat (first
            | (refine plan_read (v := ?_) rfl (fun _ _ _ h => h) rfl hS ?_ ?_; rotate_left 1; (focus (intro w' hS'; obtain ⟨s1, s2, s3, s4, s5⟩ := hS'; go_simp; try rfl)); (simp only [Act.put, List.setIfInBounds_toArray]; dsimp only [List.set_cons_zero, List.set_cons_succ]))
            | (refine plan_skip rfl (fun _ _ _ h => h) rfl hS ?_; (simp only [Act.put, List.setIfInBounds_toArray]; dsimp only [List.set_cons_zero, List.set_cons_succ])))
          refine plan_nil ?_
          go_wp2_with fail
          go_ret
          exact ⟨ret_val (congrArg Value.string (by rw [hE.out, e1.out]; simp only [show (⟨#[123]⟩ : ByteArray) = str [123] from rfl, show (⟨#[125, 95]⟩ : ByteArray) = str [125, 95] from rfl, str_append])), hS.2.2.2.1⟩

/-- Text, as a plain function. -/
def textT (l : List Tm) (x : Int) : List UInt8 := if thereT l.length x = true ∧ (sizs l).getD x.toNat 0 ≤ 10000 then (txts l).getD x.toNat [] else []
theorem Text_any (l : List Tm) (base p : Nat) (x : Int) (w : World) (hT : TextAt w base p l) :
    Calls Tryd.prog 8 #[.pointer (some ⟨p, 0, none⟩), .int .i64 x] w fun e w' => e = .returned (.string (str (textT l x))) ∧ Below w.heap.size w w' := by
  obtain ⟨⟨tA, tc, mb, dA, dc, sA, sc, hP⟩, hp, htab, hwf⟩ := id hT
  have HT := Lib.hid (pthere_any p x tA l.length tc _ (own_len hP.ts) hP.cell0)
  have hll := own_len hP.ts
  unfold maxLen at hll
  by_cases h1 : thereT l.length x = true
  · have hx : 0 ≤ x ∧ x < l.length := by simpa [thereT] using h1
    obtain ⟨X, rfl⟩ : ∃ X : Nat, x = X := ⟨x.toNat, by omega⟩
    have hX : X < l.length := by omega
    obtain ⟨sg, rfl, q0⟩ := own_int hP.ss hX
    have c3 := hP.cell3
    rw [h1] at HT
    by_cases h2 : (sizs l).getD X 0 ≤ 10000
    · have e := Lib.hid (show textT l X = (txts l).getD X [] from if_pos ⟨h1, h2⟩)
      have HX := Lib.hid (text_any l base p X w hT hX h2)
      clear hT hP hp htab hwf h1
      generalize (sizs l).getD X 0 = sX at *
      generalize (txts l).getD X [] = SX at *
      go_enter Tryd.func8, Tryd.ntmps8
      go_wp2_with (first
        | (go_at_call 20; refine (HT.out).mono ?_; rintro e' w' ⟨rfl, rfl⟩)
        | (go_at_call 21; refine (HX.out).mono ?_; rintro e' w2 ⟨rfl, bel⟩))
      go_ret
      exact ⟨ret_val (congrArg Value.string (by rw [e.out])), bel⟩
    · have e := Lib.hid (show textT l X = [] from if_neg (fun h => h2 h.2))
      clear hT hP hp htab hwf h1
      generalize (sizs l).getD X 0 = sX at *
      go_enter Tryd.func8, Tryd.ntmps8
      go_wp2_with (go_at_call 20; refine (HT.out).mono ?_; rintro e' w' ⟨rfl, rfl⟩)
      go_ret
      exact ⟨ret_val (congrArg Value.string (by rw [e.out]; rfl)), Below.refl _ _⟩
  · have h1' : thereT l.length x = false := by simpa using h1
    have e := Lib.hid (show textT l x = [] by simp [textT, h1'])
    rw [h1'] at HT
    clear hT hP hp htab hwf h1
    go_enter Tryd.func8, Tryd.ntmps8
    go_wp2_with (go_at_call 20; refine (HT.out).mono ?_; rintro e' w' ⟨rfl, rfl⟩)
    go_ret
    exact ⟨ret_val (congrArg Value.string (by rw [e.out]; rfl)), Below.refl _ _⟩
end Go.Proofs.YtcnhgojjhmjjdaaDoor
