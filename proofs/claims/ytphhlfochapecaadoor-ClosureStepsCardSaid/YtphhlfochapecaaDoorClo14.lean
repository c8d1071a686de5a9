/-
  The document's right steps.
-/
import Derived.Test.YtphhlfochapecaaDoorClo13
import Derived.Test.YtphhlfochapecaaDoorTermR1
namespace Go.Proofs.YtphhlfochapecaaDoor
set_option maxRecDepth 4000
open Go.RowKit

set_option maxHeartbeats 2000000 in
theorem rright33_any (v : Value) (l : List Tm) (base : Nat) (KA : Option Addr) (S : List Int) (kc : Nat) (y : Wy) (A : Option Addr) (gv : List Int) (c : Nat) (w : World) (hL : LIs w base v l) (hll : l.length ≤ 1000) (hK : Sees w 1 KA S.length (i64s S)) (hkl : S.length ≤ 10000) (hg : Sees w 1 A gv.length (i64s gv)) (hgl : gv.length ≤ 10000) (hS : ∀ x ∈ S, thereT l.length x = true) :
    Calls Tryd.prog 23 #[v, .slice KA S.length kc, wval y, .slice A gv.length c] w fun e w' => e = .returned (.bool (rightW l gv S y)) ∧ Below w.heap.size w w' := by
  obtain ⟨vA, vc, rfl⟩ := own_shape hL
  obtain ⟨t, hh, o⟩ := y
  unfold wval
  have hb0 := (Below.refl w.heap.size w).alloc (Nat.le_refl _) (.cells #[.int .i64 t, .int .i64 hh, .int .i64 o] 40)
  have hx0 := Blk.new w 40 #[.int .i64 t, .int .i64 hh, .int .i64 o]
  have c0 : (w.alloc (.cells #[.int .i64 t, .int .i64 hh, .int .i64 o] 40)).cell? ⟨w.heap.size, 0, none⟩ = some (.int .i64 t) := hx0.cell 0
  have H0 := Lib.hid (And.intro (own_below hL hb0) (And.intro (hK.below hb0) (And.intro (hg.below hb0) (And.intro hx0 hb0))))
  have HO := Lib.hid (fun (hs : thereT l.length t = false) => rightW_out (gv := gv) (S := S) (w := ⟨t, hh, o⟩) hs)
  have HI := Lib.hid (fun X W h => in_any KA S kc X W h (by omega))
  have HIG := Lib.hid (fun X W h => in_any A gv c X W h (by omega))
  have HS := Lib.hid hS
  clear hx0 hb0 hL hK hg hS
  by_cases ht0 : 0 ≤ t ∧ t < l.length
  · have hth : thereT l.length t = true := by simp [thereT, ht0]
    have HW := Lib.hid (rightW_in (gv := gv) (S := S) (w := ⟨t, hh, o⟩) hth HS.out)
    have hget := (there_get hth).1
    obtain ⟨T, rfl⟩ : ∃ T : Nat, t = T := ⟨t.toNat, by omega⟩
    have hTl : T < l.length := by omega
    rw [Int.toNat_natCast] at hget
    obtain ⟨TT, hTT⟩ : ∃ TT, tmAt l (T : Int) = TT := ⟨_, rfl⟩
    rw [hTT] at hget
    simp only [hTT] at HW
    obtain ⟨tg, rfl, q0, q1, q2, q3⟩ := own_tm H0.out.1 hget
    obtain ⟨k, a, x, y⟩ := TT
    simp only at q0 q1 q2 q3
    clear hget hTT hth HO
    have hb1 := (Below.refl _ (w.alloc (.cells #[.int .i64 (T : Int), .int .i64 hh, .int .i64 o] 40))).alloc (Nat.le_refl _) (.cells #[.int .i64 k, .int .i64 a, .int .i64 x, .int .i64 y] 45)
    have H1 := Lib.hid (And.intro (own_below H0.out.1 hb1) (And.intro (H0.out.2.1.below hb1) (And.intro (H0.out.2.2.1.below hb1) (And.intro (H0.out.2.2.2.1.keep (hb1.block _ H0.out.2.2.2.1.lt)) (And.intro (Blk.new (w.alloc (.cells #[.int .i64 (T : Int), .int .i64 hh, .int .i64 o] 40)) 45 #[.int .i64 k, .int .i64 a, .int .i64 x, .int .i64 y]) (H0.out.2.2.2.2.trans (hb1.mono H0.out.2.2.2.2.size)))))))
    clear hb1
    go_enter Tryd.func23, Tryd.ntmps23
    go_upto_region 4 with fail
    have HB := Lib.hid H1.out.2.2.2.2.2
    have e0 := H1.out.2.2.2.1.cell 0
    have e1 := H1.out.2.2.2.1.cell 1
    have e2 := H1.out.2.2.2.1.cell 2
    have f0 := H1.out.2.2.2.2.1.cell 0
    have f2 := H1.out.2.2.2.2.1.cell 2
    have f3 := H1.out.2.2.2.2.1.cell 3
    have hzz : (w.alloc (.cells #[.int .i64 (T : Int), .int .i64 hh, .int .i64 o] 40)).heap.size = w.heap.size + 1 := by simp
    rw [hzz] at f0 f2 f3
    clear q0 q1 q2 q3 c0
    simp only [List.getElem?_toArray, List.getElem?_cons_zero, List.getElem?_cons_succ] at e0 e1 e2 f0 f2 f3
    have HIO := Lib.hid (HI.out o _ H1.out.2.1)
    have HIX := Lib.hid (HI.out x _ H1.out.2.1)
    have HIY := Lib.hid (HI.out y _ H1.out.2.1)
    have HIT := Lib.hid (HIG.out (T : Int) _ H1.out.2.2.1)
    clear HIG
    generalize (w.alloc (.cells #[.int .i64 (T : Int), .int .i64 hh, .int .i64 o] 40)).alloc (.cells #[.int .i64 k, .int .i64 a, .int .i64 x, .int .i64 y] 45) = W1 at *
    by_cases hr : 1 ≤ hh ∧ hh ≤ 3
    · obtain ⟨hr1, hr2⟩ := hr
      by_cases ho : o ∈ S
      · have hoth := HS.out o ho
        have HE := Lib.hid (HW.out.trans (by rw [if_pos ⟨hr1, hr2⟩, if_pos ho]))
        rw [decide_eq_true ho] at HIO
        clear HW ho
        have hgo := (there_get hoth).1
        have hon := (there_get hoth).2
        obtain ⟨O, rfl⟩ : ∃ O : Nat, o = O := ⟨o.toNat, by omega⟩
        rw [Int.toNat_natCast] at hgo
        obtain ⟨OO, hOO⟩ : ∃ OO, tmAt l (O : Int) = OO := ⟨_, rfl⟩
        rw [hOO] at hgo
        simp only [hOO] at HE
        have hol := (List.getElem?_eq_some_iff.1 hgo).1
        obtain ⟨tg', e', q0, q1, q2, q3⟩ := own_tm H1.out.1 hgo
        injection e' with e'
        injection e' with e'
        subst e'
        obtain ⟨k', a', x', y'⟩ := OO
        simp only at q0 q1 q2 q3
        clear hgo hOO hoth
        have hb2 := (Below.refl _ W1).alloc (Nat.le_refl _) (.cells #[.int .i64 k', .int .i64 a', .int .i64 x', .int .i64 y'] 45)
        have H2 := Lib.hid (And.intro (H1.out.2.1.below hb2) (And.intro (H1.out.2.2.2.1.keep (hb2.block _ H1.out.2.2.2.1.lt)) (And.intro (Blk.new W1 45 #[.int .i64 k', .int .i64 a', .int .i64 x', .int .i64 y']) (HB.out.trans (hb2.mono HB.out.size)))))
        clear hb2
        go_wp2_with fail
        refine HIO.out.mono ?_
        rintro e w9 ⟨rfl, rfl⟩
        go_upto_region 8 with fail
        clear e0 e1 e2 f0 f2 f3 q0 q1 q2 q3
        have HB2 := Lib.hid H2.out.2.2.2
        have e0 := H2.out.2.1.cell 0
        have e1 := H2.out.2.1.cell 1
        have g0 := H2.out.2.2.1.cell 0
        have g2 := H2.out.2.2.1.cell 2
        have g3 := H2.out.2.2.1.cell 3
        simp only [List.getElem?_toArray, List.getElem?_cons_zero, List.getElem?_cons_succ] at e0 e1 g0 g2 g3
        have HIZ := Lib.hid (HI.out x' _ H2.out.1)
        generalize W1.alloc (.cells #[.int .i64 k', .int .i64 a', .int .i64 x', .int .i64 y'] 45) = W2 at *
        have hcs : hh = 1 ∨ hh = 2 ∨ hh = 3 := by omega
        clear hr1 hr2
        rcases hcs with rfl | rfl | rfl
        · by_cases hk : k' = 2
          · subst hk
            by_cases hv : x' = (T : Int)
            · subst hv
              go_wp2_with fail
              go_ret
              exact ⟨ret_bool (by rw [HE.out]; simp), HB2.out⟩
            · have hvb : ((x' : Int) == (T : Int)) = false := by simpa using hv
              have HV := Lib.hid hv; clear hv
              go_wp2_with fail
              go_ret
              exact ⟨ret_bool (by rw [HE.out]; simp [HV.out]), HB2.out⟩
          · have hkb : ((k' : Int) == 2) = false := by simpa using hk
            have HV := Lib.hid hk; clear hk
            go_wp2_with fail
            go_ret
            exact ⟨ret_bool (by rw [HE.out]; simp [HV.out]), HB2.out⟩
        · by_cases hk : k' = 2
          · subst hk
            by_cases hv : y' = (T : Int)
            · subst hv
              go_wp2_with fail
              go_ret
              exact ⟨ret_bool (by rw [HE.out]; simp), HB2.out⟩
            · have hvb : ((y' : Int) == (T : Int)) = false := by simpa using hv
              have HV := Lib.hid hv; clear hv
              go_wp2_with fail
              go_ret
              exact ⟨ret_bool (by rw [HE.out]; simp [HV.out]), HB2.out⟩
          · have hkb : ((k' : Int) == 2) = false := by simpa using hk
            have HV := Lib.hid hk; clear hk
            go_wp2_with fail
            go_ret
            exact ⟨ret_bool (by rw [HE.out]; simp [HV.out]), HB2.out⟩
        · by_cases hk : k' = 4
          · subst hk
            by_cases hv : y' = (T : Int)
            · subst hv
              go_wp2_with fail
              refine HIZ.out.mono ?_
              rintro e w9 ⟨rfl, rfl⟩
              go_wp2_with fail
              go_ret
              exact ⟨ret_bool (by rw [HE.out]; simp), HB2.out⟩
            · have hvb : ((y' : Int) == (T : Int)) = false := by simpa using hv
              have HV := Lib.hid hv; clear hv
              go_wp2_with fail
              go_ret
              exact ⟨ret_bool (by rw [HE.out]; simp [HV.out]), HB2.out⟩
          · have hkb : ((k' : Int) == 4) = false := by simpa using hk
            have HV := Lib.hid hk; clear hk
            go_wp2_with fail
            go_ret
            exact ⟨ret_bool (by rw [HE.out]; simp [HV.out]), HB2.out⟩
      · have HE : Hid (rightW l gv S ⟨(T : Int), hh, o⟩ = false) := Lib.hid (by rw [HW.out, if_pos ⟨hr1, hr2⟩, if_neg ho])
        rw [decide_eq_false ho] at HIO
        clear HW ho
        go_wp2_with fail
        refine HIO.out.mono ?_
        rintro e w9 ⟨rfl, rfl⟩
        go_wp2_with fail
        go_ret
        exact ⟨ret_bool (HE.out.symm), HB.out⟩
    · have hr' : hh < 1 ∨ 3 < hh := by omega
      by_cases ho : o = 0
      · subst ho
        have HE := Lib.hid (HW.out.trans (by rw [if_neg hr, if_neg (by simp)]))
        clear HW
        rcases hr' with hr' | hr'
        · have n1 : ¬ (1 ≤ hh) := by omega
          clear hr
          by_cases h0 : hh = 0
          · subst h0
            go_wp2_with fail
            refine HIT.out.mono ?_
            rintro e w9 ⟨rfl, rfl⟩
            go_wp2_with fail
            go_ret
            exact ⟨ret_bool (by rw [HE.out]; simp), HB.out⟩
          · have m0 : ((hh : Int) == 0) = false := by simpa using h0
            have m4 : ((hh : Int) == 4) = false := by simp; omega
            have m5 : ((hh : Int) == 5) = false := by simp; omega
            have m6 : ((hh : Int) == 6) = false := by simp; omega
            have HM := Lib.hid (show hh ≠ 0 ∧ hh ≠ 4 ∧ hh ≠ 5 ∧ hh ≠ 6 by omega)
            clear h0
            go_wp2_with fail
            go_ret
            exact ⟨ret_bool (by rw [HE.out]; simp [HM.out.1, HM.out.2.1, HM.out.2.2.1, HM.out.2.2.2]), HB.out⟩
        · have n2 : ¬ (hh ≤ 3) := by omega
          have n1 : 1 ≤ hh := by omega
          clear hr
          have m0 : ((hh : Int) == 0) = false := by simp; omega
          by_cases h4 : hh = 4
          · subst h4
            by_cases hk : k = 3
            · subst hk
              go_wp2_with fail
              refine HIX.out.mono ?_
              rintro e w9 ⟨rfl, rfl⟩
              go_wp2_with fail
              go_ret
              exact ⟨ret_bool (by rw [HE.out]; simp), HB.out⟩
            · have hkb : ((k : Int) == 3) = false := by simpa using hk
              have HV := Lib.hid hk; clear hk
              go_wp2_with fail
              go_ret
              exact ⟨ret_bool (by rw [HE.out]; simp [HV.out]), HB.out⟩
          · have m4 : ((hh : Int) == 4) = false := by simpa using h4
            by_cases h5 : hh = 5
            · subst h5
              by_cases hk : k = 2
              · subst hk
                by_cases hxs : x ∈ S
                · rw [decide_eq_true hxs] at HIX
                  have HX := Lib.hid hxs; clear hxs
                  go_wp2_with fail
                  refine HIX.out.mono ?_
                  rintro e w9 ⟨rfl, rfl⟩
                  go_wp2_with fail
                  refine HIY.out.mono ?_
                  rintro e w9 ⟨rfl, rfl⟩
                  go_wp2_with fail
                  go_ret
                  exact ⟨ret_bool (by rw [HE.out]; simp [HX.out]), HB.out⟩
                · rw [decide_eq_false hxs] at HIX
                  have HX := Lib.hid hxs; clear hxs
                  go_wp2_with fail
                  refine HIX.out.mono ?_
                  rintro e w9 ⟨rfl, rfl⟩
                  go_wp2_with fail
                  go_ret
                  exact ⟨ret_bool (by rw [HE.out]; simp [HX.out]), HB.out⟩
              · have hkb : ((k : Int) == 2) = false := by simpa using hk
                have HV := Lib.hid hk; clear hk
                go_wp2_with fail
                go_ret
                exact ⟨ret_bool (by rw [HE.out]; simp [HV.out]), HB.out⟩
            · have m5 : ((hh : Int) == 5) = false := by simpa using h5
              by_cases h6 : hh = 6
              · subst h6
                by_cases hk : k = 4
                · subst hk
                  by_cases hxs : x ∈ S
                  · rw [decide_eq_true hxs] at HIX
                    have HX := Lib.hid hxs; clear hxs
                    go_wp2_with fail
                    refine HIX.out.mono ?_
                    rintro e w9 ⟨rfl, rfl⟩
                    go_wp2_with fail
                    refine HIY.out.mono ?_
                    rintro e w9 ⟨rfl, rfl⟩
                    go_wp2_with fail
                    go_ret
                    exact ⟨ret_bool (by rw [HE.out]; simp [HX.out]), HB.out⟩
                  · rw [decide_eq_false hxs] at HIX
                    have HX := Lib.hid hxs; clear hxs
                    go_wp2_with fail
                    refine HIX.out.mono ?_
                    rintro e w9 ⟨rfl, rfl⟩
                    go_wp2_with fail
                    go_ret
                    exact ⟨ret_bool (by rw [HE.out]; simp [HX.out]), HB.out⟩
                · have hkb : ((k : Int) == 4) = false := by simpa using hk
                  have HV := Lib.hid hk; clear hk
                  go_wp2_with fail
                  go_ret
                  exact ⟨ret_bool (by rw [HE.out]; simp [HV.out]), HB.out⟩
              · have m6 : ((hh : Int) == 6) = false := by simpa using h6
                have HM := Lib.hid (show hh ≠ 0 ∧ hh ≠ 4 ∧ hh ≠ 5 ∧ hh ≠ 6 by omega)
                clear h4 h5 h6
                go_wp2_with fail
                go_ret
                exact ⟨ret_bool (by rw [HE.out]; simp [HM.out.1, HM.out.2.1, HM.out.2.2.1, HM.out.2.2.2]), HB.out⟩
      · have hob : ((o : Int) != 0) = true := by simpa using ho
        have HE : Hid (rightW l gv S ⟨(T : Int), hh, o⟩ = false) := Lib.hid (by rw [HW.out, if_neg hr, if_pos ho])
        clear HW ho
        rcases hr' with hr' | hr'
        · have n1 : ¬ (1 ≤ hh) := by omega
          clear hr
          go_wp2_with fail
          go_ret
          exact ⟨ret_bool (HE.out.symm), HB.out⟩
        · have n2 : ¬ (hh ≤ 3) := by omega
          have n1 : 1 ≤ hh := by omega
          clear hr
          go_wp2_with fail
          go_ret
          exact ⟨ret_bool (HE.out.symm), HB.out⟩
  · have hth : thereT l.length t = false := by
      rcases Decidable.em (0 ≤ t) with h | h
      · simp [thereT]; omega
      · simp [thereT]; omega
    have HE := Lib.hid (HO.out hth)
    have HB := Lib.hid H0.out.2.2.2.2
    have hor : t < 0 ∨ (0 ≤ t ∧ (l.length : Int) ≤ t) := by omega
    clear hth HO ht0
    rcases hor with hor | hor
    · go_enter Tryd.func23, Tryd.ntmps23
      go_wp2_with fail
      go_ret
      exact ⟨ret_bool (HE.out.symm), HB.out⟩
    · obtain ⟨hor1, hor2⟩ := hor
      have n1 : ¬ (t < 0) := by omega
      go_enter Tryd.func23, Tryd.ntmps23
      go_wp2_with fail
      go_ret
      exact ⟨ret_bool (HE.out.symm), HB.out⟩
end Go.Proofs.YtphhlfochapecaaDoor
