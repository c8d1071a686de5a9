/-
  TermApart: unlike terms have unlike texts; parts stand ahead and are less deep.
-/
import Derived.Test.YtcnhgojjhmjjdaaDoorTerm10
namespace Go.Proofs.YtcnhgojjhmjjdaaDoor
set_option maxRecDepth 4000
open Go.RowKit

theorem textT_apart {l : List Tm} (hp : Pool l) {i k : Nat} (hi : i < l.length) (hk : k < i) (hn : textT l i ≠ []) : textT l i ≠ textT l k := by
  intro e
  have e1 : textT l i = (txts l).getD i [] := by
    unfold textT at hn ⊢
    split
    · simp
    · rename_i h; rw [if_neg h] at hn; exact absurd rfl hn
  rw [e] at hn
  have e2 : textT l k = (txts l).getD k [] := by
    unfold textT at hn ⊢
    split
    · simp
    · rename_i h; rw [if_neg h] at hn; exact absurd rfl hn
  have := txts_inj hp hi (Nat.lt_trans hk hi) (by rw [← e1, ← e2, e])
  omega

theorem apart_walk (A : Option Addr) (ts : List Tm) (len c : Nat) (W : World) (hT : Tab10 W) (hm : ts.length = len) (hI : InTerms W A ts c) :
    Calls Tryd.prog 4 #[.slice A len c] W fun e W' => e = .returned (.bool true) ∧ Below W.heap.size W W' := by
  subst hm
  have hemp : (str []).toList.isEmpty = true := by rw [str_toList]; rfl
  have HA := Lib.hid (fun w h => awake_any w h)
  have HT := Lib.hid hT; clear hT
  by_cases h60 : 40 < ts.length
  · go_enter Tryd.func4, Tryd.ntmps4
    go_wp2_with fail
    refine (HA.out W HT.out).mono ?_
    rintro e w1 ⟨rfl, b1⟩
    go_wp2_with fail
    refine (HA.out w1 (HT.out.below (Nat.le_refl _) b1)).mono ?_
    rintro e w2 ⟨rfl, b2⟩
    go_wp2_with fail
    go_ret
    exact ⟨rfl, b1.trans (b2.mono b1.size)⟩
  · obtain ⟨hpool, hlen⟩ := putsT_pool ts (fit_wf hI.wf)
    have hwf := wf_puts hI.wf
    have HI := Lib.hid hI; clear hI
    have HM := Lib.hid (fun w h1 h2 => made_any A ts c w h1 (by omega) h2)
    obtain ⟨l, hl⟩ : ∃ l, putsT [] ts = l := ⟨_, rfl⟩
    rw [hl] at HM hpool hlen hwf
    have HL := Lib.hid hl; clear hl
    go_enter Tryd.func4, Tryd.ntmps4
    go_wp2_with fail
    refine (HA.out W HT.out).mono ?_
    rintro e w1 ⟨rfl, b1⟩
    go_wp2_with fail
    have HT1 := Lib.hid (HT.out.below (Nat.le_refl _) b1)
    refine (HM.out w1 (HI.out.below b1) HT1.out).mono ?_
    rintro e w2 ⟨p, v, rfl, hm⟩
    obtain ⟨vA, vc, rfl⟩ := own_shape hm.list
    have HM2 := Lib.hid hm; clear hm
    have hll : l.length ≤ 100 := by omega
    have HPW := Lib.hid (And.intro hpool hwf); clear hpool hwf
    have HTX := Lib.hid (fun n W h => Text_any l w1.heap.size p n W h)
    have HDO := Lib.hid (fun X W h1 h2 => depth_ok p X l w1.heap.size W h1 h2)
    have HB1 := Lib.hid b1; clear b1
    go_wp2_with fail
    go_loopw [5, 6] (fun i _ wr => ∃ j : Nat, i = .int .i64 j ∧ j ≤ l.length ∧ Hid (MadeAt w1 wr p (.slice vA l.length vc) l)) (fun i _ _ => l.length - (intOf i).toNat)
    case atStart => exact ⟨0, rfl, by omega, HM2⟩
    case round =>
      obtain ⟨j, rfl, hj, hr⟩ := hrel
      by_cases hlt : j < l.length
      · have hget : l[j]? = some (l[j]'hlt) := List.getElem?_eq_getElem hlt
        generalize l[j] = t at hget
        obtain ⟨g, rfl, q0, q1, q2, q3⟩ := own_tm hr.out.list hget
        have hok := HPW.out.1.right j t hget
        have HDX := Lib.hid (fun h => deps_x HPW.out.1 hget h)
        have HTJ := Lib.hid (fun k hk h => textT_apart HPW.out.1 (i := j) (k := k) hlt hk h)
        clear hget
        have inner : True := trivial
        by_cases k1 : t.k = 1
        · obtain ⟨k, a, x, y⟩ := t
          simp only at k1 q0 q1 q2 q3
          subst k1
          clear hok HDX
          go_wp2_with fail
          go_loopw [6] (fun i wr => ∃ m : Nat, i = .int .i64 m ∧ m ≤ j ∧ Hid (MadeAt w1 wr p (.slice (some ⟨g, 0, none⟩) l.length vc) l)) (fun i _ => j - (intOf i).toNat)
          case atStart => exact ⟨0, rfl, by omega, hr⟩
          case round =>
            obtain ⟨m, rfl, hmj, hr2⟩ := hrel
            by_cases hlt2 : m < j
            · have HNE := Lib.hid (HTJ.out m hlt2)
              have HX1 := Lib.hid (HTX.out j)
              have HX2 := Lib.hid (HTX.out m)
              generalize textT l j = TJ at *
              generalize textT l m = TM at *
              by_cases he : TJ = []
              · subst he
                go_wp2_with fail
                refine (HX1.out _ (hr2.out.text HPW.out.1 HT1.out HPW.out.2)).mono ?_
                rintro e w4 ⟨rfl, b4⟩
                have HM4 := Lib.hid (hr2.out.below b4)
                go_wp2_with fail
                go_roundw
                case rel => first | exact ⟨m + 1, by go_num, by omega, HM4⟩ | exact ⟨_, _, _, _, _, _, _, _, _, _, _, _, _, _, _, _, _, _, _, _, ⟨m + 1, by go_num, by omega, HM4⟩, rfl⟩
                case measure => simp [intOf]; omega
              · have hJ : (str TJ).toList.isEmpty = false := by rw [str_toList]; simpa using he
                have hJM : ((str TJ).toList == (str TM).toList) = false := by rw [str_toList, str_toList]; simpa using HNE.out he
                clear he HNE
                go_wp2_with fail
                refine (HX1.out _ (hr2.out.text HPW.out.1 HT1.out HPW.out.2)).mono ?_
                rintro e w4 ⟨rfl, b4⟩
                have HM4 := Lib.hid (hr2.out.below b4)
                go_wp2_with fail
                refine (HX1.out _ (HM4.out.text HPW.out.1 HT1.out HPW.out.2)).mono ?_
                rintro e w5 ⟨rfl, b5⟩
                have HM5 := Lib.hid (HM4.out.below b5)
                go_wp2_with fail
                refine (HX2.out _ (HM5.out.text HPW.out.1 HT1.out HPW.out.2)).mono ?_
                rintro e w6 ⟨rfl, b6⟩
                have HM6 := Lib.hid (HM5.out.below b6)
                go_wp2_with fail
                go_roundw
                case rel => first | exact ⟨m + 1, by go_num, by omega, HM6⟩ | exact ⟨_, _, _, _, _, _, _, _, _, _, _, _, _, _, _, _, _, _, _, _, ⟨m + 1, by go_num, by omega, HM6⟩, rfl⟩
                case measure => simp [intOf]; omega
            · obtain rfl : m = j := by omega
              go_wp2_with fail
              go_roundw
              · exact ⟨m + 1, by go_num, by omega, hr2⟩
              · simp [intOf]; omega
        · have hx := okT_x hok k1
          obtain ⟨X1, hX1⟩ : ∃ X1 : Nat, t.x = X1 := ⟨t.x.toNat, by omega⟩
          have k1b : ((t.k : Int) != 1) = true := by simpa using k1
          have hdx := HDX.out k1
          obtain ⟨k, a, x, y⟩ := t
          simp only at k1 k1b q0 q1 q2 q3 hx hX1 hdx
          subst hX1
          simp only [Int.toNat_natCast] at hdx
          clear hok HDX k1
          have HD1 := Lib.hid (HDO.out X1 wr hr.out.pool.choose_spec.1.is (by omega))
          have HD2 := Lib.hid (HDO.out j wr hr.out.pool.choose_spec.1.is hlt)
          generalize (deps l).getD X1 0 = D1 at *
          generalize (deps l).getD j 0 = D2 at *
          have hX2 : ¬ (j ≤ X1) := by omega
          have hX3 : ¬ (D2 ≤ D1) := by omega
          clear hx hdx
          go_wp2_with fail
          refine HD1.out.mono ?_
          rintro e w3 ⟨rfl, rfl⟩
          go_wp2_with fail
          refine HD2.out.mono ?_
          rintro e w3 ⟨rfl, rfl⟩
          go_wp2_with fail
          go_loopw [6] (fun i wr => ∃ m : Nat, i = .int .i64 m ∧ m ≤ j ∧ Hid (MadeAt w1 wr p (.slice (some ⟨g, 0, none⟩) l.length vc) l)) (fun i _ => j - (intOf i).toNat)
          case atStart => exact ⟨0, rfl, by omega, hr⟩
          case round =>
            obtain ⟨m, rfl, hmj, hr2⟩ := hrel
            by_cases hlt2 : m < j
            · have HNE := Lib.hid (HTJ.out m hlt2)
              have HX1 := Lib.hid (HTX.out j)
              have HX2 := Lib.hid (HTX.out m)
              generalize textT l j = TJ at *
              generalize textT l m = TM at *
              by_cases he : TJ = []
              · subst he
                go_wp2_with fail
                refine (HX1.out _ (hr2.out.text HPW.out.1 HT1.out HPW.out.2)).mono ?_
                rintro e w4 ⟨rfl, b4⟩
                have HM4 := Lib.hid (hr2.out.below b4)
                go_wp2_with fail
                go_roundw
                case rel => first | exact ⟨m + 1, by go_num, by omega, HM4⟩ | exact ⟨_, _, _, _, _, _, _, _, _, _, _, _, _, _, _, _, _, _, _, _, ⟨m + 1, by go_num, by omega, HM4⟩, rfl⟩
                case measure => simp [intOf]; omega
              · have hJ : (str TJ).toList.isEmpty = false := by rw [str_toList]; simpa using he
                have hJM : ((str TJ).toList == (str TM).toList) = false := by rw [str_toList, str_toList]; simpa using HNE.out he
                clear he HNE
                go_wp2_with fail
                refine (HX1.out _ (hr2.out.text HPW.out.1 HT1.out HPW.out.2)).mono ?_
                rintro e w4 ⟨rfl, b4⟩
                have HM4 := Lib.hid (hr2.out.below b4)
                go_wp2_with fail
                refine (HX1.out _ (HM4.out.text HPW.out.1 HT1.out HPW.out.2)).mono ?_
                rintro e w5 ⟨rfl, b5⟩
                have HM5 := Lib.hid (HM4.out.below b5)
                go_wp2_with fail
                refine (HX2.out _ (HM5.out.text HPW.out.1 HT1.out HPW.out.2)).mono ?_
                rintro e w6 ⟨rfl, b6⟩
                have HM6 := Lib.hid (HM5.out.below b6)
                go_wp2_with fail
                go_roundw
                case rel => first | exact ⟨m + 1, by go_num, by omega, HM6⟩ | exact ⟨_, _, _, _, _, _, _, _, _, _, _, _, _, _, _, _, _, _, _, _, ⟨m + 1, by go_num, by omega, HM6⟩, rfl⟩
                case measure => simp [intOf]; omega
            · obtain rfl : m = j := by omega
              go_wp2_with fail
              go_roundw
              · exact ⟨m + 1, by go_num, by omega, hr2⟩
              · simp [intOf]; omega
      · obtain rfl : j = l.length := by omega
        go_wp2_with fail
        go_ret
        exact ⟨rfl, HB1.out.trans (hr.out.bel.mono HB1.out.size)⟩
end Go.Proofs.YtcnhgojjhmjjdaaDoor
