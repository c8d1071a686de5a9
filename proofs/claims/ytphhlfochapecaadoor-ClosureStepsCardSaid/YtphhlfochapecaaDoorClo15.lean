/-
  The document's Check; ClosureChecks.
-/
import Derived.Test.YtphhlfochapecaaDoorClo14
import Derived.Test.YtphhlfochapecaaDoorClo10
import Derived.Test.YtphhlfochapecaaDoorWhysArg
namespace Go.Proofs.YtphhlfochapecaaDoor
set_option maxRecDepth 4000
open Go.RowKit

theorem length_termsW (st : List Wy) : (termsW st).length = st.length := by simp [termsW]
set_option maxHeartbeats 1000000 in
theorem rcheck_any (v : Value) (l : List Tm) (base : Nat) (B : Option Addr) (st : List Wy) (d : Nat) (A : Option Addr) (gv : List Int) (c : Nat) (w : World) (hL : LIs w base v l) (hll : l.length ≤ 1000) (hst : Sees w 3 B st.length (wcs st)) (hsl : st.length ≤ 1000) (hg : Sees w 1 A gv.length (i64s gv)) (hgl : gv.length ≤ 10000) :
    Calls Tryd.prog 15 #[v, .slice B st.length d, .slice A gv.length c] w fun e w' => e = .returned (.bool (checkW l gv st)) ∧ Below w.heap.size w w' := by
  obtain ⟨vA, vc, rfl⟩ := own_shape hL
  have H := Lib.hid (And.intro hL (And.intro hst hg)); clear hL hst hg
  go_enter Tryd.func15, Tryd.ntmps15
  go_wp2_with fail
  go_loopw [7, 8] (fun kv i wr => ∃ j : Nat, i = .int .i64 j ∧ j ≤ st.length ∧ Hid (Nums wr w.heap.size kv (termsW (st.take j)) ∧ RightTo l gv st j ∧ Below w.heap.size w wr)) (fun _ i _ => st.length - (intOf i).toNat)
  case atStart => exact ⟨0, rfl, Nat.zero_le _, Lib.hid ⟨World.ownsRow_nil _ _ _ _, fun i y hi => by omega, Below.refl _ _⟩⟩
  case round =>
    obtain ⟨j, rfl, hj, hr⟩ := hrel
    by_cases hlt : j < st.length
    · have hget : st[j]? = some (st[j]'hlt) := List.getElem?_eq_getElem hlt
      generalize st[j] = y at hget
      obtain ⟨g, o, rfl, q0, q1, q2⟩ := in_why (H.out.2.1.below hr.out.2.2) hget
      have hkl : (termsW (st.take j)).length ≤ 1000 := by rw [length_termsW, List.length_take]; omega
      obtain ⟨kA, kc, rfl⟩ := own_shape hr.out.1
      have HC := Lib.hid (rright33_any (.slice vA l.length vc) l base kA (termsW (st.take j)) kc y A gv c wr (own_below H.out.1 hr.out.2.2) hll hr.out.1.sees (by omega) (H.out.2.2.below hr.out.2.2) hgl (hr.out.2.1.there hj))
      have HG := Lib.hid hget
      obtain ⟨R, hR⟩ : ∃ R, rightW l gv (termsW (st.take j)) y = R := ⟨_, rfl⟩
      rw [hR] at HC
      have HRR := Lib.hid hR; clear hR hget
      obtain ⟨yt, yh, yo⟩ := y
      unfold wval at HC
      simp only at q0 q1 q2
      go_wp2_with fail
      refine HC.out.mono ?_
      rintro e w3 ⟨rfl, b3⟩
      have H3 := Lib.hid (And.intro (own_below hr.out.1 b3) (hr.out.2.2.trans (b3.mono hr.out.2.2.size)))
      have q0' : w3.cell? ⟨g, o + j * 3, none⟩ = some (.int .i64 yt) := (World.cell?_of_block (a := ⟨g, o + j * 3, none⟩) (b3.block g (World.block_lt_of_cell? _ _ q0))).trans q0
      have HRT := Lib.hid hr.out.2.1
      clear q0 q1 q2 b3 hr
      cases R with
      | false =>
        have HE := Lib.hid (checkW_false HG.out HRR.out)
        go_wp2_with fail
        go_ret
        exact ⟨ret_bool HE.out.symm, H3.out.2⟩
      | true =>
        have HO := Lib.hid (own_below H3.out.1 ((Below.refl _ _).alloc (Nat.le_refl _) (.cells #[.int .i64 yt] 3)))
        have HB := Lib.hid (H3.out.2.alloc H3.out.2.size (.cells #[.int .i64 yt] 3))
        go_wp2_with (at_builtin; refine wpList_app rfl (.tmp 24) (.tmp 30) 23 rfl w.heap.size 3 _ 1 8 Tryd.underlying23 info_i64 rfl (by decide) (.slice kA (termsW (st.take j)).length kc) (termsW (st.take j)).length (i64s (termsW (st.take j))) rfl HO.out _ 1 _ [.int .i64 yt] rfl (sees_new w3 3 [.int .i64 yt] 1 1 rfl) (by simp [Value.oneCell']) (by unfold maxLen; omega) (by omega) (by have := H3.out.2.size; simp; omega) ?_; intro v' w4 hown1 hgr1 hat1 hnil1; have HF := Lib.hid (And.intro hown1 hgr1); clear hown1 hgr1 hat1 hnil1)
        have HR4 : Hid (Nums w4 w.heap.size v' (termsW (st.take (j + 1))) ∧ RightTo l gv st (j + 1) ∧ Below w.heap.size w w4) := Lib.hid ⟨by
          have := HF.out.1
          unfold Nums
          rw [termsW_snoc HG.out]
          simpa [i64s_append, i64s] using this, HRT.out.next HG.out HRR.out, HB.out.grown HF.out.2 HB.out.size (fun g hg => (H3.out.1.lt g hg).1)⟩
        go_roundw
        case rel => exact ⟨j + 1, by go_num, by omega, HR4⟩
        case measure => simp [intOf]; omega
    · obtain rfl : j = st.length := by omega
      have HE := Lib.hid (checkW_true hr.out.2.1)
      go_wp2_with fail
      go_ret
      exact ⟨ret_bool HE.out.symm, hr.out.2.2⟩

theorem check_fol {l : List Tm} (hp : Pool l) {gv : List Int} {st : List Wy} (h : checkW l gv st = true) {i : Nat} {y : Wy} (hy : st[i]? = some y) : y.t ∈ nums (clo l gv) := by
  have hlt := (List.getElem?_eq_some_iff.1 hy).1
  obtain ⟨h1, h2, h3⟩ := right_fol (fun i w hw => checkW_iff h i w (List.getElem?_eq_some_iff.1 hw).1 hw) i y hy
  exact mem_nums.2 ⟨h1, (clo_iff hp gv _).2 h3⟩

set_option maxHeartbeats 1000000 in
theorem checks_walk (A : Option Addr) (ts : List Tm) (len c : Nat) (ga : Option Addr) (glen gcap : Nat) (gz : List Int) (sa : Option Addr) (st : List Wy) (slen scap : Nat) (W : World) (hT : Tab10 W) (hm : ts.length = len) (hI : InTerms W A ts c) (hg : IsRow .i64 W ga glen gcap gz) (hsm : st.length = slen) (hs : Sees W 3 sa st.length (wcs st)) :
    Calls Tryd.prog 5 #[.slice A len c, .slice ga glen gcap, .slice sa slen scap] W fun e W' => e = .returned (.bool true) ∧ Below W.heap.size W W' := by
  subst hm
  subst hsm
  obtain ⟨gv, rfl, hgs, hgw⟩ := row_ints hg
  clear hg
  have HA := Lib.hid (fun w h => awake_any w h)
  have HT := Lib.hid hT; clear hT
  have HGV := Lib.hid (And.intro hgs (And.intro hgw hs)); clear hgs hgw hs
  by_cases hbig : 40 < ts.length ∨ 20 < gv.length ∨ 40 < st.length
  · by_cases h60 : 40 < ts.length
    · clear hbig
      go_enter Tryd.func5, Tryd.ntmps5
      go_wp2_with fail
      refine (HA.out W HT.out).mono ?_
      rintro e w1 ⟨rfl, b1⟩
      go_wp2_with fail
      refine (HA.out w1 (HT.out.below (Nat.le_refl _) b1)).mono ?_
      rintro e w2 ⟨rfl, b2⟩
      go_wp2_with fail
      go_ret
      exact ⟨rfl, b1.trans (b2.mono b1.size)⟩
    · by_cases h20 : 20 < gv.length
      · clear hbig
        go_enter Tryd.func5, Tryd.ntmps5
        go_wp2_with fail
        refine (HA.out W HT.out).mono ?_
        rintro e w1 ⟨rfl, b1⟩
        go_wp2_with fail
        refine (HA.out w1 (HT.out.below (Nat.le_refl _) b1)).mono ?_
        rintro e w2 ⟨rfl, b2⟩
        go_wp2_with fail
        go_ret
        exact ⟨rfl, b1.trans (b2.mono b1.size)⟩
      · have h20' : 40 < st.length := by omega
        clear hbig
        go_enter Tryd.func5, Tryd.ntmps5
        go_wp2_with fail
        refine (HA.out W HT.out).mono ?_
        rintro e w1 ⟨rfl, b1⟩
        go_wp2_with fail
        refine (HA.out w1 (HT.out.below (Nat.le_refl _) b1)).mono ?_
        rintro e w2 ⟨rfl, b2⟩
        go_wp2_with fail
        go_ret
        exact ⟨rfl, b1.trans (b2.mono b1.size)⟩
  · have h60 : ¬ (40 < ts.length) := fun h => hbig (.inl h)
    have h20 : ¬ (20 < gv.length) := fun h => hbig (.inr (.inl h))
    have h21 : ¬ (40 < st.length) := fun h => hbig (.inr (.inr h))
    clear hbig
    obtain ⟨hpool, hlen⟩ := putsT_pool ts (fit_wf hI.wf)
    have HI := Lib.hid hI; clear hI
    have HM := Lib.hid (fun w h1 h2 => made_any A ts c w h1 (by omega) h2)
    obtain ⟨l, hl⟩ : ∃ l, putsT [] ts = l := ⟨_, rfl⟩
    rw [hl] at HM hpool hlen
    clear hl
    have hll : l.length ≤ 40 := by omega
    have HQ := Lib.hid (fun h i y hy => check_fol hpool (gv := gv) (st := st) h (i := i) (y := y) hy)
    have HP := Lib.hid hpool; clear hpool
    go_enter Tryd.func5, Tryd.ntmps5
    go_wp2_with fail
    refine (HA.out W HT.out).mono ?_
    rintro e w1 ⟨rfl, b1⟩
    have HB1 := Lib.hid b1; clear b1
    go_wp2_with fail
    refine (HM.out w1 (HI.out.below HB1.out) (HT.out.below (Nat.le_refl _) HB1.out)).mono ?_
    rintro e w2 ⟨p, v, rfl, hm⟩
    obtain ⟨vA, vc, rfl⟩ := own_shape hm.list
    have HM2 := Lib.hid hm; clear hm
    have HB2 := Lib.hid (HB1.out.trans (HM2.out.bel.mono HB1.out.size))
    have HG2 := Lib.hid (And.intro (HGV.out.1.below HB2.out) (HGV.out.2.2.below HB2.out))
    go_wp2_with fail
    refine (check_any p l sa st scap ga gv gcap w1.heap.size w2 (HM2.out.clo HP.out (by omega) (by omega) HG2.out.1 HGV.out.2.1) HG2.out.2 (by omega)).mono ?_
    rintro e w3 ⟨rfl, b3⟩
    have HM3 := Lib.hid (HM2.out.below b3)
    have HG3 := Lib.hid (And.intro (HG2.out.1.below b3) (HG2.out.2.below b3)); clear b3
    have HRC := Lib.hid (rcheck_any (.slice vA l.length vc) l w1.heap.size sa st scap ga gv gcap w3 HM3.out.list (by omega) HG3.out.2 (by omega) HG3.out.1 (by omega))
    generalize checkW l gv st = R at *
    go_wp2_with fail
    refine HRC.out.mono ?_
    rintro e w4 ⟨rfl, b4⟩
    have HM4 := Lib.hid (HM3.out.below b4)
    have HG4 := Lib.hid (And.intro (HG3.out.1.below b4) (HG3.out.2.below b4)); clear b4
    go_wp2_with fail
    refine (check_nil sa st scap _ w4 HG4.out.2 (by omega)).mono ?_
    rintro e w5 ⟨rfl, b5⟩
    have HM5 := Lib.hid (HM4.out.below b5)
    have HG5 := Lib.hid (And.intro (HG4.out.1.below b5) (HG4.out.2.below b5)); clear b5
    obtain ⟨D, hD⟩ : ∃ D, decide (st.length = 0) = D := ⟨_, rfl⟩
    have hDb : ((st.length : Int) == 0) = D := by rw [← hD]; by_cases h : st.length = 0 <;> simp [h]
    rw [hD]
    clear hD
    cases D
    all_goals
      cases R with
      | false =>
        go_wp2_with fail
        refine wp_loop_rounds 1 ?_
        rw [rounds_succ]
        go_wp2_with fail
        all_goals (go_ret; exact ⟨rfl, HB1.out.trans (HM5.out.bel.mono HB1.out.size)⟩)
      | true =>
        go_wp2_with fail
        clear hDb
        go_loopw [10] (fun i wr => ∃ j : Nat, i = .int .i64 j ∧ j ≤ st.length ∧ Hid (MadeAt w1 wr p (.slice vA l.length vc) l ∧ Sees wr 1 ga gv.length (i64s gv) ∧ Sees wr 3 sa st.length (wcs st))) (fun i _ => st.length - (intOf i).toNat)
        case atStart => exact ⟨0, rfl, Nat.zero_le _, Lib.hid ⟨HM5.out, HG5.out⟩⟩
        case round =>
          obtain ⟨j, rfl, hj, hr⟩ := hrel
          by_cases hlt : j < st.length
          · have hget : st[j]? = some (st[j]'hlt) := List.getElem?_eq_getElem hlt
            generalize st[j] = y at hget
            obtain ⟨g, o, rfl, q0, q1, q2⟩ := in_why hr.out.2.2 hget
            have hmem := HQ.out (by first | rfl | trivial) j y hget
            have HF := Lib.hid (follows_any p l y.t ga gv gcap w1.heap.size wr (hr.out.1.clo HP.out (by omega) (by omega) hr.out.2.1 HGV.out.2.1))
            rw [decide_eq_true hmem] at HF
            obtain ⟨yt, yh, yo⟩ := y
            simp only at q0 HF
            clear hget hmem q1 q2
            go_wp2_with fail
            refine HF.out.mono ?_
            rintro e w6 ⟨rfl, b6⟩
            have HR6 := Lib.hid (And.intro (hr.out.1.below b6) (And.intro (hr.out.2.1.below b6) (hr.out.2.2.below b6)))
            clear b6
            go_wp2_with fail
            go_roundw
            case rel => exact ⟨j + 1, by go_num, by omega, HR6⟩
            case measure => simp [intOf]; omega
          · obtain rfl : j = st.length := by omega
            go_wp2_with fail
            go_ret
            exact ⟨rfl, HB1.out.trans (hr.out.1.bel.mono HB1.out.size)⟩
end Go.Proofs.YtphhlfochapecaaDoor
