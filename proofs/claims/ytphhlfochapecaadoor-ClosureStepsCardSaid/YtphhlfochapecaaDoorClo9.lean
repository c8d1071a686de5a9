/-
  ClosureCloses: Close and Follows agree with the document.
-/
import Derived.Test.YtphhlfochapecaaDoorClo8
namespace Go.Proofs.YtphhlfochapecaaDoor
set_option maxRecDepth 4000
open Go.RowKit

/-- Numbers that came in. -/
theorem row_ints {w : World} {a : Option Addr} {len cap : Nat} {zs : List Int} (h : IsRow .i64 w a len cap zs) : ∃ gv : List Int, gv.length = len ∧ Sees w 1 a len (i64s gv) ∧ ∀ x ∈ gv, (Lit.int .i64 x).wf = true := by
  obtain ⟨h1, h2, _, _, h5⟩ := h.sees
  exact ⟨zs.take len, h2, h1, h5⟩
theorem mem_take_succ {z : List Int} {x : Int} {j : Nat} {y : Int} (h : z[j]? = some y) : decide (x ∈ z.take (j + 1)) = (decide (x ∈ z.take j) || decide (y = x)) := by
  rw [List.take_add_one, h]
  simp only [Option.toList_some, List.mem_append, List.mem_singleton, Bool.decide_or]
  congr 1
  rw [decide_eq_decide]
  exact eq_comm

set_option maxHeartbeats 1000000 in
theorem closes_walk (A : Option Addr) (ts : List Tm) (len c : Nat) (ga : Option Addr) (glen gcap : Nat) (gz : List Int) (goal : Int) (W : World) (hT : Tab10 W) (hm : ts.length = len) (hI : InTerms W A ts c) (hg : IsRow .i64 W ga glen gcap gz) (_wg : (Lit.int .i64 goal).wf = true) :
    Calls Tryd.prog 3 #[.slice A len c, .slice ga glen gcap, .int .i64 goal] W fun e W' => e = .returned (.bool true) ∧ Below W.heap.size W W' := by
  subst hm
  obtain ⟨gv, rfl, hgs, hgw⟩ := row_ints hg
  clear hg
  have HA := Lib.hid (fun w h => awake_any w h)
  have HT := Lib.hid hT; clear hT
  have HGV := Lib.hid (And.intro hgs hgw); clear hgs hgw
  by_cases hbig : 60 < ts.length ∨ 20 < gv.length
  · by_cases h60 : 60 < ts.length
    · clear hbig
      go_enter Tryd.func3, Tryd.ntmps3
      go_wp2_with fail
      refine (HA.out W HT.out).mono ?_
      rintro e w1 ⟨rfl, b1⟩
      go_wp2_with fail
      refine (HA.out w1 (HT.out.below (Nat.le_refl _) b1)).mono ?_
      rintro e w2 ⟨rfl, b2⟩
      go_wp2_with fail
      go_ret
      exact ⟨rfl, b1.trans (b2.mono b1.size)⟩
    · have h20 : 20 < gv.length := by omega
      clear hbig
      go_enter Tryd.func3, Tryd.ntmps3
      go_wp2_with fail
      refine (HA.out W HT.out).mono ?_
      rintro e w1 ⟨rfl, b1⟩
      go_wp2_with fail
      refine (HA.out w1 (HT.out.below (Nat.le_refl _) b1)).mono ?_
      rintro e w2 ⟨rfl, b2⟩
      go_wp2_with fail
      go_ret
      exact ⟨rfl, b1.trans (b2.mono b1.size)⟩
  · have h60 : ¬ (60 < ts.length) := fun h => hbig (.inl h)
    have h20 : ¬ (20 < gv.length) := fun h => hbig (.inr h)
    clear hbig
    obtain ⟨hpool, hlen⟩ := putsT_pool ts (fit_wf hI.wf)
    have HI := Lib.hid hI; clear hI
    have HM := Lib.hid (fun w h1 h2 => made_any A ts c w h1 (by omega) h2)
    obtain ⟨l, hl⟩ : ∃ l, putsT [] ts = l := ⟨_, rfl⟩
    rw [hl] at HM hpool hlen
    clear hl
    have HP := Lib.hid hpool; clear hpool
    have hll : l.length ≤ 60 := by omega
    have hcl := length_clo l gv
    have hnl : (nums (clo l gv)).length ≤ 60 := by have := length_numsTo (clo l gv) (clo l gv).length; unfold nums; omega
    go_enter Tryd.func3, Tryd.ntmps3
    go_wp2_with fail
    refine (HA.out W HT.out).mono ?_
    rintro e w1 ⟨rfl, b1⟩
    have HB1 := Lib.hid b1; clear b1
    go_wp2_with fail
    refine (HM.out w1 (HI.out.below HB1.out) (HT.out.below (Nat.le_refl _) HB1.out)).mono ?_
    rintro e w2 ⟨p, v, rfl, hm⟩
    obtain ⟨vA, vc, rfl⟩ := own_shape hm.list
    have HM2 := Lib.hid hm; clear hm
    have HG2 := Lib.hid (HGV.out.1.below (HB1.out.trans (HM2.out.bel.mono HB1.out.size)))
    go_wp2_with fail
    refine (rclose_any _ l w1.heap.size ga gv gcap w2 HM2.out.list HP.out (by omega) (by omega) HG2.out HGV.out.2).mono ?_
    rintro e w3 ⟨rfl, hr3⟩
    have HM3 := Lib.hid (HM2.out.below hr3.bel)
    have HG3 := Lib.hid (HG2.out.below hr3.bel)
    have hsee : Sees w3 1 (some ⟨w2.heap.size, 0, none⟩) (clo l gv).length (bls (clo l gv)) := ⟨by simp, fun _ => ⟨_, 0, rfl, fun j u hu => by rw [Nat.zero_add, hr3.has.cell, List.getElem?_toArray]; exact hu⟩⟩
    have HLI := Lib.hid (list_any _ (clo l gv) l.length w3 hsee (by omega)); clear hsee hr3
    rw [hcl] at HLI
    go_wp2_with fail
    refine HLI.out.mono ?_
    rintro e w4 ⟨v4, rfl, hn4, b4⟩
    obtain ⟨nA, nc, rfl⟩ := own_shape hn4
    have HM4 := Lib.hid (HM3.out.below b4)
    have HG4 := Lib.hid (HG3.out.below b4)
    have HN4 := Lib.hid hn4.sees; clear hn4 b4
    have HFO := Lib.hid (fun W h => follows_any p l goal ga gv gcap w1.heap.size W h)
    have HCL := Lib.hid (fun W h => close_any p l ga gv gcap w1.heap.size W h)
    have HIN := Lib.hid (fun (A B : Option Addr) c d w h1 h2 => ints_any A B (nums (clo l gv)) (nums (clo l gv)) c d w h1 h2 (by omega) (by omega))
    generalize nums (clo l gv) = Z at *
    go_wp2_with fail
    go_loopw [10, 11] (fun h i wr => ∃ j : Nat, i = .int .i64 j ∧ j ≤ Z.length ∧ h = .bool (decide (goal ∈ Z.take j)) ∧ wr = w4) (fun _ i _ => Z.length - (intOf i).toNat)
    case atStart => exact ⟨0, rfl, Nat.zero_le _, by simp, rfl⟩
    case round =>
      obtain ⟨j, rfl, hj, rfl, rfl⟩ := hrel
      by_cases hlt : j < Z.length
      · obtain ⟨g, o, rfl, q0⟩ := sees_int HN4.out hlt
        have hget : Z[j]? = some (Z.getD j 0) := by simp [List.getD_eq_getElem?_getD, List.getElem?_eq_getElem hlt]
        generalize Z.getD j 0 = y at *
        have HD := Lib.hid (mem_take_succ (x := goal) hget); clear hget
        generalize decide (goal ∈ Z.take j) = D at *
        by_cases hy : y = goal
        · subst hy
          rw [decide_eq_true rfl] at HD
          cases D
          all_goals
            go_wp2_with fail
            go_roundw
            case rel => exact ⟨j + 1, by go_num, by omega, by rw [HD.out]; rfl, by trivial⟩
            case measure => simp [intOf]; omega
        · have hyb : ((y : Int) == goal) = false := by simpa using hy
          rw [decide_eq_false hy] at HD
          clear hy
          cases D
          all_goals
            go_wp2_with fail
            go_roundw
            case rel => exact ⟨j + 1, by go_num, by omega, by rw [HD.out]; rfl, by trivial⟩
            case measure => simp [intOf]; omega
      · obtain rfl : j = Z.length := by omega
        rw [List.take_length]
        generalize decide (goal ∈ Z) = D at *
        go_wp2_with fail
        refine (HCL.out wr (HM4.out.clo HP.out (by omega) (by omega) HG4.out HGV.out.2)).mono ?_
        rintro e w5 ⟨v5, rfl, hn5, b5⟩
        obtain ⟨nB, nd, rfl⟩ := own_shape hn5
        have HM5 := Lib.hid (HM4.out.below b5)
        have HG5 := Lib.hid (HG4.out.below b5)
        have HN5 := Lib.hid (And.intro hn5.sees (HN4.out.below b5)); clear hn5 b5
        go_wp2_with fail
        refine (HIN.out nB nA nd nc w5 HN5.out.1 HN5.out.2).mono ?_
        rintro e w6 ⟨rfl, b6⟩
        have HM6 := Lib.hid (HM5.out.below b6)
        have HG6 := Lib.hid (HG5.out.below b6); clear b6
        go_wp2_with fail
        refine (HFO.out w6 (HM6.out.clo HP.out (by omega) (by omega) HG6.out HGV.out.2)).mono ?_
        rintro e w7 ⟨rfl, b7⟩
        have HM7 := Lib.hid (HM6.out.below b7); clear b7
        go_wp2_with fail
        refine (close_nil _ w7).mono ?_
        rintro e w8 ⟨rfl, rfl⟩
        go_wp2_with fail
        refine (follows_nil goal _ w7).mono ?_
        rintro e w8 ⟨rfl, rfl⟩
        go_wp2_with fail
        go_ret
        exact ⟨ret_bool (by simp), HB1.out.trans (HM7.out.bel.mono HB1.out.size)⟩
end Go.Proofs.YtphhlfochapecaaDoor
