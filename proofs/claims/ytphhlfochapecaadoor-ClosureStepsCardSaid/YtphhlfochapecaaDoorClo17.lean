/-
  ClosureSteps: Steps gives right steps, just for what follows.
-/
import Derived.Test.YtphhlfochapecaaDoorClo16
namespace Go.Proofs.YtphhlfochapecaaDoor
set_option maxRecDepth 4000
open Go.RowKit

/-- What stands behind Steps. -/
structure StpAt (w1 W : World) (p : Nat) (v : Value) (l : List Tm) (ga : Option Addr) (gv : List Int) : Prop where
  made : MadeAt w1 W p v l
  giv : Sees W 1 ga gv.length (i64s gv)
theorem StpAt.below {w1 W W' : World} {p : Nat} {v : Value} {l : List Tm} {ga : Option Addr} {gv : List Int} (h : StpAt w1 W p v l ga gv) (hb : Below W.heap.size W W') : StpAt w1 W' p v l ga gv := ⟨h.made.below hb, h.giv.below hb⟩
theorem once_ne {st : List Wy} (h : (termsW st).Nodup) {i k : Nat} {a b : Wy} (ha : st[i]? = some a) (hb : st[k]? = some b) (hk : k < i) : b.t ≠ a.t := by
  intro e
  have hi := (List.getElem?_eq_some_iff.1 ha)
  have hk2 := (List.getElem?_eq_some_iff.1 hb)
  have := List.pairwise_iff_getElem.1 h k i (by simp [termsW]; exact hk2.1) (by simp [termsW]; exact hi.1) hk
  simp only [termsW, List.getElem_map] at this
  rw [hi.2, hk2.2] at this
  exact this e

set_option maxHeartbeats 2000000 in
theorem steps_walk (A : Option Addr) (ts : List Tm) (len c : Nat) (ga : Option Addr) (glen gcap : Nat) (gz : List Int) (goal : Int) (W : World) (hT : Tab10 W) (hm : ts.length = len) (hI : InTerms W A ts c) (hg : IsRow .i64 W ga glen gcap gz) (_wg : (Lit.int .i64 goal).wf = true) :
    Calls Tryd.prog 6 #[.slice A len c, .slice ga glen gcap, .int .i64 goal] W fun e W' => e = .returned (.bool true) ∧ Below W.heap.size W W' := by
  subst hm
  obtain ⟨gv, rfl, hgs, hgw⟩ := row_ints hg
  clear hg
  have HA := Lib.hid (fun w h => awake_any w h)
  have HT := Lib.hid hT; clear hT
  have HGV := Lib.hid (And.intro hgs hgw); clear hgs hgw
  by_cases hbig : 60 < ts.length ∨ 20 < gv.length
  · by_cases h60 : 60 < ts.length
    · clear hbig
      go_enter Tryd.func6, Tryd.ntmps6
      go_wp2_with fail
      refine (HA.out W HT.out).mono ?_
      rintro e w1 ⟨rfl, b1⟩
      go_wp2_with fail
      refine (HA.out w1 (HT.out.below (Nat.le_refl _) b1)).mono ?_
      rintro e w2 ⟨rfl, b2⟩
      go_wp2_with fail
      go_ret
      exact ⟨rfl, b1.trans (b2.mono b1.size)⟩
    · have h20 : 20 < gv.length := by omega
      clear hbig
      go_enter Tryd.func6, Tryd.ntmps6
      go_wp2_with fail
      refine (HA.out W HT.out).mono ?_
      rintro e w1 ⟨rfl, b1⟩
      go_wp2_with fail
      refine (HA.out w1 (HT.out.below (Nat.le_refl _) b1)).mono ?_
      rintro e w2 ⟨rfl, b2⟩
      go_wp2_with fail
      go_ret
      exact ⟨rfl, b1.trans (b2.mono b1.size)⟩
  · have h60 : ¬ (60 < ts.length) := fun h => hbig (.inl h)
    have h20 : ¬ (20 < gv.length) := fun h => hbig (.inr h)
    clear hbig
    obtain ⟨hpool, hlen⟩ := putsT_pool ts (fit_wf hI.wf)
    have HI := Lib.hid hI; clear hI
    have HM := Lib.hid (fun w h1 h2 => made_any A ts c w h1 (by omega) h2)
    obtain ⟨l, hl⟩ : ∃ l, putsT [] ts = l := ⟨_, rfl⟩
    rw [hl] at HM hpool hlen
    clear hl
    have HP := Lib.hid hpool; clear hpool
    have hll : l.length ≤ 60 := by omega
    have hcl := length_clo l gv
    go_enter Tryd.func6, Tryd.ntmps6
    go_wp2_with fail
    refine (HA.out W HT.out).mono ?_
    rintro e w1 ⟨rfl, b1⟩
    have HB1 := Lib.hid b1; clear b1
    go_wp2_with fail
    refine (HM.out w1 (HI.out.below HB1.out) (HT.out.below (Nat.le_refl _) HB1.out)).mono ?_
    rintro e w2 ⟨p, v, rfl, hm⟩
    obtain ⟨vA, vc, rfl⟩ := own_shape hm.list
    have HM2 : Hid (StpAt w1 w2 p (.slice vA l.length vc) l ga gv) := Lib.hid ⟨hm, HGV.out.1.below (HB1.out.trans (hm.bel.mono HB1.out.size))⟩
    clear hm
    go_wp2_with fail
    refine (steps_any p l goal ga gv gcap w1.heap.size w2 (HM2.out.made.clo HP.out (by omega) (by omega) HM2.out.giv HGV.out.2)).mono ?_
    rintro e w3 ⟨b3, hcs⟩
    have HM3 := Lib.hid (HM2.out.below b3); clear b3
    have HRC := Lib.hid (rclose_any (.slice vA l.length vc) l w1.heap.size ga gv gcap w3 HM3.out.made.list HP.out (by omega) (by omega) HM3.out.giv HGV.out.2)
    rcases hcs with ⟨rfl, hno⟩ | ⟨v3, st, rfl, hw3, hpr, hyes⟩
    · by_cases hin : 0 ≤ goal ∧ goal < l.length
      · obtain ⟨G, rfl⟩ : ∃ G : Nat, goal = G := ⟨goal.toNat, by omega⟩
        have hGl : G < l.length := by omega
        have hK : at_ (clo l gv) G = false := by
          cases h : at_ (clo l gv) G with
          | false => rfl
          | true => exact absurd (mem_nums.2 ⟨by omega, by rw [Int.toNat_natCast]; exact h⟩) hno
        have HK := Lib.hid hK; clear hK hno hin
        go_wp2_with fail
        refine HRC.out.mono ?_
        rintro e w4 ⟨rfl, hr4⟩
        have m0 : w4.cell? ⟨w3.heap.size, G, none⟩ = some (.bool false) := by
          rw [hr4.has.cell, List.getElem?_toArray, bls_get (by omega), HK.out]
        have HM4 := Lib.hid (HM3.out.below hr4.bel); clear hr4
        go_wp2_with fail
        go_ret
        exact ⟨rfl, HB1.out.trans (HM4.out.made.bel.mono HB1.out.size)⟩
      · have hor : goal < 0 ∨ (0 ≤ goal ∧ (l.length : Int) ≤ goal) := by omega
        clear hno hin
        rcases hor with hor | hor
        · go_wp2_with fail
          go_ret
          exact ⟨rfl, HB1.out.trans (HM3.out.made.bel.mono HB1.out.size)⟩
        · obtain ⟨hor1, hor2⟩ := hor
          go_wp2_with fail
          go_ret
          exact ⟨rfl, HB1.out.trans (HM3.out.made.bel.mono HB1.out.size)⟩
    · obtain ⟨hg0, hga⟩ := mem_nums.1 hyes
      have hgl := at_lt hga
      rw [hcl] at hgl
      obtain ⟨G, rfl⟩ : ∃ G : Nat, goal = G := ⟨goal.toNat, by omega⟩
      rw [Int.toNat_natCast] at hga hgl
      obtain ⟨sA, sc, rfl⟩ := own_shape hw3
      have HK := Lib.hid hga; clear hga hyes
      have HW3 := Lib.hid hw3; clear hw3
      have hsl := hpr.len
      have HPR := Lib.hid hpr; clear hpr
      go_wp2_with fail
      refine HRC.out.mono ?_
      rintro e w4 ⟨rfl, hr4⟩
      have m0 : w4.cell? ⟨w3.heap.size, G, none⟩ = some (.bool true) := by
        rw [hr4.has.cell, List.getElem?_toArray, bls_get (by omega), HK.out]
      have HM4 := Lib.hid (HM3.out.below hr4.bel)
      have HW4 := Lib.hid (Sees.below (Sees.of_own HW3.out) hr4.bel); clear hr4
      go_wp2_with fail
      go_loopw [12, 13] (fun i _ wr => ∃ j : Nat, i = .int .i64 j ∧ j ≤ st.length ∧ Hid (Below w4.heap.size w4 wr)) (fun i _ _ => st.length - (intOf i).toNat)
      case atStart => exact ⟨0, rfl, Nat.zero_le _, Lib.hid (Below.refl _ _)⟩
      case round =>
        obtain ⟨j, rfl, hj, hr⟩ := hrel
        by_cases hlt : j < st.length
        · have hget : st[j]? = some (st[j]'hlt) := List.getElem?_eq_getElem hlt
          generalize st[j] = ya at hget
          have HGA := Lib.hid hget; clear hget
          go_wp2_with fail
          go_loopw [13] (fun i wr => ∃ k : Nat, i = .int .i64 k ∧ k ≤ j ∧ Hid (Below w4.heap.size w4 wr)) (fun i _ => j - (intOf i).toNat)
          case atStart => exact ⟨0, rfl, Nat.zero_le _, hr⟩
          case round =>
            obtain ⟨k, rfl, hk, hr'⟩ := hrel
            by_cases hlt2 : k < j
            · have hget2 : st[k]? = some (st[k]'(by omega)) := List.getElem?_eq_getElem (by omega)
              generalize st[k] = yb at hget2
              have hne := once_ne HPR.out.once HGA.out hget2 hlt2
              have hneb : ((yb.t : Int) == ya.t) = false := by simpa using hne
              obtain ⟨g, o, e, q0, q1, q2⟩ := in_why (HW4.out.below hr'.out) hget2
              obtain ⟨g2, o2, e2, r0, r1, r2⟩ := in_why (HW4.out.below hr'.out) HGA.out
              rw [e] at e2
              injection e2 with e2
              injection e2 with e3 e4
              subst e3; subst e4
              subst e
              have HS := Lib.hid (And.intro q0 r0)
              have hkl : k < st.length := by omega
              have hkli : (k : Int) < (st.length : Int) := by omega
              have hjli : (j : Int) < (st.length : Int) := by omega
              clear q0 q1 q2 r0 r1 r2 hget2 hne
              generalize yb.t = bt at *
              generalize ya.t = at2 at *
              go_wp2_with fail
              refine region_fast [(0, true), (1, true), (2, true), (3, true), (4, true), (5, true), (6, true), (7, true), (8, true), (9, true), (10, true)] [1, 5, 6, 7, 8, 9] 994 [(75557863725914323419136, 512, 0, 0), (151115727451828646838272, 8192, 0, 0), (302231454903657293676544, 226673591177742970257408, 3, 3), (604462909807314587353088, 302231454903657293676544, 4, 7), (1208925819614629174706176, 604462909807314587353088, 8, 15), (2417851639229258349412352, 512, 0, 0), (4835703278458516698824704, 4096, 0, 0), (9671406556917033397649408, 7253554917687775048237056, 96, 96), (19342813113834066795298816, 9671406556917033397649408, 128, 224), (38685626227668133590597632, 19342813113834066795298816, 256, 480), (77371252455336267181195264, 39894552047282762765303808, 528, 1023)] (fun W => W.cell? ⟨g, o + k * 3, none⟩ = some (.int .i64 bt) ∧ W.cell? ⟨g, o + j * 3, none⟩ = some (.int .i64 at2)) (by kernel_rfl) (by kernel_rfl) (by kernel_rfl) rfl (by kernel_rfl) (by kernel_rfl) HS.out (fun hS => ?_)
              repeat (first
                | (refine plan_read (v := ?_) rfl (fun _ _ _ h => h) rfl hS ?_ ?_; rotate_left 1; (focus (intro w' hS'; obtain ⟨s1, s2⟩ := hS'; go_simp; try rfl)); (simp only [Act.put, List.setIfInBounds_toArray]; dsimp only [List.set_cons_zero, List.set_cons_succ]))
                | (refine plan_skip rfl (fun _ _ _ h => h) rfl hS ?_; (simp only [Act.put, List.setIfInBounds_toArray]; dsimp only [List.set_cons_zero, List.set_cons_succ])))
              refine plan_nil ?_
              clear hS HS
              have HR : Hid (Below w4.heap.size w4 wr.drew) := Lib.hid hr'.out.drew
              go_wp2_with fail
              go_roundw
              case rel => exact ⟨k + 1, by go_num, by omega, HR⟩
              case measure => simp [intOf]; omega
            · obtain rfl : k = j := by omega
              go_wp2_with fail
              go_roundw
              · exact ⟨k + 1, by go_num, by omega, hr'⟩
              · simp [intOf]; omega
        · obtain rfl : j = st.length := by omega
          have HM5 := Lib.hid (HM4.out.below hr.out)
          have HW5 := Lib.hid (HW4.out.below hr.out)
          obtain ⟨yl, hyl, hyt⟩ := HPR.out.last
          obtain ⟨g, o, rfl, q0, q1, q2⟩ := in_why HW5.out hyl
          rw [hyt] at q0
          obtain ⟨M, hM⟩ : ∃ M, st.length = M + 1 := ⟨st.length - 1, by omega⟩
          have q0' : wr.cell? ⟨g, o + (st.length - 1) * 3, none⟩ = some (.int .i64 (G : Int)) := q0
          have hpos : 0 < st.length := hsl.1
          clear q0 q1 q2 hyl hyt hM
          have HRK := Lib.hid (fun W h1 h2 h3 => rcheck_any (.slice vA l.length vc) l w1.heap.size (some ⟨g, o, none⟩) st sc ga gv gcap W h1 (by omega) h2 (by omega) h3 (by omega))
          have HCK := Lib.hid (fun W h1 h2 => check_any p l (some ⟨g, o, none⟩) st sc ga gv gcap w1.heap.size W h1 h2 (by omega))
          rw [HPR.out.chk] at HRK HCK
          clear hr
          go_wp2_with fail
          refine (HRK.out wr HM5.out.made.list HW5.out HM5.out.giv).mono ?_
          rintro e w6 ⟨rfl, b6⟩
          have HM6 := Lib.hid (HM5.out.below b6)
          have HW6 := Lib.hid (HW5.out.below b6); clear b6
          go_wp2_with fail
          refine (HCK.out w6 (HM6.out.made.clo HP.out (by omega) (by omega) HM6.out.giv HGV.out.2) HW6.out).mono ?_
          rintro e w7 ⟨rfl, b7⟩
          have HM7 := Lib.hid (HM6.out.below b7); clear b7
          go_wp2_with fail
          go_ret
          exact ⟨rfl, HB1.out.trans (HM7.out.made.bel.mono HB1.out.size)⟩
end Go.Proofs.YtphhlfochapecaaDoor
