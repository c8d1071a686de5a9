/-
  The law FaultCodes, walked.
-/
import Derived.Test.YtnfcnjnecankbaaDoorFt11
namespace Go.Proofs.YtnfcnjnecankbaaDoor
set_option maxRecDepth 4000
open Go.RowKit

/-- Links that came in. -/
structure InLinks (w : World) (A : Option Addr) (ls : List Lk) : Prop where
  sees : Sees w 2 A ls.length (lcs ls)
  ok : ∀ y ∈ ls, LkOk y
  most : ls.length ≤ maxLen
theorem InLinks.below {w w' : World} {A : Option Addr} {ls : List Lk} (h : InLinks w A ls) (hb : Below w.heap.size w w') : InLinks w' A ls := ⟨h.sees.below hb, h.ok, h.most⟩

set_option maxHeartbeats 4000000 in
theorem codes_any (ls : List Lk) (A : Option Addr) (c : Nat) (e x : Int) (w : World) (hI : InLinks w A ls) (hT : Tabs w) :
    Calls Tryd.prog 4 #[.slice A ls.length c, .int .i64 e, .int .i64 x] w fun r w' => r = .returned (.bool true) ∧ Below w.heap.size w w' := by
  have HAW := Lib.hid awake_any
  have HSM := Lib.hid (fun w h => smalls_any ls A c w h hI.ok hI.most)
  have HI := Lib.hid hI
  have HT := Lib.hid hT
  clear hI hT
  go_enter Tryd.func4, Tryd.ntmps4
  go_wp2_with fail
  refine (HAW.out _ HT.out).mono ?_
  rintro r w1 ⟨rfl, hb1⟩
  have HB1 := Lib.hid hb1
  have HX := Lib.hid (HSM.out w1 (HI.out.below hb1).sees)
  clear hb1
  go_wp2_with fail
  refine HX.out.mono ?_
  rintro r w2 ⟨hr, hb2⟩
  have HB2 := Lib.hid (HB1.out.trans (hb2.mono HB1.out.size))
  clear hb2 HX HB1
  rcases hr with rfl | ⟨rfl, hsm⟩
  · go_wp2_with fail
    refine (HAW.out _ (HT.out.below HB2.out)).mono ?_
    rintro r w3 ⟨rfl, hb3⟩
    have HB3 := Lib.hid (HB2.out.trans (hb3.mono HB2.out.size))
    go_wp2_with fail
    go_ret
    exact ⟨rfl, HB3.out⟩
  · have HM := Lib.hid (made_any ls A c e w2 (HI.out.below HB2.out).sees (by have := hsm.out.1; omega))
    have hl20 : ls.length ≤ 20 := hsm.out.1
    go_wp2_with fail
    refine HM.out.mono ?_
    rintro r w3 ⟨⟨v, rfl, hm⟩, hb3⟩
    have HB3 := Lib.hid (HB2.out.trans (hb3.mono HB2.out.size))
    clear hb3 HM
    have hT3 := HT.out.below HB3.out
    have HTB := Lib.hid hT3
    by_cases hz : ls.length = 0 ∨ e = 0
    · have hv : v = .nilIface := by
        rcases hm with ⟨-, h⟩ | ⟨-, h⟩ | ⟨h1, h2, -⟩
        · exact h
        · exact h
        · rcases hz with h | h
          · omega
          · exact absurd h h1
      subst hv
      have HCD := Lib.hid code_nil
      have HOP := Lib.hid (fun w hT => ops_any .nilIface .nilIface [] w (.inl rfl) rfl hT (by simp))
      have HFI := Lib.hid (fun w => fis_nil x w)
      clear hm hT3
      have hor : (ls.length = 0) ∨ (¬ ls.length = 0 ∧ e = 0) := by omega
      rcases hor with h0 | ⟨h0, rfl⟩
      · have h0' : ((ls.length : Int) == 0) = true := by rw [beq_iff_eq]; omega
        clear hz h0
        go_wp2_with fail
        refine (HCD.out _).mono ?_
        rintro r w4 ⟨rfl, hb4⟩
        have HB4 := Lib.hid (HB3.out.trans (hb4.mono HB3.out.size))
        clear hb4
        go_wp2_with fail
        refine (HOP.out _ (HT.out.below HB4.out)).mono ?_
        rintro r w5 ⟨out, rfl, ho, hb5⟩
        obtain ⟨A5, c5, rfl⟩ := own_shape ho
        have HB5 := Lib.hid (HB4.out.trans (hb5.mono HB4.out.size))
        clear hb5 ho
        go_wp2_with fail
        refine (HFI.out _).mono ?_
        rintro r w6 ⟨rfl, rfl⟩
        go_wp2_with fail
        go_ret
        exact ⟨rfl, HB5.out⟩
      · have h0' : ((ls.length : Int) == 0) = false := by rw [beq_eq_false_iff_ne]; omega
        clear hz h0
        go_wp2_with fail
        refine (HCD.out _).mono ?_
        rintro r w4 ⟨rfl, hb4⟩
        have HB4 := Lib.hid (HB3.out.trans (hb4.mono HB3.out.size))
        clear hb4
        go_wp2_with fail
        refine (HOP.out _ (HT.out.below HB4.out)).mono ?_
        rintro r w5 ⟨out, rfl, ho, hb5⟩
        obtain ⟨A5, c5, rfl⟩ := own_shape ho
        have HB5 := Lib.hid (HB4.out.trans (hb5.mono HB4.out.size))
        clear hb5 ho
        go_wp2_with fail
        refine (HFI.out _).mono ?_
        rintro r w6 ⟨rfl, rfl⟩
        go_wp2_with fail
        go_ret
        exact ⟨rfl, HB5.out⟩
    · have h0' : ((ls.length : Int) == 0) = false := by rw [beq_eq_false_iff_ne]; omega
      have he' : (e == 0) = false := by rw [beq_eq_false_iff_ne]; exact fun h => hz (.inr h)
      have hch : Chn w3 v ls e := by
        rcases hm with ⟨h, -⟩ | ⟨h, -⟩ | ⟨-, -, h⟩
        · exact absurd (.inr h) hz
        · exact absurd (.inl h.symm) hz
        · exact h
      have HCH := Lib.hid hch
      obtain ⟨T0, x0, rfl⟩ := hch.iface
      have HCD := Lib.hid (code_any _ ls e w3 hT3.2 hch)
      have hD : (x == e) = decide (e = x) := by rw [Bool.eq_iff_iff, beq_iff_eq, decide_eq_true_eq]; exact ⟨Eq.symm, Eq.symm⟩
      clear hm hz hch hT3
      obtain ⟨D, hDD⟩ : ∃ D, decide (e = x) = D := ⟨_, rfl⟩
      rw [hDD] at hD
      have HDD := Lib.hid hDD
      clear hDD
      go_wp2_with fail
      refine HCD.out.mono ?_
      rintro r w4 ⟨rfl, hb4⟩
      have HB4 := Lib.hid (HB3.out.trans (hb4.mono HB3.out.size))
      have HC4 := Lib.hid (HCH.out.keep hb4)
      have HI1 := Lib.hid (is_any _ ls e e w4 HC4.out)
      rw [decide_eq_true rfl] at HI1
      clear hb4 HCD
      go_wp2_with fail
      refine HI1.out.mono ?_
      rintro r w5 ⟨rfl, hb5⟩
      have HB5 := Lib.hid (HB4.out.trans (hb5.mono HB4.out.size))
      have HC5 := Lib.hid (HC4.out.keep hb5)
      have HI2 := Lib.hid (is_any _ ls e x w5 HC5.out)
      rw [HDD.out] at HI2
      clear hb5 HI1
      go_wp2_with fail
      refine HI2.out.mono ?_
      rintro r w6 ⟨rfl, hb6⟩
      have HB6 := Lib.hid (HB5.out.trans (hb6.mono HB5.out.size))
      have HI3 := Lib.hid (fis_any _ ls e x w6 (HC5.out.keep hb6))
      rw [HDD.out] at HI3
      clear hb6 HI2
      cases D
      all_goals
        go_wp2_with fail
        refine HI3.out.mono ?_
        rintro r w7 ⟨rfl, hb7⟩
        have HB7 := Lib.hid (HB6.out.trans (hb7.mono HB6.out.size))
        clear hb7
        go_wp2_with fail
        go_ret
        exact ⟨rfl, HB7.out⟩
end Go.Proofs.YtnfcnjnecankbaaDoor
