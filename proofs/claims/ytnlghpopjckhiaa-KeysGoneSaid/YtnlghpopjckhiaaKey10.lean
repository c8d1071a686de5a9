/-
  Put and Shred that are refused.
-/
import Derived.Test.YtnlghpopjckhiaaKey9
namespace Go.Proofs.Ytnlghpopjckhiaa
set_option maxRecDepth 4000
open Go.RowKit

theorem shred_none (t b sg : Nat) (f : Nat) (E : List (Option Ke)) (D : Dk) (F K G : Nat → Prop) (x : Int) (w : World)
    (h : KSt w t b sg f E false D F K G) (hE : E.length ≤ 1000) (hno : ∀ e, some e ∈ E → e.buck ≠ x) :
    Calls Try.prog 11 #[.pointer (some ⟨t, 0, none⟩), .int .i64 x] w fun e w' => (∃ g, e = .returned (.iface 84 (.pointer (some ⟨g, 0, none⟩)))) ∧ Below w.heap.size w w' := by
  have HFD := Lib.hid (find_any t b sg f E false K x w h.tab hE)
  have HWR := Lib.hid (fun k w => wrap_no { data := #[107, 101, 121, 115] } k 30 (by decide) w)
  have HH := Lib.hid h
  have HN := Lib.hid hno
  clear h hno
  go_enter Try.func11, Try.ntmps11
  go_wp2_with fail
  refine HFD.out.mono ?_
  rintro e w1 ⟨⟨r, rfl, hr⟩, hb1⟩
  have hr1 : r = -1 := by
    rcases hr with ⟨rfl, -⟩ | ⟨j, e, rfl, hj, he⟩
    · rfl
    · exact absurd he (HN.out e (List.mem_of_getElem? hj))
  subst hr1
  have c3 : w1.cell? ⟨t, 3, none⟩ = some (.bool false) := (HH.out.below hb1).tab.top.cell 3
  have HB := Lib.hid hb1
  clear hr hb1 HFD HH
  go_wp2_with fail
  refine (HWR.out _ _).mono ?_
  rintro e w2 ⟨rfl, -, hb2⟩
  have HB2 := Lib.hid (HB.out.trans (hb2.mono HB.out.size))
  clear hb2
  go_wp2_with fail
  go_ret
  exact ⟨⟨_, rfl⟩, HB2.out⟩

theorem put_taken (t b sg : Nat) (f : Nat) (E : List (Option Ke)) (D : Dk) (F K G : Nat → Prop) (x : Nat) (A : Option Addr) (c : Nat) (w : World)
    (h : KSt w t b sg f E false D F K G) (hE : E.length ≤ 1000) (hx : x ≤ 1099511627776) (hin : ∃ e, some e ∈ E ∧ e.buck = x) :
    Calls Try.prog 12 #[.pointer (some ⟨t, 0, none⟩), .int .i64 x, .slice A 32 c] w fun e w' => (∃ g, e = .returned (.iface 84 (.pointer (some ⟨g, 0, none⟩)))) ∧ Below w.heap.size w w' := by
  have c2 : w.cell? ⟨t, 2, none⟩ = some (.slice (some ⟨sg, 0, none⟩) E.length E.length) := h.tab.top.cell 2
  have HI := Lib.hid (index_free (some ⟨sg, 0, none⟩) E E.length w h.tab.sees (by omega))
  have HR := Lib.hid (fun w => right_any x A 32 c w)
  rw [decide_eq_true (show keyRight (x : Int) 32 from ⟨by omega, by omega, rfl⟩)] at HR
  have HFD := Lib.hid (fun w h => find_any t b sg f E false K x w h hE)
  have HWR := Lib.hid (fun k w => wrap_no { data := #[107, 101, 121, 115] } k 31 (by decide) w)
  have HH := Lib.hid h
  have HN := Lib.hid hin
  clear h hin
  go_enter Try.func12, Try.ntmps12
  go_wp2_with fail
  refine HI.out.mono ?_
  rintro e w1 ⟨⟨r, rfl, -⟩, hb1⟩
  have H1 := Lib.hid (And.intro (HH.out.below hb1) hb1)
  have c3 : w1.cell? ⟨t, 3, none⟩ = some (.bool false) := H1.out.1.tab.top.cell 3
  clear hb1 HI HH c2
  go_wp2_with fail
  refine (HR.out _).mono ?_
  rintro e w2 ⟨rfl, rfl⟩
  go_wp2_with fail
  refine (HFD.out _ H1.out.1.tab).mono ?_
  rintro e w2 ⟨⟨r2, rfl, hr⟩, hb2⟩
  have hr1 : ∃ j : Nat, r2 = j := by
    rcases hr with ⟨-, hno⟩ | ⟨j, e, rfl, hj, he⟩
    · obtain ⟨e0, h1, h2⟩ := HN.out
      exact absurd h2 (hno e0 h1)
    · exact ⟨j, rfl⟩
  obtain ⟨j, rfl⟩ := hr1
  have HB := Lib.hid (H1.out.2.trans (hb2.mono H1.out.2.size))
  clear hr hb2 H1 c3 HFD HR
  go_wp2_with fail
  refine (HWR.out _ _).mono ?_
  rintro e w3 ⟨rfl, -, hb3⟩
  have HB2 := Lib.hid (HB.out.trans (hb3.mono HB.out.size))
  clear hb3
  go_wp2_with fail
  go_ret
  exact ⟨⟨_, rfl⟩, HB2.out⟩
end Go.Proofs.Ytnlghpopjckhiaa
