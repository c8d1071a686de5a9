/-
  Check.
-/
import Derived.Test.YtphhlfochapecaaDoorClo12
namespace Go.Proofs.YtphhlfochapecaaDoor
set_option maxRecDepth 4000
open Go.RowKit

/-- What Check's rounds meet. -/
structure ChkAt (w W : World) (l : List Tm) (gv : List Int) (st : List Wy) (j : Nat) : Prop where
  marks : KMap W w.heap.size (termsW (st.take j))
  right : RightTo l gv st j
  bel : Below w.heap.size w W

set_option maxHeartbeats 1000000 in
theorem check_any (p : Nat) (l : List Tm) (B : Option Addr) (st : List Wy) (d : Nat) (A : Option Addr) (gv : List Int) (c pb : Nat) (w : World) (h : CloAt w pb p l A gv) (hst : Sees w 3 B st.length (wcs st)) (hsl : st.length ≤ 100000) :
    Calls Tryd.prog 14 #[.pointer (some ⟨p, 0, none⟩), .slice B st.length d, .slice A gv.length c] w fun e w' => e = .returned (.bool (checkW l gv st)) ∧ Below w.heap.size w w' := by
  have H := Lib.hid (And.intro h hst); clear h hst
  have hmm := @run_makeMap Tryd.prog
  go_enter Tryd.func14, Tryd.ntmps14
  go_wp2_with fail
  go_loopw [9, 13] (fun _ i wr => ∃ j : Nat, i = .int .i64 j ∧ j ≤ st.length ∧ Hid (ChkAt w wr l gv st j)) (fun _ i _ => st.length - (intOf i).toNat)
  case atStart => exact ⟨0, rfl, Nat.zero_le _, Lib.hid ⟨⟨[], IMap.new w .i64, by simp [termsW]⟩, fun i y hi => by omega, (Below.refl _ _).alloc (Nat.le_refl _) _⟩⟩
  case round =>
    obtain ⟨j, rfl, hj, hr⟩ := hrel
    by_cases hlt : j < st.length
    · have hget : st[j]? = some (st[j]'hlt) := List.getElem?_eq_getElem hlt
      generalize st[j] = y at hget
      obtain ⟨g, o, rfl, q0, q1, q2⟩ := in_why (H.out.2.below hr.out.bel) hget
      have hA := (Below.refl wr.heap.size wr).alloc (Nat.le_refl _) (.cells #[.int .i64 y.t, .int .i64 y.h, .int .i64 y.o] 40)
      have hx := Blk.new wr 40 #[.int .i64 y.t, .int .i64 y.h, .int .i64 y.o]
      have H1 := Lib.hid (And.intro (hr.out.marks.below hA) (And.intro (hr.out.bel.trans (hA.mono hr.out.bel.size)) hx))
      have HR := Lib.hid hr.out.right
      have HG := Lib.hid hget
      have HC := Lib.hid (fun W h1 h2 => comes_any p w.heap.size l (termsW (st.take j)) y A gv c pb W h1 h2 (HR.out.there hj))
      obtain ⟨R, hR⟩ : ∃ R, rightW l gv (termsW (st.take j)) y = R := ⟨_, rfl⟩
      rw [hR] at HC
      have HRR := Lib.hid hR
      have e0 : (wr.alloc (.cells #[.int .i64 y.t, .int .i64 y.h, .int .i64 y.o] 40)).cell? ⟨wr.heap.size, 0, none⟩ = some (.int .i64 y.t) := hx.cell 0
      have e1 : (wr.alloc (.cells #[.int .i64 y.t, .int .i64 y.h, .int .i64 y.o] 40)).cell? ⟨wr.heap.size, 1, none⟩ = some (.int .i64 y.h) := hx.cell 1
      have e2 : (wr.alloc (.cells #[.int .i64 y.t, .int .i64 y.h, .int .i64 y.o] 40)).cell? ⟨wr.heap.size, 2, none⟩ = some (.int .i64 y.o) := hx.cell 2
      clear hr hA hx hget hR
      obtain ⟨yt, yh, yo⟩ := y
      unfold wval at HC
      go_wp2_with fail
      refine (HC.out _ (H.out.1.below H1.out.2.1) H1.out.1).mono ?_
      rintro e w3 ⟨rfl, b3⟩
      have H3 := Lib.hid (And.intro (H1.out.1.below b3) (And.intro (H1.out.2.1.trans (b3.mono H1.out.2.1.size)) (H1.out.2.2.keep (b3.block _ H1.out.2.2.lt))))
      clear e0 e1 e2 b3
      cases R with
      | false =>
        have HE := Lib.hid (checkW_false HG.out HRR.out)
        go_wp2_with fail
        go_ret
        exact ⟨ret_bool HE.out.symm, H3.out.2.1⟩
      | true =>
        obtain ⟨w4, hu, k4, f4, z4⟩ := run_mark H3.out.1 yt
        have e0 : w3.cell? ⟨wr.heap.size, 0, none⟩ = some (.int .i64 yt) := H3.out.2.2.cell 0
        have HR4 : Hid (ChkAt w w4 l gv st (j + 1)) := Lib.hid ⟨by rw [termsW_snoc HG.out]; exact k4, HR.out.next HG.out HRR.out, H3.out.2.1.trans (f4.below H3.out.2.1.size (fun k hk => hk ▸ Nat.le_refl _))⟩
        clear k4 f4 z4
        go_wp2_with fail
        go_roundw
        case rel => exact ⟨j + 1, by go_num, by omega, HR4⟩
        case measure => simp [intOf]; omega
    · obtain rfl : j = st.length := by omega
      have HE := Lib.hid (checkW_true hr.out.right)
      go_wp2_with fail
      go_ret
      exact ⟨ret_bool HE.out.symm, hr.out.bel⟩

theorem check_nil (B : Option Addr) (st : List Wy) (d : Nat) (v : Value) (w : World) (hst : Sees w 3 B st.length (wcs st)) (hsl : st.length ≤ 100000) :
    Calls Tryd.prog 14 #[.pointer none, .slice B st.length d, v] w fun e w' => e = .returned (.bool (decide (st.length = 0))) ∧ Below w.heap.size w w' := by
  have hmm := @run_makeMap Tryd.prog
  have hbm := (Below.refl w.heap.size w).alloc (Nat.le_refl _) (.map #[] 0)
  by_cases h0 : st.length = 0
  · rw [h0]
    have HB := Lib.hid hbm; clear hbm hst
    go_enter Tryd.func14, Tryd.ntmps14
    go_wp2_with fail
    refine wp_loop_rounds 1 ?_
    rw [rounds_succ]
    go_wp2_with fail
    go_ret
    exact ⟨rfl, HB.out⟩
  · have hget : st[0]? = some (st[0]'(by omega)) := List.getElem?_eq_getElem (by omega)
    generalize st[0] = y at hget
    obtain ⟨g, o, rfl, q0, q1, q2⟩ := in_why (hst.below hbm) hget
    rw [Nat.zero_mul, Nat.add_zero] at q0 q1 q2
    have HB := Lib.hid (hbm.alloc hbm.size (.cells #[.int .i64 y.t, .int .i64 y.h, .int .i64 y.o] 40))
    have hpos : 0 < st.length := by omega
    have HD := Lib.hid (show decide (st.length = 0) = false by simp [h0])
    obtain ⟨yt, yh, yo⟩ := y
    simp only at q0 q1 q2 HB
    clear hbm hst h0 hget
    go_enter Tryd.func14, Tryd.ntmps14
    go_wp2_with fail
    refine wp_loop_rounds 1 ?_
    rw [rounds_succ]
    go_wp2_with fail
    go_ret
    exact ⟨ret_bool HD.out.symm, HB.out⟩
end Go.Proofs.YtphhlfochapecaaDoor
