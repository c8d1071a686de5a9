/-
  The document's example of what follows.
-/
import Derived.Test.YtphhlfochapecaaDoorClo7
import Derived.Test.YtphhlfochapecaaDoorTerm9
namespace Go.Proofs.YtphhlfochapecaaDoor
set_option maxRecDepth 4000
open Go.RowKit

def exA : Tm := ⟨1, 0, 0, 0⟩
def exB : Tm := ⟨1, 1, 0, 0⟩
def exC : Tm := ⟨4, 0, 0, 1⟩
def exL : List Tm := [exA, exB, exC]
theorem exL_puts : putsT [] exL = exL := by decide
theorem exL_wf : ∀ t ∈ exL, wfT t := by
  intro t ht
  simp only [exL, List.mem_cons, List.not_mem_nil, or_false] at ht
  rcases ht with rfl | rfl | rfl <;> exact ⟨by decide, by decide, by decide, by decide⟩
theorem MadeAt.clo {w W : World} {p : Nat} {v : Value} {l : List Tm} (h : MadeAt w W p v l) (hp : Pool l) (hl : l.length ≤ 1000) {A : Option Addr} {gv : List Int} (hg : gv.length ≤ 10000) (hr : Sees W 1 A gv.length (i64s gv)) (hw : ∀ x ∈ gv, (Lit.int .i64 x).wf = true) : CloAt W w.heap.size p l A gv :=
  ⟨h.pool.choose_spec.1.is, hp, hl, hg, hr, hw⟩

theorem awake_any (w : World) (hT : Tab10 w) : Calls Tryd.prog 7 #[] w fun e w' => e = .returned (.bool true) ∧ Below w.heap.size w w' := by
  have hA : Below w.heap.size w (w.alloc (.cells (tcs exL).toArray 45)) := (Below.refl _ _).alloc (Nat.le_refl _) _
  have hI : InTerms (w.alloc (.cells (tcs exL).toArray 45)) (some ⟨w.heap.size, 0, none⟩) exL 3 := ⟨by decide, by decide, sees_new w 45 (tcs exL) 4 3 rfl, exL_wf⟩
  have hM := made_any _ exL 3 _ hI (by decide) (hT.below (Nat.le_refl _) hA)
  rw [exL_puts] at hM
  have HA := Lib.hid hA
  have HM := Lib.hid hM; clear hM hI hA hT
  have hP : Pool exL := by have := (putsT_pool exL (fit_wf exL_wf)).1; rwa [exL_puts] at this
  have HP := Lib.hid hP; clear hP
  have n1 : decide ((1 : Int) ∈ nums (clo exL [2, 0])) = true := by kernel_rfl
  have n2 : decide ((1 : Int) ∈ nums (clo exL [2])) = false := by kernel_rfl
  have n3 : (nums (clo exL [2, 0])).length = 3 := by kernel_rfl
  have HN := Lib.hid (And.intro n1 (And.intro n2 n3)); clear n1 n2 n3
  have HF := Lib.hid (fun p x A gv c pb w h => follows_any p exL x A gv c pb w h)
  have HC := Lib.hid (fun p A gv c pb w h => close_any p exL A gv c pb w h)
  go_enter Tryd.func7, Tryd.ntmps7
  go_wp2_with fail
  refine HM.out.mono ?_
  rintro e w1 ⟨p, v, rfl, hm⟩
  have H1 := Lib.hid hm; clear hm
  go_wp2_with fail
  have hB := (Below.refl w1.heap.size w1).alloc (Nat.le_refl _) (.cells #[.int .i64 2, .int .i64 0] 3)
  have H2 := Lib.hid (And.intro (H1.out.below hB) (sees_new w1 3 (i64s [2, 0]) 1 2 rfl)); clear hB
  refine (HF.out p 1 _ [2, 0] 2 _ _ (H2.out.1.clo HP.out (by decide) (by decide) H2.out.2 (by decide))).mono ?_
  rintro e w2 ⟨rfl, b2⟩
  rw [HN.out.1]
  have H3 := Lib.hid (H2.out.1.below b2); clear b2
  go_wp2_with fail
  have hB := (Below.refl w2.heap.size w2).alloc (Nat.le_refl _) (.cells #[.int .i64 2] 3)
  have H4 := Lib.hid (And.intro (H3.out.below hB) (sees_new w2 3 (i64s [2]) 1 1 rfl)); clear hB
  refine (HF.out p 1 _ [2] 1 _ _ (H4.out.1.clo HP.out (by decide) (by decide) H4.out.2 (by decide))).mono ?_
  rintro e w3 ⟨rfl, b3⟩
  rw [HN.out.2.1]
  have H5 := Lib.hid (H4.out.1.below b3); clear b3
  go_wp2_with fail
  have hB := (Below.refl w3.heap.size w3).alloc (Nat.le_refl _) (.cells #[.int .i64 2, .int .i64 0] 3)
  have H6 := Lib.hid (And.intro (H5.out.below hB) (sees_new w3 3 (i64s [2, 0]) 1 2 rfl)); clear hB
  refine (HC.out p _ [2, 0] 2 _ _ (H6.out.1.clo HP.out (by decide) (by decide) H6.out.2 (by decide))).mono ?_
  rintro e w4 ⟨v4, rfl, hn, b4⟩
  obtain ⟨vA, vc, rfl⟩ := own_shape hn
  have H7 := Lib.hid (H6.out.1.below b4); clear b4 hn
  rw [HN.out.2.2]
  go_wp2_with fail
  go_ret
  exact ⟨rfl, HA.out.trans (H7.out.bel.mono HA.out.size)⟩
end Go.Proofs.YtphhlfochapecaaDoor
