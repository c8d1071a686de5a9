/-
  The document's example.
-/
import Derived.Test.YtcnhgojjhmjjdaaDoorTermR5
namespace Go.Proofs.YtcnhgojjhmjjdaaDoor
set_option maxRecDepth 4000
open Go.RowKit

theorem PoolIn.lt {w : World} {base p : Nat} {l : List Tm} {G : Nat → Prop} (h : PoolIn w base p l G) : PoolIn w base p l (fun k => G k ∧ base ≤ k ∧ k < w.heap.size) := by
  obtain ⟨a, b, c, d, e, f, g, h, i⟩ := h
  exact ⟨a, b, c, d, e, f, g, h, ⟨⟨i.hp, h.lo.1, h.blk.lt⟩, ⟨i.hm, h.lo.2, h.mp.lt⟩, fun g hg => ⟨i.ht g hg, h.ts.lt g hg⟩, fun g hg => ⟨i.hd g hg, h.ds.lt g hg⟩, fun g hg => ⟨i.hs g hg, h.ss.lt g hg⟩⟩⟩
theorem PoolIs.in_ {w : World} {base p : Nat} {l : List Tm} (h : PoolIs w base p l) : PoolIn w base p l (fun k => base ≤ k) := by
  obtain ⟨a, b, c, d, e, f, g, h⟩ := h
  exact ⟨a, b, c, d, e, f, g, h, ⟨h.lo.1, h.lo.2, fun g hg => (h.ts.lt g hg).1, fun g hg => (h.ds.lt g hg).1, fun g hg => (h.ss.lt g hg).1⟩⟩
theorem put_is (p : Nat) (t : Tm) (l : List Tm) (base : Nat) (w : World) (hP : PoolIs w base p l) (hp : Pool l) (hll : l.length ≤ 4096) (hwf : wfT t) (hT : Tab10 w) (hb : base ≤ w.heap.size) :
    Calls Tryd.prog 18 #[.pointer (some ⟨p, 0, none⟩), tval t] w fun e w' => e = .returned (.tuple #[.int .i64 (putT l t).2.1, .int .i64 (putT l t).2.2]) ∧ PoolIs w' base p (putT l t).1 ∧ Below base w w' :=
  (put_any p t l base w _ hP.in_ hp hll hwf hT).mono fun e w' h => ⟨h.1, h.2.1.is, h.2.2.below hb (fun _ h => h)⟩

def ex1 : Tm := ⟨1, 7, 0, 0⟩
def ex2 : Tm := ⟨3, 0, 0, 0⟩
def ex3 : Tm := ⟨2, 0, 0, 1⟩
theorem wf_small {n : Int} (h0 : -100000 ≤ n) (h1 : n ≤ 100000) : (Lit.int .i64 n).wf = true := by
  simp [Lit.wf, IntKind.min, IntKind.max, IntKind.bits, IntKind.signed]
  omega
theorem wf_ex : wfT ex1 ∧ wfT ex2 ∧ wfT ex3 := ⟨⟨by decide, by decide, by decide, by decide⟩, ⟨by decide, by decide, by decide, by decide⟩, ⟨by decide, by decide, by decide, by decide⟩⟩
theorem fit_ex (t : Tm) (h : wfT t) : fitT t := wf_i64 h.2.1

theorem awake_any (w : World) (hT : Tab10 w) : Calls Tryd.prog 6 #[] w fun e w' => e = .returned (.bool true) ∧ Below w.heap.size w w' := by
  have hnew := new_any w.heap.size w (Nat.le_refl _)
  have HN := Lib.hid hnew; clear hnew
  have e1 : putT [] ex1 = ([ex1], 0, 0) := by decide
  have e2 : putT [ex1] ex2 = ([ex1, ex2], 1, 0) := by decide
  have e3 : putT [ex1, ex2] ex3 = ([ex1, ex2, ex3], 2, 0) := by decide
  have et : textT [ex1, ex2, ex3] 2 = [40, 97, 55, 44, 104, 40, 97, 55, 41, 41] := by kernel_rfl
  have p1 : Pool [ex1] := by have := Pool.put Pool.nil ex1 (fit_ex _ wf_ex.1); rwa [e1] at this
  have p2 : Pool [ex1, ex2] := by have := Pool.put p1 ex2 (fit_ex _ wf_ex.2.1); rwa [e2] at this
  have p3 : Pool [ex1, ex2, ex3] := by have := Pool.put p2 ex3 (fit_ex _ wf_ex.2.2); rwa [e3] at this
  have h1 := fun p W hP hT hb => put_is p ex1 [] w.heap.size W hP Pool.nil (by decide) wf_ex.1 hT hb
  have h2 := fun p W hP hT hb => put_is p ex2 [ex1] w.heap.size W hP p1 (by decide) wf_ex.2.1 hT hb
  have h3 := fun p W hP hT hb => put_is p ex3 [ex1, ex2] w.heap.size W hP p2 (by decide) wf_ex.2.2 hT hb
  rw [e1] at h1
  rw [e2] at h2
  rw [e3] at h3
  have h4 := fun p W hP => Text_any [ex1, ex2, ex3] w.heap.size p 2 W hP
  rw [et] at h4
  have H1 := Lib.hid h1; have H2 := Lib.hid h2; have H3 := Lib.hid h3; have H4 := Lib.hid h4; have HP := Lib.hid p3; have HT := Lib.hid hT
  clear h1 h2 h3 h4 e1 e2 e3 et p1 p2 p3 hT
  unfold tval ex1 at H1
  unfold tval ex2 at H2
  unfold tval ex3 at H3
  go_enter Tryd.func6, Tryd.ntmps6
  go_wp2_with fail
  refine HN.out.mono ?_
  rintro e w1 ⟨p, rfl, q1, b1, lo⟩
  have HQ := Lib.hid (And.intro q1 (And.intro b1 lo)); clear q1 b1 lo
  go_wp2_with fail
  refine (H1.out p w1 HQ.out.1 (HT.out.below (Nat.le_refl _) HQ.out.2.1) HQ.out.2.1.size).mono ?_
  rintro e w2 ⟨rfl, q2, b2⟩
  have HQ2 := Lib.hid (And.intro q2 (HQ.out.2.1.trans b2)); clear q2 b2
  go_wp2_with fail
  refine (H2.out p w2 HQ2.out.1 (HT.out.below (Nat.le_refl _) HQ2.out.2) HQ2.out.2.size).mono ?_
  rintro e w3 ⟨rfl, q3, b3⟩
  have HQ3 := Lib.hid (And.intro q3 (HQ2.out.2.trans b3)); clear q3 b3
  go_wp2_with fail
  refine (H3.out p w3 HQ3.out.1 (HT.out.below (Nat.le_refl _) HQ3.out.2) HQ3.out.2.size).mono ?_
  rintro e w4 ⟨rfl, q4, b4⟩
  have HQ4 := Lib.hid (And.intro q4 (HQ3.out.2.trans b4)); clear q4 b4
  go_wp2_with fail
  refine (H4.out p w4 ⟨HQ4.out.1, HP.out, HT.out.below (Nat.le_refl _) HQ4.out.2, ?_⟩).mono ?_
  · intro t ht
    simp only [List.mem_cons, List.not_mem_nil, or_false] at ht
    rcases ht with rfl | rfl | rfl
    · exact wf_ex.1
    · exact wf_ex.2.1
    · exact wf_ex.2.2
  rintro e w5 ⟨rfl, b5⟩
  go_wp2_with fail
  go_ret
  exact ⟨ret_bool (by kernel_rfl), HQ4.out.2.trans (b5.mono HQ4.out.2.size)⟩
end Go.Proofs.YtcnhgojjhmjjdaaDoor
