/-
  A region that draws its order: what reads alone and nothing of the memory comes ahead, then a plan.
-/
import Derived.Test.YtaapdkeipknilaaInv
namespace Go.Proofs.Ytaapdkeipknilaa
set_option maxRecDepth 4000

section
variable {P : Program} {ops : Array Oper} {Q : Exit → Act → World → Prop} {S : World → Prop} {need : Nat → Bool}
theorem region_free {id : Nat} {a : Act} {w : World} (free : List Nat) (plan : List (Nat × Bool)) (needs : List Nat) (need : Nat) (rows : List Row) (S : World → Prop)
    (hN : bitsOf needs = need) (hm : P.follows .mixedOrders = true) (hs : Region.noSelect ops = true) (hz : free.length + plan.length = ops.size)
    (hr : rows.map Row.three = ops.toList.map (Go.Proofs.Ytaapdkeipknilaa.rowOf ops)) (hok : (reachOk rows && freeOk rows need (fastOk rows need plan) free 0) = true) (hS : S w.drew)
    (h : S w.drew → wpFree P ops Q (fun a w' => w' = w.drew → wpPlan P ops Q S (fun i => needs.contains i) plan a w.drew) free a w.drew) : (Code.region id ops true).wp P Q a w := by
  simp only [Bool.and_eq_true] at hok
  have e : (fun i => needs.contains i) = need.testBit := by
    funext i
    rw [← hN, Bool.eq_iff_iff, bitsOf_test]
    simp
  rw [e] at h
  have hw : ∀ (l : List Nat) (K : Act → World → Prop) (a : Act) (w' : World), wpFree P ops Q (fun a v => v = w' → K a v) l a w' → wpFree P ops Q K l a w' := by
    intro l K
    induction l with
    | nil => intro a w' h; exact h rfl
    | cons i l ih => intro a w' h; obtain ⟨o, v, h1, h2, h3, h4⟩ := h; exact ⟨o, v, h1, h2, h3, ih _ _ h4⟩
  refine wp_region_any hm (wpAny_of_N _ _ _ _ (hz ▸ wpN_of_frees (S := S) hs hr hok.1 need plan.length (fastOk rows need plan) (wpPlan P ops Q S need.testBit plan) (fun listed L a w' hcl hmi hk hI => ?_) free _ 0 a w.drew (Closed.start ops) (Mirrors.start ops) hok.2 (hw _ _ _ _ ?_)))
  · exact wpN_of_fast hs hr hok.1 need plan listed L a w' hcl hmi hk hI
  · refine cast ?_ (h hS)
    congr 1
    funext a v
    apply propext
    constructor
    · intro h e; subst e; exact h rfl
    · intro h e; subst e; exact h rfl
end
end Go.Proofs.Ytaapdkeipknilaa
