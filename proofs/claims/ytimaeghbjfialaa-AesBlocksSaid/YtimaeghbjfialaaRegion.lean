/-
  A region that draws its order, walked in ONE order: a plan. What yields its value wherever S holds may come at any time; whatever else writes or calls comes in the plan's order;
  S is shown anew only behind an operation that some such reading may still follow.
-/
import Derived.OrdersHeld
import Derived.StillTail
import Derived.Deep.RegionHeld3
namespace Go.Proofs.Ytimaeghbjfialaa

section
variable {P : Program} {ops : Array Oper} {Q : Exit → Act → World → Prop} {S : World → Prop} {need : Nat → Bool}

/-- Whatever order is picked from here on; behind number i, if 'need i', S holds. -/
def wpN (P : Program) (ops : Array Oper) (Q : Exit → Act → World → Prop) (S : World → Prop) (need : Nat → Bool) : Nat → Array Bool → Act → World → Prop
  | 0, listed, a, w => Region.ready .any ops listed = [] ∧ Q .normal a w
  | fuel + 1, listed, a, w =>
    (Region.ready .any ops listed = [] → Q .normal a w) ∧
    ∀ i ∈ Region.ready .any ops listed, wpOp P ops Q i (fun a' w' => (need i = true → S w') ∧ wpN P ops Q S need fuel (listed.setIfInBounds i true) a' w') a w

theorem wpAny_of_N : ∀ (fuel : Nat) (listed : Array Bool) (a : Act) (w : World), wpN P ops Q S need fuel listed a w → wpAny P .any ops Q fuel listed a w
  | 0, _, _, _, h => h
  | fuel + 1, _, _, _, h => ⟨h.1, fun i hi => wpOp_mono (fun a' w' h' => wpAny_of_N fuel _ a' w' h'.2) (h.2 i hi)⟩

/-- Number j waits for number i, over at most n steps. -/
def waitsN (ops : Array Oper) : Nat → Nat → Nat → Bool
  | 0, _, _ => false
  | n + 1, j, i => match ops[j]? with
    | some oj => oj.after.any fun e => Region.binds .any e && (e.on == i || waitsN ops n e.on i)
    | none => false

def Closed (ops : Array Oper) (listed : Array Bool) : Prop :=
  listed.size = ops.size ∧ ∀ j oj, ops[j]? = some oj → listed.getD j false = true → ∀ e ∈ oj.after, Region.binds .any e = true → listed.getD e.on false = true
theorem Closed.start (ops : Array Oper) : Closed ops (Array.replicate ops.size false) :=
  ⟨by simp, fun j oj _ h => by rw [getD_replicate_false] at h; cases h⟩
theorem Closed.set {listed : Array Bool} {i : Nat} (h : Closed ops listed) (hi : i ∈ Region.ready .any ops listed) : Closed ops (listed.setIfInBounds i true) := by
  obtain ⟨_, oi, hoi, hall⟩ := mem_ready.1 hi
  refine ⟨by simp [h.1], fun j oj hj hl e he hb => ?_⟩
  by_cases hij : i = j
  · subst hij
    have : oj = oi := Option.some.inj (hj.symm.trans hoi)
    subst this
    exact getD_set_true (hall e he hb)
  · rw [getD_set_ne false hij] at hl
    exact getD_set_true (h.2 j oj hj hl e he hb)
theorem Closed.waits {listed : Array Bool} (h : Closed ops listed) : ∀ (n j i : Nat) (oj : Oper), ops[j]? = some oj → (∀ e ∈ oj.after, Region.binds .any e = true → listed.getD e.on false = true) → waitsN ops n j i = true → listed.getD i false = true := by
  intro n
  induction n with
  | zero => intro j i oj _ _ hw; simp [waitsN] at hw
  | succ n ih =>
    intro j i oj hj hall hw
    simp only [waitsN, hj] at hw
    obtain ⟨e, he, hb⟩ := Array.any_eq_true'.1 hw
    simp only [Bool.and_eq_true, Bool.or_eq_true, beq_iff_eq] at hb
    have hl := hall e he hb.1
    rcases hb.2 with h1 | h1
    · rw [← h1]; exact hl
    · cases ho : ops[e.on]? with
      | none => cases n <;> simp [waitsN, ho] at h1
      | some o => exact ih e.on i o ho (h.2 e.on o ho hl) h1

theorem wpN_first {i : Nat} {oi : Oper} {v : Value} (hi : ops[i]? = some oi) (hsel : ∀ (j : Nat) (o : Oper) cs b, ops[j]? = some o → o.op ≠ .select cs b)
    (hQ : ∀ c a w, Q (.panic c) (a.put oi.dst v) w → Q (.panic c) a w) (n : Nat) :
    ∀ (fuel : Nat) (listed : Array Bool) (a : Act) (w : World), Closed ops listed →
      (∀ j oj, ops[j]? = some oj → j ≠ i → listed.getD j true = false → waitsN ops n j i = false → oi.apart ops oj = true ∧ need j = true) →
      i ∈ Region.ready .any ops listed → YieldsIf P ops S oi v a → S w →
      wpN P ops Q S need fuel (listed.setIfInBounds i true) (a.put oi.dst v) w → wpN P ops Q S need (fuel + 1) listed a w := by
  intro fuel
  induction fuel with
  | zero =>
    intro listed a w _ _ hr hy hS H
    refine ⟨fun h => (by rw [h] at hr; cases hr), fun j hj => ?_⟩
    by_cases hji : j = i
    · subst hji; exact hy.wpOp hi hS ⟨fun _ => hS, H⟩
    · have := ready_mono hj hji
      rw [H.1] at this
      cases this
  | succ fuel ih =>
    intro listed a w hcl hfree hr hy hS H
    refine ⟨fun h => (by rw [h] at hr; cases hr), fun j hj => ?_⟩
    by_cases hji : j = i
    · subst hji; exact hy.wpOp hi hS ⟨fun _ => hS, H⟩
    · have h1 := H.2 j (ready_mono hj hji)
      obtain ⟨hjun, oj, hoj, hall⟩ := mem_ready.1 hj
      have hiun := getD_both (mem_ready.1 hr).1
      have hnot : waitsN ops n j i = false := by
        cases hw : waitsN ops n j i with
        | false => rfl
        | true =>
          have := hcl.waits n j i oj hoj hall hw
          rw [hiun] at this
          cases this
      obtain ⟨hap, hnd⟩ := hfree j oj hoj hji hjun hnot
      have h2 := wpOp_putIf hoj hap (fun cs b => hsel i oi cs b hi) (fun cs b => hsel j oj cs b hoj) hQ hy h1
      have hfree' : ∀ k ok, ops[k]? = some ok → k ≠ i → (listed.setIfInBounds j true).getD k true = false → waitsN ops n k i = false → oi.apart ops ok = true ∧ need k = true := fun k ok hk hki hun hno => by
        refine hfree k ok hk hki ?_ hno
        by_cases hjk : j = k
        · subst hjk; exact hjun
        · rw [getD_set_ne true hjk] at hun; exact hun
      refine wpOp_mono (fun a' w' h3 => ⟨h3.2.1, ih (listed.setIfInBounds j true) a' w' (hcl.set hj) hfree' (ready_mono hr (Ne.symm hji)) h3.1 (h3.2.1 hnd) ?_⟩) h2
      rw [Array.setIfInBounds_comm _ _ hji]
      exact h3.2.2

/-- THE PLAN: each number, and whether it reads alone. -/
def wpPlan (P : Program) (ops : Array Oper) (Q : Exit → Act → World → Prop) (S : World → Prop) (need : Nat → Bool) : List (Nat × Bool) → Act → World → Prop
  | [], a, w => Q .normal a w
  | (i, true) :: rest, a, w => ∃ o v, ops[i]? = some o ∧ YieldsIf P ops S o v a ∧ S w ∧ (∀ c a w, Q (.panic c) (a.put o.dst v) w → Q (.panic c) a w) ∧ wpPlan P ops Q S need rest (a.put o.dst v) w
  | (i, false) :: rest, a, w => wpOp P ops Q i (fun a' w' => (need i = true → S w') ∧ wpPlan P ops Q S need rest a' w') a w

def planOk (ops : Array Oper) (need : Nat → Bool) (n : Nat) : List (Nat × Bool) → Array Bool → Bool
  | [], listed => (Region.ready .any ops listed).isEmpty
  | (i, true) :: rest, listed => (Region.ready .any ops listed).contains i &&
      ((List.range ops.size).all fun j => j == i || listed.getD j true || waitsN ops n j i || (match ops[i]?, ops[j]? with | some oi, some oj => oi.apart ops oj && need j | _, _ => false)) &&
      planOk ops need n rest (listed.setIfInBounds i true)
  | (i, false) :: rest, listed => (Region.ready .any ops listed == [i]) && planOk ops need n rest (listed.setIfInBounds i true)

theorem wpN_of_plan (hs : Region.noSelect ops = true) (n : Nat) : ∀ (plan : List (Nat × Bool)) (listed : Array Bool) (a : Act) (w : World), Closed ops listed →
    planOk ops need n plan listed = true → wpPlan P ops Q S need plan a w → wpN P ops Q S need plan.length listed a w := by
  intro plan
  induction plan with
  | nil =>
    intro listed a w _ hok h
    exact ⟨by simpa [planOk] using hok, h⟩
  | cons x rest ih =>
    obtain ⟨i, y⟩ := x
    intro listed a w hcl hok h
    cases y with
    | true =>
      simp only [planOk, Bool.and_eq_true] at hok
      obtain ⟨⟨hr, hf⟩, hrest⟩ := hok
      have hr' : i ∈ Region.ready .any ops listed := by simpa using hr
      obtain ⟨o, v, ho, hy, hS, hQ, hw⟩ := h
      refine wpN_first ho (Region.noSelect_spec hs) hQ n rest.length listed a w hcl ?_ hr' hy hS (ih _ _ _ (hcl.set hr') hrest hw)
      intro j oj hj hji hun hno
      have := List.all_eq_true.1 hf j (List.mem_range.2 (Array.getElem?_eq_some_iff.1 hj).1)
      simp only [ho, hj, hno, hun, Bool.or_false, Bool.or_eq_true, beq_iff_eq, Bool.and_eq_true] at this
      rcases this with h1 | h1
      · exact absurd h1 hji
      · exact h1
    | false =>
      simp only [planOk, Bool.and_eq_true, beq_iff_eq] at hok
      obtain ⟨hr, hrest⟩ := hok
      have hr' : i ∈ Region.ready .any ops listed := by rw [hr]; simp
      refine ⟨fun h0 => (by rw [hr] at h0; cases h0), fun j hj => ?_⟩
      rw [hr] at hj
      obtain rfl : j = i := by simpa using hj
      exact wpOp_mono (fun a' w' h' => ⟨h'.1, ih _ _ _ (hcl.set hr') hrest h'.2⟩) h

/-- AT A REGION THAT DRAWS. -/
theorem region_plan {id : Nat} {a : Act} {w : World} (plan : List (Nat × Bool)) (needs : List Nat) (S : World → Prop) (hm : P.follows .mixedOrders = true) (hs : Region.noSelect ops = true) (hz : plan.length = ops.size)
    (hok : planOk ops (fun i => needs.contains i) ops.size plan (Array.replicate ops.size false) = true) (hS : S w.drew) (h : S w.drew → wpPlan P ops Q S (fun i => needs.contains i) plan a w.drew) : (Code.region id ops true).wp P Q a w :=
  wp_region_any hm (wpAny_of_N _ _ _ _ (hz ▸ wpN_of_plan hs ops.size plan _ a w.drew (Closed.start ops) hok (h hS)))

/-! ### The moves -/
theorem at_list {i : Nat} {o : Oper} (h : ops.toList[i]? = some o) : ops[i]? = some o := by rw [← Array.getElem?_toList]; exact h
theorem plan_nil {a : Act} {w : World} (h : Q .normal a w) : wpPlan P ops Q S need [] a w := h
theorem plan_read {i : Nat} {o : Oper} {v : Value} {rest : List (Nat × Bool)} {a : Act} {w : World} (ho : ops.toList[i]? = some o) (hQ : ∀ c a w, Q (.panic c) (a.put o.dst v) w → Q (.panic c) a w)
    (hg : Region.wanted o (yielded ops a.tmps) = true) (hS : S w) (hy : ∀ w, S w → (execOp a.eval o).run P w = .ok (.value v) w) (h : wpPlan P ops Q S need rest (a.put o.dst v) w) : wpPlan P ops Q S need ((i, true) :: rest) a w :=
  ⟨o, v, at_list ho, .inl ⟨hg, hy⟩, hS, hQ, h⟩
theorem plan_skip {i : Nat} {o : Oper} {rest : List (Nat × Bool)} {a : Act} {w : World} (ho : ops.toList[i]? = some o) (hQ : ∀ c a w, Q (.panic c) (a.put o.dst undef) w → Q (.panic c) a w)
    (hg : Region.wanted o (yielded ops a.tmps) = false) (hS : S w) (h : wpPlan P ops Q S need rest (a.put o.dst undef) w) : wpPlan P ops Q S need ((i, true) :: rest) a w :=
  ⟨o, undef, at_list ho, .inr ⟨hg, rfl⟩, hS, hQ, h⟩
theorem plan_do {i : Nat} {o : Oper} {rest : List (Nat × Bool)} {a : Act} {w : World} (ho : ops.toList[i]? = some o) (hg : Region.wanted o (yielded ops a.tmps) = true)
    (h : ∀ K : Act → World → Prop, Shut (∀ a w, (need i = true → S w) → ((need i = true → S w) → wpPlan P ops Q S need rest a w) → K a w) → o.wp P a w K Q) : wpPlan P ops Q S need ((i, false) :: rest) a w := by
  refine wpOp_step (at_list ho) (fun K' hK => ?_)
  rw [if_pos hg]
  exact h K' (fun a w h1 h2 => hK a w ⟨h1, h2 h1⟩)
theorem plan_pass {i : Nat} {o : Oper} {rest : List (Nat × Bool)} {a : Act} {w : World} (ho : ops.toList[i]? = some o) (hg : Region.wanted o (yielded ops a.tmps) = false) (hS : need i = true → S w)
    (h : wpPlan P ops Q S need rest (a.put o.dst undef) w) : wpPlan P ops Q S need ((i, false) :: rest) a w := by
  refine wpOp_step (at_list ho) (fun K' hK => ?_)
  rw [if_neg (by simp [hg])]
  exact hK _ _ ⟨hS, h⟩
end
end Go.Proofs.Ytimaeghbjfialaa
