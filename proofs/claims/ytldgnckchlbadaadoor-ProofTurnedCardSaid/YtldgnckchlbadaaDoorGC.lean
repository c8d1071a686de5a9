/-
  A region that draws its order, walked in ONE order: a plan. What yields its value wherever S holds may come at any time; whatever else writes or calls comes in the plan's order;
  S is shown anew only behind an operation that some such reading may still follow.
  A region that draws its order and in which TWO effects may be ready at once: a tree of orders.
  A region that draws its order and in which several effects may be ready at once: first what reads alone, then an invariant over the effects' order, then a plan.
  A region that draws its order: what reads alone and nothing of the memory comes ahead, then a plan.
-/
import Derived.OrdersHeld
import Derived.StillTail
import Derived.Deep.RegionHeld3
namespace Go.Proofs.YtldgnckchlbadaaDoor
set_option maxRecDepth 4000

section
variable {P : Program} {ops : Array Oper} {Q : Exit → Act → World → Prop} {S : World → Prop} {need : Nat → Bool}

/-- Whatever order is picked from here on; behind number i, if 'need i', S holds. -/
def wpN (P : Program) (ops : Array Oper) (Q : Exit → Act → World → Prop) (S : World → Prop) (need : Nat → Bool) : Nat → Array Bool → Act → World → Prop
  | 0, listed, a, w => Region.ready .any ops listed = [] ∧ Q .normal a w
  | fuel + 1, listed, a, w =>
    (Region.ready .any ops listed = [] → Q .normal a w) ∧
    ∀ i ∈ Region.ready .any ops listed, wpOp P ops Q i (fun a' w' => (need i = true → S w') ∧ wpN P ops Q S need fuel (listed.setIfInBounds i true) a' w') a w

theorem wpAny_of_N : ∀ (fuel : Nat) (listed : Array Bool) (a : Act) (w : World), wpN P ops Q S need fuel listed a w → wpAny P .any ops Q fuel listed a w
  | 0, _, _, _, h => h
  | fuel + 1, _, _, _, h => ⟨h.1, fun i hi => wpOp_mono (fun a' w' h' => wpAny_of_N fuel _ a' w' h'.2) (h.2 i hi)⟩

def Closed (ops : Array Oper) (listed : Array Bool) : Prop :=
  listed.size = ops.size ∧ ∀ j oj, ops[j]? = some oj → listed.getD j false = true → ∀ e ∈ oj.after, Region.binds .any e = true → listed.getD e.on false = true
theorem Closed.start (ops : Array Oper) : Closed ops (Array.replicate ops.size false) :=
  ⟨by simp, fun j oj _ h => by rw [getD_replicate_false] at h; cases h⟩
theorem Closed.set {listed : Array Bool} {i : Nat} (h : Closed ops listed) (hi : i ∈ Region.ready .any ops listed) : Closed ops (listed.setIfInBounds i true) := by
  obtain ⟨_, oi, hoi, hall⟩ := mem_ready.1 hi
  refine ⟨by simp [h.1], fun j oj hj hl e he hb => ?_⟩
  by_cases hij : i = j
  · subst hij
    have : oj = oi := Option.some.inj (hj.symm.trans hoi)
    subst this
    exact getD_set_true (hall e he hb)
  · rw [getD_set_ne false hij] at hl
    exact getD_set_true (h.2 j oj hj hl e he hb)
theorem wpN_first {i : Nat} {oi : Oper} {v : Value} (hi : ops[i]? = some oi) (hsel : ∀ (j : Nat) (o : Oper) cs b, ops[j]? = some o → o.op ≠ .select cs b)
    (hQ : ∀ c a w, Q (.panic c) (a.put oi.dst v) w → Q (.panic c) a w) (wt : Nat → Bool)
    (hwt : ∀ listed, Closed ops listed → ∀ j oj, ops[j]? = some oj → (∀ e ∈ oj.after, Region.binds .any e = true → listed.getD e.on false = true) → wt j = true → listed.getD i false = true) :
    ∀ (fuel : Nat) (listed : Array Bool) (a : Act) (w : World), Closed ops listed →
      (∀ j oj, ops[j]? = some oj → j ≠ i → listed.getD j true = false → wt j = false → oi.apart ops oj = true ∧ need j = true) →
      i ∈ Region.ready .any ops listed → YieldsIf P ops S oi v a → S w →
      wpN P ops Q S need fuel (listed.setIfInBounds i true) (a.put oi.dst v) w → wpN P ops Q S need (fuel + 1) listed a w := by
  intro fuel
  induction fuel with
  | zero =>
    intro listed a w _ _ hr hy hS H
    refine ⟨fun h => (by rw [h] at hr; cases hr), fun j hj => ?_⟩
    by_cases hji : j = i
    · subst hji; exact hy.wpOp hi hS ⟨fun _ => hS, H⟩
    · have := ready_mono hj hji
      rw [H.1] at this
      cases this
  | succ fuel ih =>
    intro listed a w hcl hfree hr hy hS H
    refine ⟨fun h => (by rw [h] at hr; cases hr), fun j hj => ?_⟩
    by_cases hji : j = i
    · subst hji; exact hy.wpOp hi hS ⟨fun _ => hS, H⟩
    · have h1 := H.2 j (ready_mono hj hji)
      obtain ⟨hjun, oj, hoj, hall⟩ := mem_ready.1 hj
      have hiun := getD_both (mem_ready.1 hr).1
      have hnot : wt j = false := by
        cases hw : wt j with
        | false => rfl
        | true =>
          have := hwt _ hcl j oj hoj hall hw
          rw [hiun] at this
          cases this
      obtain ⟨hap, hnd⟩ := hfree j oj hoj hji hjun hnot
      have h2 := wpOp_putIf hoj hap (fun cs b => hsel i oi cs b hi) (fun cs b => hsel j oj cs b hoj) hQ hy h1
      have hfree' : ∀ k ok, ops[k]? = some ok → k ≠ i → (listed.setIfInBounds j true).getD k true = false → wt k = false → oi.apart ops ok = true ∧ need k = true := fun k ok hk hki hun hno => by
        refine hfree k ok hk hki ?_ hno
        by_cases hjk : j = k
        · subst hjk; exact hjun
        · rw [getD_set_ne true hjk] at hun; exact hun
      refine wpOp_mono (fun a' w' h3 => ⟨h3.2.1, ih (listed.setIfInBounds j true) a' w' (hcl.set hj) hfree' (ready_mono hr (Ne.symm hji)) h3.1 (h3.2.1 hnd) ?_⟩) h2
      rw [Array.setIfInBounds_comm _ _ hji]
      exact h3.2.2

/-- THE PLAN: each number, and whether it reads alone. -/
def wpPlan (P : Program) (ops : Array Oper) (Q : Exit → Act → World → Prop) (S : World → Prop) (need : Nat → Bool) : List (Nat × Bool) → Act → World → Prop
  | [], a, w => Q .normal a w
  | (i, true) :: rest, a, w => ∃ o v, ops[i]? = some o ∧ YieldsIf P ops S o v a ∧ S w ∧ (∀ c a w, Q (.panic c) (a.put o.dst v) w → Q (.panic c) a w) ∧ wpPlan P ops Q S need rest (a.put o.dst v) w
  | (i, false) :: rest, a, w => wpOp P ops Q i (fun a' w' => (need i = true → S w') ∧ wpPlan P ops Q S need rest a' w') a w

end
/-! ### The same check by masks: far faster for the kernel -/
section
variable {P : Program} {ops : Array Oper} {Q : Exit → Act → World → Prop} {S : World → Prop}
def bitsOf (l : List Nat) : Nat := l.foldr (fun i m => (1 <<< i) ||| m) 0
theorem bit_one (i k : Nat) : (1 <<< i).testBit k = decide (i = k) := by
  rw [Nat.one_shiftLeft, Nat.testBit_two_pow]
theorem bitsOf_test (l : List Nat) (k : Nat) : (bitsOf l).testBit k = true ↔ k ∈ l := by
  induction l with
  | nil => simp [bitsOf]
  | cons i l ih =>
    show ((1 <<< i) ||| bitsOf l).testBit k = true ↔ _
    rw [Nat.testBit_or, bit_one, Bool.or_eq_true, ih]
    simp [eq_comm]
def dMask (o : Oper) : Nat := match o.dst with | some d => 1 <<< d | none => 0
def aMask (o : Oper) : Nat := bitsOf ((o.after.toList.filter (Region.binds .any)).map (·.on))
def rowOf (ops : Array Oper) (o : Oper) : Nat × Nat × Nat := (dMask o, bitsOf (o.looksAt ops), aMask o)
abbrev Row := Nat × Nat × Nat × Nat
def Row.three (r : Row) : Nat × Nat × Nat := (r.1, r.2.1, r.2.2.1)
def within (a b : Nat) : Bool := (a &&& b) == a
theorem within_spec {a b : Nat} (h : within a b = true) {k : Nat} (hk : a.testBit k = true) : b.testBit k = true := by
  have e : a &&& b = a := by simpa [within] using h
  rw [← e, Nat.testBit_and, Bool.and_eq_true] at hk
  exact hk.2
theorem within_of {a b : Nat} (h : ∀ k, a.testBit k = true → b.testBit k = true) : within a b = true := by
  have e : a &&& b = a := by
    apply Nat.eq_of_testBit_eq
    intro k
    rw [Nat.testBit_and]
    by_cases hk : a.testBit k = true
    · rw [hk, h k hk]; rfl
    · simp [Bool.eq_false_iff.2 hk]
  simp [within, e]
def allIx (f : Nat → Row → Bool) : Nat → List Row → Bool
  | _, [] => true
  | k, r :: l => f k r && allIx f (k + 1) l
theorem allIx_spec (f : Nat → Row → Bool) : ∀ (l : List Row) (k : Nat), allIx f k l = true → ∀ j r, l[j]? = some r → f (k + j) r = true
  | [], _, _, j, r, h => by simp at h
  | x :: l, k, hf, j, r, h => by
    simp only [allIx, Bool.and_eq_true] at hf
    cases j with
    | zero => simp at h; subst h; exact hf.1
    | succ j =>
      have := allIx_spec f l (k + 1) hf.2 j r (by simpa using h)
      rwa [show k + 1 + j = k + (j + 1) by omega] at this
def orUp (a : Nat) : Nat → List Nat → Nat
  | _, [] => 0
  | k, m :: l => (if a.testBit k then (1 <<< k) ||| m else 0) ||| orUp a (k + 1) l
theorem orUp_spec (a i : Nat) : ∀ (l : List Nat) (k : Nat), (orUp a k l).testBit i = true → ∃ t m, l[t]? = some m ∧ a.testBit (k + t) = true ∧ (k + t = i ∨ m.testBit i = true)
  | [], k, h => by simp [orUp] at h
  | m :: l, k, h => by
    rw [orUp, Nat.testBit_or, Bool.or_eq_true] at h
    rcases h with h | h
    · by_cases hk : a.testBit k = true
      · rw [if_pos hk, Nat.testBit_or, bit_one, Bool.or_eq_true, decide_eq_true_eq] at h
        exact ⟨0, m, rfl, hk, h⟩
      · rw [if_neg hk] at h
        simp at h
    · obtain ⟨t, m', h1, h2, h3⟩ := orUp_spec a i l (k + 1) h
      exact ⟨t + 1, m', by simpa using h1, by rw [show k + (t + 1) = k + 1 + t by omega]; exact h2, by rw [show k + (t + 1) = k + 1 + t by omega]; exact h3⟩
def reachOk (rows : List Row) : Bool := allIx (fun j r => within r.2.2.2 (orUp r.2.2.1 0 ((rows.take j).map (·.2.2.2)))) 0 rows

theorem row_at {rows : List Row} (h : rows.map Row.three = ops.toList.map (rowOf ops)) {j : Nat} {oj : Oper} (hj : ops[j]? = some oj) : ∃ r, rows[j]? = some r ∧ r.three = rowOf ops oj := by
  have h1 : (rows.map Row.three)[j]? = some (rowOf ops oj) := by rw [h, List.getElem?_map, Array.getElem?_toList, hj]; rfl
  rw [List.getElem?_map] at h1
  cases hr : rows[j]? with
  | none => rw [hr] at h1; cases h1
  | some r => rw [hr] at h1; exact ⟨r, rfl, Option.some.inj h1⟩
theorem at_row {rows : List Row} (h : rows.map Row.three = ops.toList.map (rowOf ops)) {j : Nat} {r : Row} (hj : rows[j]? = some r) : ∃ oj, ops[j]? = some oj ∧ r.three = rowOf ops oj := by
  have h1 : (ops.toList.map (rowOf ops))[j]? = some r.three := by rw [← h, List.getElem?_map, hj]; rfl
  rw [List.getElem?_map, Array.getElem?_toList] at h1
  cases ho : ops[j]? with
  | none => rw [ho] at h1; cases h1
  | some o => rw [ho] at h1; exact ⟨o, rfl, (Option.some.inj h1).symm⟩
theorem aMask_test {o : Oper} {k : Nat} : (aMask o).testBit k = true ↔ ∃ e ∈ o.after, Region.binds .any e = true ∧ e.on = k := by
  rw [aMask, bitsOf_test, List.mem_map]
  constructor
  · rintro ⟨e, he, rfl⟩
    rw [List.mem_filter] at he
    exact ⟨e, by simpa using he.1, he.2, rfl⟩
  · rintro ⟨e, he, hb, rfl⟩
    exact ⟨e, List.mem_filter.2 ⟨by simpa using he, hb⟩, rfl⟩
theorem reach_listed {rows : List Row} (h : rows.map Row.three = ops.toList.map (rowOf ops)) (hR : reachOk rows = true) {listed : Array Bool} (hc : Closed ops listed) :
    ∀ (b j : Nat) (oj : Oper) (r : Row), j < b → ops[j]? = some oj → rows[j]? = some r → (∀ e ∈ oj.after, Region.binds .any e = true → listed.getD e.on false = true) → ∀ i, r.2.2.2.testBit i = true → listed.getD i false = true := by
  intro b
  induction b with
  | zero => intro j _ _ hb; omega
  | succ b ih =>
    intro j oj r hb hj hr hall i hi
    have h1 := allIx_spec _ rows 0 hR j r hr
    simp only [Nat.zero_add] at h1
    obtain ⟨t, m, h2, h3, h4⟩ := orUp_spec _ i _ 0 (within_spec h1 hi)
    rw [Nat.zero_add] at h3 h4
    obtain ⟨r', hr', e'⟩ := row_at h hj
    have : r' = r := Option.some.inj (hr'.symm.trans hr)
    subst this
    have ha : r'.2.2.1 = aMask oj := by have := congrArg (fun x => x.2.2) e'; exact this
    rw [ha, aMask_test] at h3
    obtain ⟨e, he, hbd, rfl⟩ := h3
    have hl := hall e he hbd
    rcases h4 with h4 | h4
    · rw [← h4]; exact hl
    · rw [List.getElem?_map, List.getElem?_take] at h2
      split at h2
      · rename_i hlt
        cases hre : rows[e.on]? with
        | none => rw [hre] at h2; cases h2
        | some re =>
          rw [hre] at h2
          obtain ⟨oe, hoe, -⟩ := at_row h hre
          have hm : re.2.2.2 = m := Option.some.inj h2
          exact ih e.on oe re (by omega) hoe hre (hc.2 e.on oe hoe hl) i (by rw [hm]; exact h4)
      · cases h2

def apartB (x y : Row) : Bool := (x.1 &&& y.2.1 == 0) && (x.1 &&& y.1 == 0) && (y.1 &&& x.2.1 == 0)
theorem land_zero {a b k : Nat} (h : (a &&& b == 0) = true) (ha : a.testBit k = true) : b.testBit k = false := by
  have e : a &&& b = 0 := by simpa using h
  have := congrArg (·.testBit k) e
  simp only [Nat.testBit_and, ha, Bool.true_and, Nat.zero_testBit] at this
  exact this
theorem apart_of {x y : Row} {ox oy : Oper} (hx : x.three = rowOf ops ox) (hy : y.three = rowOf ops oy) (h : apartB x y = true) : ox.apart ops oy = true := by
  simp only [apartB, Bool.and_eq_true] at h
  have x1 : x.1 = dMask ox := congrArg (·.1) hx
  have x2 : x.2.1 = bitsOf (ox.looksAt ops) := congrArg (·.2.1) hx
  have y1 : y.1 = dMask oy := congrArg (·.1) hy
  have y2 : y.2.1 = bitsOf (oy.looksAt ops) := congrArg (·.2.1) hy
  rw [x1, x2, y1, y2] at h
  have test : ∀ {o : Oper} {d : Nat}, o.dst = some d → (dMask o).testBit d = true := fun {o d} e => by rw [dMask, e]; show (1 <<< d).testBit d = true; rw [bit_one]; simp
  have out : ∀ {l : List Nat} {d : Nat}, (bitsOf l).testBit d = false → l.contains d = false := fun {l d} e => by
    cases hc : l.contains d with
    | false => rfl
    | true => rw [(bitsOf_test l d).2 (by simpa using hc)] at e; cases e
  unfold Oper.apart
  rw [Bool.and_eq_true]
  constructor
  · cases hd : ox.dst with
    | none => rfl
    | some d =>
      show (!(oy.looksAt ops).contains d && oy.dst != some d) = true
      rw [out (land_zero h.1.1 (test hd))]
      have h2 := land_zero h.1.2 (test hd)
      cases he : oy.dst with
      | none => rfl
      | some e =>
        by_cases hde : e = d
        · subst hde; rw [test he] at h2; cases h2
        · simp [hde]
  · cases hd : oy.dst with
    | none => rfl
    | some d =>
      show (!(ox.looksAt ops).contains d) = true
      rw [out (land_zero h.2 (test hd))]; rfl

def readyB (rows : List Row) (i L : Nat) : Bool := !L.testBit i && (match rows[i]? with | some r => within r.2.2.1 L | none => false)
def fastOk (rows : List Row) (need : Nat) : List (Nat × Bool) → Nat → Bool
  | [], L => allIx (fun j r => L.testBit j || !within r.2.2.1 L) 0 rows
  | (i, true) :: rest, L => readyB rows i L && (match rows[i]? with
      | some ri => allIx (fun j r => j == i || L.testBit j || r.2.2.2.testBit i || (apartB ri r && need.testBit j)) 0 rows
      | none => false) && fastOk rows need rest (L ||| 1 <<< i)
  | (i, false) :: rest, L => readyB rows i L && allIx (fun j r => j == i || L.testBit j || !within r.2.2.1 L) 0 rows && fastOk rows need rest (L ||| 1 <<< i)

def Mirrors (ops : Array Oper) (listed : Array Bool) (L : Nat) : Prop := listed.size = ops.size ∧ (∀ j, j < ops.size → listed.getD j true = L.testBit j ∧ listed.getD j false = L.testBit j) ∧ ∀ j, L.testBit j = true → j < ops.size
theorem Mirrors.start (ops : Array Oper) : Mirrors ops (Array.replicate ops.size false) 0 := ⟨by simp, fun j hj => by simp [Array.getD, hj], fun j h => by simp at h⟩
theorem Mirrors.set {listed : Array Bool} {L : Nat} (h : Mirrors ops listed L) {i : Nat} (hi : i < ops.size) : Mirrors ops (listed.setIfInBounds i true) (L ||| 1 <<< i) := by
  refine ⟨by simp [h.1], fun j hj => ?_, fun j hj => ?_⟩
  rotate_left
  · rw [Nat.testBit_or, bit_one, Bool.or_eq_true, decide_eq_true_eq] at hj
    rcases hj with hj | rfl
    · exact h.2.2 j hj
    · exact hi
  rw [Nat.testBit_or, bit_one]
  by_cases hij : i = j
  · subst hij
    have hl : i < listed.size := by rw [h.1]; exact hj
    simp [Array.getD, hl]
  · rw [getD_set_ne true hij, getD_set_ne false hij, (h.2.1 j hj).1, (h.2.1 j hj).2]
    simp [hij]
theorem ready_iff {rows : List Row} (h : rows.map Row.three = ops.toList.map (rowOf ops)) {listed : Array Bool} {L : Nat} (hm : Mirrors ops listed L) {j : Nat} {r : Row} (hj : rows[j]? = some r) :
    j ∈ Region.ready .any ops listed ↔ L.testBit j = false ∧ within r.2.2.1 L = true := by
  obtain ⟨oj, hoj, e⟩ := at_row h hj
  have hlt := (Array.getElem?_eq_some_iff.1 hoj).1
  have ha : r.2.2.1 = aMask oj := congrArg (fun x => x.2.2) e
  rw [mem_ready, (hm.2.1 j hlt).1, ha]
  constructor
  · rintro ⟨h1, o, ho, hall⟩
    have : o = oj := Option.some.inj (ho.symm.trans hoj)
    subst this
    refine ⟨h1, within_of fun k hk => ?_⟩
    obtain ⟨x, hx, hb, rfl⟩ := aMask_test.1 hk
    have hl := hall x hx hb
    by_cases hlt2 : x.on < ops.size
    · rw [← (hm.2.1 x.on hlt2).2]; exact hl
    · rw [Array.getD, dif_neg (by rw [hm.1]; exact hlt2)] at hl; cases hl
  · rintro ⟨h1, h2⟩
    refine ⟨h1, oj, hoj, fun x hx hb => ?_⟩
    have hk := within_spec h2 (aMask_test.2 ⟨x, hx, hb, rfl⟩)
    rw [(hm.2.1 x.on (hm.2.2 _ hk)).2]; exact hk
theorem readyB_spec {rows : List Row} (h : rows.map Row.three = ops.toList.map (rowOf ops)) {listed : Array Bool} {L : Nat} (hm : Mirrors ops listed L) {i : Nat} (hi : readyB rows i L = true) : i ∈ Region.ready .any ops listed ∧ i < ops.size := by
  simp only [readyB, Bool.and_eq_true] at hi
  cases hr : rows[i]? with
  | none => rw [hr] at hi; exact absurd hi.2 (by simp)
  | some r =>
    rw [hr] at hi
    obtain ⟨oj, hoj, -⟩ := at_row h hr
    exact ⟨(ready_iff h hm hr).2 ⟨by simpa using hi.1, hi.2⟩, (Array.getElem?_eq_some_iff.1 hoj).1⟩
theorem ready_row {rows : List Row} (h : rows.map Row.three = ops.toList.map (rowOf ops)) {listed : Array Bool} {j : Nat} (hj : j ∈ Region.ready .any ops listed) : ∃ r, rows[j]? = some r := by
  obtain ⟨_, o, ho, _⟩ := mem_ready.1 hj
  obtain ⟨r, hr, -⟩ := row_at h ho
  exact ⟨r, hr⟩

theorem wpN_of_fast (hs : Region.noSelect ops = true) {rows : List Row} (h : rows.map Row.three = ops.toList.map (rowOf ops)) (hR : reachOk rows = true) (need : Nat) : ∀ (plan : List (Nat × Bool)) (listed : Array Bool) (L : Nat) (a : Act) (w : World), Closed ops listed → Mirrors ops listed L →
    fastOk rows need plan L = true → wpPlan P ops Q S need.testBit plan a w → wpN P ops Q S need.testBit plan.length listed a w := by
  intro plan
  induction plan with
  | nil =>
    intro listed L a w _ hm hok hp
    refine ⟨List.eq_nil_iff_forall_not_mem.2 fun j hj => ?_, hp⟩
    obtain ⟨r, hr⟩ := ready_row h hj
    have h1 := allIx_spec _ rows 0 hok j r hr
    have h2 := (ready_iff h hm hr).1 hj
    rw [Nat.zero_add, h2.1, h2.2] at h1
    cases h1
  | cons x rest ih =>
    obtain ⟨i, y⟩ := x
    intro listed L a w hcl hm hok hp
    cases y with
    | true =>
      simp only [fastOk, Bool.and_eq_true] at hok
      obtain ⟨⟨hr, hf⟩, hrest⟩ := hok
      obtain ⟨hr', hlt⟩ := readyB_spec h hm hr
      obtain ⟨o, v, ho, hy, hS, hQ, hw⟩ := hp
      obtain ⟨ri, hri, ei⟩ := row_at h ho
      rw [hri] at hf
      refine wpN_first ho (Region.noSelect_spec hs) hQ (fun j => match rows[j]? with | some r => r.2.2.2.testBit i | none => false) ?_ rest.length listed a w hcl ?_ hr' hy hS (ih _ _ _ _ (hcl.set hr') (hm.set hlt) hrest hw)
      · intro listed hc j oj hj hall hwt
        obtain ⟨r, hr, -⟩ := row_at h hj
        simp only [hr] at hwt
        exact reach_listed h hR hc (j + 1) j oj r (by omega) hj hr hall i hwt
      · intro j oj hj hji hun hno
        obtain ⟨r, hr, ej⟩ := row_at h hj
        have h1 := allIx_spec _ rows 0 hf j r hr
        simp only [hr] at hno
        rw [Nat.zero_add, ← (hm.2.1 j (Array.getElem?_eq_some_iff.1 hj).1).1, hun, hno] at h1
        simp only [Bool.or_false, Bool.or_eq_true, beq_iff_eq, Bool.and_eq_true] at h1
        rcases h1 with h1 | h1
        · exact absurd h1 hji
        · exact ⟨apart_of ei ej h1.1, h1.2⟩
    | false =>
      simp only [fastOk, Bool.and_eq_true] at hok
      obtain ⟨⟨hr, hf⟩, hrest⟩ := hok
      obtain ⟨hr', hlt⟩ := readyB_spec h hm hr
      refine ⟨fun h0 => (by rw [h0] at hr'; cases hr'), fun j hj => ?_⟩
      obtain ⟨r, hrj⟩ := ready_row h hj
      have h1 := allIx_spec _ rows 0 hf j r hrj
      have h2 := (ready_iff h hm hrj).1 hj
      rw [Nat.zero_add, h2.1, h2.2] at h1
      have hji : j = i := by simpa using h1
      subst hji
      exact wpOp_mono (fun a' w' h' => ⟨h'.1, ih _ _ _ _ (hcl.set hr') (hm.set hlt) hrest h'.2⟩) hp

/-- AT A REGION THAT DRAWS: the plan checked by masks. -/
theorem region_fast {id : Nat} {a : Act} {w : World} (plan : List (Nat × Bool)) (needs : List Nat) (need : Nat) (rows : List Row) (S : World → Prop) (hN : bitsOf needs = need) (hm : P.follows .mixedOrders = true) (hs : Region.noSelect ops = true) (hz : plan.length = ops.size)
    (hr : rows.map Row.three = ops.toList.map (rowOf ops)) (hok : (reachOk rows && fastOk rows need plan 0) = true) (hS : S w.drew) (h : S w.drew → wpPlan P ops Q S (fun i => needs.contains i) plan a w.drew) : (Code.region id ops true).wp P Q a w := by
  rw [Bool.and_eq_true] at hok
  have e : (fun i => needs.contains i) = need.testBit := by
    funext i
    rw [← hN, Bool.eq_iff_iff, bitsOf_test]
    simp
  rw [e] at h
  exact wp_region_any hm (wpAny_of_N _ _ _ _ (hz ▸ wpN_of_fast hs hr hok.1 need plan _ 0 a w.drew (Closed.start ops) (Mirrors.start ops) hok.2 (h hS)))
end

section
variable {P : Program} {ops : Array Oper} {Q : Exit → Act → World → Prop} {S : World → Prop} {need : Nat → Bool}
/-! ### The moves -/
theorem at_list {i : Nat} {o : Oper} (h : ops.toList[i]? = some o) : ops[i]? = some o := by rw [← Array.getElem?_toList]; exact h
theorem plan_nil {a : Act} {w : World} (h : Q .normal a w) : wpPlan P ops Q S need [] a w := h
theorem plan_read {i : Nat} {o : Oper} {v : Value} {rest : List (Nat × Bool)} {a : Act} {w : World} (ho : ops.toList[i]? = some o) (hQ : ∀ c a w, Q (.panic c) (a.put o.dst v) w → Q (.panic c) a w)
    (hg : Region.wanted o (yielded ops a.tmps) = true) (hS : S w) (hy : ∀ w, S w → (execOp a.eval o).run P w = .ok (.value v) w) (h : wpPlan P ops Q S need rest (a.put o.dst v) w) : wpPlan P ops Q S need ((i, true) :: rest) a w :=
  ⟨o, v, at_list ho, .inl ⟨hg, hy⟩, hS, hQ, h⟩
theorem plan_skip {i : Nat} {o : Oper} {rest : List (Nat × Bool)} {a : Act} {w : World} (ho : ops.toList[i]? = some o) (hQ : ∀ c a w, Q (.panic c) (a.put o.dst undef) w → Q (.panic c) a w)
    (hg : Region.wanted o (yielded ops a.tmps) = false) (hS : S w) (h : wpPlan P ops Q S need rest (a.put o.dst undef) w) : wpPlan P ops Q S need ((i, true) :: rest) a w :=
  ⟨o, undef, at_list ho, .inr ⟨hg, rfl⟩, hS, hQ, h⟩
theorem plan_do {i : Nat} {o : Oper} {rest : List (Nat × Bool)} {a : Act} {w : World} (ho : ops.toList[i]? = some o) (hg : Region.wanted o (yielded ops a.tmps) = true)
    (h : ∀ K : Act → World → Prop, Shut (∀ a w, (need i = true → S w) → ((need i = true → S w) → wpPlan P ops Q S need rest a w) → K a w) → o.wp P a w K Q) : wpPlan P ops Q S need ((i, false) :: rest) a w := by
  refine wpOp_step (at_list ho) (fun K' hK => ?_)
  rw [if_pos hg]
  exact h K' (fun a w h1 h2 => hK a w ⟨h1, h2 h1⟩)
theorem plan_pass {i : Nat} {o : Oper} {rest : List (Nat × Bool)} {a : Act} {w : World} (ho : ops.toList[i]? = some o) (hg : Region.wanted o (yielded ops a.tmps) = false) (hS : need i = true → S w)
    (h : wpPlan P ops Q S need rest (a.put o.dst undef) w) : wpPlan P ops Q S need ((i, false) :: rest) a w := by
  refine wpOp_step (at_list ho) (fun K' hK => ?_)
  rw [if_neg (by simp [hg])]
  exact hK _ _ ⟨hS, h⟩
end
end Go.Proofs.YtldgnckchlbadaaDoor

namespace Go.Proofs.YtldgnckchlbadaaDoor
set_option maxRecDepth 4000

inductive Tree
  | leaf
  | read (i : Nat) (t : Tree)
  | one (i : Nat) (t : Tree)
  | two (i : Nat) (t : Tree) (j : Nat) (u : Tree)
def Tree.len : Tree → Nat
  | .leaf => 0
  | .read _ t => t.len + 1
  | .one _ t => t.len + 1
  | .two _ t _ _ => t.len + 1

section
variable {P : Program} {ops : Array Oper} {Q : Exit → Act → World → Prop} {S : World → Prop} {need : Nat → Bool}

/-- Along the tree. -/
def wpTree (P : Program) (ops : Array Oper) (Q : Exit → Act → World → Prop) (S : World → Prop) (need : Nat → Bool) : Tree → Act → World → Prop
  | .leaf, a, w => Q .normal a w
  | .read i t, a, w => ∃ o v, ops[i]? = some o ∧ YieldsIf P ops S o v a ∧ S w ∧ (∀ c a w, Q (.panic c) (a.put o.dst v) w → Q (.panic c) a w) ∧ wpTree P ops Q S need t (a.put o.dst v) w
  | .one i t, a, w => wpOp P ops Q i (fun a' w' => (need i = true → S w') ∧ wpTree P ops Q S need t a' w') a w
  | .two i t j u, a, w => wpOp P ops Q i (fun a' w' => (need i = true → S w') ∧ wpTree P ops Q S need t a' w') a w ∧ wpOp P ops Q j (fun a' w' => (need j = true → S w') ∧ wpTree P ops Q S need u a' w') a w

def treeOk (rows : List Row) (need : Nat) : Tree → Nat → Bool
  | .leaf, L => allIx (fun j r => L.testBit j || !within r.2.2.1 L) 0 rows
  | .read i t, L => readyB rows i L && (match rows[i]? with
      | some ri => allIx (fun j r => j == i || L.testBit j || r.2.2.2.testBit i || (apartB ri r && need.testBit j)) 0 rows
      | none => false) && treeOk rows need t (L ||| 1 <<< i)
  | .one i t, L => readyB rows i L && allIx (fun j r => j == i || L.testBit j || !within r.2.2.1 L) 0 rows && treeOk rows need t (L ||| 1 <<< i)
  | .two i t k u, L => readyB rows i L && readyB rows k L && (t.len == u.len) && allIx (fun j r => j == i || j == k || L.testBit j || !within r.2.2.1 L) 0 rows && treeOk rows need t (L ||| 1 <<< i) && treeOk rows need u (L ||| 1 <<< k)

theorem wpN_of_tree (hs : Region.noSelect ops = true) {rows : List Row} (h : rows.map Row.three = ops.toList.map (Go.Proofs.YtldgnckchlbadaaDoor.rowOf ops)) (hR : reachOk rows = true) (need : Nat) : ∀ (t : Tree) (listed : Array Bool) (L : Nat) (a : Act) (w : World), Closed ops listed → Mirrors ops listed L →
    treeOk rows need t L = true → wpTree P ops Q S need.testBit t a w → wpN P ops Q S need.testBit t.len listed a w := by
  intro t
  induction t with
  | leaf =>
    intro listed L a w _ hm hok hp
    refine ⟨List.eq_nil_iff_forall_not_mem.2 fun j hj => ?_, hp⟩
    obtain ⟨r, hr⟩ := ready_row h hj
    have h1 := allIx_spec _ rows 0 hok j r hr
    have h2 := (ready_iff h hm hr).1 hj
    rw [Nat.zero_add, h2.1, h2.2] at h1
    cases h1
  | read i t ih =>
    intro listed L a w hcl hm hok hp
    simp only [treeOk, Bool.and_eq_true] at hok
    obtain ⟨⟨hr, hf⟩, hrest⟩ := hok
    obtain ⟨hr', hlt⟩ := readyB_spec h hm hr
    obtain ⟨o, v, ho, hy, hS, hQ, hw⟩ := hp
    obtain ⟨ri, hri, ei⟩ := row_at h ho
    rw [hri] at hf
    refine wpN_first ho (Region.noSelect_spec hs) hQ (fun j => match rows[j]? with | some r => r.2.2.2.testBit i | none => false) ?_ t.len listed a w hcl ?_ hr' hy hS (ih _ _ _ _ (hcl.set hr') (hm.set hlt) hrest hw)
    · intro listed hc j oj hj hall hwt
      obtain ⟨r, hr, -⟩ := row_at h hj
      simp only [hr] at hwt
      exact reach_listed h hR hc (j + 1) j oj r (by omega) hj hr hall i hwt
    · intro j oj hj hji hun hno
      obtain ⟨r, hr, ej⟩ := row_at h hj
      have h1 := allIx_spec _ rows 0 hf j r hr
      simp only [hr] at hno
      rw [Nat.zero_add, ← (hm.2.1 j (Array.getElem?_eq_some_iff.1 hj).1).1, hun, hno] at h1
      simp only [Bool.or_false, Bool.or_eq_true, beq_iff_eq, Bool.and_eq_true] at h1
      rcases h1 with h1 | h1
      · exact absurd h1 hji
      · exact ⟨apart_of ei ej h1.1, h1.2⟩
  | one i t ih =>
    intro listed L a w hcl hm hok hp
    simp only [treeOk, Bool.and_eq_true] at hok
    obtain ⟨⟨hr, hf⟩, hrest⟩ := hok
    obtain ⟨hr', hlt⟩ := readyB_spec h hm hr
    refine ⟨fun h0 => (by rw [h0] at hr'; cases hr'), fun j hj => ?_⟩
    obtain ⟨r, hrj⟩ := ready_row h hj
    have h1 := allIx_spec _ rows 0 hf j r hrj
    have h2 := (ready_iff h hm hrj).1 hj
    rw [Nat.zero_add, h2.1, h2.2] at h1
    have hji : j = i := by simpa using h1
    subst hji
    exact wpOp_mono (fun a' w' h' => ⟨h'.1, ih _ _ _ _ (hcl.set hr') (hm.set hlt) hrest h'.2⟩) hp
  | two i t k u iht ihu =>
    intro listed L a w hcl hm hok hp
    simp only [treeOk, Bool.and_eq_true, beq_iff_eq] at hok
    obtain ⟨⟨⟨⟨⟨hr, hrk⟩, hlen⟩, hf⟩, ht⟩, hu⟩ := hok
    obtain ⟨hr', hlt⟩ := readyB_spec h hm hr
    obtain ⟨hrk', hltk⟩ := readyB_spec h hm hrk
    refine ⟨fun h0 => (by rw [h0] at hr'; cases hr'), fun j hj => ?_⟩
    obtain ⟨r, hrj⟩ := ready_row h hj
    have h1 := allIx_spec _ rows 0 hf j r hrj
    have h2 := (ready_iff h hm hrj).1 hj
    rw [Nat.zero_add, h2.1, h2.2] at h1
    have hji : j = i ∨ j = k := by simpa using h1
    rcases hji with rfl | rfl
    · exact wpOp_mono (fun a' w' h' => ⟨h'.1, iht _ _ _ _ (hcl.set hr') (hm.set hlt) ht h'.2⟩) hp.1
    · refine wpOp_mono (fun a' w' h' => ⟨h'.1, ?_⟩) hp.2
      rw [hlen]
      exact ihu _ _ _ _ (hcl.set hrk') (hm.set hltk) hu h'.2

/-- AT A REGION THAT DRAWS: the tree checked by masks. -/
theorem region_tree {id : Nat} {a : Act} {w : World} (t : Tree) (needs : List Nat) (need : Nat) (rows : List Row) (S : World → Prop) (hN : bitsOf needs = need) (hm : P.follows .mixedOrders = true) (hs : Region.noSelect ops = true) (hz : t.len = ops.size)
    (hr : rows.map Row.three = ops.toList.map (Go.Proofs.YtldgnckchlbadaaDoor.rowOf ops)) (hok : (reachOk rows && treeOk rows need t 0) = true) (hS : S w.drew) (h : S w.drew → wpTree P ops Q S (fun i => needs.contains i) t a w.drew) : (Code.region id ops true).wp P Q a w := by
  rw [Bool.and_eq_true] at hok
  have e : (fun i => needs.contains i) = need.testBit := by
    funext i
    rw [← hN, Bool.eq_iff_iff, bitsOf_test]
    simp
  rw [e] at h
  exact wp_region_any hm (wpAny_of_N _ _ _ _ (hz ▸ wpN_of_tree hs hr hok.1 need t _ 0 a w.drew (Closed.start ops) (Mirrors.start ops) hok.2 (h hS)))

/-! ### The moves -/
theorem tree_leaf {a : Act} {w : World} (h : Q .normal a w) : wpTree P ops Q S need .leaf a w := h
theorem tree_read {i : Nat} {o : Oper} {v : Value} {t : Tree} {a : Act} {w : World} (ho : ops.toList[i]? = some o) (hQ : ∀ c a w, Q (.panic c) (a.put o.dst v) w → Q (.panic c) a w)
    (hg : Region.wanted o (yielded ops a.tmps) = true) (hS : S w) (hy : ∀ w, S w → (execOp a.eval o).run P w = .ok (.value v) w) (h : wpTree P ops Q S need t (a.put o.dst v) w) : wpTree P ops Q S need (.read i t) a w :=
  ⟨o, v, at_list ho, .inl ⟨hg, hy⟩, hS, hQ, h⟩
theorem tree_skip {i : Nat} {o : Oper} {t : Tree} {a : Act} {w : World} (ho : ops.toList[i]? = some o) (hQ : ∀ c a w, Q (.panic c) (a.put o.dst undef) w → Q (.panic c) a w)
    (hg : Region.wanted o (yielded ops a.tmps) = false) (hS : S w) (h : wpTree P ops Q S need t (a.put o.dst undef) w) : wpTree P ops Q S need (.read i t) a w :=
  ⟨o, undef, at_list ho, .inr ⟨hg, rfl⟩, hS, hQ, h⟩
theorem tree_do {i : Nat} {o : Oper} {t : Tree} {a : Act} {w : World} (ho : ops.toList[i]? = some o) (hg : Region.wanted o (yielded ops a.tmps) = true)
    (h : ∀ K : Act → World → Prop, Shut (∀ a w, (need i = true → S w) → ((need i = true → S w) → wpTree P ops Q S need t a w) → K a w) → o.wp P a w K Q) : wpTree P ops Q S need (.one i t) a w := by
  refine wpOp_step (at_list ho) (fun K' hK => ?_)
  rw [if_pos hg]
  exact h K' (fun a w h1 h2 => hK a w ⟨h1, h2 h1⟩)
theorem tree_two {i j : Nat} {t u : Tree} {a : Act} {w : World} (h1 : wpTree P ops Q S need (.one i t) a w) (h2 : wpTree P ops Q S need (.one j u) a w) : wpTree P ops Q S need (.two i t j u) a w := ⟨h1, h2⟩
/-- The act and the world behind a code are the same on every way. -/
theorem wp_at {c : Code} {Q' : Exit → Act → World → Prop} {a : Act} {w : World} (A : Act) (W : World) (h : c.wp P (fun e a' w' => e = .normal ∧ a' = A ∧ w' = W) a w) (hq : Q' .normal A W) : c.wp P Q' a w :=
  wp_mono h (by rintro _ _ _ ⟨rfl, rfl, rfl⟩; exact hq)
end
end Go.Proofs.YtldgnckchlbadaaDoor

namespace Go.Proofs.YtldgnckchlbadaaDoor
set_option maxRecDepth 4000

section
variable {P : Program} {ops : Array Oper} {Q : Exit → Act → World → Prop} {S : World → Prop} {need : Nat → Bool}

/-- What reads alone, ahead. -/
def wpPre (P : Program) (ops : Array Oper) (Q : Exit → Act → World → Prop) (S : World → Prop) (K : Act → World → Prop) : List Nat → Act → World → Prop
  | [], a, w => K a w
  | i :: rest, a, w => ∃ o v, ops[i]? = some o ∧ YieldsIf P ops S o v a ∧ S w ∧ (∀ c a w, Q (.panic c) (a.put o.dst v) w → Q (.panic c) a w) ∧ wpPre P ops Q S K rest (a.put o.dst v) w

/-- What reads alone and nothing of the memory, ahead of all. -/
theorem wpN_free {i : Nat} {oi : Oper} {v : Value} (hi : ops[i]? = some oi) (hsel : ∀ (j : Nat) (o : Oper) cs b, ops[j]? = some o → o.op ≠ .select cs b) (hn : need i = false)
    (hQ : ∀ c a w, Q (.panic c) (a.put oi.dst v) w → Q (.panic c) a w) (wt : Nat → Bool)
    (hwt : ∀ listed, Closed ops listed → ∀ j oj, ops[j]? = some oj → (∀ e ∈ oj.after, Region.binds .any e = true → listed.getD e.on false = true) → wt j = true → listed.getD i false = true) :
    ∀ (fuel : Nat) (listed : Array Bool) (a : Act) (w : World), Closed ops listed →
      (∀ j oj, ops[j]? = some oj → j ≠ i → listed.getD j true = false → wt j = false → oi.apart ops oj = true) →
      i ∈ Region.ready .any ops listed → YieldsIf P ops (fun _ => True) oi v a →
      wpN P ops Q S need fuel (listed.setIfInBounds i true) (a.put oi.dst v) w → wpN P ops Q S need (fuel + 1) listed a w := by
  intro fuel
  induction fuel with
  | zero =>
    intro listed a w _ _ hr hy H
    refine ⟨fun h => (by rw [h] at hr; cases hr), fun j hj => ?_⟩
    by_cases hji : j = i
    · subst hji; exact hy.wpOp hi trivial ⟨fun h => (by rw [hn] at h; cases h), H⟩
    · have := ready_mono hj hji
      rw [H.1] at this
      cases this
  | succ fuel ih =>
    intro listed a w hcl hfree hr hy H
    refine ⟨fun h => (by rw [h] at hr; cases hr), fun j hj => ?_⟩
    by_cases hji : j = i
    · subst hji; exact hy.wpOp hi trivial ⟨fun h => (by rw [hn] at h; cases h), H⟩
    · have h1 := H.2 j (ready_mono hj hji)
      obtain ⟨hjun, oj, hoj, hall⟩ := mem_ready.1 hj
      have hiun := getD_both (mem_ready.1 hr).1
      have hnot : wt j = false := by
        cases hw : wt j with
        | false => rfl
        | true =>
          have := hwt _ hcl j oj hoj hall hw
          rw [hiun] at this
          cases this
      have hap := hfree j oj hoj hji hjun hnot
      have h2 := wpOp_putIf hoj hap (fun cs b => hsel i oi cs b hi) (fun cs b => hsel j oj cs b hoj) hQ hy h1
      have hfree' : ∀ k ok, ops[k]? = some ok → k ≠ i → (listed.setIfInBounds j true).getD k true = false → wt k = false → oi.apart ops ok = true := fun k ok hk hki hun h => by
        refine hfree k ok hk hki ?_ h
        by_cases hjk : j = k
        · subst hjk; exact hjun
        · rw [getD_set_ne true hjk] at hun; exact hun
      refine wpOp_mono (fun a' w' h3 => ⟨h3.2.1, ih (listed.setIfInBounds j true) a' w' (hcl.set hj) hfree' (ready_mono hr (Ne.symm hji)) h3.1 ?_⟩) h2
      rw [Array.setIfInBounds_comm _ _ hji]
      exact h3.2.2

def wpFree (P : Program) (ops : Array Oper) (Q : Exit → Act → World → Prop) (K : Act → World → Prop) : List Nat → Act → World → Prop
  | [], a, w => K a w
  | i :: rest, a, w => ∃ o v, ops[i]? = some o ∧ YieldsIf P ops (fun _ => True) o v a ∧ (∀ c a w, Q (.panic c) (a.put o.dst v) w → Q (.panic c) a w) ∧ wpFree P ops Q K rest (a.put o.dst v) w
def freeOk (rows : List Row) (need : Nat) (k : Nat → Bool) : List Nat → Nat → Bool
  | [], L => k L
  | i :: rest, L => readyB rows i L && !need.testBit i && (match rows[i]? with
      | some ri => allIx (fun j r => j == i || L.testBit j || r.2.2.2.testBit i || apartB ri r) 0 rows
      | none => false) && freeOk rows need k rest (L ||| 1 <<< i)
theorem wpN_of_frees (hs : Region.noSelect ops = true) {rows : List Row} (h : rows.map Row.three = ops.toList.map (Go.Proofs.YtldgnckchlbadaaDoor.rowOf ops)) (hR : reachOk rows = true) (need m : Nat) (k : Nat → Bool) (K : Act → World → Prop)
    (hK : ∀ listed L a w, Closed ops listed → Mirrors ops listed L → k L = true → K a w → wpN P ops Q S need.testBit m listed a w) : ∀ (pre : List Nat) (listed : Array Bool) (L : Nat) (a : Act) (w : World), Closed ops listed → Mirrors ops listed L →
    freeOk rows need k pre L = true → wpFree P ops Q K pre a w → wpN P ops Q S need.testBit (pre.length + m) listed a w := by
  intro pre
  induction pre with
  | nil =>
    intro listed L a w hcl hm hok hp
    simpa using hK listed L a w hcl hm hok hp
  | cons i rest ih =>
    intro listed L a w hcl hm hok hp
    simp only [freeOk, Bool.and_eq_true, Bool.not_eq_true'] at hok
    obtain ⟨⟨⟨hr, hn⟩, hf⟩, hrest⟩ := hok
    obtain ⟨hr', hlt⟩ := readyB_spec h hm hr
    obtain ⟨o, v, ho, hy, hQ, hw⟩ := hp
    obtain ⟨ri, hri, ei⟩ := row_at h ho
    rw [hri] at hf
    rw [show (i :: rest).length + m = rest.length + m + 1 by simp; omega]
    refine wpN_free ho (Region.noSelect_spec hs) hn hQ (fun j => match rows[j]? with | some r => r.2.2.2.testBit i | none => false) ?_ (rest.length + m) listed a w hcl ?_ hr' hy (ih _ _ _ _ (hcl.set hr') (hm.set hlt) hrest hw)
    · intro listed hc j oj hj hall hwt
      obtain ⟨r, hr, -⟩ := row_at h hj
      simp only [hr] at hwt
      exact reach_listed h hR hc (j + 1) j oj r (by omega) hj hr hall i hwt
    · intro j oj hj hji hun hno
      obtain ⟨r, hr, ej⟩ := row_at h hj
      have h1 := allIx_spec _ rows 0 hf j r hr
      simp only [hr] at hno
      rw [Nat.zero_add, ← (hm.2.1 j (Array.getElem?_eq_some_iff.1 hj).1).1, hun, hno] at h1
      simp only [Bool.or_false, Bool.or_eq_true, beq_iff_eq] at h1
      rcases h1 with h1 | h1
      · exact absurd h1 hji
      · exact apart_of ei ej h1

def preOk (rows : List Row) (need : Nat) (L0 : Nat) : List Nat → Nat → Bool
  | [], L => L == L0
  | i :: rest, L => readyB rows i L && (match rows[i]? with
      | some ri => allIx (fun j r => j == i || L.testBit j || r.2.2.2.testBit i || (apartB ri r && need.testBit j)) 0 rows
      | none => false) && preOk rows need L0 rest (L ||| 1 <<< i)

theorem wpN_of_pre (hs : Region.noSelect ops = true) {rows : List Row} (h : rows.map Row.three = ops.toList.map (Go.Proofs.YtldgnckchlbadaaDoor.rowOf ops)) (hR : reachOk rows = true) (need L0 m : Nat) (K : Act → World → Prop)
    (hK : ∀ listed a w, Closed ops listed → Mirrors ops listed L0 → K a w → wpN P ops Q S need.testBit m listed a w) : ∀ (pre : List Nat) (listed : Array Bool) (L : Nat) (a : Act) (w : World), Closed ops listed → Mirrors ops listed L →
    preOk rows need L0 pre L = true → wpPre P ops Q S K pre a w → wpN P ops Q S need.testBit (pre.length + m) listed a w := by
  intro pre
  induction pre with
  | nil =>
    intro listed L a w hcl hm hok hp
    have : L = L0 := by simpa [preOk] using hok
    subst this
    simpa using hK listed a w hcl hm hp
  | cons i rest ih =>
    intro listed L a w hcl hm hok hp
    simp only [preOk, Bool.and_eq_true] at hok
    obtain ⟨⟨hr, hf⟩, hrest⟩ := hok
    obtain ⟨hr', hlt⟩ := readyB_spec h hm hr
    obtain ⟨o, v, ho, hy, hS, hQ, hw⟩ := hp
    obtain ⟨ri, hri, ei⟩ := row_at h ho
    rw [hri] at hf
    rw [show (i :: rest).length + m = rest.length + m + 1 by simp; omega]
    refine wpN_first ho (Region.noSelect_spec hs) hQ (fun j => match rows[j]? with | some r => r.2.2.2.testBit i | none => false) ?_ (rest.length + m) listed a w hcl ?_ hr' hy hS (ih _ _ _ _ (hcl.set hr') (hm.set hlt) hrest hw)
    · intro listed hc j oj hj hall hwt
      obtain ⟨r, hr, -⟩ := row_at h hj
      simp only [hr] at hwt
      exact reach_listed h hR hc (j + 1) j oj r (by omega) hj hr hall i hwt
    · intro j oj hj hji hun hno
      obtain ⟨r, hr, ej⟩ := row_at h hj
      have h1 := allIx_spec _ rows 0 hf j r hr
      simp only [hr] at hno
      rw [Nat.zero_add, ← (hm.2.1 j (Array.getElem?_eq_some_iff.1 hj).1).1, hun, hno] at h1
      simp only [Bool.or_false, Bool.or_eq_true, beq_iff_eq, Bool.and_eq_true] at h1
      rcases h1 with h1 | h1
      · exact absurd h1 hji
      · exact ⟨apart_of ei ej h1.1, h1.2⟩

/-- The effects that may come in any order: the masks that are met, each with how many are still to come. -/
def invOk (rows : List Row) (need : Nat) (some_ : List Nat) (masks : List (Nat × Nat)) (rest : List (Nat × Bool)) (Lend : Nat) : Bool :=
  masks.all fun x => match x.2 with
    | 0 => x.1 == Lend && fastOk rows need rest x.1
    | n + 1 => some_.any (fun i => readyB rows i x.1) && allIx (fun j r => x.1.testBit j || !within r.2.2.1 x.1 || (some_.contains j && masks.contains (x.1 ||| 1 <<< j, n))) 0 rows

theorem wpN_of_inv (hs : Region.noSelect ops = true) {rows : List Row} (h : rows.map Row.three = ops.toList.map (Go.Proofs.YtldgnckchlbadaaDoor.rowOf ops)) (hR : reachOk rows = true) (need : Nat) (some_ : List Nat) (masks : List (Nat × Nat)) (rest : List (Nat × Bool)) (Lend : Nat)
    (hok : invOk rows need some_ masks rest Lend = true) (Inv : Nat → Act → World → Prop)
    (hstep : ∀ L n i, (L, n + 1) ∈ masks → i ∈ some_ → readyB rows i L = true → ∀ a w, Inv L a w → wpOp P ops Q i (fun a' w' => (need.testBit i = true → S w') ∧ Inv (L ||| 1 <<< i) a' w') a w)
    (hend : ∀ a w, Inv Lend a w → wpPlan P ops Q S need.testBit rest a w) :
    ∀ (n L : Nat) (listed : Array Bool) (a : Act) (w : World), (L, n) ∈ masks → Closed ops listed → Mirrors ops listed L → Inv L a w → wpN P ops Q S need.testBit (n + rest.length) listed a w := by
  intro n
  induction n with
  | zero =>
    intro L listed a w hmem hcl hm hI
    have h1 := List.all_eq_true.1 hok _ hmem
    simp only [Bool.and_eq_true, beq_iff_eq] at h1
    obtain ⟨rfl, h2⟩ := h1
    rw [Nat.zero_add]
    exact wpN_of_fast hs h hR need rest listed _ a w hcl hm h2 (hend a w hI)
  | succ n ih =>
    intro L listed a w hmem hcl hm hI
    have h1 := List.all_eq_true.1 hok _ hmem
    simp only [Bool.and_eq_true] at h1
    obtain ⟨h1, h2⟩ := h1
    rw [show n + 1 + rest.length = n + rest.length + 1 by omega]
    refine ⟨fun h0 => ?_, fun j hj => ?_⟩
    · obtain ⟨i, hi, hr⟩ := List.any_eq_true.1 h1
      have := (readyB_spec h hm hr).1
      rw [h0] at this
      cases this
    · obtain ⟨r, hrj⟩ := ready_row h hj
      have h3 := allIx_spec _ rows 0 h2 j r hrj
      have h4 := (ready_iff h hm hrj).1 hj
      rw [Nat.zero_add, h4.1, h4.2] at h3
      simp only [Bool.not_true, Bool.or_self, Bool.false_or, Bool.and_eq_true, List.contains_iff_mem] at h3
      have hrb : readyB rows j L = true := by simp [readyB, h4.1, hrj, h4.2]
      obtain ⟨hr', hlt⟩ := readyB_spec h hm hrb
      exact wpOp_mono (fun a' w' h' => ⟨h'.1, ih _ _ _ _ h3.2 (hcl.set hr') (hm.set hlt) h'.2⟩) (hstep L n j hmem h3.1 hrb a w hI)

/-- AT A REGION THAT DRAWS. -/
theorem region_inv {id : Nat} {a : Act} {w : World} (free pre : List Nat) (some_ : List Nat) (masks : List (Nat × Nat)) (rest : List (Nat × Bool)) (needs : List Nat) (L0 m Lend need : Nat) (rows : List Row) (S : World → Prop) (Inv : Nat → Act → World → Prop)
    (hN : bitsOf needs = need) (hm : P.follows .mixedOrders = true) (hs : Region.noSelect ops = true) (hz : free.length + (pre.length + (m + rest.length)) = ops.size)
    (hr : rows.map Row.three = ops.toList.map (Go.Proofs.YtldgnckchlbadaaDoor.rowOf ops)) (hok : (reachOk rows && freeOk rows need (preOk rows need L0 pre) free 0 && masks.contains (L0, m) && invOk rows need some_ masks rest Lend) = true) (hS : S w.drew)
    (hpre : S w.drew → wpFree P ops Q (fun a w' => w' = w.drew ∧ wpPre P ops Q S (Inv L0) pre a w') free a w.drew)
    (hstep : ∀ L n i, (L, n + 1) ∈ masks → i ∈ some_ → readyB rows i L = true → ∀ a w, Inv L a w → wpOp P ops Q i (fun a' w' => S w' ∧ Inv (L ||| 1 <<< i) a' w') a w)
    (hend : ∀ a w, Inv Lend a w → wpPlan P ops Q S (fun i => needs.contains i) rest a w) : (Code.region id ops true).wp P Q a w := by
  simp only [Bool.and_eq_true, List.contains_iff_mem] at hok
  have e : (fun i => needs.contains i) = need.testBit := by
    funext i
    rw [← hN, Bool.eq_iff_iff, bitsOf_test]
    simp
  rw [e] at hend
  refine wp_region_any hm (wpAny_of_N _ _ _ _ (hz ▸ wpN_of_frees (S := S) hs hr hok.1.1.1 need (pre.length + (m + rest.length)) (preOk rows need L0 pre) (fun a w' => w' = w.drew ∧ wpPre P ops Q S (Inv L0) pre a w') (fun listed L a w' hcl hmi hk hI => ?_) free _ 0 a w.drew (Closed.start ops) (Mirrors.start ops) hok.1.1.2 (hpre hS)))
  refine wpN_of_pre (S := S) hs hr hok.1.1.1 need L0 (m + rest.length) (Inv L0) (fun listed a w hcl hmi hI => ?_) pre listed L a w' hcl hmi hk hI.2
  exact wpN_of_inv hs hr hok.1.1.1 need some_ masks rest Lend hok.2 Inv (fun L n i h1 h2 h3 a w h4 => wpOp_mono (fun _ _ h' => ⟨fun _ => h'.1, h'.2⟩) (hstep L n i h1 h2 h3 a w h4)) hend m L0 listed a w hok.1.2 hcl hmi hI

/-- AT A REGION THAT DRAWS, the invariant over an act that is found on the way. -/
theorem region_invE {id : Nat} {a : Act} {w : World} (free pre : List Nat) (some_ : List Nat) (masks : List (Nat × Nat)) (rest : List (Nat × Bool)) (needs : List Nat) (L0 m Lend need : Nat) (rows : List Row) (S : World → Prop) (Inv : Act → Nat → Act → World → Prop)
    (hN : bitsOf needs = need) (hm : P.follows .mixedOrders = true) (hs : Region.noSelect ops = true) (hz : free.length + (pre.length + (m + rest.length)) = ops.size)
    (hr : rows.map Row.three = ops.toList.map (Go.Proofs.YtldgnckchlbadaaDoor.rowOf ops)) (hok : (reachOk rows && freeOk rows need (preOk rows need L0 pre) free 0 && masks.contains (L0, m) && invOk rows need some_ masks rest Lend) = true) (hS : S w.drew)
    (h : ∃ A0, (S w.drew → wpFree P ops Q (fun a w' => w' = w.drew ∧ wpPre P ops Q S (Inv A0 L0) pre a w') free a w.drew) ∧
      (∀ L n i, (L, n + 1) ∈ masks → i ∈ some_ → readyB rows i L = true → ∀ a w, Inv A0 L a w → wpOp P ops Q i (fun a' w' => S w' ∧ Inv A0 (L ||| 1 <<< i) a' w') a w) ∧
      ∀ a w, Inv A0 Lend a w → wpPlan P ops Q S (fun i => needs.contains i) rest a w) : (Code.region id ops true).wp P Q a w := by
  obtain ⟨A0, h1, h2, h3⟩ := h
  exact region_inv free pre some_ masks rest needs L0 m Lend need rows S (Inv A0) hN hm hs hz hr hok hS h1 h2 h3

/-! ### The moves -/
theorem free_nil {K : Act → World → Prop} {a : Act} {w : World} (h : K a w) : wpFree P ops Q K [] a w := h
theorem free_read {K : Act → World → Prop} {i : Nat} {o : Oper} {v : Value} {rest : List Nat} {a : Act} {w : World} (ho : ops.toList[i]? = some o) (hQ : ∀ c a w, Q (.panic c) (a.put o.dst v) w → Q (.panic c) a w)
    (hg : Region.wanted o (yielded ops a.tmps) = true) (hy : ∀ w, (execOp a.eval o).run P w = .ok (.value v) w) (h : wpFree P ops Q K rest (a.put o.dst v) w) : wpFree P ops Q K (i :: rest) a w :=
  ⟨o, v, at_list ho, .inl ⟨hg, fun w _ => hy w⟩, hQ, h⟩
theorem pre_nil {K : Act → World → Prop} {a : Act} {w : World} (h : K a w) : wpPre P ops Q S K [] a w := h
theorem pre_read {K : Act → World → Prop} {i : Nat} {o : Oper} {v : Value} {rest : List Nat} {a : Act} {w : World} (ho : ops.toList[i]? = some o) (hQ : ∀ c a w, Q (.panic c) (a.put o.dst v) w → Q (.panic c) a w)
    (hg : Region.wanted o (yielded ops a.tmps) = true) (hS : S w) (hy : ∀ w, S w → (execOp a.eval o).run P w = .ok (.value v) w) (h : wpPre P ops Q S K rest (a.put o.dst v) w) : wpPre P ops Q S K (i :: rest) a w :=
  ⟨o, v, at_list ho, .inl ⟨hg, hy⟩, hS, hQ, h⟩
theorem pre_skip {K : Act → World → Prop} {i : Nat} {o : Oper} {rest : List Nat} {a : Act} {w : World} (ho : ops.toList[i]? = some o) (hQ : ∀ c a w, Q (.panic c) (a.put o.dst undef) w → Q (.panic c) a w)
    (hg : Region.wanted o (yielded ops a.tmps) = false) (hS : S w) (h : wpPre P ops Q S K rest (a.put o.dst undef) w) : wpPre P ops Q S K (i :: rest) a w :=
  ⟨o, undef, at_list ho, .inr ⟨hg, rfl⟩, hS, hQ, h⟩
theorem inv_do {R : Act → World → Prop} {i : Nat} {o : Oper} {a : Act} {w : World} (ho : ops.toList[i]? = some o) (hg : Region.wanted o (yielded ops a.tmps) = true)
    (h : ∀ K : Act → World → Prop, Shut (∀ a w, R a w → K a w) → o.wp P a w K Q) : wpOp P ops Q i R a w := by
  refine wpOp_step (at_list ho) (fun K' hK => ?_)
  rw [if_pos hg]
  exact h K' hK
end

/-- Of pairs (i, j), j behind i: what is known of a mask where one of them is ready. -/
def pairsOk (rows : List Row) (masks : List (Nat × Nat)) (pairs : List (Nat × Nat)) : Bool :=
  masks.all fun x => pairs.all fun p => (!readyB rows p.1 x.1 || (!x.1.testBit p.1 && !x.1.testBit p.2)) && (!readyB rows p.2 x.1 || (x.1.testBit p.1 && !x.1.testBit p.2))
theorem pairs_one {rows : List Row} {masks pairs : List (Nat × Nat)} (h : pairsOk rows masks pairs = true) {L n i j : Nat} (hm : (L, n) ∈ masks) (hp : (i, j) ∈ pairs) (hr : readyB rows i L = true) : L.testBit i = false ∧ L.testBit j = false := by
  have h1 := List.all_eq_true.1 (List.all_eq_true.1 h _ hm) _ hp
  simp only [hr, Bool.not_true, Bool.false_or, Bool.and_eq_true, Bool.not_eq_true'] at h1
  exact h1.1
theorem pairs_two {rows : List Row} {masks pairs : List (Nat × Nat)} (h : pairsOk rows masks pairs = true) {L n i j : Nat} (hm : (L, n) ∈ masks) (hp : (i, j) ∈ pairs) (hr : readyB rows j L = true) : L.testBit i = true ∧ L.testBit j = false := by
  have h1 := List.all_eq_true.1 (List.all_eq_true.1 h _ hm) _ hp
  simp only [hr, Bool.not_true, Bool.false_or, Bool.and_eq_true, Bool.not_eq_true'] at h1
  exact h1.2
end Go.Proofs.YtldgnckchlbadaaDoor

namespace Go.Proofs.YtldgnckchlbadaaDoor
set_option maxRecDepth 4000

section
variable {P : Program} {ops : Array Oper} {Q : Exit → Act → World → Prop} {S : World → Prop} {need : Nat → Bool}
theorem region_free {id : Nat} {a : Act} {w : World} (free : List Nat) (plan : List (Nat × Bool)) (needs : List Nat) (need : Nat) (rows : List Row) (S : World → Prop)
    (hN : bitsOf needs = need) (hm : P.follows .mixedOrders = true) (hs : Region.noSelect ops = true) (hz : free.length + plan.length = ops.size)
    (hr : rows.map Row.three = ops.toList.map (Go.Proofs.YtldgnckchlbadaaDoor.rowOf ops)) (hok : (reachOk rows && freeOk rows need (fastOk rows need plan) free 0) = true) (hS : S w.drew)
    (h : S w.drew → wpFree P ops Q (fun a w' => w' = w.drew → wpPlan P ops Q S (fun i => needs.contains i) plan a w.drew) free a w.drew) : (Code.region id ops true).wp P Q a w := by
  simp only [Bool.and_eq_true] at hok
  have e : (fun i => needs.contains i) = need.testBit := by
    funext i
    rw [← hN, Bool.eq_iff_iff, bitsOf_test]
    simp
  rw [e] at h
  have hw : ∀ (l : List Nat) (K : Act → World → Prop) (a : Act) (w' : World), wpFree P ops Q (fun a v => v = w' → K a v) l a w' → wpFree P ops Q K l a w' := by
    intro l K
    induction l with
    | nil => intro a w' h; exact h rfl
    | cons i l ih => intro a w' h; obtain ⟨o, v, h1, h2, h3, h4⟩ := h; exact ⟨o, v, h1, h2, h3, ih _ _ h4⟩
  refine wp_region_any hm (wpAny_of_N _ _ _ _ (hz ▸ wpN_of_frees (S := S) hs hr hok.1 need plan.length (fastOk rows need plan) (wpPlan P ops Q S need.testBit plan) (fun listed L a w' hcl hmi hk hI => ?_) free _ 0 a w.drew (Closed.start ops) (Mirrors.start ops) hok.2 (hw _ _ _ _ ?_)))
  · exact wpN_of_fast hs hr hok.1 need plan listed L a w' hcl hmi hk hI
  · refine cast ?_ (h hS)
    congr 1
    funext a v
    apply propext
    constructor
    · intro h e; subst e; exact h rfl
    · intro h e; subst e; exact h rfl
end
end Go.Proofs.YtldgnckchlbadaaDoor
