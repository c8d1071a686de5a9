/-
  A region that draws its order and in which several effects may be ready at once: first what reads alone, then an invariant over the effects' order, then a plan.
-/
import Derived.Test.YtaapdkeipknilaaRegion
namespace Go.Proofs.Ytaapdkeipknilaa
set_option maxRecDepth 4000

section
variable {P : Program} {ops : Array Oper} {Q : Exit → Act → World → Prop} {S : World → Prop} {need : Nat → Bool}

/-- What reads alone, ahead. -/
def wpPre (P : Program) (ops : Array Oper) (Q : Exit → Act → World → Prop) (S : World → Prop) (K : Act → World → Prop) : List Nat → Act → World → Prop
  | [], a, w => K a w
  | i :: rest, a, w => ∃ o v, ops[i]? = some o ∧ YieldsIf P ops S o v a ∧ S w ∧ (∀ c a w, Q (.panic c) (a.put o.dst v) w → Q (.panic c) a w) ∧ wpPre P ops Q S K rest (a.put o.dst v) w

/-- What reads alone and nothing of the memory, ahead of all. -/
theorem wpN_free {i : Nat} {oi : Oper} {v : Value} (hi : ops[i]? = some oi) (hsel : ∀ (j : Nat) (o : Oper) cs b, ops[j]? = some o → o.op ≠ .select cs b) (hn : need i = false)
    (hQ : ∀ c a w, Q (.panic c) (a.put oi.dst v) w → Q (.panic c) a w) (wt : Nat → Bool)
    (hwt : ∀ listed, Closed ops listed → ∀ j oj, ops[j]? = some oj → (∀ e ∈ oj.after, Region.binds .any e = true → listed.getD e.on false = true) → wt j = true → listed.getD i false = true) :
    ∀ (fuel : Nat) (listed : Array Bool) (a : Act) (w : World), Closed ops listed →
      (∀ j oj, ops[j]? = some oj → j ≠ i → listed.getD j true = false → wt j = false → oi.apart ops oj = true) →
      i ∈ Region.ready .any ops listed → YieldsIf P ops (fun _ => True) oi v a →
      wpN P ops Q S need fuel (listed.setIfInBounds i true) (a.put oi.dst v) w → wpN P ops Q S need (fuel + 1) listed a w := by
  intro fuel
  induction fuel with
  | zero =>
    intro listed a w _ _ hr hy H
    refine ⟨fun h => (by rw [h] at hr; cases hr), fun j hj => ?_⟩
    by_cases hji : j = i
    · subst hji; exact hy.wpOp hi trivial ⟨fun h => (by rw [hn] at h; cases h), H⟩
    · have := ready_mono hj hji
      rw [H.1] at this
      cases this
  | succ fuel ih =>
    intro listed a w hcl hfree hr hy H
    refine ⟨fun h => (by rw [h] at hr; cases hr), fun j hj => ?_⟩
    by_cases hji : j = i
    · subst hji; exact hy.wpOp hi trivial ⟨fun h => (by rw [hn] at h; cases h), H⟩
    · have h1 := H.2 j (ready_mono hj hji)
      obtain ⟨hjun, oj, hoj, hall⟩ := mem_ready.1 hj
      have hiun := getD_both (mem_ready.1 hr).1
      have hnot : wt j = false := by
        cases hw : wt j with
        | false => rfl
        | true =>
          have := hwt _ hcl j oj hoj hall hw
          rw [hiun] at this
          cases this
      have hap := hfree j oj hoj hji hjun hnot
      have h2 := wpOp_putIf hoj hap (fun cs b => hsel i oi cs b hi) (fun cs b => hsel j oj cs b hoj) hQ hy h1
      have hfree' : ∀ k ok, ops[k]? = some ok → k ≠ i → (listed.setIfInBounds j true).getD k true = false → wt k = false → oi.apart ops ok = true := fun k ok hk hki hun h => by
        refine hfree k ok hk hki ?_ h
        by_cases hjk : j = k
        · subst hjk; exact hjun
        · rw [getD_set_ne true hjk] at hun; exact hun
      refine wpOp_mono (fun a' w' h3 => ⟨h3.2.1, ih (listed.setIfInBounds j true) a' w' (hcl.set hj) hfree' (ready_mono hr (Ne.symm hji)) h3.1 ?_⟩) h2
      rw [Array.setIfInBounds_comm _ _ hji]
      exact h3.2.2

def wpFree (P : Program) (ops : Array Oper) (Q : Exit → Act → World → Prop) (K : Act → World → Prop) : List Nat → Act → World → Prop
  | [], a, w => K a w
  | i :: rest, a, w => ∃ o v, ops[i]? = some o ∧ YieldsIf P ops (fun _ => True) o v a ∧ (∀ c a w, Q (.panic c) (a.put o.dst v) w → Q (.panic c) a w) ∧ wpFree P ops Q K rest (a.put o.dst v) w
def freeOk (rows : List Row) (need : Nat) (k : Nat → Bool) : List Nat → Nat → Bool
  | [], L => k L
  | i :: rest, L => readyB rows i L && !need.testBit i && (match rows[i]? with
      | some ri => allIx (fun j r => j == i || L.testBit j || r.2.2.2.testBit i || apartB ri r) 0 rows
      | none => false) && freeOk rows need k rest (L ||| 1 <<< i)
theorem wpN_of_frees (hs : Region.noSelect ops = true) {rows : List Row} (h : rows.map Row.three = ops.toList.map (Go.Proofs.Ytaapdkeipknilaa.rowOf ops)) (hR : reachOk rows = true) (need m : Nat) (k : Nat → Bool) (K : Act → World → Prop)
    (hK : ∀ listed L a w, Closed ops listed → Mirrors ops listed L → k L = true → K a w → wpN P ops Q S need.testBit m listed a w) : ∀ (pre : List Nat) (listed : Array Bool) (L : Nat) (a : Act) (w : World), Closed ops listed → Mirrors ops listed L →
    freeOk rows need k pre L = true → wpFree P ops Q K pre a w → wpN P ops Q S need.testBit (pre.length + m) listed a w := by
  intro pre
  induction pre with
  | nil =>
    intro listed L a w hcl hm hok hp
    simpa using hK listed L a w hcl hm hok hp
  | cons i rest ih =>
    intro listed L a w hcl hm hok hp
    simp only [freeOk, Bool.and_eq_true, Bool.not_eq_true'] at hok
    obtain ⟨⟨⟨hr, hn⟩, hf⟩, hrest⟩ := hok
    obtain ⟨hr', hlt⟩ := readyB_spec h hm hr
    obtain ⟨o, v, ho, hy, hQ, hw⟩ := hp
    obtain ⟨ri, hri, ei⟩ := row_at h ho
    rw [hri] at hf
    rw [show (i :: rest).length + m = rest.length + m + 1 by simp; omega]
    refine wpN_free ho (Region.noSelect_spec hs) hn hQ (fun j => match rows[j]? with | some r => r.2.2.2.testBit i | none => false) ?_ (rest.length + m) listed a w hcl ?_ hr' hy (ih _ _ _ _ (hcl.set hr') (hm.set hlt) hrest hw)
    · intro listed hc j oj hj hall hwt
      obtain ⟨r, hr, -⟩ := row_at h hj
      simp only [hr] at hwt
      exact reach_listed h hR hc (j + 1) j oj r (by omega) hj hr hall i hwt
    · intro j oj hj hji hun hno
      obtain ⟨r, hr, ej⟩ := row_at h hj
      have h1 := allIx_spec _ rows 0 hf j r hr
      simp only [hr] at hno
      rw [Nat.zero_add, ← (hm.2.1 j (Array.getElem?_eq_some_iff.1 hj).1).1, hun, hno] at h1
      simp only [Bool.or_false, Bool.or_eq_true, beq_iff_eq] at h1
      rcases h1 with h1 | h1
      · exact absurd h1 hji
      · exact apart_of ei ej h1

def preOk (rows : List Row) (need : Nat) (L0 : Nat) : List Nat → Nat → Bool
  | [], L => L == L0
  | i :: rest, L => readyB rows i L && (match rows[i]? with
      | some ri => allIx (fun j r => j == i || L.testBit j || r.2.2.2.testBit i || (apartB ri r && need.testBit j)) 0 rows
      | none => false) && preOk rows need L0 rest (L ||| 1 <<< i)

theorem wpN_of_pre (hs : Region.noSelect ops = true) {rows : List Row} (h : rows.map Row.three = ops.toList.map (Go.Proofs.Ytaapdkeipknilaa.rowOf ops)) (hR : reachOk rows = true) (need L0 m : Nat) (K : Act → World → Prop)
    (hK : ∀ listed a w, Closed ops listed → Mirrors ops listed L0 → K a w → wpN P ops Q S need.testBit m listed a w) : ∀ (pre : List Nat) (listed : Array Bool) (L : Nat) (a : Act) (w : World), Closed ops listed → Mirrors ops listed L →
    preOk rows need L0 pre L = true → wpPre P ops Q S K pre a w → wpN P ops Q S need.testBit (pre.length + m) listed a w := by
  intro pre
  induction pre with
  | nil =>
    intro listed L a w hcl hm hok hp
    have : L = L0 := by simpa [preOk] using hok
    subst this
    simpa using hK listed a w hcl hm hp
  | cons i rest ih =>
    intro listed L a w hcl hm hok hp
    simp only [preOk, Bool.and_eq_true] at hok
    obtain ⟨⟨hr, hf⟩, hrest⟩ := hok
    obtain ⟨hr', hlt⟩ := readyB_spec h hm hr
    obtain ⟨o, v, ho, hy, hS, hQ, hw⟩ := hp
    obtain ⟨ri, hri, ei⟩ := row_at h ho
    rw [hri] at hf
    rw [show (i :: rest).length + m = rest.length + m + 1 by simp; omega]
    refine wpN_first ho (Region.noSelect_spec hs) hQ (fun j => match rows[j]? with | some r => r.2.2.2.testBit i | none => false) ?_ (rest.length + m) listed a w hcl ?_ hr' hy hS (ih _ _ _ _ (hcl.set hr') (hm.set hlt) hrest hw)
    · intro listed hc j oj hj hall hwt
      obtain ⟨r, hr, -⟩ := row_at h hj
      simp only [hr] at hwt
      exact reach_listed h hR hc (j + 1) j oj r (by omega) hj hr hall i hwt
    · intro j oj hj hji hun hno
      obtain ⟨r, hr, ej⟩ := row_at h hj
      have h1 := allIx_spec _ rows 0 hf j r hr
      simp only [hr] at hno
      rw [Nat.zero_add, ← (hm.2.1 j (Array.getElem?_eq_some_iff.1 hj).1).1, hun, hno] at h1
      simp only [Bool.or_false, Bool.or_eq_true, beq_iff_eq, Bool.and_eq_true] at h1
      rcases h1 with h1 | h1
      · exact absurd h1 hji
      · exact ⟨apart_of ei ej h1.1, h1.2⟩

/-- The effects that may come in any order: the masks that are met, each with how many are still to come. -/
def invOk (rows : List Row) (need : Nat) (some_ : List Nat) (masks : List (Nat × Nat)) (rest : List (Nat × Bool)) (Lend : Nat) : Bool :=
  masks.all fun x => match x.2 with
    | 0 => x.1 == Lend && fastOk rows need rest x.1
    | n + 1 => some_.any (fun i => readyB rows i x.1) && allIx (fun j r => x.1.testBit j || !within r.2.2.1 x.1 || (some_.contains j && masks.contains (x.1 ||| 1 <<< j, n))) 0 rows

theorem wpN_of_inv (hs : Region.noSelect ops = true) {rows : List Row} (h : rows.map Row.three = ops.toList.map (Go.Proofs.Ytaapdkeipknilaa.rowOf ops)) (hR : reachOk rows = true) (need : Nat) (some_ : List Nat) (masks : List (Nat × Nat)) (rest : List (Nat × Bool)) (Lend : Nat)
    (hok : invOk rows need some_ masks rest Lend = true) (Inv : Nat → Act → World → Prop)
    (hstep : ∀ L n i, (L, n + 1) ∈ masks → i ∈ some_ → readyB rows i L = true → ∀ a w, Inv L a w → wpOp P ops Q i (fun a' w' => (need.testBit i = true → S w') ∧ Inv (L ||| 1 <<< i) a' w') a w)
    (hend : ∀ a w, Inv Lend a w → wpPlan P ops Q S need.testBit rest a w) :
    ∀ (n L : Nat) (listed : Array Bool) (a : Act) (w : World), (L, n) ∈ masks → Closed ops listed → Mirrors ops listed L → Inv L a w → wpN P ops Q S need.testBit (n + rest.length) listed a w := by
  intro n
  induction n with
  | zero =>
    intro L listed a w hmem hcl hm hI
    have h1 := List.all_eq_true.1 hok _ hmem
    simp only [Bool.and_eq_true, beq_iff_eq] at h1
    obtain ⟨rfl, h2⟩ := h1
    rw [Nat.zero_add]
    exact wpN_of_fast hs h hR need rest listed _ a w hcl hm h2 (hend a w hI)
  | succ n ih =>
    intro L listed a w hmem hcl hm hI
    have h1 := List.all_eq_true.1 hok _ hmem
    simp only [Bool.and_eq_true] at h1
    obtain ⟨h1, h2⟩ := h1
    rw [show n + 1 + rest.length = n + rest.length + 1 by omega]
    refine ⟨fun h0 => ?_, fun j hj => ?_⟩
    · obtain ⟨i, hi, hr⟩ := List.any_eq_true.1 h1
      have := (readyB_spec h hm hr).1
      rw [h0] at this
      cases this
    · obtain ⟨r, hrj⟩ := ready_row h hj
      have h3 := allIx_spec _ rows 0 h2 j r hrj
      have h4 := (ready_iff h hm hrj).1 hj
      rw [Nat.zero_add, h4.1, h4.2] at h3
      simp only [Bool.not_true, Bool.or_self, Bool.false_or, Bool.and_eq_true, List.contains_iff_mem] at h3
      have hrb : readyB rows j L = true := by simp [readyB, h4.1, hrj, h4.2]
      obtain ⟨hr', hlt⟩ := readyB_spec h hm hrb
      exact wpOp_mono (fun a' w' h' => ⟨h'.1, ih _ _ _ _ h3.2 (hcl.set hr') (hm.set hlt) h'.2⟩) (hstep L n j hmem h3.1 hrb a w hI)

/-- AT A REGION THAT DRAWS. -/
theorem region_inv {id : Nat} {a : Act} {w : World} (free pre : List Nat) (some_ : List Nat) (masks : List (Nat × Nat)) (rest : List (Nat × Bool)) (needs : List Nat) (L0 m Lend need : Nat) (rows : List Row) (S : World → Prop) (Inv : Nat → Act → World → Prop)
    (hN : bitsOf needs = need) (hm : P.follows .mixedOrders = true) (hs : Region.noSelect ops = true) (hz : free.length + (pre.length + (m + rest.length)) = ops.size)
    (hr : rows.map Row.three = ops.toList.map (Go.Proofs.Ytaapdkeipknilaa.rowOf ops)) (hok : (reachOk rows && freeOk rows need (preOk rows need L0 pre) free 0 && masks.contains (L0, m) && invOk rows need some_ masks rest Lend) = true) (hS : S w.drew)
    (hpre : S w.drew → wpFree P ops Q (fun a w' => w' = w.drew ∧ wpPre P ops Q S (Inv L0) pre a w') free a w.drew)
    (hstep : ∀ L n i, (L, n + 1) ∈ masks → i ∈ some_ → readyB rows i L = true → ∀ a w, Inv L a w → wpOp P ops Q i (fun a' w' => S w' ∧ Inv (L ||| 1 <<< i) a' w') a w)
    (hend : ∀ a w, Inv Lend a w → wpPlan P ops Q S (fun i => needs.contains i) rest a w) : (Code.region id ops true).wp P Q a w := by
  simp only [Bool.and_eq_true, List.contains_iff_mem] at hok
  have e : (fun i => needs.contains i) = need.testBit := by
    funext i
    rw [← hN, Bool.eq_iff_iff, bitsOf_test]
    simp
  rw [e] at hend
  refine wp_region_any hm (wpAny_of_N _ _ _ _ (hz ▸ wpN_of_frees (S := S) hs hr hok.1.1.1 need (pre.length + (m + rest.length)) (preOk rows need L0 pre) (fun a w' => w' = w.drew ∧ wpPre P ops Q S (Inv L0) pre a w') (fun listed L a w' hcl hmi hk hI => ?_) free _ 0 a w.drew (Closed.start ops) (Mirrors.start ops) hok.1.1.2 (hpre hS)))
  refine wpN_of_pre (S := S) hs hr hok.1.1.1 need L0 (m + rest.length) (Inv L0) (fun listed a w hcl hmi hI => ?_) pre listed L a w' hcl hmi hk hI.2
  exact wpN_of_inv hs hr hok.1.1.1 need some_ masks rest Lend hok.2 Inv (fun L n i h1 h2 h3 a w h4 => wpOp_mono (fun _ _ h' => ⟨fun _ => h'.1, h'.2⟩) (hstep L n i h1 h2 h3 a w h4)) hend m L0 listed a w hok.1.2 hcl hmi hI

/-- AT A REGION THAT DRAWS, the invariant over an act that is found on the way. -/
theorem region_invE {id : Nat} {a : Act} {w : World} (free pre : List Nat) (some_ : List Nat) (masks : List (Nat × Nat)) (rest : List (Nat × Bool)) (needs : List Nat) (L0 m Lend need : Nat) (rows : List Row) (S : World → Prop) (Inv : Act → Nat → Act → World → Prop)
    (hN : bitsOf needs = need) (hm : P.follows .mixedOrders = true) (hs : Region.noSelect ops = true) (hz : free.length + (pre.length + (m + rest.length)) = ops.size)
    (hr : rows.map Row.three = ops.toList.map (Go.Proofs.Ytaapdkeipknilaa.rowOf ops)) (hok : (reachOk rows && freeOk rows need (preOk rows need L0 pre) free 0 && masks.contains (L0, m) && invOk rows need some_ masks rest Lend) = true) (hS : S w.drew)
    (h : ∃ A0, (S w.drew → wpFree P ops Q (fun a w' => w' = w.drew ∧ wpPre P ops Q S (Inv A0 L0) pre a w') free a w.drew) ∧
      (∀ L n i, (L, n + 1) ∈ masks → i ∈ some_ → readyB rows i L = true → ∀ a w, Inv A0 L a w → wpOp P ops Q i (fun a' w' => S w' ∧ Inv A0 (L ||| 1 <<< i) a' w') a w) ∧
      ∀ a w, Inv A0 Lend a w → wpPlan P ops Q S (fun i => needs.contains i) rest a w) : (Code.region id ops true).wp P Q a w := by
  obtain ⟨A0, h1, h2, h3⟩ := h
  exact region_inv free pre some_ masks rest needs L0 m Lend need rows S (Inv A0) hN hm hs hz hr hok hS h1 h2 h3

/-! ### The moves -/
theorem free_nil {K : Act → World → Prop} {a : Act} {w : World} (h : K a w) : wpFree P ops Q K [] a w := h
theorem free_read {K : Act → World → Prop} {i : Nat} {o : Oper} {v : Value} {rest : List Nat} {a : Act} {w : World} (ho : ops.toList[i]? = some o) (hQ : ∀ c a w, Q (.panic c) (a.put o.dst v) w → Q (.panic c) a w)
    (hg : Region.wanted o (yielded ops a.tmps) = true) (hy : ∀ w, (execOp a.eval o).run P w = .ok (.value v) w) (h : wpFree P ops Q K rest (a.put o.dst v) w) : wpFree P ops Q K (i :: rest) a w :=
  ⟨o, v, at_list ho, .inl ⟨hg, fun w _ => hy w⟩, hQ, h⟩
theorem pre_nil {K : Act → World → Prop} {a : Act} {w : World} (h : K a w) : wpPre P ops Q S K [] a w := h
theorem pre_read {K : Act → World → Prop} {i : Nat} {o : Oper} {v : Value} {rest : List Nat} {a : Act} {w : World} (ho : ops.toList[i]? = some o) (hQ : ∀ c a w, Q (.panic c) (a.put o.dst v) w → Q (.panic c) a w)
    (hg : Region.wanted o (yielded ops a.tmps) = true) (hS : S w) (hy : ∀ w, S w → (execOp a.eval o).run P w = .ok (.value v) w) (h : wpPre P ops Q S K rest (a.put o.dst v) w) : wpPre P ops Q S K (i :: rest) a w :=
  ⟨o, v, at_list ho, .inl ⟨hg, hy⟩, hS, hQ, h⟩
theorem pre_skip {K : Act → World → Prop} {i : Nat} {o : Oper} {rest : List Nat} {a : Act} {w : World} (ho : ops.toList[i]? = some o) (hQ : ∀ c a w, Q (.panic c) (a.put o.dst undef) w → Q (.panic c) a w)
    (hg : Region.wanted o (yielded ops a.tmps) = false) (hS : S w) (h : wpPre P ops Q S K rest (a.put o.dst undef) w) : wpPre P ops Q S K (i :: rest) a w :=
  ⟨o, undef, at_list ho, .inr ⟨hg, rfl⟩, hS, hQ, h⟩
theorem inv_do {R : Act → World → Prop} {i : Nat} {o : Oper} {a : Act} {w : World} (ho : ops.toList[i]? = some o) (hg : Region.wanted o (yielded ops a.tmps) = true)
    (h : ∀ K : Act → World → Prop, Shut (∀ a w, R a w → K a w) → o.wp P a w K Q) : wpOp P ops Q i R a w := by
  refine wpOp_step (at_list ho) (fun K' hK => ?_)
  rw [if_pos hg]
  exact h K' hK
end

/-- Of pairs (i, j), j behind i: what is known of a mask where one of them is ready. -/
def pairsOk (rows : List Row) (masks : List (Nat × Nat)) (pairs : List (Nat × Nat)) : Bool :=
  masks.all fun x => pairs.all fun p => (!readyB rows p.1 x.1 || (!x.1.testBit p.1 && !x.1.testBit p.2)) && (!readyB rows p.2 x.1 || (x.1.testBit p.1 && !x.1.testBit p.2))
theorem pairs_one {rows : List Row} {masks pairs : List (Nat × Nat)} (h : pairsOk rows masks pairs = true) {L n i j : Nat} (hm : (L, n) ∈ masks) (hp : (i, j) ∈ pairs) (hr : readyB rows i L = true) : L.testBit i = false ∧ L.testBit j = false := by
  have h1 := List.all_eq_true.1 (List.all_eq_true.1 h _ hm) _ hp
  simp only [hr, Bool.not_true, Bool.false_or, Bool.and_eq_true, Bool.not_eq_true'] at h1
  exact h1.1
theorem pairs_two {rows : List Row} {masks pairs : List (Nat × Nat)} (h : pairsOk rows masks pairs = true) {L n i j : Nat} (hm : (L, n) ∈ masks) (hp : (i, j) ∈ pairs) (hr : readyB rows j L = true) : L.testBit i = true ∧ L.testBit j = false := by
  have h1 := List.all_eq_true.1 (List.all_eq_true.1 h _ hm) _ hp
  simp only [hr, Bool.not_true, Bool.false_or, Bool.and_eq_true, Bool.not_eq_true'] at h1
  exact h1.2
end Go.Proofs.Ytaapdkeipknilaa
