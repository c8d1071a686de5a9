/-
  A region that draws its order and in which several effects may be ready at once: first what reads alone, then an invariant over the effects' order, then a plan.
  A region that draws its order: what reads alone and nothing of the memory comes ahead, then a plan.
  Flush, of a log whose disk is on.
-/
import Derived.Test.YtkgaeoeibjoljaaGreatDoorGA
import Derived.Test.YtkgaeoeibjoljaaGreatDoorGN
namespace Go.Proofs.YtkgaeoeibjoljaaGreatDoor
section
set_option maxRecDepth 4000
section
variable {P : Program} {ops : Array Oper} {Q : Exit -> Act -> World -> Prop} {S : World -> Prop} {need : Nat -> Bool}
def wpPre (P : Program) (ops : Array Oper) (Q : Exit -> Act -> World -> Prop) (S : World -> Prop) (K : Act -> World -> Prop) : List Nat -> Act -> World -> Prop
 | [], a, w => K a w
 | i :: rest, a, w => ∃ o v, ops[i]? = some o /\ YieldsIf P ops S o v a /\ S w /\ (∀ c a w, Q (.panic c) (a.put o.dst v) w -> Q (.panic c) a w) /\ wpPre P ops Q S K rest (a.put o.dst v) w
theorem wpN_free {i : Nat} {oi : Oper} {v : Value} (hi : ops[i]? = some oi) (hsel : ∀ (j : Nat) (o : Oper) cs b, ops[j]? = some o -> o.op ≠ .select cs b) (hn : need i = false)
  (hQ : ∀ c a w, Q (.panic c) (a.put oi.dst v) w -> Q (.panic c) a w) (wt : Nat -> Bool)
  (hwt : ∀ listed, Closed ops listed -> ∀ j oj, ops[j]? = some oj -> (∀ e ∈ oj.after, Region.binds .any e = true -> listed.getD e.on false = true) -> wt j = true -> listed.getD i false = true) :
  ∀ (fuel : Nat) (listed : Array Bool) (a : Act) (w : World), Closed ops listed ->
   (∀ j oj, ops[j]? = some oj -> j ≠ i -> listed.getD j true = false -> wt j = false -> oi.apart ops oj = true) ->
   i ∈ Region.ready .any ops listed -> YieldsIf P ops (fun _ => True) oi v a ->
   wpN P ops Q S need fuel (listed.setIfInBounds i true) (a.put oi.dst v) w -> wpN P ops Q S need (fuel + 1) listed a w := by
 intro fuel
 induction fuel with
 | zero =>
  intro listed a w _ _ hr hy H
  refine ⟨fun h => (by rw [h] at hr; cases hr), fun j hj => ?_⟩
  by_cases hji : j = i
  ·subst hji; exact hy.wpOp hi trivial ⟨fun h => (by rw [hn] at h; cases h), H⟩
  ·have := ready_mono hj hji
   rw [H.1] at this
   cases this
 | succ fuel ih =>
  intro listed a w hcl hfree hr hy H
  refine ⟨fun h => (by rw [h] at hr; cases hr), fun j hj => ?_⟩
  by_cases hji : j = i
  ·subst hji; exact hy.wpOp hi trivial ⟨fun h => (by rw [hn] at h; cases h), H⟩
  ·have h1 := H.2 j (ready_mono hj hji)
   obtain ⟨hjun, oj, hoj, hall⟩ := mem_ready.1 hj
   have hiun := getD_both (mem_ready.1 hr).1
   have hnot : wt j = false := by
    cases hw : wt j with
    | false => rfl
    | true =>
     have := hwt _ hcl j oj hoj hall hw
     rw [hiun] at this
     cases this
   have hap := hfree j oj hoj hji hjun hnot
   have h2 := wpOp_putIf hoj hap (fun cs b => hsel i oi cs b hi) (fun cs b => hsel j oj cs b hoj) hQ hy h1
   have hfree' : ∀ k ok, ops[k]? = some ok -> k ≠ i -> (listed.setIfInBounds j true).getD k true = false -> wt k = false -> oi.apart ops ok = true := fun k ok hk hki hun h => by
    refine hfree k ok hk hki ?_ h
    by_cases hjk : j = k
    ·subst hjk; exact hjun
    ·rw [getD_set_ne true hjk] at hun; exact hun
   refine wpOp_mono (fun a' w' h3 => ⟨h3.2.1, ih (listed.setIfInBounds j true) a' w' (hcl.set hj) hfree' (ready_mono hr (Ne.symm hji)) h3.1 ?_⟩) h2
   rw [Array.setIfInBounds_comm _ _ hji]
   exact h3.2.2
def wpFree (P : Program) (ops : Array Oper) (Q : Exit -> Act -> World -> Prop) (K : Act -> World -> Prop) : List Nat -> Act -> World -> Prop
 | [], a, w => K a w
 | i :: rest, a, w => ∃ o v, ops[i]? = some o /\ YieldsIf P ops (fun _ => True) o v a /\ (∀ c a w, Q (.panic c) (a.put o.dst v) w -> Q (.panic c) a w) /\ wpFree P ops Q K rest (a.put o.dst v) w
def freeOk (rows : List Row) (need : Nat) (k : Nat -> Bool) : List Nat -> Nat -> Bool
 | [], L => k L
 | i :: rest, L => readyB rows i L && !need.testBit i && (match rows[i]? with
   | some ri => allIx (fun j r => j == i || L.testBit j || r.2.2.2.testBit i || apartB ri r) 0 rows
   | none => false) && freeOk rows need k rest (L ||| 1 <<< i)
theorem wpN_of_frees (hs : Region.noSelect ops = true) {rows : List Row} (h : rows.map Row.three = ops.toList.map (Go.Proofs.YtkgaeoeibjoljaaGreatDoor.rowOf ops)) (hR : reachOk rows = true) (need m : Nat) (k : Nat -> Bool) (K : Act -> World -> Prop)
  (hK : ∀ listed L a w, Closed ops listed -> Mirrors ops listed L -> k L = true -> K a w -> wpN P ops Q S need.testBit m listed a w) : ∀ (pre : List Nat) (listed : Array Bool) (L : Nat) (a : Act) (w : World), Closed ops listed -> Mirrors ops listed L ->
  freeOk rows need k pre L = true -> wpFree P ops Q K pre a w -> wpN P ops Q S need.testBit (pre.length + m) listed a w := by
 intro pre
 induction pre with
 | nil =>
  intro listed L a w hcl hm hok hp
  simpa using hK listed L a w hcl hm hok hp
 | cons i rest ih =>
  intro listed L a w hcl hm hok hp
  simp only [freeOk, Bool.and_eq_true, Bool.not_eq_true'] at hok
  obtain ⟨⟨⟨hr, hn⟩, hf⟩, hrest⟩ := hok
  obtain ⟨hr', hlt⟩ := readyB_spec h hm hr
  obtain ⟨o, v, ho, hy, hQ, hw⟩ := hp
  obtain ⟨ri, hri, ei⟩ := row_at h ho
  rw [hri] at hf
  rw [show (i :: rest).length + m = rest.length + m + 1 by simp; omega]
  refine wpN_free ho (Region.noSelect_spec hs) hn hQ (fun j => match rows[j]? with | some r => r.2.2.2.testBit i | none => false) ?_ (rest.length + m) listed a w hcl ?_ hr' hy (ih _ _ _ _ (hcl.set hr') (hm.set hlt) hrest hw)
  ·intro listed hc j oj hj hall hwt
   obtain ⟨r, hr, -⟩ := row_at h hj
   simp only [hr] at hwt
   exact reach_listed h hR hc (j + 1) j oj r (by omega) hj hr hall i hwt
  ·intro j oj hj hji hun hno
   obtain ⟨r, hr, ej⟩ := row_at h hj
   have h1 := allIx_spec _ rows 0 hf j r hr
   simp only [hr] at hno
   rw [Nat.zero_add, <- (hm.2.1 j (Array.getElem?_eq_some_iff.1 hj).1).1, hun, hno] at h1
   simp only [Bool.or_false, Bool.or_eq_true, beq_iff_eq] at h1
   rcases h1 with h1 | h1
   ·exact absurd h1 hji
   ·exact apart_of ei ej h1
def preOk (rows : List Row) (need : Nat) (L0 : Nat) : List Nat -> Nat -> Bool
 | [], L => L == L0
 | i :: rest, L => readyB rows i L && (match rows[i]? with
   | some ri => allIx (fun j r => j == i || L.testBit j || r.2.2.2.testBit i || (apartB ri r && need.testBit j)) 0 rows
   | none => false) && preOk rows need L0 rest (L ||| 1 <<< i)
theorem wpN_of_pre (hs : Region.noSelect ops = true) {rows : List Row} (h : rows.map Row.three = ops.toList.map (Go.Proofs.YtkgaeoeibjoljaaGreatDoor.rowOf ops)) (hR : reachOk rows = true) (need L0 m : Nat) (K : Act -> World -> Prop)
  (hK : ∀ listed a w, Closed ops listed -> Mirrors ops listed L0 -> K a w -> wpN P ops Q S need.testBit m listed a w) : ∀ (pre : List Nat) (listed : Array Bool) (L : Nat) (a : Act) (w : World), Closed ops listed -> Mirrors ops listed L ->
  preOk rows need L0 pre L = true -> wpPre P ops Q S K pre a w -> wpN P ops Q S need.testBit (pre.length + m) listed a w := by
 intro pre
 induction pre with
 | nil =>
  intro listed L a w hcl hm hok hp
  have : L = L0 := by simpa [preOk] using hok
  subst this
  simpa using hK listed a w hcl hm hp
 | cons i rest ih =>
  intro listed L a w hcl hm hok hp
  simp only [preOk, Bool.and_eq_true] at hok
  obtain ⟨⟨hr, hf⟩, hrest⟩ := hok
  obtain ⟨hr', hlt⟩ := readyB_spec h hm hr
  obtain ⟨o, v, ho, hy, hS, hQ, hw⟩ := hp
  obtain ⟨ri, hri, ei⟩ := row_at h ho
  rw [hri] at hf
  rw [show (i :: rest).length + m = rest.length + m + 1 by simp; omega]
  refine wpN_first ho (Region.noSelect_spec hs) hQ (fun j => match rows[j]? with | some r => r.2.2.2.testBit i | none => false) ?_ (rest.length + m) listed a w hcl ?_ hr' hy hS (ih _ _ _ _ (hcl.set hr') (hm.set hlt) hrest hw)
  ·intro listed hc j oj hj hall hwt
   obtain ⟨r, hr, -⟩ := row_at h hj
   simp only [hr] at hwt
   exact reach_listed h hR hc (j + 1) j oj r (by omega) hj hr hall i hwt
  ·intro j oj hj hji hun hno
   obtain ⟨r, hr, ej⟩ := row_at h hj
   have h1 := allIx_spec _ rows 0 hf j r hr
   simp only [hr] at hno
   rw [Nat.zero_add, <- (hm.2.1 j (Array.getElem?_eq_some_iff.1 hj).1).1, hun, hno] at h1
   simp only [Bool.or_false, Bool.or_eq_true, beq_iff_eq, Bool.and_eq_true] at h1
   rcases h1 with h1 | h1
   ·exact absurd h1 hji
   ·exact ⟨apart_of ei ej h1.1, h1.2⟩
def invOk (rows : List Row) (need : Nat) (some_ : List Nat) (masks : List (Nat × Nat)) (rest : List (Nat × Bool)) (Lend : Nat) : Bool :=
 masks.all fun x => match x.2 with
  | 0 => x.1 == Lend && fastOk rows need rest x.1
  | n + 1 => some_.any (fun i => readyB rows i x.1) && allIx (fun j r => x.1.testBit j || !within r.2.2.1 x.1 || (some_.contains j && masks.contains (x.1 ||| 1 <<< j, n))) 0 rows
theorem wpN_of_inv (hs : Region.noSelect ops = true) {rows : List Row} (h : rows.map Row.three = ops.toList.map (Go.Proofs.YtkgaeoeibjoljaaGreatDoor.rowOf ops)) (hR : reachOk rows = true) (need : Nat) (some_ : List Nat) (masks : List (Nat × Nat)) (rest : List (Nat × Bool)) (Lend : Nat)
  (hok : invOk rows need some_ masks rest Lend = true) (Inv : Nat -> Act -> World -> Prop)
  (hstep : ∀ L n i, (L, n + 1) ∈ masks -> i ∈ some_ -> readyB rows i L = true -> ∀ a w, Inv L a w -> wpOp P ops Q i (fun a' w' => (need.testBit i = true -> S w') /\ Inv (L ||| 1 <<< i) a' w') a w)
  (hend : ∀ a w, Inv Lend a w -> wpPlan P ops Q S need.testBit rest a w) :
  ∀ (n L : Nat) (listed : Array Bool) (a : Act) (w : World), (L, n) ∈ masks -> Closed ops listed -> Mirrors ops listed L -> Inv L a w -> wpN P ops Q S need.testBit (n + rest.length) listed a w := by
 intro n
 induction n with
 | zero =>
  intro L listed a w hmem hcl hm hI
  have h1 := List.all_eq_true.1 hok _ hmem
  simp only [Bool.and_eq_true, beq_iff_eq] at h1
  obtain ⟨rfl, h2⟩ := h1
  rw [Nat.zero_add]
  exact wpN_of_fast hs h hR need rest listed _ a w hcl hm h2 (hend a w hI)
 | succ n ih =>
  intro L listed a w hmem hcl hm hI
  have h1 := List.all_eq_true.1 hok _ hmem
  simp only [Bool.and_eq_true] at h1
  obtain ⟨h1, h2⟩ := h1
  rw [show n + 1 + rest.length = n + rest.length + 1 by omega]
  refine ⟨fun h0 => ?_, fun j hj => ?_⟩
  ·obtain ⟨i, hi, hr⟩ := List.any_eq_true.1 h1
   have := (readyB_spec h hm hr).1
   rw [h0] at this
   cases this
  ·obtain ⟨r, hrj⟩ := ready_row h hj
   have h3 := allIx_spec _ rows 0 h2 j r hrj
   have h4 := (ready_iff h hm hrj).1 hj
   rw [Nat.zero_add, h4.1, h4.2] at h3
   simp only [Bool.not_true, Bool.or_self, Bool.false_or, Bool.and_eq_true, List.contains_iff_mem] at h3
   have hrb : readyB rows j L = true := by simp [readyB, h4.1, hrj, h4.2]
   obtain ⟨hr', hlt⟩ := readyB_spec h hm hrb
   exact wpOp_mono (fun a' w' h' => ⟨h'.1, ih _ _ _ _ h3.2 (hcl.set hr') (hm.set hlt) h'.2⟩) (hstep L n j hmem h3.1 hrb a w hI)
theorem region_inv {id : Nat} {a : Act} {w : World} (free pre : List Nat) (some_ : List Nat) (masks : List (Nat × Nat)) (rest : List (Nat × Bool)) (needs : List Nat) (L0 m Lend need : Nat) (rows : List Row) (S : World -> Prop) (Inv : Nat -> Act -> World -> Prop)
  (hN : bitsOf needs = need) (hm : P.follows .mixedOrders = true) (hs : Region.noSelect ops = true) (hz : free.length + (pre.length + (m + rest.length)) = ops.size)
  (hr : rows.map Row.three = ops.toList.map (Go.Proofs.YtkgaeoeibjoljaaGreatDoor.rowOf ops)) (hok : (reachOk rows && freeOk rows need (preOk rows need L0 pre) free 0 && masks.contains (L0, m) && invOk rows need some_ masks rest Lend) = true) (hS : S w.drew)
  (hpre : S w.drew -> wpFree P ops Q (fun a w' => w' = w.drew /\ wpPre P ops Q S (Inv L0) pre a w') free a w.drew)
  (hstep : ∀ L n i, (L, n + 1) ∈ masks -> i ∈ some_ -> readyB rows i L = true -> ∀ a w, Inv L a w -> wpOp P ops Q i (fun a' w' => S w' /\ Inv (L ||| 1 <<< i) a' w') a w)
  (hend : ∀ a w, Inv Lend a w -> wpPlan P ops Q S (fun i => needs.contains i) rest a w) : (Code.region id ops true).wp P Q a w := by
 simp only [Bool.and_eq_true, List.contains_iff_mem] at hok
 have e : (fun i => needs.contains i) = need.testBit := by
  funext i
  rw [<- hN, Bool.eq_iff_iff, bitsOf_test]
  simp
 rw [e] at hend
 refine wp_region_any hm (wpAny_of_N _ _ _ _ (hz ▸ wpN_of_frees (S := S) hs hr hok.1.1.1 need (pre.length + (m + rest.length)) (preOk rows need L0 pre) (fun a w' => w' = w.drew /\ wpPre P ops Q S (Inv L0) pre a w') (fun listed L a w' hcl hmi hk hI => ?_) free _ 0 a w.drew (Closed.start ops) (Mirrors.start ops) hok.1.1.2 (hpre hS)))
 refine wpN_of_pre (S := S) hs hr hok.1.1.1 need L0 (m + rest.length) (Inv L0) (fun listed a w hcl hmi hI => ?_) pre listed L a w' hcl hmi hk hI.2
 exact wpN_of_inv hs hr hok.1.1.1 need some_ masks rest Lend hok.2 Inv (fun L n i h1 h2 h3 a w h4 => wpOp_mono (fun _ _ h' => ⟨fun _ => h'.1, h'.2⟩) (hstep L n i h1 h2 h3 a w h4)) hend m L0 listed a w hok.1.2 hcl hmi hI
theorem region_invE {id : Nat} {a : Act} {w : World} (free pre : List Nat) (some_ : List Nat) (masks : List (Nat × Nat)) (rest : List (Nat × Bool)) (needs : List Nat) (L0 m Lend need : Nat) (rows : List Row) (S : World -> Prop) (Inv : Act -> Nat -> Act -> World -> Prop)
  (hN : bitsOf needs = need) (hm : P.follows .mixedOrders = true) (hs : Region.noSelect ops = true) (hz : free.length + (pre.length + (m + rest.length)) = ops.size)
  (hr : rows.map Row.three = ops.toList.map (Go.Proofs.YtkgaeoeibjoljaaGreatDoor.rowOf ops)) (hok : (reachOk rows && freeOk rows need (preOk rows need L0 pre) free 0 && masks.contains (L0, m) && invOk rows need some_ masks rest Lend) = true) (hS : S w.drew)
  (h : ∃ A0, (S w.drew -> wpFree P ops Q (fun a w' => w' = w.drew /\ wpPre P ops Q S (Inv A0 L0) pre a w') free a w.drew) /\
   (∀ L n i, (L, n + 1) ∈ masks -> i ∈ some_ -> readyB rows i L = true -> ∀ a w, Inv A0 L a w -> wpOp P ops Q i (fun a' w' => S w' /\ Inv A0 (L ||| 1 <<< i) a' w') a w) /\
   ∀ a w, Inv A0 Lend a w -> wpPlan P ops Q S (fun i => needs.contains i) rest a w) : (Code.region id ops true).wp P Q a w := by
 obtain ⟨A0, h1, h2, h3⟩ := h
 exact region_inv free pre some_ masks rest needs L0 m Lend need rows S (Inv A0) hN hm hs hz hr hok hS h1 h2 h3
/-! ### The moves -/
theorem free_nil {K : Act -> World -> Prop} {a : Act} {w : World} (h : K a w) : wpFree P ops Q K [] a w := h
theorem free_read {K : Act -> World -> Prop} {i : Nat} {o : Oper} {v : Value} {rest : List Nat} {a : Act} {w : World} (ho : ops.toList[i]? = some o) (hQ : ∀ c a w, Q (.panic c) (a.put o.dst v) w -> Q (.panic c) a w)
  (hg : Region.wanted o (yielded ops a.tmps) = true) (hy : ∀ w, (execOp a.eval o).run P w = .ok (.value v) w) (h : wpFree P ops Q K rest (a.put o.dst v) w) : wpFree P ops Q K (i :: rest) a w :=
 ⟨o, v, at_list ho, .inl ⟨hg, fun w _ => hy w⟩, hQ, h⟩
theorem pre_nil {K : Act -> World -> Prop} {a : Act} {w : World} (h : K a w) : wpPre P ops Q S K [] a w := h
theorem pre_read {K : Act -> World -> Prop} {i : Nat} {o : Oper} {v : Value} {rest : List Nat} {a : Act} {w : World} (ho : ops.toList[i]? = some o) (hQ : ∀ c a w, Q (.panic c) (a.put o.dst v) w -> Q (.panic c) a w)
  (hg : Region.wanted o (yielded ops a.tmps) = true) (hS : S w) (hy : ∀ w, S w -> (execOp a.eval o).run P w = .ok (.value v) w) (h : wpPre P ops Q S K rest (a.put o.dst v) w) : wpPre P ops Q S K (i :: rest) a w :=
 ⟨o, v, at_list ho, .inl ⟨hg, hy⟩, hS, hQ, h⟩
theorem pre_skip {K : Act -> World -> Prop} {i : Nat} {o : Oper} {rest : List Nat} {a : Act} {w : World} (ho : ops.toList[i]? = some o) (hQ : ∀ c a w, Q (.panic c) (a.put o.dst undef) w -> Q (.panic c) a w)
  (hg : Region.wanted o (yielded ops a.tmps) = false) (hS : S w) (h : wpPre P ops Q S K rest (a.put o.dst undef) w) : wpPre P ops Q S K (i :: rest) a w :=
 ⟨o, undef, at_list ho, .inr ⟨hg, rfl⟩, hS, hQ, h⟩
theorem inv_do {R : Act -> World -> Prop} {i : Nat} {o : Oper} {a : Act} {w : World} (ho : ops.toList[i]? = some o) (hg : Region.wanted o (yielded ops a.tmps) = true)
  (h : ∀ K : Act -> World -> Prop, Shut (∀ a w, R a w -> K a w) -> o.wp P a w K Q) : wpOp P ops Q i R a w := by
 refine wpOp_step (at_list ho) (fun K' hK => ?_)
 rw [if_pos hg]
 exact h K' hK
end
def pairsOk (rows : List Row) (masks : List (Nat × Nat)) (pairs : List (Nat × Nat)) : Bool :=
 masks.all fun x => pairs.all fun p => (!readyB rows p.1 x.1 || (!x.1.testBit p.1 && !x.1.testBit p.2)) && (!readyB rows p.2 x.1 || (x.1.testBit p.1 && !x.1.testBit p.2))
theorem pairs_one {rows : List Row} {masks pairs : List (Nat × Nat)} (h : pairsOk rows masks pairs = true) {L n i j : Nat} (hm : (L, n) ∈ masks) (hp : (i, j) ∈ pairs) (hr : readyB rows i L = true) : L.testBit i = false /\ L.testBit j = false := by
 have h1 := List.all_eq_true.1 (List.all_eq_true.1 h _ hm) _ hp
 simp only [hr, Bool.not_true, Bool.false_or, Bool.and_eq_true, Bool.not_eq_true'] at h1
 exact h1.1
theorem pairs_two {rows : List Row} {masks pairs : List (Nat × Nat)} (h : pairsOk rows masks pairs = true) {L n i j : Nat} (hm : (L, n) ∈ masks) (hp : (i, j) ∈ pairs) (hr : readyB rows j L = true) : L.testBit i = true /\ L.testBit j = false := by
 have h1 := List.all_eq_true.1 (List.all_eq_true.1 h _ hm) _ hp
 simp only [hr, Bool.not_true, Bool.false_or, Bool.and_eq_true, Bool.not_eq_true'] at h1
 exact h1.2
end
section
set_option maxRecDepth 4000
section
variable {P : Program} {ops : Array Oper} {Q : Exit -> Act -> World -> Prop} {S : World -> Prop} {need : Nat -> Bool}
theorem region_free {id : Nat} {a : Act} {w : World} (free : List Nat) (plan : List (Nat × Bool)) (needs : List Nat) (need : Nat) (rows : List Row) (S : World -> Prop)
  (hN : bitsOf needs = need) (hm : P.follows .mixedOrders = true) (hs : Region.noSelect ops = true) (hz : free.length + plan.length = ops.size)
  (hr : rows.map Row.three = ops.toList.map (Go.Proofs.YtkgaeoeibjoljaaGreatDoor.rowOf ops)) (hok : (reachOk rows && freeOk rows need (fastOk rows need plan) free 0) = true) (hS : S w.drew)
  (h : S w.drew -> wpFree P ops Q (fun a w' => w' = w.drew -> wpPlan P ops Q S (fun i => needs.contains i) plan a w.drew) free a w.drew) : (Code.region id ops true).wp P Q a w := by
 simp only [Bool.and_eq_true] at hok
 have e : (fun i => needs.contains i) = need.testBit := by
  funext i
  rw [<- hN, Bool.eq_iff_iff, bitsOf_test]
  simp
 rw [e] at h
 have hw : ∀ (l : List Nat) (K : Act -> World -> Prop) (a : Act) (w' : World), wpFree P ops Q (fun a v => v = w' -> K a v) l a w' -> wpFree P ops Q K l a w' := by
  intro l K
  induction l with
  | nil => intro a w' h; exact h rfl
  | cons i l ih => intro a w' h; obtain ⟨o, v, h1, h2, h3, h4⟩ := h; exact ⟨o, v, h1, h2, h3, ih _ _ h4⟩
 refine wp_region_any hm (wpAny_of_N _ _ _ _ (hz ▸ wpN_of_frees (S := S) hs hr hok.1 need plan.length (fastOk rows need plan) (wpPlan P ops Q S need.testBit plan) (fun listed L a w' hcl hmi hk hI => ?_) free _ 0 a w.drew (Closed.start ops) (Mirrors.start ops) hok.2 (hw _ _ _ _ ?_)))
 ·exact wpN_of_fast hs hr hok.1 need plan listed L a w' hcl hmi hk hI
 ·refine cast ?_ (h hS)
  congr 1
  funext a v
  apply propext
  constructor
  ·intro h e; subst e; exact h rfl
  ·intro h e; subst e; exact h rfl
end
end
section
set_option maxRecDepth 4000
open Go.RowKit
def Lg.first (s : Lg) : Nat := s.clean / 128
def Lg.behind (s : Lg) : Nat := (s.end_ + 127) / 128
def Lg.new (s : Lg) : List UInt8 := (s.B.drop (s.first * 128)).take ((s.behind - s.first) * 128)
def Dk.pushed (D : Dk) (f : Nat) (s : Lg) : Dk := D.push (f + s.first) s.new (s.behind - s.first)
def Lg.flushed (s : Lg) : Lg := { s with sure := s.texts.length, clean := s.end_ }
theorem Lg.Ok.flushed {s : Lg} (h : s.Ok) : s.flushed.Ok :=
 ⟨h.segs, h.size, h.last, h.used, h.end_le, h.oct, h.many, h.chain, h.many⟩
theorem flush_idle {w : World} {lb b f : Nat} {s : Lg} {bg cB : Nat} {A : Option Addr} {cT : Nat} {C : Option Addr} {cC : Nat} {vs : List Pt} {Kl : Nat -> Prop} (h : LgP w lb b f s bg cB A cT C cC vs Kl) (hd : s.dead = false) (hs : s.sure = s.texts.length) :
  Calls Tryz.prog 55 #[.pointer (some ⟨lb, 0, none⟩)] w fun e w' => e = .returned Value.nilIface /\ Below w.heap.size w w' := by
 obtain ⟨T, hT⟩ : ∃ T, T = s.texts.length := ⟨_, rfl⟩
 have c12 : w.cell? ⟨lb, 12, none⟩ = some (.bool false) := by rw [<- hd]; exact h.top.cell 12
 have c8 : w.drew.cell? ⟨lb, 8, none⟩ = some (.slice A T cT) := by rw [hT]; exact h.top.cell 8
 have c10 : w.drew.cell? ⟨lb, 10, none⟩ = some (.int .i64 T) := by rw [hT, <- hs]; exact h.top.cell 10
 clear h hs hT hd
 go_enter Tryz.func55, Tryz.ntmps55
 go_wp2_with fail
 refine region_fast [(0, true), (1, true), (2, true), (3, true), (4, true), (5, true), (6, true), (7, true), (8, true), (9, true), (10, true)] [4, 5, 6, 7, 8] 496 [(16384, 1, 0, 0), (32768, 16384, 1, 1), (65536, 32768, 2, 3), (131072, 65536, 4, 7), (262144, 1, 0, 0), (524288, 262144, 16, 16), (1048576, 524288, 32, 48), (2097152, 1048576, 64, 112), (4194304, 2097152, 128, 240), (8388608, 4325376, 264, 511), (8192, 8388608, 512, 1023)] (fun W => W = w.drew) (by kernel_rfl) (by kernel_rfl) (by kernel_rfl) rfl (by kernel_rfl) (by kernel_rfl) rfl (fun hS => ?_)
 repeat (first
  | (refine plan_read (v := ?_) rfl (fun _ _ _ h => h) rfl hS ?_ ?_; rotate_left 1; (focus (intro w' hS'; subst hS'; go_simp; try rfl)); (simp only [Act.put, pu1]; dsimp only [pu2, pu3]))
  | (refine plan_skip rfl (fun _ _ _ h => h) rfl hS ?_; (simp only [Act.put, pu1]; dsimp only [pu2, pu3])))
 refine plan_nil ?_
 go_wp2_with fail
 go_ret
 exact ⟨rfl, (Below.refl _ _).drew⟩
set_option maxHeartbeats 8000000 in
theorem flush_on {w : World} {lb b f : Nat} {s : Lg} {bg cB : Nat} {A : Option Addr} {cT : Nat} {C : Option Addr} {cC : Nat} {vs : List Pt} {Kl F : Nat -> Prop} {D : Dk} (h : LD w lb b f s bg cB A cT C cC vs Kl D F) (hok : s.Ok) (hd : s.dead = false) (hs : s.sure ≠ s.texts.length) (hce : s.clean < s.end_) (hDk : D.Ok) (hc : D.calls ≠ 0) (hc1 : nextCalls D.calls ≠ 0) (hq : D.queue.length <= 1000000) (hf : f <= 1000000) (hfit : (f + s.segs * s.size) * 128 <= D.safe.length) :
  Calls Tryz.prog 55 #[.pointer (some ⟨lb, 0, none⟩)] w fun e w' => e = .returned Value.nilIface /\ ∃ F', LD w' lb b f s.flushed bg cB A cT C cC vs Kl (D.pushed f s).flushed F' /\ Fr (fun k => F k \/ Kl k) w w' /\ ∀ k, k < w.heap.size -> F' k -> F k := by
 have hal := hok.all_le
 have hel := hok.end_le
 have hsure := hok.sure
 have hmany := hok.many
 obtain ⟨T, hT⟩ : ∃ T, T = s.texts.length := ⟨_, rfl⟩
 obtain ⟨su, hSU⟩ : ∃ T, T = s.sure := ⟨_, rfl⟩
 obtain ⟨cl, hCL⟩ : ∃ T, T = s.clean := ⟨_, rfl⟩
 obtain ⟨E, hE⟩ : ∃ E, E = s.end_ := ⟨_, rfl⟩
 obtain ⟨L, hL⟩ : ∃ L, L = s.B.length := ⟨_, rfl⟩
 obtain ⟨a, ha⟩ : ∃ a, a = s.first := ⟨_, rfl⟩
 obtain ⟨z, hz⟩ : ∃ z, z = s.behind := ⟨_, rfl⟩
 have hLa : L = s.all := by rw [hL, hok.oct]
 have ha' : cl / 128 = a := by rw [ha, hCL]; rfl
 have hz' : (E + 127) / 128 = z := by rw [hz, hE]; rfl
 have hLP : L = (s.segs * s.size) * 128 := by rw [hLa]; unfold Lg.all Lg.n; rw [Nat.mul_assoc]
 rw [<- hE, <- hLa] at hel
 rw [<- hCL, <- hE] at hce
 rw [<- hLa] at hal
 have hnew : s.new = (s.B.drop (a * 128)).take ((z - a) * 128) := by rw [ha, hz]; rfl
 have hHE := fun W (hW : LgP W lb b f s bg cB A cT C cC vs Kl) => hE ▸ end_log hW hok
 have HE := Lh hHE
 obtain ⟨g, cap, cur, hv, -, hbl0, hcap1, hcap2, -⟩ := own_open h.log.oct (by have := hok.n_le; have := hok.all_le; rw [hok.oct]; omega)
 injection hv with hv1 hv2 hv3
 injection hv1 with hv1
 injection hv1 with hv1 _ _
 subst hv1
 subst hv3
 rw [<- hL] at hcap1
 have hcm := hcap2
 unfold maxLen at hcap2
 have hzL : z * 128 <= L := by
  have : z <= s.segs * s.size := by omega
  omega
 have haz : a < z := by omega
 have hal2 : (z - a) * 128 = z * 128 - a * 128 := by rw [Nat.sub_mul]
 have hnl : s.new.length = (z - a) * 128 := by rw [hnew, List.length_take, List.length_drop, <- hL]; omega
 have hpok : (D.pushed f s).Ok := by
  unfold Dk.pushed
  refine hDk.push _ _ _ (by rw [hnl, <- ha, <- hz]; exact Nat.le_refl _) ?_
  rw [<- ha, <- hz]
  refine Nat.le_trans (Nat.mul_le_mul_right _ ?_) hfit
  omega
 have HW : Hid (∀ (W : World), LD W lb b f s bg cB A cT C cC vs Kl D F -> Calls Tryz.prog 95 #[.pointer (some ⟨b, 0, none⟩), .int .i64 ((f : Int) + (a : Int)), .slice (some ⟨bg, a * 128, none⟩) (z * 128 - a * 128) (cB - a * 128)] W fun e w' => e = .returned (.int .i64 0) /\ DiskTo W b F (D.pushed f s) w') := Lh (by
  intro W hW
  have hpc := (Sees.of_own hW.log.oct).piece (a * 128) (z * 128 - a * 128) (by rw [<- hL]; omega)
  rw [Nat.zero_add, <- u8s_drop, <- u8s_take, <- hal2, <- hnew] at hpc
  rw [<- hal2]
  have := write_good b F D (f + a) (z - a) (some ⟨bg, a * 128, none⟩) (cB - a * 128) s.new W hW.disk hDk hnl (by omega) (by unfold maxLen; omega) hpc (fun _ ad hA hF2 => by injection hA with hA; subst hA; exact hW.apart bg hF2 hW.log.kb) (by omega) (Nat.le_trans (Nat.mul_le_mul_right _ (by omega)) hfit) hc
  rw [show ((f + a : Nat) : Int) = (f : Int) + (a : Int) by omega] at this
  unfold Dk.pushed
  rw [<- ha, <- hz]
  exact this)
 have hpq : (D.pushed f s).queue.length <= 1099511627776 := by
  show (D.queue ++ parts _ _ _).length <= _
  rw [List.length_append, parts, List.length_map, List.length_range, <- ha, <- hz]
  omega
 have HFL : Hid (∀ (W : World) (F' : Nat -> Prop), DiskAt W b F' (D.pushed f s) -> Calls Tryz.prog 96 #[.pointer (some ⟨b, 0, none⟩)] W fun e w' => e = .returned (.int .i64 0) /\ DiskTo W b F' (D.pushed f s).flushed w') := Lh (fun W F' hD => flush_good b F' (D.pushed f s) W hD hpok hpq hc1)
 have HH := Lh (Ai h hok)
 have HN := Lh (Ai hT (Ai hSU (Ai hCL (Ai hE hL))))
 have c12 : w.cell? ⟨lb, 12, none⟩ = some (.bool false) := by rw [<- hd]; exact h.log.top.cell 12
 have hsT : ((su : Int) == (T : Int)) = false := by rw [beq_eq_false_iff_ne, hSU, hT]; omega
 have hsN : ¬ su = T := by rw [hSU, hT]; exact hs
 have hTb : T <= 100000000 := by rw [hT]; exact hmany
 have hsb : su <= 100000000 := by rw [hSU]; exact hsure
 have haL : a * 128 <= z * 128 := by omega
 have hac : ¬ cB = a * 128 := by omega
 have hzc : z * 128 <= cB := by omega
 have hai : (cl : Int) / 128 = (a : Int) := by omega
 have hzi : ((E : Int) + 128 - 1).tdiv 128 = (z : Int) := by rw [Int.tdiv_eq_ediv_of_nonneg (by omega)]; omega
 have hwa0 : IntKind.i64.wrap (a : Int) = (a : Int) := IntWalk.i64_in _ (by omega)
 have hwz0 : IntKind.i64.wrap (z : Int) = (z : Int) := IntWalk.i64_in _ (by omega)
 have hw1 : IntKind.i64.wrap ((E : Int) + 128) = (E : Int) + 128 := IntWalk.i64_in _ (by omega)
 have hw2 : IntKind.i64.wrap ((E : Int) + 128 - 1) = (E : Int) + 128 - 1 := IntWalk.i64_in _ (by omega)
 have hfa : IntKind.i64.wrap ((f : Int) + (a : Int)) = (f : Int) + (a : Int) := IntWalk.i64_in _ (by omega)
 have hwa : IntKind.i64.wrap ((a : Int) * 128) = (a : Int) * 128 := IntWalk.i64_in _ (by omega)
 have hwz : IntKind.i64.wrap ((z : Int) * 128) = (z : Int) * 128 := IntWalk.i64_in _ (by omega)
 have hti : ((a : Int) * 128).toNat = a * 128 := by omega
 have htz : ((z : Int) * 128).toNat = z * 128 := by omega
 have h0a : 0 <= (a : Int) * 128 := by omega
 have h0z : 0 <= (z : Int) * 128 := by omega
 have hla : (a : Int) * 128 <= (z : Int) * 128 := by omega
 have hlz : (z : Int) * 128 <= (cB : Int) := by omega
 have hnz : ¬ z < a := by omega
 have hmx : max ((z : Int) * 128) 0 = (z : Int) * 128 := by omega
 clear h hok hd hs hDk hc hc1 hq hfit hT hSU hCL hE hL ha hz hLa hHE hnew hal hmany hsure hpok hpq hnl ha' hz' hLP
 go_enter Tryz.func55, Tryz.ntmps55
 go_wp2_with fail
 have H0 := Lh (HH.out.1.below (Below.refl _ _).drew)
 refine region_fast [(0, true), (1, true), (2, true), (3, true), (4, true), (5, true), (6, true), (7, true), (8, true), (9, true), (10, true)] [4, 5, 6, 7, 8] 496 [(16384, 1, 0, 0), (32768, 16384, 1, 1), (65536, 32768, 2, 3), (131072, 65536, 4, 7), (262144, 1, 0, 0), (524288, 262144, 16, 16), (1048576, 524288, 32, 48), (2097152, 1048576, 64, 112), (4194304, 2097152, 128, 240), (8388608, 4325376, 264, 511), (8192, 8388608, 512, 1023)] (fun W => W = w.drew) (by kernel_rfl) (by kernel_rfl) (by kernel_rfl) rfl (by kernel_rfl) (by kernel_rfl) rfl (fun hS => ?_)
 repeat (first
  | (refine plan_read (v := ?_) rfl (fun _ _ _ h => h) rfl hS ?_ ?_; rotate_left 1; (focus (intro w' hS'; subst hS'; have e8 : w.drew.cell? ⟨lb, 8, none⟩ = some (.slice A T cT) := (by rw [HN.out.1]; exact H0.out.log.top.cell 8); have e10 : w.drew.cell? ⟨lb, 10, none⟩ = some (.int .i64 su) := (by rw [HN.out.2.1]; exact H0.out.log.top.cell 10); go_simp; try rfl)); (simp only [Act.put, pu1]; dsimp only [pu2, pu3]))
  | (refine plan_skip rfl (fun _ _ _ h => h) rfl hS ?_; (simp only [Act.put, pu1]; dsimp only [pu2, pu3])))
 refine plan_nil ?_
 clear c12
 go_wp2_with fail
 have H1 := Lh (H0.out.below (Below.refl _ _).drew)
 refine region_fast [(0, true), (1, true), (2, true), (3, true), (4, true), (5, true), (6, false), (7, true), (8, true), (9, true), (10, true), (11, true)] [5, 6, 7, 8, 9, 10] 2016 [(16777216, 1, 0, 0), (33554432, 16777216, 1, 1), (67108864, 33554432, 2, 3), (134217728, 67108864, 4, 7), (268435456, 134217728, 8, 15), (536870912, 1, 0, 0), (1073741824, 536870912, 32, 32), (2147483648, 1073741824, 64, 96), (4294967296, 2147483648, 128, 224), (8589934592, 4294967296, 256, 480), (8, 268435456, 95, 127), (16, 8589934592, 2047, 2047)] (fun W => LD W lb b f s bg cB A cT C cC vs Kl D F /\ Below w.heap.size w W) (by kernel_rfl) (by kernel_rfl) (by kernel_rfl) rfl (by kernel_rfl) (by kernel_rfl) ⟨H1.out, ((Below.refl _ _).drew).drew⟩ (fun hS => ?_)
 repeat (first
  | (refine plan_read (v := ?_) rfl (fun _ _ _ h => h) rfl hS ?_ ?_; rotate_left 1; (focus (intro w' hS'; have e7 : w'.cell? ⟨lb, 7, none⟩ = some (.int .i64 cl) := (by rw [HN.out.2.2.1]; exact hS'.1.log.top.cell 7); go_simp; try rfl)); (simp only [Act.put, pu1]; dsimp only [pu2, pu3]))
  | (refine plan_skip rfl (fun _ _ _ h => h) rfl hS ?_; (simp only [Act.put, pu1]; dsimp only [pu2, pu3])))
 refine plan_do (by rfl) (by rfl) (fun K hK => ?_)
 go_simp
 refine (HE.out _ hS.1.log).mono ?_
 rintro e w1 ⟨rfl, bel1⟩
 refine hK.out _ _ (fun _ => ⟨hS.1.below bel1, hS.2.trans (bel1.mono hS.2.size)⟩) (fun hS => ?_); clear hK K; replace hS := hS rfl; try (simp only [Act.put, pu1]; dsimp only [pu2, pu3])
 repeat (first
  | (refine plan_read (v := ?_) rfl (fun _ _ _ h => h) rfl hS ?_ ?_; rotate_left 1; (focus (intro w' hS'; have e7 : w'.cell? ⟨lb, 7, none⟩ = some (.int .i64 cl) := (by rw [HN.out.2.2.1]; exact hS'.1.log.top.cell 7); go_simp; try rfl)); (simp only [Act.put, pu1]; dsimp only [pu2, pu3]))
  | (refine plan_skip rfl (fun _ _ _ h => h) rfl hS ?_; (simp only [Act.put, pu1]; dsimp only [pu2, pu3])))
 refine plan_nil ?_
 have H2 := Lh (Ai (hS.1.below (Below.refl _ _).drew) hS.2.drew)
 clear hS bel1
 go_wp2_with fail
 refine region_fast [(0, true), (1, true), (2, true), (3, true), (4, true), (5, true), (6, true), (7, true), (8, true), (9, true), (10, true), (11, true), (12, true), (13, true), (14, true), (15, true), (16, true), (17, true), (18, true), (19, true), (20, true), (21, false), (22, true)] [5, 6, 7, 8, 9, 10, 11, 12, 13, 14, 15, 16, 17, 18, 19, 20] 2097120 [(17179869184, 1, 0, 0), (34359738368, 17179869184, 1, 1), (68719476736, 34359738368, 2, 3), (137438953472, 68719476736, 4, 7), (274877906944, 137438953472, 8, 15), (549755813888, 1, 0, 0), (1099511627776, 549755813888, 32, 32), (2199023255552, 1099511627776, 64, 96), (4398046511104, 2199023255552, 128, 224), (8796093022208, 4398046511104, 256, 480), (17592186044416, 8, 0, 0), (35184372088832, 26388279066624, 1536, 2016), (70368744177664, 1, 0, 0), (140737488355328, 70368744177664, 4096, 4096), (281474976710656, 140737488355328, 8192, 12288), (562949953421312, 281474976710656, 16384, 28672), (1125899906842624, 8, 0, 0), (2251799813685248, 1125899906842624, 65536, 65536), (4503599627370496, 16, 0, 0), (9007199254740992, 4503599627370496, 262144, 262144), (18014398509481984, 11821949021847552, 688128, 1044480), (36028797018963968, 18049857759477760, 1050640, 2097151), (32, 36028797018963968, 4194303, 4194303)] (fun W => W.cell? ⟨lb, 0, none⟩ = some (.pointer (some ⟨b, 0, none⟩)) /\ W.cell? ⟨lb, 1, none⟩ = some (.int .i64 f) /\ W.cell? ⟨lb, 4, none⟩ = some (.slice (some ⟨bg, 0, none⟩) L cB)) (by kernel_rfl) (by kernel_rfl) (by kernel_rfl) rfl (by kernel_rfl) (by kernel_rfl) ⟨H2.out.1.log.top.cell 0, H2.out.1.log.top.cell 1, by rw [HN.out.2.2.2.2]; exact H2.out.1.log.top.cell 4⟩ (fun hS => ?_)
 iterate 20 (first
  | (refine plan_read (v := ?_) rfl (fun _ _ _ h => h) rfl hS ?_ ?_; rotate_left 1; (focus (intro w' hS'; have e0 := hS'.1; have e1 := hS'.2.1; have e4 := hS'.2.2; go_simp; try rfl)); (simp only [Act.put, pu1]; dsimp only [pu2, pu3]))
  | (refine plan_skip rfl (fun _ _ _ h => h) rfl hS ?_; (simp only [Act.put, pu1]; dsimp only [pu2, pu3])))
 refine plan_read (v := Value.slice (some ⟨bg, a * 128, none⟩) (z * 128 - a * 128) (cB - a * 128)) rfl (fun _ _ _ h => h) rfl hS ?_ ?_; (focus (intro w' hS'; go_simp; first | done | simp [hti, htz, h0a, h0z, hla, hlz, hac, hmx, hnz] | (simp; omega))); (simp only [Act.put, pu1]; dsimp only [pu2, pu3])
 refine plan_do (by rfl) (by rfl) (fun K hK => ?_)
 go_simp
 refine (HW.out _ H2.out.1).mono ?_
 rintro e w3 ⟨rfl, hd⟩
 obtain ⟨F3, l3, f3, s3⟩ := H2.out.1.move hd
 have HF3 := Lh (HFL.out w3 F3 l3.disk)
 have c0 : w3.cell? ⟨lb, 0, none⟩ = some (.pointer (some ⟨b, 0, none⟩)) := l3.log.top.cell 0
 have H4 := Lh (Ai l3 (Ai f3 s3))
 clear hS
 have hS := Ai c0 (Ai (l3.log.top.cell 1 : w3.cell? ⟨lb, 1, none⟩ = some (.int .i64 f)) (by rw [HN.out.2.2.2.2]; exact l3.log.top.cell 4 : w3.cell? ⟨lb, 4, none⟩ = some (.slice (some ⟨bg, 0, none⟩) L cB)))
 clear hd l3 f3 s3
 refine hK.out _ _ (fun h => by cases h) (fun _ => ?_); clear hK K; try (simp only [Act.put, pu1]; dsimp only [pu2, pu3])
 repeat (first
  | (refine plan_read (v := ?_) rfl (fun _ _ _ h => h) rfl hS ?_ ?_; rotate_left 1; (focus (intro w' hS'; go_simp; try rfl)); (simp only [Act.put, pu1]; dsimp only [pu2, pu3]))
  | (refine plan_skip rfl (fun _ _ _ h => h) rfl hS ?_; (simp only [Act.put, pu1]; dsimp only [pu2, pu3])))
 refine plan_nil ?_
 clear hS
 go_wp2_with fail
 refine HF3.out.mono ?_
 rintro e w4 ⟨rfl, hd⟩
 obtain ⟨F4, l4, f4, s4⟩ := H4.out.1.move hd
 have H5 := Lh (Ai l4 (Ai f4 s4))
 clear hd l4 f4 s4 c0
 go_wp2_with fail
 have H5d := Lh (H5.out.1.below (Below.refl _ _).drew)
 refine region_free [0, 1, 2, 7] [(3, true), (4, true), (5, true), (6, true), (8, false), (9, true), (10, true), (11, false), (12, false), (13, false), (14, false)] [8] 256 [(4722366482869645213696, 1, 0, 0), (9444732965739290427392, 1, 0, 0), (18889465931478580854784, 1, 0, 0), (37778931862957161709568, 18889465931478580854784, 4, 4), (75557863725914323419136, 37778931862957161709568, 8, 12), (151115727451828646838272, 75557863725914323419136, 16, 28), (302231454903657293676544, 151115727451828646838272, 32, 60), (604462909807314587353088, 1, 0, 0), (1208925819614629174706176, 604462909807314587353088, 128, 128), (2417851639229258349412352, 4722366482869645213696, 381, 509), (4835703278458516698824704, 2417851639229258349412352, 893, 1021), (0, 5137934733362173992501248, 1405, 2045), (9671406556917033397649408, 9444732965739290427392, 4095, 4095), (19342813113834066795298816, 9671406556917033397649408, 8191, 8191), (0, 20551738933448695970004992, 12287, 16383)] (fun W => LgP W lb b f s bg cB A cT C cC vs Kl /\ Below w4.heap.size w4 W) (by kernel_rfl) (by kernel_rfl) (by kernel_rfl) rfl (by kernel_rfl) (by kernel_rfl) ⟨H5d.out.log, (Below.refl _ _).drew⟩ (fun hS => ?_)
 repeat (refine free_read (v := ?_) rfl (fun _ _ _ h => h) rfl ?_ ?_; rotate_left 1; (focus (intro w'; go_simp; try rfl)); (simp only [Act.put, pu1]; dsimp only [pu2, pu3]))
 refine free_nil ?_
 intro _
 repeat (first
  | (refine plan_read (v := ?_) rfl (fun _ _ _ h => h) rfl hS ?_ ?_; rotate_left 1; (focus (intro w' hS'; have e8 : w'.cell? ⟨lb, 8, none⟩ = some (.slice A T cT) := (by rw [HN.out.1]; exact hS'.1.top.cell 8); go_simp; try rfl)); (simp only [Act.put, pu1]; dsimp only [pu2, pu3]))
  | (refine plan_skip rfl (fun _ _ _ h => h) rfl hS ?_; (simp only [Act.put, pu1]; dsimp only [pu2, pu3])))
 refine plan_do (by rfl) (by rfl) (fun K hK => ?_)
 go_simp
 refine (HE.out _ hS.1).mono ?_
 rintro e w5 ⟨rfl, bel5⟩
 refine hK.out _ _ (fun _ => ⟨hS.1.below bel5, hS.2.trans (bel5.mono hS.2.size)⟩) (fun hS => ?_); clear hK K; replace hS := hS rfl; try (simp only [Act.put, pu1]; dsimp only [pu2, pu3])
 repeat (first
  | (refine plan_read (v := ?_) rfl (fun _ _ _ h => h) rfl hS ?_ ?_; rotate_left 1; (focus (intro w' hS'; go_simp; try rfl)); (simp only [Act.put, pu1]; dsimp only [pu2, pu3]))
  | (refine plan_skip rfl (fun _ _ _ h => h) rfl hS ?_; (simp only [Act.put, pu1]; dsimp only [pu2, pu3])))
 have b5 := hS.1.top
 have c10 : w5.cell? ⟨lb, 10, none⟩ = some (.int .i64 su) := by rw [HN.out.2.1]; exact b5.cell 10
 have f10 : w5.frozen? ⟨lb, 10, none⟩ = false := b5.frozen 10
 have H6 := Lh hS
 refine plan_do (by rfl) (by rfl) (fun K hK => ?_)
 go_simp
 refine hK.out _ _ (fun h => by cases h) (fun _ => ?_); clear hK K; try (simp only [Act.put, pu1]; dsimp only [pu2, pu3])
 have b6 := b5.set_ 10 (.int .i64 T)
 have g6 : Fr (fun k => k = lb) w5 _ := Fr.setCell w5 ⟨lb, 10, none⟩ (.int .i64 T) rfl
 clear b5 hS
 refine plan_do (by rfl) (by rfl) (fun K hK => ?_)
 go_simp
 refine hK.out _ _ (fun h => by cases h) (fun _ => ?_); clear hK K; try (simp only [Act.put, pu1]; dsimp only [pu2, pu3])
 refine plan_do (by rfl) (by rfl) (fun K hK => ?_)
 go_simp
 refine hK.out _ _ (fun h => by cases h) (fun _ => ?_); clear hK K; try (simp only [Act.put, pu1]; dsimp only [pu2, pu3])
 have c7 : (w5.setCell ⟨lb, 10, none⟩ (.int .i64 T)).cell? ⟨lb, 7, none⟩ = some (.int .i64 cl) := by rw [HN.out.2.2.1]; exact b6.cell 7
 have f7 : (w5.setCell ⟨lb, 10, none⟩ (.int .i64 T)).frozen? ⟨lb, 7, none⟩ = false := b6.frozen 7
 refine plan_do (by rfl) (by rfl) (fun K hK => ?_)
 go_simp
 refine hK.out _ _ (fun h => by cases h) (fun _ => ?_); clear hK K; try (simp only [Act.put, pu1]; dsimp only [pu2, pu3])
 refine plan_nil ?_
 have b7 := b6.set_ 7 (.int .i64 E)
 have g7 : Fr (fun k => k = lb) w5 _ := g6.trans (Fr.setCell (F := fun k => k = lb) _ ⟨lb, 7, none⟩ (.int .i64 E) rfl) (fun _ _ h => h)
 go_wp2_with fail
 go_ret
 have k1 := H2.out.2.size
 have k2 := H4.out.2.1.size
 have k3 := H5.out.2.1.size
 have k4 := H6.out.2.size
 refine ⟨rfl, F4, ⟨?_, ?_, H5.out.1.apart, fun k hk => ?_, fun k hk => ?_⟩, ?_, fun k hk hF => ?_⟩
 ·refine H6.out.1.own (s' := s.flushed) rfl rfl rfl ?_ g7
  rw [show s.flushed.sure = T from HN.out.1.symm, show s.flushed.clean = E from HN.out.2.2.2.1.symm]
  exact b7
 ·exact ((H5.out.1.disk.fr (Fr.of_below H6.out.2 (fun _ => False)) (fun _ _ h => h)).fr g7 (fun k hk e => H5.out.1.apart k hk (e ▸ H5.out.1.log.kl)))
 ·exact Nat.lt_of_lt_of_le (H5.out.1.flt k hk) (Nat.le_trans k4 g7.size)
 ·exact Nat.lt_of_lt_of_le (H5.out.1.klt k hk) (Nat.le_trans k4 g7.size)
 ·have g1 : Fr (fun k => F k \/ Kl k) w w1.drew := Fr.of_below H2.out.2 _
  have g3 : Fr (fun k => F k \/ Kl k) w w3 := g1.trans (w3 := w3) (G := F) ⟨H4.out.2.1.os, H4.out.2.1.tape, H4.out.2.1.output, H4.out.2.1.size, H4.out.2.1.block⟩ (fun _ _ h => .inl h)
  have g4 : Fr (fun k => F k \/ Kl k) w w4 := g3.trans H5.out.2.1 (fun k hk hF => .inl (H4.out.2.2 k (Nat.lt_of_lt_of_le hk k1) hF))
  exact (g4.trans (Fr.of_below H6.out.2 Kl) (fun _ _ h => .inr h)).trans g7 (fun k hk e => by rw [e]; exact .inr H6.out.1.kl)
 ·have q1 : k < w1.drew.heap.size := Nat.lt_of_lt_of_le hk k1
  exact H4.out.2.2 k q1 (H5.out.2.2 k (Nat.lt_of_lt_of_le q1 k2) hF)
end
end Go.Proofs.YtkgaeoeibjoljaaGreatDoor
