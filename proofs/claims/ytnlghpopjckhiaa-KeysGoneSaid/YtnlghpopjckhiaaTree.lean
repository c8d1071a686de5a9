/-
  A region that draws its order and in which TWO effects may be ready at once: a tree of orders.
-/
import Derived.Test.YtnlghpopjckhiaaRegion
namespace Go.Proofs.Ytnlghpopjckhiaa
set_option maxRecDepth 4000

inductive Tree
  | leaf
  | read (i : Nat) (t : Tree)
  | one (i : Nat) (t : Tree)
  | two (i : Nat) (t : Tree) (j : Nat) (u : Tree)
def Tree.len : Tree → Nat
  | .leaf => 0
  | .read _ t => t.len + 1
  | .one _ t => t.len + 1
  | .two _ t _ _ => t.len + 1

section
variable {P : Program} {ops : Array Oper} {Q : Exit → Act → World → Prop} {S : World → Prop} {need : Nat → Bool}

/-- Along the tree. -/
def wpTree (P : Program) (ops : Array Oper) (Q : Exit → Act → World → Prop) (S : World → Prop) (need : Nat → Bool) : Tree → Act → World → Prop
  | .leaf, a, w => Q .normal a w
  | .read i t, a, w => ∃ o v, ops[i]? = some o ∧ YieldsIf P ops S o v a ∧ S w ∧ (∀ c a w, Q (.panic c) (a.put o.dst v) w → Q (.panic c) a w) ∧ wpTree P ops Q S need t (a.put o.dst v) w
  | .one i t, a, w => wpOp P ops Q i (fun a' w' => (need i = true → S w') ∧ wpTree P ops Q S need t a' w') a w
  | .two i t j u, a, w => wpOp P ops Q i (fun a' w' => (need i = true → S w') ∧ wpTree P ops Q S need t a' w') a w ∧ wpOp P ops Q j (fun a' w' => (need j = true → S w') ∧ wpTree P ops Q S need u a' w') a w

def treeOk (rows : List Row) (need : Nat) : Tree → Nat → Bool
  | .leaf, L => allIx (fun j r => L.testBit j || !within r.2.2.1 L) 0 rows
  | .read i t, L => readyB rows i L && (match rows[i]? with
      | some ri => allIx (fun j r => j == i || L.testBit j || r.2.2.2.testBit i || (apartB ri r && need.testBit j)) 0 rows
      | none => false) && treeOk rows need t (L ||| 1 <<< i)
  | .one i t, L => readyB rows i L && allIx (fun j r => j == i || L.testBit j || !within r.2.2.1 L) 0 rows && treeOk rows need t (L ||| 1 <<< i)
  | .two i t k u, L => readyB rows i L && readyB rows k L && (t.len == u.len) && allIx (fun j r => j == i || j == k || L.testBit j || !within r.2.2.1 L) 0 rows && treeOk rows need t (L ||| 1 <<< i) && treeOk rows need u (L ||| 1 <<< k)

theorem wpN_of_tree (hs : Region.noSelect ops = true) {rows : List Row} (h : rows.map Row.three = ops.toList.map (Go.Proofs.Ytnlghpopjckhiaa.rowOf ops)) (hR : reachOk rows = true) (need : Nat) : ∀ (t : Tree) (listed : Array Bool) (L : Nat) (a : Act) (w : World), Closed ops listed → Mirrors ops listed L →
    treeOk rows need t L = true → wpTree P ops Q S need.testBit t a w → wpN P ops Q S need.testBit t.len listed a w := by
  intro t
  induction t with
  | leaf =>
    intro listed L a w _ hm hok hp
    refine ⟨List.eq_nil_iff_forall_not_mem.2 fun j hj => ?_, hp⟩
    obtain ⟨r, hr⟩ := ready_row h hj
    have h1 := allIx_spec _ rows 0 hok j r hr
    have h2 := (ready_iff h hm hr).1 hj
    rw [Nat.zero_add, h2.1, h2.2] at h1
    cases h1
  | read i t ih =>
    intro listed L a w hcl hm hok hp
    simp only [treeOk, Bool.and_eq_true] at hok
    obtain ⟨⟨hr, hf⟩, hrest⟩ := hok
    obtain ⟨hr', hlt⟩ := readyB_spec h hm hr
    obtain ⟨o, v, ho, hy, hS, hQ, hw⟩ := hp
    obtain ⟨ri, hri, ei⟩ := row_at h ho
    rw [hri] at hf
    refine wpN_first ho (Region.noSelect_spec hs) hQ (fun j => match rows[j]? with | some r => r.2.2.2.testBit i | none => false) ?_ t.len listed a w hcl ?_ hr' hy hS (ih _ _ _ _ (hcl.set hr') (hm.set hlt) hrest hw)
    · intro listed hc j oj hj hall hwt
      obtain ⟨r, hr, -⟩ := row_at h hj
      simp only [hr] at hwt
      exact reach_listed h hR hc (j + 1) j oj r (by omega) hj hr hall i hwt
    · intro j oj hj hji hun hno
      obtain ⟨r, hr, ej⟩ := row_at h hj
      have h1 := allIx_spec _ rows 0 hf j r hr
      simp only [hr] at hno
      rw [Nat.zero_add, ← (hm.2.1 j (Array.getElem?_eq_some_iff.1 hj).1).1, hun, hno] at h1
      simp only [Bool.or_false, Bool.or_eq_true, beq_iff_eq, Bool.and_eq_true] at h1
      rcases h1 with h1 | h1
      · exact absurd h1 hji
      · exact ⟨apart_of ei ej h1.1, h1.2⟩
  | one i t ih =>
    intro listed L a w hcl hm hok hp
    simp only [treeOk, Bool.and_eq_true] at hok
    obtain ⟨⟨hr, hf⟩, hrest⟩ := hok
    obtain ⟨hr', hlt⟩ := readyB_spec h hm hr
    refine ⟨fun h0 => (by rw [h0] at hr'; cases hr'), fun j hj => ?_⟩
    obtain ⟨r, hrj⟩ := ready_row h hj
    have h1 := allIx_spec _ rows 0 hf j r hrj
    have h2 := (ready_iff h hm hrj).1 hj
    rw [Nat.zero_add, h2.1, h2.2] at h1
    have hji : j = i := by simpa using h1
    subst hji
    exact wpOp_mono (fun a' w' h' => ⟨h'.1, ih _ _ _ _ (hcl.set hr') (hm.set hlt) hrest h'.2⟩) hp
  | two i t k u iht ihu =>
    intro listed L a w hcl hm hok hp
    simp only [treeOk, Bool.and_eq_true, beq_iff_eq] at hok
    obtain ⟨⟨⟨⟨⟨hr, hrk⟩, hlen⟩, hf⟩, ht⟩, hu⟩ := hok
    obtain ⟨hr', hlt⟩ := readyB_spec h hm hr
    obtain ⟨hrk', hltk⟩ := readyB_spec h hm hrk
    refine ⟨fun h0 => (by rw [h0] at hr'; cases hr'), fun j hj => ?_⟩
    obtain ⟨r, hrj⟩ := ready_row h hj
    have h1 := allIx_spec _ rows 0 hf j r hrj
    have h2 := (ready_iff h hm hrj).1 hj
    rw [Nat.zero_add, h2.1, h2.2] at h1
    have hji : j = i ∨ j = k := by simpa using h1
    rcases hji with rfl | rfl
    · exact wpOp_mono (fun a' w' h' => ⟨h'.1, iht _ _ _ _ (hcl.set hr') (hm.set hlt) ht h'.2⟩) hp.1
    · refine wpOp_mono (fun a' w' h' => ⟨h'.1, ?_⟩) hp.2
      rw [hlen]
      exact ihu _ _ _ _ (hcl.set hrk') (hm.set hltk) hu h'.2

/-- AT A REGION THAT DRAWS: the tree checked by masks. -/
theorem region_tree {id : Nat} {a : Act} {w : World} (t : Tree) (needs : List Nat) (need : Nat) (rows : List Row) (S : World → Prop) (hN : bitsOf needs = need) (hm : P.follows .mixedOrders = true) (hs : Region.noSelect ops = true) (hz : t.len = ops.size)
    (hr : rows.map Row.three = ops.toList.map (Go.Proofs.Ytnlghpopjckhiaa.rowOf ops)) (hok : (reachOk rows && treeOk rows need t 0) = true) (hS : S w.drew) (h : S w.drew → wpTree P ops Q S (fun i => needs.contains i) t a w.drew) : (Code.region id ops true).wp P Q a w := by
  rw [Bool.and_eq_true] at hok
  have e : (fun i => needs.contains i) = need.testBit := by
    funext i
    rw [← hN, Bool.eq_iff_iff, bitsOf_test]
    simp
  rw [e] at h
  exact wp_region_any hm (wpAny_of_N _ _ _ _ (hz ▸ wpN_of_tree hs hr hok.1 need t _ 0 a w.drew (Closed.start ops) (Mirrors.start ops) hok.2 (h hS)))

/-! ### The moves -/
theorem tree_leaf {a : Act} {w : World} (h : Q .normal a w) : wpTree P ops Q S need .leaf a w := h
theorem tree_read {i : Nat} {o : Oper} {v : Value} {t : Tree} {a : Act} {w : World} (ho : ops.toList[i]? = some o) (hQ : ∀ c a w, Q (.panic c) (a.put o.dst v) w → Q (.panic c) a w)
    (hg : Region.wanted o (yielded ops a.tmps) = true) (hS : S w) (hy : ∀ w, S w → (execOp a.eval o).run P w = .ok (.value v) w) (h : wpTree P ops Q S need t (a.put o.dst v) w) : wpTree P ops Q S need (.read i t) a w :=
  ⟨o, v, at_list ho, .inl ⟨hg, hy⟩, hS, hQ, h⟩
theorem tree_skip {i : Nat} {o : Oper} {t : Tree} {a : Act} {w : World} (ho : ops.toList[i]? = some o) (hQ : ∀ c a w, Q (.panic c) (a.put o.dst undef) w → Q (.panic c) a w)
    (hg : Region.wanted o (yielded ops a.tmps) = false) (hS : S w) (h : wpTree P ops Q S need t (a.put o.dst undef) w) : wpTree P ops Q S need (.read i t) a w :=
  ⟨o, undef, at_list ho, .inr ⟨hg, rfl⟩, hS, hQ, h⟩
theorem tree_do {i : Nat} {o : Oper} {t : Tree} {a : Act} {w : World} (ho : ops.toList[i]? = some o) (hg : Region.wanted o (yielded ops a.tmps) = true)
    (h : ∀ K : Act → World → Prop, Shut (∀ a w, (need i = true → S w) → ((need i = true → S w) → wpTree P ops Q S need t a w) → K a w) → o.wp P a w K Q) : wpTree P ops Q S need (.one i t) a w := by
  refine wpOp_step (at_list ho) (fun K' hK => ?_)
  rw [if_pos hg]
  exact h K' (fun a w h1 h2 => hK a w ⟨h1, h2 h1⟩)
theorem tree_two {i j : Nat} {t u : Tree} {a : Act} {w : World} (h1 : wpTree P ops Q S need (.one i t) a w) (h2 : wpTree P ops Q S need (.one j u) a w) : wpTree P ops Q S need (.two i t j u) a w := ⟨h1, h2⟩
/-- The act and the world behind a code are the same on every way. -/
theorem wp_at {c : Code} {Q' : Exit → Act → World → Prop} {a : Act} {w : World} (A : Act) (W : World) (h : c.wp P (fun e a' w' => e = .normal ∧ a' = A ∧ w' = W) a w) (hq : Q' .normal A W) : c.wp P Q' a w :=
  wp_mono h (by rintro _ _ _ ⟨rfl, rfl, rfl⟩; exact hq)
end
end Go.Proofs.Ytnlghpopjckhiaa
