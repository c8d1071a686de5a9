/-
  What follows from terms, as plain lists: the search's steps, the document's rounds; both find the same. No program in sight.
-/
import Derived.Test.YtphhlfochapecaaDoorTermP
namespace Go.Proofs.YtphhlfochapecaaDoor
set_option maxRecDepth 4000

structure Wy where
  t : Int
  h : Int
  o : Int
deriving DecidableEq

/-- What follows from what is given. -/
inductive Fol (l : List Tm) (gv : List Int) : Nat → Prop
  | given (n : Nat) : (n : Int) ∈ gv → n < l.length → Fol l gv n
  | left (p : Nat) (t : Tm) : l[p]? = some t → t.k = 2 → Fol l gv p → Fol l gv t.x.toNat
  | right (p : Nat) (t : Tm) : l[p]? = some t → t.k = 2 → Fol l gv p → Fol l gv t.y.toNat
  | open_ (p : Nat) (t : Tm) : l[p]? = some t → t.k = 4 → Fol l gv p → Fol l gv t.x.toNat → Fol l gv t.y.toNat
  | hash (n : Nat) (t : Tm) : l[n]? = some t → t.k = 3 → Fol l gv t.x.toNat → Fol l gv n
  | pair (n : Nat) (t : Tm) : l[n]? = some t → t.k = 2 → Fol l gv t.x.toNat → Fol l gv t.y.toNat → Fol l gv n
  | sealed (n : Nat) (t : Tm) : l[n]? = some t → t.k = 4 → Fol l gv t.x.toNat → Fol l gv t.y.toNat → Fol l gv n

abbrev at_ (k : List Bool) (n : Nat) : Bool := k.getD n false

/-- No rule at n gives anything new. -/
def ShutAt (l : List Tm) (k : List Bool) (n : Nat) : Prop :=
  ∀ t, l[n]? = some t →
    (t.k = 3 → at_ k t.x.toNat = true → at_ k n = true) ∧
    (t.k = 2 → at_ k t.x.toNat = true → at_ k t.y.toNat = true → at_ k n = true) ∧
    (t.k = 4 → at_ k t.x.toNat = true → at_ k t.y.toNat = true → at_ k n = true) ∧
    (t.k = 2 → at_ k n = true → at_ k t.x.toNat = true ∧ at_ k t.y.toNat = true) ∧
    (t.k = 4 → at_ k n = true → at_ k t.x.toNat = true → at_ k t.y.toNat = true)

theorem fol_shut {l : List Tm} {gv : List Int} {k : List Bool} (hg : ∀ n : Nat, (n : Int) ∈ gv → n < l.length → at_ k n = true) (hs : ∀ n, ShutAt l k n) {n : Nat} (h : Fol l gv n) : at_ k n = true := by
  induction h with
  | given n h1 h2 => exact hg n h1 h2
  | left p t h1 h2 _ ih => exact ((hs p t h1).2.2.2.1 h2 ih).1
  | right p t h1 h2 _ ih => exact ((hs p t h1).2.2.2.1 h2 ih).2
  | open_ p t h1 h2 _ _ i1 i2 => exact (hs p t h1).2.2.2.2 h2 i1 i2
  | hash n t h1 h2 _ ih => exact (hs n t h1).1 h2 ih
  | pair n t h1 h2 _ _ i1 i2 => exact (hs n t h1).2.1 h2 i1 i2
  | sealed n t h1 h2 _ _ i1 i2 => exact (hs n t h1).2.2.1 h2 i1 i2
theorem fol_lt {l : List Tm} (hp : Pool l) {gv : List Int} {n : Nat} (h : Fol l gv n) : n < l.length := by
  induction h with
  | given n h1 h2 => exact h2
  | left p t h1 h2 _ ih => have := okT_x (hp.right p t h1) (by omega); omega
  | right p t h1 h2 _ ih => have := okT_y (hp.right p t h1) (by omega) (by omega); omega
  | open_ p t h1 h2 _ _ i1 i2 => have := okT_y (hp.right p t h1) (by omega) (by omega); omega
  | hash n t h1 h2 _ ih => exact (List.getElem?_eq_some_iff.1 h1).1
  | pair n t h1 h2 _ _ i1 i2 => exact (List.getElem?_eq_some_iff.1 h1).1
  | sealed n t h1 h2 _ _ i1 i2 => exact (List.getElem?_eq_some_iff.1 h1).1
theorem fol_mono {l : List Tm} {g1 g2 : List Int} (hs : ∀ x, x ∈ g1 → x ∈ g2) {n : Nat} (h : Fol l g1 n) : Fol l g2 n := by
  induction h with
  | given n h1 h2 => exact .given n (hs _ h1) h2
  | left p t h1 h2 _ ih => exact .left p t h1 h2 ih
  | right p t h1 h2 _ ih => exact .right p t h1 h2 ih
  | open_ p t h1 h2 _ _ i1 i2 => exact .open_ p t h1 h2 i1 i2
  | hash n t h1 h2 _ ih => exact .hash n t h1 h2 ih
  | pair n t h1 h2 _ _ i1 i2 => exact .pair n t h1 h2 i1 i2
  | sealed n t h1 h2 _ _ i1 i2 => exact .sealed n t h1 h2 i1 i2
theorem fol_again {l : List Tm} {g1 g2 : List Int} (hs : ∀ x : Nat, (x : Int) ∈ g2 → x < l.length → Fol l g1 x) {n : Nat} (h : Fol l g2 n) : Fol l g1 n := by
  induction h with
  | given n h1 h2 => exact hs n h1 h2
  | left p t h1 h2 _ ih => exact .left p t h1 h2 ih
  | right p t h1 h2 _ ih => exact .right p t h1 h2 ih
  | open_ p t h1 h2 _ _ i1 i2 => exact .open_ p t h1 h2 i1 i2
  | hash n t h1 h2 _ ih => exact .hash n t h1 h2 ih
  | pair n t h1 h2 _ _ i1 i2 => exact .pair n t h1 h2 i1 i2
  | sealed n t h1 h2 _ _ i1 i2 => exact .sealed n t h1 h2 i1 i2

/-! ### The document's rounds -/
def markD (k : List Bool) (n : Nat) : List Bool := k.set n true
def stepD (l : List Tm) (k : List Bool) (n : Nat) : List Bool :=
  match l[n]? with
  | none => k
  | some t =>
    let k1 := if (t.k = 3 ∧ at_ k t.x.toNat = true) ∨ ((t.k = 2 ∨ t.k = 4) ∧ at_ k t.x.toNat = true ∧ at_ k t.y.toNat = true) then k.set n true else k
    let k2 := if at_ k1 n = true ∧ t.k = 2 then (k1.set t.x.toNat true).set t.y.toNat true else k1
    if at_ k2 n = true ∧ t.k = 4 ∧ at_ k2 t.x.toNat = true then k2.set t.y.toNat true else k2
def passD (l : List Tm) (k : List Bool) : List Bool := (List.range l.length).foldl (stepD l) k
def startD (n : Nat) (gv : List Int) : List Bool := gv.foldl (fun k (x : Int) => if 0 ≤ x ∧ x < n then k.set x.toNat true else k) (List.replicate n false)
def timesD (l : List Tm) : Nat → List Bool → List Bool
  | 0, k => k
  | r + 1, k => passD l (timesD l r k)
def clo (l : List Tm) (gv : List Int) : List Bool := timesD l l.length (startD l.length gv)

/-- Everything of a is in b. -/
def Sub (a b : List Bool) : Prop := a.length = b.length ∧ ∀ n, at_ a n = true → at_ b n = true
theorem Sub.refl (a : List Bool) : Sub a a := ⟨rfl, fun _ h => h⟩
theorem Sub.trans {a b c : List Bool} (h : Sub a b) (k : Sub b c) : Sub a c := ⟨h.1.trans k.1, fun n hn => k.2 n (h.2 n hn)⟩
theorem at_set (k : List Bool) (i n : Nat) : at_ (k.set i true) n = (at_ k n || (decide (i = n) && decide (i < k.length))) := by
  unfold at_
  rw [List.getD_eq_getElem?_getD, List.getD_eq_getElem?_getD, List.getElem?_set]
  by_cases h : i = n
  · subst h
    by_cases hl : i < k.length
    · simp [hl]
    · simp [hl]
  · simp [h]
theorem Sub.set (k : List Bool) (i : Nat) : Sub k (k.set i true) := ⟨by simp, fun n h => by rw [at_set, h]; rfl⟩
theorem stepD_sub (l : List Tm) (k : List Bool) (n : Nat) : Sub k (stepD l k n) := by
  unfold stepD
  cases l[n]? with
  | none => exact Sub.refl _
  | some t =>
    simp only
    have h1 : ∀ (c : Prop) [Decidable c], Sub k (if c then k.set n true else k) := fun c _ => by split <;> first | exact Sub.refl _ | exact Sub.set _ _
    have h2 : ∀ (c : Prop) [Decidable c] (k : List Bool), Sub k (if c then (k.set t.x.toNat true).set t.y.toNat true else k) := fun c _ k => by split <;> first | exact Sub.refl _ | exact (Sub.set _ _).trans (Sub.set _ _)
    have h3 : ∀ (c : Prop) [Decidable c] (k : List Bool), Sub k (if c then k.set t.y.toNat true else k) := fun c _ k => by split <;> first | exact Sub.refl _ | exact Sub.set _ _
    exact ((h1 _).trans (h2 _ _)).trans (h3 _ _)
theorem foldl_sub {α : Type} (f : List Bool → α → List Bool) (h : ∀ k x, Sub k (f k x)) : ∀ (xs : List α) (k : List Bool), Sub k (xs.foldl f k)
  | [], k => Sub.refl k
  | x :: xs, k => (h k x).trans (foldl_sub f h xs (f k x))
theorem passD_sub (l : List Tm) (k : List Bool) : Sub k (passD l k) := foldl_sub _ (stepD_sub l) _ _
theorem timesD_sub (l : List Tm) (r : Nat) (k : List Bool) : Sub k (timesD l r k) := by
  induction r with
  | zero => exact Sub.refl _
  | succ r ih => exact ih.trans (passD_sub l _)
theorem length_clo (l : List Tm) (gv : List Int) : (clo l gv).length = l.length := by
  rw [clo, ← (timesD_sub l _ _).1, startD, ← (foldl_sub _ (fun k x => ?_) _ _).1, List.length_replicate]
  split
  · exact Sub.set _ _
  · exact Sub.refl _

def cnt (k : List Bool) : Nat := k.countP id
theorem cnt_le (k : List Bool) : cnt k ≤ k.length := List.countP_le_length
theorem sub_cons {x y : Bool} {a b : List Bool} (h : Sub (x :: a) (y :: b)) : (x = true → y = true) ∧ Sub a b := by
  refine ⟨fun hx => ?_, by simpa using h.1, fun n hn => ?_⟩
  · simpa [at_] using h.2 0 (by simpa [at_] using hx)
  · simpa [at_] using h.2 (n + 1) (by simpa [at_] using hn)
theorem cnt_sub : ∀ {a b : List Bool}, Sub a b → cnt a ≤ cnt b ∧ (cnt a = cnt b → a = b)
  | [], [], _ => ⟨Nat.le_refl _, fun _ => rfl⟩
  | [], b :: bs, h => by have := h.1; simp at this
  | a :: as, [], h => by have := h.1; simp at this
  | x :: a, y :: b, h => by
    obtain ⟨h1, h2⟩ := sub_cons h
    obtain ⟨i1, i2⟩ := cnt_sub h2
    have hc : ∀ (z : Bool) (c : List Bool), cnt (z :: c) = cnt c + (if z then 1 else 0) := fun z c => by simp [cnt, List.countP_cons]
    rw [hc, hc]
    cases x <;> cases y <;> simp_all <;> omega
/-- Behind as many rounds as there are terms nothing turns any more. -/
theorem times_grow (l : List Tm) (k : List Bool) (r : Nat) : passD l (timesD l r k) = timesD l r k ∨ r ≤ cnt (timesD l r k) := by
  induction r with
  | zero => exact .inr (Nat.zero_le _)
  | succ r ih =>
    show passD l (passD l (timesD l r k)) = passD l (timesD l r k) ∨ r + 1 ≤ cnt (passD l (timesD l r k))
    rcases ih with h | h
    · exact .inl (by rw [h, h])
    · obtain ⟨h1, h2⟩ := cnt_sub (passD_sub l (timesD l r k))
      rcases Nat.lt_or_ge r (cnt (passD l (timesD l r k))) with h3 | h3
      · exact .inr h3
      · left
        have := h2 (by omega)
        rw [← this, ← this]
theorem full_of_cnt {k : List Bool} (h : k.length ≤ cnt k) : ∀ n, n < k.length → at_ k n = true := by
  intro n hn
  have := (List.countP_eq_length (p := id) (l := k)).1 (Nat.le_antisymm (cnt_le k) h)
  unfold at_
  rw [List.getD_eq_getElem?_getD, List.getElem?_eq_getElem hn]
  simpa using this _ (List.getElem_mem hn)
theorem clo_fix (l : List Tm) (gv : List Int) : passD l (clo l gv) = clo l gv := by
  rcases times_grow l (startD l.length gv) l.length with h | h
  · exact h
  · have hl := length_clo l gv
    have hs := passD_sub l (clo l gv)
    apply Eq.symm
    apply (cnt_sub hs).2
    apply Nat.le_antisymm (cnt_sub hs).1
    have := cnt_le (passD l (clo l gv))
    rw [← hs.1, hl] at this
    exact Nat.le_trans this h

theorem foldl_fix {α : Type} (f : List Bool → α → List Bool) (h : ∀ k x, Sub k (f k x)) : ∀ (xs : List α) (k : List Bool), xs.foldl f k = k → ∀ x ∈ xs, f k x = k
  | [], _, _, x, hx => by cases hx
  | y :: xs, k, e, x, hx => by
    have h1 := h k y
    have h2 := foldl_sub f h xs (f k y)
    rw [List.foldl_cons] at e
    rw [e] at h2
    have hk : f k y = k := ((cnt_sub h1).2 (Nat.le_antisymm (cnt_sub h1).1 (cnt_sub h2).1)).symm
    rw [List.mem_cons] at hx
    rcases hx with rfl | hx
    · exact hk
    · rw [hk] at e
      exact foldl_fix f h xs k e x hx
theorem at_lt {k : List Bool} {n : Nat} (h : at_ k n = true) : n < k.length := by
  unfold at_ at h
  rw [List.getD_eq_getElem?_getD] at h
  rcases Nat.lt_or_ge n k.length with hn | hn
  · exact hn
  · rw [List.getElem?_eq_none hn] at h; cases h
/-- Where a step of a round turns nothing no rule gives anything new. -/
theorem shut_of_step {l : List Tm} (hp : Pool l) {k : List Bool} (hl : k.length = l.length) {n : Nat} (h : stepD l k n = k) : ShutAt l k n := by
  intro t ht
  have hn := (List.getElem?_eq_some_iff.1 ht).1
  have hr := hp.right n t ht
  unfold stepD at h
  rw [ht] at h
  simp only at h
  obtain ⟨c1, hc1⟩ : ∃ c, c = (if (t.k = 3 ∧ at_ k t.x.toNat = true) ∨ ((t.k = 2 ∨ t.k = 4) ∧ at_ k t.x.toNat = true ∧ at_ k t.y.toNat = true) then k.set n true else k) := ⟨_, rfl⟩
  rw [← hc1] at h
  obtain ⟨c2, hc2⟩ : ∃ c, c = (if at_ c1 n = true ∧ t.k = 2 then (c1.set t.x.toNat true).set t.y.toNat true else c1) := ⟨_, rfl⟩
  rw [← hc2] at h
  have s1 : Sub k c1 := by rw [hc1]; split <;> first | exact Sub.refl _ | exact Sub.set _ _
  have s2 : Sub c1 c2 := by rw [hc2]; split <;> first | exact Sub.refl _ | exact (Sub.set _ _).trans (Sub.set _ _)
  have s3 : Sub c2 k := by
    have : Sub c2 (if at_ c2 n = true ∧ t.k = 4 ∧ at_ c2 t.x.toNat = true then c2.set t.y.toNat true else c2) := by split <;> first | exact Sub.refl _ | exact Sub.set _ _
    rwa [h] at this
  have e1 : c1 = k := ((cnt_sub s1).2 (Nat.le_antisymm (cnt_sub s1).1 (cnt_sub (s2.trans s3)).1)).symm
  subst e1
  have e2 : c2 = c1 := ((cnt_sub s2).2 (Nat.le_antisymm (cnt_sub s2).1 (cnt_sub s3).1)).symm
  subst e2
  have hset : ∀ i, i < l.length → at_ (c2.set i true) i = true := fun i hi => by rw [at_set]; simp [hl, hi]
  refine ⟨fun h1 h2 => ?_, fun h1 h2 h3 => ?_, fun h1 h2 h3 => ?_, fun h1 h2 => ?_, fun h1 h2 h3 => ?_⟩
  · rw [hc1, if_pos (.inl ⟨h1, h2⟩)]; exact hset n hn
  · rw [hc1, if_pos (.inr ⟨.inl h1, h2, h3⟩)]; exact hset n hn
  · rw [hc1, if_pos (.inr ⟨.inr h1, h2, h3⟩)]; exact hset n hn
  · rw [if_pos ⟨h2, h1⟩] at hc2
    have hx := okT_x hr (by omega)
    have hy := okT_y hr (by omega) (by omega)
    rw [hc2]
    refine ⟨?_, ?_⟩
    · rw [at_set, hset _ (by omega)]; rfl
    · rw [at_set]; simp [hl]; right; omega
  · rw [if_pos ⟨h2, h1, h3⟩] at h
    have hy := okT_y hr (by omega) (by omega)
    rw [← h]
    exact hset _ (by omega)

theorem startD_at (n : Nat) (gv : List Int) (i : Nat) : at_ (startD n gv) i = true ↔ i < n ∧ (i : Int) ∈ gv := by
  unfold startD
  suffices h : ∀ (gv : List Int) (k : List Bool), k.length = n → (at_ (gv.foldl (fun k (x : Int) => if 0 ≤ x ∧ x < n then k.set x.toNat true else k) k) i = true ↔ at_ k i = true ∨ (i < n ∧ (i : Int) ∈ gv)) by
    rw [h gv _ (by simp)]
    have : at_ (List.replicate n false) i = false := by
      unfold at_
      rw [List.getD_eq_getElem?_getD, List.getElem?_replicate]
      split <;> rfl
    rw [this]
    simp
  intro gv
  induction gv with
  | nil => intro k _; simp
  | cons x gv ih =>
    intro k hk
    rw [List.foldl_cons]
    split
    · rename_i hx
      rw [ih _ (by simpa using hk), at_set, hk]
      simp only [Bool.or_eq_true, Bool.and_eq_true, decide_eq_true_eq, List.mem_cons]
      constructor
      · rintro ((h | h) | h)
        · exact .inl h
        · exact .inr ⟨by omega, .inl (by omega)⟩
        · exact .inr ⟨h.1, .inr h.2⟩
      · rintro (h | ⟨h1, h2 | h2⟩)
        · exact .inl (.inl h)
        · exact .inl (.inr (by omega))
        · exact .inr ⟨h1, h2⟩
    · rename_i hx
      rw [ih _ hk]
      simp only [List.mem_cons]
      constructor
      · rintro (h | h)
        · exact .inl h
        · exact .inr ⟨h.1, .inr h.2⟩
      · rintro (h | ⟨h1, h2 | h2⟩)
        · exact .inl h
        · omega
        · exact .inr ⟨h1, h2⟩

/-- All that is marked follows. -/
def Sound (l : List Tm) (gv : List Int) (k : List Bool) : Prop := k.length = l.length ∧ ∀ n, at_ k n = true → Fol l gv n
theorem Sound.set {l : List Tm} {gv : List Int} {k : List Bool} (h : Sound l gv k) {i : Nat} (hi : Fol l gv i) : Sound l gv (k.set i true) := by
  refine ⟨by simpa using h.1, fun n hn => ?_⟩
  rw [at_set] at hn
  simp only [Bool.or_eq_true, Bool.and_eq_true, decide_eq_true_eq] at hn
  rcases hn with hn | ⟨rfl, _⟩
  · exact h.2 n hn
  · exact hi
theorem stepD_sound {l : List Tm} {gv : List Int} {k : List Bool} (h : Sound l gv k) (n : Nat) : Sound l gv (stepD l k n) := by
  unfold stepD
  cases ht : l[n]? with
  | none => exact h
  | some t =>
    simp only
    have h1 : Sound l gv (if (t.k = 3 ∧ at_ k t.x.toNat = true) ∨ ((t.k = 2 ∨ t.k = 4) ∧ at_ k t.x.toNat = true ∧ at_ k t.y.toNat = true) then k.set n true else k) := by
      split
      · rename_i hc
        refine h.set ?_
        rcases hc with ⟨a, b⟩ | ⟨a | a, b, c⟩
        · exact .hash n t ht a (h.2 _ b)
        · exact .pair n t ht a (h.2 _ b) (h.2 _ c)
        · exact .sealed n t ht a (h.2 _ b) (h.2 _ c)
      · exact h
    revert h1
    generalize (if (t.k = 3 ∧ at_ k t.x.toNat = true) ∨ ((t.k = 2 ∨ t.k = 4) ∧ at_ k t.x.toNat = true ∧ at_ k t.y.toNat = true) then k.set n true else k) = k1
    intro h1
    have h2 : Sound l gv (if at_ k1 n = true ∧ t.k = 2 then (k1.set t.x.toNat true).set t.y.toNat true else k1) := by
      split
      · rename_i hc
        exact (h1.set (.left n t ht hc.2 (h1.2 _ hc.1))).set (.right n t ht hc.2 (h1.2 _ hc.1))
      · exact h1
    revert h2
    generalize (if at_ k1 n = true ∧ t.k = 2 then (k1.set t.x.toNat true).set t.y.toNat true else k1) = k2
    intro h2
    split
    · rename_i hc
      exact h2.set (.open_ n t ht hc.2.1 (h2.2 _ hc.1) (h2.2 _ hc.2.2))
    · exact h2
theorem clo_sound (l : List Tm) (gv : List Int) : Sound l gv (clo l gv) := by
  have h0 : Sound l gv (startD l.length gv) := ⟨by
    rw [startD, ← (foldl_sub _ (fun k x => ?_) _ _).1, List.length_replicate]
    split
    · exact Sub.set _ _
    · exact Sub.refl _, fun n hn => by
    have := (startD_at _ _ _).1 hn
    exact .given n this.2 this.1⟩
  have h1 : ∀ (xs : List Nat) k, Sound l gv k → Sound l gv (xs.foldl (stepD l) k) := by
    intro xs
    induction xs with
    | nil => intro k h; exact h
    | cons x xs ih => intro k h; exact ih _ (stepD_sound h x)
  have h2 : ∀ r, Sound l gv (timesD l r (startD l.length gv)) := by
    intro r
    induction r with
    | zero => exact h0
    | succ r ih => exact h1 _ _ ih
  exact h2 _
theorem clo_iff {l : List Tm} (hp : Pool l) (gv : List Int) (n : Nat) : at_ (clo l gv) n = true ↔ Fol l gv n := by
  refine ⟨fun h => (clo_sound l gv).2 n h, fun h => ?_⟩
  refine fol_shut (fun n h1 h2 => ?_) (fun n => ?_) h
  · exact (timesD_sub l _ _).2 n ((startD_at _ _ _).2 ⟨h2, h1⟩)
  · rcases Nat.lt_or_ge n l.length with hn | hn
    · exact shut_of_step hp (length_clo l gv) (foldl_fix _ (stepD_sub l) _ _ (clo_fix l gv) n (List.mem_range.2 hn))
    · intro t ht
      rw [List.getElem?_eq_none hn] at ht
      cases ht
end Go.Proofs.YtphhlfochapecaaDoor
