/-
  The plain law of a heap of dues.
-/
import Derived.Test.YtaapdkeipknilaaDue3
namespace Go.Proofs.Ytaapdkeipknilaa
set_option maxRecDepth 4000

def LE (x y : Int × Int) : Prop := x.1 < y.1 ∨ (x.1 = y.1 ∧ x.2 ≤ y.2)
instance (x y : Int × Int) : Decidable (LE x y) := by unfold LE; exact inferInstance
theorem LE.refl (x : Int × Int) : LE x x := .inr ⟨rfl, Int.le_refl _⟩
theorem LE.trans {x y z : Int × Int} (h : LE x y) (k : LE y z) : LE x z := by unfold LE at *; omega
theorem LE.total (x y : Int × Int) : LE x y ∨ LE y x := by unfold LE; omega
theorem LE.anti {x y : Int × Int} (h : LE x y) (k : LE y x) : x = y := by
  unfold LE at *
  exact Prod.ext (by omega) (by omega)
theorem LE.of_not {x y : Int × Int} (h : ¬ LE x y) : LE y x := (LE.total x y).resolve_left h
theorem cmpD_neg (x y : Int × Int) : (cmpD x y < 0) ↔ ¬ LE y x := by
  unfold cmpD cmpI LE
  split
  · constructor
    · intro _; omega
    · intro _; decide
  · split
    · constructor
      · intro h; exact absurd h (by decide)
      · intro h; omega
    · split
      · constructor
        · intro _; omega
        · intro _; decide
      · split
        · constructor
          · intro h; exact absurd h (by decide)
          · intro h; omega
        · constructor
          · intro h; exact absurd h (by decide)
          · intro h; omega

def gg (l : List (Int × Int)) (k : Nat) : Int × Int := l.getD k (0, 0)
theorem gg_get {l : List (Int × Int)} {k : Nat} (h : k < l.length) : l[k]? = some (gg l k) := by
  unfold gg
  rw [List.getD_eq_getElem?_getD, List.getElem?_eq_getElem h]
  rfl
theorem gg_eq {l : List (Int × Int)} {k : Nat} (h : k < l.length) : gg l k = l[k] := by
  unfold gg
  rw [List.getD_eq_getElem?_getD, List.getElem?_eq_getElem h]
  rfl
def sw (l : List (Int × Int)) (i j : Nat) : List (Int × Int) := swp l i j (gg l i) (gg l j)
@[simp] theorem sw_length (l : List (Int × Int)) (i j : Nat) : (sw l i j).length = l.length := by simp [sw, swp]
theorem sw_gg {l : List (Int × Int)} {i j : Nat} (hi : i < l.length) (hj : j < l.length) (k : Nat) : gg (sw l i j) k = if k = j then gg l i else if k = i then gg l j else gg l k := by
  unfold sw swp
  conv => lhs; unfold gg
  rw [List.getD_eq_getElem?_getD, List.getElem?_set, List.getElem?_set]
  split
  · rename_i h
    subst h
    simp [hj, gg]
  · rename_i h
    rw [if_neg (Ne.symm h)]
    split
    · rename_i h2
      subst h2
      rw [if_pos rfl]
      simp [hi, gg]
    · rename_i h2
      rw [if_neg (Ne.symm h2)]
      unfold gg
      rw [List.getD_eq_getElem?_getD]
theorem sw_perm {l : List (Int × Int)} {i j : Nat} (hi : i < l.length) (hj : j < l.length) : (sw l i j).Perm l := by
  unfold sw swp
  rw [gg_eq hi, gg_eq hj]
  exact List.set_set_perm hi hj

/-- A heap, of the first n. -/
def Hp (l : List (Int × Int)) (n : Nat) : Prop := ∀ k, 0 < k → k < n → LE (gg l ((k - 1) / 2)) (gg l k)
/-- A heap but for the edge above j. -/
def Up (l : List (Int × Int)) (n j : Nat) : Prop :=
  (∀ k, 0 < k → k < n → k ≠ j → LE (gg l ((k - 1) / 2)) (gg l k)) ∧ (∀ k, 0 < k → k < n → (k - 1) / 2 = j → 0 < j → LE (gg l ((j - 1) / 2)) (gg l k))
/-- A heap but for the edges at i; the one above it is good too if it was passed. -/
def Dn (l : List (Int × Int)) (n i0 i : Nat) : Prop :=
  (∀ k, 0 < k → k < n → k ≠ i → (k - 1) / 2 ≠ i → LE (gg l ((k - 1) / 2)) (gg l k)) ∧ (∀ k, 0 < k → k < n → (k - 1) / 2 = i → 0 < i → LE (gg l ((i - 1) / 2)) (gg l k)) ∧
  i0 ≤ i ∧ (i0 < i → LE (gg l ((i - 1) / 2)) (gg l i))
theorem Up.root {l : List (Int × Int)} {n : Nat} (h : Up l n 0) : Hp l n := fun k h0 hk => h.1 k h0 hk (by omega)
theorem Up.stop {l : List (Int × Int)} {n j : Nat} (h : Up l n j) (hle : LE (gg l ((j - 1) / 2)) (gg l j)) : Hp l n := fun k h0 hk => by
  by_cases e : k = j
  · subst e; exact hle
  · exact h.1 k h0 hk e
theorem Up.step {l : List (Int × Int)} {n j : Nat} (h : Up l n j) (hn : n ≤ l.length) (hj : j < n) (h0 : 0 < j) (hlt : ¬ LE (gg l ((j - 1) / 2)) (gg l j)) : Up (sw l ((j - 1) / 2) j) n ((j - 1) / 2) := by
  have hi : (j - 1) / 2 < j := by omega
  have G := sw_gg (l := l) (i := (j - 1) / 2) (j := j) (by omega) (by omega)
  have hji := LE.of_not hlt
  refine ⟨fun k k0 kn kne => ?_, fun k k0 kn kp i0 => ?_⟩
  · rw [G, G]
    by_cases hkj : k = j
    · subst hkj
      rw [if_neg (by omega), if_pos rfl, if_pos rfl]
      exact hji
    · rw [if_neg hkj, if_neg kne]
      by_cases hpj : (k - 1) / 2 = j
      · rw [if_pos hpj]
        exact h.2 k k0 kn hpj h0
      · rw [if_neg hpj]
        split
        · rename_i hpi
          have := h.1 k k0 kn hkj
          rw [hpi] at this
          exact hji.trans this
        · exact h.1 k k0 kn hkj
  · rw [G, G]
    have hb : LE (gg l (((j - 1) / 2 - 1) / 2)) (gg l ((j - 1) / 2)) := h.1 ((j - 1) / 2) i0 (by omega) (by omega)
    rw [if_neg (by omega), if_neg (by omega)]
    split
    · exact hb
    · rename_i hkj
      rw [if_neg (by omega)]
      have := h.1 k k0 kn hkj
      rw [kp] at this
      exact hb.trans this
theorem Dn.stop {l : List (Int × Int)} {n i0 i : Nat} (h : Dn l n i0 i) (hc : ∀ k, 0 < k → k < n → (k - 1) / 2 = i → LE (gg l i) (gg l k)) : Up l n i ∧ (i0 < i → Hp l n) := by
  have h1 : ∀ k, 0 < k → k < n → k ≠ i → LE (gg l ((k - 1) / 2)) (gg l k) := fun k k0 kn hk => by
    by_cases e : (k - 1) / 2 = i
    · have := hc k k0 kn e
      rw [e]
      exact this
    · exact h.1 k k0 kn hk e
  refine ⟨⟨h1, h.2.1⟩, fun hi k k0 kn => ?_⟩
  by_cases e : k = i
  · subst e; exact h.2.2.2 hi
  · exact h1 k k0 kn e
theorem Dn.step {l : List (Int × Int)} {n i0 i j : Nat} (h : Dn l n i0 i) (hn : n ≤ l.length) (hj : j < n) (h0 : 0 < j) (hp : (j - 1) / 2 = i) (hlt : ¬ LE (gg l i) (gg l j)) (hc : ∀ k, 0 < k → k < n → (k - 1) / 2 = i → LE (gg l j) (gg l k)) :
    Dn (sw l i j) n i0 j := by
  have hi : i < j := by omega
  have G := sw_gg (l := l) (i := i) (j := j) (by omega) (by omega)
  have hji := LE.of_not hlt
  refine ⟨fun k k0 kn kne kp => ?_, fun k k0 kn kp _ => ?_, by have := h.2.2.1; omega, fun _ => ?_⟩
  · rw [G, G, if_neg kp, if_neg kne]
    by_cases hpi : (k - 1) / 2 = i
    · rw [if_pos hpi, if_neg (by omega)]
      exact hc k k0 kn hpi
    · rw [if_neg hpi]
      split
      · rename_i hki
        subst hki
        exact h.2.1 j h0 hj hp k0
      · rename_i hki
        exact h.1 k k0 kn hki hpi
  · rw [G, G, hp, if_neg (by omega), if_pos rfl, if_neg (by omega), if_neg (by omega)]
    have := h.1 k k0 kn (by omega) (by omega)
    rw [kp] at this
    exact this
  · rw [G, G, hp, if_neg (by omega), if_pos rfl, if_pos rfl]
    exact hji
theorem Hp.min {l : List (Int × Int)} {n : Nat} (h : Hp l n) : ∀ k, k < n → LE (gg l 0) (gg l k) := by
  intro k
  induction k using Nat.strongRecOn with
  | ind k ih =>
    intro hk
    by_cases h0 : k = 0
    · subst h0; exact LE.refl _
    · exact (ih ((k - 1) / 2) (by omega) (by omega)).trans (h k (by omega) hk)
theorem Hp.less {l : List (Int × Int)} {n m : Nat} (h : Hp l n) (hm : m ≤ n) : Hp l m := fun k h0 hk => h k h0 (by omega)
theorem Hp.same {l l' : List (Int × Int)} {n : Nat} (h : Hp l n) (hg : ∀ k, k < n → gg l' k = gg l k) : Hp l' n := fun k h0 hk => by
  rw [hg _ (by omega), hg k hk]; exact h k h0 hk
/-- Behind one more. -/
theorem Up.push {l : List (Int × Int)} (h : Hp l l.length) (d : Int × Int) : Up (l ++ [d]) (l.length + 1) l.length := by
  have G : ∀ k, k < l.length → gg (l ++ [d]) k = gg l k := fun k hk => by
    unfold gg
    rw [List.getD_eq_getElem?_getD, List.getD_eq_getElem?_getD, List.getElem?_append_left hk]
  refine ⟨fun k k0 kn kne => ?_, fun k k0 kn kp _ => ?_⟩
  · rw [G _ (by omega), G _ (by omega)]
    exact h k k0 (by omega)
  · omega
/-- The last one comes to i. -/
theorem Dn.swapped {l : List (Int × Int)} {n i : Nat} (h : Hp l (n + 1)) (hn : n < l.length) (hi : i < n) : Dn (sw l i n) n i i := by
  have G := sw_gg (l := l) (i := i) (j := n) (by omega) hn
  refine ⟨fun k k0 kn kne kp => ?_, fun k k0 kn kp i0 => ?_, Nat.le_refl _, fun h => by omega⟩
  · rw [G, G, if_neg (by omega), if_neg kp, if_neg (by omega), if_neg kne]
    exact h k k0 (by omega)
  · rw [G, G, if_neg (by omega), if_neg (by omega), if_neg (by omega), if_neg (by omega)]
    have h1 := h k k0 (by omega)
    rw [kp] at h1
    exact (h i i0 (by omega)).trans h1
end Go.Proofs.Ytaapdkeipknilaa
