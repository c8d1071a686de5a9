/-
  An argument of rows of octets ([][]byte), opened.
-/
import Derived.Test.YtjlkgkfheaihpaaDoorTexts
import Derived.Deep.Matrix
namespace Go.Proofs.YtjlkgkfheaihpaaDoor
set_option maxRecDepth 4000
open Go.RowKit Go.ChangeShapes Go.WideShapes

/-- Rows of octets that came in. -/
structure InRows (w : World) (A : Option Addr) (ps : List Pt) (c : Nat) : Prop where
  le : ps.length ≤ c
  most : c ≤ maxLen
  row : Rws w A ps
  pts : Pts w ps
  caps : ∀ p ∈ ps, p.n ≤ p.c ∧ p.c ≤ maxLen
  nil : A = none → c = 0

theorem open_rows {H : Type} {enc : TypeId × Value → H} {P : Program} {w : World} {base : Nat} {held : Bool} {t e q : TypeId} {fuel : Nat} {cs : List Value} {x : DataW H × List MemPlace}
    (ht : P.underlying t = some (.slice e)) (he : P.underlying e = some (.slice q)) (hq : P.underlying q = some (.int .u8)) (ce : P.cellsOf e = 1) (cq : P.cellsOf q = 1) (h : DataW.trod enc P w base (fun _ => true) held fuel t cs = some x) :
    ∃ A ps c, cs = [.slice A (List.length ps) c] ∧ InRows w A ps c := by
  rcases Go.Deep.open_int_rows ht he hq ce cq h with ⟨rfl, _⟩ | ⟨a, len, cap, A, L, C, Z, rfl, _, hl, hm, _, hr⟩
  · exact ⟨none, [], 0, rfl, ⟨Nat.le_refl _, Nat.zero_le _, fun h => absurd h (by simp), (fun p hp => by cases hp), (fun p hp => by cases hp), fun _ => rfl⟩⟩
  · have each : ∀ r, r < cap → IsRow .u8 w (A r) (L r) (C r) (Z r) := fun r hrc => by
      obtain ⟨h1, h2, h3, h4, h5, h6, h7⟩ := hr r hrc
      cases hA : A r with
      | none =>
        have h0 := h6 hA
        exact .inl ⟨rfl, by omega, h0, List.eq_nil_of_length_eq_zero (by omega)⟩
      | some a' => exact .inr ⟨a', rfl, h2, h3, h4, (fun i hi => (h7 a' hA).2 i (by omega)), h5⟩
    have hb : ∀ r, ∃ p : Pt, r < cap → p.val = .slice (A r) (L r) (C r) ∧ Sees w 1 p.A p.n (u8s p.l) ∧ p.l.length = p.n ∧ p.n ≤ p.c ∧ p.c ≤ maxLen := fun r => by
      by_cases hrc : r < cap
      · obtain ⟨l, l1, l2, l3, l4⟩ := (each r hrc).bytes
        exact ⟨⟨A r, L r, C r, l⟩, fun _ => ⟨rfl, l2, l1, l3, l4⟩⟩
      · exact ⟨⟨none, 0, 0, []⟩, fun h => absurd h hrc⟩
    obtain ⟨f, hf⟩ : ∃ f : Nat → Pt, ∀ r, r < cap → (f r).val = .slice (A r) (L r) (C r) ∧ Sees w 1 (f r).A (f r).n (u8s (f r).l) ∧ (f r).l.length = (f r).n ∧ (f r).n ≤ (f r).c ∧ (f r).c ≤ maxLen := ⟨fun r => (hb r).choose, fun r => (hb r).choose_spec⟩
    have hm' : ∀ p ∈ (List.range len).map f, ∃ r, r < cap ∧ p = f r := fun p hp => by
      obtain ⟨r, hr', rfl⟩ := List.mem_map.1 hp
      exact ⟨r, by have := List.mem_range.1 hr'; omega, rfl⟩
    refine ⟨some a, (List.range len).map f, cap, by simp, ⟨by simpa using hl, hm, fun h0 => ?_, fun p hp => ?_, fun p hp => ?_, fun h => by cases h⟩⟩
    · simp only [List.length_map, List.length_range] at h0
      obtain ⟨g, off, spot⟩ := a
      have hc0 := (hr 0 (by omega)).1
      have hspot : spot = none := by simpa [Addr.add] using World.cell?_spot hc0
      subst hspot
      refine ⟨g, off, rfl, fun j p hj => ?_⟩
      rw [List.getElem?_map] at hj
      by_cases hjl : j < len
      · rw [List.getElem?_range hjl] at hj
        injection hj with hj
        subst hj
        have := (hr j (by omega)).1
        have e : (⟨g, off, none⟩ : Addr).add j = ⟨g, off + j, none⟩ := by unfold Addr.add; split <;> simp_all
        rw [e] at this
        rw [this, (hf j (by omega)).1]
      · rw [List.getElem?_eq_none (by simpa using hjl)] at hj
        cases hj
    · obtain ⟨r, hrc, rfl⟩ := hm' p hp
      exact ⟨(hf r hrc).2.1, (hf r hrc).2.2.1⟩
    · obtain ⟨r, hrc, rfl⟩ := hm' p hp
      exact (hf r hrc).2.2.2

theorem InRows.below {w w' : World} {A : Option Addr} {ps : List Pt} {c : Nat} (h : InRows w A ps c) (hb : Below w.heap.size w w') : InRows w' A ps c :=
  ⟨h.le, h.most, h.row.below hb, h.pts.below hb, h.caps, h.nil⟩
theorem Rws.take {w : World} {A : Option Addr} {ps : List Pt} (h : Rws w A ps) (j : Nat) : Rws w A (ps.take j) := fun h0 => by
  obtain ⟨g, off, e, hc⟩ := h (by rw [List.length_take] at h0; omega)
  refine ⟨g, off, e, fun i p hi => hc i p ?_⟩
  rw [List.getElem?_take] at hi
  split at hi
  · exact hi
  · cases hi
theorem Pts.take {w : World} {ps : List Pt} (h : Pts w ps) (j : Nat) : Pts w (ps.take j) := fun p hp => h p (List.mem_of_mem_take hp)
/-- A slice of rows up to j. -/
theorem slice_rows {P : Program} {t : TypeId} (ht : P.underlying t = some (.slice (P.elem t))) (hs : (P.info? (P.elem t)).isSome) {w : World} {A : Option Addr} {ps : List Pt} {k c : Nat} (hk : ps.length = k) (h : InRows w A ps c) (j : Nat) (hj : j ≤ k) :
    ∃ A', (∀ W, (Instr.slice t (.slice A k c) none (some (.int .i64 (j : Int))) none).run P W = .ok (.slice A' j c) W) ∧ (0 < k → A' = A) := by
  have hle := h.le
  obtain ⟨i, hi⟩ := Option.isSome_iff_exists.1 hs
  refine ⟨if c = 0 then A else A.map (·.add 0), fun W => ?_, fun h0 => ?_⟩
  · rw [run_slice_h W t A k c ht .i64 j (by omega) (by omega)]
    simp [sizeOf, typeInfo, hi, sliced, Sem.run_bind]
  · obtain ⟨g, off, rfl, _⟩ := h.row (by omega)
    rw [if_neg (by omega)]
    rfl
end Go.Proofs.YtjlkgkfheaihpaaDoor
