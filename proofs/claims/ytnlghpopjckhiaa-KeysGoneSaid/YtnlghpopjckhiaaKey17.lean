/-
  The law's state: the table and what is kept; what may be there behind a crash.
-/
import Derived.Test.YtnlghpopjckhiaaKey16
import Derived.Test.YtnlghpopjckhiaaLimit
namespace Go.Proofs.Ytnlghpopjckhiaa
set_option maxRecDepth 4000
open Go.RowKit

structure Good (Q : List Kd) (kept : List Bool) : Prop where
  len : Q.length = 8
  klen : kept.length = 8
  key : ∀ (k : Nat) (p : Nat × List UInt8), Q[k]? = some (some p) → p.1 < 8 ∧ p.2 = kof p.1
  once : ∀ (i j : Nat) (p q : Nat × List UInt8), Q[i]? = some (some p) → Q[j]? = some (some q) → p.1 = q.1 → i = j
  iff : ∀ b, b < 8 → (kept[b]? = some true ↔ ∃ (k : Nat) (p : Nat × List UInt8), Q[k]? = some (some p) ∧ p.1 = b)
theorem Good.ok {Q : List Kd} {kept : List Bool} (h : Good Q kept) : ∀ q ∈ Q, KdOk q := fun q hq p hp => by
  subst hp
  obtain ⟨k, hk⟩ := List.mem_iff_getElem?.1 hq
  obtain ⟨h1, h2⟩ := h.key k p hk
  exact ⟨by omega, by rw [h2]; exact keyc_length _⟩
theorem kd_ok (b : Nat) (h : b < 8) : KdOk (some (b, kof b)) := fun p hp => by
  injection hp with hp
  subst hp
  exact ⟨by show b ≤ _; omega, keyc_length _⟩
/-- There is room, where a bucket isn't kept. -/
theorem Good.room {Q : List Kd} {kept : List Bool} (h : Good Q kept) (b : Nat) (hb : b < 8) (hk : kept[b]? = some false) : none ∈ Q := by
  apply Classical.byContradiction
  intro hno
  have hsome : ∀ k, k < 8 → ∃ p : Nat × List UInt8, Q[k]? = some (some p) := fun k hk => by
    have hl : k < Q.length := by rw [h.len]; exact hk
    have he : Q[k]? = some Q[k] := List.getElem?_eq_getElem hl
    cases hq : Q[k] with
    | none => exact absurd (hq ▸ List.getElem_mem hl) hno
    | some p => exact ⟨p, by rw [he, hq]⟩
  obtain ⟨f, hf⟩ : ∃ f : Nat → Nat × List UInt8, ∀ k, k < 8 → Q[k]? = some (some (f k)) := ⟨fun k => if hk : k < 8 then (hsome k hk).choose else (0, []), fun k hk => by
    simp only [dif_pos hk]
    exact (hsome k hk).choose_spec⟩
  have hnd : (b :: (List.range 8).map fun k => (f k).1).Nodup := by
    refine List.nodup_cons.2 ⟨fun hm => ?_, ?_⟩
    · obtain ⟨k, hk1, hk2⟩ := List.mem_map.1 hm
      have := (h.iff b hb).2 ⟨k, f k, hf k (List.mem_range.1 hk1), hk2⟩
      rw [hk] at this
      cases this
    · refine List.Pairwise.map _ (R := fun i j => i < 8 ∧ j < 8 ∧ i ≠ j) (fun i j hij he => hij.2.2 (h.once i j _ _ (hf i hij.1) (hf j hij.2.1) he)) ?_
      refine List.Pairwise.imp_of_mem (R := fun i j => i < j) (fun hi hj hij => ⟨List.mem_range.1 hi, List.mem_range.1 hj, by omega⟩) List.pairwise_lt_range
  have := pig 8 _ hnd (fun x hx => by
    rcases List.mem_cons.1 hx with rfl | hx
    · exact hb
    · obtain ⟨k, hk1, rfl⟩ := List.mem_map.1 hx
      exact (h.key k _ (hf k (List.mem_range.1 hk1))).1)
  simp at this

theorem set_get {α : Type} {l : List α} {k j : Nat} {x y : α} (h : (l.set k x)[j]? = some y) : (j = k ∧ y = x) ∨ (j ≠ k ∧ l[j]? = some y) := by
  rw [List.getElem?_set] at h
  split at h
  · rename_i hk
    split at h
    · injection h with h
      exact .inl ⟨hk.symm, h.symm⟩
    · cases h
  · rename_i hk
    exact .inr ⟨fun e => hk e.symm, h⟩
theorem get_set {α : Type} {l : List α} {k j : Nat} {x y : α} (hne : j ≠ k) (h : l[j]? = some y) : (l.set k x)[j]? = some y := by
  rw [List.getElem?_set, if_neg (fun e => hne e.symm)]; exact h
theorem get_set_same {α : Type} {l : List α} {k : Nat} {x : α} (h : k < l.length) : (l.set k x)[k]? = some x := by
  rw [List.getElem?_set, if_pos rfl, if_pos h]

theorem Good.put {Q : List Kd} {kept : List Bool} (h : Good Q kept) (b k : Nat) (hb : b < 8) (hk : Q[k]? = some none) (hn : kept[b]? = some false) : Good (Q.set k (some (b, kof b))) (kept.set b true) := by
  have hkl := (List.getElem?_eq_some_iff.1 hk).1
  have hno : ∀ (m : Nat) (p : Nat × List UInt8), Q[m]? = some (some p) → p.1 ≠ b := fun m p hm e => by
    have := (h.iff b hb).2 ⟨m, p, hm, e⟩
    rw [hn] at this
    cases this
  refine ⟨by rw [List.length_set, h.len], by rw [List.length_set, h.klen], ?_, ?_, ?_⟩
  · intro m p hm
    rcases set_get hm with ⟨-, e⟩ | ⟨-, hm⟩
    · injection e with e
      subst e
      exact ⟨hb, rfl⟩
    · exact h.key m p hm
  · intro i j p q hi hj e
    rcases set_get hi with ⟨rfl, e1⟩ | ⟨hi1, hi2⟩
    · rcases set_get hj with ⟨rfl, -⟩ | ⟨hj1, hj2⟩
      · rfl
      · injection e1 with e1
        subst e1
        exact absurd e.symm (hno j q hj2)
    · rcases set_get hj with ⟨rfl, e2⟩ | ⟨hj1, hj2⟩
      · injection e2 with e2
        subst e2
        exact absurd e (hno i p hi2)
      · exact h.once i j p q hi2 hj2 e
  · intro c hc
    by_cases hcb : c = b
    · subst hcb
      exact ⟨fun _ => ⟨k, _, get_set_same hkl, rfl⟩, fun _ => get_set_same (by rw [h.klen]; exact hc)⟩
    · rw [List.getElem?_set, if_neg (fun e => hcb e.symm), h.iff c hc]
      constructor
      · rintro ⟨m, p, hm, e⟩
        refine ⟨m, p, get_set (fun e' => ?_) hm, e⟩
        subst e'
        rw [hk] at hm
        cases hm
      · rintro ⟨m, p, hm, e⟩
        rcases set_get hm with ⟨-, e1⟩ | ⟨-, hm⟩
        · injection e1 with e1
          subst e1
          exact absurd e.symm hcb
        · exact ⟨m, p, hm, e⟩
theorem Good.shred {Q : List Kd} {kept : List Bool} (h : Good Q kept) (b k : Nat) (p : Nat × List UInt8) (hb : b < 8) (hk : Q[k]? = some (some p)) (hp : p.1 = b) : Good (Q.set k none) (kept.set b false) := by
  have hkl := (List.getElem?_eq_some_iff.1 hk).1
  refine ⟨by rw [List.length_set, h.len], by rw [List.length_set, h.klen], ?_, ?_, ?_⟩
  · intro m q hm
    rcases set_get hm with ⟨-, e⟩ | ⟨-, hm⟩
    · cases e
    · exact h.key m q hm
  · intro i j q r hi hj e
    rcases set_get hi with ⟨rfl, e1⟩ | ⟨hi1, hi2⟩
    · cases e1
    · rcases set_get hj with ⟨rfl, e2⟩ | ⟨hj1, hj2⟩
      · cases e2
      · exact h.once i j q r hi2 hj2 e
  · intro c hc
    by_cases hcb : c = b
    · subst hcb
      rw [get_set_same (by rw [h.klen]; exact hc)]
      constructor
      · intro h0; cases h0
      · rintro ⟨m, q, hm, e⟩
        rcases set_get hm with ⟨-, e1⟩ | ⟨hmk, hm⟩
        · cases e1
        · exact absurd (h.once m k q p hm hk (by rw [e, hp])) hmk
    · rw [List.getElem?_set, if_neg (fun e => hcb e.symm), h.iff c hc]
      constructor
      · rintro ⟨m, q, hm, e⟩
        refine ⟨m, q, get_set (fun e' => ?_) hm, e⟩
        subst e'
        rw [hk] at hm
        injection hm with hm
        injection hm with hm
        subst hm
        exact hcb (e.symm.trans hp)
      · rintro ⟨m, q, hm, e⟩
        rcases set_get hm with ⟨-, e1⟩ | ⟨-, hm⟩
        · cases e1
        · exact ⟨m, q, hm, e⟩

/-- What is on the disk behind the crash; u: the bucket under way. -/
structure Final (P : List Sl) (kept : List Bool) (u : Int) : Prop where
  len : P.length = 8
  klen : kept.length = 8
  ok : ∀ s ∈ P, SlOk s
  key : ∀ (k : Nat) (p : Nat × List UInt8) (Y : List UInt8), P[k]? = some (some p, Y) → p.1 < 8 ∧ p.2 = kof p.1
  once : ∀ (i j : Nat) (p q : Nat × List UInt8) (Y Z : List UInt8), P[i]? = some (some p, Y) → P[j]? = some (some q, Z) → p.1 = q.1 → i = j
  iff : ∀ b : Nat, b < 8 → (b : Int) ≠ u → (kept[b]? = some true ↔ ∃ (k : Nat) (p : Nat × List UInt8) (Y : List UInt8), P[k]? = some (some p, Y) ∧ p.1 = b)
theorem cl_get' {Q : List Kd} {k : Nat} {o : Kd} {Y : List UInt8} (h : (cl Q)[k]? = some (o, Y)) : Q[k]? = some o := by
  unfold cl at h
  rw [List.getElem?_map] at h
  cases hq : Q[k]? with
  | none => rw [hq] at h; cases h
  | some x =>
    rw [hq] at h
    injection h with h
    injection h with h1 h2
    rw [h1]
theorem Good.final {Q : List Kd} {kept : List Bool} (h : Good Q kept) (u : Int) : Final (cl Q) kept u := by
  refine ⟨by rw [cl_length, h.len], h.klen, cl_ok h.ok, fun k p Y hk => h.key k p (cl_get' hk), fun i j p q Y Z hi hj e => h.once i j p q (cl_get' hi) (cl_get' hj) e, fun b hb _ => ?_⟩
  rw [h.iff b hb]
  constructor
  · rintro ⟨k, p, hk, e⟩
    exact ⟨k, p, _, cl_get hk, e⟩
  · rintro ⟨k, p, Y, hk, e⟩
    exact ⟨k, p, cl_get' hk, e⟩
theorem Good.mid {Q : List Kd} {kept : List Bool} (h : Good Q kept) (b k : Nat) (o q : Kd) (Y : List UInt8) (hb : b < 8) (hk : Q[k]? = some o) (ho : ∀ p, o = some p → p.1 = b) (hq : ∀ p, q = some p → p = (b, kof b))
    (hno : q ≠ none → ∀ (m : Nat) (p : Nat × List UInt8), Q[m]? = some (some p) → m ≠ k → p.1 ≠ b) (hY : Y.length = 128) : Final ((cl Q).set k (q, Y)) kept b := by
  have hkl := (List.getElem?_eq_some_iff.1 hk).1
  refine ⟨by rw [List.length_set, cl_length, h.len], h.klen, ?_, ?_, ?_, ?_⟩
  · intro s hs
    rcases List.mem_or_eq_of_mem_set hs with hs | rfl
    · exact cl_ok h.ok s hs
    · exact ⟨fun p hp => by rw [hq p hp]; exact kd_ok b hb _ rfl, hY⟩
  · intro m p Z hm
    rcases set_get hm with ⟨-, e⟩ | ⟨-, hm⟩
    · injection e with e1 e2
      rw [hq p e1.symm]
      exact ⟨hb, rfl⟩
    · exact h.key m p (cl_get' hm)
  · intro i j p r Z1 Z2 hi hj e
    rcases set_get hi with ⟨rfl, e1⟩ | ⟨hi1, hi2⟩
    · rcases set_get hj with ⟨rfl, -⟩ | ⟨hj1, hj2⟩
      · rfl
      · injection e1 with e1 _
        have hp := hq p e1.symm
        exact absurd (by rw [← e, hp]) (hno (by rw [← e1]; exact fun h => by cases h) j r (cl_get' hj2) hj1)
    · rcases set_get hj with ⟨rfl, e2⟩ | ⟨hj1, hj2⟩
      · injection e2 with e2 _
        have hr := hq r e2.symm
        exact absurd (by rw [e, hr]) (hno (by rw [← e2]; exact fun h => by cases h) i p (cl_get' hi2) hi1)
      · exact h.once i j p r (cl_get' hi2) (cl_get' hj2) e
  · intro c hc hcb
    have hcb' : c ≠ b := fun e => hcb (by rw [e])
    rw [h.iff c hc]
    constructor
    · rintro ⟨m, p, hm, e⟩
      refine ⟨m, p, _, get_set (fun e' => ?_) (cl_get hm), e⟩
      subst e'
      rw [hk] at hm
      injection hm with hm
      exact hcb' (e.symm.trans (ho p hm))
    · rintro ⟨m, p, Z, hm, e⟩
      rcases set_get hm with ⟨-, e1⟩ | ⟨-, hm⟩
      · injection e1 with e1 _
        rw [hq p e1.symm] at e
        exact absurd e.symm hcb'
      · exact ⟨m, p, cl_get' hm, e⟩
end Go.Proofs.Ytnlghpopjckhiaa
