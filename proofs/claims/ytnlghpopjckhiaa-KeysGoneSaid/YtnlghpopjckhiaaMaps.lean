/-
  A map with integer keys, as a list of its entries in the order of their making. No program in sight.
-/
import Derived.Test.YtnlghpopjckhiaaWords
import Derived.Maps.Own
import Derived.Maps.OwnOps
namespace Go.Proofs.Ytnlghpopjckhiaa
set_option maxRecDepth 4000
open Go.RowKit

def IMap (w : World) (b : Nat) (k : IntKind) (M : List (Int × Value)) : Prop :=
  ∃ es clock, w.heap[b]? = some (.map es clock) ∧ es.toList.map (fun e => (e.key, e.val)) = M.map (fun p => (Value.int k p.1, p.2))

section
variable {P : Program} {w w' : World} {b : Nat} {k : IntKind} {M : List (Int × Value)}
theorem IMap.lt (h : IMap w b k M) : b < w.heap.size := by
  obtain ⟨es, clock, hb, _⟩ := h
  exact (Array.getElem?_eq_some_iff.1 hb).1
theorem IMap.keep (h : IMap w b k M) (hk : w'.heap[b]? = w.heap[b]?) : IMap w' b k M := by
  obtain ⟨es, clock, hb, r⟩ := h
  exact ⟨es, clock, hk.trans hb, r⟩
theorem IMap.new (w : World) (k : IntKind) : IMap (w.alloc (.map #[] 0)) w.heap.size k [] := ⟨#[], 0, heap_alloc_new w _, rfl⟩

theorem findNow_int (n : Int) : ∀ (l : List MapEntry) (M : List (Int × Value)) (i : Nat), l.map (fun e => (e.key, e.val)) = M.map (fun p => (Value.int k p.1, p.2)) →
    ∃ r, Instr.findNow (.int k) (.int k n) l i = some r ∧ r.map (·.2) = M.lookup n := by
  intro l
  induction l with
  | nil =>
    intro M i h
    have : M = [] := by simpa using h.symm
    subst this
    exact ⟨none, rfl, rfl⟩
  | cons e l ih =>
    intro M i h
    cases M with
    | nil => simp at h
    | cons p M =>
      simp only [List.map_cons, List.cons.injEq, Prod.mk.injEq] at h
      obtain ⟨⟨h1, h2⟩, h3⟩ := h
      simp only [Instr.findNow, h1, Instr.sameNow, if_true]
      by_cases hn : n = p.1
      · subst hn
        simp only [beq_self_eq_true]
        exact ⟨_, rfl, by simp [List.lookup, h2]⟩
      · have hb : (n == p.1) = false := by simpa using hn
        obtain ⟨r, hr, hr2⟩ := ih M (i + 1) h3
        simp only [hb]
        exact ⟨r, hr, by rw [hr2]; obtain ⟨p1, p2⟩ := p; simp [List.lookup, hb]⟩

theorem run_checkKey_int' (P : Program) (w : World) (e : Bool) (kt : TypeId) (k : IntKind) (n : Int) (m : Nat) (hk : P.underlying kt = some (.int k)) : (Instr.checkKey e (m + 1) kt (.int k n)).run P w = .ok () w := by
  simp [Instr.checkKey, run_underlying hk]
theorem run_checkKey_int (P : Program) (w : World) (e : Bool) (kt : TypeId) (k : IntKind) (n : Int) (hk : P.underlying kt = some (.int k)) : (Instr.checkKey e 10000 kt (.int k n)).run P w = .ok () w :=
  run_checkKey_int' P w e kt k n 9999 hk

theorem run_lookup_imap {t kt et : TypeId} {z : Value} (ht : P.underlying t = some (.map kt et)) (hk : P.underlying kt = some (.int k)) (hz : (zeroValue et).run P w = .ok z w) (h : IMap w b k M) (n : Int) :
    (Instr.lookup t (.map (some b)) (.int k n) false).run P w = .ok ((M.lookup n).getD z) w := by
  obtain ⟨es, clock, hb, hm⟩ := h
  obtain ⟨r, hr, hr2⟩ := findNow_int n es.toList M 0 hm
  have hg : (getObj b).run P w = .ok (.map es clock) w := by simp [getObj, Sem.run, hb]
  cases r with
  | none =>
    simp only [Option.map_none] at hr2
    simp [Instr.lookup, run_underlying ht, hg, run_checkKey_int P w _ kt k n hk, Instr.findKey, run_underlying hk, hr, hz, ← hr2]
  | some x =>
    simp only [Option.map_some] at hr2
    simp [Instr.lookup, run_underlying ht, hg, run_checkKey_int P w _ kt k n hk, Instr.findKey, run_underlying hk, hr, ← hr2]

/-- A key that is not there yet. -/
theorem run_update_imap {t kt et : TypeId} (ht : P.underlying t = some (.map kt et)) (hk : P.underlying kt = some (.int k)) (h : IMap w b k M) (n : Int) (v : Value) (hn : M.lookup n = none) :
    ∃ w', (Instr.mapUpdate t (.map (some b)) (.int k n) v).run P w = .ok () w' ∧ IMap w' b k (M ++ [(n, v)]) ∧ Fr (· = b) w w' ∧ w'.heap.size = w.heap.size := by
  have hlt := h.lt
  obtain ⟨es, clock, hb, hm⟩ := h
  obtain ⟨r, hr, hr2⟩ := findNow_int n es.toList M 0 hm
  have hg : (getObj b).run P w = .ok (.map es clock) w := by simp [getObj, Sem.run, hb]
  rw [hn] at hr2
  have hr0 : r = none := by cases r <;> simp_all
  subst hr0
  refine ⟨{ w with heap := w.heap.setIfInBounds b (.map (es.push { key := .int k n, val := v, born := clock }) (clock + 1)) }, ?_, ⟨es.push { key := .int k n, val := v, born := clock }, clock + 1, ?_, ?_⟩, ⟨rfl, rfl, rfl, by simp, ?_⟩, by simp⟩
  · simp [Instr.mapUpdate, run_underlying ht, hg, run_checkKey_int P w _ kt k n hk, Instr.findKey, run_underlying hk, hr, setObj, Sem.run, hb]
  · simp [Array.getElem?_setIfInBounds, hlt]
  · simp [hm]
  · intro i hi hne
    simp [Array.getElem?_setIfInBounds, Ne.symm hne]

theorem run_len_imap {t kt et ty : TypeId} (ht : P.underlying t = some (.map kt et)) (h : IMap w b k M) : (Builtin.len_ #[t] ty #[.map (some b)]).run P w = .ok (goInt M.length) w := by
  obtain ⟨es, clock, hb, hm⟩ := h
  have hg : (getObj b).run P w = .ok (.map es clock) w := by simp [getObj, Sem.run, hb]
  have hl : es.size = M.length := by have := congrArg List.length hm; simpa using this
  simp [Builtin.len_, run_underlying ht, hg, hl]
end
end Go.Proofs.Ytnlghpopjckhiaa
