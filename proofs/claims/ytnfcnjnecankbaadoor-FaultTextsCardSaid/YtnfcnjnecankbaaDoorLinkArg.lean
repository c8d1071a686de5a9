/-
  An argument of links (Op: a string; At: an int), read.
-/
import Derived.Test.YtnfcnjnecankbaaDoorFt12
import Derived.Deep.Slices
namespace Go.Proofs.YtnfcnjnecankbaaDoor
set_option maxRecDepth 4000
open Go.RowKit Go.ChangeShapes Go.WideShapes Go.Deep

section
variable {H : Type} {enc : TypeId × Value → H} {P : Program} {w : World} {base : Nat} {spare : Nat → Bool} {held : Bool}
theorem open_lk {T I S : TypeId} {f0 f1 : Field} (st : P.underlying T = some (.struct #[f0, f1])) (int : P.underlying I = some (.int .i64)) (str_ : P.underlying S = some .string)
    (t0 : f0.type = S) (t1 : f1.type = I) (o0 : f0.offset = 0) (o1 : f1.offset = 1) (hI : P.cellsOf I = 1) (hS : P.cellsOf S = 1) {fuel : Nat} {cs : List Value} {x : DataW H × List MemPlace} (hl : cs.length = 2) (h : DataW.trod enc P w base spare held fuel T cs = some x) : ∃ y : Lk, cs = lcells y ∧ LkOk y := by
  match cs, hl with
  | [c0, c1], _ =>
    obtain ⟨xs, n, _, rfl, hl, hlen, hf⟩ := DataW.trod_struct st h
    match xs, hlen with
    | [y0, y1], _ =>
      have g0 := hf 0 f0 rfl
      have g1 := hf 1 f1 rfl
      rw [t0, o0, hS] at g0
      rw [t1, o1, hI] at g1
      obtain ⟨s, a0, -, b0⟩ := DataW.trod_string str_ g0
      obtain ⟨z1, a1, -, b1⟩ := DataW.trod_int int g1
      simp at a0 a1
      exact ⟨⟨s, z1⟩, by rw [a0, a1]; rfl, wf_i64 b1, b0⟩
theorem open_linksC {t T I S : TypeId} {f0 f1 : Field} (st : P.underlying T = some (.struct #[f0, f1])) (int : P.underlying I = some (.int .i64)) (str_ : P.underlying S = some .string)
    (t0 : f0.type = S) (t1 : f1.type = I) (o0 : f0.offset = 0) (o1 : f1.offset = 1) (hI : P.cellsOf I = 1) (hS : P.cellsOf S = 1) (hT : P.cellsOf T = 2) (ht : P.underlying t = some (.slice T)) {fuel : Nat} {cs : List Value} {x : DataW H × List MemPlace}
    (h : DataW.trod enc P w base (fun _ => true) held fuel t cs = some x) : ∃ A ys c, cs = [.slice A (List.length ys) c] ∧ InLinks w A ys ∧ ys.length ≤ c := by
  rcases open_slice ht h with ⟨rfl, _⟩ | ⟨a, len, cap, m, n, D, Pl, rfl, hb, hl, hm, hmm, rfl, hx⟩
  · exact ⟨none, [], 0, rfl, ⟨Sees.none_ _ _ _, fun y hy => by simp at hy, Nat.zero_le _⟩, Nat.zero_le _⟩
  · simp only [if_true] at hmm
    subst hmm
    rw [hT] at hx
    have hb : ∀ r, ∃ y : Lk, (LkOk y) ∧ (r < m → ∀ j, j < 2 → w.cell? ((a.add (r * 2)).add j) = (lcells y)[j]?) := fun r => by
      by_cases hr : r < m
      · obtain ⟨cs', h1', h2'⟩ := hx r hr
        obtain ⟨_, hlen, hcell⟩ := World.cells?_some h1'
        obtain ⟨y, rfl, hok⟩ := open_lk st int str_ t0 t1 o0 o1 hI hS (by rw [hlen]) h2'
        exact ⟨y, hok, fun _ j hj => hcell j (by omega)⟩
      · exact ⟨⟨ByteArray.empty, 0⟩, ⟨by decide, Nat.zero_le _⟩, fun h => absurd h hr⟩
    obtain ⟨f, hf⟩ : ∃ f : Nat → Lk, ∀ r, LkOk (f r) ∧ (r < m → ∀ j, j < 2 → w.cell? ((a.add (r * 2)).add j) = (lcells (f r))[j]?) := ⟨fun r => (hb r).choose, fun r => (hb r).choose_spec⟩
    refine ⟨some a, (List.range len).map f, m, by simp, ⟨⟨by simp, fun h0 => ?_⟩, fun y hy => ?_, by simpa using Nat.le_trans hl hm⟩, by simpa using hl⟩
    · simp only [List.length_map, List.length_range] at h0
      obtain ⟨g, off, spot⟩ := a
      have hc0 := (hf 0).2 (by omega) 0 (by omega)
      have hspot : spot = none := by
        have : ∃ v, w.cell? (((⟨g, off, spot⟩ : Addr).add (0 * 2)).add 0) = some v := ⟨_, hc0⟩
        obtain ⟨v, hv⟩ := this
        simpa [Addr.add] using World.cell?_spot hv
      subst hspot
      refine ⟨g, off, rfl, fun j u hj => ?_⟩
      have hjl : j < len * 2 := by have := (List.getElem?_eq_some_iff.1 hj).1; simpa using this
      have hd : j / 2 < len := by omega
      have hk : ((List.range len).map f)[j / 2]? = some (f (j / 2)) := by rw [List.getElem?_map, List.getElem?_range hd]; rfl
      have hg := lcs_get hk (j % 2) (by omega)
      rw [show j / 2 * 2 + j % 2 = j by omega, hj] at hg
      have hc := (hf (j / 2)).2 (by omega) (j % 2) (by omega)
      rw [← hg] at hc
      have ea : ∀ (o n : Nat), (⟨g, o, none⟩ : Addr).add n = ⟨g, o + n, none⟩ := fun o n => by
        unfold Addr.add
        split
        · subst n; rfl
        · rfl
      have e : ((⟨g, off, none⟩ : Addr).add (j / 2 * 2)).add (j % 2) = ⟨g, off + j, none⟩ := by
        rw [ea, ea, show off + j / 2 * 2 + j % 2 = off + j by omega]
      rwa [e] at hc
    · obtain ⟨r, -, rfl⟩ := List.mem_map.1 hy
      exact (hf r).1
theorem open_links {t T I S : TypeId} {f0 f1 : Field} (st : P.underlying T = some (.struct #[f0, f1])) (int : P.underlying I = some (.int .i64)) (str_ : P.underlying S = some .string)
    (t0 : f0.type = S) (t1 : f1.type = I) (o0 : f0.offset = 0) (o1 : f1.offset = 1) (hI : P.cellsOf I = 1) (hS : P.cellsOf S = 1) (hT : P.cellsOf T = 2) (ht : P.underlying t = some (.slice T)) {fuel : Nat} {cs : List Value} {x : DataW H × List MemPlace}
    (h : DataW.trod enc P w base (fun _ => true) held fuel t cs = some x) : ∃ A ys c, cs = [.slice A (List.length ys) c] ∧ InLinks w A ys := by
  obtain ⟨A, ys, c, h1, h2, -⟩ := open_linksC st int str_ t0 t1 o0 o1 hI hS hT ht h
  exact ⟨A, ys, c, h1, h2⟩
end
end Go.Proofs.YtnfcnjnecankbaaDoor
