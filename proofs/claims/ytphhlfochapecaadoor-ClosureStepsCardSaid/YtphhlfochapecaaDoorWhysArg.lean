/-
  An argument of steps, read.
-/
import Derived.Test.YtphhlfochapecaaDoorClo1
import Derived.Deep.Slices
namespace Go.Proofs.YtphhlfochapecaaDoor
set_option maxRecDepth 4000
open Go.RowKit Go.ChangeShapes Go.WideShapes Go.Deep

section
variable {H : Type} {enc : TypeId × Value → H} {P : Program} {w : World} {base : Nat} {spare : Nat → Bool} {held : Bool}
theorem open_wy {T I : TypeId} {f0 f1 f2 : Field} (st : P.underlying T = some (.struct #[f0, f1, f2])) (int : P.underlying I = some (.int .i64)) (t0 : f0.type = I) (t1 : f1.type = I) (t2 : f2.type = I) (o0 : f0.offset = 0) (o1 : f1.offset = 1) (o2 : f2.offset = 2)
    (hI : P.cellsOf I = 1) {fuel : Nat} {cs : List Value} {x : DataW H × List MemPlace} (hl : cs.length = 3) (h : DataW.trod enc P w base spare held fuel T cs = some x) : ∃ y : Wy, cs = wcells y := by
  match cs, hl with
  | [c0, c1, c2], _ =>
    obtain ⟨xs, n, _, rfl, hl, hlen, hf⟩ := DataW.trod_struct st h
    match xs, hlen with
    | [y0, y1, y2], _ =>
      have h0 := hf 0 f0 rfl
      have h1 := hf 1 f1 rfl
      have h2 := hf 2 f2 rfl
      rw [t0, o0, hI] at h0
      rw [t1, o1, hI] at h1
      rw [t2, o2, hI] at h2
      obtain ⟨z0, a0, -, b0⟩ := DataW.trod_int int h0
      obtain ⟨z1, a1, -, b1⟩ := DataW.trod_int int h1
      obtain ⟨z2, a2, -, b2⟩ := DataW.trod_int int h2
      simp at a0 a1 a2
      exact ⟨⟨z0, z1, z2⟩, by rw [a0, a1, a2]; rfl⟩
theorem open_whys {t T I : TypeId} {f0 f1 f2 : Field} (st : P.underlying T = some (.struct #[f0, f1, f2])) (int : P.underlying I = some (.int .i64)) (t0 : f0.type = I) (t1 : f1.type = I) (t2 : f2.type = I) (o0 : f0.offset = 0) (o1 : f1.offset = 1) (o2 : f2.offset = 2)
    (hI : P.cellsOf I = 1) (hT : P.cellsOf T = 3) (ht : P.underlying t = some (.slice T)) {fuel : Nat} {cs : List Value} {x : DataW H × List MemPlace}
    (h : DataW.trod enc P w base (fun _ => true) held fuel t cs = some x) : ∃ A ys c, cs = [.slice A (List.length ys) c] ∧ Sees w 3 A (List.length ys) (wcs ys) := by
  rcases open_slice ht h with ⟨rfl, _⟩ | ⟨a, len, cap, m, n, D, Pl, rfl, hb, hl, hm, hmm, rfl, hx⟩
  · exact ⟨none, [], 0, rfl, Sees.none_ _ _ _⟩
  · simp only [if_true] at hmm
    subst hmm
    rw [hT] at hx
    have hb : ∀ r, ∃ y : Wy, r < m → ∀ j, j < 3 → w.cell? ((a.add (r * 3)).add j) = (wcells y)[j]? := fun r => by
      by_cases hr : r < m
      · obtain ⟨cs', h1, h2⟩ := hx r hr
        obtain ⟨_, hlen, hcell⟩ := World.cells?_some h1
        obtain ⟨y, rfl⟩ := open_wy st int t0 t1 t2 o0 o1 o2 hI (by rw [hlen]) h2
        exact ⟨y, fun _ j hj => hcell j (by omega)⟩
      · exact ⟨⟨0, 0, 0⟩, fun h => absurd h hr⟩
    obtain ⟨f, hf⟩ : ∃ f : Nat → Wy, ∀ r, r < m → ∀ j, j < 3 → w.cell? ((a.add (r * 3)).add j) = (wcells (f r))[j]? := ⟨fun r => (hb r).choose, fun r => (hb r).choose_spec⟩
    refine ⟨some a, (List.range len).map f, m, by simp, ⟨by simp, fun h0 => ?_⟩⟩
    simp only [List.length_map, List.length_range] at h0
    obtain ⟨g, off, spot⟩ := a
    have hc0 := hf 0 (by omega) 0 (by omega)
    have hspot : spot = none := by
      have : ∃ v, w.cell? (((⟨g, off, spot⟩ : Addr).add (0 * 3)).add 0) = some v := ⟨_, hc0⟩
      obtain ⟨v, hv⟩ := this
      simpa [Addr.add] using World.cell?_spot hv
    subst hspot
    refine ⟨g, off, rfl, fun j u hj => ?_⟩
    have hjl : j < len * 3 := by have := (List.getElem?_eq_some_iff.1 hj).1; simpa using this
    have hd : j / 3 < len := by omega
    have hk : ((List.range len).map f)[j / 3]? = some (f (j / 3)) := by rw [List.getElem?_map, List.getElem?_range hd]; rfl
    have hg := wcs_get hk (j % 3) (by omega)
    rw [show j / 3 * 3 + j % 3 = j by omega, hj] at hg
    have hc := hf (j / 3) (by omega) (j % 3) (by omega)
    rw [← hg] at hc
    have ea : ∀ (o n : Nat), (⟨g, o, none⟩ : Addr).add n = ⟨g, o + n, none⟩ := fun o n => by
      unfold Addr.add
      split
      · subst n; rfl
      · rfl
    have e : ((⟨g, off, none⟩ : Addr).add (j / 3 * 3)).add (j % 3) = ⟨g, off + j, none⟩ := by
      rw [ea, ea, show off + j / 3 * 3 + j % 3 = off + j by omega]
    rwa [e] at hc
end
end Go.Proofs.YtphhlfochapecaaDoor
