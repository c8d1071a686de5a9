/-
  An argument that is a struct of five integers, read. No program in sight.
-/
import Derived.ProofKit
import Derived.OpenShut
import Derived.WalkKit
import Derived.Lib.SmallJoins
namespace Go.Proofs.Ytdkfijkggccafaa
set_option maxRecDepth 4000
open Go.ChangeShapes Go.WideShapes Go.ChangeAt Go.RowKit Go.Deep Go.Joins

section
variable {H : Type} {enc : TypeId × Value → H} {P : Program} {w : World} {base : Nat} {spare : Nat → Bool} {held : Bool}

theorem array5 {α : Type} {cs : Array α} (h : cs.size = 5) : ∃ c0 c1 c2 c3 c4, cs = #[c0, c1, c2, c3, c4] := by
  obtain ⟨l⟩ := cs
  match l, h with
  | [c0, c1, c2, c3, c4], _ => exact ⟨c0, c1, c2, c3, c4, rfl⟩
theorem trod_struct5 {t : TypeId} {f0 f1 f2 f3 f4 : Field} {fuel : Nat} {cs : List Value} {x : DataW H × List MemPlace} (ht : P.underlying t = some (.struct #[f0, f1, f2, f3, f4])) (h : DataW.trod enc P w base spare held fuel t cs = some x) :
    ∃ y0 y1 y2 y3 y4 n, DataW.trod enc P w base spare held n f0.type ((cs.drop f0.offset).take (P.cellsOf f0.type)) = some y0 ∧
      DataW.trod enc P w base spare held n f1.type ((cs.drop f1.offset).take (P.cellsOf f1.type)) = some y1 ∧ DataW.trod enc P w base spare held n f2.type ((cs.drop f2.offset).take (P.cellsOf f2.type)) = some y2 ∧
      DataW.trod enc P w base spare held n f3.type ((cs.drop f3.offset).take (P.cellsOf f3.type)) = some y3 ∧ DataW.trod enc P w base spare held n f4.type ((cs.drop f4.offset).take (P.cellsOf f4.type)) = some y4 := by
  obtain ⟨xs, n, _, rfl, hl, hlen, hf⟩ := DataW.trod_struct ht h
  match xs, hlen with
  | [y0, y1, y2, y3, y4], _ => exact ⟨y0, y1, y2, y3, y4, n, by simpa using hf 0 f0 rfl, by simpa using hf 1 f1 rfl, by simpa using hf 2 f2 rfl, by simpa using hf 3 f3 rfl, by simpa using hf 4 f4 rfl⟩
theorem open_five {r : Reach} {b0 : Nat} {t u : TypeId} {k : IntKind} {f0 f1 f2 f3 f4 : Field} {v : Value} {d : DataW H} {p : List MemPlace} (hs : P.underlying t = some (.struct #[f0, f1, f2, f3, f4])) (hu : P.underlying u = some (.int k))
    (e0 : f0.type = u) (e1 : f1.type = u) (e2 : f2.type = u) (e3 : f3.type = u) (e4 : f4.type = u) (hone : oneCellFields P #[f0, f1, f2, f3, f4] = true) (hC : P.cellsOf t = 5)
    (hv : Value.okWide P w r b0 t v) (h : DataW.Trod enc P w base spare held t v d p) :
    ∃ z0 z1 z2 z3 z4 : Int, v = .agg #[.int k z0, .int k z1, .int k z2, .int k z3, .int k z4] := by
  obtain ⟨cs, rfl, hsz⟩ := okWide_struct hs hv
  obtain ⟨c0, c1, c2, c3, c4, rfl⟩ := array5 (hsz.trans hC)
  obtain ⟨fuel, hf⟩ := h
  obtain ⟨y0, y1, y2, y3, y4, n, h0, h1, h2, h3, h4⟩ := trod_struct5 hs hf
  obtain ⟨o0, k0⟩ := hone_of hone 0 f0 rfl
  obtain ⟨o1, k1⟩ := hone_of hone 1 f1 rfl
  obtain ⟨o2, k2⟩ := hone_of hone 2 f2 rfl
  obtain ⟨o3, k3⟩ := hone_of hone 3 f3 rfl
  obtain ⟨o4, k4⟩ := hone_of hone 4 f4 rfl
  rw [e0] at h0 k0
  rw [e1] at h1 k1
  rw [e2] at h2 k2
  rw [e3] at h3 k3
  rw [e4] at h4 k4
  have g0 : DataW.trod enc P w base spare held n u [c0] = some y0 := by simpa [Value.cells, o0, k0] using h0
  have g1 : DataW.trod enc P w base spare held n u [c1] = some y1 := by simpa [Value.cells, o1, k1] using h1
  have g2 : DataW.trod enc P w base spare held n u [c2] = some y2 := by simpa [Value.cells, o2, k2] using h2
  have g3 : DataW.trod enc P w base spare held n u [c3] = some y3 := by simpa [Value.cells, o3, k3] using h3
  have g4 : DataW.trod enc P w base spare held n u [c4] = some y4 := by simpa [Value.cells, o4, k4] using h4
  obtain ⟨z0, a0, -, -⟩ := DataW.trod_int hu g0
  obtain ⟨z1, a1, -, -⟩ := DataW.trod_int hu g1
  obtain ⟨z2, a2, -, -⟩ := DataW.trod_int hu g2
  obtain ⟨z3, a3, -, -⟩ := DataW.trod_int hu g3
  obtain ⟨z4, a4, -, -⟩ := DataW.trod_int hu g4
  simp at a0 a1 a2 a3 a4
  exact ⟨z0, z1, z2, z3, z4, by rw [a0, a1, a2, a3, a4]⟩
end
end Go.Proofs.Ytdkfijkggccafaa
