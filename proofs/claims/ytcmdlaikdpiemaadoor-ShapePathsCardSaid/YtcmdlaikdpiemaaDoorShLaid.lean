/-
  The listed tables, as a law meets them: what the row's condition gives a walk; the heap that the door's own run leaves meets it.
-/
import Derived.Test.YtcmdlaikdpiemaaDoorRows
import Derived.Test.YtcmdlaikdpiemaaDoorSh1
import Derived.ProofKit
import Derived.LaidMore
import Derived.OpenShut
import Derived.Stop.Joined
namespace Go.Proofs.YtcmdlaikdpiemaaDoor
open Go.ChangeShapes Go.WideShapes Go.ChangeAt Go.RowKit

def laidL : List (String × DataW Unit) := [("math/bits.deBruijn32tab", Rows.laid_math_bits_deBruijn32tab), ("math/bits.deBruijn64tab", Rows.laid_math_bits_deBruijn64tab)]
theorem g32 : Tryd.prog.globalNamed "math/bits.deBruijn32tab" = some 0 := by kernel_rfl
theorem g64 : Tryd.prog.globalNamed "math/bits.deBruijn64tab" = some 1 := by kernel_rfl
theorem t64 : (Tryd.prog.globals[1]?).map (·.type) = some 43 := by kernel_rfl

theorem door_met (os : Os) (args : Array Value) : laidMetH Tryd.prog laidL ((World.doorLaid Tryd.prog 65 os).forCall (fun _ _ => 0) ⟨#[], args, []⟩).memory :=
  laidMetH_of_parts3 (fuel := 8) (laidMet_of_run' 8 (by kernel_rfl) (by kernel_rfl)) (by kernel_rfl) (by kernel_rfl)

theorem lits64 : (Rows.laid_math_bits_deBruijn64tab : DataW Unit) = .agg (tabL.map fun n => .lit (.int .u8 ((n : Nat) : Int))) := by kernel_rfl

/-- What the condition gives the walks. -/
theorem tab_of_laid {W : World} (h : laidMetH Tryd.prog laidL W) : Tab W ∧ 1 < W.heap.size := by
  rw [MakeChecks.laidMetH_plain _ _ _ (by kernel_rfl)] at h
  obtain ⟨ps, ⟨g0, t0, cs0, f0, p0, q0, hg0, ht0, hv0, hd0, ⟨g1, t1, cs1, f1, p1, q1, hg1, ht1, hv1, hd1, _, _⟩, _⟩, _, _⟩ := h
  obtain rfl := Option.some.inj (g64.symm.trans hg1)
  obtain rfl := Option.some.inj (t64.symm.trans ht1)
  obtain ⟨xs, m1, rfl, hx1, hlen, hn3, hel⟩ := DataW.trod_array Tryd.underlying43 hd1
  have c1 : Tryd.prog.cellsOf 5 = 1 := by kernel_rfl
  rw [lits64] at hx1
  simp only [Prod.mk.injEq, DataW.agg.injEq] at hx1
  have key : ∀ j, j < 64 → W.cell? ⟨1, j, none⟩ = some (.int .u8 ((tabL.getD j 0 : Nat) : Int)) := by
    intro j hj
    have hj' := hel j hj
    rw [c1, Nat.mul_one] at hj'
    have hx := congrArg (·[j]?) hx1.1
    have hl : j < tabL.length := hj
    simp only [List.getElem?_map, List.getElem?_eq_getElem hl, List.getElem?_eq_getElem (hn3 ▸ hj : j < xs.length), Option.map_some, Option.some.injEq] at hx
    rw [List.getElem?_eq_getElem (hn3 ▸ hj : j < xs.length)] at hj'
    have hc : cs1.toList[j]? = some (.int .u8 ((tabL[j] : Nat) : Int)) := by
      have hd : (cs1.toList.drop j).take 1 = [cs1.toList[j]'(by rw [hlen]; exact hj)] := by
        rw [List.drop_eq_getElem_cons (by rw [hlen]; exact hj)]; rfl
      rw [hd] at hj'
      obtain ⟨k, e1, e2, _⟩ := DataW.trod_int Tryd.underlying5 hj'
      rw [e2] at hx
      simp only [DataW.lit.injEq, Lit.int.injEq, true_and] at hx
      rw [List.getElem?_eq_getElem (by rw [hlen]; exact hj)]
      simp only [List.cons.injEq, and_true] at e1
      rw [e1, hx]
    have := World.var?_cell hg1 hv1 j
    rw [this, ← Array.getElem?_toList, hc, List.getD_eq_getElem?_getD, List.getElem?_eq_getElem hl]
    rfl
  refine ⟨key, ?_⟩
  have := key 0 (by decide)
  exact World.block_lt_of_cell? _ _ this
end Go.Proofs.YtcmdlaikdpiemaaDoor
