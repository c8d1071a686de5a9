/-
  The listed tables of the digest, as a law meets them: what the row's condition gives a walk; the heap that the door's own run leaves meets it.
-/
import Derived.Test.YtldgnckchlbadaaDoorRows
import Derived.Test.YtldgnckchlbadaaDoorSeg1
import Derived.ProofKit
import Derived.LaidMore
import Derived.OpenShut
import Derived.Stop.Joined
namespace Go.Proofs.YtldgnckchlbadaaDoor
set_option maxRecDepth 4000
open Go.ChangeShapes Go.WideShapes Go.ChangeAt Go.RowKit

def laidL : List (String × DataW Unit) := [("engrosser/sha.rounds", Rows.laid_engrosser_sha_rounds), ("engrosser/sha.start", Rows.laid_engrosser_sha_start)]
theorem gR : Tryd.prog.globalNamed "engrosser/sha.rounds" = some 1 := by kernel_rfl
theorem gS : Tryd.prog.globalNamed "engrosser/sha.start" = some 0 := by kernel_rfl
theorem tR : (Tryd.prog.globals[1]?).map (·.type) = some 144 := by kernel_rfl
theorem tS : (Tryd.prog.globals[0]?).map (·.type) = some 125 := by kernel_rfl

theorem door_met (os : Os) (args : Array Value) : laidMetH Tryd.prog laidL ((World.doorLaid Tryd.prog 65 os).forCall (fun _ _ => 0) ⟨#[], args, []⟩).memory :=
  laidMetH_of_parts3 (fuel := 8) (laidMet_of_run' 8 (by kernel_rfl) (by kernel_rfl)) (by kernel_rfl) (by kernel_rfl)

theorem litsR : (Rows.laid_engrosser_sha_rounds : DataW Unit) = .agg (shK.map fun n => .lit (.int .u32 ((n : Nat) : Int))) := by kernel_rfl
theorem litsS : (Rows.laid_engrosser_sha_start : DataW Unit) = .agg (shH.map fun n => .lit (.int .u32 ((n : Nat) : Int))) := by kernel_rfl

/-- What the condition gives the walks. -/
theorem tab_of_laid {W : World} (h : laidMetH Tryd.prog laidL W) : Tab W := by
  rw [MakeChecks.laidMetH_plain _ _ _ (by kernel_rfl)] at h
  obtain ⟨ps, ⟨g0, t0, cs0, f0, p0, q0, hg0, ht0, hv0, hd0, ⟨g1, t1, cs1, f1, p1, q1, hg1, ht1, hv1, hd1, _, _⟩, _⟩, _, _⟩ := h
  obtain rfl := Option.some.inj (gR.symm.trans hg0)
  obtain rfl := Option.some.inj (tR.symm.trans ht0)
  obtain rfl := Option.some.inj (gS.symm.trans hg1)
  obtain rfl := Option.some.inj (tS.symm.trans ht1)
  have c1 : Tryd.prog.cellsOf 123 = 1 := by kernel_rfl
  have keyR : ∀ j, j < 64 → cs0.toList[j]? = some (.int .u32 ((shK.getD j 0 : Nat) : Int)) := by
    obtain ⟨xs, m1, rfl, hx1, hlen, hn3, hel⟩ := DataW.trod_array Tryd.underlying144 hd0
    rw [litsR] at hx1
    simp only [Prod.mk.injEq, DataW.agg.injEq] at hx1
    intro j hj
    have hj' := hel j hj
    rw [c1, Nat.mul_one] at hj'
    have hx := congrArg (·[j]?) hx1.1
    have hl : j < shK.length := hj
    simp only [List.getElem?_map, List.getElem?_eq_getElem hl, List.getElem?_eq_getElem (hn3 ▸ hj : j < xs.length), Option.map_some, Option.some.injEq] at hx
    rw [List.getElem?_eq_getElem (hn3 ▸ hj : j < xs.length)] at hj'
    have hd : (cs0.toList.drop j).take 1 = [cs0.toList[j]'(by rw [hlen]; exact hj)] := by
      rw [List.drop_eq_getElem_cons (by rw [hlen]; exact hj)]; rfl
    rw [hd] at hj'
    obtain ⟨k, e1, e2, _⟩ := DataW.trod_int Tryd.underlying123 hj'
    rw [e2] at hx
    simp only [DataW.lit.injEq, Lit.int.injEq, true_and] at hx
    rw [List.getElem?_eq_getElem (by rw [hlen]; exact hj)]
    simp only [List.cons.injEq, and_true] at e1
    rw [e1, ← hx, List.getD_eq_getElem?_getD, List.getElem?_eq_getElem hl]
    rfl
  have keyS : cs1.toList.length = 8 ∧ ∀ j, j < 8 → cs1.toList[j]? = some (.int .u32 ((shH.getD j 0 : Nat) : Int)) := by
    obtain ⟨xs, m1, rfl, hx1, hlen, hn3, hel⟩ := DataW.trod_array Tryd.underlying125 hd1
    rw [litsS] at hx1
    simp only [Prod.mk.injEq, DataW.agg.injEq] at hx1
    refine ⟨by rw [hlen]; rfl, ?_⟩
    intro j hj
    have hj' := hel j hj
    rw [c1, Nat.mul_one] at hj'
    have hx := congrArg (·[j]?) hx1.1
    have hl : j < shH.length := hj
    simp only [List.getElem?_map, List.getElem?_eq_getElem hl, List.getElem?_eq_getElem (hn3 ▸ hj : j < xs.length), Option.map_some, Option.some.injEq] at hx
    rw [List.getElem?_eq_getElem (hn3 ▸ hj : j < xs.length)] at hj'
    have hd : (cs1.toList.drop j).take 1 = [cs1.toList[j]'(by rw [hlen]; exact hj)] := by
      rw [List.drop_eq_getElem_cons (by rw [hlen]; exact hj)]; rfl
    rw [hd] at hj'
    obtain ⟨k, e1, e2, _⟩ := DataW.trod_int Tryd.underlying123 hj'
    rw [e2] at hx
    simp only [DataW.lit.injEq, Lit.int.injEq, true_and] at hx
    rw [List.getElem?_eq_getElem (by rw [hlen]; exact hj)]
    simp only [List.cons.injEq, and_true] at e1
    rw [e1, ← hx, List.getD_eq_getElem?_getD, List.getElem?_eq_getElem hl]
    rfl
  have hK : Kt W := fun j hj => by
    have := World.var?_cell hg0 hv0 j
    rw [this, ← Array.getElem?_toList, keyR j hj]
  have hcs : cs1 = (wds shH).toArray := by
    apply Array.ext'
    rw [List.toList_toArray]
    refine List.ext_getElem? fun j => ?_
    by_cases hj : j < 8
    · rw [keyS.2 j hj, wds_get (show j < shH.length from hj)]
    · rw [List.getElem?_eq_none (by rw [keyS.1]; omega), List.getElem?_eq_none (by rw [length_wds]; show 8 ≤ j; omega)]
  have hH : Ht W := by
    unfold World.var? at hv1
    rw [hg1] at hv1
    simp only [Option.bind_some] at hv1
    cases ho : W.heap[(0 : Nat)]? with
    | none => rw [ho] at hv1; simp at hv1
    | some o =>
      rw [ho] at hv1
      cases o with
      | cells cs t fr => simp at hv1; subst hv1; exact ⟨t, fr, ho.trans (by rw [hcs])⟩
      | _ => simp at hv1
  refine ⟨hK, hH, ?_⟩
  exact World.block_lt_of_cell? _ _ (hK 0 (by decide))
end Go.Proofs.YtldgnckchlbadaaDoor
