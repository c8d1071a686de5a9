/-
  An argument that is an array of integers, read and read back. No program in sight.
-/
import Derived.ProofKit
import Derived.OpenShut
import Derived.WalkKit
namespace Go.Proofs.Ytnlghpopjckhiaa
set_option maxRecDepth 4000
open Go.ChangeShapes Go.WideShapes Go.ChangeAt Go.RowKit

section
variable {H : Type} {enc : TypeId × Value → H} {P : Program} {w : World} {base : Nat} {spare : Nat → Bool} {held : Bool} {t e : TypeId} {k : IntKind} {n : Nat}

theorem okWide_array (ht : P.underlying t = some (.array n e)) (hs : P.cellsOf t = n) {r : Reach} {b0 : Nat} {v : Value} (h : Value.okWide P w r b0 t v) : ∃ xs : Array Value, v = .agg xs ∧ xs.size = n := by
  simp only [Value.okWide, ht] at h
  obtain ⟨cs, h1, h2, _⟩ := h
  exact ⟨cs, h1, by rw [h2, hs]⟩

theorem open_array (ht : P.underlying t = some (.array n e)) (he : P.underlying e = some (.int k)) (hc : P.cellsOf e = 1) (hs : P.cellsOf t = n) {r : Reach} {b0 : Nat} {v : Value} {d : DataW H} {ps : List MemPlace}
    (hval : Value.okWide P w r b0 t v) (hd : DataW.Trod enc P w base spare held t v d ps) :
    ∃ zs : List Int, zs.length = n ∧ (∀ z ∈ zs, (Lit.int k z).wf = true) ∧ v = .agg (zs.map (Value.int k ·)).toArray ∧ d = .agg (zs.map fun z => .lit (.int k z)) ∧ ps = [] := by
  obtain ⟨cs, rfl, hcs⟩ := okWide_array ht hs hval
  obtain ⟨fuel, hf⟩ := hd
  obtain ⟨xs, m, rfl, hx, hl, hn, hi⟩ := DataW.trod_array ht hf
  have hone : ∀ i, i < n → ∃ z, cs.toList[i]? = some (.int k z) ∧ xs[i]? = some (.lit (.int k z), []) ∧ (Lit.int k z).wf = true := fun i h => by
    have h1 := hi i h
    rw [hc, Nat.mul_one] at h1
    have h2 : xs[i]? = some (xs[i]'(by omega)) := List.getElem?_eq_getElem (by omega)
    rw [h2] at h1
    obtain ⟨z, e1, e2, e3⟩ := DataW.trod_int he h1
    refine ⟨z, ?_, by rw [h2, e2], e3⟩
    have h3 : (Value.agg cs).cells.toList = cs.toList := rfl
    rw [h3] at e1
    have h4 : ((cs.toList.drop i).take 1)[0]? = some (.int k z) := by rw [e1]; rfl
    simpa using h4
  let zs : List Int := cs.toList.map fun v => match v with | .int _ z => z | _ => 0
  have hz : ∀ i, i < n → ∃ z, cs.toList[i]? = some (.int k z) ∧ zs[i]? = some z ∧ xs[i]? = some (.lit (.int k z), []) ∧ (Lit.int k z).wf = true := fun i h => by
    obtain ⟨z, h1, h2, h3⟩ := hone i h
    exact ⟨z, h1, by simp only [zs, List.getElem?_map, h1]; rfl, h2, h3⟩
  have hzl : zs.length = n := by simp [zs, hcs]
  refine ⟨zs, hzl, fun z hm => ?_, ?_, ?_, ?_⟩
  · obtain ⟨i, hi, rfl⟩ := List.getElem_of_mem hm
    obtain ⟨z, _, h2, _, h4⟩ := hz i (by omega)
    rw [List.getElem?_eq_getElem hi] at h2
    injection h2 with h2
    rw [h2]; exact h4
  · have : cs.toList = zs.map (Value.int k ·) := by
      refine List.ext_getElem? fun i => ?_
      by_cases h : i < n
      · obtain ⟨z, h1, h2, _, _⟩ := hz i h
        rw [h1, List.getElem?_map, h2]; rfl
      · rw [List.getElem?_eq_none (by simp [hcs]; omega), List.getElem?_eq_none (by simp [hzl]; omega)]
    rw [← this]
  · have h1 := congrArg Prod.fst hx
    simp only at h1
    rw [h1]
    congr 1
    refine List.ext_getElem? fun i => ?_
    by_cases h : i < n
    · obtain ⟨z, _, h2, h3, _⟩ := hz i h
      rw [List.getElem?_map, List.getElem?_map, h2, h3]; rfl
    · rw [List.getElem?_eq_none (by simp; omega), List.getElem?_eq_none (by simp [hzl]; omega)]
  · have h1 := congrArg Prod.snd hx
    simp only at h1
    rw [h1, List.flatMap_eq_nil_iff]
    intro x hx
    obtain ⟨i, hi, rfl⟩ := List.getElem_of_mem hx
    obtain ⟨z, _, _, h3, _⟩ := hz i (by omega)
    rw [List.getElem?_eq_getElem hi] at h3
    injection h3 with h3
    rw [h3]

theorem shut_array (ht : P.underlying t = some (.array n e)) (he : P.underlying e = some (.int k)) (hc : P.cellsOf e = 1) (hs : P.cellsOf t = n) {zs : List Int} (hl : zs.length = n) (hw : ∀ z ∈ zs, (Lit.int k z).wf = true) :
    DataW.Trod enc P w base spare held t (.agg (zs.map (Value.int k ·)).toArray) (.agg (zs.map fun z => .lit (.int k z))) [] := by
  refine ⟨2, ?_⟩
  rw [DataW.trod_step]
  unfold DataW.trodStep
  simp only [ht, Value.cells]
  rw [if_pos (by simp [hl, hs])]
  have one : ∀ i, i < n → DataW.trod enc P w base spare held 1 e (((zs.map (Value.int k ·)).drop (i * P.cellsOf e)).take (P.cellsOf e)) = some ((.lit (.int k (zs.getD i 0)), []) : DataW H × List MemPlace) := fun i hi => by
    have hi' : i < zs.length := by omega
    have h1 : ((zs.map (Value.int k ·)).drop (i * P.cellsOf e)).take (P.cellsOf e) = [.int k (zs.getD i 0)] := by
      rw [hc, Nat.mul_one, ← List.map_drop, ← List.map_take]
      have h2 : (zs.drop i).take 1 = [zs[i]] := by rw [List.drop_eq_getElem_cons hi', List.take_succ_cons, List.take_zero]
      rw [h2]
      simp [List.getD_eq_getElem?_getD, hi']
    rw [h1]
    refine trod_int_mk 0 he (hw _ ?_)
    rw [List.getD_eq_getElem?_getD, List.getElem?_eq_getElem hi']
    exact List.getElem_mem hi'
  rw [mapM_range_of n one]
  have t1 : (List.range n).map (fun i => ((.lit (.int k (zs.getD i 0)), []) : DataW H × List MemPlace)) = zs.map fun z => (.lit (.int k z), []) := by
    refine List.ext_getElem? fun i => ?_
    by_cases h : i < n
    · simp [h, List.getD_eq_getElem?_getD, show i < zs.length by omega]
    · simp [h, List.getElem?_eq_none (show zs.length ≤ i by omega)]
  rw [t1]
  simp [Function.comp_def]
end
end Go.Proofs.Ytnlghpopjckhiaa
