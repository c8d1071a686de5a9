/-
  append(b, make([]byte, m)...) behind a row that is there.
-/
import Derived.Test.YtjlkgkfheaihpaaDoorKit
import Derived.Lib.AppendZeros
import Derived.Maps.AppendAt
namespace Go.Proofs.YtjlkgkfheaihpaaDoor
set_option maxRecDepth 4000
open Go.RowKit

section
variable {P : Program} {w : World}
theorem zero_list (m : Nat) : (Builtin.zeroCells #[Value.int .u8 0] m).toList = List.replicate m (.int .u8 0) := by
  apply List.ext_getElem?
  intro j
  simp only [Builtin.zeroCells, Array.toList_map, List.getElem?_map, Array.toList_range, List.getElem?_replicate]
  by_cases h : j < m
  · rw [List.getElem?_range (by simpa using h), if_pos h]
    simp [Nat.mod_one]
  · rw [List.getElem?_eq_none (by simp; omega), if_neg h]
    rfl

theorem run_app_zeros (base : Nat) (t tn ty e : TypeId) (ht : P.underlying t = some (.slice e)) (htn : P.underlying tn = some (.int .i64))
    (hi : (P.info? e).map (fun i => (i.zero, i.size, i.bytes)) = some (some (.int .u8 0), 1, 1))
    (v : Value) (n : Nat) (xs : List Value) (hown : w.ownsRow base e 1 v n xs) (h0 : 0 < n) (m : Nat) (h63 : n + m ≤ 1000000) (hbase : base ≤ w.heap.size) :
    ∃ v' w', (Builtin.append_ #[t, tn] ty #[v, .int .i64 m]).run P w = .ok v' w' ∧ w'.ownsRow base e 1 v' (n + m) (xs ++ List.replicate m (.int .u8 0)) ∧ w.grownBy w' v.ownBlock ∧
      (v'.ownBlock = v.ownBlock ∨ v'.ownBlock = some w.heap.size) := by
  obtain ⟨i, hi, hz, hs, hb⟩ := info_parts hi
  have hlen : (xs ++ List.replicate m (Value.int .u8 0)).length = (n + m) * 1 := by rw [List.length_append, hown.1, List.length_replicate]; omega
  obtain ⟨g, cap, cur, rfl, hbg, hg, hnc, hcm, hcs, htake⟩ := own_open hown h0
  have hw : IntKind.i64.wrap (m : Int) = m := by rw [IntKind.wrap_i64]; omega
  have hneg : ¬ ((m : Int) < 0) := by omega
  have h48i : ¬ (281474976710656 < (m : Int) * (i.bytes : Int)) := by rw [hb]; omega
  have hzc : (Builtin.zeroCells (Value.int .u8 0).cells m).toList = List.replicate m (.int .u8 0) := zero_list m
  by_cases hroom : n + m ≤ cap
  · have hfit : n * 1 + (List.replicate m (Value.int .u8 0)).length ≤ cur.size := by rw [List.length_replicate, hcs]; omega
    have hst := run_storeCells_at P g (n * 1) e (List.replicate m (Value.int .u8 0)) 0 cur w hg (by simpa using hfit) (by intro u hu; rw [List.eq_of_mem_replicate hu]; rfl)
    simp only [Nat.add_zero, Nat.mul_one] at hst
    refine ⟨.slice (some ⟨g, 0, none⟩) (n + m) cap, w.setRow g (cur.toList.take n ++ List.replicate m (Value.int .u8 0) ++ cur.toList.drop (n + (List.replicate m (Value.int .u8 0)).length)).toArray, ?_, ⟨hlen, .inr ⟨g, cap, _, rfl, hbg, setRow_heap w g cur _ e _ hg, hroom, hcm, ?_, ?_⟩⟩, ⟨rfl, rfl, rfl, by simp, fun k _ hk => setRow_other w g k _ (fun e => hk (by simp [Value.ownBlock, e]))⟩, .inl rfl⟩
    · rcases Nat.eq_zero_or_pos m with rfl | hm
      · simp only [List.replicate_zero] at hst
        have hw0 : IntKind.i64.wrap 0 = 0 := by decide +kernel
        have hnc0 : n ≤ cap := hroom
        simp [Builtin.append_, run_underlying ht, run_underlying htn, sizeOf, typeInfo, hi, asInt, asIntOf, hw0, hnc0, hs]
        simp [Addr.add_lit, hst]
      · have hm0 : m ≠ 0 := by omega
        rw [← hzc] at hst
        simp [Builtin.append_, run_underlying ht, run_underlying htn, sizeOf, typeInfo, hi, hz, zeroValue, asInt, asIntOf, hw, hneg, h48i, hroom, hs, hm0]
        simp [Addr.add_lit, hst]
        have hzn : (Builtin.zeroCells (Value.int .u8 0).cells m).size = m := by rw [← Array.length_toList, hzc, List.length_replicate]
        simp [hzc, hzn]
    · simp only [List.size_toArray, List.length_append, List.length_take, List.length_drop, Array.length_toList, List.length_replicate]
      omega
    · rw [Nat.mul_one] at htake
      rw [htake, List.toList_toArray, ← hlen]
      exact List.take_left
  · have holds : ∀ j u, xs[j]? = some u → w.cell? ((⟨g, 0, none⟩ : Addr).add j) = some u := hown.cells (g := g) rfl
    have hfo := run_firstCells_some (P := P) w.drew 1 n ⟨g, 0, none⟩ n cap xs hown.1 (by simpa using holds)
    have hge := grownCap_ge w (n + m) cap e
    have hcm2 : grownCap w (n + m) cap e ≤ maxLen := grownCap_le_maxLen w (n + m) cap e (by unfold maxLen; omega)
    have h63' : ¬ (9223372036854775807 < ((n : Int) + (m : Int))) := by omega
    have h48' : ¬ (281474976710656 < Builtin.nextslicecap (n + m) cap * i.bytes) := by have := growslice_fits (bytes := i.bytes) (show cap < n + m by omega) (by rw [hb]; omega); omega
    refine ⟨.slice (some ⟨w.heap.size, 0, none⟩) (n + m) (grownCap w (n + m) cap e), w.drew.alloc (.cells (xs.toArray ++ (List.replicate m (Value.int .u8 0)).toArray ++ Builtin.zeroCells (Value.int .u8 0).cells (grownCap w (n + m) cap e - (n + m))) e), ?_, ⟨hlen, .inr ⟨w.heap.size, _, _, rfl, hbase, heap_alloc_new w.drew _, hge, hcm2, ?_, ?_⟩⟩, ⟨rfl, rfl, rfl, by simp, fun k hk _ => Below.heap_alloc w.drew _ k hk⟩, .inr rfl⟩
    · rcases Nat.eq_zero_or_pos m with rfl | hm
      · omega
      · have hm0 : m ≠ 0 := by omega
        have hza : Builtin.zeroCells (Value.int .u8 0).cells m = (List.replicate m (Value.int .u8 0)).toArray := by rw [← hzc]
        simp [Builtin.append_, run_underlying ht, run_underlying htn, sizeOf, typeInfo, hi, hz, zeroValue, asInt, asIntOf, hw, hneg, h48i, hroom, hs, h63', h48', hm0, Question.forced, hfo, newRow, grownCap, hza]
    · simp only [Array.size_append, List.size_toArray, size_zeroCells, hown.1, List.length_replicate, Value.cells, List.size_toArray, List.length_cons, List.length_nil]
      omega
    · rw [Array.toList_append, Array.toList_append, List.append_assoc]
      simp only [List.toList_toArray]
      rw [← List.append_assoc, ← hlen]
      exact List.take_left
end
end Go.Proofs.YtjlkgkfheaihpaaDoor
