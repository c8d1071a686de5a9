/-
  A row of dues and the sort's worlds.
-/
import Derived.Test.YtaapdkeipknilaaDue11
import Derived.Shelf.SlSortCmp.InsertionK
namespace Go.Proofs.Ytaapdkeipknilaa
set_option maxRecDepth 4000
open Go.RowKit Go.Shelf

theorem dcells_at (y : Int × Int) (r : Nat) (h : r < 2) : (dcells y)[r]? = some (dcells y)[r]! := by
  match r, h with
  | 0, _ => rfl
  | 1, _ => rfl
theorem flat_dcs (d : Array (Int × Int)) : (Go.Sort.flatK dcells 2 d).toList = dcs d.toList := by
  apply List.ext_getElem?
  intro t
  by_cases ht : t < d.size * 2
  · have hk : t / 2 < d.size := by omega
    have h1 := dcs_get (l := d.toList) (k := t / 2) (e := d[t / 2]!) (by rw [Array.getElem?_toList, Array.getElem?_eq_getElem hk, getElem!_pos d _ hk]) (t % 2) (Nat.mod_lt _ (by decide))
    rw [show t / 2 * 2 + t % 2 = t by omega, dcells_at _ _ (Nat.mod_lt _ (by decide))] at h1
    rw [h1, Array.getElem?_toList, Array.getElem?_eq_getElem (by rw [Go.Sort.size_flatK]; exact ht), ← getElem!_pos, Go.Sort.get_flatK _ _ _ _ ht]
  · rw [List.getElem?_eq_none (by rw [Array.length_toList, Go.Sort.size_flatK]; omega), List.getElem?_eq_none (by rw [dcs_length, Array.length_toList]; omega)]
theorem holds_due {w : World} {g n cap : Nat} {zs : List (Int × Int)} {base : Nat} (hn : n = zs.length) (h : w.ownsRow base 28 2 (.slice (some ⟨g, 0, none⟩) n cap) n (dcs zs)) : Go.Sort.HoldsK dcells 2 w g 0 zs.toArray := by
  intro j hj
  rw [Go.Sort.size_flatK] at hj
  have hj' : j < zs.length * 2 := by simpa using hj
  obtain ⟨g', cap', cur, hv, hb, hg, h1, h2, h3, h4⟩ := own_open h (by omega)
  injection hv with hv _ _
  injection hv with hv
  injection hv with hv _ _
  subst hv
  rw [Nat.zero_add]
  refine ⟨?_, hg.frozen j⟩
  have e1 : (Go.Sort.flatK dcells 2 zs.toArray).toList[j]? = (dcs zs)[j]? := by rw [flat_dcs]
  rw [Array.getElem?_toList, Array.getElem?_eq_getElem (by rw [Go.Sort.size_flatK]; simpa using hj'), ← getElem!_pos] at e1
  rw [← h4, List.getElem?_take, if_pos (by omega), Array.getElem?_toList] at e1
  rw [hg.cell, ← e1]
  rfl
theorem sorted_world {w : World} {g n m cap base : Nat} {zs : List (Int × Int)} {d' : Array (Int × Int)} {os : Array Obj} (hn : n = zs.length) (h0 : 0 < n) (hd : d'.size = n) (h : w.ownsRow base 28 2 (.slice (some ⟨g, 0, none⟩) n cap) n (dcs zs)) :
    (Go.Proofs.sortWorldK dcells 2 w g 0 m d' os).ownsRow base 28 2 (.slice (some ⟨g, 0, none⟩) n cap) n (dcs d'.toList) ∧ Below base w (Go.Proofs.sortWorldK dcells 2 w g 0 m d' os) := by
  obtain ⟨g', cap', cur, hv, hb, hg, h1, h2, h3, h4⟩ := own_open h h0
  injection hv with hv _ hc
  injection hv with hv
  injection hv with hv _ _
  subst hv hc
  have hlt := hg.lt
  have hz : ∀ k, k < w.heap.size → (Go.Proofs.sortWorldK dcells 2 w g 0 m d' os).heap[k]? = (Go.Sort.putRowK dcells 2 (Go.Sort.ahead w m) g 0 d').heap[k]? := fun k hk => by
    unfold Go.Proofs.sortWorldK Go.Sort.grow
    simp only []
    rw [Array.getElem?_append_left (by simp [Go.Sort.putRowK, Go.Sort.putRow, Go.Sort.mapBlock, Go.Sort.ahead]; exact hk)]
  have hk' : Blk (Go.Proofs.sortWorldK dcells 2 w g 0 m d' os) g 28 (Go.Sort.putCells id 0 (Go.Sort.flatK dcells 2 d') cur) := by
    unfold Blk
    rw [hz g hlt]
    have : w.heap[g]? = some (.cells cur 28 (0, 0)) := hg
    simp [Go.Sort.putRowK, Go.Sort.putRow, Go.Sort.mapBlock, Go.Sort.ahead, Array.getElem?_modify, this, Go.Sort.onCells]
  refine ⟨own_mk hb hk' h1 h2 (by simp [Go.Sort.putCells, h3]) ?_, ⟨rfl, rfl, rfl, ?_, fun k hk => ?_⟩⟩
  · rw [← flat_dcs]
    apply List.ext_getElem?
    intro j
    by_cases hj : j < n * 2
    · have hjc : j < cur.size := by rw [h3]; omega
      rw [List.getElem?_take, if_pos hj, Array.getElem?_toList, Array.getElem?_toList]
      simp only [Go.Sort.putCells, Array.getElem?_mapIdx, Array.getElem?_eq_getElem hjc, Option.map_some]
      rw [if_pos ⟨Nat.zero_le _, by rw [Go.Sort.size_flatK, hd]; omega⟩, Nat.sub_zero, Array.getElem?_eq_getElem (by rw [Go.Sort.size_flatK, hd]; exact hj), ← getElem!_pos]
      rfl
    · rw [List.getElem?_take, if_neg hj, List.getElem?_eq_none (by rw [Array.length_toList, Go.Sort.size_flatK, hd]; omega)]
  · simp [Go.Proofs.sortWorldK, Go.Sort.grow, Go.Sort.putRowK, Go.Sort.putRow, Go.Sort.mapBlock, Go.Sort.ahead]
  · have hkl : k < w.heap.size := by omega
    rw [hz k hkl]
    have : ¬ g = k := by omega
    simp [Go.Sort.putRowK, Go.Sort.putRow, Go.Sort.mapBlock, Go.Sort.ahead, Array.getElem?_modify, this]
end Go.Proofs.Ytaapdkeipknilaa
