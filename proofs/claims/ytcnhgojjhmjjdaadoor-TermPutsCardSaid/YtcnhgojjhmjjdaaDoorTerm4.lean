/-
  Depth, Find, New.
-/
import Derived.Test.YtcnhgojjhmjjdaaDoorTerm3
namespace Go.Proofs.YtcnhgojjhmjjdaaDoor
set_option maxRecDepth 4000
open Go.RowKit

theorem depth_no (p : Nat) (x : Int) (l : List Tm) (base : Nat) (w : World) (hP : PoolIs w base p l) (hx : thereT l.length x = false) :
    Calls Tryd.prog 9 #[.pointer (some ⟨p, 0, none⟩), .int .i64 x] w fun e w' => e = .returned (.int .i64 0) ∧ w = w' := by
  obtain ⟨tA, tc, mb, dA, dc, sA, sc, hP⟩ := hP
  have HT := Lib.hid (pthere_any p x tA l.length tc _ (own_len hP.ts) hP.cell0)
  rw [hx] at HT
  clear hP hx
  go_enter Tryd.func9, Tryd.ntmps9
  go_wp2_with (go_at_call 20; refine (HT.out).mono ?_; rintro e' w' ⟨rfl, rfl⟩)
  go_ret
  exact ⟨rfl, rfl⟩
theorem depth_ok (p X : Nat) (l : List Tm) (base : Nat) (w : World) (hP : PoolIs w base p l) (hX : X < l.length) :
    Calls Tryd.prog 9 #[.pointer (some ⟨p, 0, none⟩), .int .i64 X] w fun e w' => e = .returned (.int .i64 ((deps l).getD X 0)) ∧ w = w' := by
  obtain ⟨tA, tc, mb, dA, dc, sA, sc, hP⟩ := hP
  obtain ⟨dg, rfl, q0⟩ := own_int hP.ds hX
  have HT := Lib.hid (pthere_any p X tA l.length tc _ (own_len hP.ts) hP.cell0)
  rw [show thereT l.length X = true by simp [thereT, hX]] at HT
  have c2 := hP.cell2
  have hll := own_len hP.ts
  unfold maxLen at hll
  clear hP
  generalize (deps l).getD X 0 = d at *
  go_enter Tryd.func9, Tryd.ntmps9
  go_wp2_with (go_at_call 20; refine (HT.out).mono ?_; rintro e' w' ⟨rfl, rfl⟩)
  go_ret
  exact ⟨rfl, rfl⟩

theorem find_any (p : Nat) (t : Tm) (l : List Tm) (base : Nat) (w : World) (hP : PoolIs w base p l) :
    Calls Tryd.prog 15 #[.pointer (some ⟨p, 0, none⟩), tval t] w fun e w' => e = .returned (.tuple #[.int .i64 (if t ∈ l then (l.idxOf t : Int) else 0), .bool (decide (t ∈ l))]) ∧ Below w.heap.size w w' := by
  obtain ⟨tA, tc, mb, dA, dc, sA, sc, hP⟩ := hP
  have hB : ∀ o, Below w.heap.size w (w.alloc o) := fun o => (Below.refl _ _).alloc (Nat.le_refl _) o
  have h1 : (w.alloc (.cells #[.int .i64 t.k, .int .i64 t.a, .int .i64 t.x, .int .i64 t.y] 33)).cell? ⟨p, 1, none⟩ = some (.map (some mb)) := ((Blk.alloc hP.blk _).cell 1)
  have hm : ∀ o, TMap (w.alloc o) mb l := fun o => hP.mp.keep (Below.heap_alloc w o mb hP.mp.lt)
  have hn := Blk.new w 33 #[.int .i64 t.k, .int .i64 t.a, .int .i64 t.x, .int .i64 t.y]
  have n0 := hn.cell 0
  have n1 := hn.cell 1
  have n2 := hn.cell 2
  have n3 := hn.cell 3
  have hz : ∀ W, (zeroValue 3).run Tryd.prog W = .ok (.int .i64 0) W := fun W => by kernel_rfl
  have hl : ∀ W, TMap W mb l → (Instr.lookup 49 (.map (some mb)) (.agg #[.int .i64 t.k, .int .i64 t.a, .int .i64 t.x, .int .i64 t.y]) true).run Tryd.prog W = .ok (.tuple #[.int .i64 (if t ∈ l then (l.idxOf t : Int) else 0), .bool (decide (t ∈ l))]) W :=
    fun W hW => run_lookup_tm termType Tryd.underlying49 (hz W) hW t
  generalize (if t ∈ l then (l.idxOf t : Int) else 0) = N at *
  generalize decide (t ∈ l) = D at *
  obtain ⟨k, a, x, y⟩ := t
  unfold tval
  simp only at h1 n0 n1 n2 n3 hl
  have HS := Lib.hid (And.intro h1 (And.intro n0 (And.intro n1 (And.intro n2 (And.intro n3 (hm (.cells #[.int .i64 k, .int .i64 a, .int .i64 x, .int .i64 y] 33)))))))
  have HL := Lib.hid hl; clear hl
  have HB := Lib.hid hB; clear hB
  clear hP h1 hm hn n0 n1 n2 n3 hz
  go_enter Tryd.func15, Tryd.ntmps15
  go_wp2_with fail
  refine region_fast [(0, true), (1, true), (2, true), (3, true), (4, true), (5, true), (6, true), (7, true), (8, true), (9, true), (10, true)] [4, 8, 9] 784 [(512, 1, 0, 0), (1024, 512, 1, 1), (2048, 1024, 2, 3), (4096, 2048, 4, 7), (8192, 8, 0, 0), (16384, 12288, 24, 31), (256, 16384, 32, 63), (32768, 256, 64, 127), (65536, 256, 64, 127), (64, 32768, 255, 255), (128, 65536, 1023, 1023)] (fun W => W.cell? ⟨p, 1, none⟩ = some (.map (some mb)) ∧ W.cell? ⟨w.heap.size, 0, none⟩ = some (.int .i64 k) ∧ W.cell? ⟨w.heap.size, 1, none⟩ = some (.int .i64 a) ∧ W.cell? ⟨w.heap.size, 2, none⟩ = some (.int .i64 x) ∧ W.cell? ⟨w.heap.size, 3, none⟩ = some (.int .i64 y) ∧ TMap W mb l) (by kernel_rfl) (by kernel_rfl) (by kernel_rfl) rfl (by kernel_rfl) (by kernel_rfl) HS.out (fun hS => ?_)
  repeat (first
    | (refine plan_read (v := ?_) rfl (fun _ _ _ h => h) rfl hS ?_ ?_; rotate_left 1; (focus (intro w' hS'; obtain ⟨s1, s2, s3, s4, s5, s6⟩ := hS'; have hl := HL.out _ s6; go_simp; try rfl)); (simp only [Act.put, List.setIfInBounds_toArray]; dsimp only [List.set_cons_zero, List.set_cons_succ]))
    | (refine plan_skip rfl (fun _ _ _ h => h) rfl hS ?_; (simp only [Act.put, List.setIfInBounds_toArray]; dsimp only [List.set_cons_zero, List.set_cons_succ])))
  refine plan_nil ?_
  go_wp2_with fail
  go_ret2
  exact ⟨rfl, (HB.out _).drew⟩

theorem new_any (base : Nat) (w : World) (hb : base ≤ w.heap.size) :
    Calls Tryd.prog 17 #[] w fun e w' => ∃ p, e = .returned (.pointer (some ⟨p, 0, none⟩)) ∧ PoolIs w' base p [] ∧ Below w.heap.size w w' ∧ w.heap.size ≤ p := by
  have hmm := @run_makeMap Tryd.prog
  have hB : ∀ o o', Below w.heap.size w ((w.alloc o).alloc o') := fun o o' => ((Below.refl _ _).alloc (Nat.le_refl _) o).alloc (by simp) o'
  have HB := Lib.hid hB; clear hB
  go_enter Tryd.func17, Tryd.ntmps17
  go_wp2_with fail
  go_ret
  refine ⟨w.heap.size + 1, rfl, ⟨none, 0, w.heap.size, none, 0, none, 0, ⟨?_, World.ownsRow_nil _ _ _ _, World.ownsRow_nil _ _ _ _, World.ownsRow_nil _ _ _ _, ?_, by simp [Value.ownBlock], by omega, by omega⟩⟩, HB.out _ _, by omega⟩
  · have := Blk.new (w.alloc (.map #[] 0)) 52 #[.slice none 0 0, .map (some w.heap.size), .slice none 0 0, .slice none 0 0]
    simpa using this
  · exact (TMap.new w).keep (Below.heap_alloc _ _ _ (by simp))
end Go.Proofs.YtcnhgojjhmjjdaaDoor
