/-
  Get, Find, Depth, New.
-/
import Derived.Test.YtphhlfochapecaaDoorTerm2
import Derived.Test.YtphhlfochapecaaDoorRes
namespace Go.Proofs.YtphhlfochapecaaDoor
set_option maxRecDepth 4000
open Go.RowKit

theorem info_term : (Tryd.prog.info? 45).map (·.size) = some 4 := by kernel_rfl
theorem own_tm {w : World} {base n c : Nat} {e : TypeId} {A : Option Addr} {l : List Tm} (h : w.ownsRow base e 4 (.slice A n c) n (tcs l)) {k : Nat} {t : Tm} (hk : l[k]? = some t) :
    ∃ g, A = some ⟨g, 0, none⟩ ∧ w.cell? ⟨g, k * 4, none⟩ = some (.int .i64 t.k) ∧ w.cell? ⟨g, k * 4 + 1, none⟩ = some (.int .i64 t.a) ∧ w.cell? ⟨g, k * 4 + 2, none⟩ = some (.int .i64 t.x) ∧ w.cell? ⟨g, k * 4 + 3, none⟩ = some (.int .i64 t.y) := by
  have hl : (tcs l).length = n * 4 := h.1
  have hkl := (List.getElem?_eq_some_iff.1 hk).1
  simp at hl
  obtain ⟨g, cap, cur, e1, hb, hblk, _⟩ := own_open h (by omega)
  injection e1 with e1 _ e3
  subst e1; subst e3
  have hg : ∀ j u, j < 4 → (tcells t)[j]? = some u → w.cell? ⟨g, k * 4 + j, none⟩ = some u := fun j u hj hu => own_cell h (by rw [tcs_get hk j hj]; exact hu)
  exact ⟨g, rfl, hg 0 _ (by omega) rfl, hg 1 _ (by omega) rfl, hg 2 _ (by omega) rfl, hg 3 _ (by omega) rfl⟩

theorem get_no (p : Nat) (x : Int) (l : List Tm) (base : Nat) (w : World) (hP : PoolIs w base p l) (hx : thereT l.length x = false) :
    Calls Tryd.prog 36 #[.pointer (some ⟨p, 0, none⟩), .int .i64 x] w fun e w' => e = .returned (.tuple #[tval ⟨0, 0, 0, 0⟩, .bool false]) ∧ Below w.heap.size w w' := by
  obtain ⟨tA, tc, mb, dA, dc, sA, sc, hP⟩ := hP
  have hB : ∀ o, Below w.heap.size w (w.alloc o) := fun o => (Below.refl _ _).alloc (Nat.le_refl _) o
  have h0 : ∀ o, (w.alloc o).cell? ⟨p, 0, none⟩ = some (.slice tA l.length tc) := fun o => ((Blk.alloc hP.blk o).cell 0)
  have hth : ∀ o, Calls Tryd.prog 38 #[.pointer (some ⟨p, 0, none⟩), .int .i64 x] (w.alloc o) fun e w' => e = .returned (.bool false) ∧ (w.alloc o) = w' := fun o => by
    rw [← hx]; exact pthere_any p x tA l.length tc _ (own_len hP.ts) (h0 o)
  have HT := Lib.hid hth; clear hth
  have HB := Lib.hid hB; clear hB
  clear hP h0 hx
  go_enter Tryd.func36, Tryd.ntmps36
  go_wp2_with (go_at_call 38; refine (HT.out _).mono ?_; rintro e' w' ⟨rfl, rfl⟩)
  refine bodyPost_ret (results_row_tmp rfl _ _ w.heap.size 45 _ (0, 0) _ rfl (Blk.new _ _ _) Tryd.underlying45 rfl info_term) rfl ⟨rfl, HB.out _⟩

theorem get_ok (p X : Nat) (t : Tm) (l : List Tm) (base : Nat) (w : World) (hP : PoolIs w base p l) (hx : l[X]? = some t) :
    Calls Tryd.prog 36 #[.pointer (some ⟨p, 0, none⟩), .int .i64 X] w fun e w' => e = .returned (.tuple #[tval t, .bool true]) ∧ Below w.heap.size w w' := by
  obtain ⟨tA, tc, mb, dA, dc, sA, sc, hP⟩ := hP
  have hX : X < l.length := (List.getElem?_eq_some_iff.1 hx).1
  obtain ⟨tg, rfl, q0, q1, q2, q3⟩ := own_tm hP.ts hx
  have hll := own_len hP.ts
  unfold maxLen at hll
  have hB : ∀ o, Below w.heap.size w (w.alloc o) := fun o => (Below.refl _ _).alloc (Nat.le_refl _) o
  have h0 : ∀ o, (w.alloc o).cell? ⟨p, 0, none⟩ = some (.slice (some ⟨tg, 0, none⟩) l.length tc) := fun o => ((Blk.alloc hP.blk o).cell 0)
  have hth : ∀ o, Calls Tryd.prog 38 #[.pointer (some ⟨p, 0, none⟩), .int .i64 X] (w.alloc o) fun e w' => e = .returned (.bool true) ∧ (w.alloc o) = w' := fun o => by
    have e : thereT l.length X = true := by simp [thereT, hX]
    rw [← e]; exact pthere_any p X _ l.length tc _ (own_len hP.ts) (h0 o)
  have hold : ∀ o a v, w.cell? a = some v → (w.alloc o).cell? a = some v := fun o a v h => (World.cell?_of_block (Below.heap_alloc w o _ (World.block_lt_of_cell? w _ h))).trans h
  have r0 := fun o => hold o _ _ q0
  have r1 := fun o => hold o _ _ q1
  have r2 := fun o => hold o _ _ q2
  have r3 := fun o => hold o _ _ q3
  have HT := Lib.hid hth; clear hth
  have HB := Lib.hid hB; clear hB
  clear hP hold q0 q1 q2 q3 hx
  obtain ⟨k, a, x, y⟩ := t
  simp only at r0 r1 r2 r3
  go_enter Tryd.func36, Tryd.ntmps36
  go_wp2_with (go_at_call 38; refine (HT.out _).mono ?_; rintro e' w' ⟨rfl, rfl⟩)
  refine bodyPost_ret (results_row_tmp rfl _ _ w.heap.size 45 _ (0, 0) _ rfl (Blk.new _ _ _) Tryd.underlying45 rfl info_term) rfl ⟨rfl, HB.out _⟩
end Go.Proofs.YtphhlfochapecaaDoor
