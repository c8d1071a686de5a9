/-
  A row of dues: Len, Less.
-/
import Derived.Test.YtaapdkeipknilaaDue1
namespace Go.Proofs.Ytaapdkeipknilaa
set_option maxRecDepth 4000
open Go.RowKit

def dcells (y : Int × Int) : List Value := [.int .i64 y.1, .int .i64 y.2]
@[simp] theorem dcells_length (y : Int × Int) : (dcells y).length = 2 := rfl
def dcs (l : List (Int × Int)) : List Value := l.flatMap dcells
@[simp] theorem dcs_length (l : List (Int × Int)) : (dcs l).length = l.length * 2 := by unfold dcs; rw [length_flatMap_const _ 2 dcells_length]
theorem dcs_get : ∀ {l : List (Int × Int)} {k : Nat} {e : Int × Int}, l[k]? = some e → ∀ j, j < 2 → (dcs l)[k * 2 + j]? = (dcells e)[j]?
  | [], k, e, h, j, hj => by simp at h
  | x :: l, 0, e, h, j, hj => by
      injection h with h; subst h
      show (dcells x ++ dcs l)[0 * 2 + j]? = _
      rw [Nat.zero_mul, Nat.zero_add, List.getElem?_append_left (by rw [dcells_length]; exact hj)]
  | x :: l, k + 1, e, h, j, hj => by
      show (dcells x ++ dcs l)[(k + 1) * 2 + j]? = _
      rw [List.getElem?_append_right (by rw [dcells_length]; omega), dcells_length, show (k + 1) * 2 + j - 2 = k * 2 + j by omega]
      exact dcs_get (by simpa using h) j hj
theorem len_any (A : Option Addr) (n c : Nat) (w : World) : Calls Try.prog 71 #[.slice A n c] w fun e w' => e = .returned (.int .i64 n) ∧ w = w' := by
  go_enter Try.func71, Try.ntmps71
  go_wp2_with fail
  go_ret
  exact ⟨rfl, rfl⟩
theorem in_due {w : World} {A : Option Addr} {l : List (Int × Int)} (h : Sees w 2 A l.length (dcs l)) {k : Nat} {y : Int × Int} (hk : l[k]? = some y) :
    ∃ g o, A = some ⟨g, o, none⟩ ∧ w.cell? ⟨g, o + k * 2, none⟩ = some (.int .i64 y.1) ∧ w.cell? ⟨g, o + k * 2 + 1, none⟩ = some (.int .i64 y.2) := by
  have hkl := (List.getElem?_eq_some_iff.1 hk).1
  obtain ⟨g, o, e', hc⟩ := h.2 (by omega)
  have hg : ∀ j u, j < 2 → (dcells y)[j]? = some u → w.cell? ⟨g, o + k * 2 + j, none⟩ = some u := fun j u hj hu => by
    have := hc (k * 2 + j) u (by rw [dcs_get hk j hj]; exact hu)
    rwa [← Nat.add_assoc] at this
  exact ⟨g, o, e', hg 0 _ (by omega) rfl, hg 1 _ (by omega) rfl⟩
set_option maxHeartbeats 1000000 in
theorem less_any (l : List (Int × Int)) (A : Option Addr) (c i j : Nat) (x y : Int × Int) (w : World) (hS : Sees w 2 A l.length (dcs l)) (hi : l[i]? = some x) (hj : l[j]? = some y) (hl : l.length ≤ 1000000) :
    Calls Try.prog 72 #[.slice A l.length c, .int .i64 i, .int .i64 j] w fun e w' => e = .returned (.bool (decide (cmpD x y < 0))) ∧ Below w.heap.size w w' := by
  obtain ⟨g, o, rfl, c0, c1⟩ := in_due hS hi
  obtain ⟨g2, o2, e2, c2, c3⟩ := in_due hS hj
  injection e2 with e2
  injection e2 with e2 e3 _
  subst e2 e3
  have hil : (i : Int) < (l.length : Int) := by have := (List.getElem?_eq_some_iff.1 hi).1; omega
  have hjl : (j : Int) < (l.length : Int) := by have := (List.getElem?_eq_some_iff.1 hj).1; omega
  have HC := Lib.hid (fun w => compare_any x y w)
  obtain ⟨a, b⟩ := x
  obtain ⟨d, f⟩ := y
  simp only at c0 c1 c2 c3
  generalize cmpD (a, b) (d, f) = R at *
  clear hS hi hj
  go_enter Try.func72, Try.ntmps72
  go_wp2_with fail
  refine region_fast [(0, true), (1, true), (2, true), (3, true), (4, true), (5, true), (6, true), (7, true), (8, false), (9, true), (10, true)] [1, 4, 5, 6, 7] 242 [(128, 1, 0, 0), (256, 2, 0, 0), (512, 384, 3, 3), (1024, 512, 4, 7), (2048, 1, 0, 0), (4096, 4, 0, 0), (8192, 6144, 48, 48), (16384, 8192, 64, 112), (32768, 17408, 136, 255), (65536, 32768, 256, 511), (64, 65536, 1023, 1023)] (fun W => W.cell? ⟨g, o + i * 2, none⟩ = some (.int .i64 a) ∧ W.cell? ⟨g, o + i * 2 + 1, none⟩ = some (.int .i64 b) ∧ W.cell? ⟨g, o + j * 2, none⟩ = some (.int .i64 d) ∧ W.cell? ⟨g, o + j * 2 + 1, none⟩ = some (.int .i64 f)) (by kernel_rfl) (by kernel_rfl) (by kernel_rfl) rfl (by kernel_rfl) (by kernel_rfl) ⟨c0, c1, c2, c3⟩ (fun hS => ?_)
  repeat (first
    | (refine plan_read (v := ?_) rfl (fun _ _ _ h => h) rfl hS ?_ ?_; rotate_left 1; (focus (intro w' hS'; have e0 := hS'.1; have e1 := hS'.2.1; have e2 := hS'.2.2.1; have e3 := hS'.2.2.2; go_simp; try rfl)); (simp only [Act.put, List.setIfInBounds_toArray]; dsimp only [List.set_cons_zero, List.set_cons_succ]))
    | (refine plan_skip rfl (fun _ _ _ h => h) rfl hS ?_; (simp only [Act.put, List.setIfInBounds_toArray]; dsimp only [List.set_cons_zero, List.set_cons_succ])))
  refine plan_do (by rfl) (by rfl) (fun K hK => ?_)
  go_simp
  refine (HC.out _).mono ?_
  rintro r w2 ⟨rfl, hb2⟩
  have hb2' := below_of_drew hb2
  have HB2 := Lib.hid hb2'
  have hg := World.block_lt_of_cell? _ _ c0
  have hS2 := And.intro ((World.cell?_of_block (hb2'.block g hg)).trans c0) (And.intro ((World.cell?_of_block (hb2'.block g hg)).trans c1) (And.intro ((World.cell?_of_block (hb2'.block g hg)).trans c2) ((World.cell?_of_block (hb2'.block g hg)).trans c3)))
  clear hb2 hb2' hg
  refine hK.out _ _ (fun h => by cases h) (fun _ => ?_); clear hK K; try (simp only [Act.put, List.setIfInBounds_toArray]; dsimp only [List.set_cons_zero, List.set_cons_succ])
  clear hS
  have hS := hS2
  repeat (first
    | (refine plan_read (v := ?_) rfl (fun _ _ _ h => h) rfl hS ?_ ?_; rotate_left 1; (focus (intro w' hS'; skip; go_simp; try rfl)); (simp only [Act.put, List.setIfInBounds_toArray]; dsimp only [List.set_cons_zero, List.set_cons_succ]))
    | (refine plan_skip rfl (fun _ _ _ h => h) rfl hS ?_; (simp only [Act.put, List.setIfInBounds_toArray]; dsimp only [List.set_cons_zero, List.set_cons_succ])))
  refine plan_nil ?_
  go_wp2_with fail
  go_ret
  exact ⟨rfl, HB2.out⟩
end Go.Proofs.Ytaapdkeipknilaa
