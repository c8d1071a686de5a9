/-
  clear, on a part of a block of octets.
-/
import Derived.Test.YtldgnckchlbadaaDoorGB
import Derived.Lib.SliceRun
namespace Go.Proofs.YtldgnckchlbadaaDoor
set_option maxRecDepth 4000
open Go.RowKit

theorem splice_set {α : Type} (l : List α) (o : Nat) (v : α) (vs : List α) (h : o < l.length) : splice (l.set o v) (o + 1) vs = splice l o (v :: vs) := by
  unfold splice
  have e1 : (l.set o v).take (o + 1) = l.take o ++ [v] := by
    rw [List.take_add_one, List.take_set_of_le (Nat.le_refl _), List.getElem?_set_self h]; rfl
  rw [e1, List.drop_set_of_lt (by omega), List.length_cons, List.append_assoc, show o + 1 + vs.length = o + (vs.length + 1) by omega]
  rfl
theorem blk_setCells {g : Nat} {t : TypeId} : ∀ (vs : List Value) (o : Nat) (w : World) (cs : Array Value), Blk w g t cs → o + vs.length ≤ cs.size → Blk (w.setCells g o vs) g t (splice cs.toList o vs).toArray
  | [], o, w, cs, h, _ => by simpa [splice, World.setCells] using h
  | v :: vs, o, w, cs, h, hl => by
    rw [List.length_cons] at hl
    have h1 := blk_setCells vs (o + 1) _ _ (h.set_ o v) (by rw [Array.size_setIfInBounds]; omega)
    rw [Array.toList_setIfInBounds, splice_set _ _ _ _ (by simp; omega)] at h1
    exact h1
theorem fr_setCells {g : Nat} : ∀ (vs : List Value) (o : Nat) (w : World), Fr (fun k => k = g) w (w.setCells g o vs)
  | [], _, _ => Fr.refl _ _
  | v :: vs, o, w => (Fr.setCell (F := fun k => k = g) w ⟨g, o, none⟩ v rfl).trans (fr_setCells vs (o + 1) _) (fun _ _ h => h)
theorem zero_byte : ∀ w, (zeroValue 5).run Tryd.prog w = .ok (.int .u8 0) w := by
  intro w
  rfl
theorem run_clear (w : World) (ty : TypeId) (g o n c : Nat) (cs : Array Value) (h : Blk w g 5 cs) (hl : o + n ≤ cs.size) (hn : 0 < n) :
    (Builtin.clear_ #[35] ty #[.slice (some ⟨g, o, none⟩) n c]).run Tryd.prog w = .ok (.tuple #[]) (w.setCells g o (List.replicate n (.int .u8 0))) :=
  Go.Lib.run_clear_slice w 35 5 ty (.int .u8 0) Tryd.underlying35 zero_byte rfl rfl g o n c hn (fun j hj => by rw [h.cell]; simp; omega) (fun j hj => h.frozen _)
theorem run_clear0 (w : World) (ty : TypeId) (A : Option Addr) (c : Nat) : (Builtin.clear_ #[35] ty #[.slice A 0 c]).run Tryd.prog w = .ok (.tuple #[]) w := by
  cases A <;> simp [Builtin.clear_, run_underlying Tryd.underlying35, zero_byte, Builtin.zeroCells]
end Go.Proofs.YtldgnckchlbadaaDoor
