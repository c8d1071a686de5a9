/-
  make([]byte, n) and []byte("..") of a constant.
-/
import Derived.Test.YtnlghpopjckhiaaClone
import Derived.Laws.MakeOwn
import Derived.Laws.IdiomStrings
namespace Go.Proofs.Ytnlghpopjckhiaa
set_option maxRecDepth 4000
open Go.RowKit

theorem make_bytes (n : Nat) (hn : n ≤ 1000) (W : World) : (Instr.makeSlice 37 (.int .i64 (n : Int)) (.int .i64 (n : Int))).run Try.prog W = .ok (.slice (some ⟨W.heap.size, 0, none⟩) n n) (W.alloc (.cells (u8s (List.replicate n 0)).toArray 5)) := by
  obtain ⟨i, hi, hz, hs, hb⟩ := info_parts info_byte
  have h := run_make (P := Try.prog) W 37 5 i (.int .u8 0) Try.underlying37 hi hz .i64 .i64 (n : Int) (n : Int) (by omega) (by omega) (by rw [hb]; omega) (by omega)
  have e0 : u8s (List.replicate n 0) = List.replicate n (Value.int .u8 0) := by simp [u8s]
  have e1 : madeCells (Value.int .u8 0).cells ((n : Int).toNat * i.size) = (u8s (List.replicate n 0)).toArray := by
    rw [hs, Int.toNat_natCast, Nat.mul_one, e0, ← toList_madeCells_one (.int .u8 0) n]
    rfl
  rw [e1, Int.toNat_natCast] at h
  exact h

/-- '[]byte(..)' of a constant: its row bears the run-time's mark. -/
theorem cv_mark (w : World) (C : Array Value) (n c : Nat) : (convert 37 37 (.slice (some ⟨w.heap.size, 0, none⟩) n c)).run Try.prog (w.alloc (.cells C 5)) = .ok (.slice (some ⟨w.heap.size, 0, none⟩) n c) (w.alloc (.cells C 5 (C.size, C.size + 1))) := by
  have hsh : (w.alloc (.cells C 5)).shape? w.heap.size = some (5, C.size) := by
    have : (w.alloc (.cells C 5)).heap[w.heap.size]? = some (.cells C 5) := heap_alloc_new w _
    unfold World.shape?
    rw [this]
  have hfr : (w.alloc (.cells C 5)).freeze ⟨w.heap.size, C.size, none⟩ 1 = w.alloc (.cells C 5 (C.size, C.size + 1)) := by
    have hm : ∀ (a : Array Obj) (x : Obj) (f : Obj → Obj), (a.push x).modify a.size f = a.push (f x) := by
      intro a x f
      apply Array.ext
      · simp
      · intro i h1 h2
        simp only [Array.getElem_modify, Array.getElem_push]
        by_cases h : a.size = i
        · subst h
          simp
        · have hi : i < a.size := by simp at h1; omega
          simp [h, hi]
    unfold World.freeze
    rw [if_neg (by decide)]
    show ({ w.alloc (.cells C 5) with heap := (w.heap.push (.cells C 5)).modify w.heap.size _ } : World) = _
    rw [hm]
    rfl
  simp [convert, run_underlying Try.underlying37, run_underlying Try.underlying5, markStringish, hsh, hfr]
theorem sees_mark (w : World) (T : TypeId) (fz : Nat × Nat) (cs : List Value) (n : Nat) (h : cs.length = n * 1) : Sees (w.alloc (.cells cs.toArray T fz)) 1 (some ⟨w.heap.size, 0, none⟩) n cs :=
  ⟨h, fun _ => ⟨_, 0, rfl, fun j u hu => by rw [Nat.zero_add, cell_of_row _ _ _ _ _ _ (heap_alloc_new w (.cells cs.toArray T fz)), List.getElem?_toArray]; exact hu⟩⟩
end Go.Proofs.Ytnlghpopjckhiaa
