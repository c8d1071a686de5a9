/-
  Parts: slices of octets, and what they have.
-/
import Derived.Test.YtnlghpopjckhiaaWords
namespace Go.Proofs.Ytnlghpopjckhiaa
set_option maxRecDepth 4000
open Go.RowKit

/-- A part that comes: its place, its octets. -/
structure Pt where
  A : Option Addr
  n : Nat
  c : Nat
  l : List UInt8
def Pt.val (p : Pt) : Value := .slice p.A p.n p.c
def Pts (w : World) (ps : List Pt) : Prop := ∀ p ∈ ps, Sees w 1 p.A p.n (u8s p.l) ∧ p.l.length = p.n
def cat (ps : List Pt) : List UInt8 := ps.flatMap (·.l)
theorem Pts.below {w w' : World} {ps : List Pt} (h : Pts w ps) (hb : Below w.heap.size w w') : Pts w' ps := fun p hp => ⟨(h p hp).1.below hb, (h p hp).2⟩
theorem cat_take (ps : List Pt) (j : Nat) (p : Pt) (h : ps[j]? = some p) : cat (ps.take (j + 1)) = cat (ps.take j) ++ p.l := by
  rw [List.take_add_one, h, cat, cat, List.flatMap_append]
  simp
theorem cat_le (ps : List Pt) (j : Nat) : (cat (ps.take j)).length ≤ (cat ps).length := by
  conv => rhs; rw [← List.take_append_drop j ps]
  rw [cat, cat, List.flatMap_append, List.length_append]
  omega

end Go.Proofs.Ytnlghpopjckhiaa
