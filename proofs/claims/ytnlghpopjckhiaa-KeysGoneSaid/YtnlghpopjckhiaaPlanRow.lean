/-
  In a region that draws its order: a whole row is loaded.
-/
import Derived.Test.YtnlghpopjckhiaaWords
import Derived.Test.YtnlghpopjckhiaaRegion
import Derived.Deep.MidRow
namespace Go.Proofs.Ytnlghpopjckhiaa
set_option maxRecDepth 4000
open Go.RowKit

theorem plan_load {P : Program} {ops : Array Oper} {Q : Exit → Act → World → Prop} {S : World → Prop} {need : Nat → Bool} {i : Nat} {o : Oper} {rest : List (Nat × Bool)} {a : Act} {w : World}
    (ho : ops.toList[i]? = some o) (hQ : ∀ v c a w, Q (.panic c) (a.put o.dst v) w → Q (.panic c) a w) (hg : Region.wanted o (yielded ops a.tmps) = true) (hS : S w) (ty : TypeId) (x : Operand) (hop : o.op = .load ty x)
    (b off : Nat) (hx : a.eval x = .pointer (some ⟨b, off, none⟩)) (cs : List Value) (d : TypeDesc) (hc : ∀ w, S w → w.rangeAt b off cs) (hu : P.underlying ty = some d) (hd : d.isRow = true) (hi : (P.info? ty).map (·.size) = some cs.length)
    (h : wpPlan P ops Q S need rest (a.put o.dst (.agg cs.toArray)) w) : wpPlan P ops Q S need ((i, true) :: rest) a w :=
  ⟨o, _, at_list ho, yieldsIf_load_mid hg ty x hop b off hx cs d hc hu hd hi, hS, hQ _, h⟩
theorem range_row {w : World} {g : Nat} {t : TypeId} {cs : Array Value} (h : Blk w g t cs) : w.rangeAt g 0 cs.toList := fun j v hv => by
  rw [Nat.zero_add, h.cell, ← Array.getElem?_toList]; exact hv
theorem plan_row {P : Program} {ops : Array Oper} {Q : Exit → Act → World → Prop} {S : World → Prop} {need : Nat → Bool} {i : Nat} {o : Oper} {rest : List (Nat × Bool)} {a : Act} {w : World}
    (ho : ops.toList[i]? = some o) (hQ : ∀ v c a w, Q (.panic c) (a.put o.dst v) w → Q (.panic c) a w) (hg : Region.wanted o (yielded ops a.tmps) = true) (hS : S w) (ty : TypeId) (x : Operand) (hop : o.op = .load ty x)
    (b : Nat) (hx : a.eval x = .pointer (some ⟨b, 0, none⟩)) (t : TypeId) (cs : Array Value) (d : TypeDesc) (hc : ∀ w, S w → Blk w b t cs) (hu : P.underlying ty = some d) (hd : d.isRow = true) (hi : (P.info? ty).map (·.size) = some cs.size)
    (h : wpPlan P ops Q S need rest (a.put o.dst (.agg cs)) w) : wpPlan P ops Q S need ((i, true) :: rest) a w :=
  plan_load ho hQ hg hS ty x hop b 0 hx cs.toList d (fun w h => range_row (hc w h)) hu hd (by rw [Array.length_toList]; exact hi) (by rw [Array.toArray_toList]; exact h)
end Go.Proofs.Ytnlghpopjckhiaa
