/-
  The document's disk: Write.
-/
import Derived.Test.YtldgnckchlbadaaDoorRf1
import Derived.Test.YtldgnckchlbadaaDoorGD
import Derived.Test.YtldgnckchlbadaaDoorRes
import Derived.Test.YtldgnckchlbadaaDoorLog3
namespace Go.Proofs.YtldgnckchlbadaaDoor
set_option maxRecDepth 4000
open Go.RowKit

theorem str_extract (l : List UInt8) (a b : Nat) : (str l).extract a b = str ((l.drop a).take (b - a)) := by
  apply ByteArray.ext
  simp [str]

theorem wp_mid6 {P : Program} {c : Code} {Q' : Exit → Act → World → Prop} {a : Act} {w : World} (F : Nat → Option Addr → Nat → Nat → Option Addr → Nat → Act) (R : Nat → Option Addr → Nat → Nat → Option Addr → Nat → World → Prop)
    (h : c.wp P (fun e a' w' => e = .normal ∧ ∃ p A m q C k, a' = F p A m q C k ∧ R p A m q C k w') a w) (hq : ∀ p A m q C k w', R p A m q C k w' → Q' .normal (F p A m q C k) w') : c.wp P Q' a w :=
  wp_mono h (by rintro _ _ _ ⟨rfl, p, A, m, q, C, k, rfl, hR⟩; exact hq p A m q C k _ hR)

end Go.Proofs.YtldgnckchlbadaaDoor
