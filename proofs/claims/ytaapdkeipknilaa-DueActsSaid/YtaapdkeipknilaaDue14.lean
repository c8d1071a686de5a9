/-
  The document's example.
-/
import Derived.Test.YtaapdkeipknilaaDue13
import Derived.Test.YtaapdkeipknilaaDueE
namespace Go.Proofs.Ytaapdkeipknilaa
set_option maxRecDepth 4000
open Go.RowKit

/-- A queue that the law has made: what it has, all of it behind w0. -/
structure QIn (w0 w : World) (q : Nat) (v : Value) (S : List (Int × Int)) : Prop where
  at_ : QAt w q v S
  hi : ∀ k, QF q v k → w0.heap.size ≤ k
  bel : Below w0.heap.size w0 w
theorem QIn.lt {w0 w : World} {q : Nat} {v : Value} {S : List (Int × Int)} (h : QIn w0 w q v S) : ∀ k, QF q v k → k < w.heap.size := by
  obtain ⟨l, h1, -⟩ := h.at_
  rintro k (rfl | hk)
  · exact h1.top.lt
  · exact (h1.row.lt k hk).2
theorem QIn.below {w0 w w' : World} {q : Nat} {v : Value} {S : List (Int × Int)} (h : QIn w0 w q v S) (hb : Below w.heap.size w w') : QIn w0 w' q v S :=
  ⟨h.at_.below hb, h.hi, h.bel.trans (hb.mono h.bel.size)⟩
theorem QIn.step {w0 w w' : World} {q : Nat} {v : Value} {S S' : List (Int × Int)} (h : QIn w0 w q v S) (hs : Qs w w' q v S') : ∃ v', QIn w0 w' q v' S' ∧ Fr (QF q v) w w' ∧ Nx w v v' := by
  obtain ⟨v', h1, h2, h3⟩ := hs
  refine ⟨v', ⟨h1, ?_, h.bel.trans (h2.below h.bel.size h.hi)⟩, h2, h3⟩
  rintro k (rfl | hk)
  · exact h.hi _ (.inl rfl)
  · rcases h3 k hk with h4 | h4
    · exact h.hi k (.inr h4)
    · exact Nat.le_trans h.bel.size h4
theorem QIn.start {w0 w w' : World} {v : Value} {S : List (Int × Int)} (hb0 : Below w0.heap.size w0 w) (h : QAt w' w.heap.size v S) (hv : ∀ g, v.ownBlock = some g → w.heap.size ≤ g) (hb : Below w.heap.size w w') : QIn w0 w' w.heap.size v S := by
  refine ⟨h, ?_, hb0.trans (hb.mono hb0.size)⟩
  rintro k (rfl | hk)
  · exact hb0.size
  · exact Nat.le_trans hb0.size (hv k hk)
set_option maxHeartbeats 2000000 in
theorem awake_any (w : World) : Calls Try.prog 6 #[] w fun e w' => e = .returned (.bool true) ∧ Below w.heap.size w w' := by
  have HE := Lib.hid run_eql_due
  obtain ⟨w0, hw0⟩ : ∃ w0, w.alloc (.cells #[.int .i64 9, .int .i64 1, .int .i64 5, .int .i64 2, .int .i64 5, .int .i64 3] 28) = w0 := ⟨_, rfl⟩
  have hb0 : Below w.heap.size w w0 := hw0 ▸ (Below.refl _ _).alloc (Nat.le_refl _) _
  have hse : Sees w0 2 (some ⟨w.heap.size, 0, none⟩) 3 (dcs [(9, 1), (5, 2), (5, 3)]) := hw0 ▸ sees_new w 28 (dcs [(9, 1), (5, 2), (5, 3)]) 2 3 rfl
  have HN := Lib.hid (new_any [(9, 1), (5, 2), (5, 3)] (some ⟨w.heap.size, 0, none⟩) 3 w0 hse (by decide))
  have HB0 := Lib.hid hb0
  clear hb0 hse
  have hS : ([(9, 1), (5, 2), (5, 3)] : List (Int × Int)).foldl pushS [] = [(5, 2), (5, 3), (9, 1)] := by decide
  rw [hS] at HN
  clear hS
  go_enter Try.func6, Try.ntmps6
  go_wp2_with fail
  clear hw0
  refine HN.out.mono ?_
  rintro e w1 ⟨rfl, ⟨v1, q1, g1⟩, b1⟩
  have H1 := Lib.hid (QIn.start HB0.out q1 g1 b1)
  clear q1 g1 b1
  go_wp2_with fail
  refine (qpop_some _ v1 (5, 2) [(5, 3), (9, 1)] 7 w1 H1.out.at_ (by decide) (by decide)).mono ?_
  rintro e w2 ⟨rfl, h2⟩
  obtain ⟨v2, q2, -, -⟩ := H1.out.step h2
  clear h2
  obtain ⟨w3, hw3⟩ : ∃ w3, w2.alloc (.cells #[.int .i64 5, .int .i64 2] 28) = w3 := ⟨_, rfl⟩
  have b3 : Below w2.heap.size w2 w3 := hw3 ▸ (Below.refl _ _).alloc (Nat.le_refl _) _
  have k3 : Blk w3 w2.heap.size 28 #[.int .i64 5, .int .i64 2] := hw3 ▸ Blk.new _ _ _
  have q3 := q2.below b3
  have ap3 : ∀ k, QF w0.heap.size v2 k → ¬ k = w2.heap.size := fun k hk e => by have := q2.lt k hk; omega
  have H3 := Lib.hid (And.intro q3 (And.intro k3 ap3))
  clear q2 b3 k3 q3 ap3
  go_wp2_with fail
  clear hw3
  refine (qpop_some _ v2 (5, 3) [(9, 1)] 7 w3 H3.out.1.at_ (by decide) (by decide)).mono ?_
  rintro e w4 ⟨rfl, h4⟩
  obtain ⟨v4, q4, f4, n4⟩ := H3.out.1.step h4
  have k4 := H3.out.2.1.fr f4 (fun h => H3.out.2.2 _ h rfl)
  clear h4
  obtain ⟨w5, hw5⟩ : ∃ w5, w4.alloc (.cells #[.int .i64 5, .int .i64 3] 28) = w5 := ⟨_, rfl⟩
  have b5 : Below w4.heap.size w4 w5 := hw5 ▸ (Below.refl _ _).alloc (Nat.le_refl _) _
  have k5 : Blk w5 w4.heap.size 28 #[.int .i64 5, .int .i64 3] := hw5 ▸ Blk.new _ _ _
  have H5 := Lib.hid (And.intro (q4.below b5) (And.intro (k4.below b5 k4.lt) k5))
  clear q4 f4 n4 k4 b5 k5
  go_wp2_with fail
  clear hw5
  refine (qpop_wait _ v4 (9, 1) [] 7 w5 H5.out.1.at_ (by decide) (by decide)).mono ?_
  rintro e w6 ⟨rfl, b6⟩
  obtain ⟨w7, hw7⟩ : ∃ w7, w6.alloc (.cells #[.int .i64 0, .int .i64 0] 28) = w7 := ⟨_, rfl⟩
  have b7 : Below w6.heap.size w6 w7 := hw7 ▸ (Below.refl _ _).alloc (Nat.le_refl _) _
  have b57 := b6.trans (b7.mono b6.size)
  have q7 := H5.out.1.below b57
  have k7 := H5.out.2.1.below b57 H5.out.2.1.lt
  have k7' := H5.out.2.2.below b57 H5.out.2.2.lt
  have x0 : w7.cell? ⟨w2.heap.size, 0, none⟩ = some (.int .i64 5) := k7.cell 0
  have x1 : w7.cell? ⟨w2.heap.size, 1, none⟩ = some (.int .i64 2) := k7.cell 1
  have y0 : w7.cell? ⟨w4.heap.size, 0, none⟩ = some (.int .i64 5) := k7'.cell 0
  have y1 : w7.cell? ⟨w4.heap.size, 1, none⟩ = some (.int .i64 3) := k7'.cell 1
  obtain ⟨l7, h7, p7⟩ := q7.at_
  have HL := Lib.hid (qlen_any w0.heap.size v4 l7 w7 h7)
  have hlen : l7.length = 1 := p7.2.1.length_eq
  rw [hlen] at HL
  have HB := Lib.hid q7.bel
  clear b6 b7 b57 q7 k7 k7' h7 p7 hlen
  have he := HE.out
  subst hw7
  go_wp2_with fail
  refine HL.out.mono ?_
  rintro e w8 ⟨rfl, rfl⟩
  go_wp2_with fail
  go_ret
  exact ⟨rfl, HB.out⟩
end Go.Proofs.Ytaapdkeipknilaa
