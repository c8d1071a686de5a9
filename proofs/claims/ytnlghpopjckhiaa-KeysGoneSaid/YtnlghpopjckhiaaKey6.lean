/-
  find; Get.
-/
import Derived.Test.YtnlghpopjckhiaaKey5
namespace Go.Proofs.Ytnlghpopjckhiaa
set_option maxRecDepth 4000
open Go.RowKit

/-- Where a bucket's key lies. -/
def Found (E : List (Option Ke)) (x r : Int) : Prop := (r = -1 ∧ ∀ e, some e ∈ E → e.buck ≠ x) ∨ ∃ (k : Nat) (e : Ke), r = k ∧ E[k]? = some (some e) ∧ e.buck = x
theorem find_any (t b sg : Nat) (f : Int) (E : List (Option Ke)) (dead : Bool) (K : Nat → Prop) (x : Int) (w : World) (h : KAt w t b sg f E dead K) (hl : E.length ≤ 1000) :
    Calls Try.prog 24 #[.pointer (some ⟨t, 0, none⟩), .int .i64 x] w fun e w' => (∃ r, e = .returned (.int .i64 r) ∧ Found E x r) ∧ Below w.heap.size w w' := by
  have hb := (Below.refl w.heap.size w).alloc (Nat.le_refl _) (.cells #[.int .i64 x] 3)
  have h1 := h.below hb
  have c2 : (w.alloc (.cells #[.int .i64 x] 3)).cell? ⟨t, 2, none⟩ = some (.slice (some ⟨sg, 0, none⟩) E.length E.length) := h1.top.cell 2
  have HI := Lib.hid (index_find (some ⟨sg, 0, none⟩) E E.length w.heap.size x _ h1.sees (by omega) ((Blk.new w 3 #[.int .i64 x]).cell 0))
  have HB := Lib.hid hb
  clear h h1 hb
  go_enter Try.func24, Try.ntmps24
  go_wp2_with fail
  refine HI.out.mono ?_
  rintro e w1 ⟨⟨r, rfl, hr⟩, hb1⟩
  have HF : Hid (Found E x r) := Lib.hid (by
    rcases hr with ⟨rfl, hno⟩ | ⟨k, e, rfl, hk, h1, h2⟩
    · exact .inl ⟨rfl, fun e he hx => hno _ he ⟨rfl, hx⟩⟩
    · match e, h1, h2, hk with
      | some e, _, h2, hk => exact .inr ⟨k, e, rfl, hk, h2⟩)
  have HB1 := Lib.hid (HB.out.trans (hb1.mono HB.out.size))
  clear hr hb1 HI c2
  go_wp2_with fail
  go_ret
  exact ⟨⟨r, rfl, HF.out⟩, HB1.out⟩

set_option maxHeartbeats 1000000 in
theorem get_any (t b sg : Nat) (f : Int) (E : List (Option Ke)) (dead : Bool) (K : Nat → Prop) (x : Int) (w : World) (h : KAt w t b sg f E dead K) (hl : E.length ≤ 1000) :
    Calls Try.prog 15 #[.pointer (some ⟨t, 0, none⟩), .int .i64 x] w fun e w' => Below w.heap.size w w' ∧
      ((e = .returned (.tuple #[.slice none 0 0, .bool false]) ∧ ∀ e, some e ∈ E → e.buck ≠ x) ∨ ∃ (v : Value) (k : Nat) (e' : Ke), e = .returned (.tuple #[v, .bool true]) ∧ E[k]? = some (some e') ∧ e'.buck = x ∧ w'.ownsRow w.heap.size 5 1 v 32 (u8s e'.key)) := by
  have HF := Lib.hid (find_any t b sg f E dead K x w h hl)
  have H := Lib.hid h; clear h
  go_enter Try.func15, Try.ntmps15
  go_wp2_with fail
  refine HF.out.mono ?_
  rintro e w1 ⟨⟨r, rfl, hr⟩, hb1⟩
  have HT := Lib.hid (And.intro (H.out.below hb1) hb1)
  clear H hb1 HF
  rcases hr with ⟨rfl, hno⟩ | ⟨k, e, rfl, hk, hx⟩
  · go_wp2_with fail
    go_ret2
    exact ⟨HT.out.2, .inl ⟨rfl, hno⟩⟩
  · have hkl := (List.getElem?_eq_some_iff.1 hk).1
    obtain ⟨g, o, e1, q0, q1, q2⟩ := in_ent HT.out.1.sees hk
    injection e1 with e1
    injection e1 with e1 e2
    subst e1
    subst e2
    have c2 : w1.cell? ⟨t, 2, none⟩ = some (.slice (some ⟨sg, 0, none⟩) E.length E.length) := HT.out.1.top.cell 2
    replace q2 : w1.cell? ⟨sg, 0 + k * 3 + 2, none⟩ = some (.slice (some ⟨e.g, 0, none⟩) 32 e.cap) := q2
    rw [Nat.zero_add] at q2
    obtain ⟨ow, -, -⟩ := HT.out.1.keys e (List.mem_of_getElem? hk)
    have HC := Lib.hid (clone_any ⟨e.g, 0, none⟩ 32 e.cap _ w1 (Sees.of_own ow) (u8s_one _) (by omega))
    have HE := Lib.hid (And.intro hk hx)
    clear q0 q1 ow hk hx
    go_wp2_with fail
    refine HC.out.mono ?_
    rintro e' w2 ⟨v, rfl, ho, hb2⟩
    have H2 := Lib.hid (And.intro ho (HT.out.2.trans (hb2.mono HT.out.2.size)))
    have hsz := HT.out.2.size
    clear ho hb2
    go_wp2_with fail
    go_ret2
    exact ⟨H2.out.2, .inr ⟨v, k, e, rfl, HE.out.1, HE.out.2, own_base H2.out.1 hsz⟩⟩
end Go.Proofs.Ytnlghpopjckhiaa
