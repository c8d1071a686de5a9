/-
  The eye: U64; octets passed by.
-/
import Derived.Test.YtnlghpopjckhiaaEye
namespace Go.Proofs.Ytnlghpopjckhiaa
set_option maxRecDepth 4000
open Go.RowKit

theorem Eye.keep {w w' : World} {base p err : Nat} {l : List UInt8} (h : Eye w base p l err) (hb : Below w.heap.size w w') : Eye w' base p l err := by
  obtain ⟨h1, A, c, h2, h3, h4⟩ := h
  exact ⟨h1, A, c, h2.below hb h2.lt, h3.below hb, h4⟩
theorem e64_any (base p err : Nat) (l : List UInt8) (w : World) (hE : Eye w base p l err) (he : err ≤ 1000) (hl : l.length ≤ 1000000000) :
    Calls Try.prog 51 #[.pointer (some ⟨p, 0, none⟩)] w fun e w' => e = .returned (.int .u64 (eyeN l err 8 : Nat)) ∧ Eye w' base p (eyeL l err 8) (eyeE l err 8) ∧ Below base w w' := by
  have HN := Lib.hid (enum_any base p 8 err l w hE he (by omega) hl)
  clear hE
  go_enter Try.func51, Try.ntmps51
  go_wp2_with fail
  refine HN.out.mono ?_
  rintro e w1 ⟨rfl, h1, h2⟩
  go_wp2_with fail
  go_ret
  exact ⟨rfl, h1, h2⟩

theorem open_nil (w : World) :
    Calls Try.prog 49 #[.slice none 0 0] w fun e w' => ∃ p, e = .returned (.pointer (some ⟨p, 0, none⟩)) ∧ Eye w' w.heap.size p [] 0 ∧ Below w.heap.size w w' := by
  have HC := Lib.hid (clone_nil 0 0 w)
  go_enter Try.func49, Try.ntmps49
  go_wp2_with fail
  refine HC.out.mono ?_
  rintro e w1 ⟨rfl, rfl⟩
  go_wp2_with fail
  go_ret
  exact ⟨w.heap.size, rfl, ⟨Nat.le_refl _, none, 0, Blk.newAt rfl rfl, Sees.none_ _ _ _, Nat.le_refl _, fun a h => (by cases h), fun _ => rfl⟩, (Below.refl _ _).alloc (Nat.le_refl _) _⟩

/-- Octets are passed. -/
theorem pass_any (base p k : Nat) (l : List UInt8) (w : World) (hE : Eye w base p l 0) (h0 : 0 < k) (hk : k ≤ 1000) (hl : l.length ≤ 1000000000) (hb : base ≤ w.heap.size) :
    Calls Try.prog 50 #[.pointer (some ⟨p, 0, none⟩), .int .i64 k] w fun e w' => (∃ v, e = .returned v) ∧ Eye w' base p (eyeL l 0 k) (eyeE l 0 k) ∧ Below base w w' := by
  by_cases hkl : k ≤ l.length
  · have e2 : eyeL l 0 k = l.drop k := if_pos ⟨rfl, hkl⟩
    have e3 : eyeE l 0 k = 0 := if_neg (by omega)
    rw [e2, e3]
    have HX := Lib.hid (next_ok base p k l w hE hkl hl)
    clear hE
    go_enter Try.func50, Try.ntmps50
    go_wp2_with fail
    refine HX.out.mono ?_
    rintro e w1 ⟨A, c, rfl, hS, hE1, hb1⟩
    obtain ⟨g, off, rfl, -⟩ := hS.2 (by omega)
    have HC := Lib.hid (clone_any _ k c _ w1 hS (u8s_one _) (by omega))
    have HE := Lib.hid hE1; have HB := Lib.hid hb1; clear hE1 hb1 hS
    go_wp2_with fail
    refine HC.out.mono ?_
    rintro e w2 ⟨v, rfl, -, hb2⟩
    have hs := HB.out.size
    have HE2 := Lib.hid (HE.out.keep hb2); have HB2 := Lib.hid (HB.out.trans (hb2.mono (by omega)))
    go_wp2_with fail
    go_ret
    exact ⟨⟨_, rfl⟩, HE2.out, HB2.out⟩
  · have e2 : eyeL l 0 k = l := if_neg (by omega)
    have e3 : eyeE l 0 k = 10 := if_pos (by omega)
    rw [e2, e3]
    have HX := Lib.hid (next_short base p k l w hE (by omega) hk)
    clear hE
    go_enter Try.func50, Try.ntmps50
    go_wp2_with fail
    refine HX.out.mono ?_
    rintro e w1 ⟨rfl, hE1, hb1⟩
    have HC := Lib.hid (clone_nil 0 0 w1)
    have HE := Lib.hid hE1; have HB := Lib.hid hb1; clear hE1 hb1
    go_wp2_with fail
    refine HC.out.mono ?_
    rintro e w2 ⟨rfl, rfl⟩
    go_wp2_with fail
    go_ret
    exact ⟨⟨_, rfl⟩, HE.out, HB.out⟩
end Go.Proofs.Ytnlghpopjckhiaa
