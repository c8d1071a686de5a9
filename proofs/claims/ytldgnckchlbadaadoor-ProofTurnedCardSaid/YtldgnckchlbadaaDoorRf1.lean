/-
  The document's disk: its calls, all idle.
-/
import Derived.Test.YtldgnckchlbadaaDoorGB
import Derived.Test.YtldgnckchlbadaaDoorGC
namespace Go.Proofs.YtldgnckchlbadaaDoor
set_option maxRecDepth 4000
open Go.RowKit

theorem info_intR : (Tryd.prog.info? 3).map (fun i => (i.zero, i.size, i.bytes)) = some (some (.int .i64 0), 1, 8) := by kernel_rfl
def intsR (l : List Int) : List Value := l.map (Value.int .i64)
theorem intsR_one (l : List Int) : ∀ u ∈ intsR l, u.oneCell' = true := by
  intro u hu
  obtain ⟨c, _, rfl⟩ := List.mem_map.1 hu
  rfl
/-- The document's disk at d. -/
structure RD (w : World) (base d : Nat) (S : List (List UInt8)) (T : List Int) (W : List (List UInt8)) (A : Option Addr) (cA : Nat) (B : Option Addr) (cB : Nat) (C : Option Addr) (cC : Nat) : Prop where
  top : Blk w d 92 #[.slice A S.length cA, .slice B T.length cB, .slice C W.length cC, .int .i64 (-1)]
  lo : base ≤ d
  s : w.ownsRow base 9 1 (.slice A S.length cA) S.length (strs S)
  t : w.ownsRow base 3 1 (.slice B T.length cB) T.length (intsR T)
  w_ : w.ownsRow base 9 1 (.slice C W.length cC) W.length (strs W)
  same : W.length = T.length
theorem RD.below {w w' : World} {base d : Nat} {S W : List (List UInt8)} {T : List Int} {A B C : Option Addr} {cA cB cC : Nat} (h : RD w base d S T W A cA B cB C cC) (hb : Below w.heap.size w w') : RD w' base d S T W A cA B cB C cC :=
  ⟨h.top.below hb h.top.lt, h.lo, own_below h.s hb, own_below h.t hb, own_below h.w_ hb, h.same⟩

theorem ron_any (d : Nat) (v : Value × Value × Value) (w : World) (h : Blk w d 92 #[v.1, v.2.1, v.2.2, .int .i64 (-1)]) : Calls Tryd.prog 56 #[.pointer (some ⟨d, 0, none⟩)] w fun e w' => e = .returned (.bool true) ∧ w = w' := by
  have c3 : w.cell? ⟨d, 3, none⟩ = some (.int .i64 (-1)) := h.cell 3
  clear h
  go_enter Tryd.func56, Tryd.ntmps56
  go_wp2_with fail
  go_ret
  exact ⟨rfl, rfl⟩
theorem rthere_any (d : Nat) (A : Option Addr) (n cA : Nat) (x y : Value) (a m : Nat) (w : World) (h : Blk w d 92 #[.slice A n cA, x, y, .int .i64 (-1)]) (hn : n ≤ 1000000) (ha : a + m ≤ n) : Calls Tryd.prog 55 #[.pointer (some ⟨d, 0, none⟩), .int .i64 a, .int .i64 m] w fun e w' => e = .returned (.bool true) ∧ w = w' := by
  have c3 : w.cell? ⟨d, 0, none⟩ = some (.slice A n cA) := h.cell 0
  clear h
  have h1 : (0 : Int) ≤ (m : Int) := by omega
  have h2 : (0 : Int) ≤ (a : Int) := by omega
  have h3 : a ≤ n := by omega
  have h4 : (m : Int) ≤ (n : Int) - (a : Int) := by omega
  go_enter Tryd.func55, Tryd.ntmps55
  go_wp2_with fail
  go_ret
  exact ⟨ret_bool (by first | rfl | (simp; omega)), rfl⟩
theorem rzero_any (w : World) : Calls Tryd.prog 40 #[] w fun e w' => e = .returned (.string (str (List.replicate 32 0))) ∧ Below w.heap.size w w' := by
  have hmk := make_bytes 32 (by omega)
  replace hmk : ∀ W : World, (Instr.makeSlice 35 (.int .i64 32) (.int .i64 32)).run Tryd.prog W = .ok (.slice (some ⟨W.heap.size, 0, none⟩) 32 32) (W.alloc (.cells (u8s (List.replicate 32 0)).toArray 5)) := hmk
  have hcv := run_to_string Tryd.underlying35 Tryd.underlying5 Tryd.underlying9 32 (sees_new w 5 (u8s (List.replicate 32 0)) 1 32 (by simp))
  obtain ⟨Z, hZ⟩ : ∃ z : Array Value, z = (u8s (List.replicate 32 0)).toArray := ⟨_, rfl⟩
  obtain ⟨X, hX⟩ : ∃ X, X = str (List.replicate 32 0) := ⟨_, rfl⟩
  rw [← hZ] at hmk hcv
  rw [← hX] at hcv ⊢
  clear hZ hX
  go_enter Tryd.func40, Tryd.ntmps40
  go_wp2_with (first | simp only [hmk] | simp only [hcv])
  go_ret
  exact ⟨rfl, (Below.refl _ _).alloc (Nat.le_refl _) _⟩

/-- What a sector shows: its own octets where nothing waits. -/
theorem rsee_any (base d : Nat) (S W : List (List UInt8)) (T : List Int) (A B C : Option Addr) (cA cB cC : Nat) (i : Nat) (w : World) (h : RD w base d S T W A cA B cB C cC) (hi : i < S.length) (hS : S.length ≤ 1000000) (hTl : T.length ≤ 1000000) :
    Calls Tryd.prog 57 #[.pointer (some ⟨d, 0, none⟩), .int .i64 i] w fun e w' => ∃ X, e = .returned (.string (str X)) ∧ (T = [] → some X = S[i]?) ∧ Below w.heap.size w w' := by
  obtain ⟨k, hk⟩ : ∃ k, k = T.length := ⟨_, rfl⟩
  obtain ⟨n, hn⟩ : ∃ n, n = S.length := ⟨_, rfl⟩
  have c0 : w.cell? ⟨d, 0, none⟩ = some (.slice A n cA) := by rw [hn]; exact h.top.cell 0
  have c1 : w.cell? ⟨d, 1, none⟩ = some (.slice B k cB) := by rw [hk]; exact h.top.cell 1
  have c2 : w.cell? ⟨d, 2, none⟩ = some (.slice C k cC) := by rw [hk, ← h.same]; exact h.top.cell 2
  obtain ⟨gs, os, rfl, hcs⟩ := (Sees.of_own h.s).2 (by omega)
  have hx : S[i]? = some (S[i]'hi) := List.getElem?_eq_getElem hi
  obtain ⟨X0, hX0⟩ : ∃ X, X = S[i]'hi := ⟨_, rfl⟩
  rw [← hX0] at hx
  have cs := hcs i (.string (str X0)) (by simp [strs, hx])
  have hin : i < n := by omega
  have hkb : k ≤ 1000000 := by omega
  have hnb : n ≤ 1000000 := by omega
  have HT : Hid (∀ j, j < k → ∃ g o v, B = some ⟨g, o, none⟩ ∧ w.cell? ⟨g, o + j, none⟩ = some (.int .i64 v)) := Lib.hid (fun j hj => by
    obtain ⟨g, o, e, hc⟩ := (Sees.of_own h.t).2 (by omega)
    have hj' : j < T.length := by omega
    exact ⟨g, o, T[j], e, hc j _ (by simp [intsR, List.getElem?_eq_getElem hj'])⟩)
  have HW : Hid (∀ j, j < k → ∃ g o v, C = some ⟨g, o, none⟩ ∧ w.cell? ⟨g, o + j, none⟩ = some (.string (str v))) := Lib.hid (fun j hj => by
    have hw := h.w_
    rw [h.same] at hw
    obtain ⟨g, o, e, hc⟩ := (Sees.of_own hw).2 (by omega)
    have hj' : j < W.length := by rw [h.same]; omega
    exact ⟨g, o, W[j], e, hc j _ (by simp [strs, List.getElem?_eq_getElem hj'])⟩)
  have HK := Lib.hid (And.intro hk hx)
  rw [show S[i]? = some X0 from hx]
  obtain ⟨X1, hX1⟩ : ∃ X, X = str X0 := ⟨_, rfl⟩
  rw [← hX1] at cs
  have HX1 := Lib.hid hX1
  clear h hk hn hx hX0 hcs hX1 hi hS hTl
  go_enter Tryd.func57, Tryd.ntmps57
  go_wp2_with fail
  go_loopw [5, 6] (fun s i wr => ∃ j : Nat, i = .int .i64 j ∧ j ≤ k ∧ Hid (∃ X, s = .string (str X) ∧ (j = 0 → X = X0)) ∧ wr = w) (fun _ i _ => k - (intOf i).toNat)
  case atStart => exact ⟨0, rfl, Nat.zero_le _, Lib.hid ⟨X0, by rw [HX1.out], fun _ => rfl⟩, rfl⟩
  case round =>
    obtain ⟨j, rfl, hj, hr, rfl⟩ := hrel
    obtain ⟨X, rfl, hX⟩ := hr.out
    by_cases hlt : j < k
    · have hji : (j : Int) < (k : Int) := by omega
      obtain ⟨gt, ot, v, rfl, ct⟩ := HT.out j hlt
      obtain ⟨gw, ow, y, rfl, cw⟩ := HW.out j hlt
      obtain ⟨Y, hY⟩ : ∃ Y, Y = str y := ⟨_, rfl⟩
      rw [← hY] at cw
      have HY := Lib.hid hY
      have HX := Lib.hid hX
      obtain ⟨X2, hX2⟩ : ∃ Y, Y = str X := ⟨_, rfl⟩
      rw [← hX2]
      have HX2 := Lib.hid hX2
      clear hr hX hY hX2
      by_cases hv : v = (i : Int)
      · subst hv
        go_wp2_with fail
        go_roundw
        case rel => exact ⟨j + 1, by go_num, by omega, Lib.hid ⟨y, by rw [HY.out], fun h => by omega⟩, by first | rfl | trivial⟩
        case measure => simp [intOf]; omega
      · have hvb : (v == (i : Int)) = false := by rw [beq_eq_false_iff_ne]; exact hv
        go_wp2_with fail
        go_roundw
        case rel => exact ⟨j + 1, by go_num, by omega, Lib.hid ⟨X, by rw [HX2.out], fun h => by omega⟩, by first | rfl | trivial⟩
        case measure => simp [intOf]; omega
    · obtain rfl : j = k := by omega
      have hge : ¬ ((j : Int) < (j : Int)) := by omega
      have HX := Lib.hid hX
      obtain ⟨X2, hX2⟩ : ∃ Y, Y = str X := ⟨_, rfl⟩
      rw [← hX2]
      have HX2 := Lib.hid hX2
      clear hr hX hX2
      go_wp2_with fail
      go_ret
      exact ⟨X, by rw [← HX2.out]; rfl, fun h => by rw [HX.out (by rw [HK.out.1, h]; rfl)], Below.refl _ _⟩
end Go.Proofs.YtldgnckchlbadaaDoor
