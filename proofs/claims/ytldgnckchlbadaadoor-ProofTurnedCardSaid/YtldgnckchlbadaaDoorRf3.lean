/-
  The document's disk: Read, Flush.
-/
import Derived.Test.YtldgnckchlbadaaDoorRf1
import Derived.Test.YtldgnckchlbadaaDoorGD
import Derived.Test.YtldgnckchlbadaaDoorRes
namespace Go.Proofs.YtldgnckchlbadaaDoor
set_option maxRecDepth 4000
open Go.RowKit

theorem flat_succ (S : List (List UInt8)) (a j : Nat) (X : List UInt8) (h : S[a + j]? = some X) : ((S.drop a).take (j + 1)).flatten = ((S.drop a).take j).flatten ++ X := by
  rw [List.take_add_one, List.getElem?_drop, h]
  simp
theorem flat_length (S : List (List UInt8)) (h : ∀ s ∈ S, s.length = 128) (a j : Nat) (hj : a + j ≤ S.length) : ((S.drop a).take j).flatten.length = j * 128 := by
  have h1 : ((S.drop a).take j).length = j := by simp; omega
  have h2 : ∀ (l : List (List UInt8)), (∀ s ∈ l, s.length = 128) → l.flatten.length = l.length * 128 := by
    intro l
    induction l with
    | nil => intro _; rfl
    | cons x l ih => intro hx; rw [List.flatten_cons, List.length_append, ih (fun s hs => hx s (by simp [hs])), hx x (by simp), List.length_cons]; omega
  rw [h2 _ (fun s hs => h s (List.mem_of_mem_drop (List.mem_of_mem_take hs))), h1]

theorem rread_any (base d : Nat) (S : List (List UInt8)) (A B C : Option Addr) (cA cB cC : Nat) (a n : Nat) (w : World) (h : RD w base d S [] [] A cA B cB C cC) (hS : S.length ≤ 1000000) (hn : a + n ≤ S.length) (h8 : ∀ s ∈ S, s.length = 128) :
    Calls Tryd.prog 39 #[.pointer (some ⟨d, 0, none⟩), .int .i64 a, .int .i64 n] w fun e w' => e = .returned (.tuple #[.string (str ((S.drop a).take n).flatten), .int .i64 0]) ∧ Below w.heap.size w w' := by
  have HT := Lib.hid (rthere_any d A S.length cA _ _ a n w h.top hS hn)
  have HO := Lib.hid (ron_any d (_, _, _) w h.top)
  have HS : Hid (∀ (W : World) (j : Nat), Below w.heap.size w W → j < n → Calls Tryd.prog 57 #[.pointer (some ⟨d, 0, none⟩), .int .i64 ((a : Int) + (j : Int))] W fun e w' => ∃ X, e = .returned (.string (str X)) ∧ S[a + j]? = some X ∧ Below W.heap.size W w') := Lib.hid (by
    intro W j hb hj
    have := rsee_any base d S [] [] A B C cA cB cC (a + j) W (h.below hb) (by omega) hS (by simp)
    rw [show ((a + j : Nat) : Int) = (a : Int) + (j : Int) by omega] at this
    refine this.mono ?_
    rintro e w' ⟨X, rfl, hX, hb'⟩
    exact ⟨X, rfl, (hX rfl).symm, hb'⟩)
  have HL := Lib.hid (flat_length S h8 a)
  have HN := Lib.hid hn
  have ha : a ≤ 1000000 := by omega
  have hnb : n ≤ 1000000 := by omega
  have h8' : ∀ (j : Nat) (X : List UInt8), S[j]? = some X → X.length = 128 := fun j X hX => h8 X (List.mem_of_getElem? hX)
  have H8 := Lib.hid h8'
  clear h hS hn h8 h8'
  go_enter Tryd.func39, Tryd.ntmps39
  go_wp2_with fail
  refine HT.out.mono ?_
  rintro e w1 ⟨rfl, rfl⟩
  go_wp2_with fail
  refine HO.out.mono ?_
  rintro e w1 ⟨rfl, rfl⟩
  go_wp2_with fail
  go_loopw [8, 9] (fun s i wr => ∃ j : Nat, i = .int .i64 j ∧ j ≤ n ∧ Hid (s = .string (str ((S.drop a).take j).flatten)) ∧ Below w.heap.size w wr) (fun _ i _ => n - (intOf i).toNat)
  case atStart => exact ⟨0, rfl, Nat.zero_le _, Lib.hid (by simp; rfl), Below.refl _ _⟩
  case round =>
    obtain ⟨j, rfl, hj, hr, hbr⟩ := hrel
    obtain ⟨Y, hY⟩ : ∃ Y, Y = ((S.drop a).take j).flatten := ⟨_, rfl⟩
    have hr1 := hr.out
    rw [← hY] at hr1
    subst hr1
    obtain ⟨Z, hZ⟩ : ∃ Z, Z = str Y := ⟨_, rfl⟩
    rw [← hZ]
    have HB := Lib.hid hbr
    have hYl : Y.length = j * 128 := by rw [hY]; exact HL.out j (by have := HN.out; omega)
    have HY := Lib.hid (And.intro hY hZ)
    have hZs : Z.size = j * 128 := by rw [hZ, size_str, hYl]
    by_cases hlt : j < n
    · have hji : (j : Int) < (n : Int) := by omega
      have hw1 : IntKind.i64.wrap ((a : Int) + (j : Int)) = (a : Int) + (j : Int) := IntWalk.i64_in _ (by omega)
      have HC := Lib.hid (HS.out wr j HB.out hlt)
      clear hr hY hZ hbr hYl
      go_wp2_with fail
      refine HC.out.mono ?_
      rintro e w2 ⟨X, rfl, hX, hb2⟩
      have hXl := H8.out _ _ hX
      obtain ⟨V, hV⟩ : ∃ Z, Z = str X := ⟨_, rfl⟩
      have hVs : V.size = 128 := by rw [hV, size_str, hXl]
      have hcat : Z ++ V = str (Y ++ X) := by rw [HY.out.2, hV]; exact str_cat _ _
      have hlen : ¬ 9223372036854775807 < j * 128 + 128 := by omega
      obtain ⟨U, hU⟩ : ∃ U, U = str (Y ++ X) := ⟨_, rfl⟩
      rw [← hU] at hcat
      rw [← hV]
      have HX := Lib.hid (And.intro hX (And.intro hb2 hU))
      clear hX hb2 hU hXl hV HC
      go_wp2_with fail
      go_roundw
      case rel => exact ⟨j + 1, by go_num, by omega, Lib.hid (by rw [flat_succ S a j X HX.out.1, ← HY.out.1, ← HX.out.2.2]), HB.out.trans (HX.out.2.1.mono HB.out.size)⟩
      case measure => simp [intOf]; omega
    · obtain rfl : j = n := by omega
      have hge : ¬ ((j : Int) < (j : Int)) := by omega
      clear hr hY hZ hbr hYl
      go_wp2_with fail
      go_ret2
      exact ⟨by rw [HY.out.2, HY.out.1]; rfl, HB.out⟩

end Go.Proofs.YtldgnckchlbadaaDoor
