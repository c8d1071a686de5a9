/-
  The reference's Path; the comparison of two lists of numbers; ShapePaths: the walk.
-/
import Derived.Test.YtcmdlaikdpiemaaDoorSh5
import Derived.Test.YtcmdlaikdpiemaaDoorRegion
namespace Go.Proofs.YtcmdlaikdpiemaaDoor
open Go.RowKit

theorem own_slice {base size n : Nat} {e : TypeId} {v : Value} {xs : List Value} {w : World} (h : w.ownsRow base e size v n xs) : ∃ A c, v = .slice A n c ∧ Sees w size A n xs := by
  rcases h.2 with ⟨rfl, rfl⟩ | ⟨g, cap, cur, rfl, _⟩
  · exact ⟨none, 0, rfl, Sees.of_own h⟩
  · exact ⟨some ⟨g, 0, none⟩, cap, rfl, Sees.of_own h⟩

theorem i64s_get (l : List Int) (i : Nat) (h : i < l.length) : (i64s l)[i]? = some (.int .i64 (l[i]'h)) := by simp [i64s, h]

/-- The one cell of a list that is shown. -/
theorem Sees.at (w : World) (A : Option Addr) (l : List Int) (h : Sees w 1 A l.length (i64s l)) (i : Nat) (hi : i < l.length) :
    ∃ g off, A = some ⟨g, off, none⟩ ∧ w.cell? ⟨g, off + i, none⟩ = some (.int .i64 (l[i]'hi)) := by
  obtain ⟨g, off, rfl, hc⟩ := h.2 (by omega)
  exact ⟨g, off, rfl, hc i _ (i64s_get l i hi)⟩

theorem ints_any (A B : Option Addr) (la lb : List Int) (ca cb : Nat) (w : World) (hA : Sees w 1 A la.length (i64s la)) (hB : Sees w 1 B lb.length (i64s lb)) (hm : la.length ≤ maxLen) (hm2 : lb.length ≤ maxLen) :
    Calls Tryd.prog 22 #[.slice A la.length ca, .slice B lb.length cb] w fun e w' => e = .returned (.bool (decide (la = lb))) ∧ Below w.heap.size w w' := by
  unfold maxLen at hm hm2
  by_cases hl : la.length = lb.length
  · have hl' : ((la.length : Int) == (lb.length : Int)) = true := by simp [hl]
    have HA := Lib.hid hA; clear hA
    have HB := Lib.hid hB; clear hB
    have HL := Lib.hid hl; clear hl
    go_enter Tryd.func22, Tryd.ntmps22
    go_wp2_with fail
    go_loopw [5] (fun i wr => ∃ k : Nat, i = .int .i64 k ∧ k ≤ la.length ∧ la.take k = lb.take k ∧ Below w.heap.size w wr) (fun i _ => la.length - (intOf i).toNat)
    case atStart => exact ⟨0, rfl, Nat.zero_le _, rfl, Below.refl _ _⟩
    case round =>
      obtain ⟨k, rfl, hk, ht, hbel⟩ := hrel
      have HT := Lib.hid ht; clear ht
      by_cases hlt : k < la.length
      · have hlti : (k : Int) < (la.length : Int) := by omega
        have hlt2 : k < lb.length := by have := HL.out; omega
        have hlti2 : (k : Int) < (lb.length : Int) := by omega
        obtain ⟨g, off, rfl, hc⟩ := (HA.out.below hbel).at _ _ _ k hlt
        obtain ⟨g2, off2, rfl, hc2⟩ := (HB.out.below hbel).at _ _ _ k hlt2
        obtain ⟨x, hx⟩ : ∃ x, x = la[k]'hlt := ⟨_, rfl⟩
        obtain ⟨y, hy⟩ : ∃ y, y = lb[k]'hlt2 := ⟨_, rfl⟩
        rw [← hx] at hc
        rw [← hy] at hc2
        have HX := Lib.hid hx; clear hx
        have HY := Lib.hid hy; clear hy
        by_cases he : x = y
        · have he' : (x != y) = false := by simp [he]
          have HE := Lib.hid he; clear he
          go_wp2_with fail
          refine region_plan [(0, true), (1, true), (2, true), (3, true), (4, true), (5, true), (6, true), (7, true), (8, true)] [1, 4, 5, 6, 7] (fun w' => w'.cell? ⟨g, off + k, none⟩ = some (.int .i64 x) ∧ w'.cell? ⟨g2, off2 + k, none⟩ = some (.int .i64 y)) (by kernel_rfl) (by kernel_rfl) rfl (by kernel_rfl) ⟨hc, hc2⟩ (fun hS => ?_)
          repeat (first
            | (refine plan_read (v := ?_) rfl (fun _ _ _ h => h) rfl hS ?_ ?_; rotate_left 1; (focus (intro w' hS'; obtain ⟨hc, hc2⟩ := hS'; go_simp; try rfl)); simp only [Act.put, List.setIfInBounds_toArray, List.set_cons_zero, List.set_cons_succ])
            | (refine plan_skip rfl (fun _ _ _ h => h) rfl hS ?_; simp only [Act.put, List.setIfInBounds_toArray, List.set_cons_zero, List.set_cons_succ]))
          refine plan_nil ?_
          go_wp2_with fail
          go_roundw
          case rel => exact ⟨k + 1, by go_num, by omega, by rw [List.take_succ_eq_append_getElem hlt, List.take_succ_eq_append_getElem hlt2, HT.out, ← HX.out, ← HY.out, HE.out], hbel.drew⟩
          case measure => simp [intOf]; omega
        · have he' : (x != y) = true := by simpa using he
          have HE := Lib.hid he; clear he
          go_wp2_with fail
          refine region_plan [(0, true), (1, true), (2, true), (3, true), (4, true), (5, true), (6, true), (7, true), (8, true)] [1, 4, 5, 6, 7] (fun w' => w'.cell? ⟨g, off + k, none⟩ = some (.int .i64 x) ∧ w'.cell? ⟨g2, off2 + k, none⟩ = some (.int .i64 y)) (by kernel_rfl) (by kernel_rfl) rfl (by kernel_rfl) ⟨hc, hc2⟩ (fun hS => ?_)
          repeat (first
            | (refine plan_read (v := ?_) rfl (fun _ _ _ h => h) rfl hS ?_ ?_; rotate_left 1; (focus (intro w' hS'; obtain ⟨hc, hc2⟩ := hS'; go_simp; try rfl)); simp only [Act.put, List.setIfInBounds_toArray, List.set_cons_zero, List.set_cons_succ])
            | (refine plan_skip rfl (fun _ _ _ h => h) rfl hS ?_; simp only [Act.put, List.setIfInBounds_toArray, List.set_cons_zero, List.set_cons_succ]))
          refine plan_nil ?_
          go_wp2_with fail
          go_ret
          refine ⟨ret_bool ?_, hbel.drew⟩
          symm
          refine decide_eq_false (fun e => HE.out ?_)
          rw [HX.out, HY.out]
          simp only [e]
      · obtain rfl : k = la.length := by omega
        have hge : ¬ ((la.length : Int) < (la.length : Int)) := by omega
        go_wp2_with fail
        go_ret
        refine ⟨ret_bool ?_, hbel⟩
        symm
        refine decide_eq_true ?_
        have h1 := HT.out
        rw [List.take_length, HL.out, List.take_length] at h1
        exact h1
  · have hl' : ((la.length : Int) == (lb.length : Int)) = false := by simp; omega
    have hne : decide (la = lb) = false := decide_eq_false (fun e => hl (by rw [e]))
    rw [hne]
    have HA := Lib.hid hA; clear hA
    have HB := Lib.hid hB; clear hB
    clear hne hl
    go_enter Tryd.func22, Tryd.ntmps22
    go_wp2_with fail
    go_ret
    exact ⟨rfl, Below.refl _ _⟩

theorem rpath_all : (sizes.all fun l => (List.range 32).all fun n => decide (l ≤ (n : Int)) || decide ((way (2 * n) l).dropLast.reverse = path n l)) = true := by decide +kernel
theorem rpath_fact (n l : Int) (hl : fits l = true) (h0 : 0 ≤ n) (h1 : n < l) : (way (2 * n) l).dropLast.reverse = path n l := by
  have hr := of_decide_eq_true hl
  have h := List.all_eq_true.1 rpath_all l (mem_sizes hl)
  have h := List.all_eq_true.1 h n.toNat (List.mem_range.2 (by omega))
  rw [show ((n.toNat : Nat) : Int) = n by omega] at h
  simp only [Bool.or_eq_true, decide_eq_true_eq] at h
  rcases h with h | h
  · omega
  · exact h

set_option maxHeartbeats 1000000 in
theorem rpath_any (n l : Int) (w : World) (hl1 : -9223372036854775808 ≤ l) (hl2 : l ≤ 9223372036854775807) :
    Calls Tryd.prog 23 #[.int .i64 n, .int .i64 l] w fun e w' => (∃ v, e = .returned v ∧ w'.ownsRow w.heap.size 3 1 v (path n l).length (i64s (path n l))) ∧ Below w.heap.size w w' := by
  have hF := rfits_any l w
  cases hf : fits l with
  | false =>
    have hp : path n l = [] := if_neg (by rw [hf]; simp)
    rw [hf] at hF
    rw [hp]
    have HF := Lib.hid hF; clear hF hf hp
    go_enter Tryd.func23, Tryd.ntmps23
    go_wp2_with fail
    refine HF.out.mono ?_
    rintro e w' ⟨rfl, rfl⟩
    go_wp2_with fail
    go_ret
    exact ⟨⟨_, rfl, World.ownsRow_nil _ _ _ _⟩, Below.refl _ _⟩
  | true =>
    have hr := of_decide_eq_true hf
    have hl3 : 1 ≤ l := by omega
    have hl4 : l ≤ 32 := by omega
    rw [hf] at hF
    have HF := Lib.hid hF; clear hF
    by_cases h0 : n < 0
    · have hp : path n l = [] := if_neg (by omega)
      rw [hp]
      clear hp hr hf
      go_enter Tryd.func23, Tryd.ntmps23
      go_wp2_with fail
      refine HF.out.mono ?_
      rintro e w' ⟨rfl, rfl⟩
      go_wp2_with fail
      go_ret
      exact ⟨⟨_, rfl, World.ownsRow_nil _ _ _ _⟩, Below.refl _ _⟩
    · by_cases h1 : l ≤ n
      · have hp : path n l = [] := if_neg (by omega)
        rw [hp]
        clear hp hr hf
        go_enter Tryd.func23, Tryd.ntmps23
        go_wp2_with fail
        refine HF.out.mono ?_
        rintro e w' ⟨rfl, rfl⟩
        go_wp2_with fail
        go_ret
        exact ⟨⟨_, rfl, World.ownsRow_nil _ _ _ _⟩, Below.refl _ _⟩
      · have hfact := rpath_fact n l hf (by omega) (by omega)
        have hw := way_any (2 * n) l w hf (by omega) (by omega)
        have hlen : (way (2 * n) l).length ≤ 7 := wayF_len 7 _ _ _
        rw [← hfact]
        have hne : 1 ≤ (way (2 * n) l).length := by unfold way wayF; simp
        obtain ⟨PT, hPT⟩ : ∃ PT, PT = way (2 * n) l := ⟨_, rfl⟩
        rw [← hPT] at hw hlen hne ⊢
        have HW := Lib.hid hw; clear hw
        clear hfact hr hf hPT
        go_enter Tryd.func23, Tryd.ntmps23
        go_wp2_with fail
        refine HF.out.mono ?_
        rintro e w' ⟨rfl, rfl⟩
        go_wp2_with fail
        refine HW.out.mono ?_
        rintro e w1 ⟨⟨v, rfl, hown⟩, hb⟩
        obtain ⟨A, c, rfl, hS⟩ := own_slice hown
        have HO := Lib.hid hown; clear hown
        go_wp2_with fail
        have hDl : PT.dropLast.length = PT.length - 1 := by simp
        go_loopw [6, 7] (fun v i wr => ∃ (k : Nat) (L : List Int), k ≤ PT.length - 1 ∧ i = .int .i64 ((k : Int) - 1) ∧ L = (PT.dropLast.drop k).reverse ∧ wr.ownsRow w1.heap.size 3 1 v L.length (i64s L) ∧ Below w1.heap.size w1 wr)
          (fun _ i _ => (intOf i + 1).toNat)
        case atStart => exact ⟨PT.length - 1, [], Nat.le_refl _, by rw [show (((PT.length - 1 : Nat) : Int) - 1) = (PT.length : Int) - 2 by omega], by rw [List.drop_eq_nil_of_le (by omega)]; rfl, World.ownsRow_nil _ _ _ _, Below.refl _ _⟩
        case round =>
          obtain ⟨k, L, hk, rfl, hL, hown, hbr⟩ := hrel
          have hLl : L.length ≤ 7 := by rw [hL, List.length_reverse, List.length_drop]; omega
          have hbsz := hbr.size
          have hbsz0 := hb.size
          by_cases hk0 : k = 0
          · subst hk0
            have HL := Lib.hid hL; clear hL
            go_wp2_with fail
            go_ret
            have e : L = PT.dropLast.reverse := by rw [HL.out]; rfl
            rw [← e]
            exact ⟨⟨_, rfl, own_base hown hb.size⟩, hb.trans (hbr.mono hb.size)⟩
          · obtain ⟨q, rfl⟩ : ∃ q, k = q + 1 := ⟨k - 1, by omega⟩
            have hq : q < PT.length := by omega
            have hi : (((q + 1 : Nat) : Int) - 1) = (q : Int) := by omega
            rw [hi]
            have hqi : (q : Int) < (PT.length : Int) := by omega
            obtain ⟨g, off, rfl, hc⟩ := (hS.below hbr).at _ _ _ q hq
            obtain ⟨x, hx⟩ : ∃ x, x = PT[q]'hq := ⟨_, rfl⟩
            rw [← hx] at hc
            have hL2 : L ++ [x] = (PT.dropLast.drop q).reverse := by
              rw [List.drop_eq_getElem_cons (by omega : q < PT.dropLast.length), List.reverse_cons, hL, hx, List.getElem_dropLast]
            have key : ∀ (w2 : World), (wr.alloc (.cells #[.int .i64 x] 3)).grownBy w2 u6.ownBlock → Below w1.heap.size w1 w2 := fun w2 hg =>
              (hbr.alloc hbr.size _).grown hg (by simp; omega) (fun k hk => (hown.lt k hk).1)
            have KEY := Lib.hid key; clear key
            have HL := Lib.hid hL; clear hL
            have HL2 := Lib.hid hL2; clear hL2
            have HX := Lib.hid hx; clear hx
            go_wp2_with (at_builtin; refine wpList_app rfl (.tmp 31) (.tmp 36) _ rfl w1.heap.size 3 _ 1 8 Tryd.underlying33 info_int rfl (by decide) u6 L.length (i64s L) rfl (own_below hown ((Below.refl _ _).alloc (Nat.le_refl _) _)) _ 1 _ [.int .i64 x] rfl (sees_new wr _ [.int .i64 x] 1 1 rfl) (by simp [Value.oneCell']) (by unfold maxLen; omega) (by omega) (by simp; omega) ?_; intro v' w2 hown1 hgr1 hat1 hnil1)
            go_roundw
            case rel => exact ⟨q, L ++ [x], by omega, by go_num, HL2.out, by rw [List.length_append, i64s_append]; exact hown1, KEY.out _ hgr1⟩
            case measure => simp [intOf]
end Go.Proofs.YtcmdlaikdpiemaaDoor
