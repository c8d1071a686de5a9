/-
  DueWaits.
-/
import Derived.Test.YtaapdkeipknilaaDue12
import Derived.Test.YtaapdkeipknilaaDue14
import Derived.Test.YtaapdkeipknilaaDueArg
namespace Go.Proofs.Ytaapdkeipknilaa
set_option maxRecDepth 4000
open Go.RowKit

def LateAll (now : Int) (S : List (Int × Int)) : Prop := ∀ e ∈ S, now < e.1
theorem late_all {now : Int} {d : Int × Int} {t : List (Int × Int)} (h : Sorted (d :: t)) (hd : now < d.1) : LateAll now (d :: t) := by
  intro e he
  rcases List.mem_cons.1 he with rfl | he
  · exact hd
  · have := List.rel_of_pairwise_cons h he
    unfold LE at this
    omega
theorem QIn.sorted {w0 w : World} {q : Nat} {v : Value} {S : List (Int × Int)} (h : QIn w0 w q v S) : Sorted S := by
  obtain ⟨_, _, _, _, h4, _⟩ := h.at_
  exact h4
theorem QIn.apart {w0 w : World} {q : Nat} {v : Value} {S : List (Int × Int)} (h : QIn w0 w q v S) : Apart S := by
  obtain ⟨_, _, _, _, _, h5⟩ := h.at_
  exact h5
/-- What is known while the law pops. -/
def Wt (now : Int) (W wr : World) (q len i : Nat) : Prop := ∃ v S, QIn W wr q v S ∧ S.length ≤ len ∧ (S.length + i ≤ len ∨ LateAll now S)
/-- One pop. -/
theorem wt_pop {now : Int} {W wr : World} {q len i : Nat} (h : Wt now W wr q len i) (hl : len ≤ 60) :
    Calls Try.prog 12 #[.pointer (some ⟨q, 0, none⟩), .int .i64 now] wr fun e w' => ∃ x y ok, e = .returned (.tuple #[.agg #[.int .i64 x, .int .i64 y], .bool ok]) ∧ (ok = true → ¬ now < x) ∧ Wt now W w' q len (i + 1) := by
  obtain ⟨v, S, hq, hs, hd⟩ := h
  match S, hq, hs, hd with
  | [], hq, hs, hd =>
    refine (qpop_none q v now wr hq.at_).mono ?_
    rintro e w' ⟨rfl, hb⟩
    exact ⟨0, 0, false, rfl, fun h => by (cases h), v, [], hq.below hb, hs, .inr fun e he => by simp at he⟩
  | d :: t, hq, hs, hd =>
    by_cases hn : now < d.1
    · refine (qpop_wait q v d t now wr hq.at_ (by simp only [List.length_cons] at hs ⊢; omega) hn).mono ?_
      rintro e w' ⟨rfl, hb⟩
      exact ⟨0, 0, false, rfl, fun h => by (cases h), v, d :: t, hq.below hb, hs, .inr (late_all hq.sorted hn)⟩
    · refine (qpop_some q v d t now wr hq.at_ (by simp only [List.length_cons] at hs ⊢; omega) hn).mono ?_
      rintro e w' ⟨rfl, h⟩
      obtain ⟨v', q', -, -⟩ := hq.step h
      refine ⟨d.1, d.2, true, rfl, fun _ => hn, v', t, q', by simp only [List.length_cons] at hs; omega, ?_⟩
      rcases hd with hd | hd
      · exact .inl (by simp only [List.length_cons] at hd; omega)
      · exact absurd (hd d (List.mem_cons_self ..)) hn
theorem Wt.below {now : Int} {W wr w' : World} {q len i : Nat} (h : Wt now W wr q len i) (hb : Below wr.heap.size wr w') : Wt now W w' q len i := by
  obtain ⟨v, S, hq, hr⟩ := h
  exact ⟨v, S, hq.below hb, hr⟩

set_option maxHeartbeats 2000000 in
theorem waits_walk (a : Option Addr) (ys : List (Int × Int)) (len cap : Nat) (now : Int) (W : World) (m : ys.length = len) (hS : Sees W 2 a ys.length (dcs ys)) (wf : (Lit.int .i64 now).wf = true) :
    Calls Try.prog 4 #[.slice a len cap, .int .i64 now] W fun e W' => e = .returned (.bool true) ∧ Below W.heap.size W W' := by
  subst m
  have HA := Lib.hid (fun w => awake_any w)
  have HS := Lib.hid hS
  clear hS wf
  by_cases hl : 60 < ys.length
  · have hl2 : (60 : Int) < (ys.length : Int) := by omega
    go_enter Try.func4, Try.ntmps4
    go_wp2_with fail
    refine (HA.out _).mono ?_
    rintro e w1 ⟨rfl, b1⟩
    have H1 := Lib.hid b1
    clear b1
    go_wp2_with fail
    refine (HA.out _).mono ?_
    rintro e w2 ⟨rfl, b2⟩
    have H2 := Lib.hid (H1.out.trans (b2.mono H1.out.size))
    clear b2
    go_wp2_with fail
    go_ret
    exact ⟨rfl, H2.out⟩
  · have hl2 : ¬ ((60 : Int) < (ys.length : Int)) := by omega
    have HL := Lib.hid hl
    clear hl
    go_enter Try.func4, Try.ntmps4
    go_wp2_with fail
    refine (HA.out _).mono ?_
    rintro e w1 ⟨rfl, b1⟩
    have HN := Lib.hid (new_any ys a cap w1 (HS.out.below b1) (by have := HL.out; omega))
    have H1 := Lib.hid b1
    clear b1
    go_wp2_with fail
    refine HN.out.mono ?_
    rintro e w2 ⟨rfl, ⟨v2, q2, g2⟩, b2⟩
    have H2 : Hid (Wt now W w2 w1.heap.size ys.length 0) := Lib.hid ⟨v2, _, QIn.start H1.out q2 g2 b2, by have := foldl_length ys []; simpa using this, .inl (by have := foldl_length ys []; simpa using this)⟩
    clear q2 g2 b2 HN
    obtain ⟨len, hlen⟩ : ∃ len, ys.length = len := ⟨_, rfl⟩
    rw [hlen] at H2 HL hl2
    generalize w1.heap.size = q at *
    go_wp2_with fail
    go_loopw [6, 7, 8] (fun ii _ _ wr => ∃ i : Nat, ii = .int .i64 i ∧ i ≤ len ∧ Hid (Wt now W wr q len i)) (fun ii _ _ _ => len - (intOf ii).toNat)
    case atStart => exact ⟨0, rfl, Nat.zero_le _, H2⟩
    case round =>
      obtain ⟨i, rfl, hi, hr⟩ := hrel
      by_cases hlt : i < len
      · have hlti : (i : Int) < (len : Int) := by omega
        have hle2 : (len : Int) ≤ 60 := by omega
        go_wp2_with fail
        refine (wt_pop hr.out (by have := HL.out; omega)).mono ?_
        rintro e w3 ⟨x, y, ok, rfl, hok, hw⟩
        have hx : ok = true → decide (now < x) = false := fun h => decide_eq_false (hok h)
        have b4 : Below w3.heap.size w3 (w3.alloc (.cells #[.int .i64 x, .int .i64 y] 28)) := (Below.refl _ _).alloc (Nat.le_refl _) _
        have H4 := Lib.hid (hw.below b4)
        clear hok hw b4 hr
        cases ok with
        | false =>
          clear hx
          go_wp2_with fail
          go_roundw
          case rel => exact ⟨i + 1, by go_num, by omega, H4⟩
          case measure => simp [intOf]; omega
        | true =>
          have hx2 := hx rfl
          clear hx
          go_wp2_with fail
          go_roundw
          case rel => exact ⟨i + 1, by go_num, by omega, H4⟩
          case measure => simp [intOf]; omega
      · obtain rfl : i = len := by omega
        clear H2
        obtain ⟨v5, S, q5, hs5, hd5⟩ := hr.out
        have hlate : LateAll now S := by
          rcases hd5 with h | h
          · obtain rfl : S = [] := List.eq_nil_of_length_eq_zero (by omega)
            intro e he
            simp at he
          · exact h
        have HLS := Lib.hid (list_any q v5 S wr q5.at_ (by have := HL.out; omega))
        have H5 := Lib.hid (And.intro q5 (And.intro hs5 hlate))
        have hs6 : (S.length : Int) ≤ (i : Int) := by omega
        clear q5 hs5 hd5 hlate
        go_wp2_with fail
        refine HLS.out.mono ?_
        rintro e w6 ⟨A, c, rfl, ho, hb6⟩
        have H6 := Lib.hid (And.intro (Sees.of_own ho) (H5.out.1.bel.trans (hb6.mono H5.out.1.bel.size)))
        clear ho hb6 HLS hr
        go_wp2_with fail
        go_loop [10] (fun kk => ∃ k : Nat, kk = .int .i64 k ∧ k ≤ S.length) (fun kk => S.length - (intOf kk).toNat)
        case atStart => exact ⟨0, rfl, Nat.zero_le _⟩
        case round =>
          obtain ⟨k, rfl, hk⟩ := hrel
          by_cases hkl : k < S.length
          · have hki : (k : Int) < (S.length : Int) := by omega
            obtain ⟨g, o, rfl, x0, x1⟩ := in_due H6.out.1 (gg_get hkl)
            have hlt2 : ¬ ((gg S k).1 ≤ now) := by
              have := H5.out.2.2 (gg S k) (by rw [gg_eq hkl]; exact List.getElem_mem hkl)
              omega
            have HK := Lib.hid hkl
            generalize gg S k = y at *
            obtain ⟨p, r⟩ := y
            simp only at x0 x1 hlt2
            clear hkl
            go_wp2_with fail
            go_round
            case rel => exact ⟨k + 1, by go_num, HK.out⟩
            case measure => have := HK.out; simp [intOf]; omega
          · obtain rfl : k = S.length := by omega
            go_wp2_with fail
            go_ret
            exact ⟨rfl, H6.out.2⟩
end Go.Proofs.Ytaapdkeipknilaa
