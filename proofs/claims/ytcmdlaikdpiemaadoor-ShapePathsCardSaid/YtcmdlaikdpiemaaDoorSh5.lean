/-
  The way down to a node; the node above and the node beside, as the reference finds them; ShapeAbove: the walk.
-/
import Derived.Test.YtcmdlaikdpiemaaDoorSh4
namespace Go.Proofs.YtcmdlaikdpiemaaDoor
open Go.RowKit

def wayF : Nat → Int → Int → Int → List Int
  | 0, _, _, _ => []
  | f + 1, n, lo, hi => (lo + hi) / 2 :: (if n = (lo + hi) / 2 then [] else if n < (lo + hi) / 2 then wayF f n lo ((lo + hi) / 2 - 1) else wayF f n ((lo + hi) / 2 + 1) hi)
def way (n l : Int) : List Int := wayF 7 n 0 (2 * l - 2)
theorem wayF_len : ∀ f n lo hi, (wayF f n lo hi).length ≤ f := by
  intro f
  induction f with
  | zero => intro n lo hi; simp [wayF]
  | succ f ih =>
    intro n lo hi
    unfold wayF
    have h1 := ih n lo ((lo + hi) / 2 - 1)
    have h2 := ih n ((lo + hi) / 2 + 1) hi
    split
    · simp
    · split <;> simp <;> assumption

set_option maxHeartbeats 1000000 in
theorem way_any (n l : Int) (w : World) (hf : fits l = true) (h0 : 0 ≤ n) (h1 : n ≤ 2 * l - 2) :
    Calls Tryd.prog 27 #[.int .i64 n, .int .i64 l] w fun e w' => (∃ v, e = .returned v ∧ w'.ownsRow w.heap.size 3 1 v (way n l).length (i64s (way n l))) ∧ Below w.heap.size w w' := by
  have hr := of_decide_eq_true hf
  have hl1 : 1 ≤ l := by omega
  have hl32 : l ≤ 32 := by omega
  obtain ⟨PT, hPT⟩ : ∃ PT, PT = way n l := ⟨_, rfl⟩
  have hlen : PT.length ≤ 7 := by rw [hPT]; exact wayF_len 7 _ _ _
  rw [← hPT]
  have HPT := Lib.hid hPT; clear hPT hf hr
  have HLEN := Lib.hid hlen; clear hlen
  go_enter Tryd.func27, Tryd.ntmps27
  go_wp2_with fail
  go_loopw [5, 6, 7] (fun v lo hi wr => ∃ (acc : List Int) (a b : Int) (f : Nat), lo = .int .i64 a ∧ hi = .int .i64 b ∧ wr.ownsRow w.heap.size 3 1 v acc.length (i64s acc) ∧ Below w.heap.size w wr ∧ PT = acc ++ wayF (f + 1) n a b ∧ 0 ≤ a ∧ a ≤ n ∧ n ≤ b ∧ b ≤ 62 ∧ b - a < 2 ^ f)
    (fun _ lo hi _ => (intOf hi - intOf lo).toNat)
  case atStart => exact ⟨[], 0, 2 * l - 2, 6, rfl, rfl, World.ownsRow_nil _ _ _ _, Below.refl _ _, HPT.out, by omega, by omega, by omega, by omega, by omega⟩
  case round =>
    obtain ⟨acc, a, b, f, rfl, rfl, hown, hbr, hpt, ha0, han, hnb, hb62, hf⟩ := hrel
    have hw1 : wayF (f + 1) n a b = (a + b) / 2 :: (if n = (a + b) / 2 then [] else if n < (a + b) / 2 then wayF f n a ((a + b) / 2 - 1) else wayF f n ((a + b) / 2 + 1) b) := rfl
    rw [hw1] at hpt
    clear hw1
    obtain ⟨m, hm⟩ : ∃ m, m = (a + b) / 2 := ⟨_, rfl⟩
    rw [← hm] at hpt
    have hacc : acc.length ≤ 6 := by
      have h1 := congrArg List.length hpt
      have h2 := HLEN.out
      simp at h1
      omega
    have hma : a ≤ m := by omega
    have hmb : m ≤ b := by omega
    have hfe : f = 0 → n = m := by rintro rfl; simp at hf; omega
    have h2f : ∀ g, f = g + 1 → b - a < 2 * 2 ^ g := by rintro g rfl; rw [Int.pow_succ] at hf; omega
    have HPT2 := Lib.hid hpt; clear hpt
    have HF := Lib.hid hf; clear hf
    have HFE := Lib.hid hfe; clear hfe
    have H2F := Lib.hid h2f; clear h2f
    have hbsz := hbr.size
    have key : ∀ (w1 : World), (wr.alloc (.cells #[.int .i64 m] 3)).grownBy w1 u5.ownBlock → Below w.heap.size w w1 := fun w1 hg =>
      (hbr.alloc hbr.size _).grown hg (by simp; omega) (fun k hk => (hown.lt k hk).1)
    have KEY := Lib.hid key; clear key
    by_cases he : n = m
    · have he' : (n == m) = true := by simp [he]
      have HE := Lib.hid he; clear he
      go_wp2_with (first
        | (simp only [← hm])
        | (at_builtin; refine wpList_app rfl (.tmp 16) (.tmp 18) _ rfl w.heap.size 3 _ 1 8 Tryd.underlying33 info_int rfl (by decide) u5 acc.length (i64s acc) rfl (own_below hown ((Below.refl _ _).alloc (Nat.le_refl _) _)) _ 1 _ [.int .i64 m] rfl (sees_new wr _ [.int .i64 m] 1 1 rfl) (by simp [Value.oneCell']) (by unfold maxLen; omega) (by omega) (by simp; omega) ?_; intro v' w1 hown1 hgr1 hat1 hnil1))
      go_ret
      have e : PT = acc ++ [m] := by rw [HPT2.out, if_pos HE.out]
      rw [e, List.length_append, i64s_append]
      exact ⟨⟨_, rfl, hown1⟩, KEY.out _ hgr1⟩
    · have he' : (n == m) = false := by simpa using he
      have hne : n < m ∨ m < n := by omega
      obtain ⟨g, hg⟩ : ∃ g, f = g + 1 := ⟨f - 1, by have := HFE.out; omega⟩
      have hgb := H2F.out g hg
      have HE := Lib.hid he; clear he
      have HG := Lib.hid hg; clear hg
      have HGB := Lib.hid hgb; clear hgb
      rcases hne with hlt | hlt
      · go_wp2_with (first
          | (simp only [← hm])
          | (at_builtin; refine wpList_app rfl (.tmp 16) (.tmp 18) _ rfl w.heap.size 3 _ 1 8 Tryd.underlying33 info_int rfl (by decide) u5 acc.length (i64s acc) rfl (own_below hown ((Below.refl _ _).alloc (Nat.le_refl _) _)) _ 1 _ [.int .i64 m] rfl (sees_new wr _ [.int .i64 m] 1 1 rfl) (by simp [Value.oneCell']) (by unfold maxLen; omega) (by omega) (by simp; omega) ?_; intro v' w1 hown1 hgr1 hat1 hnil1))
        go_roundw
        case rel => exact ⟨acc ++ [m], a, m - 1, g, rfl, by go_num, by rw [List.length_append, i64s_append]; exact hown1, KEY.out _ hgr1, by rw [HPT2.out, if_neg HE.out, if_pos hlt, HG.out]; simp, by omega, by omega, by omega, by omega, by have := HGB.out; omega⟩
        case measure => simp [intOf]; omega
      · have hge : ¬ n < m := by omega
        go_wp2_with (first
          | (simp only [← hm])
          | (at_builtin; refine wpList_app rfl (.tmp 16) (.tmp 18) _ rfl w.heap.size 3 _ 1 8 Tryd.underlying33 info_int rfl (by decide) u5 acc.length (i64s acc) rfl (own_below hown ((Below.refl _ _).alloc (Nat.le_refl _) _)) _ 1 _ [.int .i64 m] rfl (sees_new wr _ [.int .i64 m] 1 1 rfl) (by simp [Value.oneCell']) (by unfold maxLen; omega) (by omega) (by simp; omega) ?_; intro v' w1 hown1 hgr1 hat1 hnil1))
        go_roundw
        case rel => exact ⟨acc ++ [m], m + 1, b, g, by go_num, rfl, by rw [List.length_append, i64s_append]; exact hown1, KEY.out _ hgr1, by rw [HPT2.out, if_neg HE.out, if_neg hge, HG.out]; simp, by omega, by omega, by omega, by omega, by have := HGB.out; omega⟩
        case measure => simp [intOf]; omega

theorem way_all : (sizes.all fun l => (List.range 63).all fun n => decide (2 * l - 2 < (n : Int)) || decide ((n : Int) = l - 1) || (Nat.ble 2 (way n l).length && decide ((above n l) = ((way n l).getD ((way n l).length - 2) 0, true)))) = true := by decide +kernel
theorem way_fact (n l : Int) (hl : fits l = true) (h0 : 0 ≤ n) (h1 : n ≤ 2 * l - 2) (h2 : n ≠ l - 1) : 2 ≤ (way n l).length ∧ above n l = ((way n l).getD ((way n l).length - 2) 0, true) := by
  have hr := of_decide_eq_true hl
  have h := List.all_eq_true.1 way_all l (mem_sizes hl)
  have h := List.all_eq_true.1 h n.toNat (List.mem_range.2 (by omega))
  rw [show ((n.toNat : Nat) : Int) = n by omega] at h
  simp only [Bool.or_eq_true, Bool.and_eq_true, decide_eq_true_eq, Nat.ble_eq] at h
  rcases h with (h | h) | h
  · omega
  · exact absurd h h2
  · exact h

theorem rabove_any (n l : Int) (w : World) (hl1 : -9223372036854775808 ≤ l) (hl2 : l ≤ 9223372036854775807) :
    Calls Tryd.prog 18 #[.int .i64 n, .int .i64 l] w fun e w' => e = .returned (.tuple #[.int .i64 (above n l).1, .bool (above n l).2]) ∧ Below w.heap.size w w' := by
  have hF := rfits_any l w
  cases hf : fits l with
  | false =>
    rw [above_unfit n l hf]
    rw [hf] at hF
    have HF := Lib.hid hF; clear hF hf
    go_enter Tryd.func18, Tryd.ntmps18
    go_wp2_with fail
    refine HF.out.mono ?_
    rintro e w' ⟨rfl, rfl⟩
    go_wp2_with fail
    go_ret2
    exact ⟨rfl, Below.refl _ _⟩
  | true =>
    have hr := of_decide_eq_true hf
    have hl3 : 1 ≤ l := by omega
    have hl4 : l ≤ 32 := by omega
    have hwd : width l = 2 * l - 1 := if_pos hf
    rw [hf] at hF
    have HF := Lib.hid hF; clear hF
    by_cases h0 : n < 0
    · have ha : above n l = (0, false) := if_pos (.inl h0)
      rw [ha]
      clear ha hwd hr hf
      go_enter Tryd.func18, Tryd.ntmps18
      go_wp2_with fail
      refine HF.out.mono ?_
      rintro e w' ⟨rfl, rfl⟩
      go_wp2_with fail
      go_ret2
      exact ⟨rfl, Below.refl _ _⟩
    · by_cases h1 : 2 * l - 2 < n
      · have ha : above n l = (0, false) := if_pos (.inr (.inl (by omega)))
        rw [ha]
        clear ha hwd hr hf
        go_enter Tryd.func18, Tryd.ntmps18
        go_wp2_with fail
        refine HF.out.mono ?_
        rintro e w' ⟨rfl, rfl⟩
        go_wp2_with fail
        go_ret2
        exact ⟨rfl, Below.refl _ _⟩
      · by_cases h2 : n = l - 1
        · have ha : above n l = (0, false) := if_pos (.inr (.inr h2))
          rw [ha]
          have h2' : (n == l - 1) = true := by simp [h2]
          clear ha hwd hr hf h2
          go_enter Tryd.func18, Tryd.ntmps18
          go_wp2_with fail
          refine HF.out.mono ?_
          rintro e w' ⟨rfl, rfl⟩
          go_wp2_with fail
          go_ret2
          exact ⟨rfl, Below.refl _ _⟩
        · have h2' : (n == l - 1) = false := by simpa using h2
          obtain ⟨hw1, hw2⟩ := way_fact n l hf (by omega) (by omega) h2
          have hw := way_any n l w hf (by omega) (by omega)
          have hlen : (way n l).length ≤ 7 := wayF_len 7 _ _ _
          rw [hw2]
          obtain ⟨PT, hPT⟩ : ∃ PT, PT = way n l := ⟨_, rfl⟩
          rw [← hPT] at hw hw1 hlen ⊢
          have HW := Lib.hid hw; clear hw
          clear hw2 hwd hr hf h2 hPT
          go_enter Tryd.func18, Tryd.ntmps18
          go_wp2_with fail
          refine HF.out.mono ?_
          rintro e w' ⟨rfl, rfl⟩
          go_wp2_with fail
          refine HW.out.mono ?_
          rintro e w1 ⟨⟨v, rfl, hown⟩, hb⟩
          obtain ⟨g, cap, cur, rfl, hg, hblk, hcap, -⟩ := own_open hown (by omega)
          have c0 : w1.cell? ⟨g, PT.length - 2, none⟩ = some (.int .i64 (PT.getD (PT.length - 2) 0)) := own_cell hown (by
            show (PT.map (Value.int .i64))[PT.length - 2]? = _
            rw [List.getElem?_map, List.getElem?_eq_getElem (by omega), List.getD_eq_getElem?_getD, List.getElem?_eq_getElem (by omega)]; rfl)
          have hpi : 2 ≤ (PT.length : Int) := by omega
          have hnat : ((PT.length : Int) - 2).toNat = PT.length - 2 := by omega
          have HB := Lib.hid hblk; clear hblk
          have HO := Lib.hid hown; clear hown
          go_wp2_with fail
          go_ret2
          exact ⟨rfl, hb⟩

theorem beside_all : (sizes.all fun l => (List.range 63).all fun n => !(above n l).2 || decide (beside n l = (if (kids (above n l).1).1 = (n : Int) then (kids (above n l).1).2.1 else (kids (above n l).1).1, true))) = true := by decide +kernel
theorem above_in (n l : Int) (ha : (above n l).2 = true) : fits l = true ∧ 0 ≤ n ∧ n ≤ 62 := by
  have hw := width_in l
  unfold above at ha
  by_cases h : n < 0 ∨ width l ≤ n ∨ n = l - 1
  · rw [if_pos h] at ha; cases ha
  · refine ⟨?_, by omega, by omega⟩
    cases hf : fits l with
    | true => rfl
    | false =>
      have : width l = 0 := by unfold width; rw [if_neg (by rw [hf]; simp)]
      omega
theorem beside_fact (n l : Int) (ha : (above n l).2 = true) : beside n l = (if (kids (above n l).1).1 = n then (kids (above n l).1).2.1 else (kids (above n l).1).1, true) := by
  obtain ⟨hl, h0, h1⟩ := above_in n l ha
  have h := List.all_eq_true.1 beside_all l (mem_sizes hl)
  have h := List.all_eq_true.1 h n.toNat (List.mem_range.2 (by omega))
  rw [show ((n.toNat : Nat) : Int) = n by omega] at h
  simp only [Bool.or_eq_true, decide_eq_true_eq, ha, Bool.not_true, Bool.false_eq_true, false_or] at h
  exact h

theorem rbeside_any (n l : Int) (w : World) (hl1 : -9223372036854775808 ≤ l) (hl2 : l ≤ 9223372036854775807) :
    Calls Tryd.prog 20 #[.int .i64 n, .int .i64 l] w fun e w' => e = .returned (.tuple #[.int .i64 (beside n l).1, .bool (beside n l).2]) ∧ Below w.heap.size w w' := by
  have hA := rabove_any n l w hl1 hl2
  have hb : (above n l).2 = false → beside n l = (0, false) := fun e => if_neg (by rw [e]; simp)
  have hc := beside_fact n l
  obtain ⟨⟨u, b⟩, hu⟩ : ∃ u, u = above n l := ⟨_, rfl⟩
  rw [← hu] at hA hb hc
  simp only at hA hb hc
  clear hu
  have HA := Lib.hid hA; clear hA
  cases b with
  | false =>
    rw [hb rfl]
    clear hb hc
    go_enter Tryd.func20, Tryd.ntmps20
    go_wp2_with fail
    refine HA.out.mono ?_
    rintro e w1 ⟨rfl, hbel⟩
    go_wp2_with fail
    go_ret2
    exact ⟨rfl, hbel⟩
  | true =>
    rw [hc rfl]
    have hK := fun w => rkids_any u w
    obtain ⟨⟨x, y, z⟩, hk⟩ : ∃ k, k = kids u := ⟨_, rfl⟩
    rw [← hk] at hK ⊢
    have HK := Lib.hid hK; clear hK
    simp only at HK ⊢
    clear hb hc hk
    by_cases hx : x = n
    · have hx' : (x == n) = true := by simp [hx]
      rw [if_pos hx]
      clear hx
      go_enter Tryd.func20, Tryd.ntmps20
      go_wp2_with fail
      refine HA.out.mono ?_
      rintro e w1 ⟨rfl, hbel⟩
      go_wp2_with fail
      refine (HK.out _).mono ?_
      rintro e w' ⟨rfl, rfl⟩
      go_wp2_with fail
      go_ret2
      exact ⟨rfl, hbel⟩
    · have hx' : (x == n) = false := by simpa using hx
      rw [if_neg hx]
      clear hx
      go_enter Tryd.func20, Tryd.ntmps20
      go_wp2_with fail
      refine HA.out.mono ?_
      rintro e w1 ⟨rfl, hbel⟩
      go_wp2_with fail
      refine (HK.out _).mono ?_
      rintro e w' ⟨rfl, rfl⟩
      go_wp2_with fail
      go_ret2
      exact ⟨rfl, hbel⟩

set_option maxHeartbeats 1000000 in
theorem above_walk (n l : Int) (wn : (Lit.int .i64 n).wf = true) (wl : (Lit.int .i64 l).wf = true) (w : World) (hT : Tab w) (hT0 : 1 < w.heap.size) :
    Calls Tryd.prog 4 #[.int .i64 n, .int .i64 l] w fun e w' => e = .returned (.bool true) ∧ Below w.heap.size w w' := by
  have hl1 : -9223372036854775808 ≤ l := (wf_i64 wl).1
  have hl2 : l ≤ 9223372036854775807 := (wf_i64 wl).2
  have ha := awake_any w hT hT0
  have hA := fun w hT => above_any n l w hT hl1 hl2
  have hR := fun w => rabove_any n l w hl1 hl2
  have hB := fun w hT => beside_any n l w hT hl1 hl2
  have hRB := fun w => rbeside_any n l w hl1 hl2
  generalize (above n l).1 = x1 at hA hR
  generalize (above n l).2 = x2 at hA hR
  generalize (beside n l).1 = y1 at hB hRB
  generalize (beside n l).2 = y2 at hB hRB
  have HAW := Lib.hid ha; clear ha
  have HA := Lib.hid hA; clear hA
  have HR := Lib.hid hR; clear hR
  have HB := Lib.hid hB; clear hB
  have HRB := Lib.hid hRB; clear hRB
  go_enter Tryd.func4, Tryd.ntmps4
  go_wp2_with fail
  refine HAW.out.mono ?_
  rintro e w1 ⟨rfl, hb1⟩
  have hT1 : Tab w1 := hT.below hb1 hT0
  go_wp2_with fail
  refine (HA.out _ hT1).mono ?_
  rintro e w' ⟨rfl, rfl⟩
  go_wp2_with fail
  refine (HR.out _).mono ?_
  rintro e w2 ⟨rfl, hb2⟩
  have hb2 := hb1.trans (hb2.mono hb1.size)
  have hT2 : Tab w2 := hT.below hb2 hT0
  go_wp2_with fail
  refine (HB.out _ hT2).mono ?_
  rintro e w' ⟨rfl, rfl⟩
  go_wp2_with fail
  refine (HRB.out _).mono ?_
  rintro e w3 ⟨rfl, hb3⟩
  have hb3 := hb2.trans (hb3.mono hb2.size)
  go_wp2_with fail
  go_ret
  exact ⟨rfl, hb3⟩
end Go.Proofs.YtcmdlaikdpiemaaDoor
