/-
  heap.Push, heap.Pop, heap.Remove.
-/
import Derived.Test.YtaapdkeipknilaaDue7
namespace Go.Proofs.Ytaapdkeipknilaa
set_option maxRecDepth 4000
open Go.RowKit

theorem last_split : ∀ {l : List (Int × Int)} {n : Nat}, l.length = n + 1 → l.take n ++ [gg l n] = l
  | [], n, h => by simp at h
  | [x], 0, _ => rfl
  | x :: y :: l, 0, h => by simp at h
  | x :: l, n + 1, h => by
      have := last_split (l := l) (n := n) (by simpa using h)
      show x :: (l.take n ++ [gg l n]) = x :: l
      rw [this]
theorem gg_take {l : List (Int × Int)} {n k : Nat} (h : k < n) : gg (l.take n) k = gg l k := by
  unfold gg
  rw [List.getD_eq_getElem?_getD, List.getD_eq_getElem?_getD, List.getElem?_take, if_pos h]
theorem Hp.take {l : List (Int × Int)} {n : Nat} (h : Hp l n) (hn : n ≤ l.length) : Hp (l.take n) (l.take n).length := by
  rw [List.length_take, Nat.min_eq_left hn]
  exact h.same fun k hk => gg_take hk
theorem perm_last {l : List (Int × Int)} {n : Nat} (h : l.length = n + 1) : (gg l n :: l.take n).Perm l := by
  have h1 : (l.take n ++ [gg l n]).Perm ([gg l n] ++ l.take n) := List.perm_append_comm
  rw [last_split h] at h1
  exact h1.symm
/-- What an operation of the heap leaves. -/
def Left (w w' : World) (q : Nat) (v : Value) (R : List (Int × Int) → Prop) : Prop := ∃ l' v', R l' ∧ Hp l' l'.length ∧ HAt w' q v' l' ∧ Fr (QF q v) w w' ∧ Nx w v v'

theorem hpush_any (q : Nat) (v : Value) (l : List (Int × Int)) (d : Int × Int) (w : World) (h : HAt w q v l) (hh : Hp l l.length) (hl : l.length ≤ 900) :
    Calls Try.prog 20 #[.iface 51 (.pointer (some ⟨q, 0, none⟩)), .iface 28 (.agg #[.int .i64 d.1, .int .i64 d.2])] w fun e w' => e = .returned (.tuple #[]) ∧ Left w w' q v (fun l' => l'.Perm (d :: l)) := by
  have HP := Lib.hid (dpush_any l q v d w h (by omega))
  have hm := mPush
  have HU := Lib.hid (And.intro (Up.push hh d) hl)
  clear h hh hl
  obtain ⟨a, b⟩ := d
  go_enter Try.func20, Try.ntmps20
  go_wp2_with fail
  refine HP.out.mono ?_
  rintro e w1 ⟨rfl, v1, h1, f1, n1⟩
  have hml := mLen q _ w1 h1.cell
  obtain ⟨A, c, rfl⟩ := h1.shape
  have HL := Lib.hid (fun w2 => len_any A (l.length + 1) c w2)
  have hln : (l ++ [(a, b)]).length = l.length + 1 := by simp
  rw [hln] at h1 hml n1
  have H1 := Lib.hid (And.intro h1 (And.intro f1 n1))
  have hl2 : (l.length : Int) ≤ 1000 := by have := HU.out.2; omega
  clear h1 f1 n1 hm
  go_wp2_with fail
  refine (HL.out w1).mono ?_
  rintro e w2 ⟨rfl, rfl⟩
  go_wp2_with fail
  refine (up_any q _ (l ++ [(a, b)]) (l.length + 1) l.length w1 H1.out.1 HU.out.1 (by omega) (by rw [hln]; omega) (by rw [hln]; have := HU.out.2; omega)).mono ?_
  rintro e w3 ⟨rfl, l', hp, hh', ho, ha, hf⟩
  go_wp2_with fail
  refine bodyPost_end (results_none rfl _ _ _) rfl ?_
  refine ⟨rfl, l', _, hp.trans (List.perm_append_comm (l₂ := [(a, b)])), ?_, ha, QF.trans H1.out.2.1 hf H1.out.2.2, H1.out.2.2⟩
  rw [hp.length_eq, hln]
  exact hh'

theorem Dn.swapped' {l : List (Int × Int)} {n i : Nat} (h : Hp l (n + 1)) (hn : n < l.length) (hi : i < n ∨ n = 0 ∧ i = 0) : Dn (sw l i n) n i i := by
  rcases hi with hi | ⟨rfl, rfl⟩
  · exact Dn.swapped h hn hi
  · exact ⟨fun k k0 kn => by omega, fun k k0 kn => by omega, Nat.le_refl _, fun h => by omega⟩
theorem gg_cons_pos (l : List (Int × Int)) (h : 0 < l.length) : ∃ t, l = gg l 0 :: t := by
  cases l with
  | nil => simp at h
  | cons x t => exact ⟨t, rfl⟩
set_option maxHeartbeats 1000000 in
theorem hpop_any (q : Nat) (v : Value) (l : List (Int × Int)) (w : World) (h : HAt w q v l) (hh : Hp l l.length) (h0 : 0 < l.length) (hl : l.length ≤ 1000) :
    Calls Try.prog 24 #[.iface 51 (.pointer (some ⟨q, 0, none⟩))] w fun e w' => e = .returned (.iface 28 (.agg #[.int .i64 (gg l 0).1, .int .i64 (gg l 0).2])) ∧ Left w w' q v (fun l' => (gg l 0 :: l').Perm l) := by
  obtain ⟨g, c, rfl⟩ := own_first h.row h0
  obtain ⟨n, hn⟩ : ∃ n, l.length = n + 1 := ⟨l.length - 1, by omega⟩
  have HL := Lib.hid (fun w2 => len_any (some ⟨g, 0, none⟩) (n + 1) c w2)
  have hml := mLen q _ w h.cell
  have hms := mSwap q _ w h.cell
  have H := Lib.hid (And.intro h (And.intro hh (And.intro hn hl)))
  have hn2 : (n : Int) ≤ 1000 := by omega
  rw [hn] at H hml hms ⊢
  clear h hh h0 hl
  go_enter Try.func24, Try.ntmps24
  go_wp2_with fail
  refine (HL.out w).mono ?_
  rintro e w2 ⟨rfl, rfl⟩
  go_wp2_with fail
  refine (hswap H.out.1 0 n (by omega) (by omega) (by have := H.out; omega)).mono ?_
  rintro e w3 ⟨rfl, ha3, hf3⟩
  have H3 := Lib.hid (And.intro ha3 hf3)
  clear ha3 hf3 hml hms
  have hlp : n < l.length := by omega
  go_wp2_with fail
  refine (down_any q _ (sw l 0 n) n 0 w3 H3.out.1 (Dn.swapped' H.out.2.1 hlp (by omega)) (by rw [sw_length]; omega) (by rw [sw_length]; omega) (by omega) (by rw [sw_length]; have := H.out; omega)).mono ?_
  rintro e w4 ⟨b, rfl, l4, hp4, ho4, ha4, hf4, hb1, hb2⟩
  have hl4 : l4.length = n + 1 := by rw [hp4.length_eq, sw_length, hn]
  have hh4 : Hp l4 n := by
    cases b with
    | true => exact hb1 rfl
    | false => exact (hb2 rfl).root
  have hlast : gg l4 n = gg l 0 := by rw [ho4 n (Nat.le_refl _), sw_gg (by omega) hlp, if_pos rfl]
  have hsp := last_split hl4
  have hpm := perm_last hl4
  rw [hlast] at hsp hpm
  have HP := Lib.hid (dpop_any (l4.take n) (gg l 0) q _ w4 (by rw [hsp]; exact ha4) (by rw [List.length_take]; omega))
  have HR := Lib.hid (And.intro (hpm.trans (hp4.trans (sw_perm (by omega) hlp))) (And.intro (hh4.take (by omega)) (H3.out.2.trans hf4 (fun _ _ h => h))))
  have hm := mPop
  clear hp4 ho4 ha4 hf4 hb1 hb2 hl4 hh4 hlast hsp hpm
  go_wp2_with fail
  refine HP.out.mono ?_
  rintro e w5 ⟨rfl, v5, h5, f5, n5⟩
  go_wp2_with fail
  go_ret
  exact ⟨rfl, _, v5, HR.out.1, HR.out.2.1, h5, HR.out.2.2.trans f5 (fun _ _ h => h), fun g' hg' => by
    rcases n5 g' hg' with h | h
    · exact .inl h
    · exact .inr (Nat.le_trans HR.out.2.2.size h)⟩

set_option maxHeartbeats 2000000 in
theorem hremove_any (q : Nat) (v : Value) (l : List (Int × Int)) (i : Nat) (w : World) (h : HAt w q v l) (hh : Hp l l.length) (h0 : i < l.length) (hl : l.length ≤ 1000) :
    Calls Try.prog 25 #[.iface 51 (.pointer (some ⟨q, 0, none⟩)), .int .i64 i] w fun e w' => (∃ r, e = .returned r) ∧ Left w w' q v (fun l' => (gg l i :: l').Perm l) := by
  obtain ⟨g, c, rfl⟩ := own_first h.row (by omega)
  obtain ⟨n, hn⟩ : ∃ n, l.length = n + 1 := ⟨l.length - 1, by omega⟩
  have HL := Lib.hid (fun w2 => len_any (some ⟨g, 0, none⟩) (n + 1) c w2)
  have hml := mLen q _ w h.cell
  have hms := mSwap q _ w h.cell
  have H := Lib.hid (And.intro h (And.intro hh (And.intro hn hl)))
  have hn2 : (n : Int) ≤ 1000 := by omega
  have hi2 : (i : Int) ≤ 1000 := by omega
  rw [hn] at H hml hms h0 ⊢
  have hm := mPop
  clear h hh hl
  by_cases hin : n = i
  · subst hin
    have hsp := last_split hn
    have hpm := perm_last hn
    have HP := Lib.hid (dpop_any (l.take n) (gg l n) q _ w (by rw [hsp]; exact H.out.1) (by rw [List.length_take]; omega))
    have HR := Lib.hid (And.intro hpm ((H.out.2.1.less (by omega : n ≤ n + 1)).take (by omega)))
    clear hsp hpm
    go_enter Try.func25, Try.ntmps25
    go_wp2_with fail
    refine (HL.out w).mono ?_
    rintro e w2 ⟨rfl, rfl⟩
    go_wp2_with fail
    refine HP.out.mono ?_
    rintro e w5 ⟨rfl, v5, h5, f5, n5⟩
    go_wp2_with fail
    go_ret
    exact ⟨⟨_, rfl⟩, _, v5, HR.out.1, HR.out.2, h5, f5, n5⟩
  · have hni : ((n : Int) != (i : Int)) = true := by simpa using (by omega : ¬ (n : Int) = (i : Int))
    have hin' : i < n := by omega
    have hlp : n < l.length := by omega
    have HI := Lib.hid (And.intro hin' hlp)
    clear hin hin' h0
    go_enter Try.func25, Try.ntmps25
    go_wp2_with fail
    refine (HL.out w).mono ?_
    rintro e w2 ⟨rfl, rfl⟩
    go_wp2_with fail
    refine (hswap H.out.1 i n (by have := HI.out; omega) (by omega) (by have := H.out; omega)).mono ?_
    rintro e w3 ⟨rfl, ha3, hf3⟩
    have H3 := Lib.hid (And.intro ha3 hf3)
    clear ha3 hf3 hml hms
    go_wp2_with fail
    refine (down_any q _ (sw l i n) n i w3 H3.out.1 (Dn.swapped' H.out.2.1 hlp (by have := HI.out; omega)) (by rw [sw_length]; omega) (by rw [sw_length]; omega) (by omega) (by rw [sw_length]; have := H.out; omega)).mono ?_
    rintro e w4 ⟨b, rfl, l4, hp4, ho4, ha4, hf4, hb1, hb2⟩
    have hl4 : l4.length = n + 1 := by rw [hp4.length_eq, sw_length, hn]
    have hlast : gg l4 n = gg l i := by rw [ho4 n (Nat.le_refl _), sw_gg (by have := HI.out; omega) hlp, if_pos rfl]
    have hpm4 := hp4.trans (sw_perm (i := i) (j := n) (by have := HI.out; omega) hlp)
    have hf4' := H3.out.2.trans hf4 (fun _ _ h => h)
    cases b with
    | true =>
      have hh4 := hb1 rfl
      have hsp := last_split hl4
      have hpm := perm_last hl4
      rw [hlast] at hsp hpm
      have HP := Lib.hid (dpop_any (l4.take n) (gg l i) q _ w4 (by rw [hsp]; exact ha4) (by rw [List.length_take]; omega))
      have HR := Lib.hid (And.intro (hpm.trans hpm4) (And.intro (hh4.take (by omega)) hf4'))
      clear hp4 ho4 ha4 hf4 hb1 hb2 hl4 hh4 hlast hsp hpm hpm4 hf4'
      go_wp2_with fail
      refine HP.out.mono ?_
      rintro e w5 ⟨rfl, v5, h5, f5, n5⟩
      go_wp2_with fail
      go_ret
      exact ⟨⟨_, rfl⟩, _, v5, HR.out.1, HR.out.2.1, h5, HR.out.2.2.trans f5 (fun _ _ h => h), fun g' hg' => by
        rcases n5 g' hg' with h | h
        · exact .inl h
        · exact .inr (Nat.le_trans HR.out.2.2.size h)⟩
    | false =>
      have H4 := Lib.hid (And.intro ha4 (And.intro (hb2 rfl) (And.intro hl4 (And.intro hlast (And.intro hpm4 hf4')))))
      clear hp4 ho4 ha4 hf4 hb1 hb2 hl4 hlast hpm4 hf4'
      go_wp2_with fail
      refine (up_any q _ l4 n i w4 H4.out.1 H4.out.2.1 HI.out.1 (by have := H4.out.2.2.1; omega) (by have := H4.out.2.2.1; have := H.out; omega)).mono ?_
      rintro e w5 ⟨rfl, l5, hp5, hh5, ho5, ha5, hf5⟩
      have hl5 : l5.length = n + 1 := by rw [hp5.length_eq, H4.out.2.2.1]
      have hlast5 : gg l5 n = gg l i := by rw [ho5 n (Nat.le_refl _), H4.out.2.2.2.1]
      have hsp := last_split hl5
      have hpm := perm_last hl5
      rw [hlast5] at hsp hpm
      have HP := Lib.hid (dpop_any (l5.take n) (gg l i) q _ w5 (by rw [hsp]; exact ha5) (by rw [List.length_take]; omega))
      have HR := Lib.hid (And.intro (hpm.trans (hp5.trans H4.out.2.2.2.2.1)) (And.intro (hh5.take (by omega)) (H4.out.2.2.2.2.2.trans hf5 (fun _ _ h => h))))
      clear hp5 hh5 ho5 ha5 hf5 hl5 hlast5 hsp hpm
      go_wp2_with fail
      refine HP.out.mono ?_
      rintro e w6 ⟨rfl, v6, h6, f6, n6⟩
      go_wp2_with fail
      go_ret
      exact ⟨⟨_, rfl⟩, _, v6, HR.out.1, HR.out.2.1, h6, HR.out.2.2.trans f6 (fun _ _ h => h), fun g' hg' => by
        rcases n6 g' hg' with h | h
        · exact .inl h
        · exact .inr (Nat.le_trans HR.out.2.2.size h)⟩
end Go.Proofs.Ytaapdkeipknilaa
