/-
  New; Ahead.
-/
import Derived.Test.YtaapdkeipknilaaDue10
namespace Go.Proofs.Ytaapdkeipknilaa
set_option maxRecDepth 4000
open Go.RowKit

/-- A due is put in: what there is then. -/
def pushS (S : List (Int × Int)) (d : Int × Int) : List (Int × Int) := if hasB S d.2 then S else ins d S
theorem pushS_length (S : List (Int × Int)) (d : Int × Int) : (pushS S d).length ≤ S.length + 1 := by
  unfold pushS
  split
  · omega
  · rw [(ins_perm d S).length_eq]; simp
theorem foldl_length : ∀ (ds S : List (Int × Int)), (ds.foldl pushS S).length ≤ S.length + ds.length
  | [], S => by simp
  | d :: ds, S => by
      have := foldl_length ds (pushS S d)
      have := pushS_length S d
      simp only [List.foldl_cons, List.length_cons]
      omega
theorem fold_small (ds : List (Int × Int)) (k : Nat) (h : ds.length ≤ 100) : ((ds.take k).foldl pushS []).length ≤ 900 := by
  have h1 := foldl_length (ds.take k) []
  have h2 : (ds.take k).length ≤ ds.length := by rw [List.length_take]; omega
  have h3 : ([] : List (Int × Int)).length = 0 := rfl
  omega
theorem QAt.nil (w : World) (q : Nat) (h : Blk w q 48 #[.slice none 0 0]) : QAt w q (.slice none 0 0) [] :=
  ⟨[], ⟨h, World.ownsRow_nil _ _ _ _⟩, fun k k0 kn => by simp at kn, .refl _, .nil, .nil⟩
set_option maxHeartbeats 1000000 in
theorem new_any (ds : List (Int × Int)) (A : Option Addr) (c : Nat) (w : World) (hS : Sees w 2 A ds.length (dcs ds)) (hl : ds.length ≤ 100) :
    Calls Try.prog 7 #[.slice A ds.length c] w fun e w' => e = .returned (.pointer (some ⟨w.heap.size, 0, none⟩)) ∧ (∃ v, QAt w' w.heap.size v (ds.foldl pushS []) ∧ ∀ g, v.ownBlock = some g → w.heap.size ≤ g) ∧ Below w.heap.size w w' := by
  have HS := Lib.hid (And.intro hS hl)
  have hl2 : (ds.length : Int) ≤ 100 := by omega
  clear hS
  go_enter Try.func7, Try.ntmps7
  go_wp2_with fail
  have k1 := Blk.new w 48 #[.slice none 0 0]
  have hb1 : Below w.heap.size w (w.alloc (.cells #[.slice none 0 0] 48)) := (Below.refl _ _).alloc (Nat.le_refl _) _
  go_loopw [5, 10] (fun _ i wr => ∃ (k : Nat) (v : Value), i = .int .i64 k ∧ k ≤ ds.length ∧ Hid (QAt wr w.heap.size v ((ds.take k).foldl pushS []) ∧ (∀ g, v.ownBlock = some g → w.heap.size ≤ g) ∧ Below w.heap.size w wr)) (fun _ i _ => ds.length - (intOf i).toNat)
  case atStart => exact ⟨0, .slice none 0 0, rfl, Nat.zero_le _, Lib.hid ⟨QAt.nil _ _ k1, (fun g hg => by cases hg), hb1⟩⟩
  case round =>
    obtain ⟨k, v, rfl, hk, hr⟩ := hrel
    clear k1 hb1
    by_cases hlt : k < ds.length
    · have hlti : (k : Int) < (ds.length : Int) := by omega
      have hge := gg_get hlt
      have htk := (show ds.take (k + 1) = ds.take k ++ [gg ds k] by rw [List.take_add_one, hge]; rfl)
      obtain ⟨g, o, rfl, x0, x1⟩ := in_due (HS.out.1.below hr.out.2.2) hge
      have HP := Lib.hid (fun w2 hb => qpush_any w.heap.size v ((ds.take k).foldl pushS []) (gg ds k) w2 (hr.out.1.below hb) (fold_small ds k HS.out.2))
      have HT := Lib.hid (show ((ds.take (k + 1)).foldl pushS []) = (if hasB ((ds.take k).foldl pushS []) (gg ds k).2 then ((ds.take k).foldl pushS []) else ins (gg ds k) ((ds.take k).foldl pushS [])) by rw [htk, List.foldl_append]; rfl)
      clear hge htk
      generalize (ds.take k).foldl pushS [] = S at *
      generalize gg ds k = y at *
      obtain ⟨a, b⟩ := y
      simp only at x0 x1
      have hb2 : Below wr.heap.size wr (wr.alloc (.cells #[.int .i64 a, .int .i64 b] 28)) := (Below.refl _ _).alloc (Nat.le_refl _) _
      have HB2 := Lib.hid hb2
      clear hb2
      go_wp2_with fail
      refine (HP.out _ HB2.out).mono ?_
      rintro e w3 ⟨rfl, v3, q3, f3, n3⟩
      have H3 : Hid (∃ v, QAt w3 w.heap.size v ((ds.take (k + 1)).foldl pushS []) ∧ (∀ g, v.ownBlock = some g → w.heap.size ≤ g) ∧ Below w.heap.size w w3) := Lib.hid (by
        refine ⟨v3, by rw [HT.out]; exact q3, fun g hg => ?_, ?_⟩
        · rcases n3 g hg with h | h
          · exact hr.out.2.1 g h
          · exact Nat.le_trans hr.out.2.2.size (Nat.le_trans HB2.out.size h)
        · refine (hr.out.2.2.trans (HB2.out.mono hr.out.2.2.size)).trans (f3.below (Nat.le_trans hr.out.2.2.size HB2.out.size) (fun j hj => ?_))
          rcases hj with rfl | hj
          · exact Nat.le_refl _
          · exact hr.out.2.1 j hj)
      obtain ⟨v4, h4⟩ := H3.out
      have H4 := Lib.hid h4
      clear q3 f3 n3 h4 H3 HT
      go_wp2_with fail
      go_roundw
      case rel => exact ⟨k + 1, v4, by go_num, by omega, H4⟩
      case measure => simp [intOf]; omega
    · obtain rfl : k = ds.length := by omega
      go_wp2_with fail
      go_ret
      have h9 := hr.out
      rw [List.take_length] at h9
      exact ⟨rfl, ⟨v, h9.1, h9.2.1⟩, h9.2.2⟩
theorem ahead_any (x y : Int × Int) (w : World) : Calls Try.prog 11 #[.agg #[.int .i64 x.1, .int .i64 x.2], .agg #[.int .i64 y.1, .int .i64 y.2]] w fun e w' => e = .returned (.bool (decide (¬ LE y x))) ∧ Below w.heap.size w w' := by
  have hb : Below w.heap.size w ((w.alloc (.cells #[.int .i64 x.1, .int .i64 x.2] 28)).alloc (.cells #[.int .i64 y.1, .int .i64 y.2] 28)) := ((Below.refl _ _).alloc (Nat.le_refl _) _).alloc (by simp) _
  have HB := Lib.hid hb
  obtain ⟨R, hR⟩ : ∃ R, decide (¬ LE y x) = R := ⟨_, rfl⟩
  rw [hR]
  obtain ⟨a, b⟩ := x
  obtain ⟨c, d⟩ := y
  have HR := Lib.hid hR
  clear hR hb
  by_cases h1 : a < c
  · go_enter Try.func11, Try.ntmps11
    go_wp2_with fail
    go_ret
    refine ⟨ret_bool ?_, HB.out⟩
    rw [← HR.out]
    simp [LE]
    omega
  · by_cases h2 : a = c
    · subst h2
      go_enter Try.func11, Try.ntmps11
      go_wp2_with fail
      go_ret
      refine ⟨ret_bool ?_, HB.out⟩
      rw [← HR.out]
      simp [LE]
    · have h2b : (a == c) = false := by simpa using h2
      go_enter Try.func11, Try.ntmps11
      go_wp2_with fail
      go_ret
      refine ⟨ret_bool ?_, HB.out⟩
      rw [← HR.out]
      simp [LE]
      omega
end Go.Proofs.Ytaapdkeipknilaa
