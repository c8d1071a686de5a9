/-
  The document's lists: Same, Push, Drop.
-/
import Derived.Test.YtaapdkeipknilaaDue15
import Derived.Deep.DeepCutAuto
namespace Go.Proofs.Ytaapdkeipknilaa
set_option maxRecDepth 4000
open Go.RowKit

theorem same_any (A B : Option Addr) (c c' : Nat) (S : List (Int × Int)) (w : World) (hA : Sees w 2 A S.length (dcs S)) (hB : Sees w 2 B S.length (dcs S)) (hl : S.length ≤ 1000) :
    Calls Try.prog 18 #[.slice A S.length c, .slice B S.length c'] w fun e w' => e = .returned (.bool true) ∧ Below w.heap.size w w' := by
  have H := Lib.hid (And.intro hA hB)
  have hn := run_neq_due
  have hl2 : (S.length : Int) ≤ 1000 := by omega
  clear hA hB
  go_enter Try.func18, Try.ntmps18
  go_wp2_with fail
  go_loopw [5] (fun ii wr => ∃ i : Nat, ii = .int .i64 i ∧ i ≤ S.length ∧ Hid (Below w.heap.size w wr)) (fun ii _ => S.length - (intOf ii).toNat)
  case atStart => exact ⟨0, rfl, Nat.zero_le _, Lib.hid (Below.refl _ _)⟩
  case round =>
    obtain ⟨i, rfl, hi, hb⟩ := hrel
    by_cases hlt : i < S.length
    · have hlti : (i : Int) < (S.length : Int) := by omega
      obtain ⟨g, o, rfl, x0, x1⟩ := in_due (H.out.1.below hb.out) (gg_get hlt)
      obtain ⟨g', o', rfl, y0, y1⟩ := in_due (H.out.2.below hb.out) (gg_get hlt)
      have HLT := Lib.hid hlt
      generalize gg S i = y at *
      obtain ⟨p, q⟩ := y
      simp only at x0 x1 y0 y1
      clear hlt
      go_wp2_with fail
      refine region_fast [(0, true), (1, true), (2, true), (3, true), (4, true), (5, true), (6, true), (7, true), (8, true)] [1, 4, 5, 6, 7] 242 [(131072, 1, 0, 0), (262144, 32, 0, 0), (524288, 393216, 3, 3), (1048576, 524288, 4, 7), (2097152, 2, 0, 0), (4194304, 32, 0, 0), (8388608, 6291456, 48, 48), (16777216, 8388608, 64, 112), (33554432, 17825792, 136, 255)] (fun W => W.cell? ⟨g, o + i * 2, none⟩ = some (.int .i64 p) ∧ W.cell? ⟨g, o + i * 2 + 1, none⟩ = some (.int .i64 q) ∧ W.cell? ⟨g', o' + i * 2, none⟩ = some (.int .i64 p) ∧ W.cell? ⟨g', o' + i * 2 + 1, none⟩ = some (.int .i64 q)) (by kernel_rfl) (by kernel_rfl) (by kernel_rfl) rfl (by kernel_rfl) (by kernel_rfl) ⟨x0, x1, y0, y1⟩ (fun hS => ?_)
      repeat (first
        | (refine plan_read (v := ?_) rfl (fun _ _ _ h => h) rfl hS ?_ ?_; rotate_left 1; (focus (intro w' hS'; have e0 := hS'.1; have e1 := hS'.2.1; have e2 := hS'.2.2.1; have e3 := hS'.2.2.2; go_simp; try rfl)); (simp only [Act.put, List.setIfInBounds_toArray]; dsimp only [List.set_cons_zero, List.set_cons_succ]))
        | (refine plan_skip rfl (fun _ _ _ h => h) rfl hS ?_; (simp only [Act.put, List.setIfInBounds_toArray]; dsimp only [List.set_cons_zero, List.set_cons_succ])))
      refine plan_nil ?_
      go_wp2_with fail
      go_roundw
      case rel => exact ⟨i + 1, by go_num, HLT.out, Lib.hid (hb.out.trans ((below_of_drew (Below.refl _ _)).mono hb.out.size))⟩
      case measure => have := HLT.out; simp [intOf]; omega
    · obtain rfl : i = S.length := by omega
      go_wp2_with fail
      go_ret
      exact ⟨rfl, hb.out⟩
theorem drp_succ {S : List (Int × Int)} {i : Nat} (h : i < S.length) (x : Int) : drp (S.take (i + 1)) x = drp (S.take i) x ++ (if (gg S i).2 = x then [] else [gg S i]) := by
  rw [List.take_add_one, gg_get h]
  unfold drp
  rw [Option.toList_some, List.filter_append]
  congr 1
  by_cases e : (gg S i).2 = x
  · rw [if_pos e, List.filter_cons_of_neg (by simpa using e)]; rfl
  · rw [if_neg e, List.filter_cons_of_pos (by simpa using e)]; rfl
theorem drp_len (S : List (Int × Int)) (x : Int) : decide ((drp S x).length < S.length) = hasB S x := by
  rw [Bool.eq_iff_iff, decide_eq_true_iff, hasB_iff]
  unfold drp
  constructor
  · intro h
    refine Decidable.byContradiction fun hn => ?_
    rw [List.filter_eq_self.2 (fun e he => by simpa using fun h => hn ⟨e, he, h⟩)] at h
    omega
  · rintro ⟨e, he, hx⟩
    exact List.length_filter_lt_length_iff_exists.2 ⟨e, he, by simpa using hx⟩
set_option maxHeartbeats 1000000 in
theorem rdrop_any (A : Option Addr) (c : Nat) (S : List (Int × Int)) (x : Int) (w : World) (hA : Sees w 2 A S.length (dcs S)) (hl : S.length ≤ 1000) :
    Calls Try.prog 16 #[.slice A S.length c, .int .i64 x] w fun e w' => ∃ B c', e = .returned (.tuple #[.slice B (drp S x).length c', .bool (hasB S x)]) ∧ w'.ownsRow w.heap.size 28 2 (.slice B (drp S x).length c') (drp S x).length (dcs (drp S x)) ∧ Below w.heap.size w w' := by
  have H := Lib.hid hA
  have hl2 : (S.length : Int) ≤ 1000 := by omega
  clear hA
  go_enter Try.func16, Try.ntmps16
  go_wp2_with fail
  go_loopw [6, 7] (fun u ii wr => ∃ (i : Nat) (B : Option Addr) (c' : Nat), ii = .int .i64 i ∧ i ≤ S.length ∧ u = .slice B (drp (S.take i) x).length c' ∧ Hid (wr.ownsRow w.heap.size 28 2 (.slice B (drp (S.take i) x).length c') (drp (S.take i) x).length (dcs (drp (S.take i) x)) ∧ Below w.heap.size w wr)) (fun _ ii _ => S.length - (intOf ii).toNat)
  case atStart => exact ⟨0, none, 0, rfl, Nat.zero_le _, rfl, Lib.hid ⟨World.ownsRow_nil _ _ _ _, Below.refl _ _⟩⟩
  case round =>
    obtain ⟨i, B, c', rfl, hi, rfl, hr⟩ := hrel
    by_cases hlt : i < S.length
    · have hlti : (i : Int) < (S.length : Int) := by omega
      obtain ⟨g, o, rfl, x0, x1⟩ := in_due (H.out.below hr.out.2) (gg_get hlt)
      have hsu := drp_succ hlt x
      have hle : (drp (S.take i) x).length ≤ 1000 := Nat.le_trans (List.length_filter_le _ _) (by rw [List.length_take]; omega)
      have HLT := Lib.hid (And.intro hlt hle)
      have hbs := hr.out.2.size
      obtain ⟨T, hT⟩ : ∃ T, drp (S.take i) x = T := ⟨_, rfl⟩
      rw [hT] at hr hsu hle ⊢
      by_cases hx : (gg S i).2 = x
      · rw [if_pos hx, List.append_nil] at hsu
        have HSU := Lib.hid hsu
        generalize gg S i = y at *
        obtain ⟨p, q⟩ := y
        simp only at x0 x1 hx
        subst hx
        clear hsu hT hlt
        go_wp2_with fail
        go_roundw
        case rel => exact ⟨i + 1, B, c', by go_num, HLT.out.1, by rw [HSU.out], Lib.hid (by rw [HSU.out]; exact hr.out)⟩
        case measure => have := HLT.out; simp [intOf]; omega
      · rw [if_neg hx] at hsu
        have HSU := Lib.hid hsu
        generalize gg S i = y at *
        obtain ⟨p, q⟩ := y
        simp only at x0 x1 hx
        have hxb : (q == x) = false := by simpa using hx
        clear hsu hT hlt
        go_wp2_with (at_builtin; refine wpList_app rfl (.tmp 21) (.tmp 26) 22 rfl w.heap.size 28 _ 2 16 Try.underlying22 info_due rfl (by decide) (.slice B T.length c') T.length (dcs T) rfl (own_below hr.out.1 ((Below.refl _ _).alloc (Nat.le_refl _) _)) (some ⟨wr.heap.size, 0, none⟩) 1 1 (dcells (p, q)) rfl (sees_new wr 28 (dcells (p, q)) 2 1 rfl) (dcs_one [(p, q)]) (by unfold maxLen; omega) (by omega) (by simp; omega) ?_; intro v1 w1 n1 n2 n3 n4)
        have n5 := (hr.out.2.alloc hbs (.cells #[.int .i64 p, .int .i64 q] 28)).grown n2 (by simp; omega) (fun k hk => (hr.out.1.lt k hk).1)
        obtain ⟨B1, c1, rfl⟩ := own_shape n1
        have n6 : w1.ownsRow w.heap.size 28 2 (.slice B1 (drp (S.take (i + 1)) x).length c1) (drp (S.take (i + 1)) x).length (dcs (drp (S.take (i + 1)) x)) := by
          rw [HSU.out, List.length_append, dcs_append]
          exact n1
        refine ⟨⟨i + 1, B1, c1, by go_num, HLT.out.1, by rw [HSU.out, List.length_append]; rfl, Lib.hid ⟨n6, n5⟩⟩, ?_⟩
        have := HLT.out
        simp [intOf]
        omega
    · obtain rfl : i = S.length := by omega
      rw [List.take_length] at hr ⊢
      have hdl := drp_len S x
      have HD := Lib.hid hdl
      have hle : (drp S x).length ≤ 1000 := Nat.le_trans (List.length_filter_le _ _) hl
      have hle2 : ((drp S x).length : Int) ≤ 1000 := by omega
      obtain ⟨T, hT⟩ : ∃ T, drp S x = T := ⟨_, rfl⟩
      rw [hT] at hr hle hle2 HD ⊢
      have HT := Lib.hid hT
      clear hdl hT
      go_wp2_with fail
      go_ret2
      rw [HT.out]
      exact ⟨B, c', by rw [← HD.out]; simp, hr.out⟩
end Go.Proofs.Ytaapdkeipknilaa
