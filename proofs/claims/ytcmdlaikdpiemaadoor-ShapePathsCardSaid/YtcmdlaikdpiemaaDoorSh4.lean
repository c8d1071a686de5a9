/-
  The example; ShapeNodes: the walk.
-/
import Derived.Test.YtcmdlaikdpiemaaDoorSh3
namespace Go.Proofs.YtcmdlaikdpiemaaDoor
open Go.RowKit

theorem path_24 : path 2 4 = [5, 3] := by decide +kernel
theorem width_4 : width 4 = 7 := by decide +kernel

theorem awake_any (w : World) (hT : Tab w) (hT0 : 1 < w.heap.size) : Calls Tryd.prog 6 #[] w fun e w' => e = .returned (.bool true) ∧ Below w.heap.size w w' := by
  have hp := path_any 2 4 w hT hT0 (by omega) (by omega)
  rw [path_24] at hp
  have hw := width_any 4
  rw [width_4] at hw
  have HP := Lib.hid hp; clear hp
  have HW := Lib.hid hw; clear hw
  go_enter Tryd.func6, Tryd.ntmps6
  go_wp2_with fail
  refine HP.out.mono ?_
  rintro e w1 ⟨⟨v, rfl, hown⟩, hb⟩
  obtain ⟨g, cap, cur, rfl, hg, hblk, hcap, -⟩ := own_open hown (by decide)
  have c0 : w1.cell? ⟨g, 0, none⟩ = some (.int .i64 5) := own_cell hown rfl
  have c1 : w1.cell? ⟨g, 1, none⟩ = some (.int .i64 3) := own_cell hown rfl
  have HB := Lib.hid hblk; clear hblk
  have HO := Lib.hid hown; clear hown
  go_wp2_with fail
  refine (HW.out _).mono ?_
  rintro e w' ⟨rfl, rfl⟩
  go_wp2_with fail
  go_ret
  exact ⟨rfl, hb⟩

theorem half_zero (n : Int) : half n = 0 ↔ level n = 0 := by
  unfold half
  rcases level_cases n with e | e | e | e | e | e <;> rw [e] <;> decide
theorem kids_eq (n : Int) : kids n = ((left n).1, (right n).1, (left n).2) ∧ (right n).2 = (left n).2 := by
  unfold kids left right
  by_cases h : level n = 0
  · have h2 := (half_zero n).2 h
    rw [if_pos h, if_pos h2, if_pos h2]
    exact ⟨rfl, rfl⟩
  · have h2 : ¬ half n = 0 := fun e => h ((half_zero n).1 e)
    rw [if_neg h, if_neg h2, if_neg h2]
    exact ⟨rfl, rfl⟩

theorem wf_i64 {n : Int} (h : (Lit.int .i64 n).wf = true) : -9223372036854775808 ≤ n ∧ n ≤ 9223372036854775807 := by
  simp [Lit.wf, IntKind.min, IntKind.max, IntKind.bits, IntKind.signed] at h
  omega

set_option maxHeartbeats 1000000 in
theorem nodes_walk (n l : Int) (wn : (Lit.int .i64 n).wf = true) (wl : (Lit.int .i64 l).wf = true) (w : World) (hT : Tab w) (hT0 : 1 < w.heap.size) :
    Calls Tryd.prog 3 #[.int .i64 n, .int .i64 l] w fun e w' => e = .returned (.bool true) ∧ Below w.heap.size w w' := by
  have hl1 : -9223372036854775808 ≤ l := (wf_i64 wl).1
  have hl2 : l ≤ 9223372036854775807 := (wf_i64 wl).2
  have ha := awake_any w hT hT0
  have hL := fun w hT => left_any n w hT
  have hR := fun w hT => right_any n w hT
  have hK := fun w => rkids_any n w
  have hU := fun w hT => under_any n w hT
  have hRU := fun w => runder_any n w
  have hLv := fun w hT => level_any n w hT
  have hRL := fun w => rlevel_any n w
  have hF := fun w => fits_any l w
  have hRF := fun w => rfits_any l w
  have hW := fun w => width_any l w
  rw [(kids_eq n).1] at hK
  rw [(kids_eq n).2] at hR
  simp only at hK
  generalize (left n).1 = x1 at hL hK
  generalize (left n).2 = x2 at hL hK hR
  generalize (right n).1 = x3 at hR hK
  generalize (under n).1 = y1 at hU hRU
  generalize (under n).2 = y2 at hU hRU
  generalize level n = z at hLv hRL
  have HA := Lib.hid ha; clear ha
  have HL := Lib.hid hL; clear hL
  have HR := Lib.hid hR; clear hR
  have HK := Lib.hid hK; clear hK
  have HU := Lib.hid hU; clear hU
  have HRU := Lib.hid hRU; clear hRU
  have HLv := Lib.hid hLv; clear hLv
  have HRL := Lib.hid hRL; clear hRL
  cases hf : fits l with
  | true =>
    have hr := of_decide_eq_true hf
    have hn1 : 1 ≤ l := by omega
    have hn2 : l ≤ 32 := by omega
    rw [hf] at hF hRF
    have hwd : width l = 2 * l - 1 := if_pos hf
    rw [hwd] at hW
    have HF := Lib.hid hF; clear hF
    have HRF := Lib.hid hRF; clear hRF
    have HW := Lib.hid hW; clear hW
    clear hf hr hwd
    go_enter Tryd.func3, Tryd.ntmps3
    go_wp2_with fail
    refine HA.out.mono ?_
    rintro e w1 ⟨rfl, hb⟩
    have hT1 : Tab w1 := hT.below hb hT0
    go_wp2_with (first
      | (go_at_call 7; refine (HL.out _ (by exact hT1)).mono ?_; rintro e w' ⟨rfl, rfl⟩)
      | (go_at_call 8; refine (HR.out _ (by exact hT1)).mono ?_; rintro e w' ⟨rfl, rfl⟩)
      | (go_at_call 9; refine (HK.out _).mono ?_; rintro e w' ⟨rfl, rfl⟩)
      | (go_at_call 10; refine (HU.out _ (by exact hT1)).mono ?_; rintro e w' ⟨rfl, rfl⟩)
      | (go_at_call 11; refine (HRU.out _).mono ?_; rintro e w' ⟨rfl, rfl⟩)
      | (go_at_call 12; refine (HLv.out _ (by exact hT1)).mono ?_; rintro e w' ⟨rfl, rfl⟩)
      | (go_at_call 13; refine (HRL.out _).mono ?_; rintro e w' ⟨rfl, rfl⟩)
      | (go_at_call 14; refine (HRF.out _).mono ?_; rintro e w' ⟨rfl, rfl⟩)
      | (go_at_call 15; refine (HF.out _).mono ?_; rintro e w' ⟨rfl, rfl⟩)
      | (go_at_call 16; refine (HW.out _).mono ?_; rintro e w' ⟨rfl, rfl⟩))
    go_ret
    exact ⟨rfl, hb⟩
  | false =>
    rw [hf] at hF hRF
    have hwd : width l = 0 := if_neg (by rw [hf]; simp)
    rw [hwd] at hW
    have HF := Lib.hid hF; clear hF
    have HRF := Lib.hid hRF; clear hRF
    have HW := Lib.hid hW; clear hW
    clear hf hwd
    go_enter Tryd.func3, Tryd.ntmps3
    go_wp2_with fail
    refine HA.out.mono ?_
    rintro e w1 ⟨rfl, hb⟩
    have hT1 : Tab w1 := hT.below hb hT0
    go_wp2_with (first
      | (go_at_call 7; refine (HL.out _ (by exact hT1)).mono ?_; rintro e w' ⟨rfl, rfl⟩)
      | (go_at_call 8; refine (HR.out _ (by exact hT1)).mono ?_; rintro e w' ⟨rfl, rfl⟩)
      | (go_at_call 9; refine (HK.out _).mono ?_; rintro e w' ⟨rfl, rfl⟩)
      | (go_at_call 10; refine (HU.out _ (by exact hT1)).mono ?_; rintro e w' ⟨rfl, rfl⟩)
      | (go_at_call 11; refine (HRU.out _).mono ?_; rintro e w' ⟨rfl, rfl⟩)
      | (go_at_call 12; refine (HLv.out _ (by exact hT1)).mono ?_; rintro e w' ⟨rfl, rfl⟩)
      | (go_at_call 13; refine (HRL.out _).mono ?_; rintro e w' ⟨rfl, rfl⟩)
      | (go_at_call 14; refine (HRF.out _).mono ?_; rintro e w' ⟨rfl, rfl⟩)
      | (go_at_call 15; refine (HF.out _).mono ?_; rintro e w' ⟨rfl, rfl⟩)
      | (go_at_call 16; refine (HW.out _).mono ?_; rintro e w' ⟨rfl, rfl⟩))
    go_ret
    exact ⟨rfl, hb⟩
end Go.Proofs.YtcmdlaikdpiemaaDoor
