/-
  DiskLoads: the walk.
-/
import Derived.Test.YtfnmmfmndllahaaDisk8
namespace Go.Proofs.Ytfnmmfmndllahaa
open Go.RowKit

theorem size_disk (b : Nat) (F : Nat → Prop) (D : Dk) (w : World) (hD : DiskAt w b F D) (hok : D.Ok) :
    Calls Try.prog 13 #[.pointer (some ⟨b, 0, none⟩)] w fun e w' => e = .returned (.int .i64 (D.size : Nat)) ∧ w = w' := by
  obtain ⟨s, sc, cur, qA, qc, Q, ⟨⟨g1, -⟩, -⟩⟩ := hD
  exact size_any b _ D.safe.length sc w (by have := hok.most; unfold maxLen; omega) (g1.cell 0)
theorem waiting_disk (b : Nat) (F : Nat → Prop) (D : Dk) (w : World) (hD : DiskAt w b F D) :
    Calls Try.prog 14 #[.pointer (some ⟨b, 0, none⟩)] w fun e w' => e = .returned (.int .i64 D.queue.length) ∧ w = w' := by
  obtain ⟨s, sc, cur, qA, qc, Q, ⟨⟨g1, -⟩, -, -, -, g9⟩⟩ := hD
  rw [g9, List.length_map]
  exact waiting_any b _ Q.length qc w (g1.cell 1)

/-- What New answers, of any n. -/
theorem loads_new (n : Int) (w : World) (h : n ≤ 300 ∨ 65536 < n) (P : Ending → World → Prop)
    (hbad : (n < 1 ∨ 65536 < n) → P (.returned (.tuple #[.pointer none, .int .i64 2])) w)
    (hgood : 1 ≤ n → n ≤ 300 → ∀ b w', (Calls Try.prog 13 #[.pointer (some ⟨b, 0, none⟩)] w' fun e w'' => e = .returned (.int .i64 n) ∧ w' = w'') → Below w.heap.size w w' → P (.returned (.tuple #[.pointer (some ⟨b, 0, none⟩), .int .i64 0])) w') :
    Calls Try.prog 6 #[.int .i64 n] w P := by
  by_cases h1 : n < 1 ∨ 65536 < n
  · refine (new_bad n w h1).mono ?_
    rintro e w' ⟨rfl, rfl⟩
    exact hbad h1
  · obtain ⟨m, rfl⟩ := Int.eq_ofNat_of_zero_le (by omega : 0 ≤ n)
    refine (new_good m w (by omega) (by omega)).mono ?_
    rintro e w' ⟨⟨b, F, rfl, hD, hF⟩, hb⟩
    refine hgood (by omega) (by omega) b w' ?_ hb
    refine (size_disk b F _ w' hD (Dk.ok_new (by omega) (by omega))).mono ?_
    rintro e w'' ⟨rfl, rfl⟩
    refine ⟨ret_int ?_, rfl⟩
    simp [Dk.size, Dk.new]

/-- What Load answers, of an image that isn't too great. -/
theorem loads_load (A : Option Addr) (len cap : Nat) (l : List UInt8) (w : World) (hl : l.length = len) (hlen : len ≤ 2000) (hS : Sees w 1 A len (u8s l)) (P : Ending → World → Prop)
    (hbad : (len % 128 ≠ 0 ∨ len = 0) → P (.returned (.tuple #[.pointer none, .int .i64 2])) w)
    (hgood : len % 128 = 0 → 0 < len → ∀ b F w', DiskAt w' b F (Dk.load l) → (Dk.load l).Ok → Below w.heap.size w w' → P (.returned (.tuple #[.pointer (some ⟨b, 0, none⟩), .int .i64 0])) w') :
    Calls Try.prog 12 #[.slice A len cap] w P := by
  by_cases h1 : len % 128 = 0
  · by_cases h2 : len = 0
    · refine (load_size A len cap w (by unfold maxLen; omega) h1 (by omega)).mono ?_
      rintro e w' ⟨rfl, rfl⟩
      exact hbad (.inr h2)
    · obtain ⟨m, rfl⟩ : ∃ m, len = m * 128 := ⟨len / 128, by omega⟩
      refine (load_good A m cap l w hl (by omega) (by omega) hS).mono ?_
      rintro e w' ⟨⟨b, F, rfl, hD, hF⟩, hb⟩
      exact hgood h1 (by omega) b F w' hD (Dk.ok_load (by rw [hl]; omega) (by omega) (by omega)) hb
  · refine (load_odd A len cap w (by unfold maxLen; omega) h1).mono ?_
    rintro e w' ⟨rfl, rfl⟩
    exact hbad (.inl h1)

theorem size_load (b : Nat) (F : Nat → Prop) (len : Nat) (l : List UInt8) (w : World) (hl : l.length = len) (hD : DiskAt w b F (Dk.load l)) (hok : (Dk.load l).Ok) :
    ∀ n, Calls Try.prog 13 #[.pointer (some ⟨b, 0, none⟩)] (w.drewN n) fun e w' => e = .returned (.int .i64 ((len : Int) / 128)) ∧ w.drewN n = w' := by
  intro n
  refine (size_disk b F _ (w.drewN n) hD hok).mono ?_
  rintro e w' ⟨rfl, rfl⟩
  refine ⟨ret_int ?_, rfl⟩
  show (((l.length / 128 : Nat)) : Int) = _
  rw [hl]
  omega

set_option maxHeartbeats 4000000 in
theorem loads_walk (A : Option Addr) (len cap : Nat) (z : List Int) (n : Int) (w : World) (h0 : IsRow .u8 w A len cap z) (hn : (Lit.int .i64 n).wf = true) :
    Calls Try.prog 4 #[.slice A len cap, .int .i64 n] w fun e w' => e = .returned (.bool true) ∧ Below w.heap.size w w' := by
  obtain ⟨l, hl, hS, hlc, hcm⟩ := h0.bytes
  have hlm : len ≤ maxLen := Nat.le_trans hlc hcm
  have hlm' := hlm
  unfold maxLen at hlm'
  have HL := Lib.hid hl; clear hl h0
  by_cases hA : 2000 < len ∨ (300 < n ∧ n ≤ 65536)
  · by_cases hB : 2000 < len
    · go_enter Try.func4, Try.ntmps4
      go_wp2_with fail
      refine (awake_any w).mono ?_
      rintro e w1 ⟨rfl, hb1⟩
      go_wp2_with fail
      refine (awake_any w1).mono ?_
      rintro e w2 ⟨rfl, hb2⟩
      go_wp2_with fail
      go_ret
      exact ⟨rfl, hb1.trans (hb2.mono hb1.size)⟩
    · have hB1 : 300 < n := by omega
      have hB2 : n ≤ 65536 := by omega
      go_enter Try.func4, Try.ntmps4
      go_wp2_with fail
      refine (awake_any w).mono ?_
      rintro e w1 ⟨rfl, hb1⟩
      go_wp2_with fail
      refine (awake_any w1).mono ?_
      rintro e w2 ⟨rfl, hb2⟩
      go_wp2_with fail
      go_ret
      exact ⟨rfl, hb1.trans (hb2.mono hb1.size)⟩
  · have hB : ¬ 2000 < len := by omega
    have hB2 : n ≤ 300 ∨ 65536 < n := by omega
    have HB2 := Lib.hid hB2; clear hB2
    have HA := Lib.hid hA; clear hA
    by_cases hx : 300 < n
    all_goals
      go_enter Try.func4, Try.ntmps4
      go_wp2_with fail
      refine (awake_any w).mono ?_
      rintro e w1 ⟨rfl, hb1⟩
      have hS1 : Sees w1 1 A len (u8s l) := hS.below hb1
      (try have hx2 : ¬ n ≤ 65536 := by have := HB2.out; omega)
      go_wp2_with fail
      refine loads_load A len cap l w1 HL.out (by omega) hS1 _ (fun hbi => ?_) (fun hm hpos b F w2 hD hok hb2 => ?_)
    all_goals
      go_wp2_with fail
      refine loads_new n _ HB2.out _ (fun hbn => ?_) (fun hn1 hn2 b3 w3 hsz hb3 => ?_)
    · have hn1' : 1 ≤ n := by omega
      have hn2' : ¬ n ≤ 65536 := by omega
      rcases Nat.eq_zero_or_pos (len % 128) with h1 | h1
      · have h2 : len = 0 := by omega
        have h1' : (((len : Int) % 128) != 0) = false := by simp; omega
        have h2' : ((len : Int) == 0) = true := by simp; omega
        have H2 := Lib.hid h2; clear h2 h1
        go_wp2_with fail
        go_ret
        exact ⟨rfl, hb1⟩
      · have h1' : (((len : Int) % 128) != 0) = true := by simp; omega
        go_wp2_with fail
        go_ret
        exact ⟨rfl, hb1⟩
    · omega
    · have hn1' : 1 ≤ n := by omega
      have hn2' : ¬ n ≤ 65536 := by omega
      have h1' : (((len : Int) % 128) != 0) = false := by simp; omega
      have h2' : ((len : Int) == 0) = false := by simp; omega
      have hD' : DiskAt w2 b F (Dk.load l) := hD
      have hS' : Sees w2 1 A len (u8s l) := hS1.below hb2
      have HM := Lib.hid hm; clear hm
      go_wp2_with fail
      have hwr : IntKind.i64.wrap ((len : Int) / 128) = (len : Int) / 128 := IntWalk.i64_in _ (by omega)
      have hsl := size_load b F len l w2 HL.out hD' hok
      refine region_plan [(0, true), (1, true), (2, true), (3, true), (4, true), (5, true), (6, true), (7, true), (9, true), (10, true), (11, true), (8, false), (12, true), (13, true), (14, true), (15, true), (18, true), (19, true), (16, false), (17, false), (20, true), (21, true), (22, true), (23, true), (24, false), (25, true), (26, true), (27, true)] [8, 9, 10, 11, 16, 17, 18, 19] (fun w' => Sees w' 1 A len (u8s l)) (by kernel_rfl) (by kernel_rfl) rfl (by kernel_rfl) hS' (fun hS => ?_)
      repeat (first
        | (refine plan_read (v := ?_) rfl (fun _ _ _ h => h) rfl hS ?_ ?_; rotate_left 1; (focus (intro w' hS'; have hcv := run_to_string Try.underlying22 Try.underlying5 Try.underlying9 cap hS'; go_simp; try rfl)); simp only [Act.put, List.setIfInBounds_toArray, List.set_cons_zero, List.set_cons_succ])
        | (refine plan_skip rfl (fun _ _ _ h => h) rfl hS ?_; simp only [Act.put, List.setIfInBounds_toArray, List.set_cons_zero, List.set_cons_succ]))
      refine plan_do (by rfl) (by rfl) (fun K hK => ?_)
      go_simp
      refine (hsl 1).mono ?_
      rintro e w4 ⟨rfl, rfl⟩
      refine hK.out _ _ (fun _ => hS) (fun hS => ?_); clear hK K; replace hS := hS rfl; try simp only [Act.put, List.setIfInBounds_toArray, List.set_cons_zero, List.set_cons_succ]
      repeat (first
        | (refine plan_read (v := ?_) rfl (fun _ _ _ h => h) rfl hS ?_ ?_; rotate_left 1; (focus (intro w' hS'; have hcv := run_to_string Try.underlying22 Try.underlying5 Try.underlying9 cap hS'; go_simp; try rfl)); simp only [Act.put, List.setIfInBounds_toArray, List.set_cons_zero, List.set_cons_succ])
        | (refine plan_skip rfl (fun _ _ _ h => h) rfl hS ?_; simp only [Act.put, List.setIfInBounds_toArray, List.set_cons_zero, List.set_cons_succ]))
      refine plan_do (by rfl) (by rfl) (fun K hK => ?_)
      go_simp
      refine (image_any b F (Dk.load l) _ (by exact hD') hok (by simp [Dk.load])).mono ?_
      rintro e w5 ⟨⟨v, rfl, hown⟩, hb5⟩
      obtain ⟨g, cp, cu, rfl, hg, hblk, -⟩ := own_open hown (by show 0 < l.length; rw [HL.out]; exact hpos)
      have hSg : Sees w5 1 (some ⟨g, 0, none⟩) l.length (u8s l) := Sees.of_own hown
      have Hblk := Lib.hid hblk; clear hblk
      have HOWN := Lib.hid hown; clear hown
      refine hK.out _ _ (fun _ => hS.below hb5) (fun hS => ?_); clear hK K; replace hS := hS rfl; try simp only [Act.put, List.setIfInBounds_toArray, List.set_cons_zero, List.set_cons_succ]
      refine plan_do (by rfl) (by rfl) (fun K hK => ?_)
      have hcv := run_to_string Try.underlying22 Try.underlying5 Try.underlying9 cp hSg
      rw [show (Dk.load l).safe.length = l.length from rfl]
      go_simp
      refine hK.out _ _ (fun _ => hS) (fun hS => ?_); clear hK K; replace hS := hS rfl; try simp only [Act.put, List.setIfInBounds_toArray, List.set_cons_zero, List.set_cons_succ]
      repeat (first
        | (refine plan_read (v := ?_) rfl (fun _ _ _ h => h) rfl hS ?_ ?_; rotate_left 1; (focus (intro w' hS'; go_simp; try rfl)); simp only [Act.put, List.setIfInBounds_toArray, List.set_cons_zero, List.set_cons_succ])
        | (refine plan_skip rfl (fun _ _ _ h => h) rfl hS ?_; simp only [Act.put, List.setIfInBounds_toArray, List.set_cons_zero, List.set_cons_succ]))
      refine plan_do (by rfl) (by rfl) (fun K hK => ?_)
      go_simp
      refine (waiting_disk b F (Dk.load l) _ (hD'.below (below_of_drew hb5))).mono ?_
      rintro e w6 ⟨rfl, rfl⟩
      rw [show (Dk.load l).queue.length = 0 from rfl]
      refine hK.out _ _ (fun h => by cases h) (fun _ => ?_); clear hK K; try simp only [Act.put, List.setIfInBounds_toArray, List.set_cons_zero, List.set_cons_succ]
      repeat (first
        | (refine plan_read (v := ?_) rfl (fun _ _ _ h => h) rfl hS ?_ ?_; rotate_left 1; (focus (intro w' hS'; go_simp; try rfl)); simp only [Act.put, List.setIfInBounds_toArray, List.set_cons_zero, List.set_cons_succ])
        | (refine plan_skip rfl (fun _ _ _ h => h) rfl hS ?_; simp only [Act.put, List.setIfInBounds_toArray, List.set_cons_zero, List.set_cons_succ]))
      refine plan_nil ?_
      go_wp2_with fail
      go_ret
      exact ⟨rfl, (hb1.trans (hb2.mono hb1.size)).trans ((below_of_drew hb5).mono (Nat.le_trans hb1.size hb2.size))⟩
    · omega
    · have hn1' : n < 1 := by omega
      rcases Nat.eq_zero_or_pos (len % 128) with h1 | h1
      · have h2 : len = 0 := by omega
        have h1' : (((len : Int) % 128) != 0) = false := by simp; omega
        have h2' : ((len : Int) == 0) = true := by simp; omega
        have H2 := Lib.hid h2; clear h2 h1
        go_wp2_with fail
        go_ret
        exact ⟨rfl, hb1⟩
      · have h1' : (((len : Int) % 128) != 0) = true := by simp; omega
        go_wp2_with fail
        go_ret
        exact ⟨rfl, hb1⟩
    · have hn2' : n ≤ 65536 := by omega
      rcases Nat.eq_zero_or_pos (len % 128) with h1 | h1
      · have h2 : len = 0 := by omega
        have h1' : (((len : Int) % 128) != 0) = false := by simp; omega
        have h2' : ((len : Int) == 0) = true := by simp; omega
        have HSZ := Lib.hid hsz; clear hsz
        have H2 := Lib.hid h2; clear h2 h1
        go_wp2_with (go_at_call 13; refine HSZ.out.mono ?_; rintro e w4 ⟨rfl, rfl⟩)
        go_ret
        exact ⟨rfl, hb1.trans (hb3.mono hb1.size)⟩
      · have h1' : (((len : Int) % 128) != 0) = true := by simp; omega
        have HSZ := Lib.hid hsz; clear hsz
        go_wp2_with (go_at_call 13; refine HSZ.out.mono ?_; rintro e w4 ⟨rfl, rfl⟩)
        go_ret
        exact ⟨rfl, hb1.trans (hb3.mono hb1.size)⟩
    · have hn1' : n < 1 := by omega
      have h1' : (((len : Int) % 128) != 0) = false := by simp; omega
      have h2' : ((len : Int) == 0) = false := by simp; omega
      have hD' : DiskAt w2 b F (Dk.load l) := hD
      have hS' : Sees w2 1 A len (u8s l) := hS1.below hb2
      have HM := Lib.hid hm; clear hm
      go_wp2_with fail
      have hwr : IntKind.i64.wrap ((len : Int) / 128) = (len : Int) / 128 := IntWalk.i64_in _ (by omega)
      have hsl := size_load b F len l w2 HL.out hD' hok
      refine region_plan [(0, true), (1, true), (2, true), (3, true), (4, true), (5, true), (6, true), (7, true), (9, true), (10, true), (11, true), (8, false), (12, true), (13, true), (14, true), (15, true), (18, true), (19, true), (16, false), (17, false), (20, true), (21, true), (22, true), (23, true), (24, false), (25, true), (26, true), (27, true)] [8, 9, 10, 11, 16, 17, 18, 19] (fun w' => Sees w' 1 A len (u8s l)) (by kernel_rfl) (by kernel_rfl) rfl (by kernel_rfl) hS' (fun hS => ?_)
      repeat (first
        | (refine plan_read (v := ?_) rfl (fun _ _ _ h => h) rfl hS ?_ ?_; rotate_left 1; (focus (intro w' hS'; have hcv := run_to_string Try.underlying22 Try.underlying5 Try.underlying9 cap hS'; go_simp; try rfl)); simp only [Act.put, List.setIfInBounds_toArray, List.set_cons_zero, List.set_cons_succ])
        | (refine plan_skip rfl (fun _ _ _ h => h) rfl hS ?_; simp only [Act.put, List.setIfInBounds_toArray, List.set_cons_zero, List.set_cons_succ]))
      refine plan_do (by rfl) (by rfl) (fun K hK => ?_)
      go_simp
      refine (hsl 1).mono ?_
      rintro e w4 ⟨rfl, rfl⟩
      refine hK.out _ _ (fun _ => hS) (fun hS => ?_); clear hK K; replace hS := hS rfl; try simp only [Act.put, List.setIfInBounds_toArray, List.set_cons_zero, List.set_cons_succ]
      repeat (first
        | (refine plan_read (v := ?_) rfl (fun _ _ _ h => h) rfl hS ?_ ?_; rotate_left 1; (focus (intro w' hS'; have hcv := run_to_string Try.underlying22 Try.underlying5 Try.underlying9 cap hS'; go_simp; try rfl)); simp only [Act.put, List.setIfInBounds_toArray, List.set_cons_zero, List.set_cons_succ])
        | (refine plan_skip rfl (fun _ _ _ h => h) rfl hS ?_; simp only [Act.put, List.setIfInBounds_toArray, List.set_cons_zero, List.set_cons_succ]))
      refine plan_do (by rfl) (by rfl) (fun K hK => ?_)
      go_simp
      refine (image_any b F (Dk.load l) _ (by exact hD') hok (by simp [Dk.load])).mono ?_
      rintro e w5 ⟨⟨v, rfl, hown⟩, hb5⟩
      obtain ⟨g, cp, cu, rfl, hg, hblk, -⟩ := own_open hown (by show 0 < l.length; rw [HL.out]; exact hpos)
      have hSg : Sees w5 1 (some ⟨g, 0, none⟩) l.length (u8s l) := Sees.of_own hown
      have Hblk := Lib.hid hblk; clear hblk
      have HOWN := Lib.hid hown; clear hown
      refine hK.out _ _ (fun _ => hS.below hb5) (fun hS => ?_); clear hK K; replace hS := hS rfl; try simp only [Act.put, List.setIfInBounds_toArray, List.set_cons_zero, List.set_cons_succ]
      refine plan_do (by rfl) (by rfl) (fun K hK => ?_)
      have hcv := run_to_string Try.underlying22 Try.underlying5 Try.underlying9 cp hSg
      rw [show (Dk.load l).safe.length = l.length from rfl]
      go_simp
      refine hK.out _ _ (fun _ => hS) (fun hS => ?_); clear hK K; replace hS := hS rfl; try simp only [Act.put, List.setIfInBounds_toArray, List.set_cons_zero, List.set_cons_succ]
      repeat (first
        | (refine plan_read (v := ?_) rfl (fun _ _ _ h => h) rfl hS ?_ ?_; rotate_left 1; (focus (intro w' hS'; go_simp; try rfl)); simp only [Act.put, List.setIfInBounds_toArray, List.set_cons_zero, List.set_cons_succ])
        | (refine plan_skip rfl (fun _ _ _ h => h) rfl hS ?_; simp only [Act.put, List.setIfInBounds_toArray, List.set_cons_zero, List.set_cons_succ]))
      refine plan_do (by rfl) (by rfl) (fun K hK => ?_)
      go_simp
      refine (waiting_disk b F (Dk.load l) _ (hD'.below (below_of_drew hb5))).mono ?_
      rintro e w6 ⟨rfl, rfl⟩
      rw [show (Dk.load l).queue.length = 0 from rfl]
      refine hK.out _ _ (fun h => by cases h) (fun _ => ?_); clear hK K; try simp only [Act.put, List.setIfInBounds_toArray, List.set_cons_zero, List.set_cons_succ]
      repeat (first
        | (refine plan_read (v := ?_) rfl (fun _ _ _ h => h) rfl hS ?_ ?_; rotate_left 1; (focus (intro w' hS'; go_simp; try rfl)); simp only [Act.put, List.setIfInBounds_toArray, List.set_cons_zero, List.set_cons_succ])
        | (refine plan_skip rfl (fun _ _ _ h => h) rfl hS ?_; simp only [Act.put, List.setIfInBounds_toArray, List.set_cons_zero, List.set_cons_succ]))
      refine plan_nil ?_
      go_wp2_with fail
      go_ret
      exact ⟨rfl, (hb1.trans (hb2.mono hb1.size)).trans ((below_of_drew hb5).mono (Nat.le_trans hb1.size hb2.size))⟩
    · have hn2' : n ≤ 65536 := by omega
      have h1' : (((len : Int) % 128) != 0) = false := by simp; omega
      have h2' : ((len : Int) == 0) = false := by simp; omega
      have HSZ := Lib.hid hsz; clear hsz
      have hD' : DiskAt w3 b F (Dk.load l) := hD.below hb3
      have hS' : Sees w3 1 A len (u8s l) := (hS1.below hb2).below hb3
      have HM := Lib.hid hm; clear hm
      go_wp2_with (go_at_call 13; refine HSZ.out.mono ?_; rintro e w4 ⟨rfl, rfl⟩)
      have hwr : IntKind.i64.wrap ((len : Int) / 128) = (len : Int) / 128 := IntWalk.i64_in _ (by omega)
      have hsl := size_load b F len l w3 HL.out hD' hok
      refine region_plan [(0, true), (1, true), (2, true), (3, true), (4, true), (5, true), (6, true), (7, true), (9, true), (10, true), (11, true), (8, false), (12, true), (13, true), (14, true), (15, true), (18, true), (19, true), (16, false), (17, false), (20, true), (21, true), (22, true), (23, true), (24, false), (25, true), (26, true), (27, true)] [8, 9, 10, 11, 16, 17, 18, 19] (fun w' => Sees w' 1 A len (u8s l)) (by kernel_rfl) (by kernel_rfl) rfl (by kernel_rfl) hS' (fun hS => ?_)
      repeat (first
        | (refine plan_read (v := ?_) rfl (fun _ _ _ h => h) rfl hS ?_ ?_; rotate_left 1; (focus (intro w' hS'; have hcv := run_to_string Try.underlying22 Try.underlying5 Try.underlying9 cap hS'; go_simp; try rfl)); simp only [Act.put, List.setIfInBounds_toArray, List.set_cons_zero, List.set_cons_succ])
        | (refine plan_skip rfl (fun _ _ _ h => h) rfl hS ?_; simp only [Act.put, List.setIfInBounds_toArray, List.set_cons_zero, List.set_cons_succ]))
      refine plan_do (by rfl) (by rfl) (fun K hK => ?_)
      go_simp
      refine (hsl 1).mono ?_
      rintro e w4 ⟨rfl, rfl⟩
      refine hK.out _ _ (fun _ => hS) (fun hS => ?_); clear hK K; replace hS := hS rfl; try simp only [Act.put, List.setIfInBounds_toArray, List.set_cons_zero, List.set_cons_succ]
      repeat (first
        | (refine plan_read (v := ?_) rfl (fun _ _ _ h => h) rfl hS ?_ ?_; rotate_left 1; (focus (intro w' hS'; have hcv := run_to_string Try.underlying22 Try.underlying5 Try.underlying9 cap hS'; go_simp; try rfl)); simp only [Act.put, List.setIfInBounds_toArray, List.set_cons_zero, List.set_cons_succ])
        | (refine plan_skip rfl (fun _ _ _ h => h) rfl hS ?_; simp only [Act.put, List.setIfInBounds_toArray, List.set_cons_zero, List.set_cons_succ]))
      refine plan_do (by rfl) (by rfl) (fun K hK => ?_)
      go_simp
      refine (image_any b F (Dk.load l) _ (by exact hD') hok (by simp [Dk.load])).mono ?_
      rintro e w5 ⟨⟨v, rfl, hown⟩, hb5⟩
      obtain ⟨g, cp, cu, rfl, hg, hblk, -⟩ := own_open hown (by show 0 < l.length; rw [HL.out]; exact hpos)
      have hSg : Sees w5 1 (some ⟨g, 0, none⟩) l.length (u8s l) := Sees.of_own hown
      have Hblk := Lib.hid hblk; clear hblk
      have HOWN := Lib.hid hown; clear hown
      refine hK.out _ _ (fun _ => hS.below hb5) (fun hS => ?_); clear hK K; replace hS := hS rfl; try simp only [Act.put, List.setIfInBounds_toArray, List.set_cons_zero, List.set_cons_succ]
      refine plan_do (by rfl) (by rfl) (fun K hK => ?_)
      have hcv := run_to_string Try.underlying22 Try.underlying5 Try.underlying9 cp hSg
      rw [show (Dk.load l).safe.length = l.length from rfl]
      go_simp
      refine hK.out _ _ (fun _ => hS) (fun hS => ?_); clear hK K; replace hS := hS rfl; try simp only [Act.put, List.setIfInBounds_toArray, List.set_cons_zero, List.set_cons_succ]
      repeat (first
        | (refine plan_read (v := ?_) rfl (fun _ _ _ h => h) rfl hS ?_ ?_; rotate_left 1; (focus (intro w' hS'; go_simp; try rfl)); simp only [Act.put, List.setIfInBounds_toArray, List.set_cons_zero, List.set_cons_succ])
        | (refine plan_skip rfl (fun _ _ _ h => h) rfl hS ?_; simp only [Act.put, List.setIfInBounds_toArray, List.set_cons_zero, List.set_cons_succ]))
      refine plan_do (by rfl) (by rfl) (fun K hK => ?_)
      go_simp
      refine (waiting_disk b F (Dk.load l) _ (hD'.below (below_of_drew hb5))).mono ?_
      rintro e w6 ⟨rfl, rfl⟩
      rw [show (Dk.load l).queue.length = 0 from rfl]
      refine hK.out _ _ (fun h => by cases h) (fun _ => ?_); clear hK K; try simp only [Act.put, List.setIfInBounds_toArray, List.set_cons_zero, List.set_cons_succ]
      repeat (first
        | (refine plan_read (v := ?_) rfl (fun _ _ _ h => h) rfl hS ?_ ?_; rotate_left 1; (focus (intro w' hS'; go_simp; try rfl)); simp only [Act.put, List.setIfInBounds_toArray, List.set_cons_zero, List.set_cons_succ])
        | (refine plan_skip rfl (fun _ _ _ h => h) rfl hS ?_; simp only [Act.put, List.setIfInBounds_toArray, List.set_cons_zero, List.set_cons_succ]))
      refine plan_nil ?_
      go_wp2_with fail
      go_ret
      exact ⟨rfl, ((hb1.trans (hb2.mono hb1.size)).trans (hb3.mono (Nat.le_trans hb1.size hb2.size))).trans ((below_of_drew hb5).mono (Nat.le_trans (Nat.le_trans hb1.size hb2.size) hb3.size))⟩
end Go.Proofs.Ytfnmmfmndllahaa
