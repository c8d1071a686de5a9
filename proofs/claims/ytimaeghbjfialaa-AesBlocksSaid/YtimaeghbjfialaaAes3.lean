/-
  A column, mixed.
-/
import Derived.Test.YtimaeghbjfialaaAes2
namespace Go.Proofs.Ytimaeghbjfialaa
open Go.RowKit

/-- n octets are laid. -/
def mixg (c : Nat → Nat) (n : Nat) : List Nat := tab 4 fun j => if j < n then mx c j else 0
theorem mixg_next (c : Nat → Nat) (n : Nat) : (mixg c n).set n (mx c n) = mixg c (n + 1) := by
  rw [mixg, tab_set]
  refine tab_ext fun j _ => ?_
  by_cases e : j = n
  · subst e; simp
  · rw [if_neg e]
    by_cases h : j < n
    · rw [if_pos h, if_pos (by omega)]
    · rw [if_neg h, if_neg (by omega)]
theorem mix_bits (a b c d : Nat) (ha : a < 256) (hb : b < 256) (hc : c < 256) (hd : d < 256) :
    bits BinOp.xor IntKind.u8 (bits BinOp.xor IntKind.u8 (bits BinOp.xor IntKind.u8 (bits BinOp.xor IntKind.u8 (dbl a : Nat) (dbl b : Nat)) (b : Int)) (c : Int)) (d : Int) = ((dbl a ^^^ dbl b ^^^ b ^^^ c ^^^ d : Nat) : Int) := by
  have h1 := xor_lt (dbl_lt ha) (dbl_lt hb)
  have h2 := xor_lt h1 hb
  have h3 := xor_lt h2 hc
  rw [u8_xor_nat _ _ (dbl_lt ha) (dbl_lt hb), u8_xor_nat _ _ h1 hb, u8_xor_nat _ _ h2 hc, u8_xor_nat _ _ h3 hd]

theorem mix_any (c : List Nat) (hc : c.length = 4) (hcl : byt c) (w : World) :
    Calls Try.prog 28 #[.agg (nbs c).toArray] w fun e w' => e = .returned (.agg (nbs (tab 4 (mx fun i => c.getD i 0))).toArray) ∧ Below w.heap.size w w' := by
  obtain ⟨cb, hcb⟩ : ∃ x, x = (nbs c).toArray := ⟨_, rfl⟩
  rw [← hcb]
  have HCB := Lib.hid hcb; clear hcb
  go_enter Try.func28, Try.ntmps28
  go_wp2_with fail
  go_loopw [4, 5] (fun _ i wr => ∃ n : Nat, n ≤ 4 ∧ i = .int .i64 n ∧ Blk wr w.heap.size 51 (nbs c).toArray ∧ Blk wr (w.heap.size + 1 + 1) 51 (nbs (mixg (fun i => c.getD i 0) n)).toArray ∧ Blk wr (w.heap.size + 1) 51 (nbs (tab 4 fun _ => 0)).toArray ∧ Below w.heap.size w wr) (fun _ i _ => 4 - (intOf i).toNat)
  case atStart =>
    refine ⟨0, by omega, rfl, ?_, ?_, ?_, ?_⟩
    · exact ((Blk.new' rfl HCB.out).alloc _).alloc _
    · exact Blk.new' (by simp) (by rfl)
    · exact (Blk.new' (by simp) (by rfl)).alloc _
    · exact (((Below.refl _ _).alloc (Nat.le_refl _) _).alloc (by simp) _).alloc (by simp; omega) _
  case round =>
    obtain ⟨n, hn, rfl, hB, hM, hO, hbel⟩ := hrel
    by_cases hlt : n < 4
    · have hlti : (n : Int) < 4 := by omega
      have hget : ∀ i, i < 4 → wr.cell? ⟨w.heap.size, i, none⟩ = some (.int .u8 (c.getD i 0 : Nat)) := fun i hi => blk_cell hB (by omega)
      have h0 := hget 0 (by omega)
      have h1 := hget 1 (by omega)
      have h2 := hget 2 (by omega)
      have h3 := hget 3 (by omega)
      have hfz : wr.frozen? ⟨w.heap.size + 1 + 1, n, none⟩ = false := hM.frozen n
      have hmc : ∃ u, wr.cell? ⟨w.heap.size + 1 + 1, n, none⟩ = some u := ⟨_, blk_cell hM (by rw [mixg, tab_length]; exact hlt)⟩
      obtain ⟨u, hmc⟩ := hmc
      have hM2 := hM.set_ n (.int .u8 (mx (fun i => c.getD i 0) n : Nat))
      rw [nbs_arr_set, mixg_next] at hM2
      have hx : mx (fun i => c.getD i 0) n = dbl (c.getD n 0) ^^^ dbl (c.getD ((n + 1) % 4) 0) ^^^ c.getD ((n + 1) % 4) 0 ^^^ c.getD ((n + 2) % 4) 0 ^^^ c.getD ((n + 3) % 4) 0 := rfl
      rw [hx] at hM2
      have HB := Lib.hid hB; clear hB
      have HM := Lib.hid hM; clear hM
      have l0 := hcl 0
      have l1 := hcl 1
      have l2 := hcl 2
      have l3 := hcl 3
      clear hget hx
      have hk : n = 0 ∨ n = 1 ∨ n = 2 ∨ n = 3 := by omega
      have hw1 : IntKind.i64.wrap 1 = 1 := by decide +kernel
      have hw2 : IntKind.i64.wrap 2 = 2 := by decide +kernel
      have hw3 : IntKind.i64.wrap 3 = 3 := by decide +kernel
      have hw4 : IntKind.i64.wrap 4 = 4 := by decide +kernel
      have hw5 : IntKind.i64.wrap 5 = 5 := by decide +kernel
      have hw6 : IntKind.i64.wrap 6 = 6 := by decide +kernel
      rcases hk with rfl | rfl | rfl | rfl
      · simp only [Nat.reduceAdd, Nat.reduceMod] at hM2
        obtain ⟨c0, e0⟩ : ∃ x, x = c.getD 0 0 := ⟨_, rfl⟩
        obtain ⟨c1, e1⟩ : ∃ x, x = c.getD 1 0 := ⟨_, rfl⟩
        obtain ⟨c2, e2⟩ : ∃ x, x = c.getD 2 0 := ⟨_, rfl⟩
        obtain ⟨c3, e3⟩ : ∃ x, x = c.getD 3 0 := ⟨_, rfl⟩
        rw [← e0] at h0 l0
        rw [← e1] at h1 l1
        rw [← e2] at h2 l2
        rw [← e3] at h3 l3
        rw [← e0, ← e1, ← e2, ← e3] at hM2
        clear e0 e1 e2 e3
        have HM2 := Lib.hid hM2; clear hM2
        have HX := Lib.hid (mix_bits c0 c1 c2 c3 l0 l1 l2 l3)
        go_wp2_with fail
        refine region_plan [(0, true), (1, true), (2, true), (3, true), (5, true), (6, true), (7, true), (8, true), (9, true), (12, true), (13, true), (14, true), (15, true), (16, true), (18, true), (19, true), (20, true), (21, true), (22, true), (24, true), (25, true), (26, true), (27, true), (28, true), (4, false), (10, false), (11, true), (17, true), (23, true), (29, true), (30, true), (31, false)] [1, 2, 3, 4, 5, 6, 7, 8, 9, 10, 11, 12, 13, 14, 15, 16, 17, 18, 19, 20, 21, 22, 23, 24, 25, 26, 27, 28, 29] (fun w' => w'.cell? ⟨w.heap.size, 0, none⟩ = some (.int .u8 c0) ∧ w'.cell? ⟨w.heap.size, 1, none⟩ = some (.int .u8 c1) ∧ w'.cell? ⟨w.heap.size, 2, none⟩ = some (.int .u8 c2) ∧ w'.cell? ⟨w.heap.size, 3, none⟩ = some (.int .u8 c3)) (by kernel_rfl) (by kernel_rfl) rfl (by kernel_rfl) ⟨h0, h1, h2, h3⟩ (fun hS => ?_)
        repeat (first
          | (refine plan_read (v := ?_) rfl (fun _ _ _ h => h) rfl hS ?_ ?_; rotate_left 1; (focus (intro w' hS'; obtain ⟨h0, h1, h2, h3⟩ := hS'; go_simp; try rfl)); simp only [Act.put, List.setIfInBounds_toArray, List.set_cons_zero, List.set_cons_succ])
          | (refine plan_skip rfl (fun _ _ _ h => h) rfl hS ?_; simp only [Act.put, List.setIfInBounds_toArray, List.set_cons_zero, List.set_cons_succ]))
        refine plan_do (by rfl) (by rfl) (fun K hK => ?_)
        go_simp
        refine (dbl_any c0 l0 _).mono ?_
        rintro e w' ⟨rfl, rfl⟩
        refine hK.out _ _ (fun _ => hS) (fun hS => ?_); clear hK K; replace hS := hS rfl; try simp only [Act.put, List.setIfInBounds_toArray, List.set_cons_zero, List.set_cons_succ]
        refine plan_do (by rfl) (by rfl) (fun K hK => ?_)
        go_simp
        refine (dbl_any c1 l1 _).mono ?_
        rintro e w' ⟨rfl, rfl⟩
        refine hK.out _ _ (fun _ => hS) (fun hS => ?_); clear hK K; replace hS := hS rfl; try simp only [Act.put, List.setIfInBounds_toArray, List.set_cons_zero, List.set_cons_succ]
        repeat (first
          | (refine plan_read (v := ?_) rfl (fun _ _ _ h => h) rfl hS ?_ ?_; rotate_left 1; (focus (intro w' hS'; obtain ⟨h0, h1, h2, h3⟩ := hS'; go_simp; try rfl)); simp only [Act.put, List.setIfInBounds_toArray, List.set_cons_zero, List.set_cons_succ])
          | (refine plan_skip rfl (fun _ _ _ h => h) rfl hS ?_; simp only [Act.put, List.setIfInBounds_toArray, List.set_cons_zero, List.set_cons_succ]))
        refine plan_do (by rfl) (by rfl) (fun K hK => ?_)
        go_simp
        rw [HX.out]
        refine hK.out _ _ (fun h => by cases h) (fun _ => ?_); clear hK K; try simp only [Act.put, List.setIfInBounds_toArray, List.set_cons_zero, List.set_cons_succ]
        refine plan_nil ?_
        go_wp2_with fail
        go_roundw
        case rel => exact ⟨0 + 1, by omega, rfl, HB.out.far (by show w.heap.size ≠ w.heap.size + 1 + 1; omega) _, HM2.out, hO.far (by show w.heap.size + 1 ≠ w.heap.size + 1 + 1; omega) _, (hbel.setCell (by show w.heap.size ≤ w.heap.size + 1 + 1; omega) _).drew⟩
        case measure => simp [intOf]
      · simp only [Nat.reduceAdd, Nat.reduceMod] at hM2
        obtain ⟨c0, e0⟩ : ∃ x, x = c.getD 0 0 := ⟨_, rfl⟩
        obtain ⟨c1, e1⟩ : ∃ x, x = c.getD 1 0 := ⟨_, rfl⟩
        obtain ⟨c2, e2⟩ : ∃ x, x = c.getD 2 0 := ⟨_, rfl⟩
        obtain ⟨c3, e3⟩ : ∃ x, x = c.getD 3 0 := ⟨_, rfl⟩
        rw [← e0] at h0 l0
        rw [← e1] at h1 l1
        rw [← e2] at h2 l2
        rw [← e3] at h3 l3
        rw [← e0, ← e1, ← e2, ← e3] at hM2
        clear e0 e1 e2 e3
        have HM2 := Lib.hid hM2; clear hM2
        have HX := Lib.hid (mix_bits c1 c2 c3 c0 l1 l2 l3 l0)
        go_wp2_with fail
        refine region_plan [(0, true), (1, true), (2, true), (3, true), (5, true), (6, true), (7, true), (8, true), (9, true), (12, true), (13, true), (14, true), (15, true), (16, true), (18, true), (19, true), (20, true), (21, true), (22, true), (24, true), (25, true), (26, true), (27, true), (28, true), (4, false), (10, false), (11, true), (17, true), (23, true), (29, true), (30, true), (31, false)] [1, 2, 3, 4, 5, 6, 7, 8, 9, 10, 11, 12, 13, 14, 15, 16, 17, 18, 19, 20, 21, 22, 23, 24, 25, 26, 27, 28, 29] (fun w' => w'.cell? ⟨w.heap.size, 0, none⟩ = some (.int .u8 c0) ∧ w'.cell? ⟨w.heap.size, 1, none⟩ = some (.int .u8 c1) ∧ w'.cell? ⟨w.heap.size, 2, none⟩ = some (.int .u8 c2) ∧ w'.cell? ⟨w.heap.size, 3, none⟩ = some (.int .u8 c3)) (by kernel_rfl) (by kernel_rfl) rfl (by kernel_rfl) ⟨h0, h1, h2, h3⟩ (fun hS => ?_)
        repeat (first
          | (refine plan_read (v := ?_) rfl (fun _ _ _ h => h) rfl hS ?_ ?_; rotate_left 1; (focus (intro w' hS'; obtain ⟨h0, h1, h2, h3⟩ := hS'; go_simp; try rfl)); simp only [Act.put, List.setIfInBounds_toArray, List.set_cons_zero, List.set_cons_succ])
          | (refine plan_skip rfl (fun _ _ _ h => h) rfl hS ?_; simp only [Act.put, List.setIfInBounds_toArray, List.set_cons_zero, List.set_cons_succ]))
        refine plan_do (by rfl) (by rfl) (fun K hK => ?_)
        go_simp
        refine (dbl_any c1 l1 _).mono ?_
        rintro e w' ⟨rfl, rfl⟩
        refine hK.out _ _ (fun _ => hS) (fun hS => ?_); clear hK K; replace hS := hS rfl; try simp only [Act.put, List.setIfInBounds_toArray, List.set_cons_zero, List.set_cons_succ]
        refine plan_do (by rfl) (by rfl) (fun K hK => ?_)
        go_simp
        refine (dbl_any c2 l2 _).mono ?_
        rintro e w' ⟨rfl, rfl⟩
        refine hK.out _ _ (fun _ => hS) (fun hS => ?_); clear hK K; replace hS := hS rfl; try simp only [Act.put, List.setIfInBounds_toArray, List.set_cons_zero, List.set_cons_succ]
        repeat (first
          | (refine plan_read (v := ?_) rfl (fun _ _ _ h => h) rfl hS ?_ ?_; rotate_left 1; (focus (intro w' hS'; obtain ⟨h0, h1, h2, h3⟩ := hS'; go_simp; try rfl)); simp only [Act.put, List.setIfInBounds_toArray, List.set_cons_zero, List.set_cons_succ])
          | (refine plan_skip rfl (fun _ _ _ h => h) rfl hS ?_; simp only [Act.put, List.setIfInBounds_toArray, List.set_cons_zero, List.set_cons_succ]))
        refine plan_do (by rfl) (by rfl) (fun K hK => ?_)
        go_simp
        rw [HX.out]
        refine hK.out _ _ (fun h => by cases h) (fun _ => ?_); clear hK K; try simp only [Act.put, List.setIfInBounds_toArray, List.set_cons_zero, List.set_cons_succ]
        refine plan_nil ?_
        go_wp2_with fail
        go_roundw
        case rel => exact ⟨1 + 1, by omega, rfl, HB.out.far (by show w.heap.size ≠ w.heap.size + 1 + 1; omega) _, HM2.out, hO.far (by show w.heap.size + 1 ≠ w.heap.size + 1 + 1; omega) _, (hbel.setCell (by show w.heap.size ≤ w.heap.size + 1 + 1; omega) _).drew⟩
        case measure => simp [intOf]
      · simp only [Nat.reduceAdd, Nat.reduceMod] at hM2
        obtain ⟨c0, e0⟩ : ∃ x, x = c.getD 0 0 := ⟨_, rfl⟩
        obtain ⟨c1, e1⟩ : ∃ x, x = c.getD 1 0 := ⟨_, rfl⟩
        obtain ⟨c2, e2⟩ : ∃ x, x = c.getD 2 0 := ⟨_, rfl⟩
        obtain ⟨c3, e3⟩ : ∃ x, x = c.getD 3 0 := ⟨_, rfl⟩
        rw [← e0] at h0 l0
        rw [← e1] at h1 l1
        rw [← e2] at h2 l2
        rw [← e3] at h3 l3
        rw [← e0, ← e1, ← e2, ← e3] at hM2
        clear e0 e1 e2 e3
        have HM2 := Lib.hid hM2; clear hM2
        have HX := Lib.hid (mix_bits c2 c3 c0 c1 l2 l3 l0 l1)
        go_wp2_with fail
        refine region_plan [(0, true), (1, true), (2, true), (3, true), (5, true), (6, true), (7, true), (8, true), (9, true), (12, true), (13, true), (14, true), (15, true), (16, true), (18, true), (19, true), (20, true), (21, true), (22, true), (24, true), (25, true), (26, true), (27, true), (28, true), (4, false), (10, false), (11, true), (17, true), (23, true), (29, true), (30, true), (31, false)] [1, 2, 3, 4, 5, 6, 7, 8, 9, 10, 11, 12, 13, 14, 15, 16, 17, 18, 19, 20, 21, 22, 23, 24, 25, 26, 27, 28, 29] (fun w' => w'.cell? ⟨w.heap.size, 0, none⟩ = some (.int .u8 c0) ∧ w'.cell? ⟨w.heap.size, 1, none⟩ = some (.int .u8 c1) ∧ w'.cell? ⟨w.heap.size, 2, none⟩ = some (.int .u8 c2) ∧ w'.cell? ⟨w.heap.size, 3, none⟩ = some (.int .u8 c3)) (by kernel_rfl) (by kernel_rfl) rfl (by kernel_rfl) ⟨h0, h1, h2, h3⟩ (fun hS => ?_)
        repeat (first
          | (refine plan_read (v := ?_) rfl (fun _ _ _ h => h) rfl hS ?_ ?_; rotate_left 1; (focus (intro w' hS'; obtain ⟨h0, h1, h2, h3⟩ := hS'; go_simp; try rfl)); simp only [Act.put, List.setIfInBounds_toArray, List.set_cons_zero, List.set_cons_succ])
          | (refine plan_skip rfl (fun _ _ _ h => h) rfl hS ?_; simp only [Act.put, List.setIfInBounds_toArray, List.set_cons_zero, List.set_cons_succ]))
        refine plan_do (by rfl) (by rfl) (fun K hK => ?_)
        go_simp
        refine (dbl_any c2 l2 _).mono ?_
        rintro e w' ⟨rfl, rfl⟩
        refine hK.out _ _ (fun _ => hS) (fun hS => ?_); clear hK K; replace hS := hS rfl; try simp only [Act.put, List.setIfInBounds_toArray, List.set_cons_zero, List.set_cons_succ]
        refine plan_do (by rfl) (by rfl) (fun K hK => ?_)
        go_simp
        refine (dbl_any c3 l3 _).mono ?_
        rintro e w' ⟨rfl, rfl⟩
        refine hK.out _ _ (fun _ => hS) (fun hS => ?_); clear hK K; replace hS := hS rfl; try simp only [Act.put, List.setIfInBounds_toArray, List.set_cons_zero, List.set_cons_succ]
        repeat (first
          | (refine plan_read (v := ?_) rfl (fun _ _ _ h => h) rfl hS ?_ ?_; rotate_left 1; (focus (intro w' hS'; obtain ⟨h0, h1, h2, h3⟩ := hS'; go_simp; try rfl)); simp only [Act.put, List.setIfInBounds_toArray, List.set_cons_zero, List.set_cons_succ])
          | (refine plan_skip rfl (fun _ _ _ h => h) rfl hS ?_; simp only [Act.put, List.setIfInBounds_toArray, List.set_cons_zero, List.set_cons_succ]))
        refine plan_do (by rfl) (by rfl) (fun K hK => ?_)
        go_simp
        rw [HX.out]
        refine hK.out _ _ (fun h => by cases h) (fun _ => ?_); clear hK K; try simp only [Act.put, List.setIfInBounds_toArray, List.set_cons_zero, List.set_cons_succ]
        refine plan_nil ?_
        go_wp2_with fail
        go_roundw
        case rel => exact ⟨2 + 1, by omega, rfl, HB.out.far (by show w.heap.size ≠ w.heap.size + 1 + 1; omega) _, HM2.out, hO.far (by show w.heap.size + 1 ≠ w.heap.size + 1 + 1; omega) _, (hbel.setCell (by show w.heap.size ≤ w.heap.size + 1 + 1; omega) _).drew⟩
        case measure => simp [intOf]
      · simp only [Nat.reduceAdd, Nat.reduceMod] at hM2
        obtain ⟨c0, e0⟩ : ∃ x, x = c.getD 0 0 := ⟨_, rfl⟩
        obtain ⟨c1, e1⟩ : ∃ x, x = c.getD 1 0 := ⟨_, rfl⟩
        obtain ⟨c2, e2⟩ : ∃ x, x = c.getD 2 0 := ⟨_, rfl⟩
        obtain ⟨c3, e3⟩ : ∃ x, x = c.getD 3 0 := ⟨_, rfl⟩
        rw [← e0] at h0 l0
        rw [← e1] at h1 l1
        rw [← e2] at h2 l2
        rw [← e3] at h3 l3
        rw [← e0, ← e1, ← e2, ← e3] at hM2
        clear e0 e1 e2 e3
        have HM2 := Lib.hid hM2; clear hM2
        have HX := Lib.hid (mix_bits c3 c0 c1 c2 l3 l0 l1 l2)
        go_wp2_with fail
        refine region_plan [(0, true), (1, true), (2, true), (3, true), (5, true), (6, true), (7, true), (8, true), (9, true), (12, true), (13, true), (14, true), (15, true), (16, true), (18, true), (19, true), (20, true), (21, true), (22, true), (24, true), (25, true), (26, true), (27, true), (28, true), (4, false), (10, false), (11, true), (17, true), (23, true), (29, true), (30, true), (31, false)] [1, 2, 3, 4, 5, 6, 7, 8, 9, 10, 11, 12, 13, 14, 15, 16, 17, 18, 19, 20, 21, 22, 23, 24, 25, 26, 27, 28, 29] (fun w' => w'.cell? ⟨w.heap.size, 0, none⟩ = some (.int .u8 c0) ∧ w'.cell? ⟨w.heap.size, 1, none⟩ = some (.int .u8 c1) ∧ w'.cell? ⟨w.heap.size, 2, none⟩ = some (.int .u8 c2) ∧ w'.cell? ⟨w.heap.size, 3, none⟩ = some (.int .u8 c3)) (by kernel_rfl) (by kernel_rfl) rfl (by kernel_rfl) ⟨h0, h1, h2, h3⟩ (fun hS => ?_)
        repeat (first
          | (refine plan_read (v := ?_) rfl (fun _ _ _ h => h) rfl hS ?_ ?_; rotate_left 1; (focus (intro w' hS'; obtain ⟨h0, h1, h2, h3⟩ := hS'; go_simp; try rfl)); simp only [Act.put, List.setIfInBounds_toArray, List.set_cons_zero, List.set_cons_succ])
          | (refine plan_skip rfl (fun _ _ _ h => h) rfl hS ?_; simp only [Act.put, List.setIfInBounds_toArray, List.set_cons_zero, List.set_cons_succ]))
        refine plan_do (by rfl) (by rfl) (fun K hK => ?_)
        go_simp
        refine (dbl_any c3 l3 _).mono ?_
        rintro e w' ⟨rfl, rfl⟩
        refine hK.out _ _ (fun _ => hS) (fun hS => ?_); clear hK K; replace hS := hS rfl; try simp only [Act.put, List.setIfInBounds_toArray, List.set_cons_zero, List.set_cons_succ]
        refine plan_do (by rfl) (by rfl) (fun K hK => ?_)
        go_simp
        refine (dbl_any c0 l0 _).mono ?_
        rintro e w' ⟨rfl, rfl⟩
        refine hK.out _ _ (fun _ => hS) (fun hS => ?_); clear hK K; replace hS := hS rfl; try simp only [Act.put, List.setIfInBounds_toArray, List.set_cons_zero, List.set_cons_succ]
        repeat (first
          | (refine plan_read (v := ?_) rfl (fun _ _ _ h => h) rfl hS ?_ ?_; rotate_left 1; (focus (intro w' hS'; obtain ⟨h0, h1, h2, h3⟩ := hS'; go_simp; try rfl)); simp only [Act.put, List.setIfInBounds_toArray, List.set_cons_zero, List.set_cons_succ])
          | (refine plan_skip rfl (fun _ _ _ h => h) rfl hS ?_; simp only [Act.put, List.setIfInBounds_toArray, List.set_cons_zero, List.set_cons_succ]))
        refine plan_do (by rfl) (by rfl) (fun K hK => ?_)
        go_simp
        rw [HX.out]
        refine hK.out _ _ (fun h => by cases h) (fun _ => ?_); clear hK K; try simp only [Act.put, List.setIfInBounds_toArray, List.set_cons_zero, List.set_cons_succ]
        refine plan_nil ?_
        go_wp2_with fail
        go_roundw
        case rel => exact ⟨3 + 1, by omega, rfl, HB.out.far (by show w.heap.size ≠ w.heap.size + 1 + 1; omega) _, HM2.out, hO.far (by show w.heap.size + 1 ≠ w.heap.size + 1 + 1; omega) _, (hbel.setCell (by show w.heap.size ≤ w.heap.size + 1 + 1; omega) _).drew⟩
        case measure => simp [intOf]
    · obtain rfl : n = 4 := by omega
      have hi : (Try.prog.info? 51).map (·.size) = some 4 := by kernel_rfl
      have hlen : (nbs (mixg (fun i => c.getD i 0) 4)).toArray.size = 4 := by rw [nbs_size, mixg, tab_length]
      obtain ⟨C, hC⟩ : ∃ C, C = (nbs (mixg (fun i => c.getD i 0) 4)).toArray := ⟨_, rfl⟩
      rw [← hC] at hlen hM
      have HC := Lib.hid hC; clear hC
      go_wp2_with (first
        | (refine wpList_load_row rfl 51 (.tmp 3) rfl (w.heap.size + 1 + 1) rfl 51 _ (0, 0) _ hM Try.underlying51 rfl (by rw [hlen]; exact hi) ?_)
        | (refine wpList_store_row rfl 51 (.tmp 2) (.tmp 40) rfl (w.heap.size + 1) _ rfl rfl 51 _ hO (by rw [hlen]; exact hi) (by rw [hlen]; rfl) (by rw [HC.out]; exact nbs_one _) ?_))
      refine bodyPost_ret (v := .agg C) (results_cell_row rfl _ _ (w.heap.size + 1) 51 C (0, 0) _ rfl ?_ Try.underlying51 rfl ?_) rfl ⟨?_, below_setRow hbel (by omega) _⟩
      · exact hO.setRow C
      · rw [hlen]; exact hi
      · rw [HC.out]
        exact congrArg (fun l => Ending.returned (.agg (nbs l).toArray)) (tab_ext fun i hi => if_pos hi)
end Go.Proofs.Ytimaeghbjfialaa
