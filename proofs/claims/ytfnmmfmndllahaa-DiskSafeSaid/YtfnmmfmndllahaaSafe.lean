/-
  DiskSafe: the walk.
-/
import Derived.Test.YtfnmmfmndllahaaDisk8
import Derived.Test.YtfnmmfmndllahaaSafeM
namespace Go.Proofs.Ytfnmmfmndllahaa
open Go.RowKit

theorem u8_rem (x : UInt8) : ((x.toNat : Int) % 8) = ((x.toNat % 8 : Nat) : Int) := by omega
theorem u8_of (n : Nat) (h : n < 256) : ((UInt8.ofNat n).toNat : Int) = (n : Int) := by simp; omega

/-- One write of the law: a sector full of c + k. -/
theorem safe_write (b : Nat) (F : Nat → Prop) (D : Dk) (ai : Int) (x : UInt8) (c k : Nat) (g : Nat) (w : World) (hai : ai = (x.toNat : Int) % 8) (hD : DiskAt w b F D) (hok : D.Ok) (hs : D.safe.length = 1024) (hc : D.calls = -1) (hq : D.queue.length ≤ 1000)
    (hown : w.ownsRow g 5 1 (.slice (some ⟨g, 0, none⟩) 128 128) 128 (u8s (sec c k))) (hg : ¬ F g) :
    Calls Try.prog 7 #[.pointer (some ⟨b, 0, none⟩), .int .i64 ai, .slice (some ⟨g, 0, none⟩) 128 128] w fun e w' => e = .returned (.int .i64 0) ∧ DiskTo w b F (D.push (x.toNat % 8) (sec c k) 1) w' := by
  subst hai
  rw [u8_rem]
  exact write_good b F D (x.toNat % 8) 1 _ 128 (sec c k) w hD hok (by simp [sec]) (by omega) (by unfold maxLen; omega) (Sees.of_own hown)
    (by intro _ a ha h; injection ha with ha; subst ha; exact hg h) (by omega) (by rw [hs]; omega) (by rw [hc]; omega)

theorem filled_at (n : Nat) (ci : Int) (c : UInt8) (w : World) (hn : n ≤ 140737488355328) (hc : ci = (c.toNat : Int)) :
    Calls Try.prog 8 #[.int .i64 n, .int .u8 ci] w fun e w' => (e = .returned (.slice (some ⟨w.heap.size, 0, none⟩) n n) ∧ w'.ownsRow w.heap.size 5 1 (.slice (some ⟨w.heap.size, 0, none⟩) n n) n (u8s (List.replicate n c))) ∧ Below w.heap.size w w' := by
  subst hc; exact filled_any n c w hn

theorem sees_below' {w w' : World} {size n : Nat} {A : Option Addr} {xs : List Value} (h : Sees w size A n xs) (hb : Below w.heap.size w w') : Sees w'.drew size A n xs := (show Sees w' size A n xs from h.below hb)

theorem sees_sect {w : World} {g n : Nat} {l : List UInt8} (h : Sees w 1 (some ⟨g, 0, none⟩) n (u8s l)) (s : Nat) (hs : (s + 1) * 128 ≤ n) : Sees w 1 (some ⟨g, 128 * s, none⟩) 128 (u8s (sect l s)) := by
  have := h.piece (s * 128) 128 (by omega)
  rw [← u8s_drop, ← u8s_take, Nat.zero_add, Nat.mul_comm s 128] at this
  rwa [show 128 * s = s * 128 from Nat.mul_comm _ _] at this ⊢

theorem sees_below2 {w w' : World} {size n : Nat} {A : Option Addr} {xs : List Value} (h : Sees w size A n xs) (hb : Below w.heap.size w w') : Sees w' size A n xs := h.below hb

/-- What the law's loops keep. -/
def SafeAt (w wr : World) (b : Nat) (D : Dk) : Prop := ∃ F, DiskAt wr b F D ∧ (∀ k, F k → w.heap.size ≤ k ∧ k < wr.heap.size) ∧ Below w.heap.size w wr

set_option maxRecDepth 100000 in
set_option maxHeartbeats 2000000 in
theorem safe_walk (A1 : Option Addr) (n1 c1 : Nat) (z1 : List Int) (A2 : Option Addr) (n2 c2 : Nat) (z2 : List Int) (A3 : Option Addr) (n3 c3 : Nat) (z3 : List Int) (w : World)
    (h1 : IsRow .u8 w A1 n1 c1 z1) (h2 : IsRow .u8 w A2 n2 c2 z2) (h3 : IsRow .i64 w A3 n3 c3 z3) :
    Calls Try.prog 3 #[.slice A1 n1 c1, .slice A2 n2 c2, .slice A3 n3 c3] w fun e w' => e = .returned (.bool true) ∧ Below w.heap.size w w' := by
  obtain ⟨l1, hl1, hS1, hc1, hm1⟩ := h1.bytes
  obtain ⟨l2, hl2, hS2, hc2, hm2⟩ := h2.bytes
  obtain ⟨hS3, hl3, hc3, hm3, -⟩ := h3.sees
  obtain ⟨l3, hl3e⟩ : ∃ l3, l3 = z3.take n3 := ⟨_, rfl⟩
  rw [← hl3e] at hS3 hl3
  clear h1 h2 h3 hl3e
  unfold maxLen at hm1 hm2 hm3
  have HL1 := Lib.hid hl1; clear hl1
  have HL2 := Lib.hid hl2; clear hl2
  have HL3 := Lib.hid hl3; clear hl3
  by_cases hbig : 20 < n1 ∨ 20 < n2 ∨ 30 < n3
  · have HB := Lib.hid hbig; clear hbig
    by_cases hb1 : 20 < n1
    · go_enter Try.func3, Try.ntmps3
      go_wp2_with fail
      refine (awake_any w).mono ?_
      rintro e w1 ⟨rfl, hb1⟩
      go_wp2_with fail
      refine (awake_any w1).mono ?_
      rintro e w2 ⟨rfl, hb2⟩
      go_wp2_with fail
      go_ret
      exact ⟨rfl, hb1.trans (hb2.mono hb1.size)⟩
    · by_cases hb2 : 20 < n2
      · go_enter Try.func3, Try.ntmps3
        go_wp2_with fail
        refine (awake_any w).mono ?_
        rintro e w1 ⟨rfl, hb1⟩
        go_wp2_with fail
        refine (awake_any w1).mono ?_
        rintro e w2 ⟨rfl, hb2⟩
        go_wp2_with fail
        go_ret
        exact ⟨rfl, hb1.trans (hb2.mono hb1.size)⟩
      · have hb3 : 30 < n3 := by have := HB.out; omega
        go_enter Try.func3, Try.ntmps3
        go_wp2_with fail
        refine (awake_any w).mono ?_
        rintro e w1 ⟨rfl, hb1⟩
        go_wp2_with fail
        refine (awake_any w1).mono ?_
        rintro e w2 ⟨rfl, hb2⟩
        go_wp2_with fail
        go_ret
        exact ⟨rfl, hb1.trans (hb2.mono hb1.size)⟩
  · have hb1 : n1 ≤ 20 := by omega
    have hb2 : n2 ≤ 20 := by omega
    have hb3 : n3 ≤ 30 := by omega
    clear hbig
    go_enter Try.func3, Try.ntmps3
    go_wp2_with fail
    refine (awake_any w).mono ?_
    rintro e w1 ⟨rfl, hbw1⟩
    go_wp2_with fail
    refine (new_good 8 w1 (by omega) (by omega)).mono ?_
    rintro e w2 ⟨⟨b, F, rfl, hD, hF⟩, hbw2⟩
    have hbw : Below w.heap.size w w2 := hbw1.trans (hbw2.mono hbw1.size)
    have h0 : SafeAt w w2 b (wroteTo (Dk.new 8) 1 l1 0) := ⟨F, hD, fun k hk => ⟨Nat.le_trans hbw1.size (hF k hk).1, (hF k hk).2⟩, hbw⟩
    clear hD hF
    go_wp2_with fail
    go_loopw [9] (fun i wr => ∃ k : Nat, k ≤ n1 ∧ i = .int .i64 k ∧ SafeAt w wr b (wroteTo (Dk.new 8) 1 l1 k)) (fun i _ => n1 - (intOf i).toNat)
    case atStart => exact ⟨0, Nat.zero_le _, rfl, h0⟩
    case round =>
      obtain ⟨k, hk, rfl, F1, hD1, hF1, hbr⟩ := hrel
      clear h0 hbw
      by_cases hlt : k < n1
      · have hlti : (k : Int) < (n1 : Int) := by omega
        have hk0 : (0 : Int) ≤ (k : Int) := Int.natCast_nonneg _
        obtain ⟨kg, ko, rfl, hcs⟩ := (hS1.below hbr).2 (by omega)
        have hkl : k < l1.length := by rw [HL1.out]; exact hlt
        obtain ⟨x, hx⟩ : ∃ x, x = l1[k] := ⟨_, rfl⟩
        have hcell : wr.cell? ⟨kg, ko + k, none⟩ = some (.int .u8 (x.toNat : Int)) := hcs k _ (by rw [hx]; exact u8s_get l1 k hkl)
        have hxD : l1.getD k 0 = x := by simp [List.getD, hkl, hx]
        have hx2 : (x.toNat : Int) ≤ 255 := by have := x.toNat_lt; omega
        have e1 : IntKind.i64.wrap (x.toNat : Int) = (x.toNat : Int) := IntWalk.i64_in _ (by omega)
        have e2 : Int.tmod (x.toNat : Int) 8 = (x.toNat : Int) % 8 := Int.tmod_eq_emod_of_nonneg (by omega)
        have e3 : IntKind.i64.wrap ((x.toNat : Int) % 8) = (x.toNat : Int) % 8 := IntWalk.i64_in _ (by omega)
        have e4 : IntKind.i64.wrap (1 + (k : Int)) = 1 + (k : Int) := IntWalk.i64_in _ (by omega)
        have e5 : IntKind.u8.wrap (1 + (k : Int)) = 1 + (k : Int) := IntWalk.u8_in _ (by omega)
        have HX := Lib.hid hx; clear hx hcs
        have HXD := Lib.hid hxD; clear hxD
        go_wp2_with fail
        refine region_plan [(0, true), (1, true), (2, true), (3, true), (4, true), (5, true), (6, true), (7, true), (8, true), (9, true), (10, false), (11, false)] [1, 2, 3, 4, 5, 6, 7, 8, 9, 10] (fun w' => w'.cell? ⟨kg, ko + k, none⟩ = some (.int .u8 (x.toNat : Int))) (by kernel_rfl) (by kernel_rfl) rfl (by kernel_rfl) hcell (fun hS => ?_)
        repeat (first
          | (refine plan_read (v := ?_) rfl (fun _ _ _ h => h) rfl hS ?_ ?_; rotate_left 1; (focus (intro w' hS'; go_simp; try rfl)); simp only [Act.put, List.setIfInBounds_toArray, List.set_cons_zero, List.set_cons_succ])
          | (refine plan_skip rfl (fun _ _ _ h => h) rfl hS ?_; simp only [Act.put, List.setIfInBounds_toArray, List.set_cons_zero, List.set_cons_succ]))
        refine plan_do (by rfl) (by rfl) (fun K hK => ?_)
        go_simp
        refine (filled_at 128 (1 + (k : Int)) (UInt8.ofNat (1 + k)) _ (by omega) (by rw [u8_of _ (by omega)]; omega)).mono ?_
        rintro e w3 ⟨⟨rfl, hown⟩, hb3⟩
        refine hK.out _ _ (fun _ => (below_of_drew hb3).cell (p := ⟨kg, ko + k, none⟩) (World.block_lt_of_cell? wr _ hcell) |>.trans hcell) (fun hS => ?_); clear hK K; replace hS := hS rfl; try simp only [Act.put, List.setIfInBounds_toArray, List.set_cons_zero, List.set_cons_succ]
        refine plan_do (by rfl) (by rfl) (fun K hK => ?_)
        go_simp
        refine (safe_write b F1 (wroteTo (Dk.new 8) 1 l1 k) _ x 1 k wr.heap.size _ rfl (hD1.below (below_of_drew hb3)) (wroteTo_ok (Dk.ok_new (by omega) (by omega)) (by decide +kernel) 1 l1 k) (by rw [wroteTo_safe]; decide +kernel) (wroteTo_calls _ _ _ rfl k)
          (by rw [wroteTo_queue, List.length_append, List.length_map, List.length_range]; show 0 + k ≤ 1000; omega) hown (fun h => Nat.lt_irrefl _ (hF1 _ h).2)).mono ?_
        rintro e w4 ⟨rfl, hto⟩
        refine hK.out _ _ (fun h => by cases h) (fun _ => ?_); clear hK K; try simp only [Act.put, List.setIfInBounds_toArray, List.set_cons_zero, List.set_cons_succ]
        refine plan_nil ?_
        go_wp2_with fail
        go_roundw
        case rel =>
          have hb3' := below_of_drew hb3
          obtain ⟨F4, hD4, hF4, -, -, hb4⟩ := hto.next (B := w.heap.size) (fun k hk => (hF1 k hk).1) (Nat.le_trans hbr.size hb3'.size)
          refine ⟨k + 1, by omega, by go_num, F4, ?_, hF4, (hbr.trans (hb3'.mono hbr.size)).trans hb4⟩
          show DiskAt w4 b F4 ((wroteTo (Dk.new 8) 1 l1 k).push ((l1.getD k 0).toNat % 8) (sec 1 k) 1)
          rw [HXD.out]
          exact hD4
        case measure => simp [intOf]; omega
      · obtain rfl : k = n1 := by omega
        have hge : ¬ ((k : Int) < (k : Int)) := by omega
        obtain ⟨D1, hDe⟩ : ∃ D1, D1 = wroteTo (Dk.new 8) 1 l1 k := ⟨_, rfl⟩
        have hD1ok : D1.Ok := by rw [hDe]; exact wroteTo_ok (Dk.ok_new (by omega) (by omega)) (by decide +kernel) 1 l1 k
        have hD1s : D1.safe.length = 1024 := by rw [hDe, wroteTo_safe]; decide +kernel
        have hD1c : D1.calls = -1 := by rw [hDe]; exact wroteTo_calls _ _ _ rfl k
        have hD1q : D1.queue.length ≤ 1000 := by rw [hDe, wroteTo_queue, List.length_append, List.length_map, List.length_range]; show 0 + k ≤ 1000; omega
        rw [← hDe] at hD1
        clear hDe
        have hfl := flush_good b F1 D1 wr hD1 hD1ok (by omega) (by rw [hD1c]; omega)
        obtain ⟨D2, hD2e⟩ : ∃ D2, D2 = D1.flushed := ⟨_, rfl⟩
        have hD2ok : D2.Ok := by rw [hD2e]; exact hD1ok.flushed
        have hD2s : D2.safe.length = 1024 := by rw [hD2e, ← hD1s]; exact hD1ok.image
        have hD2c : D2.calls = -1 := by rw [hD2e]; exact nextCalls_neg hD1c
        have hD2q : D2.queue = [] := by rw [hD2e]; rfl
        rw [← hD2e] at hfl
        have HFL := Lib.hid hfl; clear hfl
        have HD1c := Lib.hid hD1c; clear hD1c
        have HD1s := Lib.hid hD1s; clear hD1s
        have HD2c := Lib.hid hD2c; clear hD2c
        have HD2s := Lib.hid hD2s; clear hD2s
        have HD2q := Lib.hid hD2q; clear hD2q
        clear hD2e
        go_wp2_with fail
        refine HFL.out.mono ?_
        rintro e w5 ⟨rfl, hto5⟩
        obtain ⟨F5, hD5, hF5, -, -, hb5⟩ := hto5.next (B := w.heap.size) (fun k hk => (hF1 k hk).1) hbr.size
        have hbw5 : Below w.heap.size w w5 := hbr.trans hb5
        clear hto5 hD1 hF1 hb5 HFL
        go_wp2_with fail
        refine (image_any b F5 D2 w5 hD5 hD2ok (by rw [HD2q.out]; simp)).mono ?_
        rintro e w6 ⟨⟨v, rfl, hown6⟩, hb6⟩
        rw [HD2s.out] at hown6
        obtain ⟨x, xc, xcur, rfl, hx5, hxblk, hxc, -⟩ := own_open hown6 (by omega)
        have Hxblk := Lib.hid hxblk; clear hxblk
        have h6 : ∃ F, DiskAt w6 b F (wroteTo D2 100 l2 0) ∧ (∀ k, F k → w.heap.size ≤ k ∧ k < w6.heap.size) ∧ Below w.heap.size w w6 ∧ ¬ F x ∧ w6.ownsRow w.heap.size 5 1 (.slice (some ⟨x, 0, none⟩) 1024 xc) 1024 (u8s D2.image) :=
          ⟨F5, hD5.below hb6, fun k hk => ⟨(hF5 k hk).1, Nat.lt_of_lt_of_le (hF5 k hk).2 hb6.size⟩, hbw5.trans (hb6.mono hbw5.size), fun h => by have := (hF5 x h).2; omega, own_base hown6 hbw5.size⟩
        clear hown6 hD5 hF5 hbw5
        go_wp2_with fail
        go_loopw [11] (fun i wr => ∃ k : Nat, k ≤ n2 ∧ i = .int .i64 k ∧ ∃ F, DiskAt wr b F (wroteTo D2 100 l2 k) ∧ (∀ k, F k → w.heap.size ≤ k ∧ k < wr.heap.size) ∧ Below w.heap.size w wr ∧ ¬ F x ∧ wr.ownsRow w.heap.size 5 1 (.slice (some ⟨x, 0, none⟩) 1024 xc) 1024 (u8s D2.image)) (fun i _ => n2 - (intOf i).toNat)
        case atStart => exact ⟨0, Nat.zero_le _, rfl, h6⟩
        case round =>
          obtain ⟨j, hj, rfl, F7, hD7, hF7, hbr7, hx7, hown7⟩ := hrel
          clear h6
          by_cases hlt : j < n2
          · have hlti : (j : Int) < (n2 : Int) := by omega
            have hk0 : (0 : Int) ≤ (j : Int) := Int.natCast_nonneg _
            obtain ⟨kg, ko, rfl, hcs⟩ := (hS2.below hbr7).2 (by omega)
            have hkl : j < l2.length := by rw [HL2.out]; exact hlt
            obtain ⟨x2, hx⟩ : ∃ x, x = l2[j] := ⟨_, rfl⟩
            have hcell : wr.cell? ⟨kg, ko + j, none⟩ = some (.int .u8 (x2.toNat : Int)) := hcs j _ (by rw [hx]; exact u8s_get l2 j hkl)
            have hxD : l2.getD j 0 = x2 := by simp [List.getD, hkl, hx]
            have hx2 : (x2.toNat : Int) ≤ 255 := by have := x2.toNat_lt; omega
            have e1 : IntKind.i64.wrap (x2.toNat : Int) = (x2.toNat : Int) := IntWalk.i64_in _ (by omega)
            have e2 : Int.tmod (x2.toNat : Int) 8 = (x2.toNat : Int) % 8 := Int.tmod_eq_emod_of_nonneg (by omega)
            have e3 : IntKind.i64.wrap ((x2.toNat : Int) % 8) = (x2.toNat : Int) % 8 := IntWalk.i64_in _ (by omega)
            have e4 : IntKind.i64.wrap (100 + (j : Int)) = 100 + (j : Int) := IntWalk.i64_in _ (by omega)
            have e5 : IntKind.u8.wrap (100 + (j : Int)) = 100 + (j : Int) := IntWalk.u8_in _ (by omega)
            have HX := Lib.hid hx; clear hx hcs
            have HXD := Lib.hid hxD; clear hxD
            go_wp2_with fail
            refine region_plan [(0, true), (1, true), (2, true), (3, true), (4, true), (5, true), (6, true), (7, true), (8, true), (9, true), (10, false), (11, false)] [1, 2, 3, 4, 5, 6, 7, 8, 9, 10] (fun w' => w'.cell? ⟨kg, ko + j, none⟩ = some (.int .u8 (x2.toNat : Int))) (by kernel_rfl) (by kernel_rfl) rfl (by kernel_rfl) hcell (fun hS => ?_)
            repeat (first
              | (refine plan_read (v := ?_) rfl (fun _ _ _ h => h) rfl hS ?_ ?_; rotate_left 1; (focus (intro w' hS'; go_simp; try rfl)); simp only [Act.put, List.setIfInBounds_toArray, List.set_cons_zero, List.set_cons_succ])
              | (refine plan_skip rfl (fun _ _ _ h => h) rfl hS ?_; simp only [Act.put, List.setIfInBounds_toArray, List.set_cons_zero, List.set_cons_succ]))
            refine plan_do (by rfl) (by rfl) (fun K hK => ?_)
            go_simp
            refine (filled_at 128 (100 + (j : Int)) (UInt8.ofNat (100 + j)) _ (by omega) (by rw [u8_of _ (by omega)]; omega)).mono ?_
            rintro e w8 ⟨⟨rfl, hown⟩, hb8⟩
            refine hK.out _ _ (fun _ => (below_of_drew hb8).cell (p := ⟨kg, ko + j, none⟩) (World.block_lt_of_cell? wr _ hcell) |>.trans hcell) (fun hS => ?_); clear hK K; replace hS := hS rfl; try simp only [Act.put, List.setIfInBounds_toArray, List.set_cons_zero, List.set_cons_succ]
            refine plan_do (by rfl) (by rfl) (fun K hK => ?_)
            go_simp
            refine (safe_write b F7 (wroteTo D2 100 l2 j) _ x2 100 j wr.heap.size _ rfl (hD7.below (below_of_drew hb8)) (wroteTo_ok hD2ok HD2s.out 100 l2 j) (by rw [wroteTo_safe]; exact HD2s.out) (wroteTo_calls _ _ _ HD2c.out j)
              (by rw [wroteTo_queue, HD2q.out, List.length_append, List.length_map, List.length_range]; show 0 + j ≤ 1000; omega) hown (fun h => Nat.lt_irrefl _ (hF7 _ h).2)).mono ?_
            rintro e w9 ⟨rfl, hto⟩
            refine hK.out _ _ (fun h => by cases h) (fun _ => ?_); clear hK K; try simp only [Act.put, List.setIfInBounds_toArray, List.set_cons_zero, List.set_cons_succ]
            refine plan_nil ?_
            go_wp2_with fail
            go_roundw
            case rel =>
              have hb8' := below_of_drew hb8
              obtain ⟨F9, hD9, hF9, hsub9, hfr9, hb9⟩ := hto.next (B := w.heap.size) (fun k hk => (hF7 k hk).1) (Nat.le_trans hbr7.size hb8'.size)
              have hxl : x < wr.heap.size := (hown7.lt x rfl).2
              refine ⟨j + 1, by omega, by go_num, F9, ?_, hF9, (hbr7.trans (hb8'.mono hbr7.size)).trans hb9, fun h => hx7 (hsub9 x (Nat.lt_of_lt_of_le hxl hb8'.size) h), own_fr (own_below hown7 hb8') hfr9 (fun g hg => by simp [Value.ownBlock] at hg; subst hg; exact hx7)⟩
              show DiskAt w9 b F9 ((wroteTo D2 100 l2 j).push ((l2.getD j 0).toNat % 8) (sec 100 j) 1)
              rw [HXD.out]
              exact hD9
            case measure => simp [intOf]; omega
          · obtain rfl : j = n2 := by omega
            have hge : ¬ ((j : Int) < (j : Int)) := by omega
            obtain ⟨D3, hDe⟩ : ∃ D3, D3 = wroteTo D2 100 l2 j := ⟨_, rfl⟩
            have hD3ok : D3.Ok := by rw [hDe]; exact wroteTo_ok hD2ok HD2s.out 100 l2 j
            have hD3s : D3.safe.length = 1024 := by rw [hDe, wroteTo_safe]; exact HD2s.out
            have hD3q : D3.queue.length ≤ 1000 := by rw [hDe, wroteTo_queue, HD2q.out, List.length_append, List.length_map, List.length_range]; show 0 + j ≤ 1000; omega
            rw [← hDe] at hD7
            have HDE := Lib.hid hDe; clear hDe
            have HD3s := Lib.hid hD3s; clear hD3s
            go_wp2_with fail
            refine (crash_any b F7 D3 A3 n3 c3 l3 wr hD7 hD3ok HL3.out (by unfold maxLen; omega) (by omega) (hS3.below hbr7) (fun h0 a ha hF => by
              have := hS3.lt h0 (by omega) a ha
              have := (hF7 _ hF).1
              omega)).mono ?_
            rintro e w10 ⟨rfl, hto⟩
            obtain ⟨F10, hD10, hF10, hsub10, hfr10, hb10⟩ := hto.next (B := w.heap.size) (fun k hk => (hF7 k hk).1) hbr7.size
            have hxl : x < wr.heap.size := (hown7.lt x rfl).2
            have hown10 : w10.ownsRow w.heap.size 5 1 (.slice (some ⟨x, 0, none⟩) 1024 xc) 1024 (u8s D2.image) := own_fr hown7 hfr10 (fun g hg => by simp [Value.ownBlock] at hg; subst hg; exact hx7)
            have hbw10 : Below w.heap.size w w10 := hbr7.trans hb10
            obtain ⟨D4, hD4e⟩ : ∃ D4, D4 = D3.crashed l3 := ⟨_, rfl⟩
            have hD4ok : D4.Ok := by rw [hD4e]; exact hD3ok.crashed l3
            have hD4s : D4.safe.length = 1024 := by rw [hD4e, ← HD3s.out]; exact crash_length D3 hD3ok l3
            have hD4q : D4.queue = [] := by rw [hD4e]; rfl
            rw [← hD4e] at hD10
            have HD4e := Lib.hid hD4e; clear hD4e
            have HD4s := Lib.hid hD4s; clear hD4s
            have HD4q := Lib.hid hD4q; clear hD4q
            clear hto hsub10 hfr10 hb10 hown7 hbr7 hD7
            go_wp2_with fail
            refine (image_any b F10 D4 w10 hD10 hD4ok (by rw [HD4q.out]; simp)).mono ?_
            rintro e w11 ⟨⟨v, rfl, hown11⟩, hb11⟩
            rw [HD4s.out] at hown11
            obtain ⟨y, yc, ycur, rfl, hy, hyblk, hyc, -⟩ := own_open hown11 (by omega)
            have Hyblk := Lib.hid hyblk; clear hyblk
            have hSx : Sees w11 1 (some ⟨x, 0, none⟩) 1024 (u8s D2.image) := (Sees.of_own hown10).below hb11
            have hSy : Sees w11 1 (some ⟨y, 0, none⟩) 1024 (u8s D4.image) := Sees.of_own hown11
            have hbw11 : Below w.heap.size w w11 := hbw10.trans (hb11.mono hbw10.size)
            clear hown10 hown11 hD10
            go_wp2_with fail
            go_loopw [13] (fun i wr => ∃ s : Nat, s ≤ 8 ∧ i = .int .i64 s ∧ Below w11.heap.size w11 wr) (fun i _ => 8 - (intOf i).toNat)
            case atStart => exact ⟨0, by omega, rfl, Below.refl _ _⟩
            case round =>
              obtain ⟨s, hs, rfl, hbs⟩ := hrel
              by_cases hs8 : s < 8
              · have hlti8 : (s : Int) < 8 := by omega
                have f1 : IntKind.i64.wrap (128 * (s : Int)) = 128 * (s : Int) := IntWalk.i64_in _ (by omega)
                have f2 : IntKind.i64.wrap (128 * (s : Int) + 128) = 128 * (s : Int) + 128 := IntWalk.i64_in _ (by omega)
                have f3 : (128 * (s : Int)).toNat = 128 * s := by omega
                have f4 : (128 * (s : Int) + 128).toNat = 128 * s + 128 := by omega
                have f5 : 0 ≤ 128 * (s : Int) := by omega
                have f6 : 128 * (s : Int) ≤ 128 * (s : Int) + 128 := by omega
                have f7 : 0 ≤ 128 * (s : Int) + 128 := by omega
                have f8 : 128 * (s : Int) + 128 ≤ (xc : Int) := by omega
                have f9 : 128 * (s : Int) + 128 ≤ (yc : Int) := by omega
                have f10 : ¬ xc = 128 * s := by omega
                have f11 : ¬ yc = 128 * s := by omega
                have hst := str_toList
                go_wp2_with fail
                refine region_plan [(0, true), (1, true), (2, true), (3, true), (4, true), (5, true), (6, true), (7, true), (8, true), (9, true), (10, true), (11, true), (12, true), (13, true), (14, true), (15, true), (16, true), (17, true)] [1, 2, 3, 4, 5, 8, 9, 10, 11, 12, 13, 14, 15] (fun w' => Sees w' 1 (some ⟨x, 0, none⟩) 1024 (u8s D2.image) ∧ Sees w' 1 (some ⟨y, 0, none⟩) 1024 (u8s D4.image)) (by kernel_rfl) (by kernel_rfl) rfl (by kernel_rfl) ⟨sees_below' hSx hbs, sees_below' hSy hbs⟩ (fun hS => ?_)
                repeat (first
                  | (refine plan_read (v := ?_) rfl (fun _ _ _ h => h) rfl hS ?_ ?_; rotate_left 1; (focus (intro w' hS'; have hcx := run_to_string Try.underlying22 Try.underlying5 Try.underlying9 (xc - 128 * s) (sees_sect hS'.1 s (by omega)); have hcy := run_to_string Try.underlying22 Try.underlying5 Try.underlying9 (yc - 128 * s) (sees_sect hS'.2 s (by omega)); go_simp; try rfl)); simp only [Act.put, List.setIfInBounds_toArray, List.set_cons_zero, List.set_cons_succ])
                  | (refine plan_skip rfl (fun _ _ _ h => h) rfl hS ?_; simp only [Act.put, List.setIfInBounds_toArray, List.set_cons_zero, List.set_cons_succ]))
                refine plan_nil ?_
                clear hS
                go_wp2_with fail
                go_loopw [14, 15] (fun t i wr => ∃ (i' : Nat) (o : Bool), i' ≤ j ∧ i = .int .i64 i' ∧ t = .bool o ∧ o = ((sect D4.image s == sect D2.image s) || safeAny D4.image l2 s i') ∧ Below w11.heap.size w11 wr) (fun _ i _ => j - (intOf i).toNat)
                case atStart => exact ⟨0, _, Nat.zero_le _, rfl, rfl, by simp [safeAny], hbs.drew⟩
                case round =>
                  obtain ⟨i, o, hi, rfl, rfl, ho, hbi⟩ := hrel
                  have HO := Lib.hid ho; clear ho
                  clear hst f1 f2 f3 f4
                  by_cases hij : i < j
                  · have hix : (i : Int) < (j : Int) := by omega
                    have hi0 : (0 : Int) ≤ (i : Int) := Int.natCast_nonneg _
                    obtain ⟨kg, ko, rfl, hcs⟩ := (sees_below2 (hS2.below hbw11) hbi).2 (by omega)
                    have hkl : i < l2.length := by rw [HL2.out]; exact hij
                    obtain ⟨x2, hx⟩ : ∃ x, x = l2[i] := ⟨_, rfl⟩
                    have hcell : wr.cell? ⟨kg, ko + i, none⟩ = some (.int .u8 (x2.toNat : Int)) := hcs i _ (by rw [hx]; exact u8s_get l2 i hkl)
                    have hxD : l2.getD i 0 = x2 := by simp [List.getD, hkl, hx]
                    have hx2 : (x2.toNat : Int) ≤ 255 := by have := x2.toNat_lt; omega
                    have hsucc := safeAny_succ D4.image l2 s i
                    rw [hxD] at hsucc
                    have HX := Lib.hid hx; clear hx hcs hxD
                    have HSUCC := Lib.hid hsucc; clear hsucc
                    cases o with
                    | true =>
                      go_wp2_with fail
                      refine region_plan [(0, true), (1, true), (2, true), (3, true), (4, true), (5, true), (6, true), (7, true), (8, true), (9, true), (10, true), (11, true), (12, true), (13, true), (14, true), (15, true), (16, true), (17, true), (18, true), (19, true), (20, true), (21, true), (22, false), (23, false), (24, true), (25, true), (26, true), (27, true)] [3, 8, 12, 13, 14, 15, 16, 19, 20, 21, 22, 23] (fun w' => True) (by kernel_rfl) (by kernel_rfl) rfl (by kernel_rfl) trivial (fun hS => ?_)
                      repeat (first
                        | (refine plan_read (v := ?_) rfl (fun _ _ _ h => h) rfl hS ?_ ?_; rotate_left 1; (focus (intro w' hS'; go_simp; try rfl)); simp only [Act.put, List.setIfInBounds_toArray, List.set_cons_zero, List.set_cons_succ])
                        | (refine plan_skip rfl (fun _ _ _ h => h) rfl hS ?_; simp only [Act.put, List.setIfInBounds_toArray, List.set_cons_zero, List.set_cons_succ]))
                      refine plan_pass (by rfl) (by rfl) (fun _ => trivial) ?_; try simp only [Act.put, List.setIfInBounds_toArray, List.set_cons_zero, List.set_cons_succ]
                      refine plan_pass (by rfl) (by rfl) (fun _ => trivial) ?_; try simp only [Act.put, List.setIfInBounds_toArray, List.set_cons_zero, List.set_cons_succ]
                      repeat (first
                        | (refine plan_read (v := ?_) rfl (fun _ _ _ h => h) rfl hS ?_ ?_; rotate_left 1; (focus (intro w' hS'; go_simp; try rfl)); simp only [Act.put, List.setIfInBounds_toArray, List.set_cons_zero, List.set_cons_succ])
                        | (refine plan_skip rfl (fun _ _ _ h => h) rfl hS ?_; simp only [Act.put, List.setIfInBounds_toArray, List.set_cons_zero, List.set_cons_succ]))
                      refine plan_nil ?_
                      go_wp2_with fail
                      go_roundw
                      case rel => exact ⟨i + 1, true, by omega, by go_num, rfl, by rw [HSUCC.out, ← Bool.or_assoc, ← HO.out]; rfl, hbi.drew⟩
                      case measure => simp [intOf]; omega
                    | false =>
                      have e1 : IntKind.i64.wrap (x2.toNat : Int) = (x2.toNat : Int) := IntWalk.i64_in _ (by omega)
                      have e2 : Int.tmod (x2.toNat : Int) 8 = (x2.toNat : Int) % 8 := Int.tmod_eq_emod_of_nonneg (by omega)
                      have e3 : IntKind.i64.wrap ((x2.toNat : Int) % 8) = (x2.toNat : Int) % 8 := IntWalk.i64_in _ (by omega)
                      by_cases hxs : x2.toNat % 8 = s
                      · have e4 : ((x2.toNat : Int) % 8 == (s : Int)) = true := by simp; omega
                        have hst := str_toList
                        have f1 : IntKind.i64.wrap (128 * (s : Int)) = 128 * (s : Int) := IntWalk.i64_in _ (by omega)
                        have f2 : IntKind.i64.wrap (128 * (s : Int) + 128) = 128 * (s : Int) + 128 := IntWalk.i64_in _ (by omega)
                        have f3 : (128 * (s : Int)).toNat = 128 * s := by omega
                        have f4 : (128 * (s : Int) + 128).toNat = 128 * s + 128 := by omega
                        have f12 : IntKind.i64.wrap (100 + (i : Int)) = 100 + (i : Int) := IntWalk.i64_in _ (by omega)
                        have f13 : IntKind.u8.wrap (100 + (i : Int)) = 100 + (i : Int) := IntWalk.u8_in _ (by omega)
                        have hSyi : Sees wr 1 (some ⟨y, 0, none⟩) 1024 (u8s D4.image) := sees_below2 hSy hbi
                        go_wp2_with fail
                        refine region_plan [(0, true), (1, true), (2, true), (3, true), (4, true), (5, true), (6, true), (7, true), (8, true), (9, true), (10, true), (11, true), (12, true), (13, true), (14, true), (15, true), (16, true), (17, true), (18, true), (19, true), (20, true), (21, true), (22, false), (23, false), (24, true), (25, true), (26, true), (27, true)] [3, 8, 12, 13, 14, 15, 16, 19, 20, 21, 22, 23] (fun w' => w'.cell? ⟨kg, ko + i, none⟩ = some (.int .u8 (x2.toNat : Int)) ∧ Sees w' 1 (some ⟨y, 0, none⟩) 1024 (u8s D4.image)) (by kernel_rfl) (by kernel_rfl) rfl (by kernel_rfl) ⟨hcell, hSyi⟩ (fun hS => ?_)
                        repeat (first
                          | (refine plan_read (v := ?_) rfl (fun _ _ _ h => h) rfl hS ?_ ?_; rotate_left 1; (focus (intro w' hS'; obtain ⟨hS1', hS2'⟩ := hS'; have hcy := run_to_string Try.underlying22 Try.underlying5 Try.underlying9 (yc - 128 * s) (sees_sect hS2' s (by omega)); go_simp; try rfl)); simp only [Act.put, List.setIfInBounds_toArray, List.set_cons_zero, List.set_cons_succ])
                          | (refine plan_skip rfl (fun _ _ _ h => h) rfl hS ?_; simp only [Act.put, List.setIfInBounds_toArray, List.set_cons_zero, List.set_cons_succ]))
                        refine plan_do (by rfl) (by rfl) (fun K hK => ?_)
                        go_simp
                        refine (filled_at 128 (100 + (i : Int)) (UInt8.ofNat (100 + i)) _ (by omega) (by rw [u8_of _ (by omega)]; omega)).mono ?_
                        rintro e w12 ⟨⟨rfl, hown12⟩, hb12⟩
                        have hS12 : Sees w12 1 (some ⟨wr.heap.size, 0, none⟩) 128 (u8s (sec 100 i)) := Sees.of_own hown12
                        have HOWN := Lib.hid hown12; clear hown12
                        refine hK.out _ _ (fun _ => ⟨((below_of_drew hb12).cell (p := ⟨kg, ko + i, none⟩) (World.block_lt_of_cell? wr _ hcell)).trans hcell, sees_below2 hSyi (below_of_drew hb12)⟩) (fun hS => ?_); clear hK K; replace hS := hS rfl; try simp only [Act.put, List.setIfInBounds_toArray, List.set_cons_zero, List.set_cons_succ]
                        refine plan_do (by rfl) (by rfl) (fun K hK => ?_)
                        have hcz := run_to_string Try.underlying22 Try.underlying5 Try.underlying9 128 hS12
                        go_simp
                        refine hK.out _ _ (fun _ => hS) (fun hS => ?_); clear hK K; replace hS := hS rfl; try simp only [Act.put, List.setIfInBounds_toArray, List.set_cons_zero, List.set_cons_succ]
                        repeat (first
                          | (refine plan_read (v := ?_) rfl (fun _ _ _ h => h) rfl hS ?_ ?_; rotate_left 1; (focus (intro w' hS'; go_simp; try rfl)); simp only [Act.put, List.setIfInBounds_toArray, List.set_cons_zero, List.set_cons_succ])
                          | (refine plan_skip rfl (fun _ _ _ h => h) rfl hS ?_; simp only [Act.put, List.setIfInBounds_toArray, List.set_cons_zero, List.set_cons_succ]))
                        refine plan_nil ?_
                        go_wp2_with fail
                        go_roundw
                        case rel => exact ⟨i + 1, (sect D4.image s == sec 100 i), by omega, by go_num, by simp, by rw [HSUCC.out, ← Bool.or_assoc, ← HO.out, Bool.false_or, decide_eq_true hxs, Bool.true_and, beq_dec], hbi.trans ((below_of_drew hb12).mono hbi.size)⟩
                        case measure => simp [intOf]; omega
                      · have e4 : ((x2.toNat : Int) % 8 == (s : Int)) = false := by simp; omega
                        go_wp2_with fail
                        refine region_plan [(0, true), (1, true), (2, true), (3, true), (4, true), (5, true), (6, true), (7, true), (8, true), (9, true), (10, true), (11, true), (12, true), (13, true), (14, true), (15, true), (16, true), (17, true), (18, true), (19, true), (20, true), (21, true), (22, false), (23, false), (24, true), (25, true), (26, true), (27, true)] [3, 8, 12, 13, 14, 15, 16, 19, 20, 21, 22, 23] (fun w' => w'.cell? ⟨kg, ko + i, none⟩ = some (.int .u8 (x2.toNat : Int))) (by kernel_rfl) (by kernel_rfl) rfl (by kernel_rfl) hcell (fun hS => ?_)
                        repeat (first
                          | (refine plan_read (v := ?_) rfl (fun _ _ _ h => h) rfl hS ?_ ?_; rotate_left 1; (focus (intro w' hS'; go_simp; try rfl)); simp only [Act.put, List.setIfInBounds_toArray, List.set_cons_zero, List.set_cons_succ])
                          | (refine plan_skip rfl (fun _ _ _ h => h) rfl hS ?_; simp only [Act.put, List.setIfInBounds_toArray, List.set_cons_zero, List.set_cons_succ]))
                        refine plan_pass (by rfl) (by rfl) (fun _ => hS) ?_; try simp only [Act.put, List.setIfInBounds_toArray, List.set_cons_zero, List.set_cons_succ]
                        refine plan_pass (by rfl) (by rfl) (fun _ => hS) ?_; try simp only [Act.put, List.setIfInBounds_toArray, List.set_cons_zero, List.set_cons_succ]
                        repeat (first
                          | (refine plan_read (v := ?_) rfl (fun _ _ _ h => h) rfl hS ?_ ?_; rotate_left 1; (focus (intro w' hS'; go_simp; try rfl)); simp only [Act.put, List.setIfInBounds_toArray, List.set_cons_zero, List.set_cons_succ])
                          | (refine plan_skip rfl (fun _ _ _ h => h) rfl hS ?_; simp only [Act.put, List.setIfInBounds_toArray, List.set_cons_zero, List.set_cons_succ]))
                        refine plan_nil ?_
                        go_wp2_with fail
                        go_roundw
                        case rel => exact ⟨i + 1, false, by omega, by go_num, rfl, by rw [HSUCC.out, ← Bool.or_assoc, ← HO.out, Bool.false_or, decide_eq_false hxs, Bool.false_and], hbi.drew⟩
                        case measure => simp [intOf]; omega
                  · obtain rfl : i = j := by omega
                    have hge : ¬ ((i : Int) < (i : Int)) := by omega
                    have hlaw := safe_law D2 hD2ok HD2q.out HD2s.out l2 l3 s hs8
                    rw [← beq_dec, HL2.out, ← HDE.out, ← HD4e.out] at hlaw
                    obtain rfl : o = true := by rw [HO.out]; exact hlaw
                    clear hlaw
                    go_wp2_with fail
                    go_roundw
                    case rel => exact ⟨s + 1, by omega, by go_num, hbi⟩
                    case measure => simp [intOf]; omega
              · obtain rfl : s = 8 := by omega
                go_wp2_with fail
                go_ret
                exact ⟨rfl, hbw11.trans (hbs.mono hbw11.size)⟩
end Go.Proofs.Ytfnmmfmndllahaa
