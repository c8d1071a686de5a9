/-
  The document's text of a chain.
-/
import Derived.Test.YtnfcnjnecankbaaDoorFt15
namespace Go.Proofs.YtnfcnjnecankbaaDoor
set_option maxRecDepth 4000
open Go.RowKit

theorem lnks_le {ls : List Lk} (h : ∀ y ∈ ls, LkOk y ∧ y.op.size ≤ 50) : (ls.flatMap lnkT).length ≤ ls.length * 100 := by
  induction ls with
  | nil => simp
  | cons y ls ih =>
    have h1 := lnkT_le y (h y (by simp)).1 (h y (by simp)).2
    have h2 := ih (fun z hz => h z (List.mem_cons_of_mem _ hz))
    rw [List.flatMap_cons, List.length_append, List.length_cons]
    omega

set_option maxHeartbeats 2000000 in
theorem rtext_any (ls : List Lk) (A : Option Addr) (c : Nat) (e : Int) (w : World) (hS : Sees w 2 A ls.length (lcs ls)) (hok : ∀ y ∈ ls, LkOk y ∧ y.op.size ≤ 50) (hl : ls.length ≤ 20) (he : -9223372036854775808 ≤ e ∧ e ≤ 9223372036854775807) :
    Calls Tryd.prog 12 #[.slice A ls.length c, .int .i64 e] w fun r w' => r = .returned (.string (str (chT ls e))) ∧ Below w.heap.size w w' := by
  have H := Lib.hid (And.intro hS hok)
  have HE := Lib.hid he
  have HNE := Lib.hid (fun w => rnum_any e he.1 he.2 w)
  obtain ⟨E, hE⟩ : ∃ E, str (Lib.itoa e) = E := ⟨_, rfl⟩
  have hEs : E.size ≤ 21 := by rw [← hE, size_str]; exact itoa_le e he
  rw [hE] at HNE
  have HEE := Lib.hid hE
  clear hS hok he hE
  go_enter Tryd.func12, Tryd.ntmps12
  go_wp2_with fail
  go_loopw [5, 6] (fun s i wr => ∃ j : Nat, ∃ P : List UInt8, s = .string (str P) ∧ i = .int .i64 j ∧ j ≤ ls.length ∧ Hid (P = (ls.take j).flatMap lnkT ∧ Below w.heap.size w wr)) (fun _ i _ => ls.length - (intOf i).toNat)
  case atStart => exact ⟨0, [], rfl, rfl, Nat.zero_le _, Lib.hid ⟨rfl, Below.refl _ _⟩⟩
  case round =>
    obtain ⟨j, P, rfl, rfl, hj, hr⟩ := hrel
    have hPl : P.length ≤ 2000 := by
      have h1 := lnks_le (ls := ls.take j) (fun y hy => H.out.2 y (List.mem_of_mem_take hy))
      rw [hr.out.1]
      rw [List.length_take] at h1
      omega
    by_cases hlt : j < ls.length
    · have hyj : ls[j]? = some (ls[j]'hlt) := List.getElem?_eq_getElem hlt
      generalize ls[j] = y at hyj
      obtain ⟨g, o, rfl, c0, c1⟩ := in_link (H.out.1.below hr.out.2) hyj
      have hy := H.out.2 y (List.mem_of_getElem? hyj)
      have hnx : P ++ lnkT y = (ls.take (j + 1)).flatMap lnkT := by
        rw [List.take_add_one, hyj, List.flatMap_append, ← hr.out.1]
        simp
      have hle := itoa_le y.at_ hy.1.1
      have h50 := hy.2
      have HI := Lib.hid (fun w => rnum_any y.at_ hy.1.1.1 hy.1.1.2 w)
      have HC0 := Lib.hid (fun w' (h : Below wr.heap.size wr w') => And.intro ((World.cell?_of_block (h.block g (World.block_lt_of_cell? _ _ c0))).trans c0) ((World.cell?_of_block (h.block g (World.block_lt_of_cell? _ _ c0))).trans c1))
      obtain ⟨S0, hS0⟩ : ∃ S0, str P = S0 := ⟨_, rfl⟩
      obtain ⟨X, hX⟩ : ∃ X, str (Lib.itoa y.at_) = X := ⟨_, rfl⟩
      obtain ⟨U0, hU0⟩ : ∃ U, S0 ++ y.op = U := ⟨_, rfl⟩
      obtain ⟨U1, hU1⟩ : ∃ U, U0 ++ (ByteArray.mk #[32]) = U := ⟨_, rfl⟩
      obtain ⟨U2, hU2⟩ : ∃ U, U1 ++ X = U := ⟨_, rfl⟩
      obtain ⟨U3, hU3⟩ : ∃ U, U2 ++ (ByteArray.mk #[58, 32]) = U := ⟨_, rfl⟩
      have hSs : S0.size ≤ 2000 := by rw [← hS0, size_str]; exact hPl
      have h0s : U0.size = S0.size + y.op.size := by rw [← hU0, ByteArray.size_append]
      have h1s : U1.size = U0.size + 1 := by rw [← hU1, ByteArray.size_append]; rfl
      have hXs : X.size ≤ 21 := by rw [← hX, size_str]; exact hle
      have h2s : U2.size = U1.size + X.size := by rw [← hU2, ByteArray.size_append]
      have hfin : U3 = str (P ++ lnkT y) := by
        rw [← hU3, ← hU2, ← hU1, ← hU0, ← hX, ← hS0]
        unfold lnkT
        rw [← str_cat, ← str_cat, ← str_cat, ← str_cat, str_of]
        apply ByteArray.ext
        simp [str, Array.append_assoc]
      have n0 : ¬ 9223372036854775807 < S0.size + y.op.size := by omega
      have n1 : ¬ 9223372036854775807 < U0.size + 1 := by omega
      have n2 : ¬ 9223372036854775807 < U1.size + X.size := by omega
      have n3 : ¬ 9223372036854775807 < U2.size + 2 := by omega
      have HF := Lib.hid hfin
      have HNX := Lib.hid (And.intro hnx hr.out.2)
      have hlti : (j : Int) < (ls.length : Int) := by omega
      rw [hX] at HI
      obtain ⟨op, at_⟩ := y
      simp only at *
      clear hX hfin hle hy hyj hr hnx h50 h0s h1s h2s hPl
      go_wp2_with fail
      refine region_fast [(0, true), (1, true), (2, true), (3, true), (4, true), (5, true), (6, true), (7, true), (8, true), (9, true), (10, true), (11, true), (12, true), (13, false), (14, true), (15, true), (16, true)] [1, 2, 3, 4, 5, 8, 9, 10, 11, 12, 13] 16190 [(8192, 32, 0, 0), (16384, 1, 0, 0), (32768, 64, 0, 0), (65536, 49152, 6, 6), (131072, 65536, 8, 14), (262144, 131072, 16, 30), (524288, 270336, 33, 63), (1048576, 524288, 64, 127), (2097152, 1, 0, 0), (4194304, 64, 0, 0), (8388608, 6291456, 768, 768), (16777216, 8388608, 1024, 1792), (33554432, 16777216, 2048, 3840), (67108864, 33554432, 4096, 7936), (134217728, 68157440, 8320, 16383), (268435456, 134217728, 16384, 32767), (32, 268435456, 65535, 65535)] (fun W => W.cell? ⟨g, o + j * 2, none⟩ = some (.string op) ∧ W.cell? ⟨g, o + j * 2 + 1, none⟩ = some (.int .i64 at_)) (by kernel_rfl) (by kernel_rfl) (by kernel_rfl) rfl (by kernel_rfl) (by kernel_rfl) ⟨c0, c1⟩ (fun hS => ?_)
      repeat (first
        | (refine plan_read (v := ?_) rfl (fun _ _ _ h => h) rfl hS ?_ ?_; rotate_left 1; (focus (intro w' hS'; have e0 := hS'.1; have e1 := hS'.2; go_simp; try rfl)); (simp only [Act.put, List.setIfInBounds_toArray]; dsimp only [List.set_cons_zero, List.set_cons_succ]))
        | (refine plan_skip rfl (fun _ _ _ h => h) rfl hS ?_; (simp only [Act.put, List.setIfInBounds_toArray]; dsimp only [List.set_cons_zero, List.set_cons_succ])))
      refine plan_do (by rfl) (by rfl) (fun K hK => ?_)
      go_simp
      refine (HI.out _).mono ?_
      rintro r w2 ⟨rfl, hb2⟩
      have hb2' := below_of_drew hb2
      have HB2 := Lib.hid hb2'
      have hS2 := HC0.out w2 hb2'
      clear hb2 hb2'
      refine hK.out _ _ (fun _ => hS2) (fun hS => ?_); clear hK K; replace hS := hS rfl; try (simp only [Act.put, List.setIfInBounds_toArray]; dsimp only [List.set_cons_zero, List.set_cons_succ])
      repeat (first
        | (refine plan_read (v := ?_) rfl (fun _ _ _ h => h) rfl hS ?_ ?_; rotate_left 1; (focus (intro w' hS'; have e0 := hS'.1; have e1 := hS'.2; go_simp; try rfl)); (simp only [Act.put, List.setIfInBounds_toArray]; dsimp only [List.set_cons_zero, List.set_cons_succ]))
        | (refine plan_skip rfl (fun _ _ _ h => h) rfl hS ?_; (simp only [Act.put, List.setIfInBounds_toArray]; dsimp only [List.set_cons_zero, List.set_cons_succ])))
      refine plan_nil ?_
      go_wp2_with fail
      go_roundw
      case rel => exact ⟨j + 1, _, by rw [HF.out], by go_num, by omega, Lib.hid ⟨HNX.out.1, HNX.out.2.trans (HB2.out.mono HNX.out.2.size)⟩⟩
      case measure => simp [intOf]; omega
    · obtain rfl : j = ls.length := by omega
      have hP : P = ls.flatMap lnkT := by rw [hr.out.1, List.take_length]
      have hch : chT ls e = P ++ numT e := by rw [hP]; rfl
      have HB := Lib.hid hr.out.2
      obtain ⟨S0, hS0⟩ : ∃ S0, str P = S0 := ⟨_, rfl⟩
      have hSs : S0.size ≤ 2000 := by rw [← hS0, size_str]; exact hPl
      by_cases h0 : e < 0
      · have hfin : S0 ++ (ByteArray.mk #[101, 110, 103, 114, 111, 115, 115, 101, 114, 58, 32, 101, 114, 114, 111, 114]) = str (chT ls e) := by
          rw [hch, ← hS0, ← str_cat]
          unfold numT
          rw [if_pos h0]
          rfl
        have n0 : ¬ 9223372036854775807 < S0.size + 16 := by omega
        have HF := Lib.hid hfin
        clear hr hP hch hfin hPl
        rw [hS0]
        go_wp2_with fail
        go_ret
        exact ⟨by rw [← HF.out]; rfl, HB.out⟩
      · obtain ⟨U0, hU0⟩ : ∃ U, S0 ++ (ByteArray.mk #[101, 110, 103, 114, 111, 115, 115, 101, 114, 58, 32, 101, 114, 114, 111, 114, 32]) = U := ⟨_, rfl⟩
        have h0s : U0.size = S0.size + 17 := by rw [← hU0, ByteArray.size_append]; rfl
        have hfin : U0 ++ E = str (chT ls e) := by
          rw [hch, ← hU0, ← hS0, ← HEE.out]
          unfold numT
          rw [if_neg h0, ← str_cat]
          rw [show ([101, 110, 103, 114, 111, 115, 115, 101, 114, 58, 32, 101, 114, 114, 111, 114] ++ 32 :: Lib.itoa e : List UInt8) = [101, 110, 103, 114, 111, 115, 115, 101, 114, 58, 32, 101, 114, 114, 111, 114, 32] ++ Lib.itoa e by simp, ← str_cat]
          apply ByteArray.ext
          simp [str, Array.append_assoc]
        have n0 : ¬ 9223372036854775807 < S0.size + 17 := by omega
        have n1 : ¬ 9223372036854775807 < U0.size + E.size := by omega
        have HF := Lib.hid hfin
        clear hr hP hch hfin h0s hPl
        rw [hS0]
        go_wp2_with fail
        refine (HNE.out _).mono ?_
        rintro r w2 ⟨rfl, hb2⟩
        have HB2 := Lib.hid (HB.out.trans (hb2.mono HB.out.size))
        clear hb2
        go_wp2_with fail
        go_ret
        exact ⟨by rw [← HF.out]; rfl, HB2.out⟩
end Go.Proofs.YtnfcnjnecankbaaDoor
