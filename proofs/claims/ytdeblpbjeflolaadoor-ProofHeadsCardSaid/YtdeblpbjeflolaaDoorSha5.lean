/-
  The document's padding, walked.
-/
import Derived.Test.YtdeblpbjeflolaaDoorSha4
import Derived.Test.YtdeblpbjeflolaaDoorMark
namespace Go.Proofs.YtdeblpbjeflolaaDoor
open Go.RowKit

theorem shl_digit (x j : Nat) (h : j ≤ 7) : (x * 256 ^ j % 18446744073709551616) / 72057594037927936 = x / 256 ^ (7 - j) % 256 := by
  have e1 : (18446744073709551616 : Nat) = 256 ^ j * 256 ^ (8 - j) := by rw [← Nat.pow_add, show j + (8 - j) = 8 by omega]
  have e2 : (72057594037927936 : Nat) = 256 ^ j * 256 ^ (7 - j) := by rw [← Nat.pow_add, show j + (7 - j) = 7 by omega]
  have e3 : (256 : Nat) ^ (8 - j) = 256 ^ (7 - j) * 256 := by rw [← Nat.pow_succ, show 8 - j = (7 - j) + 1 by omega]
  rw [e1, e2, Nat.mul_comm x, Nat.mul_mod_mul_left, Nat.mul_div_mul_left _ _ (Nat.pow_pos (by decide)), e3, Nat.mod_mul_right_div_self]
theorem shl_next (x j : Nat) : (x * 256 ^ j % 18446744073709551616) * 256 % 18446744073709551616 = x * 256 ^ (j + 1) % 18446744073709551616 := by
  rw [Nat.pow_succ, ← Nat.mul_assoc]
  omega

set_option maxRecDepth 4000 in
set_option maxHeartbeats 1000000 in
theorem octets_any (l : List UInt8) (hl : l.length ≤ 1000000) (w : World) :
    Calls Tryd.prog 66 #[.string (str l)] w fun e w' => ∃ v', e = .returned v' ∧ OwnT w' w.heap.size 5 v' (padd l).length (u8s (padd l)) ∧ Below w.heap.size w w' := by
  obtain ⟨n, hn⟩ : ∃ n, n = l.length := ⟨_, rfl⟩
  rw [← hn] at hl
  have hz : padz l.length = (119 - n % 64) % 64 := by rw [hn]; rfl
  have hpd : padd l = (l ++ (128 :: List.replicate (padz l.length) 0)) ++ be (8 * n) 8 := by rw [padd, ← hn]; simp
  obtain ⟨z, hzz⟩ : ∃ z, z = padz l.length := ⟨_, rfl⟩
  rw [← hzz] at hz hpd
  obtain ⟨M, hM⟩ : ∃ M : Nat → List UInt8, M = fun j => l ++ (128 :: List.replicate j 0) := ⟨_, rfl⟩
  have hMl : ∀ j, (M j).length = n + 1 + j := fun j => by rw [hM, hn]; simp; omega
  have hM0 : u8s (M 0) = u8s l ++ [.int .u8 128] := by rw [hM]; show u8s (l ++ [128]) = _; rw [u8s_append]; rfl
  have hMs : ∀ j, u8s (M (j + 1)) = u8s (M j) ++ [.int .u8 0] := fun j => by
    rw [hM]
    show u8s (l ++ (128 :: List.replicate (j + 1) 0)) = u8s (l ++ (128 :: List.replicate j 0)) ++ u8s [0]
    rw [← u8s_append, List.replicate_succ', ← List.cons_append, ← List.append_assoc]
  have hMz : padd l = M z ++ be (8 * n) 8 := by rw [hpd, hM]
  have hsl : (str l).size = n := by rw [size_str, hn]
  have HM0 := Lib.hid hM0; have HMS := Lib.hid hMs; have HML := Lib.hid hMl; have HMZ := Lib.hid hMz; have HN := Lib.hid hn
  clear hM0 hMs hMl hMz hM hpd hzz
  obtain ⟨S, hS⟩ : ∃ S, S = str l := ⟨_, rfl⟩
  rw [← hS] at hsl ⊢
  have HS := Lib.hid hS; clear hS hn
  go_enter Tryd.func66, Tryd.ntmps66
  go_wp2_with (first
    | (refine wpList_bytes_of rfl (.tmp 6) 9 24 5 rfl l (by rw [← HS.out]; rfl) Tryd.underlying9 Tryd.underlying24 Tryd.underlying5 (by rw [← HN.out]; omega) ?_; intro v0 w0 hown0 hb0; rw [← HN.out] at hown0; obtain ⟨g0, c0, rfl⟩ := hown0.shape; have HOWN0 := Lib.hid hown0; have HB0 := Lib.hid hb0; have hbz0 := hb0.size; clear hown0 hb0)
    | (at_builtin; refine wpList_appT rfl (.tmp 7) (.tmp 8) _ rfl w.heap.size 5 _ 1 Tryd.underlying24 info_byte rfl _ n _ rfl (HOWN0.out.keep ((Below.refl _ _).alloc (Nat.le_refl _) _)) ⟨w0.heap.size, 0, none⟩ 1 _ [.int .u8 128] rfl (sees_new w0 _ [.int .u8 128] 1 1 rfl) (by omega) (by simp [Value.oneCell']) (by unfold maxLen; omega) (by omega) (by simp; omega) ?_; intro v1 w1 hown1 hgr1; rw [← HM0.out] at hown1; have hb1 := (HB0.out.alloc hbz0 _).grown hgr1 (by simp; omega) (fun k hk => (HOWN0.out.lt k hk).1); have HOWN1 := Lib.hid hown1; have HB1 := Lib.hid hb1; clear hown1 hgr1 hb1))
  go_loopw [3] (fun v wr => ∃ (j : Nat) (g : Nat) (c : Nat), j ≤ z ∧ v = .slice (some ⟨g, 0, none⟩) (n + 1 + j) c ∧ OwnT wr w.heap.size 5 v (n + 1 + j) (u8s (M j)) ∧ Below w.heap.size w wr) (fun v _ => z + n + 1 - lenV v)
  case atStart =>
    obtain ⟨A1, c1, rfl⟩ := HOWN1.out.shape
    exact ⟨0, A1, c1, by omega, rfl, HOWN1.out, HB1.out⟩
  case round =>
    clear HOWN1 HB1 HM0
    obtain ⟨j, A1, c1, hj, rfl, hown, hbr⟩ := hrel
    have hbz := hbr.size
    by_cases hlt : j < z
    · have htm : ((n + 1 + j : Nat) : Int).tmod 64 = (((n + 1 + j) % 64 : Nat) : Int) := by rw [Int.tmod_eq_emod_of_nonneg (by omega)]; omega
      obtain ⟨q, hq⟩ : ∃ q, q = (n + 1 + j) % 64 := ⟨_, rfl⟩
      rw [← hq] at htm
      have hq56 : ¬ q = 56 := by omega
      have hqq : ((q : Int) == 56) = false := by rw [beq_eq_false_iff_ne]; omega
      obtain ⟨m, hm⟩ : ∃ m, m = n + 1 + j := ⟨_, rfl⟩
      have hM1 := HMS.out j
      have hmr : n + 1 + (j + 1) = m + 1 := by omega
      rw [← hm] at hown htm ⊢
      have hml : m ≤ 1000100 := by omega
      have HOWN := Lib.hid hown; have HB := Lib.hid hbr; have HM1 := Lib.hid hM1; have HMR := Lib.hid hmr
      clear hown hbr hM1 hq hm hmr
      go_wp2_with (at_builtin; refine wpList_appT rfl (.tmp 14) (.tmp 15) _ rfl w.heap.size 5 _ 1 Tryd.underlying24 info_byte rfl _ m _ rfl (HOWN.out.keep ((Below.refl _ _).alloc (Nat.le_refl _) _)) ⟨wr.heap.size, 0, none⟩ 1 _ [.int .u8 0] rfl (sees_new wr _ [.int .u8 0] 1 1 rfl) (by omega) (by simp [Value.oneCell']) (by unfold maxLen; omega) (by omega) (by simp; omega) ?_; intro v1 w1 hown1 hgr1; rw [← HM1.out] at hown1; have hb1 := (HB.out.alloc (by omega) _).grown hgr1 (by simp; omega) (fun k hk => (HOWN.out.lt k hk).1); obtain ⟨A2, c2, rfl⟩ := hown1.shape; have HOWN1 := Lib.hid hown1; have HB1 := Lib.hid hb1; clear hown1 hgr1 hb1)
      go_roundw
      case rel => exact ⟨j + 1, A2, c2, by omega, by rw [HMR.out], by rw [HMR.out]; exact HOWN1.out, HB1.out⟩
      case measure => simp [lenV]; have := HMR.out; omega
    · obtain rfl : j = z := by omega
      have htm : ((n + 1 + j : Nat) : Int).tmod 64 = 56 := by rw [Int.tmod_eq_emod_of_nonneg (by omega)]; omega
      obtain ⟨m, hm⟩ : ∃ m, m = n + 1 + j := ⟨_, rfl⟩
      have hMz := HMZ.out
      have hMl := HML.out j
      obtain ⟨L, hL⟩ : ∃ L, L = M j := ⟨_, rfl⟩
      rw [← hL] at hown hMz hMl
      rw [← hm] at hown htm hMl ⊢
      have hml : m ≤ 1000100 := by omega
      have hnm : n ≤ m := by omega
      have HOWN := Lib.hid hown; have HB := Lib.hid hbr; have HMZ := Lib.hid hMz; have HMl := Lib.hid hMl
      clear hown hbr hm hMz hMl hL HMS HML hz
      have hx0 : IntKind.u64.wrap (n : Int) = (n : Int) := by rw [IntKind.wrap_u64]; omega
      go_wp2_with fail
      go_loopw [3, 4, 5] (fun v y i wr => ∃ (k : Nat) (g : Nat) (c : Nat), k ≤ 8 ∧ i = .int .i64 k ∧ y = .int .u64 ((8 * n) * 256 ^ k % 18446744073709551616 : Nat) ∧ v = .slice (some ⟨g, 0, none⟩) (m + k) c ∧ OwnT wr w.heap.size 5 v (m + k) (u8s (L ++ (be (8 * n) 8).take k)) ∧ Below w.heap.size w wr) (fun _ _ i _ => 8 - (intOf i).toNat)
      case atStart => exact ⟨0, A1, c1, by omega, by simp, by go_num, by simp, by simpa using HOWN.out, HB.out⟩
      case round =>
        clear HOWN HB
        obtain ⟨k, A3, c3, hk, rfl, rfl, rfl, hown, hbr⟩ := hrel
        have hbz := hbr.size
        by_cases hlt : k < 8
        · have hki : (k : Int) < 8 := by omega
          obtain ⟨y, hy⟩ : ∃ y, y = (8 * n) * 256 ^ k % 18446744073709551616 := ⟨_, rfl⟩
          have hyl : y < 18446744073709551616 := by rw [hy]; exact Nat.mod_lt _ (by decide)
          have hdg := shl_digit (8 * n) k (by omega)
          have hnx := shl_next (8 * n) k
          rw [← hy] at hdg hnx ⊢
          obtain ⟨b, hbb⟩ : ∃ b, b = y / 72057594037927936 := ⟨_, rfl⟩
          have hb256 : b < 256 := by omega
          have hyb : (y : Int) / 72057594037927936 = (b : Int) := by omega
          have hbw : IntKind.u8.wrap (b : Int) = (b : Int) := by rw [IntKind.wrap_u8']; omega
          have hbm : (b : Int) % 256 = (b : Int) := by omega
          obtain ⟨y2, hy2⟩ : ∃ y2, y2 = y * 256 % 18446744073709551616 := ⟨_, rfl⟩
          have hyy : (y : Int) * 256 % 18446744073709551616 = (y2 : Int) := by omega
          rw [← hy2] at hnx
          have hLn : u8s (L ++ (be (8 * n) 8).take (k + 1)) = u8s (L ++ (be (8 * n) 8).take k) ++ [.int .u8 (b : Nat)] := by
            rw [be_get (8 * n) 8 k hlt, ← List.append_assoc, u8s_append (L ++ _), ← byte_cell b hb256, hbb, hdg, show 8 - 1 - k = 7 - k by omega]
          obtain ⟨x, hx⟩ : ∃ x, x = m + k := ⟨_, rfl⟩
          have hxx : m + (k + 1) = x + 1 := by omega
          rw [← hx] at hown ⊢
          have hxl : x ≤ 1000200 := by omega
          have hxw : ¬ 9223372036854775807 < x := by omega
          have HOWN := Lib.hid hown; have HB := Lib.hid hbr; have HLN := Lib.hid hLn; have HX := Lib.hid hxx; have HNX := Lib.hid hnx
          clear hown hbr hLn hxx hx hbb hy hdg hnx hy2
          go_wp2_with (at_builtin; refine wpList_appT rfl (.tmp 25) (.tmp 29) _ rfl w.heap.size 5 _ 1 Tryd.underlying24 info_byte rfl _ x _ rfl (HOWN.out.keep ((Below.refl _ _).alloc (Nat.le_refl _) _)) ⟨wr.heap.size, 0, none⟩ 1 _ [.int .u8 (b : Nat)] rfl (sees_new wr _ [.int .u8 (b : Nat)] 1 1 rfl) (by omega) (by simp [Value.oneCell']) (by unfold maxLen; omega) (by omega) (by simp; omega) ?_; intro v1 w1 hown1 hgr1; rw [← HLN.out] at hown1; have hb1 := (HB.out.alloc (by omega) _).grown hgr1 (by simp; omega) (fun k hk => (HOWN.out.lt k hk).1); obtain ⟨A4, c4, rfl⟩ := hown1.shape; have HOWN1 := Lib.hid hown1; have HB1 := Lib.hid hb1; clear hown1 hgr1 hb1)
          go_roundw
          case rel => exact ⟨k + 1, A4, c4, by omega, by go_num, by rw [← HNX.out, IntKind.wrap_u64, hyy], by rw [HX.out], by rw [HX.out]; exact HOWN1.out, HB1.out⟩
          case measure => simp [intOf]; omega
        · obtain rfl : k = 8 := by omega
          rw [List.take_of_length_le (by rw [length_be]; exact Nat.le_refl _), ← HMZ.out] at hown
          have hlen : m + 8 = (padd l).length := by rw [HMZ.out, List.length_append, HMl.out, length_be]
          have HLEN := Lib.hid hlen; have HOWN := Lib.hid hown; clear hlen hown
          rw [show ((8 : Nat) : Int) = 8 from rfl]
          go_wp2_with fail
          go_ret
          exact ⟨_, rfl, by rw [← HLEN.out]; exact HOWN.out, hbr⟩
end Go.Proofs.YtdeblpbjeflolaaDoor
