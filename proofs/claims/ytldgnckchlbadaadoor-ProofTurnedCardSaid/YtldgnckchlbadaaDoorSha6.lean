/-
  The document's digest, walked.
-/
import Derived.Test.YtldgnckchlbadaaDoorSha6a
namespace Go.Proofs.YtldgnckchlbadaaDoor
set_option maxRecDepth 4000
open Go.RowKit

set_option maxRecDepth 4000 in
set_option maxHeartbeats 16000000 in
theorem rsum_any (l : List UInt8) (hl : l.length ≤ 1000000) (w : World) :
    Calls Tryd.prog 59 #[.string (str l)] w fun e w' => e = .returned (.string (str (sha l))) ∧ Below w.heap.size w w' := by
  have HO := Lib.hid (woctets_any l hl)
  have HKA := Lib.hid K_any
  obtain ⟨N, hN⟩ : ∃ N, (padd l).length = 64 * N := ⟨(padd l).length / 64, by have := padd_length l; omega⟩
  have hNl : N ≤ 20000 := by
    have : (padd l).length ≤ l.length + 73 := by simp only [padd, padz, List.length_append, List.length_cons, List.length_replicate, length_be]; omega
    omega
  obtain ⟨P, hP⟩ : ∃ P, P = padd l := ⟨_, rfl⟩
  rw [← hP] at HO hN
  obtain ⟨S, hS⟩ : ∃ S, S = str l := ⟨_, rfl⟩
  rw [← hS] at HO ⊢
  have HN := Lib.hid hN; have HP := Lib.hid hP; clear hN hP hS
  refine enter_lit Tryd.func59 rfl #[.string S, undef, undef, undef, undef, undef, undef, undef, undef, undef, undef, undef, undef, undef, undef, undef, undef, undef, undef, undef, undef, undef, undef, undef, undef, undef, undef, undef, undef, undef, undef, undef, undef, undef, undef, undef, undef, undef, undef, undef, undef, undef, undef, undef, undef, undef, undef, undef, undef, undef, undef, undef, undef, undef, undef, undef, undef, undef, undef, undef, undef, undef, undef, undef, undef, undef, undef, undef, undef, undef, undef, undef, undef, undef, undef, undef, undef, undef, undef, undef, undef, undef, undef, undef, undef, undef, undef, undef, undef, undef, undef, undef, undef, undef, undef, undef, undef, undef, undef, undef, undef, undef, undef, undef, undef, undef, undef, undef, undef, undef, undef, undef, undef, undef, undef, undef, undef, undef, undef, undef, undef, undef, undef, undef, undef, undef, undef, undef, undef, undef, undef, undef, undef, undef, undef, undef, undef, undef, undef, undef, undef, undef, undef, undef, undef, undef, undef, undef, undef, undef, undef, undef, undef, undef, undef, undef, undef, undef, undef, undef, undef, undef, undef, undef, undef, undef, undef, undef, undef, undef, undef, undef, undef, undef, undef, undef, undef, undef, undef, undef, undef, undef, undef, undef, undef, undef, undef, undef, undef, undef, undef, undef, undef, undef, undef, undef, undef, undef, undef, undef, undef, undef, undef, undef, undef, undef, undef, undef, undef, undef, undef, undef, undef, undef, undef, undef, undef, undef, undef, undef, undef, undef, undef, undef, undef, undef, undef, undef, undef, undef, undef, undef, undef, undef, undef, undef, undef, undef, undef, undef, undef, undef, undef, undef, undef, undef, undef, undef, undef, undef, undef, undef, undef, undef, undef, undef, undef, undef, undef, undef, undef, undef, undef, undef, undef, undef, undef, undef, undef, undef, undef, undef, undef, undef, undef, undef, undef, undef, undef, undef, undef, undef] (by kernel_rfl) ?_
  go_wp2_with fail
  refine (HKA.out _).mono ?_
  rintro e w1 ⟨rfl, hw1⟩
  have hH1 : Blk w1 w.heap.size 123 (wds shH).toArray := by rw [hw1]; exact (Blk.newAt rfl rfl).alloc _
  have hK1 : Blk w1 (w.heap.size + 1) 123 (wds shK).toArray := by rw [hw1]; exact Blk.newAt (by simp) rfl
  have hb1 : Below w.heap.size w w1 := by rw [hw1]; exact ((Below.refl _ _).alloc (Nat.le_refl _) _).alloc (by simp) _
  have hsz : (w.alloc (.cells (wds shH).toArray 123)).heap.size = w.heap.size + 1 := by simp
  have HH1 := Lib.hid hH1; have HK1 := Lib.hid hK1; have HB1 := Lib.hid hb1; clear hH1 hK1 hb1 hw1
  go_wp2_with fail
  refine (HO.out _).mono ?_
  rintro e w2 ⟨v, rfl, hown, hb2⟩
  obtain ⟨ga, ca, rfl, hsee⟩ := hown.sees
  have hb12 : Below w.heap.size w w2 := HB1.out.trans (hb2.mono HB1.out.size)
  have hH2 := HH1.out.below hb2 HH1.out.lt
  have hK2 := HK1.out.below hb2 HK1.out.lt
  have hHg : w.heap.size < w2.heap.size := hH2.lt
  have hsz12 : w1.heap.size ≤ w2.heap.size := hb2.size
  have hga : w1.heap.size ≤ ga := (hown.lt ga rfl).1
  have hgl : w.heap.size + 1 < w1.heap.size := HK1.out.lt
  have hPl : P.length = 64 * N := HN.out
  rw [hPl] at hsee ⊢
  have HS2 := Lib.hid hsee; have HB2 := Lib.hid hb12; have HH2 := Lib.hid hH2; have HK2 := Lib.hid hK2; clear hsee hown hb2 hb12 hH2 hK2 HH1 HK1 HB1 HO HKA hPl
  obtain ⟨Q8, hQ8⟩ : ∃ Q, Q = hsj l := ⟨_, rfl⟩
  have hw8 : ∀ j, w8 (Q8 j) := by rw [hQ8]; exact hsj_w8 l
  have hq0 : Q8 0 = shH := by rw [hQ8]; rfl
  have hqn : ∀ j, Q8 (j + 1) = mixs (Q8 j) ((P.drop (64 * j)).take 64) := fun j => by rw [hQ8, HP.out]; rfl
  have hqs : ∀ M, M = N → sha l = (Q8 M).flatMap fun x => be x 4 := fun M hM => by rw [hM, hQ8, sha, ← HP.out, HN.out, Nat.mul_div_cancel_left _ (by decide)]
  have HQ8 := Lib.hid hQ8; have HW8 := Lib.hid hw8; have HQN := Lib.hid hqn; have HQS := Lib.hid hqs; have HQ0 := Lib.hid hq0
  clear hQ8 hw8 hqn hqs hq0
  go_wp2_with fail
  go_loopw [6] (fun a wr => ∃ j : Nat, j ≤ N ∧ a = .int .i64 (64 * j : Nat) ∧ Blk wr w.heap.size 123 (wds (Q8 j)).toArray ∧ Blk wr (w.heap.size + 1) 123 (wds shK).toArray ∧ Sees wr 1 (some ⟨ga, 0, none⟩) (64 * N) (u8s P) ∧ Below w.heap.size w wr ∧ w.heap.size + 1 < wr.heap.size) (fun a _ => 64 * N - (intOf a).toNat)
  case atStart => exact ⟨0, by omega, rfl, by rw [HQ0.out]; exact HH2.out, HK2.out, HS2.out, HB2.out, by omega⟩
  case round =>
    clear HH2 HK2 HS2 HB2
    obtain ⟨j, hj, rfl, hH, hK, hSe, hbr, hsz2⟩ := hrel
    by_cases hlt : j < N
    · have hlti : (64 * (j : Int)) < (64 * (N : Int)) := by omega
      obtain ⟨a, ha⟩ : ∃ a, a = 64 * j := ⟨_, rfl⟩
      have hai0 : 64 * (j : Int) = (a : Int) := by omega
      rw [← ha]
      rw [hai0] at hlti
      have HA := Lib.hid ha; clear ha hai0
      have haN : a + 64 ≤ 64 * N := by have := HA.out; omega
      have hai : (a : Int) ≤ 1280000 := by omega
      obtain ⟨b, hb⟩ : ∃ b, b = (P.drop a).take 64 := ⟨_, rfl⟩
      have hbl : b.length = 64 := by rw [hb]; simp; have := HN.out; omega
      have hbg : ∀ i, i < 64 → b.getD i 0 = P.getD (a + i) 0 := fun i hi => by rw [hb]; simp [List.getD_eq_getElem?_getD, hi]
      have HBB := Lib.hid hb; have HBG := Lib.hid hbg; clear hb hbg
      have HH := Lib.hid hH; have HK := Lib.hid hK; have HSE := Lib.hid hSe; have HBR := Lib.hid hbr; clear hH hK hSe hbr
      have hmk := make_words 64 (by omega)
      obtain ⟨Z, hZ⟩ : ∃ z : Array Value, z = (wds (tabn 64 fun _ => 0)).toArray := ⟨_, rfl⟩
      rw [← hZ] at hmk
      replace hmk : ∀ W : World, (Instr.makeSlice 136 (.int .i64 64) (.int .i64 64)).run Tryd.prog W = .ok (.slice (some ⟨W.heap.size, 0, none⟩) 64 64) (W.alloc (.cells Z 123)) := hmk
      have hZ0 : Z = (wds (wg b 0)).toArray := by rw [hZ]; rfl
      have HZ0 := Lib.hid hZ0; clear hZ hZ0
      go_wp2_with (simp only [hmk])
      obtain ⟨Wb, hWb⟩ : ∃ x, x = wr.heap.size := ⟨_, rfl⟩
      have hT0 : Blk (wr.alloc (.cells Z 123)) Wb 123 (wds (wg b 0)).toArray := Blk.newAt hWb HZ0.out
      have hWl : w.heap.size + 1 < Wb := by omega
      rw [← hWb]
      have hal : Below wr.heap.size wr (wr.alloc (.cells Z 123)) := (Below.refl _ _).alloc (Nat.le_refl _) _
      have hH1 := HH.out.below hal HH.out.lt
      have hK1 := HK.out.below hal HK.out.lt
      have hS1 := HSE.out.below hal
      have hB1 := HBR.out.trans (hal.mono HBR.out.size)
      have hws : w.heap.size ≤ wr.heap.size := HBR.out.size
      obtain ⟨gan, hgan⟩ : ∃ x, x = ga := ⟨_, rfl⟩
      have hgaW : ga < Wb := by
        have h1 := HSE.out.lt (by omega) (by omega) _ rfl
        rw [hWb]; exact h1
      have HT0 := Lib.hid hT0; have HH1 := Lib.hid hH1; have HK1 := Lib.hid hK1; have HS1 := Lib.hid hS1; have HB1 := Lib.hid hB1; have HWB := Lib.hid hWb
      clear hT0 hH1 hK1 hS1 hB1 hal hmk hWb HZ0 HH HK HSE HBR hgan
      generalize (wr.alloc (.cells Z 123)) = W1 at *
      go_loopw [8] (fun t wq => ∃ n : Nat, n ≤ 16 ∧ t = .int .i64 n ∧ Blk wq Wb 123 (wds (wg b n)).toArray ∧ Fr (· = Wb) W1 wq) (fun t _ => 16 - (intOf t).toNat)
      case atStart => exact ⟨0, by omega, rfl, HT0.out, Fr.refl _ _⟩
      case round =>
        clear HT0
        obtain ⟨n, hn, rfl, hT, hF⟩ := hrel
        by_cases hlt1 : n < 16
        · have hlt1i : (n : Int) < 16 := by omega
          obtain ⟨q, hq⟩ : ∃ q, q = a + 4 * n := ⟨_, rfl⟩
          have hqi : (a : Int) + 4 * (n : Int) = (q : Int) := by omega
          have hql : q + 4 ≤ 64 * N := by omega
          have hqb : (q : Int) + 3 < 64 * (N : Int) := by omega
          have hq0 : (q : Int) < 64 * (N : Int) := by omega
          have hq1 : (q : Int) + 1 < 64 * (N : Int) := by omega
          have hq2 : (q : Int) + 2 < 64 * (N : Int) := by omega
          have hqm : (q : Int) ≤ 1280000 := by omega
          have ht1 : ((q : Int) + 1).toNat = q + 1 := by omega
          have ht2 : ((q : Int) + 2).toNat = q + 2 := by omega
          have ht3 : ((q : Int) + 3).toNat = q + 3 := by omega
          have hw1 : IntKind.i64.wrap ((q : Int) + 1) = (q : Int) + 1 := IntWalk.i64_in _ (by omega)
          have hw2 : IntKind.i64.wrap ((q : Int) + 2) = (q : Int) + 2 := IntWalk.i64_in _ (by omega)
          have hw3 : IntKind.i64.wrap ((q : Int) + 3) = (q : Int) + 3 := IntWalk.i64_in _ (by omega)
          obtain ⟨d0, hd0⟩ : ∃ d, d = (P.getD q 0).toNat := ⟨_, rfl⟩
          obtain ⟨d1, hd1⟩ : ∃ d, d = (P.getD (q + 1) 0).toNat := ⟨_, rfl⟩
          obtain ⟨d2, hd2⟩ : ∃ d, d = (P.getD (q + 2) 0).toNat := ⟨_, rfl⟩
          obtain ⟨d3, hd3⟩ : ∃ d, d = (P.getD (q + 3) 0).toNat := ⟨_, rfl⟩
          have l0 : d0 < 256 := by rw [hd0]; exact UInt8.toNat_lt _
          have l1 : d1 < 256 := by rw [hd1]; exact UInt8.toNat_lt _
          have l2 : d2 < 256 := by rw [hd2]; exact UInt8.toNat_lt _
          have l3 : d3 < 256 := by rw [hd3]; exact UInt8.toNat_lt _
          have hwn : (ws b 64).getD n 0 = d0 * 16777216 + d1 * 65536 + d2 * 256 + d3 := by
            rw [ws_get b (by omega), wnext, if_pos hlt1, wrd, HBG.out _ (by omega), HBG.out _ (by omega), HBG.out _ (by omega), HBG.out _ (by omega), hd0, hd1, hd2, hd3, hq]
            simp only [Nat.add_assoc]
          have hPl := HN.out
          have hSq := HS1.out.fr hF (fun _ a e => by injection e with e; subst e; exact Nat.ne_of_lt hgaW)
          have k0 : wr.cell? ⟨ga, q, none⟩ = some (.int .u8 (d0 : Nat)) := by rw [sees_by hSq hPl (by omega), hd0]
          have k1 : wr.cell? ⟨ga, q + 1, none⟩ = some (.int .u8 (d1 : Nat)) := by rw [sees_by hSq hPl (by omega), hd1]
          have k2 : wr.cell? ⟨ga, q + 2, none⟩ = some (.int .u8 (d2 : Nat)) := by rw [sees_by hSq hPl (by omega), hd2]
          have k3 : wr.cell? ⟨ga, q + 3, none⟩ = some (.int .u8 (d3 : Nat)) := by rw [sees_by hSq hPl (by omega), hd3]
          have z0 : IntKind.u32.wrap (d0 : Int) = (d0 : Int) := by rw [IntKind.wrap_u32']; omega
          have z1 : IntKind.u32.wrap (d1 : Int) = (d1 : Int) := by rw [IntKind.wrap_u32']; omega
          have z2 : IntKind.u32.wrap (d2 : Int) = (d2 : Int) := by rw [IntKind.wrap_u32']; omega
          have z3 : IntKind.u32.wrap (d3 : Int) = (d3 : Int) := by rw [IntKind.wrap_u32']; omega
          have y0 : IntKind.u32.wrap ((d0 : Int) * 16777216) = (d0 : Int) * 16777216 := by rw [IntKind.wrap_u32']; omega
          have y1 : IntKind.u32.wrap ((d1 : Int) * 65536) = (d1 : Int) * 65536 := by rw [IntKind.wrap_u32']; omega
          have y2 : IntKind.u32.wrap ((d2 : Int) * 256) = (d2 : Int) * 256 := by rw [IntKind.wrap_u32']; omega
          have x0 : (d0 : Int) * 16777216 % 4294967296 = (d0 : Int) * 16777216 := by omega
          have x1 : (d1 : Int) * 65536 % 4294967296 = (d1 : Int) * 65536 := by omega
          have x2 : (d2 : Int) * 256 % 4294967296 = (d2 : Int) * 256 := by omega
          have hor : bits BinOp.or IntKind.u32 (bits BinOp.or IntKind.u32 (bits BinOp.or IntKind.u32 ((d0 : Int) * 16777216) ((d1 : Int) * 65536)) ((d2 : Int) * 256)) (d3 : Int) = (((ws b 64).getD n 0 : Nat) : Int) := by
            have e0 : (d0 : Int) * 16777216 = ((d0 * 16777216 : Nat) : Int) := by omega
            have e1 : (d1 : Int) * 65536 = ((d1 * 65536 : Nat) : Int) := by omega
            have e2 : (d2 : Int) * 256 = ((d2 * 256 : Nat) : Int) := by omega
            have or32 : ∀ {x y : Nat}, x < 4294967296 → y < 4294967296 → x ||| y < 4294967296 := fun hx hy => Nat.or_lt_two_pow (n := 32) hx hy
            rw [e0, e1, e2, u32_or_nat _ _ (by omega) (by omega), u32_or_nat _ _ (or32 (by omega) (by omega)) (by omega), u32_or_nat _ _ (or32 (or32 (by omega) (by omega)) (by omega)) (by omega), or4 _ _ _ _ l1 l2 l3, hwn]
          have hxl : (wg b n).length = 64 := tabn_length _ _
          have hfz : wr.frozen? ⟨Wb, n, none⟩ = false := hT.frozen n
          obtain ⟨u, hu⟩ : ∃ u, wr.cell? ⟨Wb, n, none⟩ = some u := ⟨_, wblk_cell hT (by omega)⟩
          have hT2 := hT.set_ n (.int .u32 ((ws b 64).getD n 0 : Nat))
          rw [wds_set, wg_next] at hT2
          have hn64 : (n : Int) < 64 := by omega
          have HOR := Lib.hid hor; have HT2 := Lib.hid hT2; have HF := Lib.hid hF; have HSq := Lib.hid hSq; have HPL := Lib.hid hPl
          clear hor hT2 hF hSq hPl hwn hd0 hd1 hd2 hd3 hT hq hql
          go_wp2_with fail
          refine region_fast [(0, true), (1, true), (2, true), (3, true), (4, true), (5, true), (6, true), (7, true), (8, true), (9, true), (10, true), (11, true), (12, true), (13, true), (14, true), (15, true), (16, true), (17, true), (18, true), (19, true), (20, true), (21, true), (22, true), (23, true), (24, true), (25, true), (26, true), (27, true), (28, true), (29, true), (30, true), (31, true), (32, false)] [1, 2, 3, 4, 5, 6, 7, 8, 9, 10, 11, 12, 13, 14, 15, 16, 17, 18, 19, 20, 21, 22, 23, 24, 25, 26, 27, 28, 29, 30] 2147483646 [(549755813888, 128, 0, 0), (1099511627776, 256, 0, 0), (2199023255552, 32, 0, 0), (4398046511104, 512, 0, 0), (8796093022208, 6597069766656, 12, 12), (17592186044416, 8796093022208, 16, 28), (35184372088832, 17592186044416, 32, 60), (70368744177664, 35184372088832, 64, 124), (140737488355328, 32, 0, 0), (281474976710656, 512, 0, 0), (562949953421312, 281474976710656, 512, 512), (1125899906842624, 703687441776640, 1280, 1792), (2251799813685248, 1125899906842624, 2048, 3840), (4503599627370496, 2251799813685248, 4096, 7936), (9007199254740992, 4503599627370496, 8192, 16128), (18014398509481984, 9077567998918656, 16512, 32764), (36028797018963968, 32, 0, 0), (72057594037927936, 512, 0, 0), (144115188075855872, 72057594037927936, 131072, 131072), (288230376151711744, 180143985094819840, 327680, 458752), (576460752303423488, 288230376151711744, 524288, 983040), (1152921504606846976, 576460752303423488, 1048576, 2031616), (2305843009213693952, 1152921504606846976, 2097152, 4128768), (4611686018427387904, 2323857407723175936, 4227072, 8388604), (9223372036854775808, 32, 0, 0), (18446744073709551616, 512, 0, 0), (36893488147419103232, 18446744073709551616, 33554432, 33554432), (73786976294838206464, 46116860184273879040, 83886080, 117440512), (147573952589676412928, 73786976294838206464, 134217728, 251658240), (295147905179352825856, 147573952589676412928, 268435456, 520093696), (590295810358705651712, 299759591197780213760, 545259520, 1073741820), (1180591620717411303424, 1649267441664, 2147483647, 2147483647), (0, 1770887431076116955136, 4294967295, 4294967295)] (fun w' => w'.cell? ⟨ga, q, none⟩ = some (.int .u8 (d0 : Nat)) ∧ w'.cell? ⟨ga, q + 1, none⟩ = some (.int .u8 (d1 : Nat)) ∧ w'.cell? ⟨ga, q + 2, none⟩ = some (.int .u8 (d2 : Nat)) ∧ w'.cell? ⟨ga, q + 3, none⟩ = some (.int .u8 (d3 : Nat))) (by kernel_rfl) (by kernel_rfl) (by kernel_rfl) rfl (by kernel_rfl) (by kernel_rfl) ⟨k0, k1, k2, k3⟩ (fun hS => ?_)
          repeat (first
            | (refine plan_read (v := ?_) rfl (fun _ _ _ h => h) rfl hS ?_ ?_; rotate_left 1; (focus (intro w' hS'; obtain ⟨c0, c1, c2, c3⟩ := hS'; go_simp; try rfl)); (simp only [Act.put, List.setIfInBounds_toArray]; dsimp only [List.set_cons_zero, List.set_cons_succ]))
            | (refine plan_skip rfl (fun _ _ _ h => h) rfl hS ?_; (simp only [Act.put, List.setIfInBounds_toArray]; dsimp only [List.set_cons_zero, List.set_cons_succ])))
          refine plan_do (by rfl) (by rfl) (fun K hK => ?_)
          go_simp
          refine hK.out _ _ (fun h => by cases h) (fun _ => ?_); clear hK K; try (simp only [Act.put, List.setIfInBounds_toArray]; dsimp only [List.set_cons_zero, List.set_cons_succ])
          refine plan_nil ?_
          go_wp2_with fail
          go_roundw
          case rel => exact ⟨n + 1, by omega, by go_num, by rw [HOR.out]; exact HT2.out, (HF.out.trans (Fr.setCell (F := (· = Wb)) _ _ _ rfl) (fun j _ h => h)).drew⟩
          case measure => simp [intOf]; omega
        · obtain rfl : n = 16 := by omega
          rw [show ((16 : Nat) : Int) = 16 from rfl]
          have HT := Lib.hid hT; have HF := Lib.hid hF; clear hT hF
          go_wp2_with fail
          go_loopw [10] (fun t wq => ∃ n : Nat, 16 ≤ n ∧ n ≤ 64 ∧ t = .int .i64 n ∧ Blk wq Wb 123 (wds (wg b n)).toArray ∧ Fr (fun k => Wb ≤ k) W1 wq) (fun t _ => 64 - (intOf t).toNat)
          case atStart => exact ⟨16, by omega, by omega, rfl, HT.out, HF.out.mono (fun k _ h => by omega)⟩
          case round =>
            clear HT HF
            obtain ⟨n, hn1, hn, rfl, hT, hF⟩ := hrel
            by_cases hlt2 : n < 64
            · have hlt2i : (n : Int) < 64 := by omega
              obtain ⟨a2, h2⟩ : ∃ a, a = (ws b 64).getD (n - 2) 0 := ⟨_, rfl⟩
              obtain ⟨a15, h15⟩ : ∃ a, a = (ws b 64).getD (n - 15) 0 := ⟨_, rfl⟩
              have hwl : (wg b n).length = 64 := tabn_length _ _
              have k2 : wr.cell? ⟨Wb, n - 2, none⟩ = some (.int .u32 (a2 : Nat)) := by rw [wblk_cell hT (by omega), wg_get b (by omega) (by omega), h2]
              have k15 : wr.cell? ⟨Wb, n - 15, none⟩ = some (.int .u32 (a15 : Nat)) := by rw [wblk_cell hT (by omega), wg_get b (by omega) (by omega), h15]
              have m2 : ((n : Int) - 2).toNat = n - 2 := by omega
              have m15 : ((n : Int) - 15).toNat = n - 15 := by omega
              have p2' : (0 : Int) ≤ (n : Int) - 2 := by omega
              have p15 : (0 : Int) ≤ (n : Int) - 15 := by omega
              have q2' : (n : Int) - 2 < 64 := by omega
              have q15' : (n : Int) - 15 < 64 := by omega
              have u2 : (2 : Int) ≤ (n : Int) := by omega
              have u15' : (15 : Int) ≤ (n : Int) := by omega
              have v2' : (n : Int) < 66 := by omega
              have v15 : (n : Int) < 79 := by omega
              have r2 : IntKind.i64.wrap ((n : Int) - 2) = (n : Int) - 2 := IntWalk.i64_in _ (by omega)
              have r15 : IntKind.i64.wrap ((n : Int) - 15) = (n : Int) - 15 := IntWalk.i64_in _ (by omega)
              have HT := Lib.hid hT; have HF := Lib.hid hF; have H2 := Lib.hid h2; have H15 := Lib.hid h15; clear hT hF h2 h15
              go_wp2_with fail
              refine region_fast [(0, true), (1, true), (2, true), (3, true), (4, true), (5, true), (6, true), (7, true), (8, true), (9, true), (10, true), (11, true)] [1, 2, 5, 6, 7, 8, 9, 10] 2022 [(37778931862957161709568, 128, 0, 0), (75557863725914323419136, 1024, 0, 0), (151115727451828646838272, 75557863725914323419136, 2, 2), (302231454903657293676544, 188894659314785808547840, 5, 7), (604462909807314587353088, 302231454903657293676544, 8, 15), (1208925819614629174706176, 128, 0, 0), (2417851639229258349412352, 1024, 0, 0), (4835703278458516698824704, 2417851639229258349412352, 64, 64), (9671406556917033397649408, 6044629098073145873530880, 160, 224), (19342813113834066795298816, 9671406556917033397649408, 256, 480), (2048, 604462909807314587353088, 31, 31), (4096, 19342813113834066795298816, 2047, 2047)] (fun w' => w'.cell? ⟨Wb, n - 2, none⟩ = some (.int .u32 (a2 : Nat)) ∧ w'.cell? ⟨Wb, n - 15, none⟩ = some (.int .u32 (a15 : Nat))) (by kernel_rfl) (by kernel_rfl) (by kernel_rfl) rfl (by kernel_rfl) (by kernel_rfl) ⟨k2, k15⟩ (fun hS => ?_)
              repeat (first
                | (refine plan_read (v := ?_) rfl (fun _ _ _ h => h) rfl hS ?_ ?_; rotate_left 1; (focus (intro w' hS'; obtain ⟨c2, c15⟩ := hS'; go_simp; try rfl)); (simp only [Act.put, List.setIfInBounds_toArray]; dsimp only [List.set_cons_zero, List.set_cons_succ]))
                | (refine plan_skip rfl (fun _ _ _ h => h) rfl hS ?_; (simp only [Act.put, List.setIfInBounds_toArray]; dsimp only [List.set_cons_zero, List.set_cons_succ])))
              refine plan_nil ?_
              clear hS
              go_wp2_with fail
              refine reg17 (by kernel_rfl) b n Wb a2 a15 hn1 hlt2 H2.out H15.out _ HT.out (fun _ _ _ _ _ h => h) ?_
              intro wq y85 y86 y87 y88 y89 y90 y91 y92 y93 y94 y95 y96 y97 y98 y99 y100 y101 y102 y103 y104 y105 y106 y107 y108 y109 y110 y111 y112 y113 y114 y115 y116 hbq hFq
              have HBQ := Lib.hid hbq
              have hF9 := HF.out.drew.trans hFq (fun _ _ h => h)
              have HF9 := Lib.hid hF9; clear hbq hFq hF9
              go_wp2_with fail
              go_roundw
              case rel => exact ⟨n + 1, by omega, by omega, by go_num, HBQ.out, HF9.out⟩
              case measure => simp [intOf]; omega
            · obtain rfl : n = 64 := by omega
              rw [show ((64 : Nat) : Int) = 64 from rfl]
              have HT := Lib.hid hT; have HF := Lib.hid hF; clear hT hF
              have hsW : W1.heap.size ≤ wr.heap.size := HF.out.size
              have hWbl : Wb < wr.heap.size := HT.out.lt
              have hsep : ∀ k, k = Wb → ¬ (k < Wb) := fun k e => by omega
              have hH3 : Blk wr w.heap.size 123 (wds (Q8 j)).toArray := HH1.out.fr HF.out (by omega)
              have hK3 : Blk wr (w.heap.size + 1) 123 (wds shK).toArray := HK1.out.fr HF.out (by omega)
              have hS3 : Sees wr 1 (some ⟨ga, 0, none⟩) (64 * N) (u8s P) := HS1.out.fr HF.out (fun _ a e => by injection e with e; subst e; show ¬ Wb ≤ ga; omega)
              have hb3 : Below w.heap.size w wr := HB1.out.trans (HF.out.below HB1.out.size (fun k hk => by omega))
              have hT3 : Blk wr Wb 123 (wds (ws b 64)).toArray := by have := HT.out; rw [wg_all] at this; exact this
              have hSh : Sees (wr.alloc (.cells #[] 123)) 1 (some ⟨w.heap.size, 0, none⟩) 8 (wds (Q8 j)) := ⟨by rw [length_wds, (HW8.out j).1], fun _ => ⟨w.heap.size, 0, rfl, fun k u hu => by rw [Nat.zero_add, (hH3.alloc _).cell, List.getElem?_toArray]; exact hu⟩⟩
              have HH3 := Lib.hid hH3; have HK3 := Lib.hid hK3; have HS3 := Lib.hid hS3; have HB3 := Lib.hid hb3; have HT3 := Lib.hid hT3; have HSH := Lib.hid hSh
              clear hH3 hK3 hS3 hb3 hT3 hSh HH1 HK1 HS1 HB1 HT HF hsep
              obtain ⟨W3, hW3⟩ : ∃ W, W = wr := ⟨_, rfl⟩
              rw [← hW3] at HH3 HK3 HS3 HB3 HT3 HSH hsW hWbl ⊢
              clear hW3
              go_wp2_with (at_builtin; refine wpList_app rfl (.tmp 117) (.tmp 118) _ rfl W3.heap.size 123 _ 1 4 Tryd.underlying136 info_word rfl (by decide) (.slice (some ⟨W3.heap.size, 0, none⟩) 0 0) 0 [] rfl (World.ownsRow_made W3 #[] 0 (Nat.le_refl _) (Nat.zero_le _) rfl) _ 8 8 (wds (Q8 j)) rfl HSH.out (fun u hu => by obtain ⟨c, _, rfl⟩ := List.mem_map.1 hu; rfl) (by unfold maxLen; omega) (by omega) (by simp) ?_; intro v' W4 hown4 hgr4 hat4 hnil4; obtain ⟨Vb, vc, vcur, rfl, hVb, hVB, -⟩ := own_open hown4 (by omega); have hsv := Sees.of_own hown4; have hb4 := ((Below.refl W3.heap.size W3).alloc (Nat.le_refl _) _).grown hgr4 (by simp) (fun k hk => by simp [Value.ownBlock] at hk; omega); have HSV := Lib.hid hsv; have HB4 := Lib.hid hb4; clear hown4 hgr4 hat4 hnil4 hVB vcur hsv hb4)
              have hH4 := HH3.out.below HB4.out HH3.out.lt
              have hK4 := HK3.out.below HB4.out HK3.out.lt
              have hS4 := HS3.out.below HB4.out
              have hT4 := HT3.out.below HB4.out HT3.out.lt
              have hb4 := HB3.out.trans (HB4.out.mono HB3.out.size)
              have hsz4 := HB4.out.size
              have hsv := HSV.out
              rw [Nat.zero_add, List.nil_append] at hsv
              have HH4 := Lib.hid hH4; have HK4 := Lib.hid hK4; have HS4 := Lib.hid hS4; have HB4' := Lib.hid hb4; have HT4 := Lib.hid hT4; have HSV4 := Lib.hid hsv
              clear hH4 hK4 hS4 hb4 hT4 hsv HH3 HK3 HS3 HB3 HT3 HSH HSV HB4
              go_loopw [13, 14] (fun v t wq => ∃ (n V c : Nat), n ≤ 64 ∧ t = .int .i64 n ∧ v = .slice (some ⟨V, 0, none⟩) 8 c ∧ W3.heap.size ≤ V ∧ Sees wq 1 (some ⟨V, 0, none⟩) 8 (wds (sto (Q8 j) b n)) ∧ Below W4.heap.size W4 wq) (fun _ t _ => 64 - (intOf t).toNat)
              case atStart => exact ⟨0, Vb, vc, by omega, rfl, rfl, hVb, HSV4.out, Below.refl _ _⟩
              case round =>
                clear HSV4
                obtain ⟨n, V, vc2, hn, rfl, rfl, hV, hSv, hBl⟩ := hrel
                by_cases hlt3 : n < 64
                · have hlt3i : (n : Int) < 64 := by omega
                  have hw8 := sto_w8 b (HW8.out j) n
                  obtain ⟨T, hTe⟩ : ∃ T, T = sto (Q8 j) b n := ⟨_, rfl⟩
                  rw [← hTe] at hSv hw8
                  have hnx : sto (Q8 j) b (n + 1) = stp T (shK.getD n 0) ((ws b 64).getD n 0) := by rw [hTe]; rfl
                  have hwl := ws_lt b 64 n
                  obtain ⟨kn, hkn⟩ : ∃ k, k = shK.getD n 0 := ⟨_, rfl⟩
                  have hkl : kn < 4294967296 := by
                    have h1 : (List.range 64).all (fun i => decide (shK.getD i 0 < 4294967296)) = true := by decide +kernel
                    rw [hkn]; exact of_decide_eq_true (List.all_eq_true.1 h1 n (List.mem_range.2 hlt3))
                  obtain ⟨wn, hwn⟩ : ∃ x, x = (ws b 64).getD n 0 := ⟨_, rfl⟩
                  rw [← hwn] at hwl hnx
                  rw [← hkn] at hnx
                  have hKq := HK4.out.below hBl HK4.out.lt
                  have hTq := HT4.out.below hBl HT4.out.lt
                  have hkc : wr.cell? ⟨w.heap.size + 1, n, none⟩ = some (.int .u32 (kn : Nat)) := by rw [wblk_cell hKq hlt3, hkn]
                  have hwc : wr.cell? ⟨Wb, n, none⟩ = some (.int .u32 (wn : Nat)) := by rw [wblk_cell hTq (by rw [ws_length]; omega), hwn]
                  have HKC := Lib.hid hkc; have HWC := Lib.hid hwc; have HWT := Lib.hid hw8
                  have HNX := Lib.hid hnx; have HBL := Lib.hid hBl; have HSV := Lib.hid hSv
                  clear hnx hBl hSv hw8 hTe hKq hTq hkn hwn hkc hwc
                  go_wp2_with fail
                  refine reg22 (by kernel_rfl) V _ T wr HWT.out HSV.out (w.heap.size + 1) Wb n kn wn hlt3 hkl hwl HKC.out HWC.out (fun _ _ _ _ _ h => h) ?_
                  intro wc y124 y125 y126 y127 y128 y129 y130 y131 y132 y133 y134 y135 y136 y137 y138 y139 y140 y141 y142 y143 y144 y145 y146 y147 y148 y149 y150 y151 y152 y153 y154 y155 y156 y157 y158 y159 y160 y161 y162 y163 y164 y165 y166 y167 y168 hbc
                  have hsc := HSV.out.below hbc
                  have hBc := HBL.out.trans (hbc.mono HBL.out.size)
                  have HSC := Lib.hid hsc; have HBC := Lib.hid hBc; clear hsc hBc hbc
                  go_wp2_with fail
                  refine reg23 (by kernel_rfl) V _ T wc HWT.out HSC.out (fun _ _ _ _ _ h => h) ?_
                  intro wd y169 y170 y171 y172 y173 y174 y175 y176 y177 y178 y179 y180 y181 y182 y183 y184 y185 y186 y187 y188 y189 y190 y191 y192 y193 y194 y195 y196 y197 y198 y199 y200 y201 y202 y203 y204 y205 y206 hbd
                  have hsd := HSC.out.below hbd
                  have hBd := HBC.out.trans (hbd.mono HBC.out.size)
                  have HSD := Lib.hid hsd; have HBD := Lib.hid hBd; clear hsd hBd hbd
                  go_wp2_with fail
                  refine reg24 (by kernel_rfl) V _ T wd HWT.out HSD.out kn wn (fun _ _ _ _ _ h => h) ?_
                  intro y207 y208 y209 y210 y211 y212 y213 y214 y215 y216 y217 y218 y219 y220 y221 y222 y223 y224 y225 y226 y227 y228 y229 y230 y231 y232 y233
                  go_wp2_with fail
                  go_roundw
                  case rel =>
                    refine ⟨n + 1, wd.heap.size, 8, by omega, by go_num, rfl, by have := HBD.out.size; omega, ?_, (HBD.out.alloc HBD.out.size _).drew⟩
                    rw [HNX.out]
                    exact sees_new wd 123 (wds (stp T kn wn)) 1 8 (by simp [wds, stp])
                  case measure => simp [intOf]; omega
                · obtain rfl : n = 64 := by omega
                  rw [show ((64 : Nat) : Int) = 64 from rfl]
                  have hw8 := sto_w8 b (HW8.out j) 64
                  obtain ⟨T, hTe⟩ : ∃ T, T = sto (Q8 j) b 64 := ⟨_, rfl⟩
                  have hmx : mixs (Q8 j) b = hxs (Q8 j) T 8 := by rw [hTe]; exact (tabn_ext fun i hi => by rw [if_pos hi])
                  rw [← hTe] at hSv hw8
                  have hTl : T.length = 8 := hw8.1
                  have hH5 := HH4.out.below hBl HH4.out.lt
                  rw [← hxs_zero (Q8 j) T (HW8.out j).1] at hH5
                  have hK5 := HK4.out.below hBl HK4.out.lt
                  have hS5 := HS4.out.below hBl
                  have hb5 := HB4'.out.trans (hBl.mono HB4'.out.size)
                  have hVw : V ≠ w.heap.size := by omega
                  have hsz5 : W4.heap.size ≤ wr.heap.size := hBl.size
                  have HMX := Lib.hid hmx; have HSV := Lib.hid hSv; have HH5 := Lib.hid hH5; have HK5 := Lib.hid hK5; have HS5 := Lib.hid hS5; have HB5 := Lib.hid hb5; have HTL := Lib.hid hw8
                  clear hTe hmx hSv hH5 hK5 hS5 hb5 HH4 HK4 HS4 HB4' HT4 hBl hw8
                  obtain ⟨W5, hW5⟩ : ∃ W, W = wr := ⟨_, rfl⟩
                  rw [← hW5] at HSV HH5 HK5 HS5 HB5 hsz5 ⊢
                  clear hW5
                  go_wp2_with fail
                  go_loopw [17] (fun i wq => ∃ n : Nat, n ≤ 8 ∧ i = .int .i64 n ∧ Blk wq w.heap.size 123 (wds (hxs (Q8 j) T n)).toArray ∧ Fr (· = w.heap.size) W5 wq) (fun i _ => 8 - (intOf i).toNat)
                  case atStart => exact ⟨0, by omega, rfl, HH5.out, Fr.refl _ _⟩
                  case round =>
                    clear HH5
                    obtain ⟨n, hn, rfl, hH, hF⟩ := hrel
                    have hSq := HSV.out.fr hF (fun _ a e => by injection e with e; subst e; exact hVw)
                    by_cases hlt4 : n < 8
                    · have hlti : (n : Int) < 8 := by omega
                      obtain ⟨x, hx⟩ : ∃ x, x = (Q8 j).getD n 0 := ⟨_, rfl⟩
                      obtain ⟨y, hy⟩ : ∃ y, y = T.getD n 0 := ⟨_, rfl⟩
                      have hxl : x < 4294967296 := by rw [hx]; exact (HW8.out j).2 n
                      have hyl : y < 4294967296 := by rw [hy]; exact HTL.out.2 n
                      have hgx : (hxs (Q8 j) T n).getD n 0 = x := by
                        have e : (hxs (Q8 j) T n).getD n 0 = _ := tabn_get _ hlt4
                        rw [e, if_neg (by omega), hx]
                      have hxn : (hxs (Q8 j) T n).length = 8 := tabn_length _ _
                      have hcx : wr.cell? ⟨w.heap.size, n, none⟩ = some (.int .u32 (x : Nat)) := by rw [wblk_cell hH (by omega), hgx]
                      have hcy : wr.cell? ⟨V, n, none⟩ = some (.int .u32 (y : Nat)) := by rw [sees_wd hSq hTl hlt4, hy]
                      have hfz : wr.frozen? ⟨w.heap.size, n, none⟩ = false := hH.frozen n
                      obtain ⟨v, hv⟩ : ∃ v, v = (x + y) % 4294967296 := ⟨_, rfl⟩
                      have hstep : (hxs (Q8 j) T n).set n v = hxs (Q8 j) T (n + 1) := by rw [hv, hx, hy]; exact hxs_next (Q8 j) T n
                      have g1 : IntKind.u32.wrap ((x : Int) + (y : Int)) = (v : Int) := by rw [IntKind.wrap_u32', hv]; omega
                      have g2 : ((x : Int) + (y : Int)) % 4294967296 = (v : Int) := by rw [hv]; omega
                      have hH2 := hH.set_ n (.int .u32 (v : Nat))
                      rw [wds_set, hstep] at hH2
                      have HH2 := Lib.hid hH2; have HF := Lib.hid hF
                      clear hH2 hH hSq hF hx hy hgx hv hstep
                      go_wp2_with fail
                      refine region_fast [(0, true), (1, true), (2, true), (3, true), (4, true), (5, true), (6, true), (7, true), (8, true), (9, true), (10, true), (11, true), (12, false)] [1, 2, 3, 4, 5, 6, 7, 8, 9, 10] 2046 [(441711766194596082395824375185729628956870974218904739530401550323154944, 8, 0, 0), (883423532389192164791648750371459257913741948437809479060803100646309888, 131072, 0, 0), (1766847064778384329583297500742918515827483896875618958121606201292619776, 8, 0, 0), (3533694129556768659166595001485837031654967793751237916243212402585239552, 131072, 0, 0), (7067388259113537318333190002971674063309935587502475832486424805170479104, 5300541194335152988749892502228755547482451690626856874364818603877859328, 12, 12), (14134776518227074636666380005943348126619871175004951664972849610340958208, 7067388259113537318333190002971674063309935587502475832486424805170479104, 16, 28), (28269553036454149273332760011886696253239742350009903329945699220681916416, 8192, 0, 0), (56539106072908298546665520023773392506479484700019806659891398441363832832, 131072, 0, 0), (113078212145816597093331040047546785012958969400039613319782796882727665664, 84808659109362447819998280035660088759719227050029709989837097662045749248, 192, 192), (226156424291633194186662080095093570025917938800079226639565593765455331328, 113078212145816597093331040047546785012958969400039613319782796882727665664, 256, 448), (452312848583266388373324160190187140051835877600158453279131187530910662656, 240291200809860268823328460101036918152537809975084178304538443375796289536, 544, 1020), (904625697166532776746648320380374280103671755200316906558262375061821325312, 1325135298583788247187473125557188886870612922656714218591204650969464832, 2047, 2047), (0, 1356938545749799165119972480570561420155507632800475359837393562592731987968, 4095, 4095)] (fun w' => w'.cell? ⟨w.heap.size, n, none⟩ = some (.int .u32 (x : Nat)) ∧ w'.cell? ⟨V, n, none⟩ = some (.int .u32 (y : Nat))) (by kernel_rfl) (by kernel_rfl) (by kernel_rfl) rfl (by kernel_rfl) (by kernel_rfl) ⟨hcx, hcy⟩ (fun hS => ?_)
                      repeat (first
                        | (refine plan_read (v := ?_) rfl (fun _ _ _ h => h) rfl hS ?_ ?_; rotate_left 1; (focus (intro w' hS'; obtain ⟨cx, cy⟩ := hS'; go_simp; try rfl)); (simp only [Act.put, List.setIfInBounds_toArray]; dsimp only [List.set_cons_zero, List.set_cons_succ]))
                        | (refine plan_skip rfl (fun _ _ _ h => h) rfl hS ?_; (simp only [Act.put, List.setIfInBounds_toArray]; dsimp only [List.set_cons_zero, List.set_cons_succ])))
                      refine plan_do (by rfl) (by rfl) (fun K hK => ?_)
                      go_simp
                      refine hK.out _ _ (fun h => by cases h) (fun _ => ?_); clear hK K; try (simp only [Act.put, List.setIfInBounds_toArray]; dsimp only [List.set_cons_zero, List.set_cons_succ])
                      refine plan_nil ?_
                      go_wp2_with fail
                      go_roundw
                      case rel => exact ⟨n + 1, by omega, by go_num, HH2.out, (HF.out.trans (Fr.setCell (F := (· = w.heap.size)) _ _ _ rfl) (fun j _ h => h)).drew⟩
                      case measure => simp [intOf]; omega
                    · obtain rfl : n = 8 := by omega
                      rw [show ((8 : Nat) : Int) = 8 from rfl]
                      rw [← HMX.out, HBB.out, HA.out, ← HQN.out] at hH
                      have hK6 := HK5.out.fr hF (show ¬ (w.heap.size + 1 = w.heap.size) by omega)
                      have hS6 := HS5.out.fr hF (fun _ a e => by injection e with e; subst e; show ¬ ga = w.heap.size; omega)
                      have hb6 := HB5.out.trans (hF.below HB5.out.size (fun k hk => by omega))
                      have hsz6 : w.heap.size + 1 < wr.heap.size := by have := hF.size; omega
                      have HH6 := Lib.hid hH; have HK6 := Lib.hid hK6; have HS6 := Lib.hid hS6; have HB6 := Lib.hid hb6
                      clear hH hK6 hS6 hb6 hF HK5 HS5 HB5 hSq HSV
                      go_wp2_with fail
                      go_roundw
                      case rel => exact ⟨j + 1, by omega, by have := HA.out; go_num, HH6.out, HK6.out, HS6.out, HB6.out, hsz6⟩
                      case measure => have := HA.out; simp [intOf]; omega
    · obtain rfl : j = N := by omega
      have hqs := HQS.out j rfl
      have hw8 := HW8.out j
      obtain ⟨T, hTe⟩ : ∃ T, T = Q8 j := ⟨_, rfl⟩
      rw [← hTe] at hH hqs hw8
      obtain ⟨F, hF⟩ : ∃ F : Nat → List UInt8, F = fun n => (T.take n).flatMap fun x => be x 4 := ⟨_, rfl⟩
      have hF8 : F 8 = sha l := by rw [hqs, hF]; show (T.take 8).flatMap _ = _; rw [List.take_of_length_le (by rw [hw8.1]; exact Nat.le_refl _)]
      have hF0 : F 0 = [] := by rw [hF]; simp
      have hFl : ∀ n, n ≤ 8 → (F n).length = 4 * n := fun n hn => by
        rw [hF]; show ((T.take n).flatMap fun x => be x 4).length = _
        rw [length_flatMap_const _ 4 (fun x => length_be x 4), List.length_take, hw8.1]; omega
      have hFn : ∀ n, n < 8 → u8s (F (n + 1)) = u8s (F n) ++ [.int .u8 (T.getD n 0 / 16777216 % 256 : Nat), .int .u8 (T.getD n 0 / 65536 % 256 : Nat), .int .u8 (T.getD n 0 / 256 % 256 : Nat), .int .u8 (T.getD n 0 % 256 : Nat)] := fun n hn => by
        have hg := List.getElem?_eq_getElem (l := T) (i := n) (by rw [hw8.1]; exact hn)
        have e : F (n + 1) = F n ++ be (T.getD n 0) 4 := by
          rw [hF]
          show (T.take (n + 1)).flatMap _ = (T.take n).flatMap _ ++ _
          rw [List.take_add_one, hg, List.flatMap_append, List.getD_eq_getElem?_getD, hg]
          simp
        rw [e, u8s_append]
        congr 1
        simp [be, u8s]
      have HF8 := Lib.hid hF8; have HF0 := Lib.hid hF0; have HFL := Lib.hid hFl; have HFN := Lib.hid hFn; have HT := Lib.hid hw8
      have HH := Lib.hid hH; have HBR := Lib.hid hbr
      have hTl := hw8.1
      have hge : ¬ (64 * (j : Int) < 64 * (j : Int)) := by omega
      clear hF hF8 hF0 hFl hFn hqs hw8 hTe hH hbr hK hSe
      obtain ⟨W6, hW6⟩ : ∃ W, W = wr := ⟨_, rfl⟩
      rw [← hW6] at HH HBR hsz2 ⊢
      clear hW6
      go_wp2_with fail
      go_loopw [18, 19] (fun v i wq => ∃ n : Nat, n ≤ 8 ∧ i = .int .i64 n ∧ wq.ownsRow W6.heap.size 5 1 v (4 * n) (u8s (F n)) ∧ Below W6.heap.size W6 wq) (fun _ i _ => 8 - (intOf i).toNat)
      case atStart => exact ⟨0, by omega, rfl, by rw [HF0.out]; exact World.ownsRow_nil _ _ _ _, Below.refl _ _⟩
      case round =>
        obtain ⟨n, hn, rfl, hown, hbl⟩ := hrel
        by_cases hlt5 : n < 8
        · have hlti : (n : Int) < 8 := by omega
          obtain ⟨x, hx⟩ : ∃ x, x = T.getD n 0 := ⟨_, rfl⟩
          have hxl : x < 4294967296 := by rw [hx]; exact HT.out.2 n
          have hfn := HFN.out n hlt5
          rw [← hx] at hfn
          have hHq := HH.out.below hbl HH.out.lt
          have hcx : wr.cell? ⟨w.heap.size, n, none⟩ = some (.int .u32 (x : Nat)) := by rw [wblk_cell hHq (by omega), hx]
          obtain ⟨b0, hb0⟩ : ∃ b, b = x / 16777216 % 256 := ⟨_, rfl⟩
          obtain ⟨b1, hb1⟩ : ∃ b, b = x / 65536 % 256 := ⟨_, rfl⟩
          obtain ⟨b2, hb2⟩ : ∃ b, b = x / 256 % 256 := ⟨_, rfl⟩
          obtain ⟨b3, hb3⟩ : ∃ b, b = x % 256 := ⟨_, rfl⟩
          rw [← hb0, ← hb1, ← hb2, ← hb3] at hfn
          have e0 : IntKind.u8.wrap ((x : Int) / 16777216) = (b0 : Int) := by rw [IntKind.wrap_u8']; omega
          have e1 : IntKind.u8.wrap ((x : Int) / 65536) = (b1 : Int) := by rw [IntKind.wrap_u8']; omega
          have e2 : IntKind.u8.wrap ((x : Int) / 256) = (b2 : Int) := by rw [IntKind.wrap_u8']; omega
          have e3 : IntKind.u8.wrap (x : Int) = (b3 : Int) := by rw [IntKind.wrap_u8']; omega
          obtain ⟨m, hm⟩ : ∃ m, m = 4 * n := ⟨_, rfl⟩
          rw [← hm] at hown
          have hml : m ≤ 32 := by omega
          have hmn : 4 * (n + 1) = m + 4 := by omega
          have hsz6 := hbl.size
          obtain ⟨A0, c0, rfl⟩ := own_shape hown
          have HOWN := Lib.hid hown; have HBL := Lib.hid hbl; have HFX := Lib.hid hfn; have HMN := Lib.hid hmn
          clear hown hbl hfn hx hHq hb0 hb1 hb2 hb3 hm hmn
          go_wp2_with fail
          refine region_fast [(0, true), (1, true), (2, true), (3, true), (4, true), (5, true), (6, true), (7, true), (8, true), (9, true), (10, true), (11, true), (12, true), (13, true), (14, true), (15, true), (16, true), (17, true), (18, true), (19, true), (20, true), (21, true), (22, true), (23, true), (24, false), (25, false), (26, false)] [1, 2, 3, 4, 5, 6, 7, 8, 9, 10, 11, 12, 13, 14, 15, 16, 17, 18, 19, 20, 21, 22, 23, 24] 33554430 [(28948022309329048855892746252171976963317496166410141009864396001978282409984, 262144, 0, 0), (57896044618658097711785492504343953926634992332820282019728792003956564819968, 8, 0, 0), (115792089237316195423570985008687907853269984665640564039457584007913129639936, 524288, 0, 0), (231584178474632390847141970017375815706539969331281128078915168015826259279872, 173688133855974293135356477513031861779904976998460846059186376011869694459904, 6, 6), (463168356949264781694283940034751631413079938662562256157830336031652518559744, 231584178474632390847141970017375815706539969331281128078915168015826259279872, 8, 14), (926336713898529563388567880069503262826159877325124512315660672063305037119488, 463168356949264781694283940034751631413079938662562256157830336031652518559744, 16, 30), (1852673427797059126777135760139006525652319754650249024631321344126610074238976, 926336713898529563388567880069503262826159877325124512315660672063305037119488, 32, 62), (3705346855594118253554271520278013051304639509300498049262642688253220148477952, 8, 0, 0), (7410693711188236507108543040556026102609279018600996098525285376506440296955904, 524288, 0, 0), (14821387422376473014217086081112052205218558037201992197050570753012880593911808, 11116040566782354760662814560834039153913918527901494147787928064759660445433856, 384, 384), (29642774844752946028434172162224104410437116074403984394101141506025761187823616, 14821387422376473014217086081112052205218558037201992197050570753012880593911808, 512, 896), (59285549689505892056868344324448208820874232148807968788202283012051522375647232, 29642774844752946028434172162224104410437116074403984394101141506025761187823616, 1024, 1920), (118571099379011784113736688648896417641748464297615937576404566024103044751294464, 59285549689505892056868344324448208820874232148807968788202283012051522375647232, 2048, 3968), (237142198758023568227473377297792835283496928595231875152809132048206089502588928, 8, 0, 0), (474284397516047136454946754595585670566993857190463750305618264096412179005177856, 524288, 0, 0), (948568795032094272909893509191171341133987714380927500611236528192824358010355712, 711426596274070704682420131893378505850490785785695625458427396144618268507766784, 24576, 24576), (1897137590064188545819787018382342682267975428761855001222473056385648716020711424, 948568795032094272909893509191171341133987714380927500611236528192824358010355712, 32768, 57344), (3794275180128377091639574036764685364535950857523710002444946112771297432041422848, 1897137590064188545819787018382342682267975428761855001222473056385648716020711424, 65536, 122880), (7588550360256754183279148073529370729071901715047420004889892225542594864082845696, 3794275180128377091639574036764685364535950857523710002444946112771297432041422848, 131072, 253952), (15177100720513508366558296147058741458143803430094840009779784451085189728165691392, 8, 0, 0), (30354201441027016733116592294117482916287606860189680019559568902170379456331382784, 524288, 0, 0), (60708402882054033466233184588234965832575213720379360039119137804340758912662765568, 45531302161540525099674888441176224374431410290284520029339353353255569184497074176, 1572864, 1572864), (121416805764108066932466369176469931665150427440758720078238275608681517825325531136, 60708402882054033466233184588234965832575213720379360039119137804340758912662765568, 2097152, 3670016), (242833611528216133864932738352939863330300854881517440156476551217363035650651062272, 121416805764108066932466369176469931665150427440758720078238275608681517825325531136, 4194304, 7864320), (485667223056432267729865476705879726660601709763034880312953102434726071301302124544, 250542585661279696891452400250878269483540157380617126347967479330273860169559441408, 8654912, 16777214), (971334446112864535459730953411759453321203419526069760625906204869452142602604249088, 485667252004454577058914332598625978832578673080531046723094112299122073279584534528, 16777217, 33554431), (262144, 971334446112864535459730953411759453321203419526069760625906204869452142602604249088, 67108863, 67108863)] (fun w' => w'.cell? ⟨w.heap.size, n, none⟩ = some (.int .u32 (x : Nat))) (by kernel_rfl) (by kernel_rfl) (by kernel_rfl) rfl (by kernel_rfl) (by kernel_rfl) hcx (fun hS => ?_)
          repeat (first
            | (refine plan_read (v := ?_) rfl (fun _ _ _ h => h) rfl hS ?_ ?_; rotate_left 1; (focus (intro w' hS'; have cx := hS'; go_simp; try rfl)); (simp only [Act.put, List.setIfInBounds_toArray]; dsimp only [List.set_cons_zero, List.set_cons_succ]))
            | (refine plan_skip rfl (fun _ _ _ h => h) rfl hS ?_; (simp only [Act.put, List.setIfInBounds_toArray]; dsimp only [List.set_cons_zero, List.set_cons_succ])))
          refine plan_do (by rfl) (by rfl) (fun K hK => ?_)
          go_simp
          have hal : Below wr.heap.size wr (wr.alloc (.cells #[.int .u8 (b0 : Nat), .int .u8 (b1 : Nat), .int .u8 (b2 : Nat), .int .u8 (b3 : Nat)] 5)).drew := ((Below.refl _ wr).alloc (Nat.le_refl _) _).drew
          have hcA : (wr.alloc (.cells #[.int .u8 (b0 : Nat), .int .u8 (b1 : Nat), .int .u8 (b2 : Nat), .int .u8 (b3 : Nat)] 5)).drew.cell? ⟨w.heap.size, n, none⟩ = some (.int .u32 (x : Nat)) := (hal.cell (World.block_lt_of_cell? _ _ hcx)).trans hcx
          have hsz2' : (wr.alloc (.cells #[.int .u8 (b0 : Nat), .int .u8 (b1 : Nat), .int .u8 (b2 : Nat), .int .u8 (b3 : Nat)] 5)).drew.heap.size = wr.heap.size + 1 := by simp
          refine hK.out _ _ (fun _ => hcA) (fun hS => ?_); clear hK K; replace hS := hS rfl; try (simp only [Act.put, List.setIfInBounds_toArray]; dsimp only [List.set_cons_zero, List.set_cons_succ])
          refine plan_do (by rfl) (by rfl) (fun K hK => ?_)
          refine wp_app (.tmp 254) (.tmp 278) 35 rfl W6.heap.size 5 _ 1 1 Tryd.underlying35 info_byte rfl (by decide) _ m (u8s (F n)) rfl (own_below HOWN.out hal) (some ⟨wr.heap.size, 0, none⟩) 4 _ [.int .u8 (b0 : Nat), .int .u8 (b1 : Nat), .int .u8 (b2 : Nat), .int .u8 (b3 : Nat)] rfl (sees_new wr _ [.int .u8 (b0 : Nat), .int .u8 (b1 : Nat), .int .u8 (b2 : Nat), .int .u8 (b3 : Nat)] 1 4 rfl) (by simp [Value.oneCell']) (by unfold maxLen; omega) (by omega) (by rw [hsz2']; omega) ?_
          intro v1 wq hown1 hgr1 hat1 hnil1
          rw [← HFX.out] at hown1
          have hb1 := (HBL.out.trans (hal.mono hsz6)).grown hgr1 (by rw [hsz2']; omega) (fun k hk => (HOWN.out.lt k hk).1)
          have HOWN1 := Lib.hid hown1; have HB1 := Lib.hid hb1
          clear hown1 hb1 hgr1 hat1 hnil1 hal hcA hsz2'
          refine hK.out _ _ (fun h => by cases h) (fun _ => ?_); clear hK K; try (simp only [Act.put, List.setIfInBounds_toArray]; dsimp only [List.set_cons_zero, List.set_cons_succ])
          refine plan_do (by rfl) (by rfl) (fun K hK => ?_)
          go_simp
          refine hK.out _ _ (fun h => by cases h) (fun _ => ?_); clear hK K; try (simp only [Act.put, List.setIfInBounds_toArray]; dsimp only [List.set_cons_zero, List.set_cons_succ])
          refine plan_nil ?_
          go_wp2_with fail
          go_roundw
          case rel => exact ⟨n + 1, by omega, by go_num, by rw [HMN.out]; exact HOWN1.out, HB1.out⟩
          case measure => simp [intOf]; omega
        · obtain rfl : n = 8 := by omega
          rw [show ((8 : Nat) : Int) = 8 from rfl]
          rw [HF8.out] at hown
          obtain ⟨A0, c0, rfl⟩ := own_shape hown
          have hcv := run_to_string Tryd.underlying35 Tryd.underlying5 Tryd.underlying9 c0 (Sees.of_own hown)
          obtain ⟨X, hX⟩ : ∃ X, X = str (sha l) := ⟨_, rfl⟩
          rw [← hX] at hcv
          have HX := Lib.hid hX; clear hX hown
          go_wp2_with fail
          go_ret
          exact ⟨by rw [← HX.out]; rfl, HBR.out.trans (hbl.mono HBR.out.size)⟩
end Go.Proofs.YtldgnckchlbadaaDoor
