/-
  The digest's padding, and octets one behind the other, walked.
-/
import Derived.Test.YtldgnckchlbadaaDoorSha3
import Derived.Test.YtldgnckchlbadaaDoorGA
import Derived.Lib.AppendZeros
namespace Go.Proofs.YtldgnckchlbadaaDoor
set_option maxRecDepth 4000
open Go.RowKit

theorem grow_any (n : Nat) (hn : n ≤ 1000000) (w : World) : Calls Tryd.prog 82 #[.slice none 0 0, .int .i64 n] w fun e w' => ∃ v, e = .returned v ∧ w'.ownsRow w.heap.size 5 1 v 0 [] ∧ Below w.heap.size w w' := by
  rcases Nat.eq_zero_or_pos n with rfl | h0
  · go_enter Tryd.func82, Tryd.ntmps82
    go_wp2_with fail
    go_ret
    exact ⟨_, rfl, World.ownsRow_nil _ _ _ _, Below.refl _ _⟩
  · obtain ⟨i, hi, hz, hs, hb⟩ := info_parts info_byte
    have hrz : ∀ ty, (Builtin.append_ #[35, 3] ty #[.slice none 0 0, .int .i64 n]).run Tryd.prog w = _ := fun ty => Lib.run_append_nil_zeros w 35 3 ty 5 i (.int .u8 0) .i64 .i64 Tryd.underlying35 Tryd.underlying3 hi hz n h0 (by omega) (by omega) (by rw [hb]; omega)
    have hG1 : n ≤ grownCap w n 0 5 := grownCap_ge w _ _ _
    have hG2 := grownCap_le_maxLen w n 0 5 (by unfold maxLen; omega)
    have hG0 : 0 ≤ grownCap w n 0 5 := by omega
    obtain ⟨G, hG⟩ : ∃ G, G = grownCap w n 0 5 := ⟨_, rfl⟩
    rw [← hG] at hrz hG1 hG2 hG0
    have hG3 : G ≤ 9223372036854775807 := by unfold maxLen at hG2; omega
    have hn1 : (0 : Int) < (n : Int) := by omega
    have hn2 : (n : Int) ≤ 1000000 := by omega
    have HRZ := Lib.hid hrz; clear hrz hG hi hz hs hb i
    go_enter Tryd.func82, Tryd.ntmps82
    go_wp2_with (at_builtin; refine Lib.wpList_append_run _ rfl _ _ _ _ rfl _ _ rfl rfl _ _ (HRZ.out _) ?_)
    go_ret
    refine ⟨_, rfl, own_mk (Nat.le_refl _) (Blk.newAt rfl rfl) hG0 hG2 ?_ rfl, (Below.refl _ w).drew.alloc (Nat.le_refl _) _⟩
    simp [size_zeroCells, Value.cells]; omega

set_option maxRecDepth 4000 in
set_option maxHeartbeats 1000000 in
theorem concat_any (ps : List Pt) (g off k c : Nat) (w : World) (hk : ps.length = k) (hC : ∀ j p, ps[j]? = some p → w.cell? ⟨g, off + j, none⟩ = some p.val) (hP : Pts w ps) (hl : (cat ps).length ≤ 1000000) (hkc : k ≤ 1000) :
    Calls Tryd.prog 70 #[.slice (some ⟨g, off, none⟩) k c] w fun e w' => ∃ v, e = .returned v ∧ w'.ownsRow w.heap.size 5 1 v (cat ps).length (u8s (cat ps)) ∧ Below w.heap.size w w' := by
  have HG := Lib.hid (grow_any (cat ps).length hl w)
  have HC := Lib.hid hC; have HP := Lib.hid hP; have HK := Lib.hid hk; clear hC hP hk
  go_enter Tryd.func70, Tryd.ntmps70
  go_wp2_with fail
  go_loop [3, 11] (fun s i => ∃ j : Nat, j ≤ k ∧ i = .int .i64 j ∧ s = .int .i64 ((cat (ps.take j)).length : Nat)) (fun _ i => k - (intOf i).toNat)
  case atStart => exact ⟨0, by omega, rfl, rfl⟩
  case round =>
    obtain ⟨j, hj, rfl, rfl⟩ := hrel
    by_cases hlt : j < k
    · have hlti : (j : Int) < (k : Int) := by omega
      have hp := List.getElem?_eq_getElem (l := ps) (i := j) (by rw [HK.out]; exact hlt)
      obtain ⟨⟨A, n, c', l⟩, hpe⟩ : ∃ p, p = ps[j]'(by rw [HK.out]; exact hlt) := ⟨_, rfl⟩
      rw [← hpe] at hp
      have hc0 := HC.out j _ hp
      have hll : l.length = n := (HP.out _ (List.mem_of_getElem? hp)).2
      have hct := cat_take ps j _ hp
      have hle := cat_le ps (j + 1)
      rw [hct, List.length_append] at hle
      simp only at hle
      have hnx : (cat (ps.take (j + 1))).length = (cat (ps.take j)).length + n := by rw [hct, List.length_append, ← hll]
      generalize (cat (ps.take j)).length = x at *
      have hx : x + n ≤ 1000000 := by omega
      simp only [Pt.val] at hc0
      have HNX := Lib.hid hnx
      clear hct hnx hpe hp hle hll
      go_wp2_with fail
      go_round
      case rel => exact ⟨j + 1, by omega, by go_num, by rw [HNX.out]; go_num⟩
      case measure => simp [intOf]; omega
    · obtain rfl : j = k := by omega
      rw [List.take_of_length_le (by rw [HK.out]; exact Nat.le_refl _)]
      have hge : ¬ ((j : Int) < (j : Int)) := by omega
      obtain ⟨L, hL⟩ : ∃ L, L = (cat ps).length := ⟨_, rfl⟩
      rw [← hL] at HG hl ⊢
      have HL := Lib.hid hL; clear hL
      go_wp2_with fail
      refine HG.out.mono ?_
      rintro e w1 ⟨v0, rfl, hown, hb⟩
      obtain ⟨A0, c0, rfl⟩ := own_shape hown
      have HOWN := Lib.hid hown; have HB := Lib.hid hb; clear hown hb
      go_wp2_with fail
      go_loopw [6, 27] (fun v i wr => ∃ m : Nat, m ≤ j ∧ i = .int .i64 m ∧ wr.ownsRow w.heap.size 5 1 v (cat (ps.take m)).length (u8s (cat (ps.take m))) ∧ Below w.heap.size w wr) (fun _ i _ => j - (intOf i).toNat)
      case atStart => exact ⟨0, by omega, rfl, HOWN.out, HB.out⟩
      case round =>
        clear HOWN HB
        obtain ⟨m, hm, rfl, hown, hbr⟩ := hrel
        by_cases hlt : m < j
        · have hlti : (m : Int) < (j : Int) := by omega
          have hp := List.getElem?_eq_getElem (l := ps) (i := m) (by rw [HK.out]; exact hlt)
          obtain ⟨⟨A, n, c', l⟩, hpe⟩ : ∃ p, p = ps[m]'(by rw [HK.out]; exact hlt) := ⟨_, rfl⟩
          rw [← hpe] at hp
          have hc0 := (hbr.cell (World.block_lt_of_cell? w _ (HC.out m _ hp))).trans (HC.out m _ hp)
          obtain ⟨hS, hll⟩ := HP.out _ (List.mem_of_getElem? hp)
          simp only at hll hS
          have hS1 := hS.below hbr
          have hct := cat_take ps m _ hp
          have hle := cat_le ps (m + 1)
          simp only at hct
          simp only [Pt.val] at hc0
          rw [hct, List.length_append] at hle
          have hnx : (cat (ps.take (m + 1))).length = (cat (ps.take m)).length + n := by rw [hct, List.length_append, hll]
          have hux : u8s (cat (ps.take (m + 1))) = u8s (cat (ps.take m)) ++ u8s l := by rw [hct, u8s_append]
          obtain ⟨A1, c1, rfl⟩ := own_shape hown
          have HOWN := Lib.hid hown; have HB := Lib.hid hbr; have HS := Lib.hid hS1; have HNX := Lib.hid hnx; have HUX := Lib.hid hux; have HLL := Lib.hid hll
          clear hown hbr hS hS1 hnx hux hct hpe hp
          generalize (cat (ps.take m)).length = x at *
          have hxn : x + n ≤ 1000000 := by have := HLL.out; have := HL.out; omega
          have hbz : w.heap.size ≤ wr.heap.size := HB.out.size
          clear hll hle
          go_wp2_with (at_builtin; refine wpList_app rfl (.tmp 31) (.tmp 32) _ rfl w.heap.size 5 _ 1 1 Tryd.underlying35 info_byte rfl (by decide) _ x _ rfl HOWN.out A n c' (u8s l) rfl HS.out (u8s_one l) (by unfold maxLen; omega) (by omega) hbz ?_; intro v1 w2 hown1 hgr1 hat1 hnil1; rw [← HNX.out, ← HUX.out] at hown1; have hb2 := HB.out.grown hgr1 hbz (fun k hk => (HOWN.out.lt k hk).1); have HOWN1 := Lib.hid hown1; have HB2 := Lib.hid hb2; clear hown1 hgr1 hat1 hnil1 hb2)
          go_roundw
          case rel => exact ⟨m + 1, by omega, by go_num, HOWN1.out, HB2.out⟩
          case measure => simp [intOf]; omega
        · obtain rfl : m = j := by omega
          rw [List.take_of_length_le (by rw [HK.out]; exact Nat.le_refl _)] at hown
          have hge : ¬ ((m : Int) < (m : Int)) := by omega
          rw [← HL.out] at hown
          have HOWN := Lib.hid hown; clear hown
          go_wp2_with fail
          go_ret
          exact ⟨_, rfl, by rw [← HL.out]; exact HOWN.out, hbr⟩

def lenV : Value → Nat | .slice _ n _ => n | _ => 0
theorem padd_take (l : List UInt8) (j : Nat) : ∀ m, j < m → List.replicate (j + 1) (0 : UInt8) = List.replicate j 0 ++ [0] := fun _ _ => List.replicate_succ'
theorem byte_cell (b : Nat) (h : b < 256) : u8s [UInt8.ofNat b] = [.int .u8 (b : Nat)] := by simp [u8s, UInt8.toNat_ofNat', Nat.mod_eq_of_lt h]

set_option maxRecDepth 4000 in
set_option maxHeartbeats 1000000 in
theorem padded_any (base : Nat) (v : Value) (l : List UInt8) (w : World) (hO : w.ownsRow base 5 1 v l.length (u8s l)) (hl : l.length ≤ 1000000) (hb : base ≤ w.heap.size) :
    Calls Tryd.prog 69 #[v] w fun e w' => ∃ v', e = .returned v' ∧ w'.ownsRow base 5 1 v' (padd l).length (u8s (padd l)) ∧ Below base w w' := by
  obtain ⟨A0, c0, rfl⟩ := own_shape hO
  obtain ⟨n, hn⟩ : ∃ n, n = l.length := ⟨_, rfl⟩
  rw [← hn] at hO hl
  have hz : padz l.length = (119 - n % 64) % 64 := by rw [hn]; rfl
  have hpd : padd l = (l ++ (128 :: List.replicate (padz l.length) 0)) ++ be (8 * n) 8 := by rw [padd, ← hn]; simp
  obtain ⟨z, hzz⟩ : ∃ z, z = padz l.length := ⟨_, rfl⟩
  rw [← hzz] at hz hpd
  obtain ⟨M, hM⟩ : ∃ M : Nat → List UInt8, M = fun j => l ++ (128 :: List.replicate j 0) := ⟨_, rfl⟩
  have hMl : ∀ j, (M j).length = n + 1 + j := fun j => by rw [hM, hn]; simp; omega
  have hM0 : u8s (M 0) = u8s l ++ [.int .u8 128] := by rw [hM]; show u8s (l ++ [128]) = _; rw [u8s_append]; rfl
  have hMs : ∀ j, u8s (M (j + 1)) = u8s (M j) ++ [.int .u8 0] := fun j => by
    rw [hM]
    show u8s (l ++ (128 :: List.replicate (j + 1) 0)) = u8s (l ++ (128 :: List.replicate j 0)) ++ u8s [0]
    rw [← u8s_append, List.replicate_succ', ← List.cons_append, ← List.append_assoc]
  have hMz : padd l = M z ++ be (8 * n) 8 := by rw [hpd, hM]
  rw [← hn]
  have HO := Lib.hid hO; have HM0 := Lib.hid hM0; have HMS := Lib.hid hMs; have HML := Lib.hid hMl; have HMZ := Lib.hid hMz
  clear hO hM0 hMs hMl hMz hM hpd hzz hn
  go_enter Tryd.func69, Tryd.ntmps69
  go_wp2_with (at_builtin; refine wpList_app rfl (.tmp 7) (.tmp 8) _ rfl base 5 _ 1 1 Tryd.underlying35 info_byte rfl (by decide) _ n _ rfl (own_below HO.out ((Below.refl _ _).alloc (Nat.le_refl _) _)) (some ⟨w.heap.size, 0, none⟩) 1 _ [.int .u8 128] rfl (sees_new w _ [.int .u8 128] 1 1 rfl) (by simp [Value.oneCell']) (by unfold maxLen; omega) (by omega) (by simp; omega) ?_; intro v1 w1 hown1 hgr1 hat1 hnil1; rw [← HM0.out] at hown1; have hb1 := ((Below.refl base w).alloc hb _).grown hgr1 (by simp; omega) (fun k hk => (HO.out.lt k hk).1); have HOWN1 := Lib.hid hown1; have HB1 := Lib.hid hb1; clear hown1 hgr1 hat1 hnil1 hb1)
  go_loopw [0] (fun v wr => ∃ (j : Nat) (A : Option Addr) (c : Nat), j ≤ z ∧ v = .slice A (n + 1 + j) c ∧ wr.ownsRow base 5 1 v (n + 1 + j) (u8s (M j)) ∧ Below base w wr) (fun v _ => z + n + 1 - lenV v)
  case atStart =>
    obtain ⟨A1, c1, rfl⟩ := own_shape HOWN1.out
    exact ⟨0, A1, c1, by omega, rfl, HOWN1.out, HB1.out⟩
  case round =>
    clear HOWN1 HB1 HM0
    obtain ⟨j, A1, c1, hj, rfl, hown, hbr⟩ := hrel
    have hbz := hbr.size
    by_cases hlt : j < z
    · have htm : ((n + 1 + j : Nat) : Int).tmod 64 = (((n + 1 + j) % 64 : Nat) : Int) := by rw [Int.tmod_eq_emod_of_nonneg (by omega)]; omega
      obtain ⟨q, hq⟩ : ∃ q, q = (n + 1 + j) % 64 := ⟨_, rfl⟩
      rw [← hq] at htm
      have hq56 : ¬ q = 56 := by omega
      have hqq : ((q : Int) == 56) = false := by rw [beq_eq_false_iff_ne]; omega
      obtain ⟨m, hm⟩ : ∃ m, m = n + 1 + j := ⟨_, rfl⟩
      have hM1 := HMS.out j
      have hmr : n + 1 + (j + 1) = m + 1 := by omega
      rw [← hm] at hown htm ⊢
      have hml : m ≤ 1000100 := by omega
      have HOWN := Lib.hid hown; have HB := Lib.hid hbr; have HM1 := Lib.hid hM1; have HMR := Lib.hid hmr
      clear hown hbr hM1 hq hm hmr
      go_wp2_with (at_builtin; refine wpList_app rfl (.tmp 14) (.tmp 15) _ rfl base 5 _ 1 1 Tryd.underlying35 info_byte rfl (by decide) _ m _ rfl (own_below HOWN.out ((Below.refl _ _).alloc (Nat.le_refl _) _)) (some ⟨wr.heap.size, 0, none⟩) 1 _ [.int .u8 0] rfl (sees_new wr _ [.int .u8 0] 1 1 rfl) (by simp [Value.oneCell']) (by unfold maxLen; omega) (by omega) (by simp; omega) ?_; intro v1 w1 hown1 hgr1 hat1 hnil1; rw [← HM1.out] at hown1; have hb1 := (HB.out.alloc (by omega) _).grown hgr1 (by simp; omega) (fun k hk => (HOWN.out.lt k hk).1); obtain ⟨A2, c2, rfl⟩ := own_shape hown1; have HOWN1 := Lib.hid hown1; have HB1 := Lib.hid hb1; clear hown1 hgr1 hat1 hnil1 hb1)
      go_roundw
      case rel => exact ⟨j + 1, A2, c2, by omega, by rw [HMR.out], by rw [HMR.out]; exact HOWN1.out, HB1.out⟩
      case measure => simp [lenV]; have := HMR.out; omega
    · obtain rfl : j = z := by omega
      have htm : ((n + 1 + j : Nat) : Int).tmod 64 = 56 := by rw [Int.tmod_eq_emod_of_nonneg (by omega)]; omega
      obtain ⟨m, hm⟩ : ∃ m, m = n + 1 + j := ⟨_, rfl⟩
      have hMz := HMZ.out
      have hMl := HML.out j
      obtain ⟨L, hL⟩ : ∃ L, L = M j := ⟨_, rfl⟩
      rw [← hL] at hown hMz hMl
      rw [← hm] at hown htm hMl ⊢
      have hml : m ≤ 1000100 := by omega
      have HOWN := Lib.hid hown; have HB := Lib.hid hbr; have HMZ := Lib.hid hMz; have HMl := Lib.hid hMl
      clear hown hbr hm hMz hMl hL HMS HML hz
      go_wp2_with fail
      go_loopw [0, 4] (fun v i wr => ∃ (k : Nat) (A : Option Addr) (c : Nat), k ≤ 8 ∧ i = .int .i64 (7 - (k : Int)) ∧ v = .slice A (m + k) c ∧ wr.ownsRow base 5 1 v (m + k) (u8s (L ++ (be (8 * n) 8).take k)) ∧ Below base w wr) (fun _ i _ => (intOf i + 1).toNat)
      case atStart => exact ⟨0, A1, c1, by omega, by simp, by simp, by simpa using HOWN.out, HB.out⟩
      case round =>
        clear HOWN HB
        obtain ⟨k, A3, c3, hk, rfl, rfl, hown, hbr⟩ := hrel
        have hbz := hbr.size
        by_cases hlt : k < 8
        · obtain ⟨e, he⟩ : ∃ e, 7 = k + e := ⟨7 - k, by omega⟩
          have hei : (7 : Int) - (k : Int) = (e : Int) := by omega
          rw [hei]
          obtain ⟨q, hq⟩ : ∃ q, q = (8 * n) / 2 ^ (8 * e) := ⟨_, rfl⟩
          have hqi : (8 * (n : Int)) / 2 ^ (8 * e) = (q : Int) := by rw [hq]; simp
          obtain ⟨b, hbb⟩ : ∃ b, b = q % 256 := ⟨_, rfl⟩
          have hb256 : b < 256 := by omega
          have hqb : IntKind.u8.wrap (q : Int) = (b : Int) := by rw [IntKind.wrap_u8']; omega
          have hqb2 : (q : Int) % 256 = (b : Int) := by omega
          have hLn : u8s (L ++ (be (8 * n) 8).take (k + 1)) = u8s (L ++ (be (8 * n) 8).take k) ++ [.int .u8 (b : Nat)] := by
            rw [be_get (8 * n) 8 k hlt, ← List.append_assoc, u8s_append (L ++ _), ← byte_cell b hb256, hbb, hq, show 8 - 1 - k = e by omega]
            congr 3
            rw [Nat.pow_mul]
          have hn8 : (8 * (e : Int)).toNat = 8 * e := by omega
          have h08 : (0 : Int) ≤ 8 * (e : Int) := by omega
          have hm8 : min (8 * e) 64 = 8 * e := by omega
          have he0 : (0 : Int) ≤ (e : Int) := by omega
          have he8 : (e : Int) < 8 := by omega
          have hni : (n : Int) ≤ 1000000 := by omega
          obtain ⟨x, hx⟩ : ∃ x, x = m + k := ⟨_, rfl⟩
          have hxx : m + (k + 1) = x + 1 := by omega
          rw [← hx] at hown ⊢
          have hxl : x ≤ 1000200 := by omega
          have hxw : ¬ 9223372036854775807 < x := by omega
          have HOWN := Lib.hid hown; have HB := Lib.hid hbr; have HLN := Lib.hid hLn; have HE := Lib.hid he; have HX := Lib.hid hxx
          clear hown hbr hLn he hxx hx hq hbb hei
          go_wp2_with (at_builtin; refine wpList_app rfl (.tmp 21) (.tmp 28) _ rfl base 5 _ 1 1 Tryd.underlying35 info_byte rfl (by decide) _ x _ rfl (own_below HOWN.out ((Below.refl _ _).alloc (Nat.le_refl _) _)) (some ⟨wr.heap.size, 0, none⟩) 1 _ [.int .u8 (b : Nat)] rfl (sees_new wr _ [.int .u8 (b : Nat)] 1 1 rfl) (by simp [Value.oneCell']) (by unfold maxLen; omega) (by omega) (by simp; omega) ?_; intro v1 w1 hown1 hgr1 hat1 hnil1; rw [← HLN.out] at hown1; have hb1 := (HB.out.alloc (by omega) _).grown hgr1 (by simp; omega) (fun k hk => (HOWN.out.lt k hk).1); obtain ⟨A4, c4, rfl⟩ := own_shape hown1; have HOWN1 := Lib.hid hown1; have HB1 := Lib.hid hb1; clear hown1 hgr1 hat1 hnil1 hb1)
          go_roundw
          case rel => exact ⟨k + 1, A4, c4, by omega, by have := HE.out; go_num, by rw [HX.out], by rw [HX.out]; exact HOWN1.out, HB1.out⟩
          case measure => simp [intOf]
        · obtain rfl : k = 8 := by omega
          rw [List.take_of_length_le (by rw [length_be]; exact Nat.le_refl _), ← HMZ.out] at hown
          rw [show (7 : Int) - ((8 : Nat) : Int) = -1 by omega]
          have hlen : m + 8 = (padd l).length := by rw [HMZ.out, List.length_append, HMl.out, length_be]
          have HLEN := Lib.hid hlen; have HOWN := Lib.hid hown; clear hlen hown
          go_wp2_with fail
          go_ret
          exact ⟨_, rfl, by rw [← HLEN.out]; exact HOWN.out, hbr⟩
end Go.Proofs.YtldgnckchlbadaaDoor
