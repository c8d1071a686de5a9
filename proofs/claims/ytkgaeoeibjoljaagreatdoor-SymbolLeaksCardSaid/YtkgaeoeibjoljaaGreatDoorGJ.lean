/-
  Parts: slices of octets, and what they have.
  The digest's padding, and octets one behind the other, walked.
  The code's digest, walked: a loop over an iterator.
-/
import Derived.Test.YtkgaeoeibjoljaaGreatDoorGA
import Derived.Test.YtkgaeoeibjoljaaGreatDoorSha3
import Derived.Lib.AppendZeros
import Derived.RangeFuncFrom
import Derived.RangeFuncNested
import Derived.RangeFuncBound
import Derived.RangeFuncCalls
import Derived.RangeFuncLeaves
import Derived.Shelf.Abstract
import Derived.OwnWalkIn
import Derived.TacticsInMore
import Derived.LoopNIn
import Derived.LoopIn
import Derived.Maps.OwnIn
import Derived.RegionIn
import Derived.Shelf.RegionOpen
namespace Go.Proofs.YtkgaeoeibjoljaaGreatDoor
section
set_option maxRecDepth 4000
open Go.RowKit
structure Pt where
 A : Option Addr
 n : Nat
 c : Nat
 l : List UInt8
def Pt.val (p : Pt) : Value := .slice p.A p.n p.c
def Pts (w : World) (ps : List Pt) : Prop := ∀ p ∈ ps, Sees w 1 p.A p.n (u8s p.l) /\ p.l.length = p.n
def cat (ps : List Pt) : List UInt8 := ps.flatMap (·.l)
theorem Pts.below {w w' : World} {ps : List Pt} (h : Pts w ps) (hb : Below w.heap.size w w') : Pts w' ps := fun p hp => ⟨(h p hp).1.below hb, (h p hp).2⟩
theorem cat_take (ps : List Pt) (j : Nat) (p : Pt) (h : ps[j]? = some p) : cat (ps.take (j + 1)) = cat (ps.take j) ++ p.l := by
 rw [List.take_add_one, h, cat, cat, List.flatMap_append]
 simp
theorem cat_le (ps : List Pt) (j : Nat) : (cat (ps.take j)).length <= (cat ps).length := by
 conv => rhs; rw [<- List.take_append_drop j ps]
 rw [cat, cat, List.flatMap_append, List.length_append]
 omega
end
section
set_option maxRecDepth 4000
open Go.RowKit
theorem grow_any (n : Nat) (hn : n <= 1000000) (w : World) : Calls Tryz.prog 106 #[.slice none 0 0, .int .i64 n] w fun e w' => ∃ v, e = .returned v /\ w'.ownsRow w.heap.size 5 1 v 0 [] /\ Below w.heap.size w w' := by
 rcases Nat.eq_zero_or_pos n with rfl | h0
 ·go_enter Tryz.func106, Tryz.ntmps106
  go_wp2_with fail
  go_ret
  exact ⟨_, rfl, World.ownsRow_nil _ _ _ _, Below.refl _ _⟩
 ·obtain ⟨i, hi, hz, hs, hb⟩ := info_parts info_byte
  have hrz : ∀ ty, (Builtin.append_ #[22, 3] ty #[.slice none 0 0, .int .i64 n]).run Tryz.prog w = _ := fun ty => Lib.run_append_nil_zeros w 22 3 ty 5 i (.int .u8 0) .i64 .i64 Tryz.underlying22 Tryz.underlying3 hi hz n h0 (by omega) (by omega) (by rw [hb]; omega)
  have hG1 : n <= grownCap w n 0 5 := grownCap_ge w _ _ _
  have hG2 := grownCap_le_maxLen w n 0 5 (by unfold maxLen; omega)
  have hG0 : 0 <= grownCap w n 0 5 := by omega
  obtain ⟨G, hG⟩ : ∃ G, G = grownCap w n 0 5 := ⟨_, rfl⟩
  rw [<- hG] at hrz hG1 hG2 hG0
  have hG3 : G <= 9223372036854775807 := by unfold maxLen at hG2; omega
  have hn1 : (0 : Int) < (n : Int) := by omega
  have hn2 : (n : Int) <= 1000000 := by omega
  have HRZ := Lh hrz; clear hrz hG hi hz hs hb i
  go_enter Tryz.func106, Tryz.ntmps106
  go_wp2_with (at_builtin; refine Lib.wpList_append_run _ rfl _ _ _ _ rfl _ _ rfl rfl _ _ (HRZ.out _) ?_)
  go_ret
  refine ⟨_, rfl, own_mk (Nat.le_refl _) (Blk.newAt rfl rfl) hG0 hG2 ?_ rfl, (Below.refl _ w).drew.alloc (Nat.le_refl _) _⟩
  simp [size_zeroCells, Value.cells]; omega
set_option maxRecDepth 4000 in
set_option maxHeartbeats 1000000 in
theorem concat_any (ps : List Pt) (g off k c : Nat) (w : World) (hk : ps.length = k) (hC : ∀ j p, ps[j]? = some p -> w.cell? ⟨g, off + j, none⟩ = some p.val) (hP : Pts w ps) (hl : (cat ps).length <= 1000000) (hkc : k <= 1000) :
  Calls Tryz.prog 63 #[.slice (some ⟨g, off, none⟩) k c] w fun e w' => ∃ v, e = .returned v /\ w'.ownsRow w.heap.size 5 1 v (cat ps).length (u8s (cat ps)) /\ Below w.heap.size w w' := by
 have HG := Lh (grow_any (cat ps).length hl w)
 have HC := Lh hC; have HP := Lh hP; have HK := Lh hk; clear hC hP hk
 go_enter Tryz.func63, Tryz.ntmps63
 go_wp2_with fail
 go_loop [3, 11] (fun s i => ∃ j : Nat, j <= k /\ i = .int .i64 j /\ s = .int .i64 ((cat (ps.take j)).length : Nat)) (fun _ i => k - (intOf i).toNat)
 case atStart => exact ⟨0, by omega, rfl, rfl⟩
 case round =>
  obtain ⟨j, hj, rfl, rfl⟩ := hrel
  by_cases hlt : j < k
  ·have hlti : (j : Int) < (k : Int) := by omega
   have hp := List.getElem?_eq_getElem (l := ps) (i := j) (by rw [HK.out]; exact hlt)
   obtain ⟨⟨A, n, c', l⟩, hpe⟩ : ∃ p, p = ps[j]'(by rw [HK.out]; exact hlt) := ⟨_, rfl⟩
   rw [<- hpe] at hp
   have hc0 := HC.out j _ hp
   have hll : l.length = n := (HP.out _ (List.mem_of_getElem? hp)).2
   have hct := cat_take ps j _ hp
   have hle := cat_le ps (j + 1)
   rw [hct, List.length_append] at hle
   simp only at hle
   have hnx : (cat (ps.take (j + 1))).length = (cat (ps.take j)).length + n := by rw [hct, List.length_append, <- hll]
   generalize (cat (ps.take j)).length = x at *
   have hx : x + n <= 1000000 := by omega
   simp only [Pt.val] at hc0
   have HNX := Lh hnx
   clear hct hnx hpe hp hle hll
   go_wp2_with fail
   go_round
   case rel => exact ⟨j + 1, by omega, by go_num, by rw [HNX.out]; go_num⟩
   case measure => simp [intOf]; omega
  ·obtain rfl : j = k := by omega
   rw [List.take_of_length_le (by rw [HK.out]; exact Nat.le_refl _)]
   have hge : ¬ ((j : Int) < (j : Int)) := by omega
   obtain ⟨L, hL⟩ : ∃ L, L = (cat ps).length := ⟨_, rfl⟩
   rw [<- hL] at HG hl ⊢
   have HL := Lh hL; clear hL
   go_wp2_with fail
   refine HG.out.mono ?_
   rintro e w1 ⟨v0, rfl, hown, hb⟩
   obtain ⟨A0, c0, rfl⟩ := own_shape hown
   have HOWN := Lh hown; have HB := Lh hb; clear hown hb
   go_wp2_with fail
   go_loopw [6, 27] (fun v i wr => ∃ m : Nat, m <= j /\ i = .int .i64 m /\ wr.ownsRow w.heap.size 5 1 v (cat (ps.take m)).length (u8s (cat (ps.take m))) /\ Below w.heap.size w wr) (fun _ i _ => j - (intOf i).toNat)
   case atStart => exact ⟨0, by omega, rfl, HOWN.out, HB.out⟩
   case round =>
    clear HOWN HB
    obtain ⟨m, hm, rfl, hown, hbr⟩ := hrel
    by_cases hlt : m < j
    ·have hlti : (m : Int) < (j : Int) := by omega
     have hp := List.getElem?_eq_getElem (l := ps) (i := m) (by rw [HK.out]; exact hlt)
     obtain ⟨⟨A, n, c', l⟩, hpe⟩ : ∃ p, p = ps[m]'(by rw [HK.out]; exact hlt) := ⟨_, rfl⟩
     rw [<- hpe] at hp
     have hc0 := (hbr.cell (World.block_lt_of_cell? w _ (HC.out m _ hp))).trans (HC.out m _ hp)
     obtain ⟨hS, hll⟩ := HP.out _ (List.mem_of_getElem? hp)
     simp only at hll hS
     have hS1 := hS.below hbr
     have hct := cat_take ps m _ hp
     have hle := cat_le ps (m + 1)
     simp only at hct
     simp only [Pt.val] at hc0
     rw [hct, List.length_append] at hle
     have hnx : (cat (ps.take (m + 1))).length = (cat (ps.take m)).length + n := by rw [hct, List.length_append, hll]
     have hux : u8s (cat (ps.take (m + 1))) = u8s (cat (ps.take m)) ++ u8s l := by rw [hct, u8s_append]
     obtain ⟨A1, c1, rfl⟩ := own_shape hown
     have HOWN := Lh hown; have HB := Lh hbr; have HS := Lh hS1; have HNX := Lh hnx; have HUX := Lh hux; have HLL := Lh hll
     clear hown hbr hS hS1 hnx hux hct hpe hp
     generalize (cat (ps.take m)).length = x at *
     have hxn : x + n <= 1000000 := by have := HLL.out; have := HL.out; omega
     have hbz : w.heap.size <= wr.heap.size := HB.out.size
     clear hll hle
     go_wp2_with (at_builtin; refine wpList_app rfl (.tmp 31) (.tmp 32) _ rfl w.heap.size 5 _ 1 1 Tryz.underlying22 info_byte rfl (by decide) _ x _ rfl HOWN.out A n c' (u8s l) rfl HS.out (u8s_one l) (by unfold maxLen; omega) (by omega) hbz ?_; intro v1 w2 hown1 hgr1 hat1 hnil1; rw [<- HNX.out, <- HUX.out] at hown1; have hb2 := HB.out.grown hgr1 hbz (fun k hk => (HOWN.out.lt k hk).1); have HOWN1 := Lh hown1; have HB2 := Lh hb2; clear hown1 hgr1 hat1 hnil1 hb2)
     go_roundw
     case rel => exact ⟨m + 1, by omega, by go_num, HOWN1.out, HB2.out⟩
     case measure => simp [intOf]; omega
    ·obtain rfl : m = j := by omega
     rw [List.take_of_length_le (by rw [HK.out]; exact Nat.le_refl _)] at hown
     have hge : ¬ ((m : Int) < (m : Int)) := by omega
     rw [<- HL.out] at hown
     have HOWN := Lh hown; clear hown
     go_wp2_with fail
     go_ret
     exact ⟨_, rfl, by rw [<- HL.out]; exact HOWN.out, hbr⟩
def lenV : Value -> Nat | .slice _ n _ => n | _ => 0
theorem byte_cell (b : Nat) (h : b < 256) : u8s [UInt8.ofNat b] = [.int .u8 (b : Nat)] := by simp [u8s, UInt8.toNat_ofNat', Nat.mod_eq_of_lt h]
set_option maxRecDepth 4000 in
set_option maxHeartbeats 1000000 in
theorem padded_any (base : Nat) (v : Value) (l : List UInt8) (w : World) (hO : w.ownsRow base 5 1 v l.length (u8s l)) (hl : l.length <= 1000000) (hb : base <= w.heap.size) :
  Calls Tryz.prog 166 #[v] w fun e w' => ∃ v', e = .returned v' /\ w'.ownsRow base 5 1 v' (padd l).length (u8s (padd l)) /\ Below base w w' := by
 obtain ⟨A0, c0, rfl⟩ := own_shape hO
 obtain ⟨n, hn⟩ : ∃ n, n = l.length := ⟨_, rfl⟩
 rw [<- hn] at hO hl
 have hz : padz l.length = (119 - n % 64) % 64 := by rw [hn]; rfl
 have hpd : padd l = (l ++ (128 :: List.replicate (padz l.length) 0)) ++ be (8 * n) 8 := by rw [padd, <- hn]; simp
 obtain ⟨z, hzz⟩ : ∃ z, z = padz l.length := ⟨_, rfl⟩
 rw [<- hzz] at hz hpd
 obtain ⟨M, hM⟩ : ∃ M : Nat -> List UInt8, M = fun j => l ++ (128 :: List.replicate j 0) := ⟨_, rfl⟩
 have hMl : ∀ j, (M j).length = n + 1 + j := fun j => by rw [hM, hn]; simp; omega
 have hM0 : u8s (M 0) = u8s l ++ [.int .u8 128] := by rw [hM]; show u8s (l ++ [128]) = _; rw [u8s_append]; rfl
 have hMs : ∀ j, u8s (M (j + 1)) = u8s (M j) ++ [.int .u8 0] := fun j => by
  rw [hM]
  show u8s (l ++ (128 :: List.replicate (j + 1) 0)) = u8s (l ++ (128 :: List.replicate j 0)) ++ u8s [0]
  rw [<- u8s_append, List.replicate_succ', <- List.cons_append, <- List.append_assoc]
 have hMz : padd l = M z ++ be (8 * n) 8 := by rw [hpd, hM]
 rw [<- hn]
 have HO := Lh hO; have HM0 := Lh hM0; have HMS := Lh hMs; have HML := Lh hMl; have HMZ := Lh hMz
 clear hO hM0 hMs hMl hMz hM hpd hzz hn
 go_enter Tryz.func166, Tryz.ntmps166
 go_wp2_with (at_builtin; refine wpList_app rfl (.tmp 7) (.tmp 8) _ rfl base 5 _ 1 1 Tryz.underlying22 info_byte rfl (by decide) _ n _ rfl (own_below HO.out ((Below.refl _ _).alloc (Nat.le_refl _) _)) (some ⟨w.heap.size, 0, none⟩) 1 _ [.int .u8 128] rfl (sees_new w _ [.int .u8 128] 1 1 rfl) (by simp [Value.oneCell']) (by unfold maxLen; omega) (by omega) (by simp; omega) ?_; intro v1 w1 hown1 hgr1 hat1 hnil1; rw [<- HM0.out] at hown1; have hb1 := ((Below.refl base w).alloc hb _).grown hgr1 (by simp; omega) (fun k hk => (HO.out.lt k hk).1); have HOWN1 := Lh hown1; have HB1 := Lh hb1; clear hown1 hgr1 hat1 hnil1 hb1)
 go_loopw [0] (fun v wr => ∃ (j : Nat) (A : Option Addr) (c : Nat), j <= z /\ v = .slice A (n + 1 + j) c /\ wr.ownsRow base 5 1 v (n + 1 + j) (u8s (M j)) /\ Below base w wr) (fun v _ => z + n + 1 - lenV v)
 case atStart =>
  obtain ⟨A1, c1, rfl⟩ := own_shape HOWN1.out
  exact ⟨0, A1, c1, by omega, rfl, HOWN1.out, HB1.out⟩
 case round =>
  clear HOWN1 HB1 HM0
  obtain ⟨j, A1, c1, hj, rfl, hown, hbr⟩ := hrel
  have hbz := hbr.size
  by_cases hlt : j < z
  ·have htm : ((n + 1 + j : Nat) : Int).tmod 64 = (((n + 1 + j) % 64 : Nat) : Int) := by rw [Int.tmod_eq_emod_of_nonneg (by omega)]; omega
   obtain ⟨q, hq⟩ : ∃ q, q = (n + 1 + j) % 64 := ⟨_, rfl⟩
   rw [<- hq] at htm
   have hq56 : ¬ q = 56 := by omega
   have hqq : ((q : Int) == 56) = false := by rw [beq_eq_false_iff_ne]; omega
   obtain ⟨m, hm⟩ : ∃ m, m = n + 1 + j := ⟨_, rfl⟩
   have hM1 := HMS.out j
   have hmr : n + 1 + (j + 1) = m + 1 := by omega
   rw [<- hm] at hown htm ⊢
   have hml : m <= 1000100 := by omega
   have HOWN := Lh hown; have HB := Lh hbr; have HM1 := Lh hM1; have HMR := Lh hmr
   clear hown hbr hM1 hq hm hmr
   go_wp2_with (at_builtin; refine wpList_app rfl (.tmp 14) (.tmp 15) _ rfl base 5 _ 1 1 Tryz.underlying22 info_byte rfl (by decide) _ m _ rfl (own_below HOWN.out ((Below.refl _ _).alloc (Nat.le_refl _) _)) (some ⟨wr.heap.size, 0, none⟩) 1 _ [.int .u8 0] rfl (sees_new wr _ [.int .u8 0] 1 1 rfl) (by simp [Value.oneCell']) (by unfold maxLen; omega) (by omega) (by simp; omega) ?_; intro v1 w1 hown1 hgr1 hat1 hnil1; rw [<- HM1.out] at hown1; have hb1 := (HB.out.alloc (by omega) _).grown hgr1 (by simp; omega) (fun k hk => (HOWN.out.lt k hk).1); obtain ⟨A2, c2, rfl⟩ := own_shape hown1; have HOWN1 := Lh hown1; have HB1 := Lh hb1; clear hown1 hgr1 hat1 hnil1 hb1)
   go_roundw
   case rel => exact ⟨j + 1, A2, c2, by omega, by rw [HMR.out], by rw [HMR.out]; exact HOWN1.out, HB1.out⟩
   case measure => simp [lenV]; have := HMR.out; omega
  ·obtain rfl : j = z := by omega
   have htm : ((n + 1 + j : Nat) : Int).tmod 64 = 56 := by rw [Int.tmod_eq_emod_of_nonneg (by omega)]; omega
   obtain ⟨m, hm⟩ : ∃ m, m = n + 1 + j := ⟨_, rfl⟩
   have hMz := HMZ.out
   have hMl := HML.out j
   obtain ⟨L, hL⟩ : ∃ L, L = M j := ⟨_, rfl⟩
   rw [<- hL] at hown hMz hMl
   rw [<- hm] at hown htm hMl ⊢
   have hml : m <= 1000100 := by omega
   have HOWN := Lh hown; have HB := Lh hbr; have HMZ := Lh hMz; have HMl := Lh hMl
   clear hown hbr hm hMz hMl hL HMS HML hz
   go_wp2_with fail
   go_loopw [0, 4] (fun v i wr => ∃ (k : Nat) (A : Option Addr) (c : Nat), k <= 8 /\ i = .int .i64 (7 - (k : Int)) /\ v = .slice A (m + k) c /\ wr.ownsRow base 5 1 v (m + k) (u8s (L ++ (be (8 * n) 8).take k)) /\ Below base w wr) (fun _ i _ => (intOf i + 1).toNat)
   case atStart => exact ⟨0, A1, c1, by omega, by simp, by simp, by simpa using HOWN.out, HB.out⟩
   case round =>
    clear HOWN HB
    obtain ⟨k, A3, c3, hk, rfl, rfl, hown, hbr⟩ := hrel
    have hbz := hbr.size
    by_cases hlt : k < 8
    ·obtain ⟨e, he⟩ : ∃ e, 7 = k + e := ⟨7 - k, by omega⟩
     have hei : (7 : Int) - (k : Int) = (e : Int) := by omega
     rw [hei]
     obtain ⟨q, hq⟩ : ∃ q, q = (8 * n) / 2 ^ (8 * e) := ⟨_, rfl⟩
     have hqi : (8 * (n : Int)) / 2 ^ (8 * e) = (q : Int) := by rw [hq]; simp
     obtain ⟨b, hbb⟩ : ∃ b, b = q % 256 := ⟨_, rfl⟩
     have hb256 : b < 256 := by omega
     have hqb : IntKind.u8.wrap (q : Int) = (b : Int) := by rw [IntKind.wrap_u8']; omega
     have hqb2 : (q : Int) % 256 = (b : Int) := by omega
     have hLn : u8s (L ++ (be (8 * n) 8).take (k + 1)) = u8s (L ++ (be (8 * n) 8).take k) ++ [.int .u8 (b : Nat)] := by
      rw [be_get (8 * n) 8 k hlt, <- List.append_assoc, u8s_append (L ++ _), <- byte_cell b hb256, hbb, hq, show 8 - 1 - k = e by omega]
      congr 3
      rw [Nat.pow_mul]
     have hn8 : (8 * (e : Int)).toNat = 8 * e := by omega
     have h08 : (0 : Int) <= 8 * (e : Int) := by omega
     have hm8 : min (8 * e) 64 = 8 * e := by omega
     have he0 : (0 : Int) <= (e : Int) := by omega
     have he8 : (e : Int) < 8 := by omega
     have hni : (n : Int) <= 1000000 := by omega
     obtain ⟨x, hx⟩ : ∃ x, x = m + k := ⟨_, rfl⟩
     have hxx : m + (k + 1) = x + 1 := by omega
     rw [<- hx] at hown ⊢
     have hxl : x <= 1000200 := by omega
     have hxw : ¬ 9223372036854775807 < x := by omega
     have HOWN := Lh hown; have HB := Lh hbr; have HLN := Lh hLn; have HE := Lh he; have HX := Lh hxx
     clear hown hbr hLn he hxx hx hq hbb hei
     go_wp2_with (at_builtin; refine wpList_app rfl (.tmp 21) (.tmp 28) _ rfl base 5 _ 1 1 Tryz.underlying22 info_byte rfl (by decide) _ x _ rfl (own_below HOWN.out ((Below.refl _ _).alloc (Nat.le_refl _) _)) (some ⟨wr.heap.size, 0, none⟩) 1 _ [.int .u8 (b : Nat)] rfl (sees_new wr _ [.int .u8 (b : Nat)] 1 1 rfl) (by simp [Value.oneCell']) (by unfold maxLen; omega) (by omega) (by simp; omega) ?_; intro v1 w1 hown1 hgr1 hat1 hnil1; rw [<- HLN.out] at hown1; have hb1 := (HB.out.alloc (by omega) _).grown hgr1 (by simp; omega) (fun k hk => (HOWN.out.lt k hk).1); obtain ⟨A4, c4, rfl⟩ := own_shape hown1; have HOWN1 := Lh hown1; have HB1 := Lh hb1; clear hown1 hgr1 hat1 hnil1 hb1)
     go_roundw
     case rel => exact ⟨k + 1, A4, c4, by omega, by have := HE.out; go_num, by rw [HX.out], by rw [HX.out]; exact HOWN1.out, HB1.out⟩
     case measure => simp [intOf]
    ·obtain rfl : k = 8 := by omega
     rw [List.take_of_length_le (by rw [length_be]; exact Nat.le_refl _), <- HMZ.out] at hown
     rw [show (7 : Int) - ((8 : Nat) : Int) = -1 by omega]
     have hlen : m + 8 = (padd l).length := by rw [HMZ.out, List.length_append, HMl.out, length_be]
     have HLEN := Lh hlen; have HOWN := Lh hown; clear hlen hown
     go_wp2_with fail
     go_ret
     exact ⟨_, rfl, by rw [<- HLEN.out]; exact HOWN.out, hbr⟩
end
section
set_option maxRecDepth 4000
open Go.RowKit Go.Shelf
attribute [local go_sem] Oper.semAt_some
section
variable {F : Fence} {nF : Nat} {P : Program}
theorem wpListIn_load_row {ops : Array Oper} {rest : List Oper} {o : Oper} {a : Act} {w : World} {Q : Exit -> Act -> World -> Prop} (hgd : o.guard = none) (ty : TypeId) (x : Operand) (ho : o.op = .load ty x)
  (g : Nat) (hx : a.eval x = .pointer (some ⟨g, 0, none⟩)) (t : TypeId) (cs : Array Value) (fr : Nat × Nat) (d : TypeDesc) (hg : w.heap[g]? = some (.cells cs t fr))
  (hu : P.underlying ty = some d) (hd : (match d with | .struct _ | .array _ _ => true | _ => false) = true) (hi : (P.info? ty).map (·.size) = some cs.size)
  (h : wpListIn F nF P ops Q rest (a.put o.dst (.agg cs)) w) : wpListIn F nF P ops Q (o :: rest) a w := by
 refine wpListIn_plain hgd fun K hK => ?_
 unfold Oper.wpIn
 refine ⟨by simp [Oper.about, ho], ?_⟩
 rw [Oper.semAt_plain F _ _ (by rw [ho]; intro c hc'; cases hc')]
 simp only [execOp, ho, hx, Instr.loadAt, Instr.sureAddr, Sem.run_bind, Sem.run_pure, Result.andThen_ok, run_loadVar_row w g t ty cs fr d hg hu hd hi]
 exact hK _ _ h
theorem wpListIn_store_row {ops : Array Oper} {rest : List Oper} {o : Oper} {a : Act} {w : World} {Q : Exit -> Act -> World -> Prop} (hgd : o.guard = none) (ty : TypeId) (x y : Operand) (ho : o.op = .store ty x y)
  (g : Nat) (cells : Array Value) (hx : a.eval x = .pointer (some ⟨g, 0, none⟩)) (hy : a.eval y = .agg cells)
  (t : TypeId) (old : Array Value) (hg : w.heap[g]? = some (.cells old t (0, 0))) (hi : (P.info? ty).map (·.size) = some cells.size)
  (hold : old.size = cells.size) (h1 : cells.all (·.oneCell') = true)
  (h : wpListIn F nF P ops Q rest (a.put o.dst undef) (w.setRow g cells)) : wpListIn F nF P ops Q (o :: rest) a w := by
 refine wpListIn_plain hgd fun K hK => ?_
 unfold Oper.wpIn
 refine ⟨by simp [Oper.about, ho], ?_⟩
 rw [Oper.semAt_plain F _ _ (by rw [ho]; intro c hc'; cases hc')]
 simp only [execOp, ho, hx, hy, Instr.storeAt, Instr.sureAddr, Sem.run_bind, Sem.run_pure, Result.andThen_ok, run_storeVar_row w g t ty old cells hg hi hold h1]
 exact hK _ _ h
end
theorem news_of_blk {w : World} {g : Nat} {t : TypeId} {cs : Array Value} (hb : Blk w g t cs) : ∀ j u, cs.toList[j]? = some u -> w.cell? ((⟨g, 0, none⟩ : Addr).add j) = some u := fun j u hu => by
 have hadd : (⟨g, 0, none⟩ : Addr).add j = ⟨g, j, none⟩ := by unfold Addr.add; split <;> simp_all
 rw [hadd, hb.cell]
 simpa using hu
def Ht (w : World) : Prop := ∃ t fr, w.heap[2]? = some (.cells (wds shH).toArray t fr)
theorem chunk_in (F : Fence) (n : Nat) (hF : F.fn 165) (hro : F.round = none) (a : Option Addr) (len cap : Nat) (w : World) :
  CallsIn F n Tryz.prog 165 #[.slice a len cap, .int .i64 64] w fun e w' => e = .returned (.func (.func 174) #[] #[.pointer (some ⟨w.heap.size, 0, none⟩), .pointer (some ⟨w.heap.size + 1, 0, none⟩)]) /\ w' = (w.alloc (.cells #[.slice a len cap] 22)).alloc (.cells #[.int .i64 64] 3) := by
 refine callsIn_of_wp Tryz.func165 rfl hF ?_ hro
 simp only [Tryz.ntmps165, List.size_toArray, List.length_cons, List.length_nil, Nat.reduceAdd, Nat.reduceSub, Array.replicate_succ, Array.replicate_zero, List.push_toArray, List.append_toArray, List.nil_append, List.cons_append]
 gi_wp2
 go_ret
 exact ⟨rfl, rfl⟩
def Bx (B1 B2 : Nat) (W W' : World) : Prop := W'.cell? ⟨B1, 0, none⟩ = W.cell? ⟨B1, 0, none⟩ /\ W'.cell? ⟨B2, 0, none⟩ = W.cell? ⟨B2, 0, none⟩
def chv (b N : Nat) (x : Nat) : Array Value := #[.slice (some ⟨b, 64 * min x (N - 1), none⟩) 64 64]
set_option maxRecDepth 100000 in
set_option maxHeartbeats 2000000 in
theorem chunk1_in (F : Fence) (n : Nat) (h7 : F.fn 174) (hro : F.round = none) (hn : 1 <= n) (l B1 B2 b N cap : Nat) (hN : N <= 100000) (hcap : 64 * N <= cap) (hcm : cap <= maxLen) (J Jx : List Nat -> World -> Prop)
  (hY : ∀ pre x W, J pre W -> pre.length < N -> YieldAt F (n - 1) Tryz.prog l (chv b N x) W fun e W' =>
   (e = .returned (.bool true) /\ J (pre ++ [x]) W' /\ Bx B1 B2 W W') \/ (e = .returned (.bool false) /\ Jx (pre ++ [x]) W'))
  (hJd : ∀ pre W, J pre W -> J pre W.drew)
  (W : World) (hB1 : W.cell? ⟨B1, 0, none⟩ = some (.slice (some ⟨b, 0, none⟩) (64 * N) cap)) (hB2 : W.cell? ⟨B2, 0, none⟩ = some (.int .i64 64)) (h0 : J [] W) :
  CallsIn F n Tryz.prog 174 #[.func (.yield l) #[] #[], .pointer (some ⟨B1, 0, none⟩), .pointer (some ⟨B2, 0, none⟩)] W fun e W' => (∃ v, e = .returned v) /\
   ((∃ ys, ys = List.range N /\ J ys W') \/ (∃ pre, (∃ k, k <= N /\ pre = List.range k) /\ Jx pre W')) := by
 refine callsIn_of_wp Tryz.func174 rfl h7 ?_ hro
 simp only [Tryz.ntmps174, List.size_toArray, List.length_cons, List.length_nil, Nat.reduceAdd, Nat.reduceSub, Array.replicate_succ, Array.replicate_zero, List.push_toArray, List.append_toArray, List.nil_append, List.cons_append]
 gi_wp2
 gi_loopw [4] (fun i wr => ∃ k : Nat, k <= N /\ i = .int .i64 (64 * k : Nat) /\ J (List.range k) wr /\ wr.cell? ⟨B1, 0, none⟩ = some (.slice (some ⟨b, 0, none⟩) (64 * N) cap) /\ wr.cell? ⟨B2, 0, none⟩ = some (.int .i64 64))
  (fun i _ => 64 * N - (intOf i).toNat)
 case atStart => exact ⟨0, Nat.zero_le _, rfl, h0, hB1, hB2⟩
 case round =>
  obtain ⟨k, hk, rfl, hJs, hc1, hc2⟩ := hrel
  have hmx : (Tryz.prog).follows .mixedOrders = true := by kernel_rfl
  by_cases hlt : k < N
  ·obtain ⟨fn, tmps, assign, body, hy, hR⟩ := hY _ k wr.drew (hJd _ _ hJs) (by rw [List.length_range]; exact hlt)
   have hmk : min k (N - 1) = k := by omega
   dsimp only [chv] at hy
   rw [hmk] at hy
   clear hmk
   obtain ⟨i, hi⟩ : ∃ i, i = 64 * k := ⟨_, rfl⟩
   rw [<- hi] at hy ⊢
   have hiN : i + 64 <= 64 * N := by omega
   have hlti : (i : Int) < 64 * (N : Int) := by omega
   have hi2 : (i : Int) <= 64 * (N : Int) := by omega
   have hi3 : (i : Int) + 64 <= 64 * (N : Int) := by omega
   have hi4 : (i : Int) + 64 <= (cap : Int) := by omega
   have hi5 : i + 64 <= cap := by omega
   have hi6 : (64 * N - i : Nat) ≥ 64 := by omega
   have hmin : min (64 : Int) ((64 * N - i : Nat) : Int) = 64 := by omega
   have HI := Lh hi; have HJs := Lh hJs
   clear hi hJs
   gi_wp2
   gi_region_with_o fail
   all_goals gi_wp2
   all_goals
    refine hR.mono ?_
    clear hR
    rintro e W3 (⟨rfl, hJ3, hk3⟩ | ⟨rfl, hJx3⟩)
    ·have hd1 : W3.cell? ⟨B1, 0, none⟩ = some (.slice (some ⟨b, 0, none⟩) (64 * N) cap) := hk3.1.trans hc1
     have hd2 : W3.cell? ⟨B2, 0, none⟩ = some (.int .i64 64) := hk3.2.trans hc2
     clear hc1 hc2 hk3
     gi_wp2
     go_roundw
     case rel => exact ⟨k + 1, by omega, by have := HI.out; go_num, by rw [List.range_succ]; exact hJ3, hd1, hd2⟩
     case measure => simp [intOf]; omega
    ·gi_wp2
     refine bodyPost_ret (results_none rfl _ _ _) rfl ?_
     exact ⟨⟨_, rfl⟩, .inr ⟨_, ⟨k + 1, by omega, (List.range_succ).symm⟩, hJx3⟩⟩
  ·obtain rfl : k = N := by omega
   have hge : ¬ (64 * (k : Int) < 64 * (k : Int)) := by omega
   gi_wp2
   go_end0
   exact ⟨⟨_, rfl⟩, .inl hJs⟩
theorem chunk_stops (F : Fence) (n : Nat) (h7 : F.fn 174) (hro : F.round = none) (hn : 1 <= n) (B1 B2 b N cap : Nat) (hN : N <= 100000) (hcap : 64 * N <= cap) (hcm : cap <= maxLen) (w : World)
  (h1 : B1 < w.heap.size) (h2 : B2 < w.heap.size) (hc1 : w.cell? ⟨B1, 0, none⟩ = some (.slice (some ⟨b, 0, none⟩) (64 * N) cap)) (hc2 : w.cell? ⟨B2, 0, none⟩ = some (.int .i64 64)) :
  SeqStopsK F n Tryz.prog 174 #[.pointer (some ⟨B1, 0, none⟩), .pointer (some ⟨B2, 0, none⟩)] (chv b N) (Bx B1 B2) (fun ys => ys = List.range N) (fun _ => True) N w := fun l J Jx W hW hJ hJx hY h0 => by
 refine (chunk1_in F n h7 hro hn l B1 B2 b N cap hN hcap hcm J Jx hY ?_ W ((hW.cell (p := ⟨B1, 0, none⟩) h1).trans hc1) ((hW.cell (p := ⟨B2, 0, none⟩) h2).trans hc2) h0).mono ?_
 ·exact fun pre W h => hJ pre W _ none h ⟨rfl, rfl, rfl, Nat.le_refl _, fun _ _ _ => rfl⟩ (fun r e => by cases e)
 ·rintro e W' ⟨he, ⟨ys, rfl, hj⟩ | ⟨pre, ⟨k, hk, rfl⟩, hj⟩⟩
  ·exact ⟨he, .inl ⟨_, rfl, hj⟩⟩
  ·exact ⟨he, .inr ⟨_, trivial, hj⟩⟩
def pc (p : List UInt8) (N x : Nat) : List UInt8 := (p.drop (64 * min x (N - 1))).take 64
def stm (p : List UInt8) (N : Nat) (L : List Nat) : List Nat := L.foldl (fun h x => mixs h (pc p N x)) shH
theorem stm_snoc (p : List UInt8) (N : Nat) (L : List Nat) (x : Nat) : stm p N (L ++ [x]) = mixs (stm p N L) (pc p N x) := by simp [stm]
theorem foldl_w8 (p : List UInt8) (N : Nat) : ∀ (L : List Nat) (h : List Nat), w8 h -> w8 (L.foldl (fun h x => mixs h (pc p N x)) h)
 | [], _, hh => hh
 | _ :: L, _, _ => foldl_w8 p N L _ (mixs_w8 _ _)
theorem stm_w8 (p : List UInt8) (N : Nat) (L : List Nat) : w8 (stm p N L) := foldl_w8 p N L _ (hsj_w8 [] 0)
theorem stm_range (l : List UInt8) (N : Nat) : ∀ k, k <= N -> stm (padd l) N (List.range k) = hsj l k
 | 0, _ => rfl
 | k + 1, h => by rw [List.range_succ, stm_snoc, stm_range l N k (by omega), hsj, pc, show min k (N - 1) = k by omega]
def outs (T : List Nat) (n : Nat) : List UInt8 := (T.take n).flatMap fun x => be x 4
theorem outs_next (T : List Nat) (n : Nat) (h : n < T.length) : u8s (outs T (n + 1)) = u8s (outs T n) ++ [.int .u8 (T.getD n 0 / 16777216 % 256 : Nat), .int .u8 (T.getD n 0 / 65536 % 256 : Nat), .int .u8 (T.getD n 0 / 256 % 256 : Nat), .int .u8 (T.getD n 0 % 256 : Nat)] := by
 have hg := List.getElem?_eq_getElem (l := T) (i := n) h
 have e : outs T (n + 1) = outs T n ++ be (T.getD n 0) 4 := by
  unfold outs
  rw [List.take_add_one, hg, List.flatMap_append, List.getD_eq_getElem?_getD, hg]
  simp
 rw [e, u8s_append]
 congr 1
 simp [be, u8s]
set_option maxRecDepth 100000 in
set_option maxHeartbeats 4000000 in
theorem sum_any (ps : List Pt) (g off k c : Nat) (w : World) (hk : ps.length = k) (hC : ∀ j p, ps[j]? = some p -> w.cell? ⟨g, off + j, none⟩ = some p.val) (hP : Pts w ps) (hl : (cat ps).length <= 1000000) (hkc : k <= 1000)
  (hK : Kt w) (hS : Ht w) (hk0 : 3 < w.heap.size) (hg : g < w.heap.size) :
  Calls Tryz.prog 156 #[.slice (some ⟨g, off, none⟩) k c] w fun e w' => ∃ v, e = .returned v /\ w'.ownsRow w.heap.size 5 1 v 32 (u8s (sha (cat ps))) /\ Below w.heap.size w w' := by
 have hi8 : (Tryz.prog.info? 237).map (·.size) = some 8 := by kernel_rfl
 have HI8 := Lh hi8; clear hi8
 obtain ⟨tS, fS, hS⟩ := hS
 obtain ⟨C8, hC8⟩ : ∃ x, x = (wds shH).toArray := ⟨_, rfl⟩
 have hC8s : C8.size = 8 := by rw [hC8]; rfl
 have hC81 : C8.all (·.oneCell') = true := by rw [hC8]; exact wds_one _
 rw [<- hC8] at hS
 have HS0 := Lh hS; have HC8 := Lh hC8; have HCC := Lh hC; have HPP := Lh hP; have HKT := Lh hK; have HC81 := Lh hC81
 clear hS hC8 hC hP hK hC81
 have hlf : (sha (cat ps)).length = 32 := by
  unfold sha; rw [length_flatMap_const _ 4 (fun x => length_be x 4), (hsj_w8 _ _).1]
 refine (callsIn_wide (n := 6)).1 ?_
 refine callsIn_of_wp_marks Tryz.func156 rfl trivial ?_ rfl
 simp only [Tryz.ntmps156, List.size_toArray, List.length_cons, List.length_nil, Nat.reduceAdd, Nat.reduceSub, Array.replicate_succ, Array.replicate_zero, List.push_toArray, List.append_toArray, List.nil_append, List.cons_append]
 gi_wp2_with (first
  | (refine wpListIn_load_row rfl 237 (.global 2) rfl 2 rfl tS _ fS _ HS0.out Tryz.underlying237 rfl (by rw [hC8s]; exact HI8.out) ?_)
  | (refine wpListIn_store_row rfl 237 (.tmp 3) (.tmp 8) rfl w.heap.size _ rfl rfl 237 _ (Blk.new _ _ _) (by rw [hC8s]; exact HI8.out) (by rw [hC8s]; rfl) HC81.out ?_))
 have hB1 : Blk ((w.alloc (.cells #[.int .u32 0, .int .u32 0, .int .u32 0, .int .u32 0, .int .u32 0, .int .u32 0, .int .u32 0, .int .u32 0] 237)).setRow w.heap.size C8) w.heap.size 237 C8 := (Blk.new w 237 _).setRow C8
 have hb1 : Below w.heap.size w ((w.alloc (.cells #[.int .u32 0, .int .u32 0, .int .u32 0, .int .u32 0, .int .u32 0, .int .u32 0, .int .u32 0, .int .u32 0] 237)).setRow w.heap.size C8) := below_setRow ((Below.refl _ w).alloc (Nat.le_refl _) _) (Nat.le_refl _) C8
 generalize ((w.alloc (.cells #[.int .u32 0, .int .u32 0, .int .u32 0, .int .u32 0, .int .u32 0, .int .u32 0, .int .u32 0, .int .u32 0] 237)).setRow w.heap.size C8) = W1 at *
 have HB1 := Lh hB1; have Hb1 := Lh hb1; clear hB1 hb1
 refine ⟨trivial, (callsIn_wide.2 (concat_any ps g off k c W1 hk (fun j p h => (Hb1.out.cell (World.block_lt_of_cell? w _ (HCC.out j p h))).trans (HCC.out j p h)) (HPP.out.below Hb1.out) hl hkc)).mono ?_⟩
 rintro e w2 ⟨v, rfl, hown, hb2⟩
 obtain ⟨A0, c0, rfl⟩ := own_shape hown
 have HOWN := Lh hown; have HB2 := Lh hb2; clear hown hb2
 gi_wp2
 refine ⟨trivial, (callsIn_wide.2 (padded_any W1.heap.size _ (cat ps) w2 HOWN.out hl HB2.out.size)).mono ?_⟩
 rintro e w3 ⟨v, rfl, hown, hb3⟩
 obtain ⟨N, hN⟩ : ∃ N, (padd (cat ps)).length = 64 * N := ⟨(padd (cat ps)).length / 64, by have := padd_length (cat ps); omega⟩
 have hN1 : 1 <= N /\ N <= 20000 := by
  have : (padd (cat ps)).length = (cat ps).length + 1 + padz (cat ps).length + 8 := by simp only [padd, List.length_append, List.length_cons, List.length_replicate, length_be]; omega
  have h2 : padz (cat ps).length < 64 := Nat.mod_lt _ (by decide)
  omega
 rw [hN] at hown
 obtain ⟨gp, cap, cur, rfl, hgp, hgB, hnc, hcm, -, -⟩ := own_open hown (by omega)
 have hsee := Sees.of_own hown
 have hb12 := HB2.out.trans (hb3.mono (Nat.le_refl _))
 have hsha : sha (cat ps) = outs (hsj (cat ps) N) 8 := by
  rw [sha, hN, Nat.mul_div_cancel_left _ (by decide), outs, List.take_of_length_le (by rw [(hsj_w8 _ _).1]; exact Nat.le_refl _)]
 obtain ⟨p, hp⟩ : ∃ p, p = padd (cat ps) := ⟨_, rfl⟩
 rw [<- hp] at hsee hN
 have hst : stm p N (List.range N) = hsj (cat ps) N := by rw [hp]; exact stm_range _ N N (Nat.le_refl _)
 have hpl := hN
 have HP := Lh hp; have HSEE := Lh hsee; have HB12 := Lh hb12; have HSHA := Lh hsha; have HST := Lh hst
 clear hp hsee hb12 hsha hst hown hb3 hgB HOWN HB2
 gi_wp2
 refine ⟨trivial, (chunk_in Fence.wide _ trivial rfl _ _ _ _).mono ?_⟩
 rintro e w4 ⟨rfl, hw4⟩
 obtain ⟨W0, hW0⟩ : ∃ W, W = w4 := ⟨_, rfl⟩
 have hal : Below w3.heap.size w3 w4 := by rw [hw4]; exact ((Below.refl _ _).alloc (Nat.le_refl _) _).alloc (by simp) _
 have hc1 : w4.cell? ⟨w3.heap.size, 0, none⟩ = some (.slice (some ⟨gp, 0, none⟩) (64 * N) cap) := by rw [hw4, ((Blk.new w3 22 #[.slice (some ⟨gp, 0, none⟩) (64 * N) cap]).alloc _).cell]; rfl
 have hc2 : w4.cell? ⟨w3.heap.size + 1, 0, none⟩ = some (.int .i64 64) := by rw [hw4, (Blk.newAt (w := w3.alloc (.cells #[.slice (some ⟨gp, 0, none⟩) (64 * N) cap] 22)) (t := 3) (cs := #[.int .i64 64]) (by simp) rfl).cell]; rfl
 have hs4 : w4.heap.size = w3.heap.size + 2 := by rw [hw4]; simp
 have h13 : W1.heap.size <= w3.heap.size := HB12.out.size
 have hB4 : Blk w4 w.heap.size 237 C8 := (HB1.out.below HB12.out HB1.out.lt).below hal (by have := HB1.out.lt; omega)
 have hb4 : Below w.heap.size w w4 := (Hb1.out.trans (HB12.out.mono Hb1.out.size)).trans (hal.mono (by have := Hb1.out.size; omega))
 have hS4 := HSEE.out.below hal
 have hK4 : Kt w4 := HKT.out.below hb4 hk0
 have hgl : gp < w4.heap.size := by have := HSEE.out.lt (by omega) (by omega) _ rfl; show gp < _; have h2 : gp < w3.heap.size := this; omega
 have hw1 : w.heap.size < W1.heap.size := HB1.out.lt
 have HB4 := Lh hB4; have Hb4 := Lh hb4; have HS4 := Lh hS4; have HK4 := Lh hK4; have HC1 := Lh hc1; have HC2 := Lh hc2
 clear hB4 hb4 hS4 hK4 hc1 hc2 hw4 hal hW0 HSEE HB12 HB1 Hb1
 gi_wp2
 refine wpIn_rangeFunc_ownF rfl (by omega) (gf := 174) (lb := #[.pointer (some ⟨w3.heap.size, 0, none⟩), .pointer (some ⟨w3.heap.size + 1, 0, none⟩)]) rfl trivial (enters_of Tryz.func174 (by kernel_rfl) rfl)
  (chunk_stops Fence.wide _ trivial rfl (by omega) w3.heap.size (w3.heap.size + 1) gp N cap (by omega) hnc hcm w4 (by omega) (by omega) HC1.out HC2.out)
  (fun h1 h2 => ⟨h2.1.trans h1.1, h2.2.trans h1.2⟩)
  (fun W l o o' hl ho hnc _ => ⟨World.cell?_of_block (World.putObj_heap_other (by intro e; dsimp only at e; omega)), World.cell?_of_block (World.putObj_heap_other (by intro e; dsimp only at e; omega))⟩) (Below.refl _ _) (fun _ => rfl)
  (fun pre W => Blk W w.heap.size 237 (wds (stm p N pre)).toArray /\ Fr (fun k => k = w.heap.size \/ w4.heap.size <= k) w4 W)
  (fun _ _ _ => False)
  (fun pre A B row hs hg hr => ⟨hs.1.keep (hg.block _ hs.1.lt (fun e => by have := (hr _ e.symm).1; omega)), hs.2.trans (Fr.of_grown hg (F := fun k => k = w.heap.size \/ w4.heap.size <= k) (fun k e => .inr (hr k e).1)) (fun _ _ h => h)⟩)
  (fun _ _ _ _ _ hs _ _ => hs)
  ⟨by show Blk w4 w.heap.size 237 (wds shH).toArray; rw [<- HC8.out]; exact HB4.out, Fr.refl _ _⟩
  (fun x => { tmps := #[.slice (some ⟨g, off, none⟩) k c, undef, .slice none 0 0, .pointer (some ⟨w.heap.size, 0, none⟩), .slice (some ⟨gp, 64 * min x (N - 1), none⟩) 64 64, undef, undef, undef, .agg C8, .slice (some ⟨g, off, none⟩) k c, .slice A0 (cat ps).length c0, .slice (some ⟨gp, 0, none⟩) (64 * N) cap, .func (.func 174) #[] #[.pointer (some ⟨w3.heap.size, 0, none⟩), .pointer (some ⟨w3.heap.size + 1, 0, none⟩)], .slice (some ⟨gp, 64 * min x (N - 1), none⟩) 64 64, undef, undef, undef, undef, undef, undef, undef, undef, undef, undef, undef, undef, undef, undef, undef, undef, undef, undef, undef, undef, undef, undef, undef], defers := [] }) ?assign ?body ?done ?stop
 case assign =>
  intro l x W K hK
  dsimp only [chv]
  gi_wp2
  exact hK
 case body =>
  rintro l pre x W ⟨hB, hF⟩ _
  have hm : 64 * min x (N - 1) + 64 <= 64 * N := by omega
  obtain ⟨m, hme⟩ : ∃ m, m = 64 * min x (N - 1) := ⟨_, rfl⟩
  rw [<- hme] at hm ⊢
  have hpc : (pc p N x) = (p.drop m).take 64 := by rw [hme]; rfl
  have hpl2 : (pc p N x).length = 64 := by rw [hpc, List.length_take, List.length_drop]; omega
  have hSq := HS4.out.fr hF (fun _ a e => by injection e with e; subst e; show ¬ (gp = w.heap.size \/ w4.heap.size <= gp); omega)
  have hSm : Sees W 1 (some ⟨gp, m, none⟩) 64 (u8s (pc p N x)) := by
   have h := hSq.piece m 64 hm
   rw [Nat.zero_add, <- u8s_drop, <- u8s_take, <- hpc] at h
   exact h
  have hKW : Kt W := fun j hj => hF.cell (HK4.out j hj) (by show ¬ (_ \/ _); have h1 := World.block_lt_of_cell? _ _ (HK4.out j hj); have h2 : 3 < w4.heap.size := h1; show ¬ (3 = w.heap.size \/ w4.heap.size <= 3); omega)
  have hw8 := stm_w8 p N pre
  have hsn := stm_snoc p N pre x
  have hszW : w4.heap.size <= W.heap.size := hF.size
  obtain ⟨T, hT⟩ : ∃ T, T = stm p N pre := ⟨_, rfl⟩
  rw [<- hT] at hB hw8 hsn
  obtain ⟨q, hq⟩ : ∃ q, q = pc p N x := ⟨_, rfl⟩
  rw [<- hq] at hSm hpl2 hsn
  have hTs : (wds T).toArray.size = 8 := by rw [wds_size]; exact hw8.1
  have hM8 := mixs_w8 T q
  obtain ⟨T2, hT2⟩ : ∃ T2, T2 = mixs T q := ⟨_, rfl⟩
  have hmx := mix_any T hw8 q hpl2 gp m 64 W hSm (by omega) (by omega) hKW (by omega)
  rw [<- hT2] at hM8 hsn hmx
  obtain ⟨C1, hC1⟩ : ∃ C, C = (wds T).toArray := ⟨_, rfl⟩
  obtain ⟨C2, hC2⟩ : ∃ C, C = (wds T2).toArray := ⟨_, rfl⟩
  have hC2s : C2.size = 8 := by rw [hC2, wds_size]; exact hM8.1
  have hC21 : C2.all (·.oneCell') = true := by rw [hC2]; exact wds_one _
  rw [<- hC1] at hB hTs hmx
  rw [<- hC2] at hmx
  have HMX := Lh hmx; have HB := Lh hB; have HF := Lh hF; have HSN := Lh hsn; have HC2 := Lh hC2; have HC21 := Lh hC21
  clear hmx hB hF hsn hC2 hC21 hC1 hT hq hT2 hSm hSq hKW hpc hme hw8 hM8
  gi_wp2_with (first
   | (refine wpListIn_load_row rfl 237 (.tmp 3) rfl w.heap.size rfl 237 _ (0, 0) _ HB.out Tryz.underlying237 rfl (by rw [hTs]; exact HI8.out) ?_)
   | (refine ⟨trivial, ?_⟩; gi_at_call 167; refine (CallsIn.inRound l (callsIn_wide.2 HMX.out)).mono ?_; rintro e w5 ⟨rfl, hb5⟩; have hB5 := HB.out.below hb5 HB.out.lt; have HB5 := Lh hB5; have Hb5 := Lh hb5; clear hB5 hb5)
   | (refine wpListIn_store_row rfl 237 (.tmp 3) (.tmp 16) rfl w.heap.size _ rfl rfl 237 _ HB5.out (by rw [hC2s]; exact HI8.out) (by rw [hTs, hC2s]) HC21.out ?_))
  have hF2 : Fr (· = w.heap.size) W (w5.setRow w.heap.size C2) := (Fr.of_below Hb5.out (· = w.heap.size)).trans (Fr.setRow (F := (· = w.heap.size)) _ _ _ rfl) (fun _ _ h => h)
  refine ⟨⟨hF2.size, fun k o hk ho => (hF2.block k (Array.getElem?_eq_some_iff.1 hk).1 (fun e => ?_)).trans hk⟩, ⟨World.cell?_of_block (hF2.block _ (by show w3.heap.size < _; omega) (by show ¬ w3.heap.size = w.heap.size; omega)), World.cell?_of_block (hF2.block _ (by show w3.heap.size + 1 < _; omega) (by show ¬ w3.heap.size + 1 = w.heap.size; omega))⟩, ?_, HF.out.trans hF2 (fun k _ h => .inl h)⟩
  ·rw [e] at hk
   have := HB.out
   unfold Blk at this
   rw [this] at hk
   injection hk with hk
   rw [<- hk] at ho
   cases ho
  ·rw [HSN.out, <- HC2.out]; exact HB5.out.setRow C2
 case done =>
  rintro D ys W hD rfl ⟨hB, hF⟩ hK
  rw [HST.out] at hB
  have hw8 := hsj_w8 (cat ps) N
  have hsha := HSHA.out
  obtain ⟨T, hT⟩ : ∃ T, T = hsj (cat ps) N := ⟨_, rfl⟩
  rw [<- hT] at hB hw8 hsha
  have hTl : T.length = 8 := hw8.1
  have hbW : Below w.heap.size w W := Hb4.out.trans (hF.below Hb4.out.size (fun k hk => by rcases hk with h | h <;> omega))
  have hDl : D < W.heap.size := (Array.getElem?_eq_some_iff.1 hK).1
  have hix := fun (w : World) i (hi : i < 8) => run_index_word (P := Tryz.prog) w 237 180 8 T i Tryz.underlying237 Tryz.underlying180 (fun w => by kernel_rfl) hTl hi
  obtain ⟨C, hC⟩ : ∃ C, C = (wds T).toArray := ⟨_, rfl⟩
  have hCs : C.size = 8 := by rw [hC, wds_size, hTl]
  rw [<- hC] at hB hix
  have HB := Lh hB; have HIX := Lh hix; have HSH := Lh hsha; have HBW := Lh hbW; have HKD := Lh hK
  clear hB hix hsha hbW hK hC hT hF HB4 Hb4 HS4 HK4 HC1 HC2 HST HSHA
  gi_wp2_with (refine wpListIn_load_row rfl 237 (.tmp 3) rfl w.heap.size rfl 237 _ (0, 0) _ HB.out Tryz.underlying237 rfl (by rw [hCs]; exact HI8.out) ?_)
  gi_loopw [5, 18] (fun v i wq => ∃ n : Nat, n <= 8 /\ i = .int .i64 n /\ wq.ownsRow W.heap.size 5 1 v (4 * n) (u8s (outs T n)) /\ Below W.heap.size W wq) (fun _ i _ => 8 - (intOf i).toNat)
  case atStart => exact ⟨0, by omega, rfl, World.ownsRow_nil _ _ _ _, Below.refl _ _⟩
  case round =>
   obtain ⟨n, hn, rfl, hown, hbl⟩ := hrel
   by_cases hlt : n < 8
   ·have hlti : (n : Int) < 8 := by omega
    have hxx := fun w => HIX.out w n hlt
    obtain ⟨x, hx⟩ : ∃ x, x = T.getD n 0 := ⟨_, rfl⟩
    have hxl : x < 4294967296 := by rw [hx]; exact hw8.2 n
    have hfn := outs_next T n (by omega)
    rw [<- hx] at hfn hxx
    obtain ⟨b0, hb0⟩ : ∃ b, b = x / 16777216 % 256 := ⟨_, rfl⟩
    obtain ⟨b1, hb1⟩ : ∃ b, b = x / 65536 % 256 := ⟨_, rfl⟩
    obtain ⟨b2, hb2⟩ : ∃ b, b = x / 256 % 256 := ⟨_, rfl⟩
    obtain ⟨b3, hb3⟩ : ∃ b, b = x % 256 := ⟨_, rfl⟩
    rw [<- hb0, <- hb1, <- hb2, <- hb3] at hfn
    have e0 : IntKind.u8.wrap ((x : Int) / 16777216) = (b0 : Int) := by rw [IntKind.wrap_u8']; omega
    have e1 : IntKind.u8.wrap ((x : Int) / 65536) = (b1 : Int) := by rw [IntKind.wrap_u8']; omega
    have e2 : IntKind.u8.wrap ((x : Int) / 256) = (b2 : Int) := by rw [IntKind.wrap_u8']; omega
    have e3 : IntKind.u8.wrap (x : Int) = (b3 : Int) := by rw [IntKind.wrap_u8']; omega
    have d0 : (x : Int) / 16777216 % 256 = (b0 : Int) := by omega
    have d1 : (x : Int) / 65536 % 256 = (b1 : Int) := by omega
    have d2 : (x : Int) / 256 % 256 = (b2 : Int) := by omega
    have d3 : (x : Int) % 256 = (b3 : Int) := by omega
    obtain ⟨m, hm⟩ : ∃ m, m = 4 * n := ⟨_, rfl⟩
    rw [<- hm] at hown
    have hml : m <= 32 := by omega
    have hmn : 4 * (n + 1) = m + 4 := by omega
    have hszq := hbl.size
    obtain ⟨A5, c5, rfl⟩ := own_shape hown
    have HOWN := Lh hown; have HBL := Lh hbl; have HFX := Lh hfn; have HMN := Lh hmn
    clear hown hbl hfn hx hb0 hb1 hb2 hb3 hm hmn
    obtain ⟨ii, hii, hz0, hz1, hz2⟩ := info_parts info_byte
    gi_wp2_with (gi_at_builtin; refine wpListIn_append_own_at _ rfl (.tmp 21) (.tmp 33) _ rfl W.heap.size 5 ii (.int .u8 0) 1 1 Tryz.underlying22 hii hz0 hz1 hz2 rfl (by decide) _ m (u8s (outs T n)) rfl (own_below HOWN.out ((Below.refl _ _).alloc (Nat.le_refl _) _)) ⟨wr.heap.size, 0, none⟩ 4 _ [.int .u8 (b0 : Nat), .int .u8 (b1 : Nat), .int .u8 (b2 : Nat), .int .u8 (b3 : Nat)] rfl rfl (news_of_blk (Blk.new wr 5 #[.int .u8 (b0 : Nat), .int .u8 (b1 : Nat), .int .u8 (b2 : Nat), .int .u8 (b3 : Nat)])) (by simp [Value.oneCell']) (by unfold maxLen; omega) (by omega) (by simp; omega) ?_; intro v1 w6 hown1 hgr1 hnil1 hat1; rw [<- HFX.out] at hown1; have hb6 := (HBL.out.alloc hszq _).grown hgr1 (by simp; omega) (fun k hk => (HOWN.out.lt k hk).1); have HOWN1 := Lh hown1; have HB6 := Lh hb6; clear hown1 hgr1 hat1 hnil1 hb6)
    go_roundw
    case rel => exact ⟨n + 1, by omega, by go_num, by rw [HMN.out]; exact HOWN1.out, HB6.out⟩
    case measure => simp [intOf]; omega
   ·obtain rfl : n = 8 := by omega
    rw [show ((8 : Nat) : Int) = 8 from rfl]
    have HOWN := Lh hown; have HBL := Lh hbl; clear hown hbl
    gi_wp2
    have hK2 : wr.heap[D]? = some (.deferred (some [])) := (HBL.out.block D hDl).trans HKD.out
    refine ⟨by simp, .inl ⟨_, _, rfl, run_takeDeferred hK2, ?_⟩⟩
    refine ⟨_, results_tmp rfl _ _ _, _, rfl, ?_, ?_⟩
    ·have h := ownsRow_putObj HOWN.out (.deferred none) hK2 rfl
     rw [HSH.out]
     exact own_base h HBW.out.size
    ·exact (HBW.out.trans (HBL.out.mono HBW.out.size)).trans (belowK_b (w := w) (Nat.le_refl _) _ D _ _ (by omega) hK2 rfl rfl)
 case stop =>
  rintro D c pre W _ _ h _
  exact h.elim
end
end Go.Proofs.YtkgaeoeibjoljaaGreatDoor
