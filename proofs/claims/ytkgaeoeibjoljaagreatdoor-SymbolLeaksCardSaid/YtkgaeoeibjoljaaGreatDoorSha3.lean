/-
  The digest's rounds, walked.
-/
import Derived.Test.YtkgaeoeibjoljaaGreatDoorGI
namespace Go.Proofs.YtkgaeoeibjoljaaGreatDoor
set_option maxRecDepth 4000
open Go.RowKit
def Kt (w : World) : Prop := ∀ j, j < 64 -> w.cell? ⟨3, j, none⟩ = some (.int .u32 ((shK.getD j 0 : Nat) : Int))
theorem Kt.below {w w' : World} {B : Nat} (h : Kt w) (hb : Below B w w') (hB : 3 < B) : Kt w' := fun j hj => (hb.cell (p := ⟨3, j, none⟩) hB).trans (h j hj)
theorem run_index_word {P : Program} (w : World) (t e : TypeId) (n : Nat) (l : List Nat) (i : Nat) (h : P.underlying t = some (.array n e)) (he : P.underlying e = some (.int .u32)) (hs : ∀ w, (sizeOf e).run P w = .ok 1 w) (hl : l.length = n) (hi : i < n) :
  (Instr.index t (.agg (wds l).toArray) (.int .i64 (i : Int))).run P w = .ok (.int .u32 (l.getD i 0 : Nat)) w := by
 have hb : (0 : Int) <= (i : Int) /\ (i : Int) < (n : Int) := by omega
 have hg := wds_get (l := l) (i := i) (by omega)
 have hni : ¬ n <= i := by omega
 simp [Instr.index, run_underlying h, asIntOf, hb.2, hni, part, isAgg, run_underlying he, hs, go_sem, hg]
def hxs (h S : List Nat) (n : Nat) : List Nat := tabn 8 fun j => if j < n then (h.getD j 0 + S.getD j 0) % 4294967296 else h.getD j 0
theorem hxs_zero (h S : List Nat) (hl : h.length = 8) : hxs h S 0 = h := by
 refine List.ext_getElem? fun i => ?_
 by_cases hi : i < 8
 ·have h1 := List.getElem?_eq_getElem (l := h) (i := i) (by omega)
  simp [hxs, tabn, hi, List.getD_eq_getElem?_getD, h1]
 ·rw [List.getElem?_eq_none (by simp [hxs, tabn]; omega), List.getElem?_eq_none (by omega)]
theorem hxs_next (h S : List Nat) (n : Nat) : (hxs h S n).set n ((h.getD n 0 + S.getD n 0) % 4294967296) = hxs h S (n + 1) := by
 rw [hxs, tabn_set]
 refine tabn_ext fun j _ => ?_
 by_cases e : j = n
 ·subst e; simp
 ·rw [if_neg e]
  by_cases h : j < n
  ·rw [if_pos h, if_pos (by omega)]
  ·rw [if_neg h, if_neg (by omega)]
set_option maxRecDepth 4000 in
set_option maxHeartbeats 1000000 in
theorem mix_any (h : List Nat) (hh : w8 h) (b : List UInt8) (hb : b.length = 64) (g off c : Nat) (w : World) (hS : Sees w 1 (some ⟨g, off, none⟩) 64 (u8s b)) (hc : 64 <= c) (hg : g < w.heap.size) (hK : Kt w) (hk0 : 3 < w.heap.size) :
  Calls Tryz.prog 167 #[.agg (wds h).toArray, .slice (some ⟨g, off, none⟩) 64 c] w fun e w' => e = .returned (.agg (wds (mixs h b)).toArray) /\ Below w.heap.size w w' := by
 have hi8 : (Tryz.prog.info? 237).map (·.size) = some 8 := by kernel_rfl
 have HI8 := Lh hi8; clear hi8
 obtain ⟨ch8, hch⟩ : ∃ x, x = (wds h).toArray := ⟨_, rfl⟩
 rw [<- hch]
 have hcs : ch8.size = 8 := by rw [hch, wds_size, hh.1]
 have hB0 : Blk ((w.alloc (.cells ch8 237)).alloc (.cells (wds (tabn 8 fun _ => 0)).toArray 237)) w.heap.size 237 ch8 := (Blk.new _ _ _).alloc _
 have hz8 : (wds (tabn 8 fun _ => 0)).toArray = #[.int .u32 0, .int .u32 0, .int .u32 0, .int .u32 0, .int .u32 0, .int .u32 0, .int .u32 0, .int .u32 0] := rfl
 rw [hz8] at hB0
 have HB0 := Lh hB0; have HS := Lh hS; have HK := Lh hK; have HCH := Lh hch; clear hB0 hS hK hch hz8
 go_enter Tryz.func167, Tryz.ntmps167
 go_wp2_with (first
  | (refine wpList_load_row rfl 237 (.tmp 2) rfl w.heap.size rfl 237 _ (0, 0) _ HB0.out Tryz.underlying237 rfl (by rw [hcs]; exact HI8.out) ?_)
  | (refine wpList_store_row rfl 237 (.tmp 5) (.tmp 13) rfl (w.heap.size + 1 + 1) _ rfl rfl 237 _ (Blk.newAt (by simp) rfl) (by rw [hcs]; exact HI8.out) (by rw [hcs]; rfl) (by rw [HCH.out]; exact wds_one _) ?_))
 have hz8 : (wds (tabn 8 fun _ => 0)).toArray = #[.int .u32 0, .int .u32 0, .int .u32 0, .int .u32 0, .int .u32 0, .int .u32 0, .int .u32 0, .int .u32 0] := rfl
 have hA1 : Blk (((w.alloc (.cells ch8 237)).alloc (.cells (wds (tabn 8 fun _ => 0)).toArray 237)).alloc (.cells (wds (tabn 8 fun _ => 0)).toArray 237)) (w.heap.size + 1 + 1) 237 (wds (tabn 8 fun _ => 0)).toArray := Blk.newAt (by simp) rfl
 have hA2 := hA1.setRow ch8
 have hbel1 : Below w.heap.size w (((w.alloc (.cells ch8 237)).alloc (.cells (wds (tabn 8 fun _ => 0)).toArray 237)).alloc (.cells (wds (tabn 8 fun _ => 0)).toArray 237)) := (((Below.refl _ _).alloc (Nat.le_refl _) _).alloc (by simp) _).alloc (by simp; omega) _
 have hbel2 := below_setRow hbel1 (show w.heap.size <= w.heap.size + 1 + 1 by omega) ch8
 have hfr : Fr (· = w.heap.size + 1 + 1) (((w.alloc (.cells ch8 237)).alloc (.cells (wds (tabn 8 fun _ => 0)).toArray 237)).alloc (.cells (wds (tabn 8 fun _ => 0)).toArray 237)) ((((w.alloc (.cells ch8 237)).alloc (.cells (wds (tabn 8 fun _ => 0)).toArray 237)).alloc (.cells (wds (tabn 8 fun _ => 0)).toArray 237)).setRow (w.heap.size + 1 + 1) ch8) := Fr.setRow _ _ _ rfl
 have hA0 : Blk ((((w.alloc (.cells ch8 237)).alloc (.cells (wds (tabn 8 fun _ => 0)).toArray 237)).alloc (.cells (wds (tabn 8 fun _ => 0)).toArray 237)).setRow (w.heap.size + 1 + 1) ch8) w.heap.size 237 ch8 := Blk.fr (((Blk.new _ _ _).alloc _).alloc _) hfr (Nat.ne_of_lt (by omega))
 have hAr : Blk ((((w.alloc (.cells ch8 237)).alloc (.cells (wds (tabn 8 fun _ => 0)).toArray 237)).alloc (.cells (wds (tabn 8 fun _ => 0)).toArray 237)).setRow (w.heap.size + 1 + 1) ch8) (w.heap.size + 1) 237 (wds (tabn 8 fun _ => 0)).toArray := Blk.fr ((Blk.newAt (by simp) rfl).alloc _) hfr (Nat.ne_of_lt (by omega))
 rw [<- hz8]
 generalize ((((w.alloc (.cells ch8 237)).alloc (.cells (wds (tabn 8 fun _ => 0)).toArray 237)).alloc (.cells (wds (tabn 8 fun _ => 0)).toArray 237)).setRow (w.heap.size + 1 + 1) ch8) = W1 at *
 clear hA1 hbel1 hfr hz8 HB0
 refine (spread_any b hb g off c W1 (HS.out.below hbel2) hc (Nat.lt_of_lt_of_le hg hbel2.size)).mono ?_
 rintro e w2 ⟨rfl, hb2⟩
 have hS2 := hA2.below hb2 hA2.lt
 have hH2 := hA0.below hb2 hA0.lt
 have hR2 := hAr.below hb2 hAr.lt
 have hbe2 : Below w.heap.size w w2 := hbel2.trans (hb2.mono hbel2.size)
 rw [HCH.out] at hS2
 have HS2 := Lh hS2; have HH2 := Lh hH2; have HR2 := Lh hR2; have HBE2 := Lh hbe2; clear hS2 hH2 hR2 hbe2 hA2 hA0 hAr hbel2 hb2
 have hsz1 : ∀ w, (sizeOf 180).run Tryz.prog w = .ok 1 w := fun w => by kernel_rfl
 have HIX := Lh (fun (w : World) i (hi : i < 64) => run_index_word (P := Tryz.prog) w 251 180 64 (ws b 64) i Tryz.underlying251 Tryz.underlying180 hsz1 (ws_length b 64) hi)
 clear hsz1
 obtain ⟨cw, hcw⟩ : ∃ x, x = (wds (ws b 64)).toArray := ⟨_, rfl⟩
 rw [<- hcw] at HIX ⊢
 have HCW := Lh hcw; clear hcw
 go_wp2_with fail
 go_loopw [16] (fun i wr => ∃ n : Nat, n <= 64 /\ i = .int .i64 n /\ Blk wr (w.heap.size + 1 + 1) 237 (wds (sto h b n)).toArray /\ Blk wr w.heap.size 237 ch8 /\ Blk wr (w.heap.size + 1) 237 (wds (tabn 8 fun _ => 0)).toArray /\ Below w.heap.size w wr) (fun i _ => 64 - (intOf i).toNat)
 case atStart => exact ⟨0, by omega, rfl, HS2.out, HH2.out, HR2.out, HBE2.out⟩
 case round =>
  obtain ⟨n, hn, rfl, hT, hH, hR, hbr⟩ := hrel
  clear HS2 HH2 HR2 HBE2
  by_cases hlt : n < 64
  ·have hlti : (n : Int) < 64 := by omega
   have hix := fun w => HIX.out w n hlt
   have hw8 := sto_w8 b hh n
   obtain ⟨S, hSe⟩ : ∃ S, S = sto h b n := ⟨_, rfl⟩
   rw [<- hSe] at hT hw8
   have hnx : sto h b (n + 1) = stp S (shK.getD n 0) ((ws b 64).getD n 0) := by rw [hSe]; rfl
   have hwl := ws_lt b 64 n
   obtain ⟨kn, hkn⟩ : ∃ k, k = shK.getD n 0 := ⟨_, rfl⟩
   have hkl : kn < 4294967296 := by
    have h1 : (List.range 64).all (fun i => decide (shK.getD i 0 < 4294967296)) = true := by decide +kernel
    rw [hkn]; exact of_decide_eq_true (List.all_eq_true.1 h1 n (List.mem_range.2 hlt))
   obtain ⟨wn, hwn⟩ : ∃ x, x = (ws b 64).getD n 0 := ⟨_, rfl⟩
   rw [<- hwn] at hwl hnx hix
   rw [<- hkn] at hnx
   have hkc : wr.cell? ⟨3, n, none⟩ = some (.int .u32 (kn : Nat)) := by rw [hkn]; exact (HK.out.below hbr hk0) n hlt
   obtain ⟨s0, e0⟩ : ∃ x, x = S.getD 0 0 := ⟨_, rfl⟩
   obtain ⟨s1, e1⟩ : ∃ x, x = S.getD 1 0 := ⟨_, rfl⟩
   obtain ⟨s2, e2⟩ : ∃ x, x = S.getD 2 0 := ⟨_, rfl⟩
   obtain ⟨s3, e3⟩ : ∃ x, x = S.getD 3 0 := ⟨_, rfl⟩
   obtain ⟨s4, e4⟩ : ∃ x, x = S.getD 4 0 := ⟨_, rfl⟩
   obtain ⟨s5, e5⟩ : ∃ x, x = S.getD 5 0 := ⟨_, rfl⟩
   obtain ⟨s6, e6⟩ : ∃ x, x = S.getD 6 0 := ⟨_, rfl⟩
   obtain ⟨s7, e7⟩ : ∃ x, x = S.getD 7 0 := ⟨_, rfl⟩
   have l0 : s0 < 4294967296 := by rw [e0]; exact hw8.2 0
   have l1 : s1 < 4294967296 := by rw [e1]; exact hw8.2 1
   have l2 : s2 < 4294967296 := by rw [e2]; exact hw8.2 2
   have l3 : s3 < 4294967296 := by rw [e3]; exact hw8.2 3
   have l4 : s4 < 4294967296 := by rw [e4]; exact hw8.2 4
   have l5 : s5 < 4294967296 := by rw [e5]; exact hw8.2 5
   have l6 : s6 < 4294967296 := by rw [e6]; exact hw8.2 6
   have l7 : s7 < 4294967296 := by rw [e7]; exact hw8.2 7
   have hSl := hw8.1
   have hcl : ∀ w', Blk w' (w.heap.size + 1 + 1) 237 (wds S).toArray -> (w'.cell? ⟨w.heap.size + 1 + 1, 0, none⟩ = some (.int .u32 (s0 : Nat)) /\ w'.cell? ⟨w.heap.size + 1 + 1, 1, none⟩ = some (.int .u32 (s1 : Nat)) /\ w'.cell? ⟨w.heap.size + 1 + 1, 2, none⟩ = some (.int .u32 (s2 : Nat)) /\ w'.cell? ⟨w.heap.size + 1 + 1, 3, none⟩ = some (.int .u32 (s3 : Nat)) /\ w'.cell? ⟨w.heap.size + 1 + 1, 4, none⟩ = some (.int .u32 (s4 : Nat)) /\ w'.cell? ⟨w.heap.size + 1 + 1, 5, none⟩ = some (.int .u32 (s5 : Nat)) /\ w'.cell? ⟨w.heap.size + 1 + 1, 6, none⟩ = some (.int .u32 (s6 : Nat)) /\ w'.cell? ⟨w.heap.size + 1 + 1, 7, none⟩ = some (.int .u32 (s7 : Nat))) := fun w' hh' =>
    ⟨by rw [wblk_cell hh' (by omega), e0], by rw [wblk_cell hh' (by omega), e1], by rw [wblk_cell hh' (by omega), e2], by rw [wblk_cell hh' (by omega), e3], by rw [wblk_cell hh' (by omega), e4], by rw [wblk_cell hh' (by omega), e5], by rw [wblk_cell hh' (by omega), e6], by rw [wblk_cell hh' (by omega), e7]⟩
   have T1 := Lh (turned_any s4 6 11 25 l4 (by omega) (by omega) (by omega))
   have U1 := Lh (turned_any s0 2 13 22 l0 (by omega) (by omega) (by omega))
   have HCL := Lh hcl; have HT := Lh hT; have HKC := Lh hkc; have HH := Lh hH; have HR := Lh hR; have HBR := Lh hbr; have HNX := Lh hnx
   have E0 := Lh e0; have E1 := Lh e1; have E2 := Lh e2; have E3 := Lh e3; have E4 := Lh e4; have E5 := Lh e5; have E6 := Lh e6; have E7 := Lh e7
   have HSE := Lh hSe; have HKN := Lh hkn; have HWN := Lh hwn
   clear hcl hT hkc hH hR hbr hnx e0 e1 e2 e3 e4 e5 e6 e7 hSe hkn hwn hw8
   go_wp2_with fail
   refine region_fast [(0, true), (1, true), (2, true), (3, true), (4, true), (5, true)] [2, 3, 4] 28 [(1048576, 32, 0, 0), (2097152, 1048576, 1, 1), (4194304, 32, 0, 0), (8388608, 4194304, 4, 4), (256, 2097152, 3, 3), (512, 8388608, 31, 31)] (fun w' => Blk w' (w.heap.size + 1 + 1) 237 (wds S).toArray) (by kernel_rfl) (by kernel_rfl) (by kernel_rfl) rfl (by kernel_rfl) (by kernel_rfl) HT.out (fun hS => ?_)
   repeat (first
    | (refine plan_read (v := ?_) rfl (fun _ _ _ h => h) rfl hS ?_ ?_; rotate_left 1; (focus (intro w' hS'; obtain ⟨c0, c1, c2, c3, c4, c5, c6, c7⟩ := HCL.out _ hS'; go_simp; try rfl)); (simp only [Act.put, pu1]; dsimp only [pu2, pu3]))
    | (refine plan_skip rfl (fun _ _ _ h => h) rfl hS ?_; (simp only [Act.put, pu1]; dsimp only [pu2, pu3])))
   refine plan_nil ?_
   have hand : ∀ {x y : Nat}, x < 4294967296 -> x &&& y < 4294967296 := fun {x y} hx => Nat.lt_of_le_of_lt Nat.and_le_left hx
   have hch : bits BinOp.xor IntKind.u32 (bits BinOp.and IntKind.u32 (s4 : Int) (s5 : Int)) (bits BinOp.and IntKind.u32 (bits BinOp.xor IntKind.u32 IntKind.u32.max (s4 : Int)) (s6 : Int)) = ((ch s4 s5 s6 : Nat) : Int) := by
    rw [show IntKind.u32.max = ((4294967295 : Nat) : Int) from rfl, u32_and_nat _ _ l4 l5, u32_xor_nat _ _ (by omega) l4, u32_and_nat _ _ (xor32 (by omega) l4) l6, u32_xor_nat _ _ (hand l4) (hand (xor32 (by omega) l4))]
    rfl
   have hchl : ch s4 s5 s6 < 4294967296 := xor32 (hand l4) (hand (xor32 (by omega) l4))
   have hmj : bits BinOp.xor IntKind.u32 (bits BinOp.xor IntKind.u32 (bits BinOp.and IntKind.u32 (s0 : Int) (s1 : Int)) (bits BinOp.and IntKind.u32 (s0 : Int) (s2 : Int))) (bits BinOp.and IntKind.u32 (s1 : Int) (s2 : Int)) = ((mj s0 s1 s2 : Nat) : Int) := by
    rw [u32_and_nat _ _ l0 l1, u32_and_nat _ _ l0 l2, u32_and_nat _ _ l1 l2, u32_xor_nat _ _ (hand l0) (hand l0), u32_xor_nat _ _ (xor32 (hand l0) (hand l0)) (hand l1)]
    rfl
   have hmjl : mj s0 s1 s2 < 4294967296 := xor32 (xor32 (hand l0) (hand l0)) (hand l1)
   have hT1l : tu3 s4 6 11 25 < 4294967296 := xor32 (xor32 (rr_lt _ l4) (rr_lt _ l4)) (rr_lt _ l4)
   have hU1l : tu3 s0 2 13 22 < 4294967296 := xor32 (xor32 (rr_lt _ l0) (rr_lt _ l0)) (rr_lt _ l0)
   have hst : stp S kn wn = [(t1 S kn wn + t2 S) % 4294967296, s0, s1, s2, (s3 + t1 S kn wn) % 4294967296, s4, s5, s6] := by
    rw [E0.out, E1.out, E2.out, E3.out, E4.out, E5.out, E6.out]; rfl
   have ht1 : t1 S kn wn = (s7 + tu3 s4 6 11 25 + ch s4 s5 s6 + kn + wn) % 4294967296 := by rw [E4.out, E5.out, E6.out, E7.out]; rfl
   have ht2 : t2 S = (tu3 s0 2 13 22 + mj s0 s1 s2) % 4294967296 := by rw [E0.out, E1.out, E2.out]; rfl
   rw [ht1, ht2] at hst
   generalize tu3 s4 6 11 25 = q1 at *
   generalize tu3 s0 2 13 22 = q2 at *
   generalize ch s4 s5 s6 = q3 at *
   generalize mj s0 s1 s2 = q4 at *
   obtain ⟨v1, hv1⟩ : ∃ v, v = (s7 + q1 + q3 + kn + wn) % 4294967296 := ⟨_, rfl⟩
   obtain ⟨v2, hv2⟩ : ∃ v, v = (q2 + q4) % 4294967296 := ⟨_, rfl⟩
   rw [<- hv1, <- hv2] at hst
   obtain ⟨v3, hv3⟩ : ∃ v, v = (v1 + v2) % 4294967296 := ⟨_, rfl⟩
   obtain ⟨v4, hv4⟩ : ∃ v, v = (s3 + v1) % 4294967296 := ⟨_, rfl⟩
   rw [<- hv3, <- hv4] at hst
   have g1 : IntKind.u32.wrap (IntKind.u32.wrap (IntKind.u32.wrap (IntKind.u32.wrap ((s7 : Int) + (q1 : Int)) + (q3 : Int)) + (kn : Int)) + (wn : Int)) = (v1 : Int) := by simp only [IntKind.wrap_u32']; rw [hv1]; omega
   have g2 : IntKind.u32.wrap ((q2 : Int) + (q4 : Int)) = (v2 : Int) := by rw [IntKind.wrap_u32', hv2]; omega
   have g3 : ((v1 : Int) + (v2 : Int)) % 4294967296 = (v3 : Int) := by rw [hv3]; omega
   have g4 : ((s3 : Int) + (v1 : Int)) % 4294967296 = (v4 : Int) := by rw [hv4]; omega
   have HST := Lh hst
   clear hst ht1 ht2 hv1 hv2 hv3 hv4 hand
   go_wp2_with fail
   refine region_fast [(0, true), (1, true), (2, true), (5, true), (6, true), (7, true), (8, true), (9, true), (10, true), (11, true), (12, true), (13, true), (14, true), (16, true), (17, true), (18, true), (20, true), (3, false), (4, true), (15, true), (19, true), (21, true), (22, false)] [2, 3, 4, 5, 6, 7, 8, 9, 10, 11, 12, 13, 14, 15, 16, 17, 18, 19, 20] 2097148 [(16777216, 32, 0, 0), (33554432, 16777216, 1, 1), (67108864, 512, 0, 0), (134217728, 67108864, 4, 4), (268435456, 167772160, 10, 15), (536870912, 512, 0, 0), (1073741824, 32, 0, 0), (2147483648, 1073741824, 64, 64), (4294967296, 2684354560, 160, 224), (8589934592, 512, 0, 0), (17179869184, 8589934592, 512, 512), (34359738368, 32, 0, 0), (68719476736, 34359738368, 2048, 2048), (137438953472, 85899345920, 5120, 7680), (274877906944, 141733920768, 8448, 16352), (549755813888, 275146342400, 16400, 32767), (1099511627776, 64, 0, 0), (2199023255552, 1099511627776, 65536, 65536), (4398046511104, 2199023255552, 131072, 196608), (8796093022208, 4947802324992, 294912, 524287), (17592186044416, 128, 0, 0), (35184372088832, 26388279066624, 1572864, 2097151), (1024, 35184372088832, 4194303, 4194303)] (fun w' => Blk w' (w.heap.size + 1 + 1) 237 (wds S).toArray /\ w'.cell? ⟨3, n, none⟩ = some (.int .u32 (kn : Nat))) (by kernel_rfl) (by kernel_rfl) (by kernel_rfl) rfl (by kernel_rfl) (by kernel_rfl) ⟨HT.out, HKC.out⟩ (fun hS => ?_)
   repeat (first
    | (refine plan_read (v := ?_) rfl (fun _ _ _ h => h) rfl hS ?_ ?_; rotate_left 1; (focus (intro w' hS'; obtain ⟨c0, c1, c2, c3, c4, c5, c6, c7⟩ := HCL.out _ hS'.1; have ck := hS'.2; go_simp; try rfl)); (simp only [Act.put, pu1]; dsimp only [pu2, pu3]))
    | (refine plan_skip rfl (fun _ _ _ h => h) rfl hS ?_; (simp only [Act.put, pu1]; dsimp only [pu2, pu3])))
   refine plan_do (by rfl) (by rfl) (fun K hK => ?_)
   go_simp
   refine (T1.out _).mono ?_
   rintro e w' ⟨rfl, rfl⟩
   refine hK.out _ _ (fun _ => hS) (fun hS => ?_); clear hK K; replace hS := hS rfl; try (simp only [Act.put, pu1]; dsimp only [pu2, pu3])
   repeat (first
    | (refine plan_read (v := ?_) rfl (fun _ _ _ h => h) rfl hS ?_ ?_; rotate_left 1; (focus (intro w' hS'; go_simp; try rfl)); (simp only [Act.put, pu1]; dsimp only [pu2, pu3]))
    | (refine plan_skip rfl (fun _ _ _ h => h) rfl hS ?_; (simp only [Act.put, pu1]; dsimp only [pu2, pu3])))
   refine plan_do (by rfl) (by rfl) (fun K hK => ?_)
   go_simp
   refine hK.out _ _ (fun h => by cases h) (fun _ => ?_); clear hK K; try (simp only [Act.put, pu1]; dsimp only [pu2, pu3])
   refine plan_nil ?_
   go_wp2_with fail
   refine region_fast [(0, true), (2, true), (3, true), (4, true), (5, true), (6, true), (7, true), (8, true), (9, true), (10, true), (11, true), (12, true), (13, true), (14, true), (15, true), (16, true), (1, false), (17, true), (18, false)] [1, 2, 3, 4, 5, 6, 7, 8, 9, 10, 11, 12, 13, 14, 15, 16] 131070 [(70368744177664, 256, 0, 0), (140737488355328, 70368744177664, 1, 1), (281474976710656, 256, 0, 0), (562949953421312, 32, 0, 0), (1125899906842624, 562949953421312, 8, 8), (2251799813685248, 1407374883553280, 20, 28), (4503599627370496, 256, 0, 0), (9007199254740992, 32, 0, 0), (18014398509481984, 9007199254740992, 128, 128), (36028797018963968, 22517998136852480, 320, 448), (72057594037927936, 38280596832649216, 544, 1020), (144115188075855872, 32, 0, 0), (288230376151711744, 144115188075855872, 2048, 2048), (576460752303423488, 32, 0, 0), (1152921504606846976, 576460752303423488, 8192, 8192), (2305843009213693952, 1441151880758558720, 20480, 30720), (4611686018427387904, 2377900603251621888, 33792, 65532), (9223372036854775808, 4611826755915743232, 65538, 131071), (2048, 9223372036854775808, 262143, 262143)] (fun w' => Blk w' (w.heap.size + 1 + 1) 237 (wds S).toArray) (by kernel_rfl) (by kernel_rfl) (by kernel_rfl) rfl (by kernel_rfl) (by kernel_rfl) HT.out (fun hS => ?_)
   repeat (first
    | (refine plan_read (v := ?_) rfl (fun _ _ _ h => h) rfl hS ?_ ?_; rotate_left 1; (focus (intro w' hS'; obtain ⟨c0, c1, c2, c3, c4, c5, c6, c7⟩ := HCL.out _ hS'; go_simp; try rfl)); (simp only [Act.put, pu1]; dsimp only [pu2, pu3]))
    | (refine plan_skip rfl (fun _ _ _ h => h) rfl hS ?_; (simp only [Act.put, pu1]; dsimp only [pu2, pu3])))
   refine plan_do (by rfl) (by rfl) (fun K hK => ?_)
   go_simp
   refine (U1.out _).mono ?_
   rintro e w' ⟨rfl, rfl⟩
   refine hK.out _ _ (fun _ => hS) (fun hS => ?_); clear hK K; replace hS := hS rfl; try (simp only [Act.put, pu1]; dsimp only [pu2, pu3])
   repeat (first
    | (refine plan_read (v := ?_) rfl (fun _ _ _ h => h) rfl hS ?_ ?_; rotate_left 1; (focus (intro w' hS'; go_simp; try rfl)); (simp only [Act.put, pu1]; dsimp only [pu2, pu3]))
    | (refine plan_skip rfl (fun _ _ _ h => h) rfl hS ?_; (simp only [Act.put, pu1]; dsimp only [pu2, pu3])))
   refine plan_do (by rfl) (by rfl) (fun K hK => ?_)
   go_simp
   refine hK.out _ _ (fun h => by cases h) (fun _ => ?_); clear hK K; try (simp only [Act.put, pu1]; dsimp only [pu2, pu3])
   refine plan_nil ?_
   have hT9 : Blk wr (w.heap.size + 1 + 1) 237 (wds S).toArray := HT.out
   obtain ⟨c0, c1, c2, c3, c4, c5, c6, c7⟩ := HCL.out _ hT9
   have hS9 : (wds S).toArray.size = 8 := by rw [wds_size]; exact hSl
   have hn8 : (wds [v3, s0, s1, s2, v4, s4, s5, s6]).toArray.size = 8 := rfl
   go_wp2_with (refine wpList_store_row rfl 237 (.tmp 5) (.tmp 81) rfl (w.heap.size + 1 + 1) (wds [v3, s0, s1, s2, v4, s4, s5, s6]).toArray rfl rfl 237 (wds S).toArray hT9 (by rw [hn8]; exact HI8.out) (by rw [hS9, hn8]) (wds_one _) ?_)
   go_roundw
   case rel =>
    refine ⟨n + 1, by omega, by go_num, ?_, ?_, ?_, ?_⟩
    ·rw [HNX.out, HST.out]; exact Blk.setRow (w := wr.drew.drew.drew) HT.out _
    ·exact Blk.fr (w := wr.drew.drew.drew) HH.out (Fr.setRow (F := (· = w.heap.size + 1 + 1)) _ _ _ rfl) (Nat.ne_of_lt (by omega))
    ·exact Blk.fr (w := wr.drew.drew.drew) HR.out (Fr.setRow (F := (· = w.heap.size + 1 + 1)) _ _ _ rfl) (Nat.ne_of_lt (by omega))
    ·exact below_setRow HBR.out.drew.drew.drew (by omega) _
   case measure => simp [intOf]; omega
  ·obtain rfl : n = 64 := by omega
   rw [show ((64 : Nat) : Int) = 64 from rfl]
   obtain ⟨S, hSe⟩ : ∃ S, S = sto h b 64 := ⟨_, rfl⟩
   have hw8 := sto_w8 b hh 64
   rw [<- hSe] at hT hw8
   have hmx : mixs h b = hxs h S 8 := by rw [hSe]; exact (tabn_ext fun i hi => by rw [if_pos hi])
   rw [HCH.out] at hH
   rw [<- hxs_zero h S hh.1] at hH
   have HMX := Lh hmx; have HT := Lh hT; have HH := Lh hH; have HR := Lh hR; have HBR := Lh hbr; have HSE := Lh hSe
   clear hmx hT hH hR hbr hSe HCH hcs
   go_wp2_with fail
   go_loopw [83] (fun i wq => ∃ n : Nat, n <= 8 /\ i = .int .i64 n /\ Blk wq w.heap.size 237 (wds (hxs h S n)).toArray /\ Blk wq (w.heap.size + 1 + 1) 237 (wds S).toArray /\ Blk wq (w.heap.size + 1) 237 (wds (tabn 8 fun _ => 0)).toArray /\ Below w.heap.size w wq) (fun i _ => 8 - (intOf i).toNat)
   case atStart => exact ⟨0, by omega, rfl, HH.out, HT.out, HR.out, HBR.out⟩
   case round =>
    clear HH HT HR HBR
    obtain ⟨n, hn, rfl, hH, hT, hR, hbr⟩ := hrel
    by_cases hlt : n < 8
    ·have hlti : (n : Int) < 8 := by omega
     obtain ⟨x, hx⟩ : ∃ x, x = h.getD n 0 := ⟨_, rfl⟩
     obtain ⟨y, hy⟩ : ∃ y, y = S.getD n 0 := ⟨_, rfl⟩
     have hxl : x < 4294967296 := by rw [hx]; exact hh.2 n
     have hyl : y < 4294967296 := by rw [hy]; exact hw8.2 n
     have hgx : (hxs h S n).getD n 0 = x := by
      have e : (hxs h S n).getD n 0 = _ := tabn_get _ hlt
      rw [e, if_neg (by omega), hx]
     have hgy : S.length = 8 := hw8.1
     have hxn : (hxs h S n).length = 8 := tabn_length _ _
     have hcx : ∀ w', Blk w' w.heap.size 237 (wds (hxs h S n)).toArray -> w'.cell? ⟨w.heap.size, n, none⟩ = some (.int .u32 (x : Nat)) := fun w' h' => by rw [wblk_cell h' (by omega), hgx]
     have hcy : ∀ w', Blk w' (w.heap.size + 1 + 1) 237 (wds S).toArray -> w'.cell? ⟨w.heap.size + 1 + 1, n, none⟩ = some (.int .u32 (y : Nat)) := fun w' h' => by rw [wblk_cell h' (by omega), hy]
     have hfz : ∀ w', Blk w' w.heap.size 237 (wds (hxs h S n)).toArray -> w'.frozen? ⟨w.heap.size, n, none⟩ = false := fun w' h' => h'.frozen n
     obtain ⟨v, hv⟩ : ∃ v, v = (x + y) % 4294967296 := ⟨_, rfl⟩
     have hstep : (hxs h S n).set n v = hxs h S (n + 1) := by rw [hv, hx, hy]; exact hxs_next h S n
     have g1 : IntKind.u32.wrap ((x : Int) + (y : Int)) = (v : Int) := by rw [IntKind.wrap_u32', hv]; omega
     have g2 : ((x : Int) + (y : Int)) % 4294967296 = (v : Int) := by rw [hv]; omega
     have hH2 := hH.set_ n (.int .u32 (v : Nat))
     rw [wds_set, hstep] at hH2
     have HH2 := Lh hH2; have HCX := Lh hcx; have HCY := Lh hcy; have HFZ := Lh hfz; have HH := Lh hH; have HT := Lh hT; have HR := Lh hR; have HBR := Lh hbr
     clear hH2 hcx hcy hfz hH hT hR hbr hx hy hgx hv hstep
     go_wp2_with fail
     refine region_fast [(0, true), (1, true), (2, true), (3, true), (4, true), (5, true), (6, true), (7, true), (8, false)] [3, 4, 5] 56 [(77371252455336267181195264, 4096, 0, 0), (154742504910672534362390528, 77371252455336267181195268, 1, 1), (309485009821345068724781056, 154742504910672534362390528, 2, 3), (618970019642690137449562112, 4096, 0, 0), (1237940039285380274899124224, 618970019642690137449562144, 8, 8), (2475880078570760549798248448, 1237940039285380274899124224, 16, 24), (4951760157141521099596496896, 2785365088392105618523029504, 36, 63), (9903520314283042199192993792, 77371252455336267181195268, 127, 127), (0, 14855280471424563298789490688, 255, 255)] (fun w' => Blk w' w.heap.size 237 (wds (hxs h S n)).toArray /\ Blk w' (w.heap.size + 1 + 1) 237 (wds S).toArray) (by kernel_rfl) (by kernel_rfl) (by kernel_rfl) rfl (by kernel_rfl) (by kernel_rfl) ⟨HH.out, HT.out⟩ (fun hS => ?_)
     repeat (first
      | (refine plan_read (v := ?_) rfl (fun _ _ _ h => h) rfl hS ?_ ?_; rotate_left 1; (focus (intro w' hS'; have cx := HCX.out _ hS'.1; have cy := HCY.out _ hS'.2; have cz := HFZ.out _ hS'.1; go_simp; try rfl)); (simp only [Act.put, pu1]; dsimp only [pu2, pu3]))
      | (refine plan_skip rfl (fun _ _ _ h => h) rfl hS ?_; (simp only [Act.put, pu1]; dsimp only [pu2, pu3])))
     have cx : wr.drew.cell? ⟨w.heap.size, n, none⟩ = some (.int .u32 (x : Nat)) := HCX.out _ hS.1
     have cz : wr.drew.frozen? ⟨w.heap.size, n, none⟩ = false := HFZ.out _ hS.1
     refine plan_do (by rfl) (by rfl) (fun K hK => ?_)
     go_simp
     refine hK.out _ _ (fun h => by cases h) (fun _ => ?_); clear hK K; try (simp only [Act.put, pu1]; dsimp only [pu2, pu3])
     refine plan_nil ?_
     go_wp2_with fail
     go_roundw
     case rel => exact ⟨n + 1, by omega, by go_num, HH2.out, HT.out.far (by show w.heap.size + 1 + 1 ≠ w.heap.size; omega) _, HR.out.far (by show w.heap.size + 1 ≠ w.heap.size; omega) _, (HBR.out.setCell (p := ⟨w.heap.size, n, none⟩) (Nat.le_refl _) _).drew⟩
     case measure => simp [intOf]; omega
    ·obtain rfl : n = 8 := by omega
     obtain ⟨C, hC⟩ : ∃ C, C = (wds (hxs h S 8)).toArray := ⟨_, rfl⟩
     have hCs : C.size = 8 := by rw [hC, wds_size]; exact tabn_length _ _
     rw [<- hC] at hH
     have HC := Lh hC; have HH := Lh hH; clear hC hH
     have hR' := hR
     go_wp2_with (first
      | (refine wpList_load_row rfl 237 (.tmp 2) rfl w.heap.size rfl 237 _ (0, 0) _ HH.out Tryz.underlying237 rfl (by rw [hCs]; exact HI8.out) ?_)
      | (refine wpList_store_row rfl 237 (.tmp 4) (.tmp 95) rfl (w.heap.size + 1) _ rfl rfl 237 _ hR' (by rw [hCs]; exact HI8.out) (by rw [hCs]; rfl) (by rw [HC.out]; exact wds_one _) ?_))
     refine bodyPost_ret (v := .agg C) (results_cell_row rfl _ _ (w.heap.size + 1) 237 C (0, 0) _ rfl ?_ Tryz.underlying237 rfl ?_) rfl ⟨?_, below_setRow hbr (by omega) _⟩
     ·exact hR'.setRow C
     ·rw [hCs]; exact HI8.out
     ·rw [HC.out, HMX.out]
end Go.Proofs.YtkgaeoeibjoljaaGreatDoor
