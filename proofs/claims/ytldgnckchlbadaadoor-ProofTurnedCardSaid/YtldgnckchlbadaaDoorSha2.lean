/-
  The digest's schedule, walked.
-/
import Derived.Test.YtldgnckchlbadaaDoorShaM
import Derived.Test.YtldgnckchlbadaaDoorGG
import Derived.Deep.WholeRow
import Derived.Deep.MidRow
namespace Go.Proofs.YtldgnckchlbadaaDoor
set_option maxRecDepth 4000
open Go.RowKit

/-- Words as cells. -/
def wds (l : List Nat) : List Value := l.map fun x => .int .u32 (x : Nat)
theorem length_wds (l : List Nat) : (wds l).length = l.length := by simp [wds]
theorem wds_get {l : List Nat} {i : Nat} (h : i < l.length) : (wds l)[i]? = some (.int .u32 (l.getD i 0 : Nat)) := by simp [wds, List.getD_eq_getElem?_getD, h]
theorem wds_set (l : List Nat) (i v : Nat) : (wds l).toArray.setIfInBounds i (.int .u32 (v : Nat)) = (wds (l.set i v)).toArray := by simp [wds, List.setIfInBounds_toArray, List.map_set]
theorem wds_one (l : List Nat) : (wds l).toArray.all (·.oneCell') = true := by simp [wds, Value.oneCell']
theorem wds_size (l : List Nat) : (wds l).toArray.size = l.length := by simp [wds]
theorem wblk_cell {w : World} {g : Nat} {t : TypeId} {l : List Nat} {i : Nat} (h : Blk w g t (wds l).toArray) (hi : i < l.length) : w.cell? ⟨g, i, none⟩ = some (.int .u32 (l.getD i 0 : Nat)) := by
  rw [h.cell, List.getElem?_toArray, wds_get hi]
theorem tabn_ext {m : Nat} {f g : Nat → Nat} (h : ∀ i, i < m → f i = g i) : tabn m f = tabn m g := List.map_congr_left fun i hi => h i (List.mem_range.1 hi)
theorem tabn_set {m n v : Nat} (f : Nat → Nat) : (tabn m f).set n v = tabn m (fun j => if j = n then v else f j) := by
  refine List.ext_getElem? fun i => ?_
  rw [List.getElem?_set]
  by_cases hi : i < m
  · by_cases h : n = i
    · subst h; simp [tabn, hi]
    · have h2 : ¬ i = n := fun e => h e.symm
      simp [tabn, hi, h, h2]
  · by_cases h : n = i
    · subst h; simp [tabn, hi]
    · simp [tabn, hi, h]

/-- n words are laid. -/
def wg (b : List UInt8) (n : Nat) : List Nat := tabn 64 fun j => if j < n then (ws b 64).getD j 0 else 0
/-- n words and k octets are laid. -/
def wgp (b : List UInt8) (n k : Nat) : List Nat := tabn 64 fun j => if j < n then (ws b 64).getD j 0 else if j = n then wpart b n k else 0
theorem wgp_zero (b : List UInt8) (n : Nat) : wgp b n 0 = wg b n := tabn_ext fun i _ => by
  by_cases h : i < n
  · rw [if_pos h, if_pos h]
  · rw [if_neg h, if_neg h]; split <;> rfl
theorem wgp_next (b : List UInt8) (n k : Nat) : (wgp b n k).set n (wpart b n (k + 1)) = wgp b n (k + 1) := by
  rw [wgp, tabn_set]
  refine tabn_ext fun j _ => ?_
  by_cases e : j = n
  · subst e; simp
  · rw [if_neg e]
    by_cases h : j < n
    · rw [if_pos h, if_pos h]
    · rw [if_neg h, if_neg h, if_neg e, if_neg e]
theorem wgp_four (b : List UInt8) {n : Nat} (h : n < 16) : wgp b n 4 = wg b (n + 1) := tabn_ext fun j _ => by
  by_cases h1 : j < n
  · rw [if_pos h1, if_pos (by omega)]
  · rw [if_neg h1]
    by_cases e : j = n
    · subst e; rw [if_pos rfl, if_pos (by omega), ws_get b (by omega), wnext, if_pos h, wpart_four]
    · rw [if_neg e, if_neg (by omega)]
theorem wg_next (b : List UInt8) (n : Nat) : (wg b n).set n ((ws b 64).getD n 0) = wg b (n + 1) := by
  rw [wg, tabn_set]
  refine tabn_ext fun j _ => ?_
  by_cases e : j = n
  · subst e; simp
  · rw [if_neg e]
    by_cases h : j < n
    · rw [if_pos h, if_pos (by omega)]
    · rw [if_neg h, if_neg (by omega)]
theorem wg_all (b : List UInt8) : wg b 64 = ws b 64 := by
  refine List.ext_getElem? fun i => ?_
  by_cases hi : i < 64
  · have h1 := List.getElem?_eq_getElem (l := ws b 64) (i := i) (by rw [ws_length]; exact hi)
    simp [wg, tabn, hi, List.getD_eq_getElem?_getD, h1]
  · rw [List.getElem?_eq_none (by simp [wg, tabn]; omega), List.getElem?_eq_none (by rw [ws_length]; omega)]
theorem wg_get (b : List UInt8) {n j : Nat} (h : j < n) (hj : j < 64) : (wg b n).getD j 0 = (ws b 64).getD j 0 := by
  have e : (wg b n).getD j 0 = _ := tabn_get _ hj
  rw [e, if_pos h]

set_option maxRecDepth 4000 in
set_option maxHeartbeats 1000000 in
theorem spread_any (b : List UInt8) (hb : b.length = 64) (g off c : Nat) (w : World) (hS : Sees w 1 (some ⟨g, off, none⟩) 64 (u8s b)) (hc : 64 ≤ c) (hg : g < w.heap.size) :
    Calls Tryd.prog 83 #[.slice (some ⟨g, off, none⟩) 64 c] w fun e w' => e = .returned (.agg (wds (ws b 64)).toArray) ∧ Below w.heap.size w w' := by
  have hi64 : (Tryd.prog.info? 144).map (·.size) = some 64 := by kernel_rfl
  have HI64 := Lib.hid hi64; clear hi64
  have HS := Lib.hid hS; clear hS
  go_enter Tryd.func83, Tryd.ntmps83
  go_wp2_with fail
  go_loopw [4, 7] (fun _ i wr => ∃ n : Nat, n ≤ 64 ∧ i = .int .i64 n ∧ Blk wr (w.heap.size + 1) 144 (wds (wg b n)).toArray ∧ Blk wr w.heap.size 144 (wds (tabn 64 fun _ => 0)).toArray ∧ Below w.heap.size w wr) (fun _ i _ => 64 - (intOf i).toNat)
  case atStart =>
    refine ⟨0, by omega, rfl, Blk.newAt (by simp) (by rfl), (Blk.newAt rfl (by rfl)).alloc _, ((Below.refl _ _).alloc (Nat.le_refl _) _).alloc (by simp) _⟩
  case round =>
    obtain ⟨n, hn, rfl, hB, hR, hbr⟩ := hrel
    by_cases hlt : n < 64
    · have hlti : (n : Int) < 64 := by omega
      by_cases h16 : n < 16
      · have h16i : (n : Int) < 16 := by omega
        have hs4 : (64 : Int).tdiv 4 = 16 := by decide
        have hcn : ¬ c = 4 * n := by omega
        have hq1 : 4 * (n : Int) + 4 ≤ (c : Int) := by omega
        have hn1 : (4 * (n : Int)).toNat = 4 * n := by omega
        have hn2 : (4 * (n : Int) + 4).toNat = 4 * n + 4 := by omega
        have hd4 : 4 * n + 4 - 4 * n = 4 := by omega
        have HB := Lib.hid hB; have HR := Lib.hid hR; have HBR := Lib.hid hbr; clear hB hR hbr
        go_wp2_with fail
        obtain ⟨W0, hW0⟩ : ∃ W, W = wr := ⟨_, rfl⟩
        rw [← hW0] at HB HR HBR ⊢
        clear hW0
        go_loopw [6, 23] (fun _ i wq => ∃ k : Nat, k ≤ 4 ∧ i = .int .i64 k ∧ Blk wq (w.heap.size + 1) 144 (wds (wgp b n k)).toArray ∧ Fr (· = w.heap.size + 1) W0 wq) (fun _ i _ => 4 - (intOf i).toNat)
        case atStart => exact ⟨0, by omega, rfl, by rw [wgp_zero]; exact HB.out, Fr.refl _ _⟩
        case round =>
          obtain ⟨k, hk, rfl, hP, hF⟩ := hrel
          by_cases hlk : k < 4
          · have hlki : (k : Int) < 4 := by omega
            have hbq : Below w.heap.size w wr := HBR.out.trans (hF.below HBR.out.size (fun j hj => hj ▸ (by omega)))
            obtain ⟨d, hd⟩ : ∃ d, d = (b.getD (4 * n + k) 0).toNat := ⟨_, rfl⟩
            have hd256 : d < 256 := by rw [hd]; exact UInt8.toNat_lt _
            have hcd : wr.cell? ⟨g, off + 4 * n + k, none⟩ = some (.int .u8 (d : Nat)) := by
              obtain ⟨g', off', e, hc⟩ := sees_u8 (HS.out.below hbq) (show 4 * n + k < 64 by omega) (by omega)
              injection e with e; injection e with e1 e2; subst e1 e2
              rw [Nat.add_assoc, hc, hd, List.getD_eq_getElem?_getD, List.getElem?_eq_getElem (by omega)]; rfl
            have hpl : (wgp b n k).length = 64 := tabn_length _ _
            have hx : (wgp b n k).getD n 0 = wpart b n k := by
              have e : (wgp b n k).getD n 0 = _ := tabn_get _ (by omega)
              rw [e, if_neg (by omega), if_pos rfl]
            have hcx : wr.cell? ⟨w.heap.size + 1, n, none⟩ = some (.int .u32 (wpart b n k : Nat)) := by rw [wblk_cell hP (by omega), hx]
            have hfz : wr.frozen? ⟨w.heap.size + 1, n, none⟩ = false := hP.frozen n
            have hxl := wpart_lt b n k
            have hp3 : (256 : Nat) ^ k ≤ 256 ^ 3 := Nat.pow_le_pow_right (by decide) (by omega)
            have hP2 := hP.set_ n (.int .u32 (wpart b n (k + 1) : Nat))
            rw [wds_set, wgp_next] at hP2
            have hnx : wpart b n (k + 1) = wpart b n k * 256 + d := by rw [hd]; rfl
            rw [hnx] at hP2
            generalize wpart b n k = x at *
            have hor : bits BinOp.or IntKind.u32 ((x : Int) * 256) (d : Int) = ((x * 256 + d : Nat) : Int) := by
              have e : ((x : Int) * 256) = ((x * 256 : Nat) : Int) := by omega
              rw [e, u32_or_nat _ _ (by omega) (by omega), or_add hd256]
            have HOR := Lib.hid hor; have HP2 := Lib.hid hP2; have HF := Lib.hid hF; clear hor hP2 hF hP hx hnx hd hbq
            go_wp2_with fail
            go_roundw
            case rel => exact ⟨k + 1, by omega, by go_num, by rw [HOR.out]; exact HP2.out, HF.out.trans (Fr.setCell (F := (· = w.heap.size + 1)) _ _ _ rfl) (fun j _ h => h)⟩
            case measure => simp [intOf]; omega
          · obtain rfl : k = 4 := by omega
            rw [wgp_four b h16] at hP
            have hbq : Below w.heap.size w wr := HBR.out.trans (hF.below HBR.out.size (fun j hj => hj ▸ (by omega)))
            have hRq := HR.out.fr hF (Nat.ne_of_lt (by omega))
            have HP := Lib.hid hP; have HBQ := Lib.hid hbq; have HRQ := Lib.hid hRq; clear hP hbq hRq hF
            go_wp2_with fail
            go_roundw
            case rel => exact ⟨n + 1, by omega, by go_num, HP.out, HRQ.out, HBQ.out⟩
            case measure => simp [intOf]; omega
      · have h16i : ¬ ((n : Int) < 16) := by omega
        have hs4 : (64 : Int).tdiv 4 = 16 := by decide
        obtain ⟨a2, h2⟩ : ∃ a, a = (ws b 64).getD (n - 2) 0 := ⟨_, rfl⟩
        obtain ⟨a7, h7⟩ : ∃ a, a = (ws b 64).getD (n - 7) 0 := ⟨_, rfl⟩
        obtain ⟨a15, h15⟩ : ∃ a, a = (ws b 64).getD (n - 15) 0 := ⟨_, rfl⟩
        obtain ⟨a16, h16'⟩ : ∃ a, a = (ws b 64).getD (n - 16) 0 := ⟨_, rfl⟩
        have l2 : a2 < 4294967296 := by rw [h2]; exact ws_lt _ _ _
        have l7 : a7 < 4294967296 := by rw [h7]; exact ws_lt _ _ _
        have l15 : a15 < 4294967296 := by rw [h15]; exact ws_lt _ _ _
        have l16 : a16 < 4294967296 := by rw [h16']; exact ws_lt _ _ _
        have hst := ws_step b (show 16 ≤ n by omega) hlt
        rw [← h2, ← h7, ← h15, ← h16'] at hst
        have hwl : (wg b n).length = 64 := tabn_length _ _
        have hcs : ∀ w', Blk w' (w.heap.size + 1) 144 (wds (wg b n)).toArray → w'.cell? ⟨w.heap.size + 1, n - 2, none⟩ = some (.int .u32 (a2 : Nat)) ∧ w'.cell? ⟨w.heap.size + 1, n - 7, none⟩ = some (.int .u32 (a7 : Nat)) ∧ w'.cell? ⟨w.heap.size + 1, n - 15, none⟩ = some (.int .u32 (a15 : Nat)) ∧ w'.cell? ⟨w.heap.size + 1, n - 16, none⟩ = some (.int .u32 (a16 : Nat)) := fun w' h =>
          ⟨by rw [wblk_cell h (by omega), wg_get b (by omega) (by omega), h2], by rw [wblk_cell h (by omega), wg_get b (by omega) (by omega), h7],
           by rw [wblk_cell h (by omega), wg_get b (by omega) (by omega), h15], by rw [wblk_cell h (by omega), wg_get b (by omega) (by omega), h16']⟩
        have hs1l : sf3 a2 17 19 10 < 4294967296 := xor32 (xor32 (rr_lt _ l2) (rr_lt _ l2)) (Nat.lt_of_le_of_lt (Nat.div_le_self _ _) l2)
        have hs2l : sf3 a15 7 18 3 < 4294967296 := xor32 (xor32 (rr_lt _ l15) (rr_lt _ l15)) (Nat.lt_of_le_of_lt (Nat.div_le_self _ _) l15)
        have F1 := Lib.hid (shifted_any a2 17 19 10 l2 (by omega) (by omega) (by omega))
        have F2 := Lib.hid (shifted_any a15 7 18 3 l15 (by omega) (by omega) (by omega))
        have HCS := Lib.hid hcs; have HST := Lib.hid hst; clear hcs hst h2 h7 h15 h16'
        generalize sf3 a2 17 19 10 = s1 at *
        generalize sf3 a15 7 18 3 = s2 at *
        have m2 : ((n : Int) - 2).toNat = n - 2 := by omega
        have m7 : ((n : Int) - 7).toNat = n - 7 := by omega
        have m15 : ((n : Int) - 15).toNat = n - 15 := by omega
        have m16 : ((n : Int) - 16).toNat = n - 16 := by omega
        have p2 : (0 : Int) ≤ (n : Int) - 2 := by omega
        have p7 : (0 : Int) ≤ (n : Int) - 7 := by omega
        have p15 : (0 : Int) ≤ (n : Int) - 15 := by omega
        have p16 : (0 : Int) ≤ (n : Int) - 16 := by omega
        have q2 : (n : Int) - 2 < 64 := by omega
        have q7 : (n : Int) - 7 < 64 := by omega
        have q15 : (n : Int) - 15 < 64 := by omega
        have q16 : (n : Int) - 16 < 64 := by omega
        have u2 : (2 : Int) ≤ (n : Int) := by omega
        have u7 : (7 : Int) ≤ (n : Int) := by omega
        have u15 : (15 : Int) ≤ (n : Int) := by omega
        have u16 : (16 : Int) ≤ (n : Int) := by omega
        have v2 : (n : Int) < 66 := by omega
        have v7 : (n : Int) < 71 := by omega
        have v15 : (n : Int) < 79 := by omega
        have v16 : (n : Int) < 80 := by omega
        have r2 : IntKind.i64.wrap ((n : Int) - 2) = (n : Int) - 2 := IntWalk.i64_in _ (by omega)
        have r7 : IntKind.i64.wrap ((n : Int) - 7) = (n : Int) - 7 := IntWalk.i64_in _ (by omega)
        have r15 : IntKind.i64.wrap ((n : Int) - 15) = (n : Int) - 15 := IntWalk.i64_in _ (by omega)
        have r16 : IntKind.i64.wrap ((n : Int) - 16) = (n : Int) - 16 := IntWalk.i64_in _ (by omega)
        have HB := Lib.hid hB; have HR := Lib.hid hR; have HBR := Lib.hid hbr; clear hB hR hbr
        go_wp2_with fail
        refine region_fast [(0, true), (1, true), (2, true), (3, true), (4, true), (6, true), (7, true), (8, true), (9, true), (11, true), (12, true), (13, true), (14, true), (17, true), (18, true), (19, true), (20, true), (5, false), (10, true), (15, false), (16, true), (21, true), (22, true), (23, false)] [1, 2, 3, 4, 5, 6, 7, 8, 9, 10, 11, 12, 13, 14, 15, 16, 17, 18, 19, 20, 21] 4194302 [(137438953472, 16, 0, 0), (274877906944, 16, 0, 0), (549755813888, 274877906944, 2, 2), (1099511627776, 549755813896, 4, 6), (2199023255552, 1099511627776, 8, 14), (4398046511104, 2199023255552, 16, 30), (8796093022208, 16, 0, 0), (17592186044416, 8796093022208, 64, 64), (35184372088832, 17592186044424, 128, 192), (70368744177664, 35184372088832, 256, 448), (140737488355328, 74766790688768, 544, 1022), (281474976710656, 16, 0, 0), (562949953421312, 281474976710656, 2048, 2048), (1125899906842624, 562949953421320, 4096, 6144), (2251799813685248, 1125899906842624, 8192, 14336), (4503599627370496, 2251799813685248, 16416, 30782), (9007199254740992, 4644337115725824, 33792, 65534), (18014398509481984, 16, 0, 0), (36028797018963968, 18014398509481984, 131072, 131072), (72057594037927936, 36028797018963976, 262144, 393216), (144115188075855872, 72057594037927936, 524288, 917504), (288230376151711744, 153122387330596864, 1114112, 2097150), (576460752303423488, 137438953480, 4194303, 4194303), (0, 864691128455135232, 8388607, 8388607)] (fun w' => Blk w' (w.heap.size + 1) 144 (wds (wg b n)).toArray) (by kernel_rfl) (by kernel_rfl) (by kernel_rfl) rfl (by kernel_rfl) (by kernel_rfl) HB.out (fun hS => ?_)
        repeat (first
          | (refine plan_read (v := ?_) rfl (fun _ _ _ h => h) rfl hS ?_ ?_; rotate_left 1; (focus (intro w' hS'; obtain ⟨c2, c7, c15, c16⟩ := HCS.out _ hS'; go_simp; try rfl)); (simp only [Act.put, List.setIfInBounds_toArray]; dsimp only [List.set_cons_zero, List.set_cons_succ]))
          | (refine plan_skip rfl (fun _ _ _ h => h) rfl hS ?_; (simp only [Act.put, List.setIfInBounds_toArray]; dsimp only [List.set_cons_zero, List.set_cons_succ])))
        refine plan_do (by rfl) (by rfl) (fun K hK => ?_)
        go_simp
        refine (F1.out _).mono ?_
        rintro e w2 ⟨rfl, hb2⟩
        have hs2 : Blk w2 (w.heap.size + 1) 144 (wds (wg b n)).toArray := hS.below hb2 hS.lt
        have hR2 : Blk w2 w.heap.size 144 (wds (tabn 64 fun _ => 0)).toArray := Blk.below (w := wr.drew) HR.out hb2 HR.out.lt
        have hbe2 : Below w.heap.size w w2 := HBR.out.drew.trans (hb2.mono HBR.out.drew.size)
        refine hK.out _ _ (fun _ => hs2) (fun hS => ?_); clear hK K; replace hS := hS rfl; try (simp only [Act.put, List.setIfInBounds_toArray]; dsimp only [List.set_cons_zero, List.set_cons_succ])
        repeat (first
          | (refine plan_read (v := ?_) rfl (fun _ _ _ h => h) rfl hS ?_ ?_; rotate_left 1; (focus (intro w' hS'; go_simp; try rfl)); (simp only [Act.put, List.setIfInBounds_toArray]; dsimp only [List.set_cons_zero, List.set_cons_succ]))
          | (refine plan_skip rfl (fun _ _ _ h => h) rfl hS ?_; (simp only [Act.put, List.setIfInBounds_toArray]; dsimp only [List.set_cons_zero, List.set_cons_succ])))
        refine plan_do (by rfl) (by rfl) (fun K hK => ?_)
        go_simp
        refine (F2.out _).mono ?_
        rintro e w3 ⟨rfl, hb3⟩
        have hs3 : Blk w3 (w.heap.size + 1) 144 (wds (wg b n)).toArray := hS.below hb3 hS.lt
        have hR3 := hR2.below hb3 hR2.lt
        have hbe3 : Below w.heap.size w w3 := hbe2.trans (hb3.mono hbe2.size)
        refine hK.out _ _ (fun _ => hs3) (fun hS => ?_); clear hK K; replace hS := hS rfl; try (simp only [Act.put, List.setIfInBounds_toArray]; dsimp only [List.set_cons_zero, List.set_cons_succ])
        repeat (first
          | (refine plan_read (v := ?_) rfl (fun _ _ _ h => h) rfl hS ?_ ?_; rotate_left 1; (focus (intro w' hS'; go_simp; try rfl)); (simp only [Act.put, List.setIfInBounds_toArray]; dsimp only [List.set_cons_zero, List.set_cons_succ]))
          | (refine plan_skip rfl (fun _ _ _ h => h) rfl hS ?_; (simp only [Act.put, List.setIfInBounds_toArray]; dsimp only [List.set_cons_zero, List.set_cons_succ])))
        have hfz : w3.frozen? ⟨w.heap.size + 1, n, none⟩ = false := hS.frozen n
        obtain ⟨u, hcu⟩ : ∃ u, w3.cell? ⟨w.heap.size + 1, n, none⟩ = some u := ⟨_, wblk_cell hS (by omega)⟩
        have hB4 := hS.set_ n (.int .u32 ((ws b 64).getD n 0 : Nat))
        rw [wds_set, wg_next] at hB4
        have hR4 := hR3.far (p := ⟨w.heap.size + 1, n, none⟩) (by show w.heap.size ≠ w.heap.size + 1; omega) (.int .u32 ((ws b 64).getD n 0 : Nat))
        have hbe4 := hbe3.setCell (p := ⟨w.heap.size + 1, n, none⟩) (by show w.heap.size ≤ w.heap.size + 1; omega) (.int .u32 ((ws b 64).getD n 0 : Nat))
        have HB4 := Lib.hid hB4; have HR4 := Lib.hid hR4; have HE4 := Lib.hid hbe4; clear hB4 hR4 hbe4
        refine plan_do (by rfl) (by rfl) (fun K hK => ?_)
        go_simp
        refine hK.out _ _ (fun h => by cases h) (fun _ => ?_); clear hK K; try (simp only [Act.put, List.setIfInBounds_toArray]; dsimp only [List.set_cons_zero, List.set_cons_succ])
        refine plan_nil ?_
        go_wp2_with fail
        go_roundw
        case rel =>
          have hv : ((((s1 : Int) + (a7 : Int)) % 4294967296 + (s2 : Int)) % 4294967296 + (a16 : Int)) % 4294967296 = (((ws b 64).getD n 0 : Nat) : Int) := by rw [HST.out]; omega
          rw [hv]
          exact ⟨n + 1, by omega, by go_num, HB4.out, HR4.out, HE4.out⟩
        case measure => simp [intOf]; omega
    · obtain rfl : n = 64 := by omega
      obtain ⟨C, hC⟩ : ∃ C, C = (wds (wg b 64)).toArray := ⟨_, rfl⟩
      have hlen : C.size = 64 := by rw [hC, wds_size, wg, tabn_length]
      rw [← hC] at hB
      have HC := Lib.hid hC; clear hC
      go_wp2_with (first
        | (refine wpList_load_row rfl 144 (.tmp 3) rfl (w.heap.size + 1) rfl 144 _ (0, 0) _ hB Tryd.underlying144 rfl (by rw [hlen]; exact HI64.out) ?_)
        | (refine wpList_store_row rfl 144 (.tmp 2) (.tmp 61) rfl w.heap.size _ rfl rfl 144 _ hR (by rw [hlen]; exact HI64.out) (by rw [hlen]; rfl) (by rw [HC.out]; exact wds_one _) ?_))
      refine bodyPost_ret (v := .agg C) (results_cell_row rfl _ _ w.heap.size 144 C (0, 0) _ rfl ?_ Tryd.underlying144 rfl ?_) rfl ⟨?_, below_setRow hbr (Nat.le_refl _) _⟩
      · exact hR.setRow C
      · rw [hlen]; exact HI64.out
      · rw [HC.out, wg_all]
end Go.Proofs.YtldgnckchlbadaaDoor
