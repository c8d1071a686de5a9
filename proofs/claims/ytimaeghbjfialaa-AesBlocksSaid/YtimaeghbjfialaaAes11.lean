/-
  The document's boxes, by powers of 3.
-/
import Derived.Test.YtimaeghbjfialaaAes10
namespace Go.Proofs.Ytimaeghbjfialaa
open Go.RowKit

/-- Numbers as cells. -/
def nis (l : List Nat) : List Value := l.map fun x => .int .i64 (x : Nat)
theorem length_nis (l : List Nat) : (nis l).length = l.length := by simp [nis]
theorem nis_get {l : List Nat} {i : Nat} (h : i < l.length) : (nis l)[i]? = some (.int .i64 (l.getD i 0 : Nat)) := by simp [nis, List.getD_eq_getElem?_getD, h]
theorem nis_arr_set (l : List Nat) (i v : Nat) : (nis l).toArray.setIfInBounds i (.int .i64 (v : Nat)) = (nis (l.set i v)).toArray := by simp [nis, List.setIfInBounds_toArray, List.map_set]
theorem nis_one (l : List Nat) : (nis l).toArray.all (·.oneCell') = true := by simp [nis, Value.oneCell']
theorem nis_size (l : List Nat) : (nis l).toArray.size = l.length := by simp [nis]
theorem bln_cell {w : World} {g : Nat} {t : TypeId} {l : List Nat} {i : Nat} (h : Blk w g t (nis l).toArray) (hi : i < l.length) : w.cell? ⟨g, i, none⟩ = some (.int .i64 (l.getD i 0 : Nat)) := by
  rw [h.cell, List.getElem?_toArray, nis_get hi]
theorem info_int : (Try.prog.info? 3).map (fun i => (i.zero, i.size, i.bytes)) = some (some (.int .i64 0), 1, 8) := by kernel_rfl

theorem make_ints (n : Nat) (hn : n ≤ 1000) (W : World) : (Instr.makeSlice 30 (.int .i64 (n : Int)) (.int .i64 (n : Int))).run Try.prog W = .ok (.slice (some ⟨W.heap.size, 0, none⟩) n n) (W.alloc (.cells (nis (tab n fun _ => 0)).toArray 3)) := by
  obtain ⟨i, hi, hz, hs, hb⟩ := info_parts info_int
  have h := run_make (P := Try.prog) W 30 3 i (.int .i64 0) Try.underlying30 hi hz .i64 .i64 (n : Int) (n : Int) (by omega) (by omega) (by rw [hb]; omega) (by omega)
  have e0 : nis (tab n fun _ => 0) = List.replicate n (Value.int .i64 0) := by
    refine List.ext_getElem? fun j => ?_
    by_cases h : j < n
    · simp [nis, tab, h]
    · simp [nis, tab, h]
  have e1 : madeCells (Value.int .i64 0).cells ((n : Int).toNat * i.size) = (nis (tab n fun _ => 0)).toArray := by
    rw [hs, Int.toNat_natCast, Nat.mul_one, e0, ← toList_madeCells_one (.int .i64 0) n]
    rfl
  rw [e1, Int.toNat_natCast] at h
  exact h

theorem w64 {n : Int} (h0 : 0 ≤ n) (h1 : n < 65536) : wrap64 n = n := by unfold wrap64; omega

set_option maxRecDepth 100000 in
set_option maxHeartbeats 2000000 in
theorem Boxes_any (w : World) : Calls Try.prog 13 #[] w fun e w' => ∃ g, e = .returned (.slice (some ⟨g, 0, none⟩) 256 256) ∧ Blk w' g 3 (nis sbox).toArray ∧ w.heap.size ≤ g ∧ Below w.heap.size w w' := by
  have hmk := make_ints 256 (by omega)
  obtain ⟨z, hz⟩ : ∃ z : Array Value, z = (nis (tab 256 fun _ => 0)).toArray := ⟨_, rfl⟩
  rw [← hz] at hmk
  replace hmk : ∀ W : World, (Instr.makeSlice 30 (.int .i64 256) (.int .i64 256)).run Try.prog W = .ok (.slice (some ⟨W.heap.size, 0, none⟩) 256 256) (W.alloc (.cells z 3)) := hmk
  have HZ := Lib.hid hz; clear hz
  have hz1 : z = (nis (exg 0)).toArray := by rw [HZ.out]; rfl
  have hz2 : z = (nis (lgg 0)).toArray := by rw [HZ.out]; exact congrArg (fun l => (nis l).toArray) (tab_ext fun i _ => by rw [if_neg (fun h => by omega)])
  have hz3 : z = (nis (boxg 0)).toArray := by rw [HZ.out]; rfl
  have HZ1 := Lib.hid hz1; have HZ2 := Lib.hid hz2; have HZ3 := Lib.hid hz3; clear hz1 hz2 hz3
  go_enter Try.func13, Try.ntmps13
  go_wp2_with fail
  go_loopw [3, 4] (fun x i wr => ∃ k : Nat, k ≤ 255 ∧ i = .int .i64 k ∧ x = .int .i64 (ex k : Nat) ∧ Blk wr w.heap.size 3 (nis (exg k)).toArray ∧ Blk wr (w.heap.size + 1) 3 (nis (lgg k)).toArray ∧ Below w.heap.size w wr) (fun _ i _ => 255 - (intOf i).toNat)
  case atStart => exact ⟨0, by omega, rfl, rfl, (Blk.new' rfl HZ1.out).alloc _, Blk.new' (by simp) HZ2.out, ((Below.refl _ _).alloc (Nat.le_refl _) _).alloc (by simp) _⟩
  case round =>
    obtain ⟨k, hk, rfl, rfl, hE, hL, hbel⟩ := hrel
    by_cases hlt : k < 255
    · have hlti : (k : Int) < 255 := by omega
      have hlti2 : (k : Int) < 256 := by omega
      obtain ⟨hx1, hx2, hx3, hx4⟩ := ex_next k hlt
      have MK := Lib.hid (rmul_any (ex k) 3 hx2 (by omega))
      rw [← hx1] at MK
      have hE2 := (hE.set_ k (.int .i64 (ex k : Nat))).far (p := ⟨w.heap.size + 1, ex k, none⟩) (by show w.heap.size ≠ w.heap.size + 1; omega) (.int .i64 (k : Nat))
      rw [nis_arr_set, exg_next] at hE2
      have hL2 := (hL.far (p := ⟨w.heap.size, k, none⟩) (by show w.heap.size + 1 ≠ w.heap.size; omega) (.int .i64 (ex k : Nat))).set_ (ex k) (.int .i64 (k : Nat))
      rw [nis_arr_set, lgg_next hlt] at hL2
      obtain ⟨u, hc1⟩ : ∃ u, wr.cell? ⟨w.heap.size, k, none⟩ = some u := ⟨_, bln_cell hE (by rw [exg, tab_length]; omega)⟩
      obtain ⟨v, hc2⟩ : ∃ u, wr.cell? ⟨w.heap.size + 1, ex k, none⟩ = some u := ⟨_, bln_cell hL (by rw [lgg, tab_length]; omega)⟩
      have hf1 : wr.frozen? ⟨w.heap.size, k, none⟩ = false := hE.frozen k
      have hf2 : wr.frozen? ⟨w.heap.size + 1, ex k, none⟩ = false := hL.frozen (ex k)
      have HE2 := Lib.hid hE2; have HL2 := Lib.hid hL2; clear hE hE2 hL hL2 hx1 hx3 hx4
      generalize ex k = x at *
      have hxi : (x : Int) < 256 := by omega
      go_wp2_with fail
      refine (MK.out _).mono ?_
      rintro e w' ⟨rfl, rfl⟩
      go_wp2_with fail
      go_roundw
      case rel => exact ⟨k + 1, by omega, by go_num, rfl, HE2.out, HL2.out, (hbel.setCell (Nat.le_refl _) _).setCell (by show w.heap.size ≤ w.heap.size + 1; omega) _⟩
      case measure => simp [intOf]; omega
    · obtain rfl : k = 255 := by omega
      have hsz := hL.lt
      generalize ex 255 = xl
      obtain ⟨g, hg⟩ : ∃ g, g = wr.heap.size := ⟨_, rfl⟩
      have hE3 := hE.alloc (.cells z 3)
      have hL3 := hL.alloc (.cells z 3)
      have hO3 : Blk (wr.alloc (.cells z 3)) g 3 (nis (boxg 0)).toArray := Blk.new' hg HZ3.out
      have hbel3 := hbel.alloc hbel.size (.cells z 3)
      have HE3 := Lib.hid hE3; have HL3 := Lib.hid hL3; have HO3 := Lib.hid hO3; have HB3 := Lib.hid hbel3; clear hE hL hbel hE3 hL3 hO3 hbel3
      have HG := Lib.hid hg
      rw [← hg] at hsz
      clear hg
      go_wp2_with fail
      rw [← HG.out]
      go_loopw [6, 7, 8] (fun c _ _ wr => ∃ k : Nat, k ≤ 256 ∧ c = .int .i64 k ∧ Blk wr w.heap.size 3 (nis (exg 255)).toArray ∧ Blk wr (w.heap.size + 1) 3 (nis (lgg 255)).toArray ∧ Blk wr g 3 (nis (boxg k)).toArray ∧ Below w.heap.size w wr) (fun c _ _ _ => 256 - (intOf c).toNat)
      case atStart => exact ⟨0, by omega, rfl, HE3.out, HL3.out, HO3.out, HB3.out⟩
      case round =>
        obtain ⟨c, hc, rfl, hE, hL, hO, hbel⟩ := hrel
        clear HE3 HL3 HO3 HB3
        by_cases hlt : c < 256
        · have hlti : (c : Int) < 256 := by omega
          obtain ⟨v, hv⟩ : ∃ v, v = inv c := ⟨_, rfl⟩
          have hv2 : v < 256 := by rw [hv]; exact inv_lt hlt
          have hyb := ys_box hlt
          rw [← hv] at hyb
          have HYB := Lib.hid hyb; clear hyb
          have hO2 := hO.set_ c (.int .i64 (sb c : Nat))
          rw [nis_arr_set, boxg_next] at hO2
          have HO2 := Lib.hid hO2; clear hO2
          obtain ⟨u, hcc⟩ : ∃ u, wr.cell? ⟨g, c, none⟩ = some u := ⟨_, bln_cell hO (by rw [boxg, tab_length]; exact hlt)⟩
          have hff : wr.frozen? ⟨g, c, none⟩ = false := hO.frozen c
          by_cases h0 : c = 0
          · have hv0 : v = 0 := by rw [hv, h0, inv_zero]
            have h0i : ¬ ((0 : Int) < (c : Int)) := by omega
            have HV0 := Lib.hid hv0; clear hv hv0 h0
            go_wp2_with fail
            go_loop [7, 8, 9] (fun i y k => ∃ j : Nat, j ≤ 4 ∧ k = .int .i64 j ∧ i = .int .i64 (tu v j : Nat) ∧ y = .int .i64 (ys v j : Nat)) (fun _ _ k => 4 - (intOf k).toNat)
            case atStart => exact ⟨0, by omega, rfl, by rw [HV0.out]; rfl, by rw [HV0.out]; exact congrArg (Value.int .i64) (i64_xor_nat 99 0 (by omega) (by omega))⟩
            case round =>
              obtain ⟨j, hj, rfl, rfl, rfl⟩ := hrel
              by_cases hlj : j < 4
              · have hlji : (j : Int) < 4 := by omega
                have ht := tu_lt hv2 j
                have ht1 := tu_lt hv2 (j + 1)
                have hy := ys_lt hv2 j
                obtain ⟨q, hq⟩ : ∃ q, q = tu v j / 128 := ⟨_, rfl⟩
                have hq2 : q < 2 := by omega
                have b1 : (0 : Int) ≤ (tu v j : Int) * 2 := by omega
                have b2 : (tu v j : Int) * 2 < 65536 := by omega
                have b3 : (0 : Int) ≤ (q : Int) := by omega
                have b4 : (q : Int) < 65536 := by omega
                have b5 : (0 : Int) ≤ (tu v j : Int) * 2 + (q : Int) := by omega
                have b6 : (tu v j : Int) * 2 + (q : Int) < 65536 := by omega
                have hqi : (tu v j : Int).tdiv 128 = (q : Int) := by rw [Int.tdiv_eq_ediv_of_nonneg (by omega), hq]; omega
                have htn : ((tu v j : Int) * 2 + (q : Int)).tmod 256 = (tu v (j + 1) : Int) := by
                  rw [Int.tmod_eq_emod_of_nonneg (by omega), hq]
                  show _ = (((tu v j * 2 + tu v j / 128) % 256 : Nat) : Int)
                  omega
                have HX := Lib.hid (i64_xor_nat (ys v j) (tu v (j + 1)) (by omega) (by omega))
                have HY : Hid (ys v (j + 1) = ys v j ^^^ tu v (j + 1)) := Lib.hid rfl
                clear hq
                generalize tu v j = t0 at *
                generalize ys v j = y0 at *
                generalize htt : tu v (j + 1) = t1 at *
                have HTT := Lib.hid htt; clear htt
                go_wp2_with fail
                go_round
                case rel => exact ⟨j + 1, by omega, by go_num, by rw [HTT.out], by rw [HX.out, HY.out]⟩
                case measure => simp [intOf]; omega
              · obtain rfl : j = 4 := by omega
                rw [HYB.out]
                go_wp2_with fail
                go_roundw
                case rel => exact ⟨c + 1, by omega, by go_num, hE.far (by show w.heap.size ≠ g; omega) _, hL.far (by show w.heap.size + 1 ≠ g; omega) _, HO2.out, hbel.setCell (by show w.heap.size ≤ g; omega) _⟩
                case measure => simp [intOf]; omega
          · have h0i : (0 : Int) < (c : Int) := by omega
            obtain ⟨hl1, hl2⟩ := lg_ok c hlt h0
            have hcl : wr.cell? ⟨w.heap.size + 1, c, none⟩ = some (.int .i64 (lg c : Nat)) := by
              rw [bln_cell hL (by rw [lgg, tab_length]; exact hlt)]
              have e : (lgg 255).getD c 0 = _ := tab_get _ hlt
              rw [e, if_pos ⟨h0, hl2⟩]
            obtain ⟨d, hd⟩ : ∃ d, d = (255 - lg c) % 255 := ⟨_, rfl⟩
            have hd2 : d < 255 := by rw [hd]; exact Nat.mod_lt _ (by decide)
            have hce : wr.cell? ⟨w.heap.size, d, none⟩ = some (.int .i64 (v : Nat)) := by
              rw [bln_cell hE (by rw [exg, tab_length]; omega)]
              have h3 := iv3_eq hlt
              rw [iv3, if_neg h0] at h3
              have e : (lgg 255).getD c 0 = _ := tab_get _ hlt
              rw [e, if_pos ⟨h0, hl2⟩, ← hd] at h3
              rw [h3, ← hv]
            have hdi : (255 - (lg c : Int)).tmod 255 = (d : Int) := by rw [Int.tmod_eq_emod_of_nonneg (by omega), hd]; omega
            clear hd hl1 hv
            generalize lg c = l at *
            have hdi2 : (d : Int) < 256 := by omega
            have hli : IntKind.i64.wrap (255 - (l : Int)) = 255 - (l : Int) := IntWalk.i64_in _ (by omega)
            go_wp2_with fail
            go_loop [7, 8, 9] (fun i y k => ∃ j : Nat, j ≤ 4 ∧ k = .int .i64 j ∧ i = .int .i64 (tu v j : Nat) ∧ y = .int .i64 (ys v j : Nat)) (fun _ _ k => 4 - (intOf k).toNat)
            case atStart => exact ⟨0, by omega, rfl, rfl, congrArg (Value.int .i64) (i64_xor_nat 99 v (by omega) (by omega))⟩
            case round =>
              obtain ⟨j, hj, rfl, rfl, rfl⟩ := hrel
              by_cases hlj : j < 4
              · have hlji : (j : Int) < 4 := by omega
                have ht := tu_lt hv2 j
                have ht1 := tu_lt hv2 (j + 1)
                have hy := ys_lt hv2 j
                obtain ⟨q, hq⟩ : ∃ q, q = tu v j / 128 := ⟨_, rfl⟩
                have hq2 : q < 2 := by omega
                have b1 : (0 : Int) ≤ (tu v j : Int) * 2 := by omega
                have b2 : (tu v j : Int) * 2 < 65536 := by omega
                have b3 : (0 : Int) ≤ (q : Int) := by omega
                have b4 : (q : Int) < 65536 := by omega
                have b5 : (0 : Int) ≤ (tu v j : Int) * 2 + (q : Int) := by omega
                have b6 : (tu v j : Int) * 2 + (q : Int) < 65536 := by omega
                have hqi : (tu v j : Int).tdiv 128 = (q : Int) := by rw [Int.tdiv_eq_ediv_of_nonneg (by omega), hq]; omega
                have htn : ((tu v j : Int) * 2 + (q : Int)).tmod 256 = (tu v (j + 1) : Int) := by
                  rw [Int.tmod_eq_emod_of_nonneg (by omega), hq]
                  show _ = (((tu v j * 2 + tu v j / 128) % 256 : Nat) : Int)
                  omega
                have HX := Lib.hid (i64_xor_nat (ys v j) (tu v (j + 1)) (by omega) (by omega))
                have HY : Hid (ys v (j + 1) = ys v j ^^^ tu v (j + 1)) := Lib.hid rfl
                clear hq
                generalize tu v j = t0 at *
                generalize ys v j = y0 at *
                generalize htt : tu v (j + 1) = t1 at *
                have HTT := Lib.hid htt; clear htt
                go_wp2_with fail
                go_round
                case rel => exact ⟨j + 1, by omega, by go_num, by rw [HTT.out], by rw [HX.out, HY.out]⟩
                case measure => simp [intOf]; omega
              · obtain rfl : j = 4 := by omega
                rw [HYB.out]
                go_wp2_with fail
                go_roundw
                case rel => exact ⟨c + 1, by omega, by go_num, hE.far (by show w.heap.size ≠ g; omega) _, hL.far (by show w.heap.size + 1 ≠ g; omega) _, HO2.out, hbel.setCell (by show w.heap.size ≤ g; omega) _⟩
                case measure => simp [intOf]; omega
        · obtain rfl : c = 256 := by omega
          rw [boxg_all] at hO
          go_wp2_with fail
          go_ret
          exact ⟨g, rfl, hO, by omega, hbel⟩
end Go.Proofs.Ytimaeghbjfialaa
