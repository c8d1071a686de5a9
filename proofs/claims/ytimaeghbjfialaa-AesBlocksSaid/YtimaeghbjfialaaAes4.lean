/-
  A round without its key.
-/
import Derived.Test.YtimaeghbjfialaaAes3
namespace Go.Proofs.Ytimaeghbjfialaa
open Go.RowKit

theorem mx_congr {c d : Nat → Nat} (h : ∀ i, i < 4 → c i = d i) : ∀ i, i < 4 → mx c i = mx d i := fun i hi => by
  unfold mx
  rw [h i hi, h _ (Nat.mod_lt _ (by decide)), h _ (Nat.mod_lt _ (by decide)), h _ (Nat.mod_lt _ (by decide))]

def rv (b : List Nat) (last : Bool) (j : Nat) : Nat := if last then sh b j else mx (fun i => sh b (4 * (j / 4) + i)) (j % 4)
/-- n columns are laid. -/
def rndg (b : List Nat) (last : Bool) (n : Nat) : List Nat := tab 16 fun j => if j < 4 * n then rv b last j else 0
theorem rndg_all (b : List Nat) (last : Bool) : rndg b last 4 = rnd b last := tab_ext fun i hi => if_pos (by omega)
/-- m octets of column n are looked up. -/
def colg (b : List Nat) (n m : Nat) : List Nat := tab 4 fun i => if i < m then sh b (4 * n + i) else 0
theorem colg_next (b : List Nat) (n m : Nat) : (colg b n m).set m (sh b (4 * n + m)) = colg b n (m + 1) := by
  rw [colg, tab_set]
  refine tab_ext fun j _ => ?_
  by_cases e : j = m
  · subst e; simp
  · rw [if_neg e]
    by_cases h : j < m
    · rw [if_pos h, if_pos (by omega)]
    · rw [if_neg h, if_neg (by omega)]
theorem colg_all (b : List Nat) (n : Nat) : colg b n 4 = tab 4 fun i => sh b (4 * n + i) := tab_ext fun i hi => if_pos hi
theorem col_last (b : List Nat) (n : Nat) : (tab 4 fun i => sh b (4 * n + i)) = tab 4 fun i => rv b true (4 * n + i) := tab_ext fun i _ => by simp [rv]
theorem col_mixed (b : List Nat) (n : Nat) : tab 4 (mx fun i => (tab 4 fun i => sh b (4 * n + i)).getD i 0) = tab 4 fun i => rv b false (4 * n + i) := tab_ext fun i hi => by
  rw [mx_congr (c := fun i => (tab 4 fun i => sh b (4 * n + i)).getD i 0) (d := fun i => sh b (4 * n + i)) (fun k hk => tab_get _ hk) i hi]
  simp only [rv, Bool.false_eq_true, ↓reduceIte]
  rw [show (4 * n + i) / 4 = n by omega, show (4 * n + i) % 4 = i by omega]
theorem shi_col {n m : Nat} (hm : m < 4) : shi (4 * n + m) = (4 * (n + m) + m) % 16 := by
  unfold shi
  rw [show (4 * n + m) / 4 = n by omega, show (4 * n + m) % 4 = m by omega]
theorem splice_col (b : List Nat) (last : Bool) {n : Nat} (hn : n < 4) : splice (nbs (rndg b last n)) (4 * n) (nbs (tab 4 fun i => rv b last (4 * n + i))) = nbs (rndg b last (n + 1)) := by
  have h : splice (nbs (rndg b last n)) (4 * n) (nbs (tab 4 fun i => rv b last (4 * n + i))) = nbs ((rndg b last n).take (4 * n) ++ (tab 4 fun i => rv b last (4 * n + i)) ++ (rndg b last n).drop (4 * n + 4)) := by
    simp [splice, nbs, tab]
  rw [h]
  refine congrArg nbs (list_ext ?_ fun i hi => ?_)
  · simp [rndg, tab]; omega
  · have hi : i < 16 := by simp [rndg, tab] at hi; omega
    have hl : (rndg b last n).length = 16 := tab_length _ _
    have hr : (rndg b last (n + 1)).getD i 0 = if i < 4 * (n + 1) then rv b last i else 0 := tab_get _ hi
    have hr0 : (rndg b last n).getD i 0 = if i < 4 * n then rv b last i else 0 := tab_get _ hi
    rw [hr, List.getD_eq_getElem?_getD]
    by_cases h1 : i < 4 * n
    · rw [List.append_assoc, List.getElem?_append_left (by simp [hl]; omega), List.getElem?_take_of_lt h1, ← List.getD_eq_getElem?_getD, hr0, if_pos h1, if_pos (by omega)]
    · by_cases h2 : i < 4 * n + 4
      · rw [List.getElem?_append_left (by simp [hl, tab_length]; omega), List.getElem?_append_right (by simp [hl]; omega), ← List.getD_eq_getElem?_getD]
        simp only [List.length_take, hl, show min (4 * n) 16 = 4 * n by omega]
        rw [tab_get _ (by omega), if_pos (by omega), show 4 * n + (i - 4 * n) = i by omega]
      · rw [List.getElem?_append_right (by simp [hl, tab_length]; omega)]
        simp only [List.length_append, List.length_take, hl, tab_length, show min (4 * n) 16 = 4 * n by omega, List.getElem?_drop]
        rw [show 4 * n + 4 + (i - (4 * n + 4)) = i by omega, ← List.getD_eq_getElem?_getD, hr0, if_neg h1, if_neg (by omega)]

theorem Blk.drw {w : World} {g : Nat} {t : TypeId} {cs : Array Value} (h : Blk w g t cs) : Blk w.drew g t cs := h
theorem sees_blk {w : World} {g : Nat} {t : TypeId} {l : List Nat} {n : Nat} (h : Blk w g t (nbs l).toArray) (hl : l.length = n) : Sees w 1 (some ⟨g, 0, none⟩) n (nbs l) :=
  ⟨by rw [length_nbs, hl, Nat.mul_one], fun _ => ⟨g, 0, rfl, fun j u hu => by rw [Nat.zero_add, h.cell, List.getElem?_toArray, hu]⟩⟩

theorem round_any (b : List Nat) (last : Bool) (hb : b.length = 16) (hbl : byt b) (w : World) :
    Calls Try.prog 20 #[.agg (nbs b).toArray, .agg (nbs sbox).toArray, .bool last] w fun e w' => e = .returned (.agg (nbs (rnd b last)).toArray) ∧ Below w.heap.size w w' := by
  obtain ⟨cb, hcb⟩ : ∃ x, x = (nbs b).toArray := ⟨_, rfl⟩
  obtain ⟨ct, hct⟩ : ∃ x, x = (nbs sbox).toArray := ⟨_, rfl⟩
  rw [← hcb, ← hct]
  have HCB := Lib.hid hcb; clear hcb
  have HCT := Lib.hid hct; clear hct
  have hi4 : (Try.prog.info? 51).map (·.size) = some 4 := by kernel_rfl
  have hi16 : (Try.prog.info? 22).map (·.size) = some 16 := by kernel_rfl
  have HI4 := Lib.hid hi4; clear hi4
  have HI16 := Lib.hid hi16; clear hi16
  go_enter Try.func20, Try.ntmps20
  go_wp2_with fail
  go_loopw [8, 11] (fun _ i wr => ∃ n : Nat, n ≤ 4 ∧ i = .int .i64 n ∧ Blk wr w.heap.size 22 (nbs b).toArray ∧ Blk wr (w.heap.size + 1) 39 (nbs sbox).toArray ∧ Blk wr (w.heap.size + 1 + 1) 22 (nbs (tab 16 fun _ => 0)).toArray ∧ Blk wr (w.heap.size + 1 + 1 + 1) 22 (nbs (rndg b last n)).toArray ∧ Below w.heap.size w wr) (fun _ i _ => 4 - (intOf i).toNat)
  case atStart =>
    refine ⟨0, by omega, rfl, ?_, ?_, ?_, ?_, ?_⟩
    · exact (((Blk.new' rfl HCB.out).alloc _).alloc _).alloc _
    · exact ((Blk.new' (by simp) HCT.out).alloc _).alloc _
    · exact (Blk.new' (by simp) (by rfl)).alloc _
    · exact Blk.new' (by simp) (by rfl)
    · exact ((((Below.refl _ _).alloc (Nat.le_refl _) _).alloc (by simp) _).alloc (by simp; omega) _).alloc (by simp; omega) _
  case round =>
    obtain ⟨n, hn, rfl, hB, hT, hR, hO, hbel⟩ := hrel
    have hsz := hO.lt
    by_cases hlt : n < 4
    · have hlti : (n : Int) < 4 := by omega
      have hb1 := hB.alloc (.cells (nbs (colg b n 0)).toArray 51)
      have ht1 := hT.alloc (.cells (nbs (colg b n 0)).toArray 51)
      have hr1 := hR.alloc (.cells (nbs (colg b n 0)).toArray 51)
      have ho1 := hO.alloc (.cells (nbs (colg b n 0)).toArray 51)
      have hc1 := Blk.new wr 51 (nbs (colg b n 0)).toArray
      have hbel1 := hbel.alloc hbel.size (.cells (nbs (colg b n 0)).toArray 51)
      have hz : (nbs (colg b n 0)).toArray = #[.int .u8 0, .int .u8 0, .int .u8 0, .int .u8 0] := rfl
      obtain ⟨g, hg⟩ : ∃ g, g = wr.heap.size := ⟨_, rfl⟩
      obtain ⟨W1, hW1⟩ : ∃ W1, W1 = wr.alloc (.cells (nbs (colg b n 0)).toArray 51) := ⟨_, rfl⟩
      rw [← hW1] at hb1 ht1 hr1 ho1 hbel1 hc1
      rw [← hg] at hc1 hsz
      have HB1 := Lib.hid hb1; have HT1 := Lib.hid ht1; have HR1 := Lib.hid hr1; have HO1 := Lib.hid ho1; have HC1 := Lib.hid hc1
      clear hb1 ht1 hr1 ho1 hc1 hB hT hR hO
      have HW1 := Lib.hid hW1; clear hW1
      have HG := Lib.hid hg; clear hg
      have HZ := Lib.hid hz; clear hz
      go_wp2_with fail
      rw [← HZ.out, ← HW1.out, ← HG.out]
      go_loopw [10, 14] (fun _ i wq => ∃ m : Nat, m ≤ 4 ∧ i = .int .i64 m ∧ Blk wq g 51 (nbs (colg b n m)).toArray ∧ Fr (· = g) W1 wq) (fun _ i _ => 4 - (intOf i).toNat)
      case atStart => exact ⟨0, by omega, rfl, HC1.out, Fr.refl _ _⟩
      case round =>
        obtain ⟨m, hm, rfl, hC, hF⟩ := hrel
        by_cases hlm : m < 4
        · have hlmi : (m : Int) < 4 := by omega
          have hq16 := shi_lt (4 * n + m)
          have hq : ((4 * ((n : Int) + (m : Int)) + (m : Int)).tmod 16) = (shi (4 * n + m) : Int) := by
            rw [shi_col hlm, Int.tmod_eq_emod_of_nonneg (by omega)]
            omega
          have hc1 : wr.cell? ⟨w.heap.size, shi (4 * n + m), none⟩ = some (.int .u8 (b.getD (shi (4 * n + m)) 0 : Nat)) := blk_cell (HB1.out.fr hF (by omega)) (by omega)
          have hx := hbl (shi (4 * n + m))
          have hc2 : wr.cell? ⟨w.heap.size + 1, b.getD (shi (4 * n + m)) 0, none⟩ = some (.int .u8 (sh b (4 * n + m) : Nat)) := blk_cell (HT1.out.fr hF (by omega)) (by rw [length_sbox]; exact hx)
          have hfz : wr.frozen? ⟨g, m, none⟩ = false := hC.frozen m
          obtain ⟨u, hmc⟩ : ∃ u, wr.cell? ⟨g, m, none⟩ = some u := ⟨_, blk_cell hC (by rw [colg, tab_length]; exact hlm)⟩
          have hC2 := hC.set_ m (.int .u8 (sh b (4 * n + m) : Nat))
          rw [nbs_arr_set, colg_next] at hC2
          have HC2 := Lib.hid hC2; clear hC2 hC
          generalize b.getD (shi (4 * n + m)) 0 = x at *
          generalize sh b (4 * n + m) = y at *
          generalize shi (4 * n + m) = q at *
          have hxi : (x : Int) < 256 := by omega
          have hqi : (q : Int) < 16 := by omega
          go_wp2_with fail
          go_roundw
          case rel => exact ⟨m + 1, by omega, by go_num, HC2.out, hF.trans (Fr.setCell (F := (· = g)) _ _ _ rfl) (fun k _ h => h)⟩
          case measure => simp [intOf]; omega
        · obtain rfl : m = 4 := by omega
          rw [colg_all] at hC
          have hBw := HB1.out.fr hF (show ¬ w.heap.size = g by omega)
          have hTw := HT1.out.fr hF (show ¬ w.heap.size + 1 = g by omega)
          have hRw := HR1.out.fr hF (show ¬ w.heap.size + 1 + 1 = g by omega)
          have hOw := HO1.out.fr hF (show ¬ w.heap.size + 1 + 1 + 1 = g by omega)
          have hbw : Below w.heap.size w wr := hbel1.trans (hF.below hbel1.size (fun k hk => by omega))
          cases last with
          | true =>
            rw [col_last] at hC
            go_wp2_with fail
            have hBq := hBw; have hTq := hTw; have hRq := hRw; have hOq := hOw; have hCq := hC; have hbq := hbw
            have h16n : ¬ (16 = 4 * n) := by omega
            have hw4 : IntKind.i64.wrap (4 * (n : Int)) = 4 * (n : Int) := IntWalk.i64_in _ (by omega)
            have hn4 : (4 * (n : Int)).toNat = 4 * n := by omega
            have h40 : (0 : Int) ≤ 4 * (n : Int) := by omega
            have h416 : 4 * (n : Int) ≤ 16 := by omega
            have h164 : ¬ (16 : Int) < 4 * (n : Int) := by omega
            have h40' : ¬ 4 * (n : Int) < 0 := by omega
            refine region_plan [(0, true), (1, true), (2, true), (3, true), (4, false)] [3] (fun w' => True) (by kernel_rfl) (by kernel_rfl) rfl (by kernel_rfl) trivial (fun hS => ?_)
            repeat (first
              | (refine plan_read (v := ?_) rfl (fun _ _ _ h => h) rfl hS ?_ ?_; rotate_left 1; (focus (intro w' hS'; go_simp; try rfl)); simp only [Act.put, List.setIfInBounds_toArray, List.set_cons_zero, List.set_cons_succ])
              | (refine plan_skip rfl (fun _ _ _ h => h) rfl hS ?_; simp only [Act.put, List.setIfInBounds_toArray, List.set_cons_zero, List.set_cons_succ]))
            refine plan_do (by rfl) (by rfl) (fun K hK => ?_)
            refine wp_cpy (.tmp 37) (.tmp 38) 38 38 rfl 5 Try.underlying38 (by kernel_rfl) (w.heap.size + 1 + 1 + 1) (4 * n) (16 - 4 * n) (16 - 4 * n) (some ⟨g, 0, none⟩) 4 4 ?_ rfl _ 22 hOq.drw _ (sees_blk hCq.drw (tab_length _ _)) (by rw [nbs_size, rndg, tab_length]; omega) (by simp [nbs, Value.oneCell']) ?_
            · rfl
            · intro w2 hO2 hF2
              rw [List.take_of_length_le (by rw [length_nbs, tab_length]; omega), List.toList_toArray, splice_col b true hlt] at hO2
              refine hK.out _ _ (fun h => by cases h) (fun _ => ?_); clear hK K; try simp only [Act.put, List.setIfInBounds_toArray, List.set_cons_zero, List.set_cons_succ]
              refine plan_nil ?_
              go_wp2_with fail
              go_roundw
              case rel => exact ⟨n + 1, by omega, by go_num, hBq.drw.fr hF2 (Nat.ne_of_lt (by omega)), hTq.drw.fr hF2 (Nat.ne_of_lt (by omega)), hRq.drw.fr hF2 (Nat.ne_of_lt (by omega)), hO2, hbq.drew.trans (hF2.below hbq.drew.size (fun k hk => hk ▸ (by omega)))⟩
              case measure => simp [intOf]; omega
          | false =>
            have HMX := Lib.hid (mix_any (tab 4 fun i => sh b (4 * n + i)) (tab_length _ _) (byt_tab fun i _ => sh_lt _ _))
            rw [col_mixed] at HMX
            have HBW := Lib.hid hBw; have HTW := Lib.hid hTw; have HRW := Lib.hid hRw; have HOW := Lib.hid hOw
            clear hBw hTw hRw hOw
            have hsz4 : (nbs (tab 4 fun i => sh b (4 * n + i))).toArray.size = 4 := by rw [nbs_size, tab_length]
            go_wp2_with (refine wpList_load_row rfl 51 (.tmp 9) rfl g rfl 51 _ (0, 0) _ hC Try.underlying51 rfl (by rw [hsz4]; exact HI4.out) ?_)
            refine (HMX.out wr).mono ?_
            rintro e w' ⟨rfl, hbm⟩
            have hCw := hC.below hbm hC.lt
            have hsz5 : (nbs (tab 4 fun i => rv b false (4 * n + i))).toArray.size = 4 := by rw [nbs_size, tab_length]
            go_wp2_with (refine wpList_store_row rfl 51 (.tmp 9) (.tmp 34) rfl g _ rfl rfl 51 _ hCw (by rw [hsz5]; exact HI4.out) (by rw [hsz4, hsz5]) (nbs_one _) ?_)
            have hfr : Fr (· = g) w' (w'.setRow g (nbs (tab 4 fun i => rv b false (4 * n + i))).toArray) := Fr.setRow _ _ _ rfl
            have hBq := (HBW.out.below hbm HBW.out.lt).fr hfr (Nat.ne_of_lt (by omega)); have hTq := (HTW.out.below hbm HTW.out.lt).fr hfr (Nat.ne_of_lt (by omega)); have hRq := (HRW.out.below hbm HRW.out.lt).fr hfr (Nat.ne_of_lt (by omega)); have hOq := (HOW.out.below hbm HOW.out.lt).fr hfr (Nat.ne_of_lt (by omega)); have hCq := hCw.setRow (nbs (tab 4 fun i => rv b false (4 * n + i))).toArray
            have hbq : Below w.heap.size w (w'.setRow g (nbs (tab 4 fun i => rv b false (4 * n + i))).toArray) := below_setRow (hbw.trans (hbm.mono hbw.size)) (by omega) _
            have h16n : ¬ (16 = 4 * n) := by omega
            have hw4 : IntKind.i64.wrap (4 * (n : Int)) = 4 * (n : Int) := IntWalk.i64_in _ (by omega)
            have hn4 : (4 * (n : Int)).toNat = 4 * n := by omega
            have h40 : (0 : Int) ≤ 4 * (n : Int) := by omega
            have h416 : 4 * (n : Int) ≤ 16 := by omega
            have h164 : ¬ (16 : Int) < 4 * (n : Int) := by omega
            have h40' : ¬ 4 * (n : Int) < 0 := by omega
            refine region_plan [(0, true), (1, true), (2, true), (3, true), (4, false)] [3] (fun w' => True) (by kernel_rfl) (by kernel_rfl) rfl (by kernel_rfl) trivial (fun hS => ?_)
            repeat (first
              | (refine plan_read (v := ?_) rfl (fun _ _ _ h => h) rfl hS ?_ ?_; rotate_left 1; (focus (intro w' hS'; go_simp; try rfl)); simp only [Act.put, List.setIfInBounds_toArray, List.set_cons_zero, List.set_cons_succ])
              | (refine plan_skip rfl (fun _ _ _ h => h) rfl hS ?_; simp only [Act.put, List.setIfInBounds_toArray, List.set_cons_zero, List.set_cons_succ]))
            refine plan_do (by rfl) (by rfl) (fun K hK => ?_)
            refine wp_cpy (.tmp 37) (.tmp 38) 38 38 rfl 5 Try.underlying38 (by kernel_rfl) (w.heap.size + 1 + 1 + 1) (4 * n) (16 - 4 * n) (16 - 4 * n) (some ⟨g, 0, none⟩) 4 4 ?_ rfl _ 22 hOq.drw _ (sees_blk hCq.drw (tab_length _ _)) (by rw [nbs_size, rndg, tab_length]; omega) (by simp [nbs, Value.oneCell']) ?_
            · rfl
            · intro w2 hO2 hF2
              rw [List.take_of_length_le (by rw [length_nbs, tab_length]; omega), List.toList_toArray, splice_col b false hlt] at hO2
              refine hK.out _ _ (fun h => by cases h) (fun _ => ?_); clear hK K; try simp only [Act.put, List.setIfInBounds_toArray, List.set_cons_zero, List.set_cons_succ]
              refine plan_nil ?_
              go_wp2_with fail
              go_roundw
              case rel => exact ⟨n + 1, by omega, by go_num, hBq.drw.fr hF2 (Nat.ne_of_lt (by omega)), hTq.drw.fr hF2 (Nat.ne_of_lt (by omega)), hRq.drw.fr hF2 (Nat.ne_of_lt (by omega)), hO2, hbq.drew.trans (hF2.below hbq.drew.size (fun k hk => hk ▸ (by omega)))⟩
              case measure => simp [intOf]; omega
    · obtain rfl : n = 4 := by omega
      have hlen : (nbs (rndg b last 4)).toArray.size = 16 := by rw [nbs_size, rndg, tab_length]
      obtain ⟨C, hC⟩ : ∃ C, C = (nbs (rndg b last 4)).toArray := ⟨_, rfl⟩
      rw [← hC] at hlen hO
      have HC := Lib.hid hC; clear hC
      go_wp2_with (first
        | (refine wpList_load_row rfl 22 (.tmp 7) rfl (w.heap.size + 1 + 1 + 1) rfl 22 _ (0, 0) _ hO Try.underlying22 rfl (by rw [hlen]; exact HI16.out) ?_)
        | (refine wpList_store_row rfl 22 (.tmp 6) (.tmp 41) rfl (w.heap.size + 1 + 1) _ rfl rfl 22 _ hR (by rw [hlen]; exact HI16.out) (by rw [hlen]; rfl) (by rw [HC.out]; exact nbs_one _) ?_))
      refine bodyPost_ret (v := .agg C) (results_cell_row rfl _ _ (w.heap.size + 1 + 1) 22 C (0, 0) _ rfl ?_ Try.underlying22 rfl ?_) rfl ⟨?_, below_setRow hbel (by omega) _⟩
      · exact hR.setRow C
      · rw [hlen]; exact HI16.out
      · rw [HC.out, rndg_all]
end Go.Proofs.Ytimaeghbjfialaa
