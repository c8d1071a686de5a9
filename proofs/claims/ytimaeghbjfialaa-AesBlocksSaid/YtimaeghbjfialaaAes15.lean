/-
  The document's block.
-/
import Derived.Test.YtimaeghbjfialaaAes14
namespace Go.Proofs.Ytimaeghbjfialaa
open Go.RowKit

/-- i sums are laid. -/
def ag (key b : List Nat) (i : Nat) : List Nat := tab 16 fun j => if j < i then b.getD j 0 ^^^ (KF key).getD j 0 else 0
/-- n octets are looked up. -/
def sg (B : List Nat) (n : Nat) : List Nat := tab 16 fun j => if j < n then sh B j else 0
/-- n octets of the next state are laid. -/
def bg (B C : List Nat) (n : Nat) : List Nat := tab 16 fun j => if j < n then C.getD j 0 else B.getD j 0
def xk (B : List Nat) (c row : Nat) : Nat → Nat
  | 0 => 0
  | k + 1 => xk B c row k ^^^ mul (sh B (4 * c + k)) (([2, 3, 1, 1] : List Nat).getD ((k + 4 - row) % 4) 0)
theorem ag_next (key b : List Nat) (i : Nat) : (ag key b i).set i (b.getD i 0 ^^^ (KF key).getD i 0) = ag key b (i + 1) := by
  rw [ag, tab_set]
  refine tab_ext fun j _ => ?_
  by_cases e : j = i
  · subst e; simp
  · rw [if_neg e]
    by_cases h : j < i
    · rw [if_pos h, if_pos (by omega)]
    · rw [if_neg h, if_neg (by omega)]
theorem ag_all (key b : List Nat) : ag key b 16 = st key b 0 := by
  show ag key b 16 = addk b (kr key 0)
  unfold ag addk
  refine tab_ext fun j hj => ?_
  rw [if_pos hj, kr_get key 0 hj, Nat.mul_zero, Nat.zero_add]
theorem sg_next (B : List Nat) (n : Nat) : (sg B n).set n (sh B n) = sg B (n + 1) := by
  rw [sg, tab_set]
  refine tab_ext fun j _ => ?_
  by_cases e : j = n
  · subst e; simp
  · rw [if_neg e]
    by_cases h : j < n
    · rw [if_pos h, if_pos (by omega)]
    · rw [if_neg h, if_neg (by omega)]
theorem sg_get (B : List Nat) {j : Nat} (h : j < 16) : (sg B 16).getD j 0 = sh B j := by
  have e : (sg B 16).getD j 0 = _ := tab_get _ h
  rw [e, if_pos h]
theorem bg_zero {B : List Nat} (C : List Nat) (h : B.length = 16) : bg B C 0 = B := by
  rw [show bg B C 0 = tab 16 fun j => B.getD j 0 from tab_ext fun j _ => by simp]; exact tab_self h
theorem bg_all (B : List Nat) {C : List Nat} (h : C.length = 16) : bg B C 16 = C := by
  rw [show bg B C 16 = tab 16 fun j => C.getD j 0 from tab_ext fun j hj => if_pos hj]; exact tab_self h
theorem bg_next (B C : List Nat) (n : Nat) : (bg B C n).set n (C.getD n 0) = bg B C (n + 1) := by
  rw [bg, tab_set]
  refine tab_ext fun j _ => ?_
  by_cases e : j = n
  · subst e; simp
  · rw [if_neg e]
    by_cases h : j < n
    · rw [if_pos h, if_pos (by omega)]
    · rw [if_neg h, if_neg (by omega)]
theorem xk_lt (B : List Nat) (c row : Nat) : ∀ k, xk B c row k < 256
  | 0 => by show 0 < 256; decide
  | k + 1 => xor_lt (xk_lt B c row k) (mul_lt _ (sh_lt _ _))
theorem xk_mx (B : List Nat) (c : Nat) {row : Nat} (h : row < 4) : xk B c row 4 = mx (fun i => sh B (4 * c + i)) row := by
  have hr : row = 0 ∨ row = 1 ∨ row = 2 ∨ row = 3 := by omega
  have l0 := sh_lt B (4 * c + 0); have l1 := sh_lt B (4 * c + 1); have l2 := sh_lt B (4 * c + 2); have l3 := sh_lt B (4 * c + 3)
  rcases hr with rfl | rfl | rfl | rfl
  all_goals
    simp only [xk, mx, Nat.reduceAdd, Nat.reduceSub, Nat.reduceMod, List.getD_cons_zero, List.getD_cons_succ]
    simp only [mul_two l0, mul_two l1, mul_two l2, mul_two l3, mul_three l0, mul_three l1, mul_three l2, mul_three l3, mul_one l0, mul_one l1, mul_one l2, mul_one l3, Nat.zero_xor]
    ac_rfl
theorem st_next (key b : List Nat) (r : Nat) {c row : Nat} (hc : c < 4) (hr : row < 4) :
    (st key b (r + 1)).getD (4 * c + row) 0 = (if r + 1 = 10 then sh (st key b r) (4 * c + row) else xk (st key b r) c row 4) ^^^ (KF key).getD (16 * (r + 1) + (4 * c + row)) 0 := by
  have e : (st key b (r + 1)).getD (4 * c + row) 0 = _ := tab_get _ (by omega)
  rw [e, kr_get key (r + 1) (by omega)]
  congr 1
  have e2 : (rnd (st key b r) (r + 1 == 10)).getD (4 * c + row) 0 = _ := tab_get _ (by omega)
  rw [e2]
  by_cases h : r + 1 = 10
  · rw [if_pos h]; simp [h]
  · rw [if_neg h, if_neg (by simp; omega), xk_mx _ _ hr, show (4 * c + row) / 4 = c by omega, show (4 * c + row) % 4 = row by omega]

set_option maxRecDepth 100000 in
set_option maxHeartbeats 4000000 in
theorem rblock_any (key b : List Nat) (hk : key.length = 16) (hkb : byt key) (hb : b.length = 16) (hbb : byt b) (gw cw gb gx cx : Nat) (w : World) (hW : Sees w 1 (some ⟨gw, 0, none⟩) 176 (nis (KF key))) (hgw : gw < w.heap.size)
    (hbx : Blk w gb 3 (nis sbox).toArray) (hX : Sees w 1 (some ⟨gx, 0, none⟩) 16 (nis b)) (hgx : gx < w.heap.size) :
    Calls Try.prog 22 #[.slice (some ⟨gw, 0, none⟩) 176 cw, .slice (some ⟨gb, 0, none⟩) 256 256, .slice (some ⟨gx, 0, none⟩) 16 cx] w fun e w' =>
      ∃ g, e = .returned (.slice (some ⟨g, 0, none⟩) 16 16) ∧ Blk w' g 3 (nis (enc key b)).toArray ∧ Below w.heap.size w w' := by
  have hgb := hbx.lt
  have hmk := make_ints 16 (by omega)
  obtain ⟨z, hz⟩ : ∃ z : Array Value, z = (nis (tab 16 fun _ => 0)).toArray := ⟨_, rfl⟩
  rw [← hz] at hmk
  replace hmk : ∀ W : World, (Instr.makeSlice 30 (.int .i64 16) (.int .i64 16)).run Try.prog W = .ok (.slice (some ⟨W.heap.size, 0, none⟩) 16 16) (W.alloc (.cells z 3)) := hmk
  have HZ := Lib.hid hz; clear hz
  have HW := Lib.hid hW; have HX := Lib.hid hX; have HBX := Lib.hid hbx; clear hW hX hbx
  have HZ1 : Hid (z = (nis (ag key b 0)).toArray) := Lib.hid (by rw [HZ.out]; exact congrArg (fun l => (nis l).toArray) (tab_ext fun i _ => by rw [if_neg (by omega)]))
  go_enter Try.func22, Try.ntmps22
  go_wp2_with fail
  go_loopw [8] (fun ii wr => ∃ i : Nat, i ≤ 16 ∧ ii = .int .i64 i ∧ Blk wr w.heap.size 3 (nis (ag key b i)).toArray ∧ Below w.heap.size w wr) (fun ii _ => 16 - (intOf ii).toNat)
  case atStart => exact ⟨0, by omega, rfl, Blk.new' rfl HZ1.out, (Below.refl _ _).alloc (Nat.le_refl _) _⟩
  case round =>
    obtain ⟨i, hi, rfl, hA, hbr⟩ := hrel
    by_cases hlt : i < 16
    · have hlti : (i : Int) < 16 := by omega
      have hlti2 : (i : Int) < 176 := by omega
      have hc1 : wr.cell? ⟨gx, i, none⟩ = some (.int .i64 (b.getD i 0 : Nat)) := sees_cell (HX.out.below hbr) hlt
      have hc2 : wr.cell? ⟨gw, i, none⟩ = some (.int .i64 ((KF key).getD i 0 : Nat)) := sees_cell (HW.out.below hbr) (by omega)
      have hal : (ag key b i).length = 16 := tab_length _ _
      obtain ⟨u, hc3⟩ : ∃ u, wr.cell? ⟨w.heap.size, i, none⟩ = some u := ⟨_, bln_cell hA (by omega)⟩
      have hfz : wr.frozen? ⟨w.heap.size, i, none⟩ = false := hA.frozen i
      have hA2 := hA.set_ i (.int .i64 (b.getD i 0 ^^^ (KF key).getD i 0 : Nat))
      rw [nis_arr_set, ag_next] at hA2
      have HXR := Lib.hid (i64_xor_nat (b.getD i 0) ((KF key).getD i 0) (by have := hbb i; omega) (by have := KF_byt hkb i; omega))
      have HA2 := Lib.hid hA2; have HBR := Lib.hid hbr; clear hA hA2 hbr
      generalize b.getD i 0 = x at *
      generalize (KF key).getD i 0 = y at *
      go_wp2_with fail
      refine region_plan [(0, true), (1, true), (2, true), (3, true), (4, true), (5, true), (6, true), (7, true), (8, true), (9, true), (10, true), (11, true), (12, false)] [1, 2, 3, 4, 5, 6, 7, 8, 9, 10] (fun w' => w'.cell? ⟨gx, i, none⟩ = some (.int .i64 (x : Nat)) ∧ w'.cell? ⟨gw, i, none⟩ = some (.int .i64 (y : Nat))) (by kernel_rfl) (by kernel_rfl) rfl (by kernel_rfl) ⟨hc1, hc2⟩ (fun hS => ?_)
      repeat (first
        | (refine plan_read (v := ?_) rfl (fun _ _ _ h => h) rfl hS ?_ ?_; rotate_left 1; (focus (intro w' hS'; obtain ⟨hc1, hc2⟩ := hS'; go_simp; try rfl)); simp only [Act.put, List.setIfInBounds_toArray, List.set_cons_zero, List.set_cons_succ])
        | (refine plan_skip rfl (fun _ _ _ h => h) rfl hS ?_; simp only [Act.put, List.setIfInBounds_toArray, List.set_cons_zero, List.set_cons_succ]))
      refine plan_do (by rfl) (by rfl) (fun K hK => ?_)
      go_simp
      rw [HXR.out]
      refine hK.out _ _ (fun h => by cases h) (fun _ => ?_); clear hK K; try simp only [Act.put, List.setIfInBounds_toArray, List.set_cons_zero, List.set_cons_succ]
      refine plan_nil ?_
      go_wp2_with fail
      go_roundw
      case rel => exact ⟨i + 1, by omega, by go_num, HA2.out, (HBR.out.setCell (Nat.le_refl _) _).drew⟩
      case measure => simp [intOf]; omega
    · obtain rfl : i = 16 := by omega
      rw [ag_all] at hA
      have hM : Blk (wr.alloc (.cells (nis [2, 3, 1, 1]).toArray 3)) wr.heap.size 3 (nis [2, 3, 1, 1]).toArray := Blk.new _ _ _
      have hA1 := hA.alloc (.cells (nis [2, 3, 1, 1]).toArray 3)
      have hbr1 := hbr.alloc hbr.size (.cells (nis [2, 3, 1, 1]).toArray 3)
      obtain ⟨g9, hg9⟩ : ∃ g, g = wr.heap.size := ⟨_, rfl⟩
      have hsz := hA.lt
      rw [← hg9] at hM hsz
      have HM := Lib.hid hM; have HA1 := Lib.hid hA1; have HBR1 := Lib.hid hbr1; have HG9 := Lib.hid hg9; clear hM hA1 hbr1 hg9 hA hbr
      go_wp2_with fail
      rw [← HG9.out]
      go_loopw [10] (fun rr wr => ∃ r : Nat, r ≤ 10 ∧ rr = .int .i64 ((r : Int) + 1) ∧ Blk wr w.heap.size 3 (nis (st key b r)).toArray ∧ Blk wr g9 3 (nis [2, 3, 1, 1]).toArray ∧ Below w.heap.size w wr) (fun rr _ => 11 - (intOf rr).toNat)
      case atStart => exact ⟨0, by omega, rfl, HA1.out, HM.out, HBR1.out⟩
      case round =>
        obtain ⟨r, hr, rfl, hB, hM, hbr⟩ := hrel
        clear HA1 HM HBR1
        by_cases hlr : r < 10
        · have hlri : (r : Int) + 1 ≤ 10 := by omega
          obtain ⟨B, hBe⟩ : ∃ B, B = st key b r := ⟨_, rfl⟩
          obtain ⟨C, hCe⟩ : ∃ C, C = st key b (r + 1) := ⟨_, rfl⟩
          have hBl : B.length = 16 := by rw [hBe]; exact st_length _ _ _
          have hCl : C.length = 16 := by rw [hCe]; exact st_length _ _ _
          have hBb : byt B := by rw [hBe]; exact st_byt hkb hbb r
          rw [← hBe] at hB
          have HBE := Lib.hid hBe; have HC := Lib.hid hCe; clear hBe hCe
          have hz0 : z = (nis (sg B 0)).toArray := by rw [HZ.out]; exact congrArg (fun l => (nis l).toArray) (tab_ext fun i _ => by rw [if_neg (by omega)])
          obtain ⟨g11, hg11⟩ : ∃ g, g = wr.heap.size := ⟨_, rfl⟩
          obtain ⟨W1, hW1⟩ : ∃ W, W = wr.alloc (.cells z 3) := ⟨_, rfl⟩
          have hS1 : Blk W1 g11 3 (nis (sg B 0)).toArray := by rw [hW1]; exact Blk.new' hg11 hz0
          have hB1 : Blk W1 w.heap.size 3 (nis B).toArray := by rw [hW1]; exact hB.alloc _
          have hM1 : Blk W1 g9 3 (nis [2, 3, 1, 1]).toArray := by rw [hW1]; exact hM.alloc _
          have hbr1 : Below w.heap.size w W1 := by rw [hW1]; exact hbr.alloc hbr.size _
          have hs9 : g9 < g11 := by rw [hg11]; exact hM.lt
          have HS1 := Lib.hid hS1; have HB1 := Lib.hid hB1; have HM1 := Lib.hid hM1; have HBR1 := Lib.hid hbr1; have HW1 := Lib.hid hW1; have HG := Lib.hid hg11; clear hS1 hB1 hM1 hbr1 hW1 hg11 hz0 hB hM hbr
          go_wp2_with fail
          rw [← HW1.out, ← HG.out]
          go_loopw [12] (fun cc wq => ∃ c : Nat, c ≤ 4 ∧ cc = .int .i64 c ∧ Blk wq g11 3 (nis (sg B (4 * c))).toArray ∧ Fr (· = g11) W1 wq) (fun cc _ => 4 - (intOf cc).toNat)
          case atStart => exact ⟨0, by omega, rfl, HS1.out, Fr.refl _ _⟩
          case round =>
            obtain ⟨c, hc, rfl, hss, hff⟩ := hrel
            by_cases hlc : c < 4
            · have hlci : (c : Int) < 4 := by omega
              have HSS := Lib.hid hss; have HFF0 := Lib.hid hff; clear hss hff
              go_wp2_with fail
              go_loopw [13] (fun mm wq => ∃ m : Nat, m ≤ 4 ∧ mm = .int .i64 m ∧ Blk wq g11 3 (nis (sg B (4 * c + m))).toArray ∧ Fr (· = g11) W1 wq) (fun mm _ => 4 - (intOf mm).toNat)
              case atStart => exact ⟨0, by omega, rfl, HSS.out, HFF0.out⟩
              case round =>
                obtain ⟨m, hm, rfl, hss, hff⟩ := hrel
                clear HSS HFF0
                by_cases hlm : m < 4
                · have hlmi : (m : Int) < 4 := by omega
                  obtain ⟨d, hd⟩ : ∃ d, d = (c + m) % 4 := ⟨_, rfl⟩
                  have hd4 : d < 4 := by omega
                  have hdm : ((c : Int) + (m : Int)).tmod 4 = (d : Int) := by rw [Int.tmod_eq_emod_of_nonneg (by omega)]; omega
                  have hsh : shi (4 * c + m) = 4 * d + m := by rw [shi_col hlm]; omega
                  have hbB : Blk wr w.heap.size 3 (nis B).toArray := HB1.out.fr hff (Nat.ne_of_lt (by omega))
                  have hbX : Blk wr gb 3 (nis sbox).toArray := (HBX.out.below HBR1.out hgb).fr hff (Nat.ne_of_lt (by omega))
                  have hc1 : wr.cell? ⟨w.heap.size, 4 * d + m, none⟩ = some (.int .i64 (B.getD (4 * d + m) 0 : Nat)) := bln_cell hbB (by omega)
                  have hx2 := hBb (4 * d + m)
                  have hc2 : wr.cell? ⟨gb, B.getD (4 * d + m) 0, none⟩ = some (.int .i64 (sh B (4 * c + m) : Nat)) := by
                    rw [bln_cell hbX (by rw [length_sbox]; exact hx2)]
                    show _ = some (Value.int .i64 ((sb (B.getD (shi (4 * c + m)) 0) : Nat) : Int))
                    rw [hsh]; rfl
                  have hsl : (sg B (4 * c + m)).length = 16 := tab_length _ _
                  obtain ⟨u, hcs⟩ : ∃ u, wr.cell? ⟨g11, 4 * c + m, none⟩ = some u := ⟨_, bln_cell hss (by omega)⟩
                  have hfz : wr.frozen? ⟨g11, 4 * c + m, none⟩ = false := hss.frozen _
                  have hs2 := hss.set_ (4 * c + m) (.int .i64 (sh B (4 * c + m) : Nat))
                  rw [nis_arr_set, sg_next] at hs2
                  have HS2 := Lib.hid hs2; have HFF := Lib.hid hff; clear hs2 hss hff hbB hbX hsh hd
                  generalize B.getD (4 * d + m) 0 = x at *
                  generalize sh B (4 * c + m) = y at *
                  have hxi : (x : Int) < 256 := by omega
                  have hn1 : (4 * (d : Int) + (m : Int)).toNat = 4 * d + m := by omega
                  have hn2 : (4 * (c : Int) + (m : Int)).toNat = 4 * c + m := by omega
                  have hb1 : (0 : Int) ≤ 4 * (d : Int) + (m : Int) := by omega
                  have hb2 : 4 * (d : Int) + (m : Int) < 16 := by omega
                  have hb3 : (0 : Int) ≤ 4 * (c : Int) + (m : Int) := by omega
                  have hb4 : 4 * (c : Int) + (m : Int) < 16 := by omega
                  go_wp2_with fail
                  go_roundw
                  case rel => exact ⟨m + 1, by omega, by go_num, HS2.out, HFF.out.trans (Fr.setCell (F := (· = g11)) _ _ _ rfl) (fun k _ h => h)⟩
                  case measure => simp [intOf]; omega
                · obtain rfl : m = 4 := by omega
                  have HSS := Lib.hid hss; have HFF := Lib.hid hff; clear hss hff
                  go_wp2_with fail
                  go_roundw
                  case rel => exact ⟨c + 1, by omega, by go_num, by rw [show 4 * (c + 1) = 4 * c + 4 by omega]; exact HSS.out, HFF.out⟩
                  case measure => simp [intOf]; omega
            · obtain rfl : c = 4 := by omega
              have hBw : Blk wr w.heap.size 3 (nis B).toArray := HB1.out.fr hff (Nat.ne_of_lt (by omega))
              have hMw : Blk wr g9 3 (nis [2, 3, 1, 1]).toArray := HM1.out.fr hff (Nat.ne_of_lt (by omega))
              have hbrw : Below w.heap.size w wr := HBR1.out.trans (hff.below HBR1.out.size (fun k hk => hk ▸ (by omega)))
              have hSw : Blk wr g11 3 (nis (sg B 16)).toArray := hss
              obtain ⟨W2, hW2⟩ : ∃ W, W = wr := ⟨_, rfl⟩
              rw [← hW2] at hBw hMw hbrw hSw ⊢
              have HBW := Lib.hid hBw; have HMW := Lib.hid hMw; have HBRW := Lib.hid hbrw; have HSW := Lib.hid hSw; clear hBw hMw hbrw hSw hss hff hW2 HS1 HB1 HM1 HBR1 HW1 HG
              go_wp2_with fail
              go_loopw [14] (fun cc wq => ∃ c : Nat, c ≤ 4 ∧ cc = .int .i64 c ∧ Blk wq w.heap.size 3 (nis (bg B C (4 * c))).toArray ∧ Fr (· = w.heap.size) W2 wq) (fun cc _ => 4 - (intOf cc).toNat)
              case atStart => exact ⟨0, by omega, rfl, by rw [Nat.mul_zero, bg_zero C hBl]; exact HBW.out, Fr.refl _ _⟩
              case round =>
                obtain ⟨c, hc, rfl, hbb2, hff⟩ := hrel
                by_cases hlc : c < 4
                · have hlci : (c : Int) < 4 := by omega
                  have HBB := Lib.hid hbb2; have HFF0 := Lib.hid hff; clear hbb2 hff
                  go_wp2_with fail
                  go_loopw [15] (fun mm wq => ∃ m : Nat, m ≤ 4 ∧ mm = .int .i64 m ∧ Blk wq w.heap.size 3 (nis (bg B C (4 * c + m))).toArray ∧ Fr (· = w.heap.size) W2 wq) (fun mm _ => 4 - (intOf mm).toNat)
                  case atStart => exact ⟨0, by omega, rfl, HBB.out, HFF0.out⟩
                  case round =>
                    obtain ⟨m, hm, rfl, hbb2, hff⟩ := hrel
                    clear HBB HFF0
                    by_cases hlm : m < 4
                    · have hlmi : (m : Int) < 4 := by omega
                      have hSq : Blk wr g11 3 (nis (sg B 16)).toArray := HSW.out.fr hff (Nat.ne_of_gt (by omega))
                      have hMq : Blk wr g9 3 (nis [2, 3, 1, 1]).toArray := HMW.out.fr hff (Nat.ne_of_gt (by omega))
                      have hbq : Below w.heap.size w wr := HBRW.out.trans (hff.below HBRW.out.size (fun k hk => hk ▸ (by omega)))
                      have hcs : wr.cell? ⟨g11, 4 * c + m, none⟩ = some (.int .i64 (sh B (4 * c + m) : Nat)) := by
                        rw [bln_cell hSq (by rw [sg, tab_length]; omega), sg_get B (by omega)]
                      have hn0 : (4 * (c : Int) + (m : Int)).toNat = 4 * c + m := by omega
                      have hb01 : (0 : Int) ≤ 4 * (c : Int) + (m : Int) := by omega
                      have hb02 : 4 * (c : Int) + (m : Int) < 16 := by omega
                      have hshl := sh_lt B (4 * c + m)
                      have HBQ := Lib.hid hbq; clear hbq
                      by_cases hlast : r + 1 = 10
                      · have hri : ¬ ((r : Int) + 1 < 10) := by omega
                        have HLA := Lib.hid hlast; clear hSq hMq hlast
                        have hy := KF_byt hkb (16 * (r + 1) + (4 * c + m))
                        obtain ⟨y, hye⟩ : ∃ y, y = (KF key).getD (16 * (r + 1) + (4 * c + m)) 0 := ⟨_, rfl⟩
                        have hcw : wr.cell? ⟨gw, 16 * (r + 1) + 4 * c + m, none⟩ = some (.int .i64 (y : Nat)) := by
                          have := sees_cell (HW.out.below (HBQ.out)) (show 16 * (r + 1) + (4 * c + m) < 176 by omega)
                          rw [← hye, ← Nat.add_assoc] at this
                          exact this
                        rw [← hye] at hy
                        have hCn : C.getD (4 * c + m) 0 = sh B (4 * c + m) ^^^ y := by rw [HC.out, st_next key b r hlc hlm, if_pos HLA.out, ← HBE.out, hye]
                        have hbl : (bg B C (4 * c + m)).length = 16 := tab_length _ _
                        obtain ⟨u, hcb⟩ : ∃ u, wr.cell? ⟨w.heap.size, 4 * c + m, none⟩ = some u := ⟨_, bln_cell hbb2 (by omega)⟩
                        have hfz : wr.frozen? ⟨w.heap.size, 4 * c + m, none⟩ = false := hbb2.frozen _
                        have hB2 := hbb2.set_ (4 * c + m) (.int .i64 (C.getD (4 * c + m) 0 : Nat))
                        rw [nis_arr_set, bg_next, hCn] at hB2
                        have HXR := Lib.hid (i64_xor_nat (sh B (4 * c + m)) y (by have := hshl; omega) (by omega))
                        have HB2 := Lib.hid hB2; have HFF := Lib.hid hff; clear hB2 hbb2 hCn hye hff
                        generalize sh B (4 * c + m) = xv at *
                        have hn31 : (16 * ((r : Int) + 1) + 4 * (c : Int) + (m : Int)).toNat = 16 * (r + 1) + 4 * c + m := by omega
                        have hn32 : (4 * (c : Int) + (m : Int)).toNat = 4 * c + m := by omega
                        have hb31 : (0 : Int) ≤ 16 * ((r : Int) + 1) + 4 * (c : Int) + (m : Int) := by omega
                        have hb32 : 16 * ((r : Int) + 1) + 4 * (c : Int) + (m : Int) < 176 := by omega
                        have hb33 : (0 : Int) ≤ 4 * (c : Int) + (m : Int) := by omega
                        have hb34 : 4 * (c : Int) + (m : Int) < 16 := by omega
                        go_wp2_with fail
                        go_roundw
                        case rel => exact ⟨m + 1, by omega, by go_num, by rw [HXR.out]; exact HB2.out, HFF.out.trans (Fr.setCell (F := (· = w.heap.size)) _ _ _ rfl) (fun k _ h => h)⟩
                        case measure => simp [intOf]; omega
                      · have hri : (r : Int) + 1 < 10 := by omega
                        have HLA := Lib.hid hlast; clear hlast
                        obtain ⟨W3, hW3⟩ : ∃ W, W = wr := ⟨_, rfl⟩
                        rw [← hW3] at hSq hMq hbb2 hff hcs HBQ ⊢
                        have HSQ := Lib.hid hSq; have HMQ := Lib.hid hMq; have HBB2 := Lib.hid hbb2; have HF3 := Lib.hid hff; clear hSq hMq hbb2 hff hW3
                        go_wp2_with fail
                        go_loopw [16, 17] (fun xx kk wq => ∃ k : Nat, k ≤ 4 ∧ kk = .int .i64 k ∧ xx = .int .i64 (xk B c m k : Nat) ∧ Fr (fun _ => False) W3 wq) (fun _ kk _ => 4 - (intOf kk).toNat)
                        case atStart => exact ⟨0, by omega, rfl, rfl, Fr.refl _ _⟩
                        case round =>
                          obtain ⟨k, hk4, rfl, rfl, hff3⟩ := hrel
                          by_cases hlk : k < 4
                          · have hlki : (k : Int) < 4 := by omega
                            obtain ⟨d, hd⟩ : ∃ d, d = (k + 4 - m) % 4 := ⟨_, rfl⟩
                            have hd4 : d < 4 := by omega
                            have hdm : ((k : Int) - (m : Int) + 4).tmod 4 = (d : Int) := by rw [Int.tmod_eq_emod_of_nonneg (by omega)]; omega
                            obtain ⟨v, hv⟩ : ∃ v, v = ([2, 3, 1, 1] : List Nat).getD d 0 := ⟨_, rfl⟩
                            have hv2 : v < 256 := by
                              have : d = 0 ∨ d = 1 ∨ d = 2 ∨ d = 3 := by omega
                              rcases this with rfl | rfl | rfl | rfl <;> rw [hv] <;> decide
                            have hc1 : wr.cell? ⟨g11, 4 * c + k, none⟩ = some (.int .i64 (sh B (4 * c + k) : Nat)) := by
                              rw [bln_cell (HSQ.out.fr hff3 id) (by rw [sg, tab_length]; omega), sg_get B (by omega)]
                            have hc2 : wr.cell? ⟨g9, d, none⟩ = some (.int .i64 (v : Nat)) := by
                              rw [bln_cell (HMQ.out.fr hff3 id) (by simp; omega), hv]
                            have hxk := xk_lt B c m k
                            have hsk := sh_lt B (4 * c + k)
                            have MK := Lib.hid (rmul_any (sh B (4 * c + k)) v hsk hv2)
                            have hnx : xk B c m (k + 1) = xk B c m k ^^^ mul (sh B (4 * c + k)) v := by rw [hv, hd]; rfl
                            have HNX := Lib.hid hnx
                            have HXR := Lib.hid (i64_xor_nat (xk B c m k) (mul (sh B (4 * c + k)) v) (by omega) (by have := mul_lt v hsk; omega))
                            have HF4 := Lib.hid hff3
                            clear hnx hv hd hff3
                            generalize mul (sh B (4 * c + k)) v = q at *
                            generalize sh B (4 * c + k) = s0 at *
                            generalize xk B c m k = x0 at *
                            have hw1 : IntKind.i64.wrap (4 * (c : Int)) = 4 * (c : Int) := IntWalk.i64_in _ (by omega)
                            have hw2 : IntKind.i64.wrap (4 * (c : Int) + (k : Int)) = 4 * (c : Int) + (k : Int) := IntWalk.i64_in _ (by omega)
                            have hw3 : IntKind.i64.wrap ((k : Int) - (m : Int)) = (k : Int) - (m : Int) := IntWalk.i64_in _ (by omega)
                            have hw4 : IntKind.i64.wrap ((k : Int) - (m : Int) + 4) = (k : Int) - (m : Int) + 4 := IntWalk.i64_in _ (by omega)
                            have hn1 : (4 * (c : Int) + (k : Int)).toNat = 4 * c + k := by omega
                            have hb1 : (0 : Int) ≤ 4 * (c : Int) + (k : Int) := by omega
                            have hb2 : 4 * (c : Int) + (k : Int) < 16 := by omega
                            have hdi : (d : Int) < 4 := by omega
                            go_wp2_with fail
                            refine region_plan [(0, true), (1, true), (2, true), (3, true), (4, true), (5, true), (6, true), (7, true), (8, true), (9, true), (10, true), (11, true), (12, true), (13, true), (14, true), (15, true), (16, false), (17, true), (18, true)] [1, 2, 3, 4, 5, 6, 7, 8, 9, 10, 11, 12, 13, 14, 15, 16] (fun w' => w'.cell? ⟨g11, 4 * c + k, none⟩ = some (.int .i64 (s0 : Nat)) ∧ w'.cell? ⟨g9, d, none⟩ = some (.int .i64 (v : Nat))) (by kernel_rfl) (by kernel_rfl) rfl (by kernel_rfl) ⟨hc1, hc2⟩ (fun hS => ?_)
                            repeat (first
                              | (refine plan_read (v := ?_) rfl (fun _ _ _ h => h) rfl hS ?_ ?_; rotate_left 1; (focus (intro w' hS'; obtain ⟨hc1, hc2⟩ := hS'; go_simp; try rfl)); simp only [Act.put, List.setIfInBounds_toArray, List.set_cons_zero, List.set_cons_succ])
                              | (refine plan_skip rfl (fun _ _ _ h => h) rfl hS ?_; simp only [Act.put, List.setIfInBounds_toArray, List.set_cons_zero, List.set_cons_succ]))
                            all_goals (try exact (undef : Value))
                            refine plan_do (by rfl) (by rfl) (fun K hK => ?_)
                            go_simp
                            refine (MK.out _).mono ?_
                            rintro e w' ⟨rfl, rfl⟩
                            refine hK.out _ _ (fun _ => hS) (fun hS => ?_); clear hK K; replace hS := hS rfl; try simp only [Act.put, List.setIfInBounds_toArray, List.set_cons_zero, List.set_cons_succ]
                            repeat (first
                              | (refine plan_read (v := ?_) rfl (fun _ _ _ h => h) rfl hS ?_ ?_; rotate_left 1; (focus (intro w' hS'; go_simp; try rfl)); simp only [Act.put, List.setIfInBounds_toArray, List.set_cons_zero, List.set_cons_succ])
                              | (refine plan_skip rfl (fun _ _ _ h => h) rfl hS ?_; simp only [Act.put, List.setIfInBounds_toArray, List.set_cons_zero, List.set_cons_succ]))
                            refine plan_nil ?_
                            go_wp2_with fail
                            refine ⟨⟨_, _, _, _, _, _, _, _, _, _, _, _, _, _, _, _, _, _, _, _, _, _, _, _, ⟨k + 1, by omega, rfl, by rw [HNX.out, HXR.out], HF4.out.drew⟩, rfl⟩, ?_⟩
                            simp [intOf]; omega
                          · obtain rfl : k = 4 := by omega
                            have hxk := xk_lt B c m 4
                            have hbb2 : Blk wr w.heap.size 3 (nis (bg B C (4 * c + m))).toArray := HBB2.out.fr hff3 id
                            have hff : Fr (· = w.heap.size) W2 wr := HF3.out.trans hff3 (fun _ _ h => h.elim)
                            have hbq : Below w.heap.size w wr := HBQ.out.trans (hff3.below HBQ.out.size (fun _ h => h.elim))
                            have HBQ2 := Lib.hid hbq; clear hbq hff3
                            have hy := KF_byt hkb (16 * (r + 1) + (4 * c + m))
                            obtain ⟨y, hye⟩ : ∃ y, y = (KF key).getD (16 * (r + 1) + (4 * c + m)) 0 := ⟨_, rfl⟩
                            have hcw : wr.cell? ⟨gw, 16 * (r + 1) + 4 * c + m, none⟩ = some (.int .i64 (y : Nat)) := by
                              have := sees_cell (HW.out.below (HBQ2.out)) (show 16 * (r + 1) + (4 * c + m) < 176 by omega)
                              rw [← hye, ← Nat.add_assoc] at this
                              exact this
                            rw [← hye] at hy
                            have hCn : C.getD (4 * c + m) 0 = xk B c m 4 ^^^ y := by rw [HC.out, st_next key b r hlc hlm, if_neg HLA.out, ← HBE.out, hye]
                            have hbl : (bg B C (4 * c + m)).length = 16 := tab_length _ _
                            obtain ⟨u, hcb⟩ : ∃ u, wr.cell? ⟨w.heap.size, 4 * c + m, none⟩ = some u := ⟨_, bln_cell hbb2 (by omega)⟩
                            have hfz : wr.frozen? ⟨w.heap.size, 4 * c + m, none⟩ = false := hbb2.frozen _
                            have hB2 := hbb2.set_ (4 * c + m) (.int .i64 (C.getD (4 * c + m) 0 : Nat))
                            rw [nis_arr_set, bg_next, hCn] at hB2
                            have HXR := Lib.hid (i64_xor_nat (xk B c m 4) y (by have := hxk; omega) (by omega))
                            have HB2 := Lib.hid hB2; have HFF := Lib.hid hff; clear hB2 hbb2 hCn hye hff
                            generalize xk B c m 4 = xv at *
                            have hn31 : (16 * ((r : Int) + 1) + 4 * (c : Int) + (m : Int)).toNat = 16 * (r + 1) + 4 * c + m := by omega
                            have hn32 : (4 * (c : Int) + (m : Int)).toNat = 4 * c + m := by omega
                            have hb31 : (0 : Int) ≤ 16 * ((r : Int) + 1) + 4 * (c : Int) + (m : Int) := by omega
                            have hb32 : 16 * ((r : Int) + 1) + 4 * (c : Int) + (m : Int) < 176 := by omega
                            have hb33 : (0 : Int) ≤ 4 * (c : Int) + (m : Int) := by omega
                            have hb34 : 4 * (c : Int) + (m : Int) < 16 := by omega
                            go_wp2_with fail
                            go_roundw
                            case rel => exact ⟨m + 1, by omega, by go_num, by rw [HXR.out]; exact HB2.out, HFF.out.trans (Fr.setCell (F := (· = w.heap.size)) _ _ _ rfl) (fun k _ h => h)⟩
                            case measure => simp [intOf]; omega
                    · obtain rfl : m = 4 := by omega
                      have HBB := Lib.hid hbb2; have HFF := Lib.hid hff; clear hbb2 hff
                      go_wp2_with fail
                      go_roundw
                      case rel => exact ⟨c + 1, by omega, by go_num, by rw [show 4 * (c + 1) = 4 * c + 4 by omega]; exact HBB.out, HFF.out⟩
                      case measure => simp [intOf]; omega
                · obtain rfl : c = 4 := by omega
                  have hb3 : Blk wr w.heap.size 3 (nis (st key b (r + 1))).toArray := by
                    have : Blk wr w.heap.size 3 (nis (bg B C 16)).toArray := hbb2
                    rwa [bg_all B hCl, HC.out] at this
                  have hMq : Blk wr g9 3 (nis [2, 3, 1, 1]).toArray := HMW.out.fr hff (Nat.ne_of_gt (by omega))
                  have hbq : Below w.heap.size w wr := HBRW.out.trans (hff.below HBRW.out.size (fun k hk => hk ▸ (by omega)))
                  have HB3 := Lib.hid hb3; have HMQ := Lib.hid hMq; have HBQ := Lib.hid hbq; clear hb3 hMq hbq hbb2 hff
                  go_wp2_with fail
                  go_roundw
                  case rel => exact ⟨r + 1, by omega, by go_num, HB3.out, HMQ.out, HBQ.out⟩
                  case measure => simp [intOf]; omega
        · obtain rfl : r = 10 := by omega
          go_wp2_with fail
          go_ret
          exact ⟨_, rfl, hB, hbr⟩
end Go.Proofs.Ytimaeghbjfialaa
