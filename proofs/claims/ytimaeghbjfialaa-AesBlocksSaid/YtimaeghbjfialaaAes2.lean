/-
  The cipher's arrays: sums of blocks, all boxes.
-/
import Derived.Test.YtimaeghbjfialaaAes1
import Derived.Test.YtimaeghbjfialaaAesN
import Derived.Test.YtimaeghbjfialaaRegion
import Derived.Deep.WholeRow
import Derived.Deep.MidRow
namespace Go.Proofs.Ytimaeghbjfialaa
open Go.RowKit

/-- Octets as cells. -/
def nbs (l : List Nat) : List Value := l.map fun x => .int .u8 (x : Nat)
theorem length_nbs (l : List Nat) : (nbs l).length = l.length := by simp [nbs]
theorem nbs_get {l : List Nat} {i : Nat} (h : i < l.length) : (nbs l)[i]? = some (.int .u8 (l.getD i 0 : Nat)) := by simp [nbs, List.getD_eq_getElem?_getD, h]
theorem nbs_set (l : List Nat) (i v : Nat) : (nbs l).set i (.int .u8 (v : Nat)) = nbs (l.set i v) := by simp [nbs, List.map_set]
theorem nbs_arr_set (l : List Nat) (i v : Nat) : (nbs l).toArray.setIfInBounds i (.int .u8 (v : Nat)) = (nbs (l.set i v)).toArray := by rw [List.setIfInBounds_toArray, nbs_set]
theorem nbs_one (l : List Nat) : (nbs l).toArray.all (·.oneCell') = true := by simp [nbs, Value.oneCell']
theorem nbs_size (l : List Nat) : (nbs l).toArray.size = l.length := by simp [nbs]
theorem blk_cell {w : World} {g : Nat} {t : TypeId} {l : List Nat} {i : Nat} (h : Blk w g t (nbs l).toArray) (hi : i < l.length) : w.cell? ⟨g, i, none⟩ = some (.int .u8 (l.getD i 0 : Nat)) := by
  rw [h.cell, List.getElem?_toArray, nbs_get hi]
theorem Blk.new' {w : World} {g : Nat} {t : TypeId} {cs cs' : Array Value} (hg : g = w.heap.size) (e : cs = cs') : Blk (w.alloc (.cells cs t)) g t cs' := by rw [hg, ← e]; exact Blk.new _ _ _
theorem Blk.setRow {w : World} {g : Nat} {t : TypeId} {cs : Array Value} (h : Blk w g t cs) (cs' : Array Value) : Blk (w.setRow g cs') g t cs' := by
  unfold Blk at h ⊢
  simp [World.setRow, Array.getElem?_modify, h]
theorem below_setRow {B : Nat} {w w' : World} (h : Below B w w') {g : Nat} (hg : B ≤ g) (cs : Array Value) : Below B w (w'.setRow g cs) :=
  ⟨h.os, h.tape, h.output, by simpa using h.size, fun k hk => (setRow_other w' g k cs (by omega)).trans (h.block k hk)⟩
/-- A result of array type, out of its cells. -/
theorem load_blk {P : Program} {w : World} {g : Nat} {t : TypeId} {cs : Array Value} (h : Blk w g t cs) {n : Nat} {e : TypeId} (hu : P.underlying t = some (.array n e)) (hi : (P.info? t).map (·.size) = some cs.size) :
    (loadVar t ⟨g, 0, none⟩).run P w = .ok (.agg cs) w := run_loadVar_row w g t t cs (0, 0) _ h hu rfl hi

/-- i sums are laid. -/
def addg (b k : List Nat) (i : Nat) : List Nat := tab 16 fun j => if j < i then b.getD j 0 ^^^ k.getD j 0 else b.getD j 0
theorem addg_zero {b : List Nat} (k : List Nat) (h : b.length = 16) : addg b k 0 = b := by
  rw [show addg b k 0 = tab 16 fun j => b.getD j 0 from tab_ext fun i _ => by simp]
  exact tab_self h
theorem addg_all (b k : List Nat) : addg b k 16 = addk b k := tab_ext fun i hi => by simp [hi]
theorem addg_next (b k : List Nat) (n : Nat) : (addg b k n).set n (b.getD n 0 ^^^ k.getD n 0) = addg b k (n + 1) := by
  rw [addg, tab_set]
  refine tab_ext fun j _ => ?_
  by_cases e : j = n
  · subst e; simp
  · rw [if_neg e]
    by_cases h : j < n
    · rw [if_pos h, if_pos (by omega)]
    · rw [if_neg h, if_neg (by omega)]

theorem add_any (b k : List Nat) (hb : b.length = 16) (hk : k.length = 16) (hbl : byt b) (hkl : byt k) (w : World) :
    Calls Try.prog 19 #[.agg (nbs b).toArray, .agg (nbs k).toArray] w fun e w' => e = .returned (.agg (nbs (addk b k)).toArray) ∧ Below w.heap.size w w' := by
  obtain ⟨cb, hcb⟩ : ∃ c, c = (nbs b).toArray := ⟨_, rfl⟩
  obtain ⟨ck, hck⟩ : ∃ c, c = (nbs k).toArray := ⟨_, rfl⟩
  rw [← hcb, ← hck]
  have HCB := Lib.hid hcb; clear hcb
  have HCK := Lib.hid hck; clear hck
  go_enter Try.func19, Try.ntmps19
  go_wp2_with fail
  go_loopw [5, 6] (fun _ i wr => ∃ n : Nat, n ≤ 16 ∧ i = .int .i64 n ∧ Blk wr w.heap.size 22 (nbs (addg b k n)).toArray ∧ Blk wr (w.heap.size + 1) 22 ck ∧ Blk wr (w.heap.size + 1 + 1) 22 (nbs (tab 16 fun _ => 0)).toArray ∧ Below w.heap.size w wr) (fun _ i _ => 16 - (intOf i).toNat)
  case atStart =>
    refine ⟨0, by omega, rfl, ?_, ?_, ?_, ?_⟩
    · rw [addg_zero k hb, ← HCB.out]; exact ((Blk.new _ _ _).alloc _).alloc _
    · exact (Blk.new' (by simp) rfl).alloc _
    · exact Blk.new' (by simp) (by rfl)
    · exact (((Below.refl _ _).alloc (Nat.le_refl _) _).alloc (by simp) _).alloc (by simp; omega) _
  case round =>
    obtain ⟨n, hn, rfl, hB, hK, hO, hbel⟩ := hrel
    by_cases hlt : n < 16
    · have hlti : (n : Int) < 16 := by omega
      have hc1 : wr.cell? ⟨w.heap.size, n, none⟩ = some (.int .u8 (b.getD n 0 : Nat)) := by
        rw [blk_cell hB (by rw [addg, tab_length]; exact hlt), addg, tab_get _ hlt, if_neg (Nat.lt_irrefl _)]
      have hc2 : wr.cell? ⟨w.heap.size + 1, n, none⟩ = some (.int .u8 (k.getD n 0 : Nat)) := by
        rw [HCK.out] at hK
        exact blk_cell hK (by omega)
      have hfz : wr.frozen? ⟨w.heap.size, n, none⟩ = false := hB.frozen n
      have HX := Lib.hid (u8_xor_nat _ _ (hbl n) (hkl n))
      have hB2 := hB.set_ n (.int .u8 (b.getD n 0 ^^^ k.getD n 0 : Nat))
      rw [nbs_arr_set, addg_next] at hB2
      have HB2 := Lib.hid hB2; clear hB2 hB
      obtain ⟨x, hx⟩ : ∃ x, x = b.getD n 0 := ⟨_, rfl⟩
      obtain ⟨y, hy⟩ : ∃ y, y = k.getD n 0 := ⟨_, rfl⟩
      rw [← hx, ← hy] at HX HB2
      rw [← hx] at hc1
      rw [← hy] at hc2
      clear hx hy
      go_wp2_with fail
      refine region_plan [(0, true), (1, true), (2, true), (3, true), (4, true), (5, true), (6, true), (7, true), (8, false)] [3, 4, 5] (fun w' => w'.cell? ⟨w.heap.size, n, none⟩ = some (.int .u8 x) ∧ w'.cell? ⟨w.heap.size + 1, n, none⟩ = some (.int .u8 y)) (by kernel_rfl) (by kernel_rfl) rfl (by kernel_rfl) ⟨hc1, hc2⟩ (fun hS => ?_)
      repeat (first
        | (refine plan_read (v := ?_) rfl (fun _ _ _ h => h) rfl hS ?_ ?_; rotate_left 1; (focus (intro w' hS'; obtain ⟨hc1, hc2⟩ := hS'; go_simp; try rfl)); simp only [Act.put, List.setIfInBounds_toArray, List.set_cons_zero, List.set_cons_succ])
        | (refine plan_skip rfl (fun _ _ _ h => h) rfl hS ?_; simp only [Act.put, List.setIfInBounds_toArray, List.set_cons_zero, List.set_cons_succ]))
      refine plan_do (by rfl) (by rfl) (fun K hK => ?_)
      go_simp
      refine hK.out _ _ (fun h => by cases h) (fun _ => ?_); clear hK K; try simp only [Act.put, List.setIfInBounds_toArray, List.set_cons_zero, List.set_cons_succ]
      refine plan_nil ?_
      go_wp2_with fail
      go_roundw
      case rel =>
        rw [HX.out]
        exact ⟨n + 1, by omega, by go_num, HB2.out, hK.far (by show w.heap.size + 1 ≠ w.heap.size; omega) _, hO.far (by show w.heap.size + 1 + 1 ≠ w.heap.size; omega) _, (hbel.setCell (Nat.le_refl _) _).drew⟩
      case measure => simp [intOf]; omega
    · obtain rfl : n = 16 := by omega
      have hi : (Try.prog.info? 22).map (·.size) = some 16 := by kernel_rfl
      have hlen : (nbs (addg b k 16)).toArray.size = 16 := by rw [nbs_size, addg, tab_length]
      obtain ⟨C, hC⟩ : ∃ C, C = (nbs (addg b k 16)).toArray := ⟨_, rfl⟩
      rw [← hC] at hlen hB
      have HC := Lib.hid hC; clear hC
      go_wp2_with (first
        | (refine wpList_load_row rfl 22 (.tmp 2) rfl w.heap.size rfl 22 _ (0, 0) _ hB Try.underlying22 rfl (by rw [hlen]; exact hi) ?_)
        | (refine wpList_store_row rfl 22 (.tmp 4) (.tmp 18) rfl (w.heap.size + 1 + 1) _ rfl rfl 22 _ hO (by rw [hlen]; exact hi) (by rw [hlen]; rfl) (by rw [HC.out]; exact nbs_one _) ?_))
      have hld := load_blk (P := Try.prog) (hO.setRow C) Try.underlying22 (by rw [hlen]; exact hi)
      refine bodyPost_ret (v := .agg C) (results_cell_row rfl _ _ (w.heap.size + 1 + 1) 22 C (0, 0) _ rfl ?_ Try.underlying22 rfl ?_) rfl ⟨?_, below_setRow hbel (by omega) _⟩
      · exact hO.setRow C
      · rw [hlen]; exact hi
      · rw [HC.out, addg_all]

/-- n boxes are laid. -/
def boxg (n : Nat) : List Nat := tab 256 fun j => if j < n then sb j else 0
theorem boxg_all : boxg 256 = sbox := by
  rw [← tab_self length_sbox]
  exact tab_ext fun i hi => by rw [if_pos hi]; rfl
theorem boxg_next (n : Nat) : (boxg n).set n (sb n) = boxg (n + 1) := by
  rw [boxg, tab_set]
  refine tab_ext fun j _ => ?_
  by_cases e : j = n
  · subst e; simp
  · rw [if_neg e]
    by_cases h : j < n
    · rw [if_pos h, if_pos (by omega)]
    · rw [if_neg h, if_neg (by omega)]

theorem boxes_any (w : World) : Calls Try.prog 17 #[] w fun e w' => e = .returned (.agg (nbs sbox).toArray) ∧ Below w.heap.size w w' := by
  obtain ⟨z, hz⟩ : ∃ z : Array Value, z = (nbs (boxg 0)).toArray := ⟨_, rfl⟩
  have hzi : (Try.prog.info? 39).map (fun i => (i.zero, i.size)) = some (some (.agg (nbs (boxg 0)).toArray), 256) := by kernel_rfl
  obtain ⟨hzero, hi⟩ := zero_of_info hzi
  rw [← hz] at hzero
  have HZ := Lib.hid hz; clear hz hzi
  have HI := Lib.hid hi; clear hi
  go_enter Try.func17, Try.ntmps17
  go_wp2_with fail
  go_loopw [2, 3] (fun _ i wr => ∃ n : Nat, n ≤ 256 ∧ i = .int .i64 n ∧ Blk wr (w.heap.size + 1) 39 (nbs (boxg n)).toArray ∧ Blk wr w.heap.size 39 z ∧ Below w.heap.size w wr) (fun _ i _ => 256 - (intOf i).toNat)
  case atStart =>
    refine ⟨0, by omega, rfl, Blk.new' (by simp) HZ.out, (Blk.new _ _ _).alloc _, ?_⟩
    exact ((Below.refl _ _).alloc (Nat.le_refl _) _).alloc (by simp) _
  case round =>
    obtain ⟨n, hn, rfl, hB, hO, hbel⟩ := hrel
    by_cases hlt : n < 256
    · have hlti : (n : Int) < 256 := by omega
      have hc1 : ∃ u, wr.cell? ⟨w.heap.size + 1, n, none⟩ = some u := ⟨_, blk_cell hB (by rw [boxg, tab_length]; exact hlt)⟩
      obtain ⟨u, hc1⟩ := hc1
      have hfz : wr.frozen? ⟨w.heap.size + 1, n, none⟩ = false := hB.frozen n
      have hB2 := hB.set_ n (.int .u8 (sb n : Nat))
      rw [nbs_arr_set, boxg_next] at hB2
      have HB2 := Lib.hid hB2; clear hB2 hB
      have hbx := box_any n hlt
      rw [← sb_box hlt] at hbx
      go_wp2_with fail
      refine (hbx _).mono ?_
      rintro e w' ⟨rfl, rfl⟩
      go_wp2_with fail
      go_roundw
      case rel => exact ⟨n + 1, by omega, by go_num, HB2.out, hO.far (by show w.heap.size ≠ w.heap.size + 1; omega) _, hbel.setCell (by show w.heap.size ≤ w.heap.size + 1; omega) _⟩
      case measure => simp [intOf]; omega
    · obtain rfl : n = 256 := by omega
      have hlen : (nbs (boxg 256)).toArray.size = 256 := by rw [nbs_size, boxg, tab_length]
      have hzl : z.size = 256 := by rw [HZ.out, nbs_size, boxg, tab_length]
      obtain ⟨C, hC⟩ : ∃ C, C = (nbs (boxg 256)).toArray := ⟨_, rfl⟩
      rw [← hC] at hlen hB
      have HC := Lib.hid hC; clear hC
      go_wp2_with (first
        | (refine wpList_load_row rfl 39 (.tmp 1) rfl (w.heap.size + 1) rfl 39 _ (0, 0) _ hB Try.underlying39 rfl (by rw [hlen]; exact HI.out) ?_)
        | (refine wpList_store_row rfl 39 (.tmp 0) (.tmp 12) rfl w.heap.size _ rfl rfl 39 _ hO (by rw [hlen]; exact HI.out) (by rw [hlen]; exact hzl) (by rw [HC.out]; exact nbs_one _) ?_))
      refine bodyPost_ret (v := .agg C) (results_cell_row rfl _ _ w.heap.size 39 C (0, 0) _ rfl ?_ Try.underlying39 rfl ?_) rfl ⟨?_, below_setRow hbel (Nat.le_refl _) _⟩
      · exact hO.setRow C
      · rw [hlen]; exact HI.out
      · rw [HC.out, boxg_all]
end Go.Proofs.Ytimaeghbjfialaa
