/-
  The document's segment where the head is another one; its log's end; what it tells of a region of zeros.
-/
import Derived.Test.YtldgnckchlbadaaDoorRf3
import Derived.Test.YtldgnckchlbadaaDoorRf4
import Derived.Test.YtldgnckchlbadaaDoorSeg3
namespace Go.Proofs.YtldgnckchlbadaaDoor
set_option maxRecDepth 4000
open Go.RowKit

theorem str_ne {a b : List UInt8} (h : a ≠ b) : str a ≠ str b := fun e => h (str_inj e)

theorem info_rprs : (Tryd.prog.info? 110).map (·.size) = some 4 := by kernel_rfl
theorem rparse_no (X l : List UInt8) (m q k : Nat) (w : World) (hX : X.length = m) (hm : m % 128 = 0) (h2 : 256 ≤ m) (hmx : m ≤ 100000) (hl : l.length = 32) (hq : q < 4294967296) (hk : k < 9223372036854775808) (hno : pref X (hd q k l) = false) :
    Calls Tryd.prog 58 #[.string (str X), .int .i64 q, .int .i64 k, .string (str l)] w fun e w' => e = .returned (.tuple #[.agg #[.slice none 0 0, .string (str []), .bool false, .int .i64 0], .bool false]) ∧ Below w.heap.size w w' := by
  have HH := Lib.hid (rhead_any q k l hl hq hk)
  have hne : str (X.take 128) ≠ str (hd q k l) := str_ne (fun e => by
    have := pref_append (hd q k l) (X.drop 128)
    rw [← e, List.take_append_drop, e, hno] at this
    cases this)
  have hs : (str X).size = m := by rw [size_str, hX]
  have hx : (str X).extract 0 128 = str (X.take 128) := by rw [str_extract, List.drop_zero]
  obtain ⟨Z, hZ⟩ : ∃ Z, Z = str X := ⟨_, rfl⟩
  obtain ⟨L, hL⟩ : ∃ Z, Z = str l := ⟨_, rfl⟩
  obtain ⟨U, hU⟩ : ∃ Z, Z = str (X.take 128) := ⟨_, rfl⟩
  obtain ⟨V, hV⟩ : ∃ Z, Z = str (hd q k l) := ⟨_, rfl⟩
  rw [← hZ] at hs hx ⊢
  rw [← hL] at HH ⊢
  rw [← hV] at HH hne
  rw [← hU] at hx hne
  have hUV : (U.toList == V.toList) = false := by
    rw [beq_eq_false_iff_ne, hU, hV, str_toList, str_toList]
    intro e
    exact hne (by rw [hU, hV, e])
  have hmi : (m : Int).tmod 128 = 0 := by rw [Int.tmod_eq_emod_of_nonneg (by omega)]; omega
  have hmj : (m : Int) % 128 = 0 := by omega
  have h2i : ¬ (m : Int) < 256 := by omega
  have h3 : 128 ≤ m := by omega
  have h3i : (128 : Int) ≤ (m : Int) := by omega
  clear hZ hL hU hV hX hl hno
  go_enter Tryd.func58, Tryd.ntmps58
  go_wp2_with fail
  have b0 := ((Below.refl w.heap.size w).alloc (Nat.le_refl _) (.cells #[.slice none 0 0, .string { data := #[] }, .bool false, .int .i64 0] 110)).drew
  refine region_fast [(0, true), (1, true), (2, true), (3, true), (4, true), (5, true), (6, true), (7, true), (8, true), (9, true), (10, true), (11, true), (12, true), (13, true), (14, true), (15, false), (16, true), (17, true)] [12, 13, 14, 15] 61440 [(65536, 1, 0, 0), (131072, 65536, 1, 1), (262144, 131072, 2, 3), (524288, 262144, 4, 7), (1048576, 524288, 8, 15), (2097152, 1048577, 16, 31), (4194304, 3145728, 48, 63), (8388608, 5242880, 80, 127), (16777216, 9437184, 144, 255), (33554432, 16777216, 272, 511), (67108864, 33554433, 512, 1023), (134217728, 100663296, 1536, 2047), (268435456, 33554434, 512, 1023), (536870912, 33554436, 512, 1023), (1073741824, 33554440, 512, 1023), (2147483648, 1912602624, 29184, 29695), (4294967296, 2315255808, 35328, 65535), (8589934592, 4328521728, 66048, 131071)] (fun W => Below w.heap.size w W) (by kernel_rfl) (by kernel_rfl) (by kernel_rfl) rfl (by kernel_rfl) (by kernel_rfl) b0 (fun hS => ?_)
  iterate 7 (first
    | (refine plan_read (v := ?_) rfl (fun _ _ _ h => h) rfl hS ?_ ?_; rotate_left 1; (focus (intro w' hS'; go_simp; try rfl)); (simp only [Act.put, List.setIfInBounds_toArray]; dsimp only [List.set_cons_zero, List.set_cons_succ]))
    | (refine plan_skip rfl (fun _ _ _ h => h) rfl hS ?_; (simp only [Act.put, List.setIfInBounds_toArray]; dsimp only [List.set_cons_zero, List.set_cons_succ])))
  refine plan_read (v := Value.bool false) rfl (fun _ _ _ h => h) rfl hS ?_ ?_; (focus (intro w' hS'; go_simp; first | done | simp [h2i] | (simp; omega))); (simp only [Act.put, List.setIfInBounds_toArray]; dsimp only [List.set_cons_zero, List.set_cons_succ])
  repeat (first
    | (refine plan_read (v := ?_) rfl (fun _ _ _ h => h) rfl hS ?_ ?_; rotate_left 1; (focus (intro w' hS'; go_simp; try rfl)); (simp only [Act.put, List.setIfInBounds_toArray]; dsimp only [List.set_cons_zero, List.set_cons_succ]))
    | (refine plan_skip rfl (fun _ _ _ h => h) rfl hS ?_; (simp only [Act.put, List.setIfInBounds_toArray]; dsimp only [List.set_cons_zero, List.set_cons_succ])))
  refine plan_do (by rfl) (by rfl) (fun K hK => ?_)
  go_simp
  refine (HH.out _).mono ?_
  rintro e w1 ⟨rfl, bel⟩
  refine hK.out _ _ (fun _ => hS.trans (bel.mono hS.size)) (fun hS => ?_); clear hK K; replace hS := hS rfl; try (simp only [Act.put, List.setIfInBounds_toArray]; dsimp only [List.set_cons_zero, List.set_cons_succ])
  repeat (first
    | (refine plan_read (v := ?_) rfl (fun _ _ _ h => h) rfl hS ?_ ?_; rotate_left 1; (focus (intro w' hS'; go_simp; try rfl)); (simp only [Act.put, List.setIfInBounds_toArray]; dsimp only [List.set_cons_zero, List.set_cons_succ]))
    | (refine plan_skip rfl (fun _ _ _ h => h) rfl hS ?_; (simp only [Act.put, List.setIfInBounds_toArray]; dsimp only [List.set_cons_zero, List.set_cons_succ])))
  refine plan_nil ?_
  have H := Lib.hid hS
  have hR : Blk w1 w.heap.size 110 #[.slice none 0 0, .string { data := #[] }, .bool false, .int .i64 0] := (show Blk (w.alloc (.cells #[.slice none 0 0, .string { data := #[] }, .bool false, .int .i64 0] 110)).drew w.heap.size 110 #[.slice none 0 0, .string { data := #[] }, .bool false, .int .i64 0] from (Blk.new w 110 _).drew).below bel (by simp [World.drew])
  have HI := Lib.hid info_rprs
  have EE : str ([] : List UInt8) = { data := #[] } := rfl
  clear hS bel
  go_wp2_with (first
    | (refine wpList_store_row rfl 110 (.tmp 8) (.tmp 34) rfl w.heap.size _ rfl rfl 110 _ hR (by exact HI.out) (by rfl) (by simp [Value.oneCell']) ?_))
  refine bodyPost_ret (results_row_tmp rfl _ _ w.heap.size 110 _ (0, 0) _ rfl (hR.setRow _) Tryd.underlying110 rfl (by exact HI.out)) rfl ⟨rfl, below_setRow H.out (Nat.le_refl _) _⟩
end Go.Proofs.YtldgnckchlbadaaDoor
