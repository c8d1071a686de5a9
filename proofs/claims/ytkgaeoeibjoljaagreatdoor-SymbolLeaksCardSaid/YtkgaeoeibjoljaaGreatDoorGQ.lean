/-
  strconv.Itoa at this program: what the library's contract says, laid by its own tool in plain words.
  measure: a term's depth, and how long its text is.
  Get, Find, Depth, New.
  New.
-/
import Derived.Shelf.LaysM
import Derived.Shelf.Strconv.Itoa3
import Derived.Test.YtkgaeoeibjoljaaGreatDoorGA
import Derived.Test.YtkgaeoeibjoljaaGreatDoorProg
import Derived.Test.YtkgaeoeibjoljaaGreatDoorGP
import Derived.Lib.ItoaLen
import Derived.Test.YtkgaeoeibjoljaaGreatDoorGC
namespace Go.Proofs.YtkgaeoeibjoljaaGreatDoor
section
open Go.Shelf
def itoaRen : Go.Shelf.Ren := ⟨fun | 171 => 130 | 243 => 154 | 246 => 164 | 283 => 170 | 284 => 171 | 285 => 172 | 286 => 173 | 129 => 119 | 317 => 177 | 318 => 178 | 319 => 179 | 320 => 180 | 337 => 183 | 338 => 184 | n => n, fun | 3 => 3 | 9 => 9 | 2 => 2 | 4 => 4 | 171 => 246 | 0 => 0 | 53 => 70 | 37 => 22 | 5 => 5 | 173 => 248 | 212 => 255 | 51 => 180 | 20 => 20 | 213 => 256 | 46 => 127 | 232 => 258 | 233 => 259 | n => n, fun | 17 => 4 | 18 => 5 | 19 => 6 | n => n⟩
theorem itoaLays : LaysM.n171 Tryz.prog itoaRen := {
 mixed := by kernel_rfl
 f129 := Tryz.func119.trans (congrArg some (by kernel_rfl))
 f171 := Tryz.func130.trans (congrArg some (by kernel_rfl))
 f243 := Tryz.func154.trans (congrArg some (by kernel_rfl))
 f246 := Tryz.func164.trans (congrArg some (by kernel_rfl))
 f283 := Tryz.func170.trans (congrArg some (by kernel_rfl))
 f284 := Tryz.func171.trans (congrArg some (by kernel_rfl))
 f285 := Tryz.func172.trans (congrArg some (by kernel_rfl))
 f286 := Tryz.func173.trans (congrArg some (by kernel_rfl))
 f317 := Tryz.func177.trans (congrArg some (by kernel_rfl))
 f318 := Tryz.func178.trans (congrArg some (by kernel_rfl))
 f319 := Tryz.func179.trans (congrArg some (by kernel_rfl))
 f320 := Tryz.func180.trans (congrArg some (by kernel_rfl))
 f337 := Tryz.func183.trans (congrArg some (by kernel_rfl))
 f338 := Tryz.func184.trans (congrArg some (by kernel_rfl))
 t0 := Tryz.underlying0
 a0 := Tryz.isAgg0
 z0 := Tryz.sizeOf0
 v0 := Tryz.zeroValue0
 t2 := Tryz.underlying2
 a2 := Tryz.isAgg2
 z2 := Tryz.sizeOf2
 v2 := Tryz.zeroValue2
 t3 := Tryz.underlying3
 a3 := Tryz.isAgg3
 z3 := Tryz.sizeOf3
 v3 := Tryz.zeroValue3
 t4 := Tryz.underlying4
 a4 := Tryz.isAgg4
 z4 := Tryz.sizeOf4
 v4 := Tryz.zeroValue4
 t5 := Tryz.underlying5
 a5 := Tryz.isAgg5
 z5 := Tryz.sizeOf5
 v5 := Tryz.zeroValue5
 t9 := Tryz.underlying9
 a9 := Tryz.isAgg9
 z9 := Tryz.sizeOf9
 v9 := Tryz.zeroValue9
 t20 := Tryz.underlying20
 a20 := Tryz.isAgg20
 z20 := Tryz.sizeOf20
 v20 := Tryz.zeroValue20
 t37 := Tryz.underlying22
 a37 := Tryz.isAgg22
 z37 := Tryz.sizeOf22
 v37 := Tryz.zeroValue22
 t46 := Tryz.underlying127
 a46 := Tryz.isAgg127
 z46 := Tryz.sizeOf127
 v46 := Tryz.zeroValue127
 t51 := Tryz.underlying180
 a51 := Tryz.isAgg180
 z51 := Tryz.sizeOf180
 v51 := Tryz.zeroValue180
 t53 := Tryz.underlying70
 a53 := Tryz.isAgg70
 z53 := Tryz.sizeOf70
 v53 := Tryz.zeroValue70
 t171 := Tryz.underlying246
 a171 := Tryz.isAgg246
 z171 := Tryz.sizeOf246
 v171 := Tryz.zeroValue246
 t173 := Tryz.underlying248
 a173 := Tryz.isAgg248
 z173 := Tryz.sizeOf248
 v173 := Tryz.zeroValue248
 t212 := Tryz.underlying255
 a212 := Tryz.isAgg255
 z212 := Tryz.sizeOf255
 v212 := Tryz.zeroValue255
 t213 := Tryz.underlying256
 a213 := Tryz.isAgg256
 z213 := Tryz.sizeOf256
 t232 := Tryz.underlying258
 a232 := Tryz.isAgg258
 z232 := Tryz.sizeOf258
 v232 := Tryz.zeroValue258
 t233 := Tryz.underlying259
 a233 := Tryz.isAgg259
 z233 := Tryz.sizeOf259
 v233 := Tryz.zeroValue259
 g17 := by kernel_rfl
 g18 := by kernel_rfl
 g19 := by kernel_rfl
 i0 := by kernel_rfl
 i2 := by kernel_rfl
 i3 := by kernel_rfl
 i4 := by kernel_rfl
 i5 := by kernel_rfl
 i9 := by kernel_rfl
 i20 := by kernel_rfl
 i37 := by kernel_rfl
 i46 := by kernel_rfl
 i51 := by kernel_rfl
 i53 := by kernel_rfl
 i171 := by kernel_rfl
 i173 := by kernel_rfl
 i212 := by kernel_rfl
 i232 := by kernel_rfl
 i233 := by kernel_rfl
 m17 := by kernel_rfl
 m18 := by kernel_rfl
 m19 := by kernel_rfl }
open Go.RowKit Go.Sort Go.Lib in
theorem itoa_raw (n : Int) (h0 : -9223372036854775808 <= n) (h1 : n <= 9223372036854775807) (w : World) (htab : Lib.TabIs Tryz.prog w "internal/strconv.uint64pow10" .u64 Lib.pow10Tab) :
  Calls Tryz.prog 130 #[.int .i64 n] w fun e w' => e = .returned (.string ⟨(Lib.itoa n).toArray⟩) /\ ∃ k os, w' = grow (w.drewN k) os := Any.strconv_Itoa itoaLays n h0 h1 w htab
open Go.RowKit Go.Sort Go.Lib in
theorem itoa_any (n : Int) (h0 : -9223372036854775808 <= n) (h1 : n <= 9223372036854775807) (w : World) (htab : Lib.TabIs Tryz.prog w "internal/strconv.uint64pow10" .u64 Lib.pow10Tab) :
  Calls Tryz.prog 130 #[.int .i64 n] w fun e w' => e = .returned (.string (str (Lib.itoa n))) /\ Below w.heap.size w w' := by
 refine (itoa_raw n h0 h1 w htab).mono ?_
 rintro e w' ⟨rfl, k, os, rfl⟩
 exact ⟨rfl, rfl, rfl, rfl, by simp [grow, World.drewN], fun k hk => by simp only [grow, World.drewN]; rw [Array.getElem?_append_left hk]⟩
end
section
set_option maxRecDepth 4000
open Go.RowKit
def Tab10 (w : World) : Prop := Lib.TabIs Tryz.prog w "internal/strconv.uint64pow10" .u64 Lib.pow10Tab
theorem Tab10.below {B : Nat} {w w' : World} (h : Tab10 w) (hB : w.heap.size <= B) (hb : Below B w w') : Tab10 w' := by
 unfold Tab10 Lib.TabIs World.var? at h ⊢
 cases hg : Tryz.prog.globalNamed "internal/strconv.uint64pow10" with
 | none => simp [hg] at h
 | some g =>
  simp only [hg, Option.bind_some] at h ⊢
  have hlt : g < w.heap.size := by
   rcases Nat.lt_or_ge g w.heap.size with hl | hl
   ·exact hl
   ·simp [Array.getElem?_eq_none hl] at h
  rw [<- h]
  simp only [hb.block g (by omega)]
theorem own_int {w : World} {base n c : Nat} {e : TypeId} {A : Option Addr} {xs : List Int} (h : w.ownsRow base e 1 (.slice A n c) n (i64s xs)) {k : Nat} (hk : k < n) :
  ∃ g, A = some ⟨g, 0, none⟩ /\ w.cell? ⟨g, k, none⟩ = some (.int .i64 (xs.getD k 0)) := by
 obtain ⟨g, cap, cur, e1, hb, hblk, _⟩ := own_open h (by omega)
 injection e1 with e1 _ e3
 subst e1; subst e3
 refine ⟨g, rfl, own_cell h (j := k) ?_⟩
 have hl : (i64s xs).length = n * 1 := h.1
 simp at hl
 simp [i64s, List.getD_eq_getElem?_getD, List.getElem?_eq_getElem (show k < xs.length by omega)]
theorem own_len {w : World} {base size n : Nat} {e : TypeId} {v : Value} {xs : List Value} (h : w.ownsRow base e size v n xs) : n <= maxLen := by
 rcases Nat.eq_zero_or_pos n with h0 | h0
 ·subst h0; exact Nat.zero_le _
 ·obtain ⟨g, cap, cur, _, _, _, h1, h2, _⟩ := own_open h h0
  omega
theorem itoa_le (n : Int) (h : (Lit.int .i64 n).wf = true) : (Lib.itoa n).length <= 21 := by
 obtain ⟨h0, h1⟩ := wf_i64 h
 exact Lib.itoa_length_le n h0 h1
theorem measure_any (p : Nat) (t : Tm) (l : List Tm) (base : Nat) (w : World) (hP : PoolIs w base p l) (hp : Pool l) (hr : okT l.length t = true) (hwf : wfT t) (hT : Tab10 w) (h4 : l.length <= 4096) :
  Calls Tryz.prog 82 #[.pointer (some ⟨p, 0, none⟩), tval t] w fun e w' => e = .returned (.tuple #[.int .i64 (depT (deps l) t), .int .i64 (sizT (sizs l) t)]) /\ Below w.heap.size w w' := by
 obtain ⟨tA, tc, mb, dA, dc, sA, sc, hP⟩ := hP
 by_cases k1 : t.k = 1
 ·have hi := itoa_any t.a (wf_i64 hwf.2.1).1 (wf_i64 hwf.2.1).2
  have hle := itoa_le t.a hwf.2.1
  have e1 := Lh (show depT (deps l) t = 1 by simp [depT, k1])
  have e2 := Lh (show sizT (sizs l) t = 1 + (Lib.itoa t.a).length by simp [sizT, k1])
  obtain ⟨k, a, x, y⟩ := t
  unfold tval
  simp only at k1 hi hle e1 e2
  subst k1
  have hT' : ∀ o, Tab10 (w.alloc o) := fun o => hT.below (Nat.le_refl _) ((Below.refl _ _).alloc (Nat.le_refl _) o)
  have hB : ∀ o, Below w.heap.size w (w.alloc o) := fun o => (Below.refl _ _).alloc (Nat.le_refl _) o
  have HI := Lh (fun o => hi _ (hT' o)); clear hi hT' hT hP hp hr hwf
  have HB := Lh hB; clear hB
  go_enter Tryz.func82, Tryz.ntmps82
  go_wp2_with (go_at_call 130; refine (HI.out _).mono ?_; rintro e' w' ⟨rfl, bel⟩)
  go_ret2
  exact ⟨ret_ints e1.out.symm e2.out.symm, (HB.out _).trans (bel.mono (HB.out _).size)⟩
 ·have k1b := k1
  have hx := okT_x hr k1
  have dx := deps_pos hp t.x.toNat (by omega)
  have sx := sizs_pos hp t.x.toNat (by omega)
  have sxl := sizs_top hp (n := t.x.toNat) (by omega)
  obtain ⟨dg, rfl, dcx⟩ := own_int hP.ds (k := t.x.toNat) (by omega)
  obtain ⟨sg, rfl, scx⟩ := own_int hP.ss (k := t.x.toNat) (by omega)
  have c2 := hP.cell2
  have c3 := hP.cell3
  have hll : l.length <= maxLen := own_len hP.ts
  unfold maxLen at hll
  have hold : ∀ o a v, w.cell? a = some v -> (w.alloc o).cell? a = some v := fun o a v h => (World.cell?_of_block (Below.heap_alloc w o _ (World.block_lt_of_cell? w _ h))).trans h
  have hB : ∀ o, Below w.heap.size w (w.alloc o) := fun o => (Below.refl _ _).alloc (Nat.le_refl _) o
  by_cases k3 : t.k = 3
  ·have e1 := Lh (show depT (deps l) t = 1 + (deps l).getD t.x.toNat 0 by simp [depT, k3])
   have e2 := Lh (show sizT (sizs l) t = min 10001 (3 + (sizs l).getD t.x.toNat 0) by simp [sizT, k3])
   obtain ⟨X, hX⟩ : ∃ X : Nat, t.x = X := ⟨t.x.toNat, by omega⟩
   obtain ⟨k, a, x, y⟩ := t
   unfold tval
   simp only at k1 k3 hx dx sx sxl dcx scx e1 e2 hX
   subst k3
   subst hX
   simp only [Int.toNat_natCast] at dx sx sxl dcx scx e1 e2
   generalize (deps l).getD X 0 = dX at *
   generalize (sizs l).getD X 0 = sX at *
   have hb1 := hold (.cells #[.int .i64 3, .int .i64 a, .int .i64 X, .int .i64 y] 95)
   have g2 := hb1 _ _ c2
   have g3 := hb1 _ _ c3
   have gd := hb1 _ _ dcx
   have gs := hb1 _ _ scx
   have gx : (w.alloc (.cells #[.int .i64 3, .int .i64 a, .int .i64 X, .int .i64 y] 95)).cell? ⟨w.heap.size, 2, none⟩ = some (.int .i64 X) := (Blk.new w 95 #[.int .i64 3, .int .i64 a, .int .i64 X, .int .i64 y]).cell 2
   have HS := Lh (Ai g2 (Ai g3 (Ai gd (Ai gs gx))))
   clear hb1 hold g2 g3 gd gs gx c2 c3 dcx scx hP hT hp hr hwf
   have HB := Lh hB; clear hB
   go_enter Tryz.func82, Tryz.ntmps82
   go_wp2_with fail
   refine region_fast [(0, true), (1, true), (2, true), (3, true), (4, true), (5, true), (6, true), (7, true), (8, true), (9, true), (10, true), (11, true), (12, true), (13, true), (14, true), (15, true), (16, true), (17, true), (18, true), (19, true), (20, true)] [4, 5, 9, 10, 11, 12, 13, 14, 15, 16, 17, 18, 19] 1048112 [(131072, 1, 0, 0), (262144, 131072, 1, 1), (524288, 262144, 2, 3), (1048576, 524288, 4, 7), (2097152, 8, 0, 0), (4194304, 2097152, 16, 16), (8388608, 5242880, 40, 63), (16777216, 8388608, 64, 127), (33554432, 16777216, 128, 255), (67108864, 1, 0, 0), (134217728, 67108864, 512, 512), (268435456, 134217728, 1024, 1536), (536870912, 268435456, 2048, 3584), (1073741824, 8, 0, 0), (2147483648, 1073741824, 8192, 8192), (4294967296, 2684354560, 20480, 32256), (8589934592, 4294967296, 32768, 65024), (17179869184, 8589934592, 65536, 130560), (34359738368, 17179869184, 131072, 261632), (16, 33554432, 511, 511), (32, 34359738368, 1048575, 1048575)] (fun W => W.cell? ⟨p, 2, none⟩ = some (.slice (some ⟨dg, 0, none⟩) l.length dc) /\ W.cell? ⟨p, 3, none⟩ = some (.slice (some ⟨sg, 0, none⟩) l.length sc) /\ W.cell? ⟨dg, X, none⟩ = some (.int .i64 dX) /\ W.cell? ⟨sg, X, none⟩ = some (.int .i64 sX) /\ W.cell? ⟨w.heap.size, 2, none⟩ = some (.int .i64 X)) (by kernel_rfl) (by kernel_rfl) (by kernel_rfl) rfl (by kernel_rfl) (by kernel_rfl) HS.out (fun hS => ?_)
   repeat (first
    | (refine plan_read (v := ?_) rfl (fun _ _ _ h => h) rfl hS ?_ ?_; rotate_left 1; (focus (intro w' hS'; obtain ⟨s2, s3, sd, ss, sx'⟩ := hS'; go_simp; try rfl)); (simp only [Act.put, pu1]; dsimp only [pu2, pu3]))
    | (refine plan_skip rfl (fun _ _ _ h => h) rfl hS ?_; (simp only [Act.put, pu1]; dsimp only [pu2, pu3])))
   refine plan_nil ?_
   go_wp2_with fail
   go_ret2
   exact ⟨ret_ints (by rw [e1.out]; exact IntWalk.i64_in _ (by omega)) (by rw [e2.out, IntWalk.i64_in (3 + sX) (by omega)]), (HB.out _).drew⟩
  ·have hy := okT_y hr k1 k3
   have dy := deps_pos hp t.y.toNat (by omega)
   have sy := sizs_pos hp t.y.toNat (by omega)
   have syl := sizs_top hp (n := t.y.toNat) (by omega)
   obtain ⟨dg', ed, dcy⟩ := own_int hP.ds (k := t.y.toNat) (by omega)
   obtain ⟨sg', es, scy⟩ := own_int hP.ss (k := t.y.toNat) (by omega)
   injection ed with ed
   injection ed with ed
   subst ed
   injection es with es
   injection es with es
   subst es
   have e1 := Lh (show depT (deps l) t = 1 + max ((deps l).getD t.x.toNat 0) ((deps l).getD t.y.toNat 0) by simp [depT, k1, k3])
   have e2 := Lh (show sizT (sizs l) t = min 10001 (3 + (sizs l).getD t.x.toNat 0 + (sizs l).getD t.y.toNat 0) by simp [sizT, k1, k3])
   obtain ⟨X, hX⟩ : ∃ X : Nat, t.x = X := ⟨t.x.toNat, by omega⟩
   obtain ⟨Y, hY⟩ : ∃ Y : Nat, t.y = Y := ⟨t.y.toNat, by omega⟩
   obtain ⟨k, a, x, y⟩ := t
   unfold tval
   simp only at k1 k3 hx hy dx sx sxl dy sy syl dcx scx dcy scy e1 e2 hX hY
   subst hX
   subst hY
   simp only [Int.toNat_natCast] at dx sx sxl dcx scx dy sy syl dcy scy e1 e2
   generalize (deps l).getD X 0 = dX at *
   generalize (sizs l).getD X 0 = sX at *
   generalize (deps l).getD Y 0 = dY at *
   generalize (sizs l).getD Y 0 = sY at *
   have k1c : ((k : Int) == 1) = false := by simpa using k1
   have k3c : ((k : Int) == 3) = false := by simpa using k3
   have hb1 := hold (.cells #[.int .i64 k, .int .i64 a, .int .i64 X, .int .i64 Y] 95)
   have g2 := hb1 _ _ c2
   have g3 := hb1 _ _ c3
   have gd := hb1 _ _ dcx
   have gs := hb1 _ _ scx
   have gd' := hb1 _ _ dcy
   have gs' := hb1 _ _ scy
   have gx : (w.alloc (.cells #[.int .i64 k, .int .i64 a, .int .i64 X, .int .i64 Y] 95)).cell? ⟨w.heap.size, 2, none⟩ = some (.int .i64 X) := (Blk.new w 95 #[.int .i64 k, .int .i64 a, .int .i64 X, .int .i64 Y]).cell 2
   have gy : (w.alloc (.cells #[.int .i64 k, .int .i64 a, .int .i64 X, .int .i64 Y] 95)).cell? ⟨w.heap.size, 3, none⟩ = some (.int .i64 Y) := (Blk.new w 95 #[.int .i64 k, .int .i64 a, .int .i64 X, .int .i64 Y]).cell 3
   have HS := Lh (Ai g2 (Ai g3 (Ai gd (Ai gs (Ai gx (Ai gd' (Ai gs' gy)))))))
   clear hb1 hold g2 g3 gd gs gx gd' gs' gy c2 c3 dcx scx dcy scy hP hT hp hr hwf k1 k1b k3
   have HB := Lh hB; clear hB
   go_enter Tryz.func82, Tryz.ntmps82
   go_wp2_with fail
   refine region_fast [(0, true), (1, true), (2, true), (3, true), (4, true), (5, true), (6, true), (7, true), (8, true), (9, true), (10, true), (11, true), (12, true), (13, true), (14, true), (15, true), (16, true), (17, true), (18, true), (19, true), (20, true), (21, true), (22, true), (23, true), (24, true), (25, true), (26, true), (27, true), (28, true), (29, true), (30, true), (31, true), (32, true), (33, true), (34, true), (35, true), (36, true), (37, true), (38, true)] [4, 5, 8, 9, 10, 11, 12, 13, 14, 15, 18, 19, 20, 21, 22, 23, 24, 25, 26, 27, 28, 29, 30, 31, 32, 33, 34, 35, 36, 37] 274877710128 [(68719476736, 1, 0, 0), (137438953472, 68719476736, 1, 1), (274877906944, 137438953472, 2, 3), (549755813888, 274877906944, 4, 7), (1099511627776, 8, 0, 0), (2199023255552, 1099511627776, 16, 16), (4398046511104, 2748779069440, 40, 63), (8796093022208, 4398046511104, 64, 127), (17592186044416, 1, 0, 0), (35184372088832, 17592186044416, 256, 256), (70368744177664, 35184372088832, 512, 768), (140737488355328, 70368744177664, 1024, 1792), (281474976710656, 8, 0, 0), (562949953421312, 281474976710656, 4096, 4096), (1125899906842624, 703687441776640, 10240, 16128), (2251799813685248, 1125899906842624, 16384, 32512), (4503599627370496, 2260595906707456, 32896, 65535), (9007199254740992, 4503599627370496, 65536, 131071), (18014398509481984, 1, 0, 0), (36028797018963968, 18014398509481984, 262144, 262144), (72057594037927936, 36028797018963968, 524288, 786432), (144115188075855872, 72057594037927936, 1048576, 1835008), (288230376151711744, 8, 0, 0), (576460752303423488, 288230376151711744, 4194304, 4194304), (1152921504606846976, 720575940379279360, 10485760, 16515072), (2305843009213693952, 1152921504606846976, 16777216, 33292288), (4611686018427387904, 2305843009213693952, 33554432, 66846720), (9223372036854775808, 1, 0, 0), (18446744073709551616, 9223372036854775808, 134217728, 134217728), (36893488147419103232, 18446744073709551616, 268435456, 402653184), (73786976294838206464, 36893488147419103232, 536870912, 939524096), (147573952589676412928, 8, 0, 0), (295147905179352825856, 147573952589676412928, 2147483648, 2147483648), (590295810358705651712, 368934881474191032320, 5368709120, 8455716864), (1180591620717411303424, 590295810358705651712, 8589934592, 17045651456), (2361183241434822606848, 1185203306735838691328, 17246978048, 34359476224), (4722366482869645213696, 2361183241434822606848, 34359738368, 68719214592), (16, 9007199254740992, 262143, 262143), (32, 4722366482869645213696, 274877906943, 274877906943)] (fun W => W.cell? ⟨p, 2, none⟩ = some (.slice (some ⟨dg, 0, none⟩) l.length dc) /\ W.cell? ⟨p, 3, none⟩ = some (.slice (some ⟨sg, 0, none⟩) l.length sc) /\ W.cell? ⟨dg, X, none⟩ = some (.int .i64 dX) /\ W.cell? ⟨sg, X, none⟩ = some (.int .i64 sX) /\ W.cell? ⟨w.heap.size, 2, none⟩ = some (.int .i64 X) /\ W.cell? ⟨dg, Y, none⟩ = some (.int .i64 dY) /\ W.cell? ⟨sg, Y, none⟩ = some (.int .i64 sY) /\ W.cell? ⟨w.heap.size, 3, none⟩ = some (.int .i64 Y)) (by kernel_rfl) (by kernel_rfl) (by kernel_rfl) rfl (by kernel_rfl) (by kernel_rfl) HS.out (fun hS => ?_)
   repeat (first
    | (refine plan_read (v := ?_) rfl (fun _ _ _ h => h) rfl hS ?_ ?_; rotate_left 1; (focus (intro w' hS'; obtain ⟨s2, s3, sd, ss, sx', sdy, ssy, sy'⟩ := hS'; go_simp; try rfl)); (simp only [Act.put, pu1]; dsimp only [pu2, pu3]))
    | (refine plan_skip rfl (fun _ _ _ h => h) rfl hS ?_; (simp only [Act.put, pu1]; dsimp only [pu2, pu3])))
   refine plan_nil ?_
   go_wp2_with fail
   go_ret2
   exact ⟨ret_ints (by rw [e1.out]; first | exact IntWalk.i64_in _ (by omega) | (rw [IntWalk.i64_in _ (by omega)]; omega)) (by rw [e2.out]; simp only [IntWalk.i64_in (3 + sX) (by omega), IntWalk.i64_in (3 + sX + sY) (by omega)]), (HB.out _).drew⟩
end
section
set_option maxRecDepth 4000
open Go.RowKit
theorem info_term : (Tryz.prog.info? 95).map (·.size) = some 4 := by kernel_rfl
theorem own_tm {w : World} {base n c : Nat} {e : TypeId} {A : Option Addr} {l : List Tm} (h : w.ownsRow base e 4 (.slice A n c) n (tcs l)) {k : Nat} {t : Tm} (hk : l[k]? = some t) :
  ∃ g, A = some ⟨g, 0, none⟩ /\ w.cell? ⟨g, k * 4, none⟩ = some (.int .i64 t.k) /\ w.cell? ⟨g, k * 4 + 1, none⟩ = some (.int .i64 t.a) /\ w.cell? ⟨g, k * 4 + 2, none⟩ = some (.int .i64 t.x) /\ w.cell? ⟨g, k * 4 + 3, none⟩ = some (.int .i64 t.y) := by
 have hl : (tcs l).length = n * 4 := h.1
 have hkl := (List.getElem?_eq_some_iff.1 hk).1
 simp at hl
 obtain ⟨g, cap, cur, e1, hb, hblk, _⟩ := own_open h (by omega)
 injection e1 with e1 _ e3
 subst e1; subst e3
 have hg : ∀ j u, j < 4 -> (tcells t)[j]? = some u -> w.cell? ⟨g, k * 4 + j, none⟩ = some u := fun j u hj hu => own_cell h (by rw [tcs_get hk j hj]; exact hu)
 exact ⟨g, rfl, hg 0 _ (by omega) rfl, hg 1 _ (by omega) rfl, hg 2 _ (by omega) rfl, hg 3 _ (by omega) rfl⟩
theorem get_ok (p X : Nat) (t : Tm) (l : List Tm) (base : Nat) (w : World) (hP : PoolIs w base p l) (hx : l[X]? = some t) :
  Calls Tryz.prog 168 #[.pointer (some ⟨p, 0, none⟩), .int .i64 X] w fun e w' => e = .returned (.tuple #[tval t, .bool true]) /\ Below w.heap.size w w' := by
 obtain ⟨tA, tc, mb, dA, dc, sA, sc, hP⟩ := hP
 have hX : X < l.length := (List.getElem?_eq_some_iff.1 hx).1
 obtain ⟨tg, rfl, q0, q1, q2, q3⟩ := own_tm hP.ts hx
 have hll := own_len hP.ts
 unfold maxLen at hll
 have hB : ∀ o, Below w.heap.size w (w.alloc o) := fun o => (Below.refl _ _).alloc (Nat.le_refl _) o
 have h0 : ∀ o, (w.alloc o).cell? ⟨p, 0, none⟩ = some (.slice (some ⟨tg, 0, none⟩) l.length tc) := fun o => ((Blk.alloc hP.blk o).cell 0)
 have hth : ∀ o, Calls Tryz.prog 129 #[.pointer (some ⟨p, 0, none⟩), .int .i64 X] (w.alloc o) fun e w' => e = .returned (.bool true) /\ (w.alloc o) = w' := fun o => by
  have e : thereT l.length X = true := by simp [thereT, hX]
  rw [<- e]; exact pthere_any p X _ l.length tc _ (own_len hP.ts) (h0 o)
 have hold : ∀ o a v, w.cell? a = some v -> (w.alloc o).cell? a = some v := fun o a v h => (World.cell?_of_block (Below.heap_alloc w o _ (World.block_lt_of_cell? w _ h))).trans h
 have r0 := fun o => hold o _ _ q0
 have r1 := fun o => hold o _ _ q1
 have r2 := fun o => hold o _ _ q2
 have r3 := fun o => hold o _ _ q3
 have HT := Lh hth; clear hth
 have HB := Lh hB; clear hB
 clear hP hold q0 q1 q2 q3 hx
 obtain ⟨k, a, x, y⟩ := t
 simp only at r0 r1 r2 r3
 go_enter Tryz.func168, Tryz.ntmps168
 go_wp2_with (go_at_call 129; refine (HT.out _).mono ?_; rintro e' w' ⟨rfl, rfl⟩)
 refine bodyPost_ret (results_row_tmp rfl _ _ w.heap.size 95 _ (0, 0) _ rfl (Blk.new _ _ _) Tryz.underlying95 rfl info_term) rfl ⟨rfl, HB.out _⟩
end
section
set_option maxRecDepth 4000
open Go.RowKit
theorem tnew_any (base : Nat) (w : World) (hb : base <= w.heap.size) :
  Calls Tryz.prog 47 #[] w fun e w' => ∃ p, e = .returned (.pointer (some ⟨p, 0, none⟩)) /\ PoolIs w' base p [] /\ Below w.heap.size w w' /\ w.heap.size <= p := by
 have hmm := @run_makeMap Tryz.prog
 have hB : ∀ o o', Below w.heap.size w ((w.alloc o).alloc o') := fun o o' => ((Below.refl _ _).alloc (Nat.le_refl _) o).alloc (by simp) o'
 have HB := Lh hB; clear hB
 go_enter Tryz.func47, Tryz.ntmps47
 go_wp2_with fail
 go_ret
 refine ⟨w.heap.size + 1, rfl, ⟨none, 0, w.heap.size, none, 0, none, 0, ⟨?_, World.ownsRow_nil _ _ _ _, World.ownsRow_nil _ _ _ _, World.ownsRow_nil _ _ _ _, ?_, by simp [Value.ownBlock], by omega, by omega⟩⟩, HB.out _ _, by omega⟩
 ·have := Blk.new (w.alloc (.map #[] 0)) 136 #[.slice none 0 0, .map (some w.heap.size), .slice none 0 0, .slice none 0 0]
  simpa using this
 ·exact (TMap.new w).keep (Below.heap_alloc _ _ _ (by simp))
end
end Go.Proofs.YtkgaeoeibjoljaaGreatDoor
