/-
  measure: a term's depth, and how long its text is.
-/
import Derived.Test.YtphhlfochapecaaDoorTerm1
import Derived.Test.YtphhlfochapecaaDoorItoa
import Derived.Test.YtphhlfochapecaaDoorRegion
import Derived.Lib.ItoaLen
namespace Go.Proofs.YtphhlfochapecaaDoor
set_option maxRecDepth 4000
open Go.RowKit

/-- The table of the library's that the numerals read. -/
def Tab10 (w : World) : Prop := Lib.TabIs Tryd.prog w "internal/strconv.uint64pow10" .u64 Lib.pow10Tab
theorem Tab10.below {B : Nat} {w w' : World} (h : Tab10 w) (hB : w.heap.size ≤ B) (hb : Below B w w') : Tab10 w' := by
  unfold Tab10 Lib.TabIs World.var? at h ⊢
  cases hg : Tryd.prog.globalNamed "internal/strconv.uint64pow10" with
  | none => simp [hg] at h
  | some g =>
    simp only [hg, Option.bind_some] at h ⊢
    have hlt : g < w.heap.size := by
      rcases Nat.lt_or_ge g w.heap.size with hl | hl
      · exact hl
      · simp [Array.getElem?_eq_none hl] at h
    rw [← h]
    simp only [hb.block g (by omega)]

theorem own_int {w : World} {base n c : Nat} {e : TypeId} {A : Option Addr} {xs : List Int} (h : w.ownsRow base e 1 (.slice A n c) n (i64s xs)) {k : Nat} (hk : k < n) :
    ∃ g, A = some ⟨g, 0, none⟩ ∧ w.cell? ⟨g, k, none⟩ = some (.int .i64 (xs.getD k 0)) := by
  obtain ⟨g, cap, cur, e1, hb, hblk, _⟩ := own_open h (by omega)
  injection e1 with e1 _ e3
  subst e1; subst e3
  refine ⟨g, rfl, own_cell h (j := k) ?_⟩
  have hl : (i64s xs).length = n * 1 := h.1
  simp at hl
  simp [i64s, List.getD_eq_getElem?_getD, List.getElem?_eq_getElem (show k < xs.length by omega)]

theorem own_len {w : World} {base size n : Nat} {e : TypeId} {v : Value} {xs : List Value} (h : w.ownsRow base e size v n xs) : n ≤ maxLen := by
  rcases Nat.eq_zero_or_pos n with h0 | h0
  · subst h0; exact Nat.zero_le _
  · obtain ⟨g, cap, cur, _, _, _, h1, h2, _⟩ := own_open h h0
    omega
theorem itoa_le (n : Int) (h : (Lit.int .i64 n).wf = true) : (Lib.itoa n).length ≤ 21 := by
  obtain ⟨h0, h1⟩ := wf_i64 h
  exact Lib.itoa_length_le n h0 h1

theorem measure_any (p : Nat) (t : Tm) (l : List Tm) (base : Nat) (w : World) (hP : PoolIs w base p l) (hp : Pool l) (hr : okT l.length t = true) (hwf : wfT t) (hT : Tab10 w) (h4 : l.length ≤ 4096) :
    Calls Tryd.prog 28 #[.pointer (some ⟨p, 0, none⟩), tval t] w fun e w' => e = .returned (.tuple #[.int .i64 (depT (deps l) t), .int .i64 (sizT (sizs l) t)]) ∧ Below w.heap.size w w' := by
  obtain ⟨tA, tc, mb, dA, dc, sA, sc, hP⟩ := hP
  by_cases k1 : t.k = 1
  · have hi := itoa_any t.a (wf_i64 hwf.2.1).1 (wf_i64 hwf.2.1).2
    have hle := itoa_le t.a hwf.2.1
    have e1 := Lib.hid (show depT (deps l) t = 1 by simp [depT, k1])
    have e2 := Lib.hid (show sizT (sizs l) t = 1 + (Lib.itoa t.a).length by simp [sizT, k1])
    obtain ⟨k, a, x, y⟩ := t
    unfold tval
    simp only at k1 hi hle e1 e2
    subst k1
    have hT' : ∀ o, Tab10 (w.alloc o) := fun o => hT.below (Nat.le_refl _) ((Below.refl _ _).alloc (Nat.le_refl _) o)
    have hB : ∀ o, Below w.heap.size w (w.alloc o) := fun o => (Below.refl _ _).alloc (Nat.le_refl _) o
    have HI := Lib.hid (fun o => hi _ (hT' o)); clear hi hT' hT hP hp hr hwf
    have HB := Lib.hid hB; clear hB
    go_enter Tryd.func28, Tryd.ntmps28
    go_wp2_with (go_at_call 39; refine (HI.out _).mono ?_; rintro e' w' ⟨rfl, bel⟩)
    go_ret2
    exact ⟨ret_ints e1.out.symm e2.out.symm, (HB.out _).trans (bel.mono (HB.out _).size)⟩
  · have k1b := k1
    have hx := okT_x hr k1
    have dx := deps_pos hp t.x.toNat (by omega)
    have sx := sizs_pos hp t.x.toNat (by omega)
    have sxl := sizs_top hp (n := t.x.toNat) (by omega)
    obtain ⟨dg, rfl, dcx⟩ := own_int hP.ds (k := t.x.toNat) (by omega)
    obtain ⟨sg, rfl, scx⟩ := own_int hP.ss (k := t.x.toNat) (by omega)
    have c2 := hP.cell2
    have c3 := hP.cell3
    have hll : l.length ≤ maxLen := own_len hP.ts
    unfold maxLen at hll
    have hold : ∀ o a v, w.cell? a = some v → (w.alloc o).cell? a = some v := fun o a v h => (World.cell?_of_block (Below.heap_alloc w o _ (World.block_lt_of_cell? w _ h))).trans h
    have hB : ∀ o, Below w.heap.size w (w.alloc o) := fun o => (Below.refl _ _).alloc (Nat.le_refl _) o
    by_cases k3 : t.k = 3
    · have e1 := Lib.hid (show depT (deps l) t = 1 + (deps l).getD t.x.toNat 0 by simp [depT, k3])
      have e2 := Lib.hid (show sizT (sizs l) t = min 10001 (3 + (sizs l).getD t.x.toNat 0) by simp [sizT, k3])
      obtain ⟨X, hX⟩ : ∃ X : Nat, t.x = X := ⟨t.x.toNat, by omega⟩
      obtain ⟨k, a, x, y⟩ := t
      unfold tval
      simp only at k1 k3 hx dx sx sxl dcx scx e1 e2 hX
      subst k3
      subst hX
      simp only [Int.toNat_natCast] at dx sx sxl dcx scx e1 e2
      generalize (deps l).getD X 0 = dX at *
      generalize (sizs l).getD X 0 = sX at *
      have hb1 := hold (.cells #[.int .i64 3, .int .i64 a, .int .i64 X, .int .i64 y] 45)
      have g2 := hb1 _ _ c2
      have g3 := hb1 _ _ c3
      have gd := hb1 _ _ dcx
      have gs := hb1 _ _ scx
      have gx : (w.alloc (.cells #[.int .i64 3, .int .i64 a, .int .i64 X, .int .i64 y] 45)).cell? ⟨w.heap.size, 2, none⟩ = some (.int .i64 X) := (Blk.new w 45 #[.int .i64 3, .int .i64 a, .int .i64 X, .int .i64 y]).cell 2
      have HS := Lib.hid (And.intro g2 (And.intro g3 (And.intro gd (And.intro gs gx))))
      clear hb1 hold g2 g3 gd gs gx c2 c3 dcx scx hP hT hp hr hwf
      have HB := Lib.hid hB; clear hB
      go_enter Tryd.func28, Tryd.ntmps28
      go_wp2_with fail
      refine region_fast [(0, true), (1, true), (2, true), (3, true), (4, true), (5, true), (6, true), (7, true), (8, true), (9, true), (10, true), (11, true), (12, true), (13, true), (14, true), (15, true), (16, true), (17, true), (18, true), (19, true), (20, true)] [4, 5, 9, 10, 11, 12, 13, 14, 15, 16, 17, 18, 19] 1048112 [(131072, 1, 0, 0), (262144, 131072, 1, 1), (524288, 262144, 2, 3), (1048576, 524288, 4, 7), (2097152, 8, 0, 0), (4194304, 2097152, 16, 16), (8388608, 5242880, 40, 63), (16777216, 8388608, 64, 127), (33554432, 16777216, 128, 255), (67108864, 1, 0, 0), (134217728, 67108864, 512, 512), (268435456, 134217728, 1024, 1536), (536870912, 268435456, 2048, 3584), (1073741824, 8, 0, 0), (2147483648, 1073741824, 8192, 8192), (4294967296, 2684354560, 20480, 32256), (8589934592, 4294967296, 32768, 65024), (17179869184, 8589934592, 65536, 130560), (34359738368, 17179869184, 131072, 261632), (16, 33554432, 511, 511), (32, 34359738368, 1048575, 1048575)] (fun W => W.cell? ⟨p, 2, none⟩ = some (.slice (some ⟨dg, 0, none⟩) l.length dc) ∧ W.cell? ⟨p, 3, none⟩ = some (.slice (some ⟨sg, 0, none⟩) l.length sc) ∧ W.cell? ⟨dg, X, none⟩ = some (.int .i64 dX) ∧ W.cell? ⟨sg, X, none⟩ = some (.int .i64 sX) ∧ W.cell? ⟨w.heap.size, 2, none⟩ = some (.int .i64 X)) (by kernel_rfl) (by kernel_rfl) (by kernel_rfl) rfl (by kernel_rfl) (by kernel_rfl) HS.out (fun hS => ?_)
      repeat (first
        | (refine plan_read (v := ?_) rfl (fun _ _ _ h => h) rfl hS ?_ ?_; rotate_left 1; (focus (intro w' hS'; obtain ⟨s2, s3, sd, ss, sx'⟩ := hS'; go_simp; try rfl)); (simp only [Act.put, List.setIfInBounds_toArray]; dsimp only [List.set_cons_zero, List.set_cons_succ]))
        | (refine plan_skip rfl (fun _ _ _ h => h) rfl hS ?_; (simp only [Act.put, List.setIfInBounds_toArray]; dsimp only [List.set_cons_zero, List.set_cons_succ])))
      refine plan_nil ?_
      go_wp2_with fail
      go_ret2
      exact ⟨ret_ints (by rw [e1.out]; exact IntWalk.i64_in _ (by omega)) (by rw [e2.out, IntWalk.i64_in (3 + sX) (by omega)]), (HB.out _).drew⟩
    · have hy := okT_y hr k1 k3
      have dy := deps_pos hp t.y.toNat (by omega)
      have sy := sizs_pos hp t.y.toNat (by omega)
      have syl := sizs_top hp (n := t.y.toNat) (by omega)
      obtain ⟨dg', ed, dcy⟩ := own_int hP.ds (k := t.y.toNat) (by omega)
      obtain ⟨sg', es, scy⟩ := own_int hP.ss (k := t.y.toNat) (by omega)
      injection ed with ed
      injection ed with ed
      subst ed
      injection es with es
      injection es with es
      subst es
      have e1 := Lib.hid (show depT (deps l) t = 1 + max ((deps l).getD t.x.toNat 0) ((deps l).getD t.y.toNat 0) by simp [depT, k1, k3])
      have e2 := Lib.hid (show sizT (sizs l) t = min 10001 (3 + (sizs l).getD t.x.toNat 0 + (sizs l).getD t.y.toNat 0) by simp [sizT, k1, k3])
      obtain ⟨X, hX⟩ : ∃ X : Nat, t.x = X := ⟨t.x.toNat, by omega⟩
      obtain ⟨Y, hY⟩ : ∃ Y : Nat, t.y = Y := ⟨t.y.toNat, by omega⟩
      obtain ⟨k, a, x, y⟩ := t
      unfold tval
      simp only at k1 k3 hx hy dx sx sxl dy sy syl dcx scx dcy scy e1 e2 hX hY
      subst hX
      subst hY
      simp only [Int.toNat_natCast] at dx sx sxl dcx scx dy sy syl dcy scy e1 e2
      generalize (deps l).getD X 0 = dX at *
      generalize (sizs l).getD X 0 = sX at *
      generalize (deps l).getD Y 0 = dY at *
      generalize (sizs l).getD Y 0 = sY at *
      have k1c : ((k : Int) == 1) = false := by simpa using k1
      have k3c : ((k : Int) == 3) = false := by simpa using k3
      have hb1 := hold (.cells #[.int .i64 k, .int .i64 a, .int .i64 X, .int .i64 Y] 45)
      have g2 := hb1 _ _ c2
      have g3 := hb1 _ _ c3
      have gd := hb1 _ _ dcx
      have gs := hb1 _ _ scx
      have gd' := hb1 _ _ dcy
      have gs' := hb1 _ _ scy
      have gx : (w.alloc (.cells #[.int .i64 k, .int .i64 a, .int .i64 X, .int .i64 Y] 45)).cell? ⟨w.heap.size, 2, none⟩ = some (.int .i64 X) := (Blk.new w 45 #[.int .i64 k, .int .i64 a, .int .i64 X, .int .i64 Y]).cell 2
      have gy : (w.alloc (.cells #[.int .i64 k, .int .i64 a, .int .i64 X, .int .i64 Y] 45)).cell? ⟨w.heap.size, 3, none⟩ = some (.int .i64 Y) := (Blk.new w 45 #[.int .i64 k, .int .i64 a, .int .i64 X, .int .i64 Y]).cell 3
      have HS := Lib.hid (And.intro g2 (And.intro g3 (And.intro gd (And.intro gs (And.intro gx (And.intro gd' (And.intro gs' gy)))))))
      clear hb1 hold g2 g3 gd gs gx gd' gs' gy c2 c3 dcx scx dcy scy hP hT hp hr hwf k1 k1b k3
      have HB := Lib.hid hB; clear hB
      go_enter Tryd.func28, Tryd.ntmps28
      go_wp2_with fail
      refine region_fast [(0, true), (1, true), (2, true), (3, true), (4, true), (5, true), (6, true), (7, true), (8, true), (9, true), (10, true), (11, true), (12, true), (13, true), (14, true), (15, true), (16, true), (17, true), (18, true), (19, true), (20, true), (21, true), (22, true), (23, true), (24, true), (25, true), (26, true), (27, true), (28, true), (29, true), (30, true), (31, true), (32, true), (33, true), (34, true), (35, true), (36, true), (37, true), (38, true)] [4, 5, 8, 9, 10, 11, 12, 13, 14, 15, 18, 19, 20, 21, 22, 23, 24, 25, 26, 27, 28, 29, 30, 31, 32, 33, 34, 35, 36, 37] 274877710128 [(68719476736, 1, 0, 0), (137438953472, 68719476736, 1, 1), (274877906944, 137438953472, 2, 3), (549755813888, 274877906944, 4, 7), (1099511627776, 8, 0, 0), (2199023255552, 1099511627776, 16, 16), (4398046511104, 2748779069440, 40, 63), (8796093022208, 4398046511104, 64, 127), (17592186044416, 1, 0, 0), (35184372088832, 17592186044416, 256, 256), (70368744177664, 35184372088832, 512, 768), (140737488355328, 70368744177664, 1024, 1792), (281474976710656, 8, 0, 0), (562949953421312, 281474976710656, 4096, 4096), (1125899906842624, 703687441776640, 10240, 16128), (2251799813685248, 1125899906842624, 16384, 32512), (4503599627370496, 2260595906707456, 32896, 65535), (9007199254740992, 4503599627370496, 65536, 131071), (18014398509481984, 1, 0, 0), (36028797018963968, 18014398509481984, 262144, 262144), (72057594037927936, 36028797018963968, 524288, 786432), (144115188075855872, 72057594037927936, 1048576, 1835008), (288230376151711744, 8, 0, 0), (576460752303423488, 288230376151711744, 4194304, 4194304), (1152921504606846976, 720575940379279360, 10485760, 16515072), (2305843009213693952, 1152921504606846976, 16777216, 33292288), (4611686018427387904, 2305843009213693952, 33554432, 66846720), (9223372036854775808, 1, 0, 0), (18446744073709551616, 9223372036854775808, 134217728, 134217728), (36893488147419103232, 18446744073709551616, 268435456, 402653184), (73786976294838206464, 36893488147419103232, 536870912, 939524096), (147573952589676412928, 8, 0, 0), (295147905179352825856, 147573952589676412928, 2147483648, 2147483648), (590295810358705651712, 368934881474191032320, 5368709120, 8455716864), (1180591620717411303424, 590295810358705651712, 8589934592, 17045651456), (2361183241434822606848, 1185203306735838691328, 17246978048, 34359476224), (4722366482869645213696, 2361183241434822606848, 34359738368, 68719214592), (16, 9007199254740992, 262143, 262143), (32, 4722366482869645213696, 274877906943, 274877906943)] (fun W => W.cell? ⟨p, 2, none⟩ = some (.slice (some ⟨dg, 0, none⟩) l.length dc) ∧ W.cell? ⟨p, 3, none⟩ = some (.slice (some ⟨sg, 0, none⟩) l.length sc) ∧ W.cell? ⟨dg, X, none⟩ = some (.int .i64 dX) ∧ W.cell? ⟨sg, X, none⟩ = some (.int .i64 sX) ∧ W.cell? ⟨w.heap.size, 2, none⟩ = some (.int .i64 X) ∧ W.cell? ⟨dg, Y, none⟩ = some (.int .i64 dY) ∧ W.cell? ⟨sg, Y, none⟩ = some (.int .i64 sY) ∧ W.cell? ⟨w.heap.size, 3, none⟩ = some (.int .i64 Y)) (by kernel_rfl) (by kernel_rfl) (by kernel_rfl) rfl (by kernel_rfl) (by kernel_rfl) HS.out (fun hS => ?_)
      repeat (first
        | (refine plan_read (v := ?_) rfl (fun _ _ _ h => h) rfl hS ?_ ?_; rotate_left 1; (focus (intro w' hS'; obtain ⟨s2, s3, sd, ss, sx', sdy, ssy, sy'⟩ := hS'; go_simp; try rfl)); (simp only [Act.put, List.setIfInBounds_toArray]; dsimp only [List.set_cons_zero, List.set_cons_succ]))
        | (refine plan_skip rfl (fun _ _ _ h => h) rfl hS ?_; (simp only [Act.put, List.setIfInBounds_toArray]; dsimp only [List.set_cons_zero, List.set_cons_succ])))
      refine plan_nil ?_
      go_wp2_with fail
      go_ret2
      exact ⟨ret_ints (by rw [e1.out]; first | exact IntWalk.i64_in _ (by omega) | (rw [IntWalk.i64_in _ (by omega)]; omega)) (by rw [e2.out]; simp only [IntWalk.i64_in (3 + sX) (by omega), IntWalk.i64_in (3 + sX + sY) (by omega)]), (HB.out _).drew⟩
end Go.Proofs.YtphhlfochapecaaDoor
