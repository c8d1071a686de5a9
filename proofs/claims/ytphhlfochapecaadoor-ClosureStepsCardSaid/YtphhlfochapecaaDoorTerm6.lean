/-
  Put.
-/
import Derived.Test.YtphhlfochapecaaDoorTermN
import Derived.Test.YtphhlfochapecaaDoorInv
import Derived.Test.YtphhlfochapecaaDoorChain
namespace Go.Proofs.YtphhlfochapecaaDoor
set_option maxRecDepth 4000
open Go.RowKit

/-- What Put meets on its way. -/
structure PutAt (w W : World) (base p : Nat) (l : List Tm) (tA : Option Addr) (tc mb : Nat) (dA : Option Addr) (dc : Nat) (sA : Option Addr) (sc : Nat) (k a x y : Int) : Prop where
  parts : PoolParts W base p l tA tc mb dA dc sA sc
  box : Blk W w.heap.size 45 #[.int .i64 k, .int .i64 a, .int .i64 x, .int .i64 y]
  bel : Below w.heap.size w W
section
variable {w W W' : World} {base p : Nat} {l : List Tm} {tA : Option Addr} {tc mb : Nat} {dA : Option Addr} {dc : Nat} {sA : Option Addr} {sc : Nat} {k a x y : Int}
theorem PutAt.below (h : PutAt w W base p l tA tc mb dA dc sA sc k a x y) (hb : Below W.heap.size W W') : PutAt w W' base p l tA tc mb dA dc sA sc k a x y :=
  ⟨h.parts.below hb, h.box.keep (hb.block _ h.box.lt), h.bel.trans (hb.mono h.bel.size)⟩
theorem PutAt.drew (h : PutAt w W base p l tA tc mb dA dc sA sc k a x y) : PutAt w W.drew base p l tA tc mb dA dc sA sc k a x y := h.below (Below.refl _ _).drew
theorem PutAt.start (h : PoolParts w base p l tA tc mb dA dc sA sc) : PutAt w (w.alloc (.cells #[.int .i64 k, .int .i64 a, .int .i64 x, .int .i64 y] 45)) base p l tA tc mb dA dc sA sc k a x y :=
  ⟨h.below ((Below.refl _ _).alloc (Nat.le_refl _) _), Blk.new _ _ _, (Below.refl _ _).alloc (Nat.le_refl _) _⟩
theorem PutAt.is (h : PutAt w W base p l tA tc mb dA dc sA sc k a x y) : PoolIs W base p l := ⟨_, _, _, _, _, _, _, h.parts⟩
end

theorem lookup_term {W : World} {mb : Nat} {l : List Tm} (h : TMap W mb l) (k a x y : Int) :
    (Instr.lookup 63 (.map (some mb)) (.agg #[.int .i64 k, .int .i64 a, .int .i64 x, .int .i64 y]) true).run Tryd.prog W = .ok (.tuple #[.int .i64 (if (⟨k, a, x, y⟩ : Tm) ∈ l then (l.idxOf (⟨k, a, x, y⟩ : Tm) : Int) else 0), .bool (decide ((⟨k, a, x, y⟩ : Tm) ∈ l))]) W :=
  run_lookup_tm termType Tryd.underlying63 (by kernel_rfl) h ⟨k, a, x, y⟩

theorem put_no (p : Nat) (t : Tm) (l : List Tm) (base : Nat) (w : World) {tA : Option Addr} {tc mb : Nat} {dA : Option Addr} {dc : Nat} {sA : Option Addr} {sc : Nat} (hP : PoolParts w base p l tA tc mb dA dc sA sc) (hr : okT l.length t = false) :
    Calls Tryd.prog 18 #[.pointer (some ⟨p, 0, none⟩), tval t] w fun e w' => e = .returned (.tuple #[.int .i64 0, .int .i64 2]) ∧ PoolParts w' base p l tA tc mb dA dc sA sc ∧ Below w.heap.size w w' := by
  obtain ⟨k, a, x, y⟩ := t
  have h0 := PutAt.start (k := k) (a := a) (x := x) (y := y) hP
  have HR := Lib.hid (right_any p ⟨k, a, x, y⟩ tA l.length tc _ (own_len hP.ts) h0.parts.cell0)
  rw [hr] at HR
  have b0 := h0.box.cell 0
  have b1 := h0.box.cell 1
  have b2 := h0.box.cell 2
  have b3 := h0.box.cell 3
  have H0 := Lib.hid h0; clear h0 hP hr
  unfold tval at HR ⊢
  go_enter Tryd.func18, Tryd.ntmps18
  go_wp2_with (go_at_call 27; refine (HR.out).mono ?_; rintro e' w' ⟨rfl, bel⟩)
  go_ret2
  have h1 := H0.out.below bel
  exact ⟨rfl, h1.parts, h1.bel⟩

theorem put_old (p : Nat) (t : Tm) (l : List Tm) (base : Nat) (w : World) {tA : Option Addr} {tc mb : Nat} {dA : Option Addr} {dc : Nat} {sA : Option Addr} {sc : Nat} (hP : PoolParts w base p l tA tc mb dA dc sA sc) (hr : okT l.length t = true) (hm : t ∈ l) :
    Calls Tryd.prog 18 #[.pointer (some ⟨p, 0, none⟩), tval t] w fun e w' => e = .returned (.tuple #[.int .i64 (l.idxOf t), .int .i64 0]) ∧ PoolParts w' base p l tA tc mb dA dc sA sc ∧ Below w.heap.size w w' := by
  obtain ⟨k, a, x, y⟩ := t
  have h0 := PutAt.start (k := k) (a := a) (x := x) (y := y) hP
  have HR := Lib.hid (right_any p ⟨k, a, x, y⟩ tA l.length tc _ (own_len hP.ts) h0.parts.cell0)
  rw [hr] at HR
  have b0 := h0.box.cell 0
  have b1 := h0.box.cell 1
  have b2 := h0.box.cell 2
  have b3 := h0.box.cell 3
  have H0 := Lib.hid h0; clear h0 hP hr
  have hlk := fun W hW => @lookup_term W mb l hW k a x y
  rw [if_pos hm, decide_eq_true hm] at hlk
  generalize l.idxOf (⟨k, a, x, y⟩ : Tm) = N at *
  have HL := Lib.hid hlk; clear hlk hm
  unfold tval at HR ⊢
  go_enter Tryd.func18, Tryd.ntmps18
  go_wp2_with fail
  refine HR.out.mono ?_
  rintro e' w2 ⟨rfl, bel⟩
  have H1 := Lib.hid (H0.out.below bel).drew
  clear b0 b1 b2 b3
  go_wp2_with fail
  refine region_fast [(0, true), (1, true), (2, true), (3, true), (4, true), (5, true), (6, true), (7, true), (8, true), (9, true), (10, true)] [4, 8, 9] 784 [(65536, 1, 0, 0), (131072, 65536, 1, 1), (262144, 131072, 2, 3), (524288, 262144, 4, 7), (1048576, 8, 0, 0), (2097152, 1572864, 24, 31), (32768, 2097152, 32, 63), (4194304, 32768, 64, 127), (8388608, 32768, 64, 127), (64, 4194304, 255, 255), (128, 8388608, 1023, 1023)] (fun W => PutAt w W base p l tA tc mb dA dc sA sc k a x y) (by kernel_rfl) (by kernel_rfl) (by kernel_rfl) rfl (by kernel_rfl) (by kernel_rfl) H1.out (fun hS => ?_)
  repeat (first
    | (refine plan_read (v := ?_) rfl (fun _ _ _ h => h) rfl hS ?_ ?_; rotate_left 1; (focus (intro w' hS'; have s1 := hS'.parts.cell1; have s2 := hS'.box.cell 0; have s3 := hS'.box.cell 1; have s4 := hS'.box.cell 2; have s5 := hS'.box.cell 3; have s6 := HL.out _ hS'.parts.mp; go_simp; try rfl)); (simp only [Act.put, List.setIfInBounds_toArray]; dsimp only [List.set_cons_zero, List.set_cons_succ]))
    | (refine plan_skip rfl (fun _ _ _ h => h) rfl hS ?_; (simp only [Act.put, List.setIfInBounds_toArray]; dsimp only [List.set_cons_zero, List.set_cons_succ])))
  refine plan_nil ?_
  go_wp2_with fail
  go_ret2
  exact ⟨rfl, hS.parts, hS.bel⟩

theorem put_full (p : Nat) (t : Tm) (l : List Tm) (base : Nat) (w : World) {tA : Option Addr} {tc mb : Nat} {dA : Option Addr} {dc : Nat} {sA : Option Addr} {sc : Nat} (hP : PoolParts w base p l tA tc mb dA dc sA sc) (hr : okT l.length t = true) (hm : t ∉ l) (hf : l.length = 4096) :
    Calls Tryd.prog 18 #[.pointer (some ⟨p, 0, none⟩), tval t] w fun e w' => e = .returned (.tuple #[.int .i64 0, .int .i64 21]) ∧ PoolParts w' base p l tA tc mb dA dc sA sc ∧ Below w.heap.size w w' := by
  obtain ⟨k, a, x, y⟩ := t
  have h0 := PutAt.start (k := k) (a := a) (x := x) (y := y) hP
  have HR := Lib.hid (right_any p ⟨k, a, x, y⟩ tA l.length tc _ (own_len hP.ts) h0.parts.cell0)
  rw [hr] at HR
  have b0 := h0.box.cell 0
  have b1 := h0.box.cell 1
  have b2 := h0.box.cell 2
  have b3 := h0.box.cell 3
  have H0 := Lib.hid h0; clear h0 hP hr
  have hlk := fun W hW => @lookup_term W mb l hW k a x y
  rw [if_neg hm, decide_eq_false hm] at hlk
  have HL := Lib.hid hlk; clear hlk hm
  have HF := Lib.hid hf; clear hf
  unfold tval at HR ⊢
  go_enter Tryd.func18, Tryd.ntmps18
  go_wp2_with fail
  refine HR.out.mono ?_
  rintro e' w2 ⟨rfl, bel⟩
  have H1 := Lib.hid (H0.out.below bel).drew
  clear b0 b1 b2 b3
  go_wp2_with fail
  refine region_fast [(0, true), (1, true), (2, true), (3, true), (4, true), (5, true), (6, true), (7, true), (8, true), (9, true), (10, true)] [4, 8, 9] 784 [(65536, 1, 0, 0), (131072, 65536, 1, 1), (262144, 131072, 2, 3), (524288, 262144, 4, 7), (1048576, 8, 0, 0), (2097152, 1572864, 24, 31), (32768, 2097152, 32, 63), (4194304, 32768, 64, 127), (8388608, 32768, 64, 127), (64, 4194304, 255, 255), (128, 8388608, 1023, 1023)] (fun W => PutAt w W base p l tA tc mb dA dc sA sc k a x y) (by kernel_rfl) (by kernel_rfl) (by kernel_rfl) rfl (by kernel_rfl) (by kernel_rfl) H1.out (fun hS => ?_)
  repeat (first
    | (refine plan_read (v := ?_) rfl (fun _ _ _ h => h) rfl hS ?_ ?_; rotate_left 1; (focus (intro w' hS'; have s1 := hS'.parts.cell1; have s2 := hS'.box.cell 0; have s3 := hS'.box.cell 1; have s4 := hS'.box.cell 2; have s5 := hS'.box.cell 3; have s6 := HL.out _ hS'.parts.mp; go_simp; try rfl)); (simp only [Act.put, List.setIfInBounds_toArray]; dsimp only [List.set_cons_zero, List.set_cons_succ]))
    | (refine plan_skip rfl (fun _ _ _ h => h) rfl hS ?_; (simp only [Act.put, List.setIfInBounds_toArray]; dsimp only [List.set_cons_zero, List.set_cons_succ])))
  refine plan_nil ?_
  have c0 : w2.cell? ⟨p, 0, none⟩ = some (.slice tA 4096 tc) := by have := hS.parts.cell0; rwa [HF.out] at this
  go_wp2_with fail
  go_ret2
  exact ⟨rfl, hS.parts, hS.bel⟩
end Go.Proofs.YtphhlfochapecaaDoor
