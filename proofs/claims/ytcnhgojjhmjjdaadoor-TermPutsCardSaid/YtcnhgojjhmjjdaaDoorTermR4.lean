/-
  The document's depth and size of a term.
-/
import Derived.Test.YtcnhgojjhmjjdaaDoorTermR3
import Derived.Test.YtcnhgojjhmjjdaaDoorItoaR
import Derived.Laws.MakeOwn
namespace Go.Proofs.YtcnhgojjhmjjdaaDoor
set_option maxRecDepth 4000
open Go.RowKit

theorem make_ints (n : Nat) (hn : n ≤ 100000) (W : World) : (Instr.makeSlice 50 (.int .i64 (n : Int)) (.int .i64 (n : Int))).run Tryd.prog W = .ok (.slice (some ⟨W.heap.size, 0, none⟩) n n) (W.alloc (.cells (i64s (List.replicate n 0)).toArray 3)) := by
  obtain ⟨i, hi, hz, hs, hb⟩ := info_parts info_i64
  have h := run_make (P := Tryd.prog) W 50 3 i (.int .i64 0) Tryd.underlying50 hi hz .i64 .i64 (n : Int) (n : Int) (by omega) (by omega) (by rw [hb]; omega) (by omega)
  have e0 : i64s (List.replicate n 0) = List.replicate n (Value.int .i64 0) := by simp [i64s]
  have e1 : madeCells (Value.int .i64 0).cells ((n : Int).toNat * i.size) = (i64s (List.replicate n 0)).toArray := by
    rw [hs, Int.toNat_natCast, Nat.mul_one, e0, ← toList_madeCells_one (.int .i64 0) n]
    rfl
  rw [e1, Int.toNat_natCast] at h
  exact h

/-- A row of integers that is filled from its head. -/
def Fills (w : World) (G n : Nat) (z : List Int) (j : Nat) : Prop := ∃ cur : Array Value, Blk w G 3 cur ∧ cur.size = n ∧ ∀ i, i < j → cur[i]? = some (.int .i64 (z.getD i 0))
section
variable {w w' : World} {G n j : Nat} {z : List Int}
theorem Fills.lt (h : Fills w G n z j) : G < w.heap.size := by
  obtain ⟨cur, hb, _⟩ := h
  exact hb.lt
theorem Fills.keep (h : Fills w G n z j) (hk : w'.heap[G]? = w.heap[G]?) : Fills w' G n z j := by
  obtain ⟨cur, hb, r⟩ := h
  exact ⟨cur, hb.keep hk, r⟩
theorem Fills.below (h : Fills w G n z j) (hb : Below w.heap.size w w') : Fills w' G n z j := h.keep (hb.block _ h.lt)
theorem Fills.cell (h : Fills w G n z j) {i : Nat} (hi : i < j) : w.cell? ⟨G, i, none⟩ = some (.int .i64 (z.getD i 0)) := by
  obtain ⟨cur, hb, _, hc⟩ := h
  rw [hb.cell, hc i hi]
theorem Fills.there (h : Fills w G n z j) {i : Nat} (hi : i < n) : (∃ v, w.cell? ⟨G, i, none⟩ = some v) ∧ w.frozen? ⟨G, i, none⟩ = false := by
  obtain ⟨cur, hb, hs, _⟩ := h
  exact ⟨⟨cur[i], by rw [hb.cell, Array.getElem?_eq_getElem (by omega)]⟩, hb.frozen i⟩
theorem Fills.set (h : Fills w G n z j) (hj : j < n) {d : Int} (hd : z.getD j 0 = d) : Fills (w.setCell ⟨G, j, none⟩ (.int .i64 d)) G n z (j + 1) := by
  obtain ⟨cur, hb, hs, hc⟩ := h
  refine ⟨_, hb.set_ j (.int .i64 d), by simp [hs], fun i hi => ?_⟩
  rw [Array.getElem?_setIfInBounds]
  by_cases e : j = i
  · subst e
    simp [hs, hj, ← hd, List.getD_eq_getElem?_getD]
  · rw [if_neg e, hc i (by omega)]
end
theorem Fills.start (w : World) (n : Nat) (z : List Int) : Fills (w.alloc (.cells (i64s (List.replicate n 0)).toArray 3)) w.heap.size n z 0 :=
  ⟨_, Blk.new _ _ _, by simp, fun i hi => by omega⟩

set_option maxHeartbeats 1000000 in
theorem rdepth_any (v : Value) (X : Nat) (l : List Tm) (base : Nat) (w : World) (h : LIs w base v l) (hp : Pool l) (hX : X < l.length) (hll : l.length ≤ 4096) :
    Calls Tryd.prog 10 #[v, .int .i64 X] w fun e w' => e = .returned (.int .i64 ((deps l).getD X 0)) ∧ Below w.heap.size w w' := by
  obtain ⟨A, c, rfl⟩ := own_shape h
  have hmk := make_ints (X + 1) (by omega)
  have hst := fun W => Fills.start W (X + 1) (deps l)
  have HST := Lib.hid hst; clear hst
  have HMK := Lib.hid hmk; clear hmk
  have HL := Lib.hid h; clear h
  have HP := Lib.hid hp; clear hp
  have hmk := HMK.out w
  rw [show ((X + 1 : Nat) : Int) = (X : Int) + 1 by omega] at hmk
  have hXn : ¬ ((X : Int) < 0) := by omega
  have hXl : ¬ ((l.length : Int) ≤ (X : Int)) := by omega
  go_enter Tryd.func10, Tryd.ntmps10
  go_wp2_with fail
  go_loopw [6, 7] (fun i t wr => ∃ j : Nat, i = .int .i64 j ∧ j ≤ X + 1 ∧ Hid (Fills wr w.heap.size (X + 1) (deps l) j) ∧ Hid (Below w.heap.size w wr)) (fun i _ _ => X + 1 - (intOf i).toNat)
  case atStart => exact ⟨0, rfl, by omega, HST.out w, Lib.hid ((Below.refl _ _).alloc (Nat.le_refl _) _)⟩
  case round =>
    obtain ⟨j, rfl, hj, hf, hb⟩ := hrel
    by_cases hlt : j < X + 1
    · have hjl : j < l.length := by omega
      have hx : l[j]? = some (l[j]'hjl) := List.getElem?_eq_getElem hjl
      generalize l[j] = t at hx
      obtain ⟨tg, rfl, q0, q1, q2, q3⟩ := own_tm (own_below HL.out hb.out) hx
      have hr := HP.out.right j t hx
      have hfit := HP.out.fits t (List.mem_of_getElem? hx)
      obtain ⟨v0, z0⟩ := hf.out.there (i := j) hlt
      obtain ⟨v0, hv0⟩ := v0
      have hg := deps_get HP.out hx
      have HE := Lib.hid (show (deps l).getD j 0 = depT (deps l) t by rw [List.getD_eq_getElem?_getD, hg]; rfl)
      have hA : ∀ o, Below wr.heap.size wr (wr.alloc o) := fun o => (Below.refl _ _).alloc (Nat.le_refl _) o
      have HF2 := Lib.hid (fun o => hf.out.below (hA o))
      have HB2 := Lib.hid (fun o => hb.out.trans ((hA o).mono hb.out.size))
      have hv1 : ∀ o, (wr.alloc o).cell? ⟨w.heap.size, j, none⟩ = some v0 := fun o => (World.cell?_of_block (a := ⟨w.heap.size, j, none⟩) (Below.heap_alloc wr o _ hf.out.lt)).trans hv0
      have hz1 : ∀ o, (wr.alloc o).frozen? ⟨w.heap.size, j, none⟩ = false := fun o => ((HF2.out o).there (i := j) hlt).2
      have dx := deps_pos HP.out
      clear hx hA hv0 z0 hg
      by_cases k1 : t.k = 1
      · have e1 := Lib.hid (show depT (deps l) t = 1 by simp [depT, k1])
        obtain ⟨k, a, x, y⟩ := t
        simp only at k1 q0 q1 q2 q3 e1 HE hfit
        subst k1
        go_wp2_with fail
        go_roundw
        case rel => exact ⟨j + 1, by go_num, by omega, Lib.hid ((HF2.out _).set hlt (HE.out.trans e1.out)), Lib.hid (((HB2.out _).setCell (p := ⟨w.heap.size, j, none⟩) (Nat.le_refl _) _))⟩
        case measure => simp [intOf]; omega
      · have hx := okT_x hr k1
        have k1b : ((t.k : Int) == 1) = false := by simpa using k1
        have px := dx t.x.toNat (by omega)
        have cx := fun o => (HF2.out o).cell (i := t.x.toNat) (by omega)
        by_cases k3 : t.k = 3
        · have e1 := Lib.hid (show depT (deps l) t = 1 + (deps l).getD t.x.toNat 0 by simp [depT, k3])
          obtain ⟨X1, hX1⟩ : ∃ X1 : Nat, t.x = X1 := ⟨t.x.toNat, by omega⟩
          obtain ⟨k, a, x, y⟩ := t
          simp only at k1 k3 k1b q0 q1 q2 q3 e1 HE px cx hx hX1
          subst k3
          subst hX1
          simp only [Int.toNat_natCast] at px cx e1
          clear k1 k1b
          generalize (deps l).getD X1 0 = D1 at *
          go_wp2_with fail
          go_roundw
          case rel => exact ⟨j + 1, by go_num, by omega, Lib.hid ((HF2.out _).set hlt (HE.out.trans e1.out)), Lib.hid (((HB2.out _).setCell (p := ⟨w.heap.size, j, none⟩) (Nat.le_refl _) _))⟩
          case measure => simp [intOf]; omega
        · have hy := okT_y hr k1 k3
          have k3b : ((t.k : Int) == 3) = false := by simpa using k3
          have py := dx t.y.toNat (by omega)
          have cy := fun o => (HF2.out o).cell (i := t.y.toNat) (by omega)
          have e1 := Lib.hid (show depT (deps l) t = 1 + max ((deps l).getD t.x.toNat 0) ((deps l).getD t.y.toNat 0) by simp [depT, k1, k3])
          obtain ⟨X1, hX1⟩ : ∃ X1 : Nat, t.x = X1 := ⟨t.x.toNat, by omega⟩
          obtain ⟨Y1, hY1⟩ : ∃ Y1 : Nat, t.y = Y1 := ⟨t.y.toNat, by omega⟩
          have bx := fun o1 o2 o3 o4 => (Blk.new wr 33 #[o1, o2, o3, o4]).cell 2
          have by_ := fun o1 o2 o3 o4 => (Blk.new wr 33 #[o1, o2, o3, o4]).cell 3
          obtain ⟨k, a, x, y⟩ := t
          simp only at k1 k3 k1b k3b q0 q1 q2 q3 e1 HE px cx hx hX1 py cy hy hY1
          subst hX1
          subst hY1
          simp only [Int.toNat_natCast] at px cx py cy e1
          have HS := Lib.hid (And.intro (cx (.cells #[.int .i64 k, .int .i64 a, .int .i64 X1, .int .i64 Y1] 33)) (And.intro (cy (.cells #[.int .i64 k, .int .i64 a, .int .i64 X1, .int .i64 Y1] 33)) (And.intro (bx (.int .i64 k) (.int .i64 a) (.int .i64 X1) (.int .i64 Y1)) (by_ (.int .i64 k) (.int .i64 a) (.int .i64 X1) (.int .i64 Y1)))))
          clear cx cy bx by_ k1 k3
          have g1 : X1 < X + 1 := by omega
          have g2 : Y1 < X + 1 := by omega
          have g1i : (X1 : Int) < (X : Int) + 1 := by omega
          have g2i : (Y1 : Int) < (X : Int) + 1 := by omega
          have g3i : (j : Int) < (X : Int) + 1 := by omega
          generalize (deps l).getD X1 0 = D1 at *
          generalize (deps l).getD Y1 0 = D2 at *
          have wr1 : IntKind.i64.wrap (1 + max D1 D2) = 1 + max D1 D2 := IntWalk.i64_in _ (by omega)
          go_wp2_with fail
          refine region_fast [(0, true), (1, true), (2, true), (3, true), (4, true), (5, true), (6, true), (7, true), (8, true), (9, true), (10, true), (11, true), (12, true), (13, true), (14, true), (15, false)] [1, 2, 3, 4, 5, 6, 7, 8, 9, 10, 11, 12, 13] 16382 [(1073741824, 32, 0, 0), (2147483648, 64, 0, 0), (4294967296, 32, 0, 0), (8589934592, 128, 0, 0), (17179869184, 8589934592, 8, 8), (34359738368, 21474836480, 20, 28), (68719476736, 34359738368, 32, 60), (137438953472, 32, 0, 0), (274877906944, 128, 0, 0), (549755813888, 274877906944, 256, 256), (1099511627776, 687194767360, 640, 896), (2199023255552, 1099511627776, 1024, 1920), (4398046511104, 2267742732288, 2112, 4092), (8796093022208, 4398046511104, 4096, 8188), (17592186044416, 3221225472, 16383, 16383), (0, 26388279066624, 32767, 32767)] (fun W => W.cell? ⟨w.heap.size, X1, none⟩ = some (.int .i64 D1) ∧ W.cell? ⟨w.heap.size, Y1, none⟩ = some (.int .i64 D2) ∧ W.cell? ⟨wr.heap.size, 2, none⟩ = some (.int .i64 X1) ∧ W.cell? ⟨wr.heap.size, 3, none⟩ = some (.int .i64 Y1)) (by kernel_rfl) (by kernel_rfl) (by kernel_rfl) rfl (by kernel_rfl) (by kernel_rfl) HS.out (fun hS => ?_)
          repeat (first
            | (refine plan_read (v := ?_) rfl (fun _ _ _ h => h) rfl hS ?_ ?_; rotate_left 1; (focus (intro w' hS'; obtain ⟨s1, s2, s3, s4⟩ := hS'; go_simp; try rfl)); (simp only [Act.put, List.setIfInBounds_toArray]; dsimp only [List.set_cons_zero, List.set_cons_succ]))
            | (refine plan_skip rfl (fun _ _ _ h => h) rfl hS ?_; (simp only [Act.put, List.setIfInBounds_toArray]; dsimp only [List.set_cons_zero, List.set_cons_succ])))
          refine plan_do (by rfl) (by rfl) (fun K hK => ?_)
          go_simp
          refine hK.out _ _ (fun h => by cases h) (fun _ => ?_); clear hK K; try (simp only [Act.put, List.setIfInBounds_toArray]; dsimp only [List.set_cons_zero, List.set_cons_succ])
          refine plan_nil ?_
          go_wp2_with fail
          go_roundw
          case rel => exact ⟨j + 1, by go_num, by omega, Lib.hid ((HF2.out _).set hlt (HE.out.trans e1.out)), Lib.hid (((HB2.out _).setCell (p := ⟨w.heap.size, j, none⟩) (Nat.le_refl _) _).drew)⟩
          case measure => simp [intOf]; omega
    · obtain rfl : j = X + 1 := by omega
      have q := hf.out.cell (i := X) (by omega)
      obtain ⟨D, hD⟩ : ∃ D, (deps l).getD X 0 = D := ⟨_, rfl⟩
      rw [hD] at q
      have HDD := Lib.hid hD; clear hD
      go_wp2_with fail
      go_ret
      exact ⟨ret_int HDD.out.symm, hb.out⟩
set_option maxHeartbeats 1000000 in
theorem rsize_any (v : Value) (X : Nat) (l : List Tm) (base : Nat) (w : World) (h : LIs w base v l) (hp : Pool l) (hX : X < l.length) (hll : l.length ≤ 4096) :
    Calls Tryd.prog 11 #[v, .int .i64 X] w fun e w' => e = .returned (.int .i64 ((sizs l).getD X 0)) ∧ Below w.heap.size w w' := by
  obtain ⟨A, c, rfl⟩ := own_shape h
  have hmk := make_ints (X + 1) (by omega)
  have hst := fun W => Fills.start W (X + 1) (sizs l)
  have HST := Lib.hid hst; clear hst
  have HMK := Lib.hid hmk; clear hmk
  have HL := Lib.hid h; clear h
  have HP := Lib.hid hp; clear hp
  have hmk := HMK.out w
  rw [show ((X + 1 : Nat) : Int) = (X : Int) + 1 by omega] at hmk
  have hXn : ¬ ((X : Int) < 0) := by omega
  have hXl : ¬ ((l.length : Int) ≤ (X : Int)) := by omega
  go_enter Tryd.func11, Tryd.ntmps11
  go_wp2_with fail
  go_loopw [6, 7] (fun i t wr => ∃ j : Nat, i = .int .i64 j ∧ j ≤ X + 1 ∧ Hid (Fills wr w.heap.size (X + 1) (sizs l) j) ∧ Hid (Below w.heap.size w wr)) (fun i _ _ => X + 1 - (intOf i).toNat)
  case atStart => exact ⟨0, rfl, by omega, HST.out w, Lib.hid ((Below.refl _ _).alloc (Nat.le_refl _) _)⟩
  case round =>
    obtain ⟨j, rfl, hj, hf, hb⟩ := hrel
    by_cases hlt : j < X + 1
    · have hjl : j < l.length := by omega
      have hx : l[j]? = some (l[j]'hjl) := List.getElem?_eq_getElem hjl
      generalize l[j] = t at hx
      obtain ⟨tg, rfl, q0, q1, q2, q3⟩ := own_tm (own_below HL.out hb.out) hx
      have hr := HP.out.right j t hx
      have hfit := HP.out.fits t (List.mem_of_getElem? hx)
      obtain ⟨v0, z0⟩ := hf.out.there (i := j) hlt
      obtain ⟨v0, hv0⟩ := v0
      have hg := sizs_get HP.out hx
      have HE := Lib.hid (show (sizs l).getD j 0 = sizT (sizs l) t by rw [List.getD_eq_getElem?_getD, hg]; rfl)
      have hA : ∀ o, Below wr.heap.size wr (wr.alloc o) := fun o => (Below.refl _ _).alloc (Nat.le_refl _) o
      have HF2 := Lib.hid (fun o => hf.out.below (hA o))
      have HB2 := Lib.hid (fun o => hb.out.trans ((hA o).mono hb.out.size))
      have hv1 : ∀ o, (wr.alloc o).cell? ⟨w.heap.size, j, none⟩ = some v0 := fun o => (World.cell?_of_block (a := ⟨w.heap.size, j, none⟩) (Below.heap_alloc wr o _ hf.out.lt)).trans hv0
      have hz1 : ∀ o, (wr.alloc o).frozen? ⟨w.heap.size, j, none⟩ = false := fun o => ((HF2.out o).there (i := j) hlt).2
      have dx := sizs_pos HP.out
      clear hx hA hv0 z0 hg
      by_cases k1 : t.k = 1
      · have hle := Lib.itoa_length_le t.a hfit.1 hfit.2
        have e1 := Lib.hid (show sizT (sizs l) t = 1 + (Lib.itoa t.a).length by simp [sizT, k1])
        have HI := Lib.hid (rnum_any t.a hfit.1 hfit.2)
        obtain ⟨k, a, x, y⟩ := t
        simp only at k1 q0 q1 q2 q3 e1 HE hfit
        simp only at hle HI
        subst k1
        go_wp2_with fail
        refine (HI.out _).mono ?_
        rintro e w2 ⟨rfl, bel⟩
        have HF3 := Lib.hid ((HF2.out _).below bel)
        have HB3 := Lib.hid ((HB2.out _).trans (bel.mono (HB2.out _).size))
        obtain ⟨v2, z2⟩ := HF3.out.there (i := j) hlt
        obtain ⟨v2, hv2⟩ := v2
        go_wp2_with fail
        go_roundw
        case rel => exact ⟨j + 1, by go_num, by omega, Lib.hid ((HF3.out).set hlt (HE.out.trans e1.out)), Lib.hid (((HB3.out).setCell (p := ⟨w.heap.size, j, none⟩) (Nat.le_refl _) _))⟩
        case measure => simp [intOf]; omega
      · have hx := okT_x hr k1
        have k1b : ((t.k : Int) == 1) = false := by simpa using k1
        have px := dx t.x.toNat (by omega)
        have tx := sizs_top HP.out (n := t.x.toNat) (by omega)
        have cx := fun o => (HF2.out o).cell (i := t.x.toNat) (by omega)
        by_cases k3 : t.k = 3
        · have e1 := Lib.hid (show sizT (sizs l) t = min 10001 (3 + (sizs l).getD t.x.toNat 0) by simp [sizT, k3])
          obtain ⟨X1, hX1⟩ : ∃ X1 : Nat, t.x = X1 := ⟨t.x.toNat, by omega⟩
          obtain ⟨k, a, x, y⟩ := t
          simp only at k1 k3 k1b q0 q1 q2 q3 e1 HE px cx hx hX1 tx
          subst k3
          subst hX1
          simp only [Int.toNat_natCast] at px cx e1 tx
          clear k1 k1b
          generalize (sizs l).getD X1 0 = D1 at *
          go_wp2_with fail
          go_roundw
          case rel => exact ⟨j + 1, by go_num, by omega, Lib.hid ((HF2.out _).set hlt (HE.out.trans e1.out)), Lib.hid (((HB2.out _).setCell (p := ⟨w.heap.size, j, none⟩) (Nat.le_refl _) _))⟩
          case measure => simp [intOf]; omega
        · have hy := okT_y hr k1 k3
          have k3b : ((t.k : Int) == 3) = false := by simpa using k3
          have py := dx t.y.toNat (by omega)
          have ty := sizs_top HP.out (n := t.y.toNat) (by omega)
          have cy := fun o => (HF2.out o).cell (i := t.y.toNat) (by omega)
          have e1 := Lib.hid (show sizT (sizs l) t = min 10001 (3 + (sizs l).getD t.x.toNat 0 + (sizs l).getD t.y.toNat 0) by simp [sizT, k1, k3])
          obtain ⟨X1, hX1⟩ : ∃ X1 : Nat, t.x = X1 := ⟨t.x.toNat, by omega⟩
          obtain ⟨Y1, hY1⟩ : ∃ Y1 : Nat, t.y = Y1 := ⟨t.y.toNat, by omega⟩
          have bx := fun o1 o2 o3 o4 => (Blk.new wr 33 #[o1, o2, o3, o4]).cell 2
          have by_ := fun o1 o2 o3 o4 => (Blk.new wr 33 #[o1, o2, o3, o4]).cell 3
          obtain ⟨k, a, x, y⟩ := t
          simp only at k1 k3 k1b k3b q0 q1 q2 q3 e1 HE px cx hx hX1 py cy hy hY1 tx ty
          subst hX1
          subst hY1
          simp only [Int.toNat_natCast] at px cx py cy e1 tx ty
          have HS := Lib.hid (And.intro (cx (.cells #[.int .i64 k, .int .i64 a, .int .i64 X1, .int .i64 Y1] 33)) (And.intro (cy (.cells #[.int .i64 k, .int .i64 a, .int .i64 X1, .int .i64 Y1] 33)) (And.intro (bx (.int .i64 k) (.int .i64 a) (.int .i64 X1) (.int .i64 Y1)) (by_ (.int .i64 k) (.int .i64 a) (.int .i64 X1) (.int .i64 Y1)))))
          clear cx cy bx by_ k1 k3
          have g1 : X1 < X + 1 := by omega
          have g2 : Y1 < X + 1 := by omega
          have g1i : (X1 : Int) < (X : Int) + 1 := by omega
          have g2i : (Y1 : Int) < (X : Int) + 1 := by omega
          have g3i : (j : Int) < (X : Int) + 1 := by omega
          generalize (sizs l).getD X1 0 = D1 at *
          generalize (sizs l).getD Y1 0 = D2 at *
          have wr1 : IntKind.i64.wrap (3 + D1) = 3 + D1 := IntWalk.i64_in _ (by omega)
          have wr2 : IntKind.i64.wrap (3 + D1 + D2) = 3 + D1 + D2 := IntWalk.i64_in _ (by omega)
          go_wp2_with fail
          refine region_fast [(0, true), (1, true), (2, true), (3, true), (4, true), (5, true), (6, true), (7, true), (8, true), (9, true), (10, true), (11, true), (12, true), (13, true), (14, true), (15, true), (16, false)] [1, 2, 3, 4, 5, 6, 7, 8, 9, 10, 11, 12, 13, 14] 32766 [(4194304, 32, 0, 0), (8388608, 64, 0, 0), (16777216, 32, 0, 0), (33554432, 128, 0, 0), (67108864, 33554432, 8, 8), (134217728, 83886080, 20, 28), (268435456, 134217728, 32, 60), (536870912, 268435456, 64, 124), (1073741824, 32, 0, 0), (2147483648, 128, 0, 0), (4294967296, 2147483648, 512, 512), (8589934592, 5368709120, 1280, 1792), (17179869184, 8589934592, 2048, 3840), (34359738368, 17716740096, 4224, 8188), (68719476736, 34359738368, 8192, 16380), (137438953472, 12582912, 32767, 32767), (0, 206158430208, 65535, 65535)] (fun W => W.cell? ⟨w.heap.size, X1, none⟩ = some (.int .i64 D1) ∧ W.cell? ⟨w.heap.size, Y1, none⟩ = some (.int .i64 D2) ∧ W.cell? ⟨wr.heap.size, 2, none⟩ = some (.int .i64 X1) ∧ W.cell? ⟨wr.heap.size, 3, none⟩ = some (.int .i64 Y1)) (by kernel_rfl) (by kernel_rfl) (by kernel_rfl) rfl (by kernel_rfl) (by kernel_rfl) HS.out (fun hS => ?_)
          repeat (first
            | (refine plan_read (v := ?_) rfl (fun _ _ _ h => h) rfl hS ?_ ?_; rotate_left 1; (focus (intro w' hS'; obtain ⟨s1, s2, s3, s4⟩ := hS'; go_simp; try rfl)); (simp only [Act.put, List.setIfInBounds_toArray]; dsimp only [List.set_cons_zero, List.set_cons_succ]))
            | (refine plan_skip rfl (fun _ _ _ h => h) rfl hS ?_; (simp only [Act.put, List.setIfInBounds_toArray]; dsimp only [List.set_cons_zero, List.set_cons_succ])))
          refine plan_do (by rfl) (by rfl) (fun K hK => ?_)
          go_simp
          refine hK.out _ _ (fun h => by cases h) (fun _ => ?_); clear hK K; try (simp only [Act.put, List.setIfInBounds_toArray]; dsimp only [List.set_cons_zero, List.set_cons_succ])
          refine plan_nil ?_
          go_wp2_with fail
          go_roundw
          case rel => exact ⟨j + 1, by go_num, by omega, Lib.hid ((HF2.out _).set hlt (HE.out.trans e1.out)), Lib.hid (((HB2.out _).setCell (p := ⟨w.heap.size, j, none⟩) (Nat.le_refl _) _).drew)⟩
          case measure => simp [intOf]; omega
    · obtain rfl : j = X + 1 := by omega
      have q := hf.out.cell (i := X) (by omega)
      obtain ⟨D, hD⟩ : ∃ D, (sizs l).getD X 0 = D := ⟨_, rfl⟩
      rw [hD] at q
      have HDD := Lib.hid hD; clear hD
      go_wp2_with fail
      go_ret
      exact ⟨ret_int HDD.out.symm, hb.out⟩
end Go.Proofs.YtcnhgojjhmjjdaaDoor
