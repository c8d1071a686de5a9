/-
  The document's list: Find.
-/
import Derived.Test.YtphhlfochapecaaDoorTerm3
namespace Go.Proofs.YtphhlfochapecaaDoor
set_option maxRecDepth 4000
open Go.RowKit

abbrev LIs (w : World) (base : Nat) (v : Value) (l : List Tm) : Prop := w.ownsRow base 45 4 v l.length (tcs l)

theorem tcs_cells {w : World} {base n c : Nat} {e : TypeId} {A : Option Addr} {l : List Tm} (h : w.ownsRow base e 4 (.slice A n c) n (tcs l)) {k : Nat} {t : Tm} (hk : l[k]? = some t) :
    ∃ g, A = some ⟨g, 0, none⟩ ∧ w.cell? ⟨g, k * 4, none⟩ = some (.int .i64 t.k) ∧ w.cell? ⟨g, k * 4 + 1, none⟩ = some (.int .i64 t.a) ∧ w.cell? ⟨g, k * 4 + 2, none⟩ = some (.int .i64 t.x) ∧ w.cell? ⟨g, k * 4 + 3, none⟩ = some (.int .i64 t.y) := own_tm h hk

theorem numT_pos {l : List Tm} {t : Tm} {k : Nat} (h : l[k]? = some t) (hn : ∀ j, j < k → l[j]? ≠ some t) : numT l t = k := by
  unfold numT
  have hm := List.mem_of_getElem? h
  rw [if_pos hm]
  congr 1
  have hk := (List.getElem?_eq_some_iff.1 h).1
  apply Nat.le_antisymm
  · rcases Nat.lt_or_ge k (l.idxOf t) with hlt | hge
    · exact absurd (List.getElem?_eq_some_iff.1 h).2 (by have := List.not_of_lt_findIdx (p := (· == t)) hlt; simpa using this)
    · exact hge
  · rcases Nat.lt_or_ge (l.idxOf t) k with hlt | hge
    · exact absurd (by rw [List.getElem?_eq_getElem (List.idxOf_lt_length_iff.2 hm), List.getElem_idxOf]) (hn _ hlt)
    · exact hge

theorem eq_ifs {k' k a' a x' x y' y : Int} {D : Bool} (hD : D = decide ((⟨k', a', x', y'⟩ : Tm) = ⟨k, a, x, y⟩)) (w : World) : (if k' = k then (if a' = a then (if x' = x then (if y' = y then Result.ok (Next.value (Value.bool true)) w else Result.ok (Next.value (Value.bool false)) w) else Result.ok (Next.value (Value.bool false)) w) else Result.ok (Next.value (Value.bool false)) w) else Result.ok (Next.value (Value.bool false)) w : Result Next) =
    Result.ok (Next.value (Value.bool D)) w := by
  subst hD
  by_cases h1 : k' = k <;> by_cases h2 : a' = a <;> by_cases h3 : x' = x <;> by_cases h4 : y' = y <;> simp [h1, h2, h3, h4]
theorem rfind_any (v : Value) (t : Tm) (l : List Tm) (base : Nat) (w : World) (h : LIs w base v l) (hll : l.length ≤ 4096) :
    Calls Tryd.prog 30 #[v, tval t] w fun e w' => e = .returned (.int .i64 (numT l t)) ∧ Below w.heap.size w w' := by
  obtain ⟨A, c, rfl⟩ := own_shape h
  have hB : ∀ o, Below w.heap.size w (w.alloc o) := fun o => (Below.refl _ _).alloc (Nat.le_refl _) o
  obtain ⟨k, a, x, y⟩ := t
  have hbox := Blk.new w 45 #[.int .i64 k, .int .i64 a, .int .i64 x, .int .i64 y]
  have HB := Lib.hid (hB (.cells #[.int .i64 k, .int .i64 a, .int .i64 x, .int .i64 y] 45)); clear hB
  have HL := Lib.hid h
  have HX := Lib.hid hbox; clear hbox h
  unfold tval
  go_enter Tryd.func30, Tryd.ntmps30
  go_wp2_with fail
  go_loopw [5] (fun i wr => ∃ j : Nat, i = .int .i64 j ∧ j ≤ l.length ∧ Hid (∀ i, i < j → l[i]? ≠ some ⟨k, a, x, y⟩) ∧ Hid (Below w.heap.size w wr) ∧ Hid (Blk wr w.heap.size 45 #[.int .i64 k, .int .i64 a, .int .i64 x, .int .i64 y])) (fun i _ => l.length - (intOf i).toNat)
  case atStart => exact ⟨0, rfl, by omega, Lib.hid (fun i hi => by omega), HB, HX⟩
  case round =>
    obtain ⟨j, rfl, hj, hn, hb, hx⟩ := hrel
    by_cases hlt : j < l.length
    · have hget : l[j]? = some l[j] := List.getElem?_eq_getElem hlt
      generalize l[j] = u at hget
      obtain ⟨g, rfl, q0, q1, q2, q3⟩ := own_tm (own_below HL.out hb.out) hget
      have b0 := hx.out.cell 0
      have b1 := hx.out.cell 1
      have b2 := hx.out.cell 2
      have b3 := hx.out.cell 3
      simp only [List.getElem?_toArray, List.getElem?_cons_zero, List.getElem?_cons_succ] at b0 b1 b2 b3
      have HG := Lib.hid hget; clear hget
      have HS := Lib.hid (And.intro q0 (And.intro q1 (And.intro q2 (And.intro q3 (And.intro b0 (And.intro b1 (And.intro b2 b3)))))))
      clear q0 q1 q2 q3 b0 b1 b2 b3
      obtain ⟨k', a', x', y'⟩ := u
      go_wp2_with fail
      refine region_fast [(0, true), (1, true), (2, true), (3, true), (4, true), (5, true)] [1, 4] 18 [(4096, 1, 0, 0), (8192, 32, 0, 0), (16384, 12288, 3, 3), (32768, 16384, 4, 7), (65536, 8, 0, 0), (131072, 98304, 24, 31)] (fun W => W.cell? ⟨g, j * 4, none⟩ = some (.int .i64 k') ∧ W.cell? ⟨g, j * 4 + 1, none⟩ = some (.int .i64 a') ∧ W.cell? ⟨g, j * 4 + 2, none⟩ = some (.int .i64 x') ∧ W.cell? ⟨g, j * 4 + 3, none⟩ = some (.int .i64 y') ∧ W.cell? ⟨w.heap.size, 0, none⟩ = some (.int .i64 k) ∧ W.cell? ⟨w.heap.size, 1, none⟩ = some (.int .i64 a) ∧ W.cell? ⟨w.heap.size, 2, none⟩ = some (.int .i64 x) ∧ W.cell? ⟨w.heap.size, 3, none⟩ = some (.int .i64 y)) (by kernel_rfl) (by kernel_rfl) (by kernel_rfl) rfl (by kernel_rfl) (by kernel_rfl) HS.out (fun hS => ?_)
      repeat (first
        | (refine plan_read (v := ?_) rfl (fun _ _ _ h => h) rfl hS ?_ ?_; rotate_left 1; (focus (intro w' hS'; obtain ⟨s1, s2, s3, s4, s5, s6, s7, s8⟩ := hS'; go_simp; try rfl)); (simp only [Act.put, List.setIfInBounds_toArray]; dsimp only [List.set_cons_zero, List.set_cons_succ]))
        | (refine plan_skip rfl (fun _ _ _ h => h) rfl hS ?_; (simp only [Act.put, List.setIfInBounds_toArray]; dsimp only [List.set_cons_zero, List.set_cons_succ])))
      obtain ⟨D, hD⟩ : ∃ D, D = decide ((⟨k', a', x', y'⟩ : Tm) = ⟨k, a, x, y⟩) := ⟨_, rfl⟩
      have HD := Lib.hid hD; clear hD
      refine plan_read (v := .bool D) rfl (fun _ _ _ h => h) rfl hS ?_ ?_
      · intro w' hS'
        go_simp
        exact eq_ifs HD.out _
      simp only [Act.put, List.setIfInBounds_toArray]; dsimp only [List.set_cons_zero, List.set_cons_succ]
      refine plan_nil ?_
      clear hS HS
      by_cases he : (⟨k', a', x', y'⟩ : Tm) = ⟨k, a, x, y⟩
      · obtain rfl : D = true := by rw [HD.out, decide_eq_true he]
        have HQ := Lib.hid he; clear he
        go_wp2_with fail
        go_ret
        exact ⟨ret_int (numT_pos (by rw [HG.out, HQ.out]) hn.out).symm, hb.out.drew⟩
      · obtain rfl : D = false := by rw [HD.out, decide_eq_false he]
        have HQ := Lib.hid he; clear he
        go_wp2_with fail
        go_roundw
        case rel =>
          refine ⟨j + 1, by go_num, by omega, Lib.hid (fun i hi => ?_), Lib.hid hb.out.drew, Lib.hid hx.out.drew⟩
          rcases Nat.lt_or_ge i j with h1 | h1
          · exact hn.out i h1
          · obtain rfl : i = j := by omega
            rw [HG.out]
            simpa using HQ.out
        case measure => simp [intOf]; omega
    · obtain rfl : j = l.length := by omega
      go_wp2_with fail
      go_ret
      refine ⟨ret_int ?_, hb.out⟩
      unfold numT
      rw [if_neg]
      intro hm
      obtain ⟨i, hi, he⟩ := List.mem_iff_getElem.1 hm
      exact hn.out i hi (by rw [List.getElem?_eq_getElem hi, he])
end Go.Proofs.YtphhlfochapecaaDoor
