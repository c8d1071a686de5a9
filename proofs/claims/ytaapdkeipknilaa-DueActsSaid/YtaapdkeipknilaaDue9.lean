/-
  The queue: find, Len, Next.
-/
import Derived.Test.YtaapdkeipknilaaDue8
namespace Go.Proofs.Ytaapdkeipknilaa
set_option maxRecDepth 4000
open Go.RowKit

theorem find1_any (a b : Int) (g : Nat) (x : Int) (w : World) (hc : w.cell? ⟨g, 0, none⟩ = some (.int .i64 x)) :
    Calls Try.prog 27 #[.agg #[.int .i64 a, .int .i64 b], .pointer (some ⟨g, 0, none⟩)] w fun r w' => r = .returned (.bool (decide (b = x))) ∧ Below w.heap.size w w' := by
  have hc' : (w.alloc (.cells #[.int .i64 a, .int .i64 b] 28)).cell? ⟨g, 0, none⟩ = some (.int .i64 x) := (World.cell?_of_block (a := ⟨g, 0, none⟩) (Below.heap_alloc w _ g (World.block_lt_of_cell? w _ hc))).trans hc
  go_enter Try.func27, Try.ntmps27
  go_wp2_with fail
  go_ret
  exact ⟨ret_bool (by first | rfl | (rw [Bool.eq_iff_iff]; simp)), (Below.refl _ _).alloc (Nat.le_refl _) _⟩

/-- Where a bucket's due lies. -/
def Found (l : List (Int × Int)) (x r : Int) : Prop := (r = -1 ∧ ∀ e ∈ l, e.2 ≠ x) ∨ ∃ k : Nat, r = k ∧ k < l.length ∧ (gg l k).2 = x
theorem index_find (A : Option Addr) (E : List (Int × Int)) (c : Nat) (g0 : Nat) (x : Int) (w : World) (hst : Sees w 2 A E.length (dcs E)) (hsl : E.length ≤ 100000) (hc : w.cell? ⟨g0, 0, none⟩ = some (.int .i64 x)) :
    Calls Try.prog 26 #[.slice A E.length c, .func (.func 27) #[] #[.pointer (some ⟨g0, 0, none⟩)]] w fun r w' =>
      (∃ r' : Int, r = .returned (.int .i64 r') ∧ Found E x r') ∧ Below w.heap.size w w' := by
  have H := Lib.hid (And.intro hst hc); clear hst hc
  go_enter Try.func26, Try.ntmps26
  go_wp2_with fail
  go_loopw [5, 8] (fun _ i wr => ∃ j : Nat, i = .int .i64 j ∧ j ≤ E.length ∧ Hid ((∀ i e, i < j → E[i]? = some e → ¬ (e.2 = x)) ∧ Below w.heap.size w wr)) (fun _ i _ => E.length - (intOf i).toNat)
  case atStart => exact ⟨0, rfl, Nat.zero_le _, Lib.hid ⟨fun i e hi => by omega, Below.refl _ _⟩⟩
  case round =>
    obtain ⟨j, rfl, hj, hr⟩ := hrel
    by_cases hlt : j < E.length
    · have hget : E[j]? = some (E[j]'hlt) := List.getElem?_eq_getElem hlt
      have hgg := gg_eq hlt
      generalize E[j] = e at hget hgg
      obtain ⟨g, o, rfl, q0, q1⟩ := in_due (H.out.1.below hr.out.2) hget
      have hcw : wr.cell? ⟨g0, 0, none⟩ = some (.int .i64 x) := (World.cell?_of_block (a := ⟨g0, 0, none⟩) (hr.out.2.block g0 (World.block_lt_of_cell? _ _ H.out.2))).trans H.out.2
      have HS := Lib.hid (find1_any e.1 e.2 g0 x wr hcw)
      have HG := Lib.hid (And.intro hget (And.intro hgg hlt))
      have HRR := Lib.hid hr.out
      clear hget hr hcw hgg
      by_cases he : e.2 = x
      · have HD := Lib.hid (decide_eq_true he : _ = true)
        have HE := Lib.hid he; clear he
        rw [HD.out] at HS
        have HF : Hid (Found E x j) := Lib.hid (.inr ⟨j, rfl, HG.out.2.2, by rw [HG.out.2.1]; exact HE.out⟩)
        clear HE HG HD
        obtain ⟨b0, b1⟩ := e
        go_wp2_with fail
        refine HS.out.mono ?_
        rintro e' w3 ⟨rfl, b3⟩
        go_wp2_with fail
        go_ret
        exact ⟨⟨j, rfl, HF.out⟩, HRR.out.2.trans (b3.mono HRR.out.2.size)⟩
      · have HD := Lib.hid (decide_eq_false he : _ = false)
        have HE := Lib.hid he; clear he
        rw [HD.out] at HS
        have HR3 : Hid (∀ w3, Below wr.heap.size wr w3 → (∀ i z, i < j + 1 → E[i]? = some z → ¬ (z.2 = x)) ∧ Below w.heap.size w w3) := Lib.hid fun w3 b3 => ⟨fun i z hi hz => by
          rcases Nat.lt_or_ge i j with h1 | h1
          · exact HRR.out.1 i z h1 hz
          · obtain rfl : i = j := by omega
            rw [HG.out.1] at hz
            injection hz with hz
            subst hz
            exact HE.out, HRR.out.2.trans (b3.mono HRR.out.2.size)⟩
        clear HRR HE HG HD
        obtain ⟨b0, b1⟩ := e
        go_wp2_with fail
        refine HS.out.mono ?_
        rintro e' w3 ⟨rfl, b3⟩
        have HR4 := Lib.hid (HR3.out w3 b3)
        clear b3
        go_wp2_with fail
        go_roundw
        case rel => exact ⟨j + 1, by go_num, by omega, HR4⟩
        case measure => simp [intOf]; omega
    · obtain rfl : j = E.length := by omega
      go_wp2_with fail
      go_ret
      refine ⟨⟨-1, rfl, .inl ⟨rfl, fun y hy => ?_⟩⟩, hr.out.2⟩
      obtain ⟨i, hi, e⟩ := List.mem_iff_getElem.1 hy
      exact hr.out.1 i y hi (by rw [List.getElem?_eq_getElem hi, e])

theorem find_any (q : Nat) (v : Value) (l : List (Int × Int)) (x : Int) (w : World) (h : HAt w q v l) (hl : l.length ≤ 1000) :
    Calls Try.prog 19 #[.pointer (some ⟨q, 0, none⟩), .int .i64 x] w fun e w' => (∃ r, e = .returned (.int .i64 r) ∧ Found l x r) ∧ Below w.heap.size w w' := by
  have hb := (Below.refl w.heap.size w).alloc (Nat.le_refl _) (.cells #[.int .i64 x] 3)
  have h1 := h.below hb
  obtain ⟨A, c, rfl⟩ := h.shape
  have c2 : (w.alloc (.cells #[.int .i64 x] 3)).cell? ⟨q, 0, none⟩ = some (.slice A l.length c) := h1.cell
  have HI := Lib.hid (index_find A l c w.heap.size x _ (Sees.of_own h1.row) (by omega) ((Blk.new w 3 #[.int .i64 x]).cell 0))
  have HB := Lib.hid hb
  clear h h1 hb
  go_enter Try.func19, Try.ntmps19
  go_wp2_with fail
  refine HI.out.mono ?_
  rintro e w1 ⟨⟨r, rfl, hr⟩, hb1⟩
  have HF := Lib.hid hr
  have HB1 := Lib.hid (HB.out.trans (hb1.mono HB.out.size))
  clear hr hb1 HI c2
  go_wp2_with fail
  go_ret
  exact ⟨⟨r, rfl, HF.out⟩, HB1.out⟩
theorem qlen_any (q : Nat) (v : Value) (l : List (Int × Int)) (w : World) (h : HAt w q v l) :
    Calls Try.prog 14 #[.pointer (some ⟨q, 0, none⟩)] w fun e w' => e = .returned (.int .i64 l.length) ∧ w = w' := by
  obtain ⟨A, c, rfl⟩ := h.shape
  have c2 := h.cell
  clear h
  go_enter Try.func14, Try.ntmps14
  go_wp2_with fail
  go_ret
  exact ⟨rfl, rfl⟩
/-- A due as a value. -/
def dv (d : Int × Int) : Value := .agg #[.int .i64 d.1, .int .i64 d.2]
theorem qnext_none (q : Nat) (v : Value) (w : World) (h : HAt w q v []) :
    Calls Try.prog 13 #[.pointer (some ⟨q, 0, none⟩)] w fun e w' => e = .returned (.tuple #[.agg #[.int .i64 0, .int .i64 0], .bool false]) ∧ Below w.heap.size w w' := by
  obtain ⟨A, c, rfl⟩ := h.shape
  have c2 := h.cell
  simp only [List.length_nil] at c2
  have hq := h.top.lt
  clear h
  go_enter Try.func13, Try.ntmps13
  go_wp2_with fail
  refine bodyPost_ret (by simp [results, Try.results13, go_sem]; try rfl) rfl ?_
  refine ⟨rfl, ?_⟩
  exact (Below.refl _ _).alloc (Nat.le_refl _) _
theorem qnext_some (q : Nat) (v : Value) (l : List (Int × Int)) (w : World) (h : HAt w q v l) (h0 : 0 < l.length) (hl : l.length ≤ 1000) :
    Calls Try.prog 13 #[.pointer (some ⟨q, 0, none⟩)] w fun e w' => e = .returned (.tuple #[.agg #[.int .i64 (gg l 0).1, .int .i64 (gg l 0).2], .bool true]) ∧ Below w.heap.size w w' := by
  obtain ⟨g, c, rfl⟩ := own_first h.row h0
  obtain ⟨g', o', e', x0, x1⟩ := in_due (Sees.of_own h.row) (gg_get h0)
  injection e' with e'
  injection e' with e1 e2 _
  subst e1 e2
  have c2 := h.cell
  have hq := h.top.lt
  have hg := World.block_lt_of_cell? _ _ x0
  obtain ⟨n, hn⟩ : ∃ n, l.length = n + 1 := ⟨l.length - 1, by omega⟩
  rw [hn] at c2
  have hn2 : (n : Int) ≤ 1000 := by omega
  generalize gg l 0 = d at *
  obtain ⟨a, b⟩ := d
  simp only [Nat.zero_mul, Nat.zero_add] at x0 x1
  clear h hl h0 hn
  go_enter Try.func13, Try.ntmps13
  go_wp2_with fail
  refine bodyPost_ret (by simp [results, Try.results13, go_sem]; try rfl) rfl ?_
  refine ⟨rfl, ?_⟩
  exact (Below.refl _ _).alloc (Nat.le_refl _) _
end Go.Proofs.Ytaapdkeipknilaa
