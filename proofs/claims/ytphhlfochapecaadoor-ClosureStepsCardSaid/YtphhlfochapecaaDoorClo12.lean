/-
  A mark laid in a map; Check.
-/
import Derived.Test.YtphhlfochapecaaDoorClo11
namespace Go.Proofs.YtphhlfochapecaaDoor
set_option maxRecDepth 4000
open Go.RowKit

theorem findNow_at (n : Int) : ∀ (l : List MapEntry) (M : List (Int × Value)) (i j : Nat) (v : Value), l.map (fun e => (e.key, e.val)) = M.map (fun p => (Value.int .i64 p.1, p.2)) → Instr.findNow (.int .i64) (.int .i64 n) l i = some (some (j, v)) →
    i ≤ j ∧ ∃ e, l[j - i]? = some e ∧ e.key = .int .i64 n ∧ e.val = v := by
  intro l
  induction l with
  | nil => intro M i j v h hf; simp [Instr.findNow] at hf
  | cons e l ih =>
    intro M i j v h hf
    cases M with
    | nil => simp at h
    | cons p M =>
      simp only [List.map_cons, List.cons.injEq, Prod.mk.injEq] at h
      obtain ⟨⟨h1, h2⟩, h3⟩ := h
      simp only [Instr.findNow, h1, Instr.sameNow, if_true] at hf
      by_cases hn : n = p.1
      · subst hn
        simp only [beq_self_eq_true, Option.some.injEq, Prod.mk.injEq] at hf
        obtain ⟨rfl, rfl⟩ := hf
        exact ⟨Nat.le_refl _, e, by simp, h1, rfl⟩
      · have hb : (n == p.1) = false := by simpa using hn
        simp only [hb] at hf
        obtain ⟨h4, e', h5, h6, h7⟩ := ih M (i + 1) j v h3 hf
        refine ⟨by omega, e', ?_, h6, h7⟩
        rw [show j - i = (j - (i + 1)) + 1 by omega, List.getElem?_cons_succ]
        exact h5

theorem run_mark {w : World} {b : Nat} {S : List Int} (h : KMap w b S) (x : Int) :
    ∃ w', (Instr.mapUpdate 57 (.map (some b)) (.int .i64 x) (.bool true)).run Tryd.prog w = .ok () w' ∧ KMap w' b (S ++ [x]) ∧ Fr (· = b) w w' ∧ w'.heap.size = w.heap.size := by
  obtain ⟨D, h, hD⟩ := h
  by_cases hx : x ∈ D
  · have hlt := h.lt
    obtain ⟨es, clock, hb, hm⟩ := id h
    obtain ⟨r, hr, hr2⟩ := findNow_int x es.toList _ 0 hm
    rw [lookup_marks, if_pos hx] at hr2
    obtain ⟨⟨j, v⟩, rfl⟩ : ∃ q, r = some q := by cases r with
      | none => simp at hr2
      | some q => exact ⟨q, rfl⟩
    simp only [Option.map_some, Option.some.injEq] at hr2
    subst hr2
    obtain ⟨_, e, he, hk, hv⟩ := findNow_at x es.toList _ 0 j _ hm hr
    rw [Nat.sub_zero, Array.getElem?_toList] at he
    have hg : (getObj b).run Tryd.prog w = .ok (.map es clock) w := by simp [getObj, Sem.run, hb]
    have hs : es.modify j (fun e => { e with key := Value.int .i64 x, val := Value.bool true }) = es := by
      apply Array.ext (by simp)
      intro i h1 h2
      rw [Array.getElem_modify]
      split
      · rename_i hij
        subst hij
        rw [Array.getElem?_eq_getElem h2] at he
        injection he with he
        rw [he, ← hk, ← hv]
      · rfl
    have hsame : Instr.sameBits 10000 (Value.int .i64 x) (Value.int .i64 x) = true := by simp [Instr.sameBits]
    refine ⟨{ w with heap := w.heap.setIfInBounds b (.map es clock) }, ?_, ⟨D, ⟨es, clock, by simp [Array.getElem?_setIfInBounds, hlt], hm⟩, fun y => ?_⟩, ⟨rfl, rfl, rfl, by simp, fun i hi hne => by simp [Array.getElem?_setIfInBounds, Ne.symm hne]⟩, by simp⟩
    · simp [Instr.mapUpdate, run_underlying Tryd.underlying57, hg, run_checkKey_int Tryd.prog w _ 3 .i64 x Tryd.underlying3, Instr.findKey, run_underlying Tryd.underlying3, hr, Instr.keyThatStays, he, hk, hsame, hs, setObj, Sem.run, hb]
    · rw [List.mem_append, List.mem_singleton, ← hD]
      constructor
      · exact fun h => .inl h
      · rintro (h | rfl)
        · exact h
        · exact hx
  · obtain ⟨w', h1, h2, h3, h4⟩ := run_update_imap (P := Tryd.prog) (t := 57) Tryd.underlying57 Tryd.underlying3 h x (.bool true) (by rw [lookup_marks, if_neg hx])
    refine ⟨w', h1, ⟨D ++ [x], by simpa using h2, fun y => ?_⟩, h3, h4⟩
    rw [List.mem_append, List.mem_append, hD]

/-! ### Steps that came in -/
structure InWhys (w : World) (A : Option Addr) (st : List Wy) : Prop where
  row : Sees w 3 A st.length (wcs st)
theorem in_why {w : World} {A : Option Addr} {st : List Wy} (h : Sees w 3 A st.length (wcs st)) {k : Nat} {y : Wy} (hk : st[k]? = some y) :
    ∃ g o, A = some ⟨g, o, none⟩ ∧ w.cell? ⟨g, o + k * 3, none⟩ = some (.int .i64 y.t) ∧ w.cell? ⟨g, o + k * 3 + 1, none⟩ = some (.int .i64 y.h) ∧ w.cell? ⟨g, o + k * 3 + 2, none⟩ = some (.int .i64 y.o) := by
  have hkl := (List.getElem?_eq_some_iff.1 hk).1
  obtain ⟨g, o, e, hc⟩ := h.2 (by omega)
  have hg : ∀ j u, j < 3 → (wcells y)[j]? = some u → w.cell? ⟨g, o + k * 3 + j, none⟩ = some u := fun j u hj hu => by
    have := hc (k * 3 + j) u (by rw [wcs_get hk j hj]; exact hu)
    rwa [← Nat.add_assoc] at this
  exact ⟨g, o, e, hg 0 _ (by omega) rfl, hg 1 _ (by omega) rfl, hg 2 _ (by omega) rfl⟩
/-- All steps so far are right. -/
def RightTo (l : List Tm) (gv : List Int) (st : List Wy) (j : Nat) : Prop := ∀ (i : Nat) (y : Wy), i < j → st[i]? = some y → rightW l gv (termsW (st.take i)) y = true
def checkW (l : List Tm) (gv : List Int) (st : List Wy) : Bool := (List.range st.length).all fun i => match st[i]? with | some y => rightW l gv (termsW (st.take i)) y | none => true
theorem checkW_true {l : List Tm} {gv : List Int} {st : List Wy} (h : RightTo l gv st st.length) : checkW l gv st = true := by
  unfold checkW
  rw [List.all_eq_true]
  intro i hi
  have hi' := List.mem_range.1 hi
  rw [List.getElem?_eq_getElem hi']
  exact h i _ hi' (List.getElem?_eq_getElem hi')
theorem checkW_false {l : List Tm} {gv : List Int} {st : List Wy} {i : Nat} {y : Wy} (hy : st[i]? = some y) (h : rightW l gv (termsW (st.take i)) y = false) : checkW l gv st = false := by
  unfold checkW
  rw [List.all_eq_false]
  refine ⟨i, List.mem_range.2 (List.getElem?_eq_some_iff.1 hy).1, ?_⟩
  rw [hy]
  simp [h]
theorem checkW_iff {l : List Tm} {gv : List Int} {st : List Wy} (h : checkW l gv st = true) : RightTo l gv st st.length := by
  intro i y hi hy
  unfold checkW at h
  rw [List.all_eq_true] at h
  have := h i (List.mem_range.2 hi)
  rw [hy] at this
  exact this
theorem RightTo.there {l : List Tm} {gv : List Int} {st : List Wy} {j : Nat} (h : RightTo l gv st j) (hj : j ≤ st.length) : ∀ x ∈ termsW (st.take j), thereT l.length x = true := by
  intro x hx
  obtain ⟨y, hy, rfl⟩ := List.mem_map.1 hx
  obtain ⟨i, hi, e⟩ := List.mem_iff_getElem.1 hy
  have hij : i < j := by rw [List.length_take] at hi; omega
  rw [List.getElem_take] at e
  have hr := h i y hij (by rw [← e, List.getElem?_eq_getElem])
  cases ht : thereT l.length y.t with
  | true => rfl
  | false => rw [rightW_out ht] at hr; cases hr
theorem RightTo.next {l : List Tm} {gv : List Int} {st : List Wy} {j : Nat} (h : RightTo l gv st j) {y : Wy} (hy : st[j]? = some y) (hr : rightW l gv (termsW (st.take j)) y = true) : RightTo l gv st (j + 1) := by
  intro i z hi hz
  rcases Nat.lt_or_ge i j with h1 | h1
  · exact h i z h1 hz
  · obtain rfl : i = j := by omega
    rw [hy] at hz
    injection hz with hz
    exact hz ▸ hr
theorem termsW_snoc {st : List Wy} {j : Nat} {y : Wy} (h : st[j]? = some y) : termsW (st.take (j + 1)) = termsW (st.take j) ++ [y.t] := by
  rw [List.take_add_one, h]
  simp [termsW]

theorem in_any (A : Option Addr) (z : List Int) (c : Nat) (x : Int) (w : World) (h : Sees w 1 A z.length (i64s z)) (hl : z.length ≤ 100000) :
    Calls Tryd.prog 37 #[.slice A z.length c, .int .i64 x] w fun e w' => e = .returned (.bool (decide (x ∈ z))) ∧ w = w' := by
  have HS := Lib.hid h; clear h
  go_enter Tryd.func37, Tryd.ntmps37
  go_wp2_with fail
  go_loopw [5] (fun i wr => ∃ j : Nat, i = .int .i64 j ∧ j ≤ z.length ∧ Hid (∀ i, i < j → z[i]? ≠ some x) ∧ wr = w) (fun i _ => z.length - (intOf i).toNat)
  case atStart => exact ⟨0, rfl, Nat.zero_le _, Lib.hid (fun i hi => by omega), rfl⟩
  case round =>
    obtain ⟨j, rfl, hj, hr, rfl⟩ := hrel
    by_cases hlt : j < z.length
    · obtain ⟨g, o, rfl, q0⟩ := sees_int HS.out hlt
      have hget : z[j]? = some (z.getD j 0) := by simp [List.getD_eq_getElem?_getD, List.getElem?_eq_getElem hlt]
      generalize z.getD j 0 = y at *
      by_cases hy : y = x
      · subst hy
        have HM := Lib.hid (List.mem_of_getElem? hget); clear hget
        go_wp2_with fail
        go_ret
        exact ⟨ret_bool (by rw [decide_eq_true HM.out]), by trivial⟩
      · have hyb : ((y : Int) == x) = false := by simpa using hy
        have HR : Hid (∀ i, i < j + 1 → z[i]? ≠ some x) := Lib.hid fun i hi => by
          rcases Nat.lt_or_ge i j with h | h
          · exact hr.out i h
          · obtain rfl : i = j := by omega
            rw [hget]
            intro e
            injection e with e
            exact hy e
        clear hget hr hy
        go_wp2_with fail
        go_roundw
        case rel => exact ⟨j + 1, by go_num, by omega, HR, by trivial⟩
        case measure => simp [intOf]; omega
    · obtain rfl : j = z.length := by omega
      go_wp2_with fail
      go_ret
      refine ⟨ret_bool ?_, by trivial⟩
      symm
      rw [decide_eq_false_iff_not]
      intro hm
      obtain ⟨i, hi, e⟩ := List.mem_iff_getElem.1 hm
      exact hr.out i hi (by rw [List.getElem?_eq_getElem hi, e])
end Go.Proofs.YtphhlfochapecaaDoor
