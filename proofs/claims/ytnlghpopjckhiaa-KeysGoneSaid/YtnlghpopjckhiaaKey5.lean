/-
  A key is looked for.
-/
import Derived.Test.YtnlghpopjckhiaaKey4
namespace Go.Proofs.Ytnlghpopjckhiaa
set_option maxRecDepth 4000
open Go.RowKit

def kbk : Option Ke → Int
  | none => 0
  | some e => e.buck
def kval : Option Ke → Value
  | none => .slice none 0 0
  | some e => .slice (some ⟨e.g, 0, none⟩) 32 e.cap
def keVal (e : Option Ke) : Value := .agg #[.bool e.isSome, .int .i64 (kbk e), kval e]
theorem keCells_eq (e : Option Ke) : keCells e = [.bool e.isSome, .int .i64 (kbk e), kval e] := by cases e <;> rfl
theorem kcs_get : ∀ {E : List (Option Ke)} {k : Nat} {e : Option Ke}, E[k]? = some e → ∀ j, j < 3 → (kcs E)[k * 3 + j]? = (keCells e)[j]?
  | [], k, e, h, j, hj => by simp at h
  | x :: E, 0, e, h, j, hj => by
      injection h with h; subst h
      show (keCells x ++ kcs E)[0 * 3 + j]? = _
      rw [Nat.zero_mul, Nat.zero_add, List.getElem?_append_left (by rw [keCells_length]; exact hj)]
  | x :: E, k + 1, e, h, j, hj => by
      show (keCells x ++ kcs E)[(k + 1) * 3 + j]? = _
      rw [List.getElem?_append_right (by rw [keCells_length]; omega), keCells_length, show (k + 1) * 3 + j - 3 = k * 3 + j by omega]
      exact kcs_get (by simpa using h) j hj
theorem in_ent {w : World} {A : Option Addr} {E : List (Option Ke)} (h : Sees w 3 A E.length (kcs E)) {k : Nat} {e : Option Ke} (hk : E[k]? = some e) :
    ∃ g o, A = some ⟨g, o, none⟩ ∧ w.cell? ⟨g, o + k * 3, none⟩ = some (.bool e.isSome) ∧ w.cell? ⟨g, o + k * 3 + 1, none⟩ = some (.int .i64 (kbk e)) ∧ w.cell? ⟨g, o + k * 3 + 2, none⟩ = some (kval e) := by
  have hkl := (List.getElem?_eq_some_iff.1 hk).1
  obtain ⟨g, o, e', hc⟩ := h.2 (by omega)
  have hg : ∀ j u, j < 3 → (keCells e)[j]? = some u → w.cell? ⟨g, o + k * 3 + j, none⟩ = some u := fun j u hj hu => by
    have := hc (k * 3 + j) u (by rw [kcs_get hk j hj]; exact hu)
    rwa [← Nat.add_assoc] at this
  rw [keCells_eq] at hg
  exact ⟨g, o, e', hg 0 _ (by omega) rfl, hg 1 _ (by omega) rfl, hg 2 _ (by omega) rfl⟩
theorem KAt.sees {w : World} {t b sg : Nat} {from_ : Int} {E : List (Option Ke)} {dead : Bool} {K : Nat → Prop} (h : KAt w t b sg from_ E dead K) : Sees w 3 (some ⟨sg, 0, none⟩) E.length (kcs E) :=
  ⟨kcs_length E, fun _ => ⟨sg, 0, rfl, fun j u hu => by rw [Nat.zero_add, h.row.cell, List.getElem?_toArray]; exact hu⟩⟩

theorem find1_any (e : Option Ke) (g : Nat) (x : Int) (w : World) (hc : w.cell? ⟨g, 0, none⟩ = some (.int .i64 x)) :
    Calls Try.prog 40 #[keVal e, .pointer (some ⟨g, 0, none⟩)] w fun r w' => r = .returned (.bool (decide (e.isSome = true ∧ kbk e = x))) ∧ Below w.heap.size w w' := by
  unfold keVal
  have hc' : (w.alloc (.cells #[.bool e.isSome, .int .i64 (kbk e), kval e] 68)).cell? ⟨g, 0, none⟩ = some (.int .i64 x) := (World.cell?_of_block (a := ⟨g, 0, none⟩) (Below.heap_alloc w _ g (World.block_lt_of_cell? w _ hc))).trans hc
  generalize kval e = v at *
  generalize kbk e = y at *
  generalize e.isSome = s at *
  cases s
  · go_enter Try.func40, Try.ntmps40
    go_wp2_with fail
    go_ret
    exact ⟨ret_bool (by simp), (Below.refl _ _).alloc (Nat.le_refl _) _⟩
  · go_enter Try.func40, Try.ntmps40
    go_wp2_with fail
    go_ret
    exact ⟨ret_bool (by first | rfl | (rw [Bool.eq_iff_iff]; simp)), (Below.refl _ _).alloc (Nat.le_refl _) _⟩
theorem put1_any (e : Option Ke) (w : World) :
    Calls Try.prog 27 #[keVal e] w fun r w' => r = .returned (.bool (!e.isSome)) ∧ Below w.heap.size w w' := by
  unfold keVal
  generalize kval e = v at *
  generalize kbk e = y at *
  generalize e.isSome = s at *
  go_enter Try.func27, Try.ntmps27
  go_wp2_with fail
  go_ret
  exact ⟨rfl, (Below.refl _ _).alloc (Nat.le_refl _) _⟩

theorem index_find (A : Option Addr) (E : List (Option Ke)) (c : Nat) (g0 : Nat) (x : Int) (w : World) (hst : Sees w 3 A E.length (kcs E)) (hsl : E.length ≤ 100000) (hc : w.cell? ⟨g0, 0, none⟩ = some (.int .i64 x)) :
    Calls Try.prog 26 #[.slice A E.length c, .func (.func 40) #[] #[.pointer (some ⟨g0, 0, none⟩)]] w fun r w' =>
      (∃ r' : Int, r = .returned (.int .i64 r') ∧ ((r' = -1 ∧ ∀ e ∈ E, ¬ (e.isSome = true ∧ kbk e = x)) ∨ ∃ (k : Nat) (e : Option Ke), r' = k ∧ E[k]? = some e ∧ (e.isSome = true ∧ kbk e = x))) ∧ Below w.heap.size w w' := by
  have H := Lib.hid (And.intro hst hc); clear hst hc
  go_enter Try.func26, Try.ntmps26
  go_wp2_with fail
  go_loopw [5, 8] (fun _ i wr => ∃ j : Nat, i = .int .i64 j ∧ j ≤ E.length ∧ Hid ((∀ i e, i < j → E[i]? = some e → ¬ (e.isSome = true ∧ kbk e = x)) ∧ Below w.heap.size w wr)) (fun _ i _ => E.length - (intOf i).toNat)
  case atStart => exact ⟨0, rfl, Nat.zero_le _, Lib.hid ⟨fun i e hi => by omega, Below.refl _ _⟩⟩
  case round =>
    obtain ⟨j, rfl, hj, hr⟩ := hrel
    by_cases hlt : j < E.length
    · have hget : E[j]? = some (E[j]'hlt) := List.getElem?_eq_getElem hlt
      generalize E[j] = e at hget
      obtain ⟨g, o, rfl, q0, q1, q2⟩ := in_ent (H.out.1.below hr.out.2) hget
      have hcw : wr.cell? ⟨g0, 0, none⟩ = some (.int .i64 x) := (World.cell?_of_block (a := ⟨g0, 0, none⟩) (hr.out.2.block g0 (World.block_lt_of_cell? _ _ H.out.2))).trans H.out.2
      have HS := Lib.hid (find1_any e g0 x wr hcw)
      have HG := Lib.hid hget
      have HRR := Lib.hid hr.out
      unfold keVal at HS
      clear hget hr hcw
      by_cases he : e.isSome = true ∧ kbk e = x
      · have HD := Lib.hid (decide_eq_true he : _ = true)
        have HE := Lib.hid he; clear he
        rw [HD.out] at HS
        have HF : Hid (∃ (k : Nat) (e : Option Ke), (j : Int) = k ∧ E[k]? = some e ∧ (e.isSome = true ∧ kbk e = x)) := Lib.hid ⟨j, e, rfl, HG.out, HE.out⟩
        clear HE HG HD
        generalize e.isSome = b0 at *
        generalize kbk e = b1 at *
        generalize kval e = b2 at *
        go_wp2_with fail
        refine HS.out.mono ?_
        rintro e' w3 ⟨rfl, b3⟩
        go_wp2_with fail
        go_ret
        exact ⟨⟨j, rfl, .inr HF.out⟩, HRR.out.2.trans (b3.mono HRR.out.2.size)⟩
      · have HD := Lib.hid (decide_eq_false he : _ = false)
        have HE := Lib.hid he; clear he
        rw [HD.out] at HS
        have HR3 : Hid (∀ w3, Below wr.heap.size wr w3 → (∀ i z, i < j + 1 → E[i]? = some z → ¬ (z.isSome = true ∧ kbk z = x)) ∧ Below w.heap.size w w3) := Lib.hid fun w3 b3 => ⟨fun i z hi hz => by
          rcases Nat.lt_or_ge i j with h1 | h1
          · exact HRR.out.1 i z h1 hz
          · obtain rfl : i = j := by omega
            rw [HG.out] at hz
            injection hz with hz
            subst hz
            exact HE.out, HRR.out.2.trans (b3.mono HRR.out.2.size)⟩
        clear HRR HE HG HD
        generalize e.isSome = b0 at *
        generalize kbk e = b1 at *
        generalize kval e = b2 at *
        go_wp2_with fail
        refine HS.out.mono ?_
        rintro e' w3 ⟨rfl, b3⟩
        have HR4 := Lib.hid (HR3.out w3 b3)
        clear b3
        go_wp2_with fail
        go_roundw
        case rel => exact ⟨j + 1, by go_num, by omega, HR4⟩
        case measure => simp [intOf]; omega
    · obtain rfl : j = E.length := by omega
      go_wp2_with fail
      go_ret
      refine ⟨⟨-1, rfl, .inl ⟨rfl, fun y hy => ?_⟩⟩, hr.out.2⟩
      obtain ⟨i, hi, e⟩ := List.mem_iff_getElem.1 hy
      exact hr.out.1 i y hi (by rw [List.getElem?_eq_getElem hi, e])

theorem index_free (A : Option Addr) (E : List (Option Ke)) (c : Nat) (w : World) (hst : Sees w 3 A E.length (kcs E)) (hsl : E.length ≤ 100000) :
    Calls Try.prog 26 #[.slice A E.length c, .func (.func 27) #[] #[]] w fun r w' =>
      (∃ r' : Int, r = .returned (.int .i64 r') ∧ ((r' = -1 ∧ ∀ e ∈ E, ¬ (e.isSome = false)) ∨ ∃ (k : Nat) (e : Option Ke), r' = k ∧ E[k]? = some e ∧ (e.isSome = false))) ∧ Below w.heap.size w w' := by
  have H := Lib.hid (And.intro hst trivial); clear hst
  go_enter Try.func26, Try.ntmps26
  go_wp2_with fail
  go_loopw [5, 8] (fun _ i wr => ∃ j : Nat, i = .int .i64 j ∧ j ≤ E.length ∧ Hid ((∀ i e, i < j → E[i]? = some e → ¬ (e.isSome = false)) ∧ Below w.heap.size w wr)) (fun _ i _ => E.length - (intOf i).toNat)
  case atStart => exact ⟨0, rfl, Nat.zero_le _, Lib.hid ⟨fun i e hi => by omega, Below.refl _ _⟩⟩
  case round =>
    obtain ⟨j, rfl, hj, hr⟩ := hrel
    by_cases hlt : j < E.length
    · have hget : E[j]? = some (E[j]'hlt) := List.getElem?_eq_getElem hlt
      generalize E[j] = e at hget
      obtain ⟨g, o, rfl, q0, q1, q2⟩ := in_ent (H.out.1.below hr.out.2) hget
      have HS := Lib.hid (put1_any e wr)
      have HG := Lib.hid hget
      have HRR := Lib.hid hr.out
      unfold keVal at HS
      clear hget hr
      by_cases he : e.isSome = false
      · have HD := Lib.hid (show (!e.isSome) = true by rw [he]; rfl)
        have HE := Lib.hid he; clear he
        rw [HD.out] at HS
        have HF : Hid (∃ (k : Nat) (e : Option Ke), (j : Int) = k ∧ E[k]? = some e ∧ (e.isSome = false)) := Lib.hid ⟨j, e, rfl, HG.out, HE.out⟩
        clear HE HG HD
        generalize e.isSome = b0 at *
        generalize kbk e = b1 at *
        generalize kval e = b2 at *
        go_wp2_with fail
        refine HS.out.mono ?_
        rintro e' w3 ⟨rfl, b3⟩
        go_wp2_with fail
        go_ret
        exact ⟨⟨j, rfl, .inr HF.out⟩, HRR.out.2.trans (b3.mono HRR.out.2.size)⟩
      · have HD := Lib.hid (show (!e.isSome) = false by cases h : e.isSome with | true => rfl | false => exact absurd h he)
        have HE := Lib.hid he; clear he
        rw [HD.out] at HS
        have HR3 : Hid (∀ w3, Below wr.heap.size wr w3 → (∀ i z, i < j + 1 → E[i]? = some z → ¬ (z.isSome = false)) ∧ Below w.heap.size w w3) := Lib.hid fun w3 b3 => ⟨fun i z hi hz => by
          rcases Nat.lt_or_ge i j with h1 | h1
          · exact HRR.out.1 i z h1 hz
          · obtain rfl : i = j := by omega
            rw [HG.out] at hz
            injection hz with hz
            subst hz
            exact HE.out, HRR.out.2.trans (b3.mono HRR.out.2.size)⟩
        clear HRR HE HG HD
        generalize e.isSome = b0 at *
        generalize kbk e = b1 at *
        generalize kval e = b2 at *
        go_wp2_with fail
        refine HS.out.mono ?_
        rintro e' w3 ⟨rfl, b3⟩
        have HR4 := Lib.hid (HR3.out w3 b3)
        clear b3
        go_wp2_with fail
        go_roundw
        case rel => exact ⟨j + 1, by go_num, by omega, HR4⟩
        case measure => simp [intOf]; omega
    · obtain rfl : j = E.length := by omega
      go_wp2_with fail
      go_ret
      refine ⟨⟨-1, rfl, .inl ⟨rfl, fun y hy => ?_⟩⟩, hr.out.2⟩
      obtain ⟨i, hi, e⟩ := List.mem_iff_getElem.1 hy
      exact hr.out.1 i y hi (by rw [List.getElem?_eq_getElem hi, e])
end Go.Proofs.Ytnlghpopjckhiaa
