/-
  What octets say: by the code.
-/
import Derived.Test.YtdkfijkggccafaaSup3
import Derived.Test.YtdkfijkggccafaaEye2
namespace Go.Proofs.Ytdkfijkggccafaa
set_option maxRecDepth 4000
open Go.RowKit

theorem eyeE_le (l : List UInt8) (err k : Nat) (h : err ≤ 10) : eyeE l err k ≤ 10 := by unfold eyeE; split <;> omega
theorem eyeL_le (l : List UInt8) (err k : Nat) : (eyeL l err k).length ≤ l.length := by unfold eyeL; split <;> simp

/-- The five numbers that an eye reads behind four octets. -/
def eye5 (b : List UInt8) : Sp :=
  let l1 := eyeL b 0 4; let e1 := eyeE b 0 4
  let l2 := eyeL l1 e1 8; let e2 := eyeE l1 e1 8
  let l3 := eyeL l2 e2 8; let e3 := eyeE l2 e2 8
  let l4 := eyeL l3 e3 4; let e4 := eyeE l3 e3 4
  let l5 := eyeL l4 e4 4; let e5 := eyeE l4 e4 4
  ⟨wrap64 (eyeN l1 e1 8), wrap64 (eyeN l2 e2 8), eyeN l3 e3 4, eyeN l4 e4 4, eyeN l5 e5 4⟩

theorem eye_on (l : List UInt8) (k : Nat) (h : k ≤ l.length) : eyeN l 0 k = vl (l.take k) ∧ eyeL l 0 k = l.drop k ∧ eyeE l 0 k = 0 :=
  ⟨if_pos ⟨rfl, h⟩, if_pos ⟨rfl, h⟩, if_neg (by omega)⟩
theorem vl32 (l : List UInt8) (h : l.length ≤ 4) : wrap64 (vl l) = vl l := by
  have h1 := vl_lt l
  have h2 : (256 : Nat) ^ l.length ≤ 256 ^ 4 := Nat.pow_le_pow_right (by omega) h
  have h3 : (256 : Nat) ^ 4 = 4294967296 := by decide
  rw [h3] at h2
  have h4 : vl l < 4294967296 := Nat.lt_of_lt_of_le h1 h2
  exact IntWalk.wrap64_in (vl l : Int) (by omega)
theorem eye5_long (b : List UInt8) (h : 32 ≤ b.length) : eye5 b = rdS b := by
  unfold eye5 rdS
  obtain ⟨-, a2, a3⟩ := eye_on b 4 (by omega)
  simp only [a2, a3]
  obtain ⟨c1, c2, c3⟩ := eye_on (b.drop 4) 8 (by rw [List.length_drop]; omega)
  simp only [c1, c2, c3, List.drop_drop]
  obtain ⟨d1, d2, d3⟩ := eye_on (b.drop (4 + 8)) 8 (by rw [List.length_drop]; omega)
  simp only [d1, d2, d3, List.drop_drop]
  obtain ⟨f1, f2, f3⟩ := eye_on (b.drop (4 + 8 + 8)) 4 (by rw [List.length_drop]; omega)
  simp only [f1, f2, f3, List.drop_drop]
  obtain ⟨g1, g2, g3⟩ := eye_on (b.drop (4 + 8 + 8 + 4)) 4 (by rw [List.length_drop]; omega)
  simp only [g1, g2, g3, List.drop_drop]
  obtain ⟨i1, -, -⟩ := eye_on (b.drop (4 + 8 + 8 + 4 + 4)) 4 (by rw [List.length_drop]; omega)
  simp only [i1]
  rw [vl32 ((b.drop 20).take 4) (by rw [List.length_take]; omega), vl32 ((b.drop 24).take 4) (by rw [List.length_take]; omega), vl32 ((b.drop 28).take 4) (by rw [List.length_take]; omega)]
theorem eyeE_off (l : List UInt8) (e k : Nat) (h : e ≠ 0) : eyeE l e k = e := if_neg (by omega)
theorem eyeL_off (l : List UInt8) (e k : Nat) (h : e ≠ 0) : eyeL l e k = l := if_neg (by omega)
theorem eyeN_off (l : List UInt8) (e k : Nat) (h : e ≠ 0) : eyeN l e k = 0 := if_neg (by omega)
theorem eye_step {m : Nat} (l : List UInt8) (e k : Nat) (h : e ≠ 0 ∨ l.length < k + m) : eyeE l e k ≠ 0 ∨ (eyeL l e k).length < m := by
  by_cases he : e = 0
  · subst he
    by_cases hk : k ≤ l.length
    · right; rw [(eye_on l k hk).2.1, List.length_drop]; omega
    · left; unfold eyeE; rw [if_pos ⟨rfl, by omega⟩]; omega
  · left; rw [eyeE_off l e k he]; exact he
theorem eye5_short (b : List UInt8) (h : b.length < 32) : (eye5 b).size = 0 := by
  have h1 := eye_step (m := 28) b 0 4 (.inr (by omega))
  have h2 := eye_step (m := 20) _ _ 8 h1
  have h3 := eye_step (m := 12) _ _ 8 h2
  have h4 := eye_step (m := 8) _ _ 4 h3
  have h5 := eye_step (m := 4) _ _ 4 h4
  unfold eye5
  simp only
  rw [show ∀ l e, (e ≠ 0 ∨ l.length < 4) → eyeN l e 4 = 0 from fun l e h => if_neg (by omega)]
  · rfl
  · exact h5
theorem eye5_ok (b : List UInt8) (place : Int) : rdOk b place ↔ (eye5 b).right ∧ spo (eye5 b) = b ∧ (eye5 b).gen.tmod 2 = place := by
  constructor
  · rintro ⟨h1, h2⟩
    rw [eye5_long b (by omega)]
    exact h2
  · rintro ⟨h1, h2, h3⟩
    have h128 : b.length = 128 := by rw [← h2]; exact spo_length _
    rw [eye5_long b (by omega)] at h1 h2 h3
    exact ⟨h128, h1, h2, h3⟩
theorem eye5_read (b : List UInt8) (place : Int) : readS b place = if rdOk b place then eye5 b else sp0 := by
  unfold readS
  split
  · rename_i h; rw [eye5_long b (by have := h.1; omega)]
  · rfl
end Go.Proofs.Ytdkfijkggccafaa
