/-
  Superblocks, as plain law: what is written reads back; which of two sectors is the newest; what a crash leaves. No program in sight.
-/
import Derived.Test.YtdkfijkggccafaaSup7
import Derived.Test.YtdkfijkggccafaaDisk6
namespace Go.Proofs.Ytdkfijkggccafaa
set_option maxRecDepth 4000
open Go.RowKit

theorem vl_foldl (l : List UInt8) : ∀ a : Nat, l.foldl (fun a c => a * 256 + c.toNat) a = a * 256 ^ l.length + vl l := by
  induction l with
  | nil => intro a; simp [vl]
  | cons c l ih =>
    intro a
    have h1 : vl (c :: l) = l.foldl (fun a c => a * 256 + c.toNat) (0 * 256 + c.toNat) := rfl
    rw [List.foldl_cons, ih, h1, ih, List.length_cons, Nat.pow_succ]
    rw [Nat.add_mul, Nat.zero_mul, Nat.zero_add, Nat.mul_assoc, Nat.mul_comm 256, Nat.add_assoc]
theorem vl_cons (c : UInt8) (l : List UInt8) : vl (c :: l) = c.toNat * 256 ^ l.length + vl l := by
  have := vl_foldl l (0 * 256 + c.toNat)
  rw [Nat.zero_mul, Nat.zero_add] at this
  rw [← this]; simp [vl]
theorem vl_be (n : Nat) : ∀ k, vl (be n k) = n % 256 ^ k
  | 0 => by simp [be, vl, Nat.mod_one]
  | k + 1 => by
    rw [be, vl_cons, length_be, vl_be n k, UInt8.toNat_ofNat', Nat.mod_eq_of_lt (show n / 256 ^ k % 256 < 2 ^ 8 by omega), Nat.pow_succ, Nat.mod_mul]
    rw [Nat.mul_comm (256 ^ k)]; omega
theorem cut {a b c : List UInt8} {i n : Nat} (h1 : a.length = i) (h2 : b.length = n) : ((a ++ (b ++ c)).drop i).take n = b := by
  rw [← h1, List.drop_left, ← h2, List.take_left]
theorem rd_spo (s : Sp) (h : s.right) : rdS (spo s) = s := by
  obtain ⟨g, b, n, m, z, rfl, h1, h2, h3, h4, h5, h6, h7, h8, h9⟩ := s.nats h
  unfold rdS
  have e : ∀ t, t = be (crc (Sp.mk g b n m z).head) 4 ++ List.replicate 92 0 → spo ⟨g, b, n, m, z⟩ = [101, 110, 103, 115] ++ (be g 8 ++ (be b 8 ++ (be n 4 ++ (be m 4 ++ (be z 4 ++ t))))) := by
    intro t ht
    subst ht
    show crcw (Sp.mk g b n m z).head ++ List.replicate 92 0 = _
    rw [crcw]
    generalize crc (Sp.mk g b n m z).head = x
    simp [Sp.head, List.append_assoc]
  rw [e _ rfl]
  generalize be (crc (Sp.mk g b n m z).head) 4 ++ List.replicate 92 0 = t
  have k1 := cut (a := [101, 110, 103, 115]) (b := be g 8) (c := be b 8 ++ (be n 4 ++ (be m 4 ++ (be z 4 ++ t)))) (i := 4) (n := 8) rfl (length_be _ _)
  have k2 := cut (a := [101, 110, 103, 115] ++ be g 8) (b := be b 8) (c := be n 4 ++ (be m 4 ++ (be z 4 ++ t))) (i := 12) (n := 8) (by simp [length_be]) (length_be _ _)
  have k3 := cut (a := [101, 110, 103, 115] ++ be g 8 ++ be b 8) (b := be n 4) (c := be m 4 ++ (be z 4 ++ t)) (i := 20) (n := 4) (by simp [length_be]) (length_be _ _)
  have k4 := cut (a := [101, 110, 103, 115] ++ be g 8 ++ be b 8 ++ be n 4) (b := be m 4) (c := be z 4 ++ t) (i := 24) (n := 4) (by simp [length_be]) (length_be _ _)
  have k5 := cut (a := [101, 110, 103, 115] ++ be g 8 ++ be b 8 ++ be n 4 ++ be m 4) (b := be z 4) (c := t) (i := 28) (n := 4) (by simp [length_be]) (length_be _ _)
  simp only [List.append_assoc] at k1 k2 k3 k4 k5
  simp only [k1, k2, k3, k4, k5]
  have w : ∀ x k : Nat, x < 256 ^ k → x ≤ 9223372036854775807 → wrap64 (vl (be x k)) = x := fun x k hx hx2 => by
    rw [vl_be, Nat.mod_eq_of_lt hx]
    exact IntWalk.wrap64_in _ (by omega)
  have p8 : (256 : Nat) ^ 8 = 18446744073709551616 := by decide
  have p4 : (256 : Nat) ^ 4 = 4294967296 := by decide
  rw [w g 8 (by omega) (by omega), w b 8 (by omega) (by omega), w n 4 (by omega) (by omega), w m 4 (by omega) (by omega), w z 4 (by omega) (by omega)]
theorem rdOk_spo (s : Sp) (h : s.right) (p : Int) : rdOk (spo s) p ↔ s.gen.tmod 2 = p := by
  unfold rdOk
  rw [rd_spo s h]
  exact ⟨fun k => k.2.2.2, fun k => ⟨spo_length s, h, rfl, k⟩⟩
theorem readS_spo (s : Sp) (h : s.right) (p : Int) (hp : s.gen.tmod 2 = p) : readS (spo s) p = s := by
  rw [readS, if_pos ((rdOk_spo s h p).2 hp), rd_spo s h]
def zer : List UInt8 := List.replicate 128 0
theorem zer_no (p : Int) : ¬ rdOk zer p := by
  intro h
  have h1 := h.2.1.1
  have e : (rdS zer).gen = 0 := by decide +kernel
  omega

theorem new_pair (X Y : List UInt8) (hX : X.length = 128) (hY : Y.length = 128) : (newOk (X ++ Y) ↔ rdOk X 0 ∨ rdOk Y 1) ∧ newS (X ++ Y) = if rdOk Y 1 ∧ (¬ rdOk X 0 ∨ (readS X 0).gen < (readS Y 1).gen) then readS Y 1 else readS X 0 := by
  have hl : (X ++ Y).length = 256 := by rw [List.length_append]; omega
  have t1 : (X ++ Y).take 128 = X := by rw [← hX, List.take_left]
  have t2 : ((X ++ Y).drop 128).take 128 = Y := by rw [← hX, List.drop_left, hX, ← hY, List.take_length]
  have hT : newT (X ++ Y) ↔ rdOk Y 1 ∧ (¬ rdOk X 0 ∨ (readS X 0).gen < (readS Y 1).gen) := by unfold newT; rw [t1, t2]
  have hO : newOk (X ++ Y) ↔ 256 ≤ (X ++ Y).length ∧ (rdOk X 0 ∨ rdOk Y 1) := by unfold newOk; rw [t1, t2]
  have hS : newS (X ++ Y) = if newT (X ++ Y) then readS Y 1 else readS X 0 := by rw [newS, if_neg (by omega), t1, t2]
  refine ⟨hO.trans ⟨fun h => h.2, fun h => ⟨by omega, h⟩⟩, ?_⟩
  rw [hS]
  by_cases h : newT (X ++ Y)
  · rw [if_pos h, if_pos (hT.1 h)]
  · rw [if_neg h, if_neg (fun k => h (hT.2 k))]

/-- A superblock in its sector of two. -/
def two (s : Sp) (X Y : List UInt8) : List UInt8 := if s.place = 0 then spo s ++ Y else X ++ spo s
theorem Sp.place01 (s : Sp) : s.place = 0 ∨ s.place = 1 := by unfold Sp.place; omega
theorem new_one (s : Sp) (h : s.right) : newOk (two s zer zer) ∧ newS (two s zer zer) = s := by
  have hp := s.place_eq h
  have hl := spo_length s
  have hz : zer.length = 128 := by decide
  rcases s.place01 with e | e
  · rw [two, if_pos e]
    obtain ⟨h1, h2⟩ := new_pair _ _ hl hz
    rw [e] at hp
    exact ⟨h1.2 (.inl ((rdOk_spo s h 0).2 hp)), by rw [h2, if_neg (fun k => zer_no 1 k.1), readS_spo s h 0 hp]⟩
  · rw [two, if_neg (by omega)]
    obtain ⟨h1, h2⟩ := new_pair _ _ hz hl
    rw [e] at hp
    exact ⟨h1.2 (.inr ((rdOk_spo s h 1).2 hp)), by rw [h2, if_pos ⟨(rdOk_spo s h 1).2 hp, .inl (zer_no 0)⟩, readS_spo s h 1 hp]⟩
/-- Two of them, each in its own sector. -/
def both (s t : Sp) : List UInt8 := if s.place = 0 then spo s ++ spo t else spo t ++ spo s
theorem new_two (s t : Sp) (h : s.right) (k : t.right) (hg : t.gen = s.gen + 1) : newOk (both s t) ∧ newS (both s t) = t := by
  have hp := s.place_eq h
  have kp := t.place_eq k
  have hl := spo_length s
  have kl := spo_length t
  have hpt : t.place = 1 - s.place := by
    have := h.1
    unfold Sp.place; rw [hg]; omega
  rcases s.place01 with e | e
  · rw [both, if_pos e]
    obtain ⟨h1, h2⟩ := new_pair _ _ hl kl
    rw [e] at hp
    rw [hpt, e] at kp
    refine ⟨h1.2 (.inl ((rdOk_spo s h 0).2 hp)), ?_⟩
    rw [h2, readS_spo s h 0 hp, readS_spo t k 1 kp, if_pos ⟨(rdOk_spo t k 1).2 kp, .inr (by omega)⟩]
  · rw [both, if_neg (by omega)]
    obtain ⟨h1, h2⟩ := new_pair _ _ kl hl
    rw [e] at hp
    rw [hpt, e] at kp
    refine ⟨h1.2 (.inr ((rdOk_spo s h 1).2 hp)), ?_⟩
    rw [h2, readS_spo s h 1 hp, readS_spo t k 0 kp, if_neg]
    rintro ⟨-, j | j⟩
    · exact j ((rdOk_spo t k 0).2 kp)
    · omega

theorem put_two (X Y l : List UInt8) (hX : X.length = 128) (hl : l.length = 128) : put (X ++ Y) (0, l) = l ++ Y := by
  simp only [put, splice, Nat.zero_mul, List.take_zero, List.nil_append, Nat.zero_add, hl]
  rw [← hX, List.drop_left]
theorem put_two1 (X Y l : List UInt8) (hX : X.length = 128) (hY : Y.length = 128) (hl : l.length = 128) : put (X ++ Y) (1, l) = X ++ l := by
  simp only [put, splice, Nat.one_mul, hl]
  rw [← hX, List.take_left, List.drop_eq_nil_of_le (by rw [List.length_append]; omega), List.append_nil]
theorem put_one (s : Sp) : put (zer ++ zer) (s.place, spo s) = two s zer zer := by
  have hz : zer.length = 128 := by decide
  rcases s.place01 with e | e
  · rw [two, if_pos e, e, put_two _ _ _ hz (spo_length s)]
  · rw [two, if_neg (by omega), e, put_two1 _ _ _ hz hz (spo_length s)]
theorem put_both (s t : Sp) (ht : t.place = 1 - s.place) : put (two s zer zer) (t.place, spo t) = both s t := by
  have hz : zer.length = 128 := by decide
  rcases s.place01 with e | e
  · rw [two, both, if_pos e, if_pos e, ht, e, put_two1 _ _ _ (spo_length s) hz (spo_length t)]
  · rw [two, both, if_neg (by omega), if_neg (by omega), ht, e, put_two _ _ _ hz (spo_length t)]
theorem put_take (x : List UInt8) (a : Nat) (l : List UInt8) (ha : a < 2) (hl : l.length = 128) : (put x (a, l)).take 256 = put (x.take 256) (a, l) := by
  unfold put
  exact take_splice _ _ _ _ (by rw [hl]; show a * 128 + 128 ≤ 256; omega)

/-! ### A fresh disk, and a superblock stored on it -/
theorem parts_one (p : Nat) (l : List UInt8) (hl : l.length = 128) : parts p l 1 = [(p, l)] := by
  show [(p + 0, sect l 0)] = _
  unfold sect
  rw [Nat.zero_mul, List.drop_zero, List.take_of_length_le (by omega), Nat.add_zero]
theorem fresh_take (n : Nat) (h : 2 ≤ n) : (List.replicate (n * 128) (0 : UInt8)).take 256 = zer ++ zer := by
  rw [List.take_replicate, show min 256 (n * 128) = 256 by omega]
  decide +kernel
def stored (n : Nat) (s : Sp) : Dk := { safe := put (List.replicate (n * 128) 0) (s.place, spo s), queue := [], calls := -1 }
theorem stored_eq (n : Nat) (s : Sp) : ((Dk.new n).push s.place (spo s) 1).flushed = stored n s := by
  unfold Dk.flushed Dk.image Dk.push Dk.new stored
  rw [parts_one _ _ (spo_length s)]
  rfl
theorem stored_length (n : Nat) (s : Sp) (h : 2 ≤ n) : (stored n s).safe.length = n * 128 := by
  have := s.place01
  show (put _ _).length = _
  rw [length_put _ _ (spo_length s) (by rw [List.length_replicate]; show (s.place + 1) * 128 ≤ _; omega), List.length_replicate]
theorem stored_ok (n : Nat) (s : Sp) (h : 2 ≤ n) (h2 : n ≤ 65536) : (stored n s).Ok := by
  have := s.place01
  rw [← stored_eq]
  refine ((Dk.ok_new (by omega) h2).push _ _ _ (by rw [spo_length]; omega) ?_).flushed
  show _ ≤ (List.replicate (n * 128) (0 : UInt8)).length
  rw [List.length_replicate]; omega
theorem stored_piece (n : Nat) (s : Sp) (h : 2 ≤ n) : (stored n s).piece 0 2 = two s zer zer := by
  have := s.place01
  show ((stored n s).safe.drop (0 * 128)).take (2 * 128) = _
  rw [Nat.zero_mul, List.drop_zero]
  show (put (List.replicate (n * 128) 0) (s.place, spo s)).take 256 = _
  rw [put_take _ _ _ (by omega) (spo_length _), fresh_take n h]
  exact put_one s

/-! ### Crashes -/
theorem crash_none (D : Dk) (hq : D.queue = []) (keep : List Int) : (crashS D keep).1 = D.safe := by
  unfold crashS
  rw [hq]
  suffices h : ∀ st, keep.foldl (crashF []) st = st by rw [h]
  induction keep with
  | nil => intro st; rfl
  | cons k keep ih =>
    intro st
    rw [List.foldl_cons, crash_skip [] st k (by rcases Int.lt_or_le k 0 with h | h; exact .inl h; exact .inr (.inl (by simpa using h)))]
    exact ih st
theorem crash_one (D : Dk) (x : Nat × List UInt8) (hq : D.queue = [x]) (keep : List Int) : (crashS D keep).1 = D.safe ∨ (crashS D keep).1 = put D.safe x := by
  unfold crashS
  rw [hq]
  have h2 : ∀ keep : List Int, keep.foldl (crashF [x]) (put D.safe x, [0]) = (put D.safe x, [0]) := by
    intro keep
    induction keep with
    | nil => rfl
    | cons k keep ih =>
      rw [List.foldl_cons, crash_skip [x] _ k]
      · exact ih
      · rcases Int.lt_trichotomy k 0 with h | h | h
        · exact .inl h
        · exact .inr (.inr (by rw [h]; simp))
        · exact .inr (.inl (by simp only [List.length_singleton]; omega))
  induction keep with
  | nil => exact .inl rfl
  | cons k keep ih =>
    rw [List.foldl_cons]
    rcases Int.lt_trichotomy k 0 with h | h | h
    · rw [crash_skip [x] _ k (.inl h)]; exact ih
    · subst h
      rw [crash_do [x] _ 0 x (Int.le_refl _) (by simp) rfl]
      right
      rw [show (([] : List Int) ++ [0]) = [0] from rfl, h2]
    · rw [crash_skip [x] _ k (.inr (.inl (by simp only [List.length_singleton]; omega)))]; exact ih
end Go.Proofs.Ytdkfijkggccafaa
