/-
  Slots on a disk that has nothing else, as plain law.
-/
import Derived.Test.YtnlghpopjckhiaaKey13
namespace Go.Proofs.Ytnlghpopjckhiaa
set_option maxRecDepth 4000
open Go.RowKit

theorem put_left (A B : List UInt8) (a : Nat) (l : List UInt8) (ha : (a + 1) * 128 ≤ A.length) (hl : l.length = 128) : put (A ++ B) (a, l) = put A (a, l) ++ B := by
  unfold put splice
  simp only
  rw [List.take_append_of_le_length (by omega), List.drop_append_of_le_length (by omega)]
  simp only [List.append_assoc]
theorem put_right (A B : List UInt8) (a n : Nat) (l : List UInt8) (hA : A.length = n * 128) (ha : n ≤ a) (hl : l.length = 128) : put (A ++ B) (a, l) = A ++ put B (a - n, l) := by
  unfold put splice
  simp only
  have e : a * 128 = A.length + (a - n) * 128 := by omega
  have e2 : a * 128 + l.length = A.length + ((a - n) * 128 + l.length) := by omega
  rw [e2, e, List.take_length_add_append, List.drop_length_add_append]
  simp only [List.append_assoc]
theorem put_first (s : Sl) (hs : SlOk s) (q : Option (Nat × List UInt8)) (hq : (enc q).length = 128) : put (slo s) (0, enc q) = slo (q, s.2) := by
  have := enc_length s.1 hs.1
  unfold slo put splice
  simp only [Nat.zero_mul, List.take_zero, List.nil_append, Nat.zero_add]
  rw [List.drop_left' (by omega)]
theorem put_second (s : Sl) (hs : SlOk s) (Z : List UInt8) (hZ : Z.length = 128) : put (slo s) (1, Z) = slo (s.1, Z) := by
  have h1 := enc_length s.1 hs.1
  have h2 := hs.2
  unfold slo put splice
  simp only [Nat.one_mul]
  rw [List.take_left' h1, List.drop_eq_nil_of_le (by rw [List.length_append]; omega), List.append_nil]
theorem slos_put : ∀ {P : List Sl} {k : Nat} {s : Sl} (i : Nat) (l : List UInt8) (s' : Sl), (∀ s ∈ P, SlOk s) → P[k]? = some s → i < 2 → l.length = 128 → put (slo s) (i, l) = slo s' → put (slos P) (2 * k + i, l) = slos (P.set k s')
  | [], k, s, _, _, _, _, h, _, _, _ => by simp at h
  | x :: P, 0, s, i, l, s', hP, h, hi, hl, he => by
    injection h with h; subst h
    show put (slo x ++ slos P) (2 * 0 + i, l) = slo s' ++ slos P
    rw [put_left _ _ _ _ (by rw [slo_length (hP x (by simp))]; omega) hl, ← he, Nat.mul_zero, Nat.zero_add]
  | x :: P, k + 1, s, i, l, s', hP, h, hi, hl, he => by
    show put (slo x ++ slos P) (2 * (k + 1) + i, l) = slo x ++ slos (P.set k s')
    rw [put_right _ _ _ 2 _ (slo_length (hP x (by simp))) (by omega) hl, show 2 * (k + 1) + i - 2 = 2 * k + i by omega, slos_put i l s' (fun s hs => hP s (List.mem_cons_of_mem _ hs)) (by simpa using h) hi hl he]

abbrev Kd := Option (Nat × List UInt8)
def KdOk (q : Kd) : Prop := ∀ p, q = some p → KOk p
/-- Both copies alike. -/
def cl (Q : List Kd) : List Sl := Q.map fun q => (q, enc q)
theorem cl_ok {Q : List Kd} (h : ∀ q ∈ Q, KdOk q) : ∀ s ∈ cl Q, SlOk s := by
  intro s hs
  obtain ⟨q, hq, rfl⟩ := List.mem_map.1 hs
  exact ⟨h q hq, enc_length q (h q hq)⟩
theorem cl_set (Q : List Kd) (k : Nat) (q : Kd) : (cl Q).set k (q, enc q) = cl (Q.set k q) := by
  unfold cl
  rw [List.map_set]
theorem cl_get {Q : List Kd} {k : Nat} {o : Kd} (h : Q[k]? = some o) : (cl Q)[k]? = some (o, enc o) := by
  unfold cl
  rw [List.getElem?_map, h]; rfl
theorem cl_length (Q : List Kd) : (cl Q).length = Q.length := by simp [cl]
theorem cl_put1 {Q : List Kd} {k : Nat} {o : Kd} (hQ : ∀ q ∈ Q, KdOk q) (h : Q[k]? = some o) (q : Kd) (hq : KdOk q) : put (slos (cl Q)) (2 * k, enc q) = slos ((cl Q).set k (q, enc o)) :=
  slos_put 0 (enc q) (q, enc o) (cl_ok hQ) (cl_get h) (by omega) (enc_length q hq) (put_first (o, enc o) (cl_ok hQ _ (List.mem_of_getElem? (cl_get h))) q (enc_length q hq))
theorem cl_put2 {Q : List Kd} {k : Nat} {o : Kd} (hQ : ∀ q ∈ Q, KdOk q) (h : Q[k]? = some o) (q : Kd) (hq : KdOk q) : put (slos ((cl Q).set k (q, enc o))) (2 * k + 1, enc q) = slos (cl (Q.set k q)) := by
  have hk := (List.getElem?_eq_some_iff.1 h).1
  have hso : SlOk (q, enc o) := ⟨hq, enc_length o (hQ o (List.mem_of_getElem? h))⟩
  rw [slos_put 1 (enc q) (q, enc q) (fun s hs => by
      rcases List.mem_or_eq_of_mem_set hs with hs | rfl
      · exact cl_ok hQ s hs
      · exact hso) (show ((cl Q).set k (q, enc o))[k]? = some (q, enc o) by rw [List.getElem?_set, if_pos rfl, if_pos (by rw [cl_length]; exact hk)]) (by omega) (enc_length q hq) (put_second (q, enc o) hso (enc q) (enc_length q hq)), List.set_set, cl_set]
theorem zer_slo : slo (none, zer) = List.replicate 256 0 := by decide +kernel
theorem slos_fresh : ∀ n, slos (cl (List.replicate n none)) = List.replicate (n * 256) 0
  | 0 => rfl
  | n + 1 => by
    show slo (none, zer) ++ slos (cl (List.replicate n none)) = _
    rw [slos_fresh n, zer_slo, List.replicate_append_replicate]
    congr 1
    omega

/-- A disk of slots: power, and nothing waits. -/
def dk (P : List Sl) (c : Int) : Dk := { safe := slos P, queue := [], calls := c }
theorem dk_ok {P : List Sl} {c : Int} (hP : ∀ s ∈ P, SlOk s) (h1 : 1 ≤ P.length) (h2 : P.length ≤ 64) (h3 : -1 ≤ c) (h4 : c ≤ 100) : (dk P c).Ok := by
  have hl : (dk P c).safe.length = P.length * 256 := slos_length hP
  refine ⟨by rw [hl]; exact ⟨P.length * 2, by omega⟩, by rw [hl]; omega, by rw [hl]; omega, (fun q hq => by cases hq), ?_, ?_⟩
  · show -9223372036854775808 ≤ c; omega
  · show c ≤ 9223372036854775807; omega
theorem dk_new (n : Nat) : Dk.new (2 * n) = dk (cl (List.replicate n none)) (-1) := by
  unfold Dk.new dk
  rw [slos_fresh, show 2 * n * 128 = n * 256 by omega]
theorem parts_one (p : Nat) (l : List UInt8) (hl : l.length = 128) : parts p l 1 = [(p, l)] := by
  show [(p + 0, sect l 0)] = _
  unfold sect
  rw [Nat.zero_mul, List.drop_zero, List.take_of_length_le (by omega), Nat.add_zero]
theorem lay_dk (P P' : List Sl) (c : Int) (a : Nat) (l : List UInt8) (h0 : c ≠ 0) (h1 : c ≠ 1) (hl : l.length = 128) (hp : put (slos P) (a, l) = slos P') : (dk P c).lay a l = dk P' (nextCalls (nextCalls c)) := by
  unfold Dk.lay
  rw [if_neg (show (dk P c).calls ≠ 0 from h0), if_neg (show (dk P c).calls ≠ 1 from h1)]
  unfold Dk.flushed Dk.image Dk.push dk
  simp only [parts_one _ _ hl, List.nil_append]
  rw [← hp]
  rfl
theorem lay_dk1 (P : List Sl) (a : Nat) (l : List UInt8) (hl : l.length = 128) : (dk P 1).lay a l = { safe := slos P, queue := [(a, l)], calls := 0 } := by
  unfold Dk.lay
  rw [if_neg (show ¬ (dk P 1).calls = 0 from (by decide : ¬ (1 : Int) = 0)), if_pos (show (dk P 1).calls = 1 from rfl)]
  unfold Dk.push dk
  simp only [parts_one _ _ hl, List.nil_append]
  rfl
theorem lay_dk0 (P : List Sl) (a : Nat) (l : List UInt8) : (dk P 0).lay a l = dk P 0 := if_pos rfl

/-- Both copies are laid, and there is power. -/
theorem two_on {Q : List Kd} {k : Nat} {o : Kd} (hQ : ∀ q ∈ Q, KdOk q) (h : Q[k]? = some o) (q : Kd) (hq : KdOk q) (c : Int) (hc : c = -1 ∨ c = 4) :
    (dk (cl Q) c).two (0 + 2 * k) (enc q) = dk (cl (Q.set k q)) (if c = 4 then 0 else -1) ∧ (dk (cl Q) c).twoOk (0 + 2 * k) (enc q) = true := by
  have hl := enc_length q hq
  have h1 : (dk (cl Q) c).layOk = true := decide_eq_true (show c ≠ 0 ∧ c ≠ 1 by omega)
  have e1 := lay_dk (cl Q) _ c (2 * k) (enc q) (by omega) (by omega) hl (cl_put1 hQ h q hq)
  have hn : nextCalls (nextCalls c) = if c = 4 then 2 else -1 := by rcases hc with rfl | rfl <;> rfl
  have h2 : (dk ((cl Q).set k (q, enc o)) (nextCalls (nextCalls c))).layOk = true := decide_eq_true (show nextCalls (nextCalls c) ≠ 0 ∧ nextCalls (nextCalls c) ≠ 1 by rw [hn]; split <;> decide)
  have e2 := lay_dk ((cl Q).set k (q, enc o)) _ (nextCalls (nextCalls c)) (2 * k + 1) (enc q) (by rw [hn]; split <;> decide) (by rw [hn]; split <;> decide) hl (cl_put2 hQ h q hq)
  unfold Dk.two Dk.twoOk
  rw [Nat.zero_add, e1, h1, h2, if_pos rfl, e2]
  refine ⟨?_, rfl⟩
  rw [hn]
  rcases hc with rfl | rfl <;> rfl
theorem crash_none (D : Dk) (hq : D.queue = []) (keep : List Int) : (crashS D keep).1 = D.safe := by
  unfold crashS
  rw [hq]
  suffices h : ∀ st, keep.foldl (crashF []) st = st by rw [h]
  induction keep with
  | nil => intro st; rfl
  | cons k keep ih =>
    intro st
    rw [List.foldl_cons, crash_skip [] st k (by rcases Int.lt_or_le k 0 with h | h; exact .inl h; exact .inr (.inl (by simpa using h)))]
    exact ih st
theorem crash_one (D : Dk) (x : Nat × List UInt8) (hq : D.queue = [x]) (keep : List Int) : (crashS D keep).1 = D.safe ∨ (crashS D keep).1 = put D.safe x := by
  unfold crashS
  rw [hq]
  have h2 : ∀ keep : List Int, keep.foldl (crashF [x]) (put D.safe x, [0]) = (put D.safe x, [0]) := by
    intro keep
    induction keep with
    | nil => rfl
    | cons k keep ih =>
      rw [List.foldl_cons, crash_skip [x] _ k]
      · exact ih
      · rcases Int.lt_trichotomy k 0 with h | h | h
        · exact .inl h
        · exact .inr (.inr (by rw [h]; simp))
        · exact .inr (.inl (by simp only [List.length_singleton]; omega))
  induction keep with
  | nil => exact .inl rfl
  | cons k keep ih =>
    rw [List.foldl_cons]
    by_cases h0 : k = 0
    · subst h0
      rw [crash_do [x] _ 0 x (by omega) (by simp) rfl]
      right
      show (keep.foldl (crashF [x]) (put D.safe x, [0])).1 = _
      rw [h2]
    · rw [crash_skip [x] _ k (by rcases Int.lt_trichotomy k 0 with h | h | h; exact .inl h; exact absurd h h0; exact .inr (.inl (by simp only [List.length_singleton]; omega)))]
      exact ih
theorem crashed_dk {D : Dk} {P : List Sl} {keep : List Int} (h : (crashS D keep).1 = slos P) : D.crashed keep = dk P (-1) := by
  unfold Dk.crashed dk
  rw [h]
/-- The power may be off in between; then a crash. -/
theorem two_off {Q : List Kd} {k : Nat} {o : Kd} (hQ : ∀ q ∈ Q, KdOk q) (h : Q[k]? = some o) (q : Kd) (hq : KdOk q) (c : Nat) (hc : c ≤ 4) (keep : List Int) :
    (∃ P, ((dk (cl Q) c).two (0 + 2 * k) (enc q)).crashed keep = dk P (-1) ∧ (P = cl Q ∨ P = (cl Q).set k (q, enc o) ∨ P = cl (Q.set k q)) ∧ ((dk (cl Q) c).twoOk (0 + 2 * k) (enc q) = true → P = cl (Q.set k q))) := by
  have hl := enc_length q hq
  have hp1 := cl_put1 hQ h q hq
  have hp2 := cl_put2 hQ h q hq
  by_cases h0 : c = 0
  · subst h0
    have e1 : (dk (cl Q) ((0 : Nat) : Int)).layOk = false := decide_eq_false (show ¬ ((0 : Int) ≠ 0 ∧ (0 : Int) ≠ 1) by decide)
    refine ⟨cl Q, crashed_dk ?_, .inl rfl, fun hk => ?_⟩
    · unfold Dk.two
      rw [e1, if_neg (by decide), show ((0 : Nat) : Int) = 0 from rfl, lay_dk0 _ _ _]
      exact crash_none _ rfl keep
    · unfold Dk.twoOk at hk
      rw [e1] at hk
      cases hk
  · by_cases h1 : c = 1
    · subst h1
      have e1 : (dk (cl Q) ((1 : Nat) : Int)).layOk = false := decide_eq_false (show ¬ ((1 : Int) ≠ 0 ∧ (1 : Int) ≠ 1) by decide)
      have e2 : (dk (cl Q) ((1 : Nat) : Int)).two (0 + 2 * k) (enc q) = { safe := slos (cl Q), queue := [(2 * k, enc q)], calls := 0 } := by
        unfold Dk.two
        rw [e1, if_neg (by decide), Nat.zero_add]
        exact lay_dk1 _ _ _ hl
      rw [e2]
      rcases crash_one _ _ (show ({ safe := slos (cl Q), queue := [(2 * k, enc q)], calls := 0 } : Dk).queue = [(2 * k, enc q)] from rfl) keep with e | e
      · refine ⟨cl Q, crashed_dk e, .inl rfl, fun hk => ?_⟩
        unfold Dk.twoOk at hk
        rw [e1] at hk
        cases hk
      · refine ⟨_, crashed_dk (e.trans hp1), .inr (.inl rfl), fun hk => ?_⟩
        unfold Dk.twoOk at hk
        rw [e1] at hk
        cases hk
    · have h1' : (dk (cl Q) (c : Int)).layOk = true := decide_eq_true (show (c : Int) ≠ 0 ∧ (c : Int) ≠ 1 by omega)
      have e1 := lay_dk (cl Q) _ (c : Int) (2 * k) (enc q) (by omega) (by omega) hl hp1
      have hn : nextCalls (nextCalls (c : Int)) = ((c - 2 : Nat) : Int) := by unfold nextCalls; rw [if_pos (by omega)]; rw [if_pos (by omega)]; omega
      rw [hn] at e1
      have et : (dk (cl Q) (c : Int)).two (0 + 2 * k) (enc q) = (dk ((cl Q).set k (q, enc o)) ((c - 2 : Nat) : Int)).lay (2 * k + 1) (enc q) := by
        unfold Dk.two
        rw [Nat.zero_add, h1', if_pos rfl, e1]
      have ek : (dk (cl Q) (c : Int)).twoOk (0 + 2 * k) (enc q) = (dk ((cl Q).set k (q, enc o)) ((c - 2 : Nat) : Int)).layOk := by
        unfold Dk.twoOk
        rw [Nat.zero_add, h1', e1, Bool.true_and]
      rw [et, ek]
      by_cases h2 : c = 2
      · subst h2
        refine ⟨_, crashed_dk (P := (cl Q).set k (q, enc o)) ?_, .inr (.inl rfl), fun hk => ?_⟩
        · rw [show ((2 - 2 : Nat) : Int) = 0 from rfl, lay_dk0]
          exact crash_none _ rfl keep
        · exact absurd hk (by simp [Dk.layOk, dk])
      · by_cases h3 : c = 3
        · subst h3
          rw [show ((3 - 2 : Nat) : Int) = 1 from rfl, lay_dk1 _ _ _ hl]
          rcases crash_one _ _ (show ({ safe := slos ((cl Q).set k (q, enc o)), queue := [(2 * k + 1, enc q)], calls := 0 } : Dk).queue = [(2 * k + 1, enc q)] from rfl) keep with e | e
          · exact ⟨_, crashed_dk e, .inr (.inl rfl), fun hk => absurd hk (by simp [Dk.layOk, dk])⟩
          · exact ⟨_, crashed_dk (e.trans hp2), .inr (.inr rfl), fun hk => absurd hk (by simp [Dk.layOk, dk])⟩
        · have h4 : c = 4 := by omega
          subst h4
          rw [show ((4 - 2 : Nat) : Int) = 2 from rfl, lay_dk _ _ 2 (2 * k + 1) (enc q) (by decide) (by decide) hl hp2]
          exact ⟨_, crashed_dk (crash_none _ rfl keep), .inr (.inr rfl), fun _ => rfl⟩
end Go.Proofs.Ytnlghpopjckhiaa
