/-
  What is told is laid. No program in sight.
-/
import Derived.Test.YtldgnckchlbadaaDoorLogP
namespace Go.Proofs.YtldgnckchlbadaaDoor
set_option maxRecDepth 4000
open Go.RowKit

theorem pref_rest {l q : List UInt8} (h : pref l q = true) : ∃ r, l = q ++ r := by
  have h1 := of_decide_eq_true h
  exact ⟨l.drop q.length, by conv => lhs; rw [← List.take_append_drop q.length l, h1]⟩
theorem pzT_length {r : List UInt8} (h : ¬ pzBad r) : (pzT r).length = pzN r ∧ 1 ≤ pzN r ∧ pzN r ≤ 65535 := by
  unfold pzBad at h
  unfold pzT
  rw [List.length_take, List.length_drop]
  omega
/-- Frames ahead are told. -/
theorem pz_run (b : List UInt8) (k : Nat) (r : List UInt8) : ∀ (ts : List (List UInt8)) (s : Pz) (f : Nat), Fine ts → b.drop s.used = frs s.chain ts ++ r →
    pz b k (f + ts.length) s = pz b k f ⟨s.texts ++ ts, chn s.chain ts, s.sealed_, s.used + (frs s.chain ts).length⟩
  | [], s, f, _, _ => by simp [frs, chn]
  | t :: ts, s, f, hf, hb => by
    have ht := hf t (by simp)
    rw [frs, List.append_assoc] at hb
    obtain ⟨e1, e2, e3⟩ := pzN_frm s.chain t (frs (sha (s.chain ++ t)) ts ++ r) ht.1 ht.2
    have h1 : pref (b.drop s.used) (ft (k + s.texts.length) s.chain) = false := by rw [hb]; exact pref_ft_frm _ _ _ _ _ ht.2
    have h3 : pref (b.drop s.used) (frm s.chain (pzT (b.drop s.used))) = true := by rw [hb, e2]; exact pref_append _ _
    have h2 : ¬ pzBad (b.drop s.used) := by rw [hb]; exact e3
    rw [List.length_cons, show f + (ts.length + 1) = f + ts.length + 1 by omega, pz_on b k _ s h1 h2 h3]
    have hd : b.drop (s.used + (pzN (b.drop s.used) + 40)) = frs (sha (s.chain ++ t)) ts ++ r := by
      rw [← List.drop_drop, hb, e1, show t.length + 40 = (frm s.chain t).length from (frm_length _ _).symm, List.drop_left]
    have ih := pz_run b k r ts ⟨s.texts ++ [pzT (b.drop s.used)], sha (s.chain ++ pzT (b.drop s.used)), s.sealed_, s.used + (pzN (b.drop s.used) + 40)⟩ f (fun u hu => hf u (by simp [hu])) (by
      show b.drop (s.used + (pzN (b.drop s.used) + 40)) = _
      rw [hd, hb, e2])
    rw [ih, hb, e1, e2]
    simp only [List.append_assoc, List.singleton_append, chn, frs, List.length_append, frm_length]
    congr 2
    omega
theorem pzN_zeros (z : Nat) : pzN (zr z) = 0 := by
  unfold pzN eyeN
  split
  · exact vl_zeros z
  · rfl
theorem pref_ft_zeros (z n : Nat) (l : List UInt8) : pref (zr z) (ft n l) = false := by
  obtain ⟨r, hr⟩ := ft_front n l
  unfold pref
  refine decide_eq_false fun e => ?_
  have e4 := congrArg (fun x => x[0]?) e
  rw [hr, zr_take] at e4
  simp [be, zr, List.getElem?_replicate] at e4
theorem pz_zeros (b : List UInt8) (k : Nat) (s : Pz) (z f : Nat) (h : b.drop s.used = zr z) : pz b k (f + 1) s = s :=
  pz_stop b k f s (by rw [h]; exact pref_ft_zeros _ _ _) (by rw [h]; exact .inl (by rw [pzN_zeros]; omega))
/-- What is told, is laid. -/
theorem pz_told (b : List UInt8) (k : Nat) : ∀ (f : Nat) (s : Pz), s.sealed_ = false → s.chain.length = 32 → s.used ≤ b.length →
    ∃ ts rest, (pz b k f s).texts = s.texts ++ ts ∧ (pz b k f s).chain = chn s.chain ts ∧ Fine ts ∧
      b.drop s.used = frs s.chain ts ++ ((if (pz b k f s).sealed_ = true then ft (k + (s.texts.length + ts.length)) (chn s.chain ts) else []) ++ rest) ∧
      (pz b k f s).used = s.used + (frs s.chain ts).length + (if (pz b k f s).sealed_ = true then 48 else 0) ∧ (pz b k f s).used + rest.length = b.length
  | 0, s, hs, hc, hu => ⟨[], b.drop s.used, by simp [pz], rfl, fun t ht => by simp at ht, by simp [pz, hs, frs], by simp [pz, hs, frs], by simp [pz]; omega⟩
  | f + 1, s, hs, hc, hu => by
    by_cases h1 : pref (b.drop s.used) (ft (k + s.texts.length) s.chain) = true
    · rw [pz_seal b k f s h1]
      obtain ⟨r, hr⟩ := pref_rest h1
      have hl := congrArg List.length hr
      rw [List.length_append, List.length_drop, ft_length] at hl
      exact ⟨[], r, by simp, rfl, fun t ht => by simp at ht, by simpa [frs, chn] using hr, by simp [frs], by show s.used + 48 + _ = _; omega⟩
    · have h1' : pref (b.drop s.used) (ft (k + s.texts.length) s.chain) = false := by simpa using h1
      have stop : pz b k (f + 1) s = s → ∃ ts rest, (pz b k (f + 1) s).texts = s.texts ++ ts ∧ (pz b k (f + 1) s).chain = chn s.chain ts ∧ Fine ts ∧
          b.drop s.used = frs s.chain ts ++ ((if (pz b k (f + 1) s).sealed_ = true then ft (k + (s.texts.length + ts.length)) (chn s.chain ts) else []) ++ rest) ∧
          (pz b k (f + 1) s).used = s.used + (frs s.chain ts).length + (if (pz b k (f + 1) s).sealed_ = true then 48 else 0) ∧ (pz b k (f + 1) s).used + rest.length = b.length := fun e => by
        rw [e]
        exact ⟨[], b.drop s.used, by simp, rfl, fun t ht => by simp at ht, by simp [hs, frs], by simp [hs, frs], by simp; omega⟩
      by_cases h2 : pzBad (b.drop s.used)
      · exact stop (pz_stop b k f s h1' h2)
      · by_cases h3 : pref (b.drop s.used) (frm s.chain (pzT (b.drop s.used))) = true
        · have hon := pz_on b k f s h1' h2 h3
          obtain ⟨r, hr⟩ := pref_rest h3
          obtain ⟨l1, l2, l3⟩ := pzT_length h2
          obtain ⟨t, ht⟩ : ∃ t, t = pzT (b.drop s.used) := ⟨_, rfl⟩
          rw [← ht] at hon hr l1
          rw [← l1] at hon l2 l3
          have hl := congrArg List.length hr
          rw [List.length_append, List.length_drop, frm_length] at hl
          obtain ⟨ts, rest, a1, a2, a3, a4, a5, a6⟩ := pz_told b k f ⟨s.texts ++ [t], sha (s.chain ++ t), s.sealed_, s.used + (t.length + 40)⟩ hs (sha_length _) (by show s.used + (t.length + 40) ≤ _; omega)
          have hd : b.drop (s.used + (t.length + 40)) = r := by rw [← List.drop_drop, hr, show t.length + 40 = (frm s.chain t).length from (frm_length _ _).symm, List.drop_left]
          rw [hon]
          refine ⟨t :: ts, rest, by rw [a1]; simp, by rw [a2]; rfl, ?_, ?_, ?_, a6⟩
          · intro u hu
            rcases List.mem_cons.1 hu with rfl | hu
            · exact ⟨l2, l3⟩
            · exact a3 u hu
          · simp only [List.length_append, List.length_singleton] at a4
            rw [hd] at a4
            rw [hr, a4, frs, List.append_assoc, chn, List.length_cons, show s.texts.length + (ts.length + 1) = s.texts.length + 1 + ts.length by omega]
          · rw [a5, frs, List.length_append, frm_length]
            dsimp only
            omega
        · exact stop (pz_other b k f s h1' h2 (by simpa using h3))
/-- In bounds. -/
theorem pz_in (b : List UInt8) (k f : Nat) (c : List UInt8) (hc : c.length = 32) (hb : 128 ≤ b.length) : (pz b k f (pz0 c)).used ≤ b.length ∧ 128 ≤ (pz b k f (pz0 c)).used ∧ (pz b k f (pz0 c)).chain.length = 32 ∧ (pz b k f (pz0 c)).texts.length ≤ b.length := by
  obtain ⟨ts, rest, a1, a2, a3, a4, a5, a6⟩ := pz_told b k f (pz0 c) rfl hc hb
  have h1 := frs_many ts c
  have e : (pz0 c).used = 128 := rfl
  rw [e] at a5
  refine ⟨by omega, by omega, by rw [a2]; exact chn_length _ _ hc, ?_⟩
  rw [a1, show (pz0 c).texts = [] from rfl, List.nil_append]
  have h2 : (frs (pz0 c).chain ts).length = (frs c ts).length := rfl
  omega
end Go.Proofs.YtldgnckchlbadaaDoor
