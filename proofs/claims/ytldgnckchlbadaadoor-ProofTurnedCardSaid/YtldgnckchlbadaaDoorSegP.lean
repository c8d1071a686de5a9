/-
  What a segment's octets tell, as a plain function of any octets; and that texts laid one behind the other are told. No program in sight.
-/
import Derived.Test.YtldgnckchlbadaaDoorSeg2
import Derived.Test.YtldgnckchlbadaaDoorGF
namespace Go.Proofs.YtldgnckchlbadaaDoor
set_option maxRecDepth 4000
open Go.RowKit

structure Pz where
  texts : List (List UInt8)
  chain : List UInt8
  sealed_ : Bool
  used : Nat

theorem crcw_len (l : List UInt8) : (crcw l).length = l.length + 4 := by rw [crcw, List.length_append, length_be]
theorem frm_length (l t : List UInt8) : (frm l t).length = t.length + 40 := by rw [frm, crcw_len, List.length_append, List.length_append, length_be, sha_length]; omega
theorem ft_length (n : Nat) (l : List UInt8) : (ft n l).length = l.length + 16 := by rw [ft, crcw_len, List.length_append, List.length_append, length_be, length_be]; omega

/-- The frame's text that octets seem to begin with. -/
def pzN (rest : List UInt8) : Nat := eyeN rest 0 4
def pzT (rest : List UInt8) : List UInt8 := (rest.drop 4).take (pzN rest)
def pzBad (rest : List UInt8) : Prop := pzN rest < 1 ∨ 65535 < pzN rest ∨ rest.length < pzN rest + 40
instance (rest : List UInt8) : Decidable (pzBad rest) := by unfold pzBad; infer_instance
/-- One round: the state, and whether it goes on. -/
def pzNext (b : List UInt8) (k : Nat) (s : Pz) : Pz × Bool :=
  if pref (b.drop s.used) (ft (k + s.texts.length) s.chain) = true then (⟨s.texts, s.chain, true, s.used + 48⟩, false)
  else if pzBad (b.drop s.used) then (s, false)
  else if pref (b.drop s.used) (frm s.chain (pzT (b.drop s.used))) = true then (⟨s.texts ++ [pzT (b.drop s.used)], sha (s.chain ++ pzT (b.drop s.used)), s.sealed_, s.used + (pzN (b.drop s.used) + 40)⟩, true)
  else (s, false)
def pz (b : List UInt8) (k : Nat) : Nat → Pz → Pz
  | 0, s => s
  | f + 1, s => if (pzNext b k s).2 = true then pz b k f (pzNext b k s).1 else (pzNext b k s).1
def pz0 (l : List UInt8) : Pz := ⟨[], l, false, 128⟩

theorem pref_length {l q : List UInt8} (h : pref l q = true) : q.length ≤ l.length := by
  have h1 := of_decide_eq_true h
  have h2 := congrArg List.length h1
  rw [List.length_take] at h2
  omega
theorem pref_append (q r : List UInt8) : pref (q ++ r) q = true := by
  unfold pref
  exact decide_eq_true (by rw [List.take_left])
/-- A round that goes on: it is within the octets. -/
theorem pzNext_on (b : List UInt8) (k : Nat) (s : Pz) (h : (pzNext b k s).2 = true) : s.used < (pzNext b k s).1.used ∧ (s.used ≤ b.length → (pzNext b k s).1.used ≤ b.length) ∧ (pzNext b k s).1.chain.length = 32 ∧ (pzNext b k s).1.texts.length = s.texts.length + 1 := by
  unfold pzNext at *
  split at h
  · cases h
  · split at h
    · cases h
    · rename_i h1 h2
      split at h
      · rename_i h3
        rw [if_neg h1, if_neg h2, if_pos h3]
        have hl := pref_length h3
        rw [frm_length] at hl
        have ht : (pzT (b.drop s.used)).length = pzN (b.drop s.used) := by
          unfold pzT
          unfold pzBad at h2
          rw [List.length_take, List.length_drop]; omega
        rw [ht, List.length_drop] at hl
        refine ⟨by show s.used < s.used + (_ + 40); omega, fun h => by show s.used + (_ + 40) ≤ _; omega, sha_length _, ?_⟩
        simp
      · cases h

theorem pz_seal (b : List UInt8) (k f : Nat) (s : Pz) (h : pref (b.drop s.used) (ft (k + s.texts.length) s.chain) = true) : pz b k (f + 1) s = ⟨s.texts, s.chain, true, s.used + 48⟩ := by
  have hn : pzNext b k s = (⟨s.texts, s.chain, true, s.used + 48⟩, false) := by unfold pzNext; rw [if_pos h]
  rw [pz, hn]; rfl
theorem pz_stop (b : List UInt8) (k f : Nat) (s : Pz) (h1 : pref (b.drop s.used) (ft (k + s.texts.length) s.chain) = false) (h2 : pzBad (b.drop s.used)) : pz b k (f + 1) s = s := by
  have hn : pzNext b k s = (s, false) := by unfold pzNext; rw [if_neg (by rw [h1]; decide), if_pos h2]
  rw [pz, hn]; rfl
theorem pz_other (b : List UInt8) (k f : Nat) (s : Pz) (h1 : pref (b.drop s.used) (ft (k + s.texts.length) s.chain) = false) (h2 : ¬ pzBad (b.drop s.used)) (h3 : pref (b.drop s.used) (frm s.chain (pzT (b.drop s.used))) = false) : pz b k (f + 1) s = s := by
  have hn : pzNext b k s = (s, false) := by unfold pzNext; rw [if_neg (by rw [h1]; decide), if_neg h2, if_neg (by rw [h3]; decide)]
  rw [pz, hn]; rfl
theorem pz_on (b : List UInt8) (k f : Nat) (s : Pz) (h1 : pref (b.drop s.used) (ft (k + s.texts.length) s.chain) = false) (h2 : ¬ pzBad (b.drop s.used)) (h3 : pref (b.drop s.used) (frm s.chain (pzT (b.drop s.used))) = true) :
    pz b k (f + 1) s = pz b k f ⟨s.texts ++ [pzT (b.drop s.used)], sha (s.chain ++ pzT (b.drop s.used)), s.sealed_, s.used + (pzN (b.drop s.used) + 40)⟩ := by
  have hn : pzNext b k s = (⟨s.texts ++ [pzT (b.drop s.used)], sha (s.chain ++ pzT (b.drop s.used)), s.sealed_, s.used + (pzN (b.drop s.used) + 40)⟩, true) := by unfold pzNext; rw [if_neg (by rw [h1]; decide), if_neg h2, if_pos h3]
  rw [pz, hn]; rfl

/-! ### Texts laid one behind the other -/
def frs : List UInt8 → List (List UInt8) → List UInt8
  | _, [] => []
  | c, t :: ts => frm c t ++ frs (sha (c ++ t)) ts
def chn : List UInt8 → List (List UInt8) → List UInt8
  | c, [] => c
  | c, t :: ts => chn (sha (c ++ t)) ts
theorem frs_snoc (t : List UInt8) : ∀ (ts : List (List UInt8)) (c : List UInt8), frs c (ts ++ [t]) = frs c ts ++ frm (chn c ts) t
  | [], c => by simp [frs, chn]
  | u :: ts, c => by rw [List.cons_append, frs, frs_snoc t ts, frs, chn, List.append_assoc]
theorem chn_snoc (t : List UInt8) : ∀ (ts : List (List UInt8)) (c : List UInt8), chn c (ts ++ [t]) = sha (chn c ts ++ t)
  | [], c => rfl
  | u :: ts, c => by rw [List.cons_append, chn, chn_snoc t ts, chn]
theorem chn_length : ∀ (ts : List (List UInt8)) (c : List UInt8), c.length = 32 → (chn c ts).length = 32
  | [], _, h => h
  | u :: ts, _, _ => chn_length ts _ (sha_length _)

theorem vl_be4 (n : Nat) (h : n < 4294967296) : vl (be n 4) = n := by
  have e : ∀ a b c d : UInt8, vl [a, b, c, d] = ((a.toNat * 256 + b.toNat) * 256 + c.toNat) * 256 + d.toNat := fun a b c d => by simp [vl]
  simp only [be, e, UInt8.toNat_ofNat']
  omega
theorem take_be4 (n : Nat) (r : List UInt8) : (be n 4 ++ r).take 4 = be n 4 := by
  have := List.take_left (l₁ := be n 4) (l₂ := r)
  rwa [length_be] at this
theorem drop_be4 (n : Nat) (r : List UInt8) : (be n 4 ++ r).drop 4 = r := by
  have := List.drop_left (l₁ := be n 4) (l₂ := r)
  rwa [length_be] at this
theorem ft_front (n : Nat) (l : List UInt8) : ∃ r, ft n l = be 4294967295 4 ++ r := ⟨be n 8 ++ l ++ be (crc (be 4294967295 4 ++ be n 8 ++ l)) 4, by rw [ft, crcw]; simp [List.append_assoc]⟩
theorem frm_front (c t : List UInt8) : ∃ r, frm c t = be t.length 4 ++ (t ++ r) := ⟨sha (c ++ t) ++ be (crc (be t.length 4 ++ t ++ sha (c ++ t))) 4, by rw [frm, crcw]; simp [List.append_assoc]⟩
/-- Octets that begin with a frame do not begin with a foot. -/
theorem pref_ft_frm (c t r : List UInt8) (n : Nat) (l : List UInt8) (ht : t.length ≤ 65535) : pref (frm c t ++ r) (ft n l) = false := by
  obtain ⟨r1, h1⟩ := ft_front n l
  obtain ⟨r2, h2⟩ := frm_front c t
  unfold pref
  refine decide_eq_false fun e => ?_
  have e4 := congrArg (fun x => vl (x.take 4)) e
  simp only [List.take_take] at e4
  rw [h1, take_be4, h2, vl_be4 _ (by omega)] at e4
  have : min 4 (be 4294967295 4 ++ r1).length = 4 := by rw [List.length_append, length_be]; omega
  rw [this, List.append_assoc, take_be4, vl_be4 _ (by omega)] at e4
  omega
theorem pzN_frm (c t r : List UInt8) (h1 : 1 ≤ t.length) (ht : t.length ≤ 65535) : pzN (frm c t ++ r) = t.length ∧ pzT (frm c t ++ r) = t ∧ ¬ pzBad (frm c t ++ r) := by
  obtain ⟨r2, h2⟩ := frm_front c t
  have hl : 4 ≤ (frm c t ++ r).length := by rw [List.length_append, frm_length]; omega
  have hn : pzN (frm c t ++ r) = t.length := by
    unfold pzN eyeN
    rw [if_pos ⟨rfl, hl⟩, h2, List.append_assoc, take_be4, vl_be4 _ (by omega)]
  refine ⟨hn, ?_, ?_⟩
  · unfold pzT
    rw [hn, h2, List.append_assoc, drop_be4, List.append_assoc, List.take_left]
  · unfold pzBad
    rw [hn, List.length_append, frm_length]
    omega
/-- What comes behind the texts. -/
def tl (k : Nat) (c : List UInt8) (fin : Bool) (z : Nat) : List UInt8 := (if fin then ft k c else []) ++ List.replicate z 0
theorem vl_zeros (z : Nat) : vl ((List.replicate z 0).take 4) = 0 := by
  rw [List.take_replicate]
  have : ∀ m : Nat, vl (List.replicate m 0) = 0 := by
    intro m
    induction m with
    | zero => rfl
    | succ m ih => rw [List.replicate_succ', vl_snoc, ih]; rfl
  exact this _
theorem pz_tail (b : List UInt8) (k : Nat) (s : Pz) (fin : Bool) (z f : Nat) (hs : s.sealed_ = false) (hz : fin = false → 4 ≤ z) (hc : s.chain.length = 32) (hb : b.drop s.used = tl (k + s.texts.length) s.chain fin z) :
    pz b k (f + 1) s = ⟨s.texts, s.chain, fin, s.used + if fin then 48 else 0⟩ := by
  have hn : pzNext b k s = (⟨s.texts, s.chain, fin, s.used + if fin then 48 else 0⟩, false) := by
    unfold pzNext
    rw [hb]
    cases fin with
    | true =>
      have e : tl (k + s.texts.length) s.chain true z = ft (k + s.texts.length) s.chain ++ List.replicate z 0 := rfl
      rw [e, if_pos (pref_append _ _)]
      rfl
    | false =>
      have hz4 := hz rfl
      have e : tl (k + s.texts.length) s.chain false z = List.replicate z 0 := rfl
      rw [e, if_neg, if_pos]
      · obtain ⟨a, b', c, d⟩ := s
        simp only at hs
        subst hs
        rfl
      · left
        unfold pzN eyeN
        split
        · rw [vl_zeros]; omega
        · omega
      · intro h
        obtain ⟨r1, h1⟩ := ft_front (k + s.texts.length) s.chain
        have e1 := of_decide_eq_true h
        have e4 := congrArg (fun x => vl (x.take 4)) e1
        simp only [List.take_take] at e4
        rw [h1, take_be4, vl_be4 _ (by omega)] at e4
        have : min 4 (be 4294967295 4 ++ r1).length = 4 := by rw [List.length_append, length_be]; omega
        rw [this, vl_zeros] at e4
        omega
  unfold pz
  rw [hn]
  rfl
theorem pz_frames (b : List UInt8) (k : Nat) (fin : Bool) (z : Nat) (hz : fin = false → 4 ≤ z) : ∀ (ts : List (List UInt8)) (s : Pz) (f : Nat), s.sealed_ = false → s.chain.length = 32 → (∀ t ∈ ts, 1 ≤ t.length ∧ t.length ≤ 65535) → ts.length < f →
    b.drop s.used = frs s.chain ts ++ tl (k + s.texts.length + ts.length) (chn s.chain ts) fin z →
    pz b k f s = ⟨s.texts ++ ts, chn s.chain ts, fin, s.used + (frs s.chain ts).length + if fin then 48 else 0⟩
  | [], s, f, hs, hc, _, hf, hb => by
    obtain ⟨f, rfl⟩ : ∃ g, f = g + 1 := ⟨f - 1, by simp at hf; omega⟩
    rw [pz_tail b k s fin z f hs hz hc (by simpa [frs, chn] using hb)]
    simp [frs, chn]
  | t :: ts, s, f, hs, hc, ht, hf, hb => by
    obtain ⟨f, rfl⟩ : ∃ g, f = g + 1 := ⟨f - 1, by simp at hf; omega⟩
    have ht1 := ht t (by simp)
    rw [frs, List.append_assoc] at hb
    obtain ⟨n1, n2, n3⟩ := pzN_frm s.chain t (frs (sha (s.chain ++ t)) ts ++ tl (k + s.texts.length + (t :: ts).length) (chn s.chain (t :: ts)) fin z) ht1.1 ht1.2
    have hn : pzNext b k s = (⟨s.texts ++ [t], sha (s.chain ++ t), s.sealed_, s.used + (t.length + 40)⟩, true) := by
      unfold pzNext
      rw [hb, if_neg (by rw [pref_ft_frm _ _ _ _ _ ht1.2]; decide), if_neg n3, n2, n1, if_pos (pref_append _ _)]
    have hd : b.drop (s.used + (t.length + 40)) = frs (sha (s.chain ++ t)) ts ++ tl (k + (s.texts ++ [t]).length + ts.length) (chn (sha (s.chain ++ t)) ts) fin z := by
      rw [← List.drop_drop, hb, ← frm_length s.chain t, List.drop_left, chn]
      congr 2
      simp; omega
    have ih := pz_frames b k fin z hz ts ⟨s.texts ++ [t], sha (s.chain ++ t), s.sealed_, s.used + (t.length + 40)⟩ f hs (sha_length _) (fun u hu => ht u (by simp [hu])) (by simp at hf; omega) hd
    unfold pz
    rw [hn]
    simp only [if_true]
    rw [ih, frs, chn, List.length_append, frm_length]
    congr 1
    · simp
    · dsimp only
      omega
end Go.Proofs.YtldgnckchlbadaaDoor
