/-
  A log as plain data: its region's octets, its texts; what is laid, and that it is told again. No program in sight.
-/
import Derived.Test.YtldgnckchlbadaaDoorSegP
import Derived.Test.YtldgnckchlbadaaDoorGA
namespace Go.Proofs.YtldgnckchlbadaaDoor
set_option maxRecDepth 4000
open Go.RowKit

def zr (n : Nat) : List UInt8 := List.replicate n 0
@[simp] theorem zr_length (n : Nat) : (zr n).length = n := List.length_replicate
def pad (m : Nat) (l : List UInt8) : List UInt8 := l ++ zr (m - l.length)
theorem pad_length {m : Nat} {l : List UInt8} (h : l.length ≤ m) : (pad m l).length = m := by simp [pad]; omega
theorem zr_add (a b : Nat) : zr a ++ zr b = zr (a + b) := by simp [zr, List.replicate_append_replicate]
theorem zr_drop (a b : Nat) : (zr a).drop b = zr (a - b) := by simp [zr]
theorem zr_take (a b : Nat) : (zr a).take b = zr (min b a) := by simp [zr]
theorem pad_pad {n m : Nat} {l : List UInt8} (h : l.length ≤ n) (hm : n ≤ m) : pad m (pad n l) = pad m l := by
  unfold pad
  rw [List.length_append, zr_length, List.append_assoc, zr_add]
  congr 2
  omega
theorem pad_front {m : Nat} (x l : List UInt8) (h : x.length + l.length ≤ m) : pad m (x ++ l) = x ++ pad (m - x.length) l := by
  unfold pad
  rw [List.length_append, List.append_assoc]
  congr 3
  omega
theorem pad_splice {m : Nat} (l b : List UInt8) (h : l.length + b.length ≤ m) : splice (pad m l) l.length b = pad m (l ++ b) := by
  unfold splice pad
  rw [List.take_left, List.length_append, ← List.drop_drop, List.drop_left, zr_drop, List.append_assoc]
  congr 3
  omega
theorem pad_nil (m : Nat) : pad m [] = zr m := by simp [pad]

structure Lg where
  segs : Nat
  size : Nat
  B : List UInt8
  last : Nat
  used : Nat
  clean : Nat
  texts : List (List UInt8)
  chain : List UInt8
  sure : Nat
  sealed_ : Bool
  dead : Bool
def Lg.n (s : Lg) : Nat := s.size * 128
def Lg.all (s : Lg) : Nat := s.segs * s.n
def Lg.end_ (s : Lg) : Nat := s.last * s.n + s.used
def Lg.put (s : Lg) (b : List UInt8) : Lg := { s with B := splice s.B s.end_ b, used := s.used + b.length }
def Lg.begin_ (s : Lg) (k : Nat) : Lg := ({ s with last := k, used := 0, sealed_ := false } : Lg).put (hd k s.texts.length s.chain)
def fitsF (size used text : Nat) : Bool := decide (1 ≤ text ∧ text ≤ 65535 ∧ used + text + 88 ≤ size)
def Lg.fits (s : Lg) (t : Nat) : Bool := decide (0 < s.used) && !s.sealed_ && fitsF s.n s.used t
def Lg.err (s : Lg) (t : Nat) : Nat := if s.dead then 22 else if fitsF s.n 128 t = false then 11 else if 0 < s.used ∧ s.fits t = false ∧ s.last + 1 = s.segs then 21 else 0
def Lg.room (s : Lg) (t : Nat) : Lg := if s.used = 0 then s.begin_ 0 else if s.sealed_ then s.begin_ (s.last + 1) else if s.fits t = false then (s.put (ft s.texts.length s.chain)).begin_ (s.last + 1) else s
def Lg.lay (r : Lg) (t : List UInt8) : Lg := { r.put (frm r.chain t) with texts := r.texts ++ [t], chain := sha (r.chain ++ t) }
def Lg.append (s : Lg) (t : List UInt8) : Lg := (s.room t.length).lay t
def Lg.seg (s : Lg) (i : Nat) : List UInt8 := (s.B.drop (i * s.n)).take s.n
def Lg.scan1 (s : Lg) (i : Nat) : Lg × Bool :=
  if pref (s.seg i) (hd i s.texts.length s.chain) = true then
    ({ s with texts := s.texts ++ (pz (s.seg i) s.texts.length s.n (pz0 s.chain)).texts, chain := (pz (s.seg i) s.texts.length s.n (pz0 s.chain)).chain, last := i, used := (pz (s.seg i) s.texts.length s.n (pz0 s.chain)).used, sealed_ := (pz (s.seg i) s.texts.length s.n (pz0 s.chain)).sealed_ }, (pz (s.seg i) s.texts.length s.n (pz0 s.chain)).sealed_)
  else (s, false)
def Lg.scan (s : Lg) (i : Nat) : Nat → Lg
  | 0 => s
  | f + 1 => if (s.scan1 i).2 = true then (s.scan1 i).1.scan (i + 1) f else (s.scan1 i).1

/-! ### What is laid -/
def bod (i k : Nat) (c : List UInt8) (ts : List (List UInt8)) (fin : Bool) : List UInt8 := hd i k c ++ (frs c ts ++ if fin then ft (k + ts.length) (chn c ts) else [])
def sgs (n : Nat) : Nat → Nat → List UInt8 → List (List (List UInt8)) → List UInt8
  | _, _, _, [] => []
  | i, k, c, ts :: r => pad n (bod i k c ts true) ++ sgs n (i + 1) (k + ts.length) (chn c ts) r
def Fine (ts : List (List UInt8)) : Prop := ∀ t ∈ ts, 1 ≤ t.length ∧ t.length ≤ 65535
/-- Each sealed segment fits. -/
def AllFit (n : Nat) : Nat → Nat → List UInt8 → List (List (List UInt8)) → Prop
  | _, _, _, [] => True
  | i, k, c, ts :: r => ((bod i k c ts true).length ≤ n ∧ Fine ts) ∧ AllFit n (i + 1) (k + ts.length) (chn c ts) r
theorem chn_append : ∀ (a b : List (List UInt8)) (c : List UInt8), chn c (a ++ b) = chn (chn c a) b
  | [], _, _ => rfl
  | t :: a, b, c => by rw [List.cons_append, chn, chn_append a b]; rfl
theorem hd_len' (q k : Nat) (l : List UInt8) (h : l.length = 32) : (hd q k l).length = 128 := by
  simp [hd, hd0, crcw_len, length_be, h]
theorem sgs_snoc (n : Nat) (ts : List (List UInt8)) : ∀ (r : List (List (List UInt8))) (i k : Nat) (c : List UInt8), sgs n i k c (r ++ [ts]) = sgs n i k c r ++ pad n (bod (i + r.length) (k + r.flatten.length) (chn c r.flatten) ts true)
  | [], i, k, c => by simp [sgs, chn]
  | u :: r, i, k, c => by
      rw [List.cons_append, sgs, sgs_snoc n ts r, sgs, List.append_assoc]
      congr 3
      · simp only [List.length_cons, List.flatten_cons, List.length_append, chn_append]
        congr 1 <;> omega
theorem allFit_snoc (n : Nat) (ts : List (List UInt8)) : ∀ (r : List (List (List UInt8))) (i k : Nat) (c : List UInt8), AllFit n i k c r → (bod (i + r.length) (k + r.flatten.length) (chn c r.flatten) ts true).length ≤ n → Fine ts → AllFit n i k c (r ++ [ts])
  | [], i, k, c, _, h, hf => ⟨⟨by simpa [chn] using h, hf⟩, trivial⟩
  | u :: r, i, k, c, h0, h, hf => by
      refine ⟨h0.1, allFit_snoc n ts r _ _ _ h0.2 ?_ hf⟩
      simp only [List.length_cons, List.flatten_cons, List.length_append, chn_append] at h
      rw [show i + 1 + r.length = i + (r.length + 1) by omega, show k + u.length + r.flatten.length = k + (u.length + r.flatten.length) by omega]
      exact h
theorem sgs_length (n : Nat) : ∀ (r : List (List (List UInt8))) (i k : Nat) (c : List UInt8), AllFit n i k c r → (sgs n i k c r).length = r.length * n
  | [], _, _, _, _ => by simp [sgs]
  | u :: r, i, k, c, h => by
      rw [sgs, List.length_append, pad_length h.1.1, sgs_length n r _ _ _ h.2, List.length_cons, Nat.add_mul]
      omega

/-- What a log has laid: the sealed segments, the last one. -/
def Cnt (done : List (List (List UInt8))) : Nat := done.flatten.length
def Chd (done : List (List (List UInt8))) : List UInt8 := chn (zr 32) done.flatten
def Lx (s : Lg) (done : List (List (List UInt8))) (cur : List (List UInt8)) : List UInt8 := sgs s.n 0 0 (zr 32) done ++ bod done.length (Cnt done) (Chd done) cur false
structure Laid1 (s : Lg) (done : List (List (List UInt8))) (cur : List (List UInt8)) : Prop where
  last : s.last = done.length
  room : done.length < s.segs
  texts : s.texts = done.flatten ++ cur
  chain : s.chain = chn (Chd done) cur
  fit : AllFit s.n 0 0 (zr 32) done
  fine : Fine cur
  used : s.used = (bod done.length (Cnt done) (Chd done) cur false).length
  foot : s.used + 48 ≤ s.n
  octs : s.B = pad s.all (Lx s done cur)
  sealed_ : s.sealed_ = false
structure Laid0 (s : Lg) : Prop where
  segs : 1 ≤ s.segs
  size : 2 ≤ s.size
  used : s.used = 0
  last : s.last = 0
  texts : s.texts = []
  chain : s.chain = zr 32
  octs : s.B = zr s.all
  sealed_ : s.sealed_ = false
theorem Chd_length (done : List (List (List UInt8))) : (Chd done).length = 32 := chn_length _ _ (zr_length 32)
theorem bod_length (i k : Nat) (c : List UInt8) (ts : List (List UInt8)) (fin : Bool) (hc : c.length = 32) : (bod i k c ts fin).length = 128 + (frs c ts).length + (if fin then 48 else 0) := by
  unfold bod
  rw [List.length_append, List.length_append, hd_len' i k c hc]
  cases fin with
  | true => simp only [if_true, ft_length, chn_length _ _ hc]; omega
  | false => simp
theorem Laid1.len {s : Lg} {done : List (List (List UInt8))} {cur : List (List UInt8)} (h : Laid1 s done cur) : (Lx s done cur).length = s.end_ := by
  unfold Lx Lg.end_
  rw [List.length_append, sgs_length _ _ _ _ _ h.fit, ← h.used, h.last]
theorem Laid1.end_le {s : Lg} {done : List (List (List UInt8))} {cur : List (List UInt8)} (h : Laid1 s done cur) : s.end_ + 48 ≤ s.all := by
  unfold Lg.end_ Lg.all
  have h1 := h.foot
  have h2 : (s.last + 1) * s.n ≤ s.segs * s.n := Nat.mul_le_mul_right _ (by rw [h.last]; exact h.room)
  rw [Nat.add_mul] at h2
  omega
theorem bod_snoc (i k : Nat) (c t : List UInt8) (ts : List (List UInt8)) : bod i k c (ts ++ [t]) false = bod i k c ts false ++ frm (chn c ts) t := by
  unfold bod
  simp only [Bool.false_eq_true, if_false, List.append_nil]
  rw [frs_snoc, List.append_assoc]
theorem bod_seal (i k : Nat) (c : List UInt8) (ts : List (List UInt8)) : bod i k c ts true = bod i k c ts false ++ ft (k + ts.length) (chn c ts) := by
  unfold bod
  simp only [Bool.false_eq_true, if_false, if_true, List.append_nil]
  rw [List.append_assoc]
/-- A put at the end. -/
theorem put_at {s : Lg} {X b : List UInt8} (hB : s.B = pad s.all X) (he : s.end_ = X.length) (hl : X.length + b.length ≤ s.all) : (s.put b).B = pad s.all (X ++ b) := by
  show splice s.B s.end_ b = _
  rw [hB, he, pad_splice _ _ hl]
theorem Laid1.lay {s : Lg} {done : List (List (List UInt8))} {cur : List (List UInt8)} (h : Laid1 s done cur) (t : List UInt8) (h1 : 1 ≤ t.length) (h2 : t.length ≤ 65535) (hf : s.used + t.length + 88 ≤ s.n) : Laid1 (s.lay t) done (cur ++ [t]) := by
  have hlen : (frm s.chain t).length = t.length + 40 := frm_length _ _
  have he := h.end_le
  have hall : s.end_ + (t.length + 40) ≤ s.all := by
    have h3 : (s.last + 1) * s.n ≤ s.segs * s.n := Nat.mul_le_mul_right _ (by rw [h.last]; exact h.room)
    rw [Nat.add_mul] at h3
    unfold Lg.end_ Lg.all
    omega
  have hu : (s.lay t).used = s.used + (t.length + 40) := by show s.used + (frm s.chain t).length = _; rw [hlen]
  refine ⟨h.last, h.room, ?_, ?_, h.fit, ?_, ?_, ?_, ?_, h.sealed_⟩
  · show s.texts ++ [t] = _
    rw [h.texts, List.append_assoc]
  · show sha (s.chain ++ t) = _
    rw [chn_snoc, h.chain]
  · intro u hu
    rcases List.mem_append.1 hu with hu | hu
    · exact h.fine u hu
    · rw [List.mem_singleton.1 hu]; exact ⟨h1, h2⟩
  · rw [hu, bod_snoc, List.length_append, ← h.used, frm_length]
  · show (s.lay t).used + 48 ≤ s.n
    rw [hu]
    omega
  · show (s.put (frm s.chain t)).B = pad s.all (sgs s.n 0 0 (zr 32) done ++ bod done.length (Cnt done) (Chd done) (cur ++ [t]) false)
    rw [put_at h.octs h.len.symm (by rw [h.len, hlen]; exact hall), bod_snoc, ← h.chain]
    unfold Lx
    rw [List.append_assoc]
/-- The next segment begins. -/
theorem Laid1.next {s : Lg} {done : List (List (List UInt8))} {cur : List (List UInt8)} (h : Laid1 s done cur) (hm : s.last + 1 < s.segs) (h176 : 176 ≤ s.n) : Laid1 ((s.put (ft s.texts.length s.chain)).begin_ (s.last + 1)) (done ++ [cur]) [] := by
  have hcl : s.chain.length = 32 := by rw [h.chain]; exact chn_length _ _ (Chd_length _)
  have hft : (ft s.texts.length s.chain).length = 48 := by rw [ft_length, hcl]
  have hst : s.texts.length = Cnt done + cur.length := by rw [h.texts, List.length_append]; rfl
  have hbt : (bod done.length (Cnt done) (Chd done) cur true).length ≤ s.n := by
    rw [bod_seal, List.length_append, ft_length, ← h.used, chn_length _ _ (Chd_length _)]
    have := h.foot
    omega
  have hfit : AllFit s.n 0 0 (zr 32) (done ++ [cur]) := allFit_snoc s.n cur done 0 0 (zr 32) h.fit (by simpa [Cnt, Chd] using hbt) h.fine
  have hC : Chd (done ++ [cur]) = s.chain := by
    unfold Chd
    rw [List.flatten_append, chn_append, h.chain]
    simp [Chd]
  have hK : Cnt (done ++ [cur]) = s.texts.length := by
    unfold Cnt
    rw [List.flatten_append, List.length_append, hst]
    simp [Cnt]
  have hsn : sgs s.n 0 0 (zr 32) (done ++ [cur]) = sgs s.n 0 0 (zr 32) done ++ pad s.n (bod done.length (Cnt done) (Chd done) cur true) := by
    have := sgs_snoc s.n cur done 0 0 (zr 32)
    simpa [Cnt, Chd] using this
  have hsl := sgs_length s.n (done ++ [cur]) 0 0 (zr 32) hfit
  have hm2 : (s.last + 2) * s.n ≤ s.all := by unfold Lg.all; exact Nat.mul_le_mul_right _ (by omega)
  have hl2 : (done ++ [cur]).length = s.last + 1 := by rw [List.length_append, h.last]; rfl
  have hB1 : (s.put (ft s.texts.length s.chain)).B = pad s.all (sgs s.n 0 0 (zr 32) (done ++ [cur])) := by
    rw [put_at h.octs h.len.symm (by rw [h.len, hft]; exact h.end_le), hsn]
    have e1 : Lx s done cur ++ ft s.texts.length s.chain = sgs s.n 0 0 (zr 32) done ++ bod done.length (Cnt done) (Chd done) cur true := by
      unfold Lx
      rw [bod_seal, hst, h.chain, List.append_assoc]
    have hdl := sgs_length s.n done 0 0 (zr 32) h.fit
    rw [e1, ← pad_pad (n := (s.last + 1) * s.n), pad_front _ _ (by rw [hdl, h.last, Nat.add_mul]; omega), hdl, h.last, show (done.length + 1) * s.n - done.length * s.n = s.n by rw [Nat.add_mul]; omega]
    · rw [List.length_append, hdl, h.last, Nat.add_mul]; omega
    · rw [Nat.add_mul] at hm2 ⊢; omega
  have hhd : (hd (s.last + 1) s.texts.length s.chain).length = 128 := hd_len' _ _ _ hcl
  refine ⟨?_, by rw [hl2]; exact hm, ?_, ?_, hfit, fun t ht => by simp at ht, ?_, ?_, ?_, rfl⟩
  · show s.last + 1 = _
    rw [hl2]
  · show s.texts = _
    rw [h.texts, List.flatten_append]
    simp
  · show s.chain = chn (Chd (done ++ [cur])) []
    rw [hC]; rfl
  · show 0 + (hd (s.last + 1) s.texts.length s.chain).length = _
    rw [bod_length _ _ _ _ _ (Chd_length _), hhd]
    simp [frs]
  · show 0 + (hd (s.last + 1) s.texts.length s.chain).length + 48 ≤ s.n
    rw [hhd]
    omega
  · show splice (s.put (ft s.texts.length s.chain)).B ((s.last + 1) * s.n + 0) (hd (s.last + 1) s.texts.length s.chain) = pad s.all (Lx s (done ++ [cur]) [])
    have e2 : (s.last + 1) * s.n + 0 = (sgs s.n 0 0 (zr 32) (done ++ [cur])).length := by rw [hsl, hl2]; rfl
    rw [hB1, e2, pad_splice _ _ (by rw [hsl, hl2, hhd]; rw [Nat.add_mul] at hm2 ⊢; omega)]
    unfold Lx bod
    rw [hC, hK, hl2]
    simp [frs]
theorem Laid0.begin {s : Lg} (h : Laid0 s) (h176 : 176 ≤ s.n) : Laid1 (s.begin_ 0) [] [] := by
  have hhd : (hd 0 s.texts.length s.chain).length = 128 := hd_len' _ _ _ (by rw [h.chain]; exact zr_length 32)
  have hall : 128 ≤ s.all := by
    unfold Lg.all
    have := Nat.mul_le_mul_right s.n h.segs
    omega
  refine ⟨rfl, by have := h.segs; simp; exact this, ?_, ?_, trivial, fun t ht => by simp at ht, ?_, ?_, ?_, rfl⟩
  · show s.texts = _
    rw [h.texts]; rfl
  · show s.chain = _
    rw [h.chain]; rfl
  · show 0 + (hd 0 s.texts.length s.chain).length = _
    rw [bod_length _ _ _ _ _ (Chd_length _), hhd]
    simp [frs]
  · show 0 + (hd 0 s.texts.length s.chain).length + 48 ≤ s.n
    rw [hhd]
    omega
  · show splice s.B (0 * s.n + 0) (hd 0 s.texts.length s.chain) = pad s.all (Lx s [] [])
    have e2 : 0 * s.n + 0 = ([] : List UInt8).length := by simp
    rw [h.octs, ← pad_nil, e2, pad_splice _ _ (by simpa [hhd] using hall)]
    unfold Lx bod
    rw [h.chain, h.texts]
    simp [sgs, frs, Cnt, Chd, chn]
theorem fitsF_iff {a b c : Nat} : fitsF a b c = true ↔ (1 ≤ c ∧ c ≤ 65535 ∧ b + c + 88 ≤ a) := by unfold fitsF; exact decide_eq_true_iff
/-- One text more. -/
theorem laid_append {s : Lg} {t : List UInt8} (h : Laid0 s ∨ ∃ done cur, Laid1 s done cur) (he : s.err t.length = 0) : ∃ done cur, Laid1 (s.append t) done cur := by
  unfold Lg.err at he
  split at he
  · omega
  · split at he
    · omega
    · rename_i h1 h2
      have hf := fitsF_iff.1 (by simpa using h2)
      split at he
      · omega
      · rename_i h3
        unfold Lg.append
        rcases h with h | ⟨done, cur, h⟩
        · have hb := h.begin (by omega)
          have hr : s.room t.length = s.begin_ 0 := by unfold Lg.room; rw [if_pos h.used]
          rw [hr]
          refine ⟨[], [t], ?_⟩
          have hu : (s.begin_ 0).used = 128 := by rw [hb.used, bod_length _ _ _ _ _ (Chd_length _)]; simp [frs]
          exact hb.lay t hf.1 hf.2.1 (by rw [hu]; show 128 + t.length + 88 ≤ s.n; omega)
        · have hu0 : ¬ s.used = 0 := by rw [h.used, bod_length _ _ _ _ _ (Chd_length _)]; omega
          by_cases h4 : s.fits t.length = false
          · have hr : s.room t.length = (s.put (ft s.texts.length s.chain)).begin_ (s.last + 1) := by unfold Lg.room; rw [if_neg hu0, h.sealed_, if_neg (by simp), if_pos h4]
            have hlast : s.last + 1 < s.segs := by
              have h5 := h.room
              rw [← h.last] at h5
              have : ¬ (s.last + 1 = s.segs) := fun e => h3 ⟨by omega, h4, e⟩
              omega
            rw [hr]
            have hn := h.next hlast (by omega)
            refine ⟨done ++ [cur], [t], ?_⟩
            have hu : ((s.put (ft s.texts.length s.chain)).begin_ (s.last + 1)).used = 128 := by rw [hn.used, bod_length _ _ _ _ _ (Chd_length _)]; simp [frs]
            exact hn.lay t hf.1 hf.2.1 (by rw [hu]; show 128 + t.length + 88 ≤ s.n; omega)
          · have hr : s.room t.length = s := by unfold Lg.room; rw [if_neg hu0, h.sealed_, if_neg (by simp), if_neg h4]
            rw [hr]
            have h5 : s.fits t.length = true := by simpa using h4
            unfold Lg.fits at h5
            simp only [Bool.and_eq_true] at h5
            have h6 := fitsF_iff.1 h5.2
            exact ⟨done, cur ++ [t], h.lay t hf.1 hf.2.1 (by omega)⟩

/-! ### What is laid is told -/
theorem frs_many : ∀ (ts : List (List UInt8)) (c : List UInt8), ts.length ≤ (frs c ts).length
  | [], _ => Nat.le_refl _
  | t :: ts, c => by
      have := frs_many ts (sha (c ++ t))
      rw [frs, List.length_append, frm_length, List.length_cons]
      omega
theorem pz_bod (n i k : Nat) (c : List UInt8) (ts : List (List UInt8)) (fin : Bool) (hc : c.length = 32) (hf : Fine ts) (hl : (bod i k c ts fin).length ≤ n) (h4 : fin = false → (bod i k c ts fin).length + 4 ≤ n) :
    pz (pad n (bod i k c ts fin)) k n (pz0 c) = ⟨ts, chn c ts, fin, (bod i k c ts fin).length⟩ := by
  have hb := bod_length i k c ts fin hc
  have hh := hd_len' i k c hc
  have hd : (pad n (bod i k c ts fin)).drop (pz0 c).used = frs (pz0 c).chain ts ++ tl (k + (pz0 c).texts.length + ts.length) (chn (pz0 c).chain ts) fin (n - (bod i k c ts fin).length) := by
    have e0 : ((hd i k c ++ (frs c ts ++ if fin then ft (k + ts.length) (chn c ts) else [])) ++ zr (n - (bod i k c ts fin).length)).drop 128 = (frs c ts ++ if fin then ft (k + ts.length) (chn c ts) else []) ++ zr (n - (bod i k c ts fin).length) := by
      rw [List.append_assoc, ← hh, List.drop_left]
    show (pad n (bod i k c ts fin)).drop 128 = frs c ts ++ tl (k + 0 + ts.length) (chn c ts) fin (n - (bod i k c ts fin).length)
    unfold pad
    rw [show bod i k c ts fin = hd i k c ++ (frs c ts ++ if fin then ft (k + ts.length) (chn c ts) else []) from rfl] at e0 ⊢
    rw [e0, List.append_assoc]
    rfl
  have := pz_frames (pad n (bod i k c ts fin)) k fin (n - (bod i k c ts fin).length) (fun h => by have := h4 h; omega) ts (pz0 c) n rfl hc hf (by have := frs_many ts c; omega) hd
  rw [this, hb]
  simp [pz0]
theorem seg_first {n : Nat} {x r : List UInt8} (h : x.length = n) : (x ++ r).take n = x := by rw [← h, List.take_left]
theorem seg_next {n : Nat} {x r : List UInt8} (h : x.length = n) : (x ++ r).drop n = r := by rw [← h, List.drop_left]
theorem scan_laid (cur : List (List UInt8)) : ∀ (r : List (List (List UInt8))) (i : Nat) (s : Lg) (z f : Nat), s.chain.length = 32 → AllFit s.n i s.texts.length s.chain r → Fine cur →
    (bod (i + r.length) (s.texts.length + r.flatten.length) (chn s.chain r.flatten) cur false).length + 48 ≤ s.n → s.n ≤ (bod (i + r.length) (s.texts.length + r.flatten.length) (chn s.chain r.flatten) cur false).length + z → r.length < f →
    s.B.drop (i * s.n) = sgs s.n i s.texts.length s.chain r ++ (bod (i + r.length) (s.texts.length + r.flatten.length) (chn s.chain r.flatten) cur false ++ zr z) →
    s.scan i f = { s with texts := s.texts ++ (r.flatten ++ cur), chain := chn (chn s.chain r.flatten) cur, last := i + r.length, used := (bod (i + r.length) (s.texts.length + r.flatten.length) (chn s.chain r.flatten) cur false).length, sealed_ := false }
  | [], i, s, z, f, hc, _, hf, hl, hz, hr, hB => by
    obtain ⟨f, rfl⟩ : ∃ g, f = g + 1 := ⟨f - 1, by simp at hr; omega⟩
    simp only [List.flatten_nil, List.length_nil, Nat.add_zero, chn, sgs, List.nil_append] at hl hz hB ⊢
    have hseg : s.seg i = pad s.n (bod i s.texts.length s.chain cur false) := by
      unfold Lg.seg
      rw [hB, List.take_append, List.take_of_length_le (by omega), zr_take, Nat.min_eq_left (by omega)]
      rfl
    have hp : pref (s.seg i) (hd i s.texts.length s.chain) = true := by
      rw [hseg]
      unfold pad bod
      rw [List.append_assoc]
      exact pref_append _ _
    have hz := pz_bod s.n i s.texts.length s.chain cur false hc hf (by omega) (fun _ => by omega)
    rw [Lg.scan]
    have h1 : s.scan1 i = ({ s with texts := s.texts ++ cur, chain := chn s.chain cur, last := i, used := (bod i s.texts.length s.chain cur false).length, sealed_ := false }, false) := by
      unfold Lg.scan1
      rw [if_pos hp, hseg, hz]
    rw [h1]
    rfl
  | ts :: r, i, s, z, f, hc, ha, hf, hl, hz, hr, hB => by
    obtain ⟨f, rfl⟩ : ∃ g, f = g + 1 := ⟨f - 1, by simp at hr; omega⟩
    have e1 : i + (ts :: r).length = i + 1 + r.length := by simp; omega
    have e2 : s.texts.length + (ts :: r).flatten.length = (s.texts ++ ts).length + r.flatten.length := by simp; omega
    have e3 : chn s.chain (ts :: r).flatten = chn (chn s.chain ts) r.flatten := by rw [List.flatten_cons, chn_append]
    rw [e1, e2, e3] at hl hz hB ⊢
    have hseg : s.seg i = pad s.n (bod i s.texts.length s.chain ts true) := by
      unfold Lg.seg
      rw [hB, sgs, List.append_assoc]
      exact seg_first (pad_length ha.1.1)
    have hp : pref (s.seg i) (hd i s.texts.length s.chain) = true := by
      rw [hseg]
      unfold pad bod
      rw [List.append_assoc]
      exact pref_append _ _
    have hz' := pz_bod s.n i s.texts.length s.chain ts true hc ha.1.2 ha.1.1 (fun h => by cases h)
    have h1 : s.scan1 i = ({ s with texts := s.texts ++ ts, chain := chn s.chain ts, last := i, used := (bod i s.texts.length s.chain ts true).length, sealed_ := true }, true) := by
      unfold Lg.scan1
      rw [if_pos hp, hseg, hz']
    rw [Lg.scan, h1]
    simp only [if_true]
    have hB' : s.B.drop ((i + 1) * s.n) = sgs s.n (i + 1) (s.texts ++ ts).length (chn s.chain ts) r ++ (bod (i + 1 + r.length) ((s.texts ++ ts).length + r.flatten.length) (chn (chn s.chain ts) r.flatten) cur false ++ zr z) := by
      rw [Nat.add_mul, Nat.one_mul, ← List.drop_drop, hB, sgs, List.append_assoc, seg_next (pad_length ha.1.1), List.length_append]
    have ih := scan_laid cur r (i + 1) { s with texts := s.texts ++ ts, chain := chn s.chain ts, last := i, used := (bod i s.texts.length s.chain ts true).length, sealed_ := true } z f (chn_length _ _ hc) (by rw [List.length_append]; exact ha.2) hf hl hz (by simp at hr; omega) hB'
    rw [ih]
    simp [List.append_assoc]
theorem pref_zeros (m i k : Nat) (l : List UInt8) : pref (zr m) (hd i k l) = false := by
  refine Bool.eq_false_iff.2 fun h => ?_
  have h1 := of_decide_eq_true h
  rw [zr_take] at h1
  have h2 := congrArg (fun x => x[0]?) h1
  simp only [hd, hd0, crcw, zr] at h2
  simp [List.getElem?_replicate] at h2
/-- A region without any. -/
theorem scan_zero (s : Lg) (f : Nat) (h : s.B = zr s.all) : s.scan 0 (f + 1) = s := by
  have h1 : s.scan1 0 = (s, false) := by
    unfold Lg.scan1 Lg.seg
    rw [h, zr_drop, zr_take, if_neg (by rw [pref_zeros]; decide)]
  rw [Lg.scan, h1]
  rfl
end Go.Proofs.YtldgnckchlbadaaDoor
