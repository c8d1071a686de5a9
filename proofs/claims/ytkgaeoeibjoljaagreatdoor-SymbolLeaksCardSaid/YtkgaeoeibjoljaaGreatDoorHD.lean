/-
  What flushed sectors keep behind a crash: plain.
  What a log tells behind a crash: plain.
  A new run.
-/
import Derived.Test.YtkgaeoeibjoljaaGreatDoorGH
import Derived.Test.YtkgaeoeibjoljaaGreatDoorHA
import Derived.Test.YtkgaeoeibjoljaaGreatDoorHC
import Derived.Test.YtkgaeoeibjoljaaGreatDoorGQ
namespace Go.Proofs.YtkgaeoeibjoljaaGreatDoor
section
set_option maxRecDepth 4000
def sec (c i : Nat) : List UInt8 := List.replicate 128 (UInt8.ofNat (c + i))
theorem sect_length (l : List UInt8) (s : Nat) (h : (s + 1) * 128 <= l.length) : (sect l s).length = 128 := length_sect l s h
theorem sect_put (l : List UInt8) (a s : Nat) (b : List UInt8) (hb : b.length = 128) (ha : (a + 1) * 128 <= l.length) (hs : (s + 1) * 128 <= l.length) : sect (put l (a, b)) s = if a = s then b else sect l s := by
 have hl : (put l (a, b)).length = l.length := length_put l (a, b) hb ha
 apply List.ext_getElem?
 intro i
 by_cases hi : i < 128
 ·have e1 : (sect (put l (a, b)) s)[i]? = (put l (a, b))[s * 128 + i]? := by simp [sect, List.getElem?_take, hi, List.getElem?_drop]
  have e2 : (sect l s)[i]? = l[s * 128 + i]? := by simp [sect, List.getElem?_take, hi, List.getElem?_drop]
  rw [e1]
  have e3 : (put l (a, b))[s * 128 + i]? = if a * 128 <= s * 128 + i /\ s * 128 + i < a * 128 + 128 then b[s * 128 + i - a * 128]? else l[s * 128 + i]? := by
   show (splice l (a * 128) b)[s * 128 + i]? = _
   unfold splice
   have h1 : (l.take (a * 128)).length = a * 128 := by simp; omega
   by_cases h2 : s * 128 + i < a * 128
   ·rw [if_neg (by omega), List.getElem?_append_left (by omega), List.getElem?_take, if_pos h2]
   ·rw [List.getElem?_append_right (by omega), h1]
    by_cases h3 : s * 128 + i < a * 128 + 128
    ·rw [if_pos (by omega), List.getElem?_append_left (by omega)]
    ·rw [if_neg (by omega), List.getElem?_append_right (by omega), List.getElem?_drop, hb]
     have e : a * 128 + 128 + (s * 128 + i - a * 128 - 128) = s * 128 + i := by omega
     rw [e]
  rw [e3]
  by_cases h : a = s
  ·subst h
   rw [if_pos (by omega), if_pos rfl]
   have e : a * 128 + i - a * 128 = i := by omega
   rw [e]
  ·rw [if_neg (by omega), if_neg h, e2]
 ·have h1 := sect_length (put l (a, b)) s (by rw [hl]; exact hs)
  have h2 := sect_length l s hs
  rw [List.getElem?_eq_none (by omega)]
  split
  ·rw [List.getElem?_eq_none (by omega)]
  ·rw [List.getElem?_eq_none (by omega)]
theorem crash_sect (D : Dk) (hok : D.Ok) (keep : List Int) (s : Nat) (hs : (s + 1) * 128 <= D.safe.length) :
  sect (D.crashed keep).safe s = sect D.safe s \/ ∃ q ∈ D.queue, q.1 = s /\ sect (D.crashed keep).safe s = q.2 := by
 suffices h : ∀ (l : List Int) (st : List UInt8 × List Int), st.1.length = D.safe.length -> (sect st.1 s = sect D.safe s \/ ∃ q ∈ D.queue, q.1 = s /\ sect st.1 s = q.2) ->
   (sect (l.foldl (crashF D.queue) st).1 s = sect D.safe s \/ ∃ q ∈ D.queue, q.1 = s /\ sect (l.foldl (crashF D.queue) st).1 s = q.2) from h keep _ rfl (.inl rfl)
 intro l
 induction l with
 | nil => intro st _ h; exact h
 | cons k l ih =>
  intro st hl h
  refine ih _ ?_ ?_
  ·unfold crashF
   split
   ·rename_i x hx
    split
    ·have := hok.fits x (List.mem_of_getElem? hx)
     show (put st.1 x).length = _
     rw [length_put _ _ this.1 (by rw [hl]; exact this.2), hl]
    ·exact hl
   ·exact hl
  ·unfold crashF
   split
   ·rename_i x hx
    split
    ·have hm := List.mem_of_getElem? hx
     have hf := hok.fits x hm
     obtain ⟨xa, xb⟩ := x
     show sect (put st.1 (xa, xb)) s = _ \/ ∃ q ∈ D.queue, q.1 = s /\ sect (put st.1 (xa, xb)) s = q.2
     rw [sect_put st.1 xa s xb hf.1 (by rw [hl]; exact hf.2) (by rw [hl]; exact hs)]
     by_cases e : xa = s
     ·rw [if_pos e]
      exact .inr ⟨_, hm, e, rfl⟩
     ·rw [if_neg e]
      exact h
    ·exact h
   ·exact h
end
section
set_option maxRecDepth 4000
theorem pz_agree (b b' : List UInt8) (k n : Nat) (c : List UInt8) (z : Pz) (hz : pz b k n (pz0 c) = z) (hc : c.length = 32) (hb : b.length = n) (hn : 128 <= n) (hp : b'.take z.used = b.take z.used) (ht : z.sealed_ = true \/ ∃ m, b'.drop z.used = zr m) : pz b' k n (pz0 c) = z := by
 obtain ⟨ts, rest, a1, a2, a3, a4, a5, a6⟩ := pz_told b k n (pz0 c) rfl hc (by rw [hb]; exact hn)
 rw [hz] at a1 a2 a4 a5 a6
 have e0 : (pz0 c).used = 128 := rfl
 have e1 : (pz0 c).texts = [] := rfl
 have e2 : (pz0 c).chain = c := rfl
 rw [e0, e2] at a4 a5
 rw [e1, List.nil_append] at a1
 rw [e2] at a2
 rw [e1, List.length_nil, Nat.zero_add] at a4
 have hm := frs_many ts c
 obtain ⟨bd, hbd⟩ : ∃ bd, bd = frs c ts ++ (if z.sealed_ = true then ft (k + ts.length) (chn c ts) else []) := ⟨_, rfl⟩
 have hbl : bd.length = (frs c ts).length + if z.sealed_ = true then 48 else 0 := by
  rw [hbd, List.length_append]
  split
  ·rw [ft_length, chn_length _ _ hc]
  ·rfl
 have hu : z.used = 128 + bd.length := by rw [a5, hbl]; omega
 have hd : b.drop 128 = bd ++ rest := by rw [a4, hbd, List.append_assoc]
 have hd' : b'.drop 128 = bd ++ b'.drop z.used := by
  have h1 : (b'.take z.used).drop 128 = bd := by
   rw [hp, hu, List.drop_take, Nat.add_sub_cancel_left, hd, List.take_left' rfl]
  have h2 := List.take_append_drop z.used b'
  conv => lhs; rw [<- h2]
  have h3 : 128 <= (b'.take z.used).length := by rw [hp, List.length_take]; omega
  rw [List.drop_append_of_le_length h3, h1]
 obtain ⟨g, hg⟩ : ∃ g, n = (g + 1) + ts.length := ⟨n - ts.length - 1, by omega⟩
 have hrun := pz_run b' k ((if z.sealed_ = true then ft (k + ts.length) (chn c ts) else []) ++ b'.drop z.used) ts (pz0 c) (g + 1) a3 (by show b'.drop 128 = _; rw [hd', hbd, List.append_assoc]; rfl)
 rw [hg, hrun, e1, List.nil_append, e2, e0]
 have hdd : b'.drop (128 + (frs c ts).length) = (if z.sealed_ = true then ft (k + ts.length) (chn c ts) else []) ++ b'.drop z.used := by
  rw [<- List.drop_drop, hd', hbd, List.append_assoc, List.drop_left]
 have hzz : z = ⟨ts, chn c ts, z.sealed_, z.used⟩ := by cases z; simp only at a1 a2; rw [a1, a2]
 cases hse : z.sealed_ with
 | true =>
  rw [hse, if_pos rfl] at hdd
  rw [pz_seal b' k g _ (by
   show pref (b'.drop (128 + (frs c ts).length)) (ft (k + ts.length) (chn c ts)) = true
   rw [hdd]; exact pref_append _ _), hzz]
  rw [hse, if_pos rfl] at hbl
  simp only [hse]
  congr 1
  rw [hu, hbl]
  omega
 | false =>
  rw [hse] at ht hbl
  obtain ⟨m, hm0⟩ : ∃ m, b'.drop z.used = zr m := by
   rcases ht with h | h
   ·cases h
   ·exact h
  rw [hse, if_neg (by decide), List.nil_append, hm0] at hdd
  rw [pz_zeros b' k _ m g hdd, hzz]
  simp only [hse]
  congr 1
  rw [hu, hbl]
  simp
theorem pref_same (b b' q : List UInt8) (m : Nat) (h : b'.take m = b.take m) (hq : q.length <= m) : pref b' q = pref b q := by
 unfold pref
 have : b'.take q.length = b.take q.length := by
  have h1 := congrArg (List.take q.length) h
  rwa [List.take_take, List.take_take, Nat.min_eq_left hq] at h1
 rw [this]
theorem scan_cut : ∀ (f i : Nat) (s : Lg), s.chain.length = 32 -> s.B.length = s.all -> i + f <= s.segs -> 256 <= s.n -> s.end_ <= i * s.n ->
  (∀ B', B'.take (s.scan i f).end_ = s.B.take (s.scan i f).end_ -> B'.drop (s.scan i f).end_ = zr (s.all - (s.scan i f).end_) -> ({ s with B := B' } : Lg).scan i f = { s.scan i f with B := B' }) /\ s.end_ <= (s.scan i f).end_ /\ (s.scan i f).end_ <= s.all
 | 0, i, s, _, _, hi, _, he => ⟨fun _ _ _ => rfl, Nat.le_refl _, Nat.le_trans he (Nat.mul_le_mul_right _ (by omega))⟩
 | f + 1, i, s, hc, hB, hi, hn, he => by
  have hseg : (s.seg i).length = s.n := by
   have h1 : (i + 1) * s.n <= s.segs * s.n := Nat.mul_le_mul_right _ (by omega)
   rw [Nat.add_mul] at h1
   unfold Lg.seg
   rw [List.length_take, List.length_drop, hB]
   unfold Lg.all
   omega
  have hin : (i + 1) * s.n <= s.all := Nat.mul_le_mul_right _ (by omega)
  rw [Nat.add_mul, Nat.one_mul] at hin
  cases hp : pref (s.seg i) (hd i s.texts.length s.chain) with
  | false =>
   rw [Lg.scan_no hp]
   refine ⟨fun B' h1 h2 => ?_, Nat.le_refl _, by omega⟩
   refine Lg.scan_no (s := { s with B := B' }) ?_
   have : (B'.drop (i * s.n)).take s.n = zr s.n := by
    rw [show i * s.n = s.end_ + (i * s.n - s.end_) by omega, <- List.drop_drop, h2, zr_drop, zr_take]
    congr 1
    omega
   show pref ((B'.drop (i * s.n)).take s.n) _ = false
   rw [this]
   exact pref_zeros _ _ _ _
  | true =>
   obtain ⟨z, hz⟩ : ∃ z, z = pz (s.seg i) s.texts.length s.n (pz0 s.chain) := ⟨_, rfl⟩
   have hzb := pz_in' (s.seg i) s.texts.length s.n s.chain hc hseg hn
   rw [<- hz] at hzb
   have hs1 := Lg.scan1_yes hp
   obtain ⟨s1, hs1d⟩ : ∃ s1, s1 = (s.scan1 i).1 := ⟨_, rfl⟩
   rw [<- hs1d, <- hz] at hs1
   have hst := Lg.scan_yes (f := f) hp
   rw [<- hs1d, <- hz] at hst
   have hn1 : s1.n = s.n := by rw [hs1]; rfl
   have he1 : s1.end_ = i * s.n + z.used := by rw [hs1]; rfl
   have hall : s1.all = s.all := by rw [hs1]; rfl
   have hB1 : s1.B = s.B := by rw [hs1]
   have ih := scan_cut f (i + 1) s1 (by rw [hs1]; exact hzb.2.2.1) (by rw [hB1, hall]; exact hB) (by rw [hs1]; show i + 1 + f <= s.segs; omega) (by rw [hn1]; exact hn) (by rw [he1, hn1, Nat.add_mul]; omega)
   rw [hall] at ih
   have hE : s1.end_ <= (s.scan i (f + 1)).end_ /\ (s.scan i (f + 1)).end_ <= s.all := by
    rw [hst]
    split
    ·exact ih.2
    ·exact ⟨Nat.le_refl _, by rw [he1]; omega⟩
   refine ⟨fun B' h1 h2 => ?_, by omega, hE.2⟩
   obtain ⟨E, hEd⟩ : ∃ E, E = (s.scan i (f + 1)).end_ := ⟨_, rfl⟩
   rw [<- hEd] at h1 h2 hE
   have htk : ((B'.drop (i * s.n)).take s.n).take z.used = (s.seg i).take z.used := by
    have h3 : B'.take (i * s.n + z.used) = s.B.take (i * s.n + z.used) := by
     have h4 := congrArg (List.take (i * s.n + z.used)) h1
     rwa [List.take_take, List.take_take, Nat.min_eq_left (by omega)] at h4
    have h5 := congrArg (List.drop (i * s.n)) h3
    rw [List.drop_take, List.drop_take, Nat.add_sub_cancel_left] at h5
    unfold Lg.seg
    rw [List.take_take, List.take_take, Nat.min_eq_left hzb.1]
    exact h5
   have hpz := pz_agree (s.seg i) ((B'.drop (i * s.n)).take s.n) s.texts.length s.n s.chain z hz.symm hc hseg (by omega) htk (by
    cases hse : z.sealed_ with
    | true => exact .inl rfl
    | false =>
     right
     rw [hse, if_neg (by decide)] at hst
     rw [hst, he1] at hEd
     refine ⟨s.n - z.used, ?_⟩
     rw [List.drop_take, List.drop_drop, <- hEd, h2, zr_take]
     congr 1
     omega)
   have hpr : pref ((B'.drop (i * s.n)).take s.n) (hd i s.texts.length s.chain) = true := by
    rw [pref_same _ _ _ z.used htk (by rw [hd_len' _ _ _ hc]; exact hzb.2.1)]
    exact hp
   have hs1' : (({ s with B := B' } : Lg).scan1 i).1 = { s1 with B := B' } := by
    have := Lg.scan1_yes (s := { s with B := B' }) (j := i) hpr
    rw [this, hs1]
    show ({ s with B := B', texts := s.texts ++ (pz ((B'.drop (i * s.n)).take s.n) s.texts.length s.n (pz0 s.chain)).texts, chain := (pz ((B'.drop (i * s.n)).take s.n) s.texts.length s.n (pz0 s.chain)).chain, last := i, used := (pz ((B'.drop (i * s.n)).take s.n) s.texts.length s.n (pz0 s.chain)).used, sealed_ := (pz ((B'.drop (i * s.n)).take s.n) s.texts.length s.n (pz0 s.chain)).sealed_ } : Lg) = _
    rw [hpz]
   have hst' := Lg.scan_yes (s := { s with B := B' }) (j := i) (f := f) hpr
   rw [hs1'] at hst'
   rw [show (pz (Lg.seg { s with B := B' } i) s.texts.length (Lg.n { s with B := B' }) (pz0 s.chain)) = z from hpz] at hst'
   rw [hst', hst]
   split
   ·rename_i hse
    rw [hse, if_pos rfl] at hst
    refine ih.1 B' ?_ ?_
    ·rw [<- hst, <- hEd, hB1]; exact h1
    ·rw [<- hst, <- hEd]; exact h2
   ·rfl
theorem opened_again {segs size : Nat} {X : List UInt8} (h1 : 1 <= segs /\ segs <= 256) (h2 : 2 <= size /\ size <= 512) (hX : X.length = segs * size * 128) :
  (Lg.opened segs size (Lg.opened segs size X).B).texts = (Lg.opened segs size X).texts /\ (Lg.opened segs size (Lg.opened segs size X).B).chain = (Lg.opened segs size X).chain := by
 have hok := Lg.init_ok h1 h2 hX
 have hc := scan_cut segs 0 (Lg.init segs size X) hok.chain hok.oct (by show 0 + segs <= segs; omega) hok.n_le.1 (by show 0 * _ + 0 <= _; omega)
 have hfx := Lg.scan_fix segs (Lg.init segs size X) 0
 obtain ⟨t, ht⟩ : ∃ t, t = (Lg.init segs size X).scan 0 segs := ⟨_, rfl⟩
 rw [<- ht] at hc hfx
 have hB : (Lg.opened segs size X).B = X.take t.end_ ++ zr ((Lg.init segs size X).all - t.end_) := by
  show (Lg.told segs size X).B.take (Lg.told segs size X).end_ ++ zr ((Lg.told segs size X).all - (Lg.told segs size X).end_) = _
  unfold Lg.told
  rw [<- ht, hfx.2.2.1]
  unfold Lg.all Lg.n
  rw [hfx.1, hfx.2.1]
  rfl
 have hl : (X.take t.end_).length = t.end_ := by
  rw [List.length_take, Nat.min_eq_left]
  have := hc.2.2
  rw [hok.oct.symm] at this
  exact this
 have := hc.1 (Lg.opened segs size X).B (by rw [hB, seg_first hl]; rfl) (by rw [hB, seg_next hl])
 constructor
 ·show ((Lg.init segs size (Lg.opened segs size X).B).scan 0 segs).texts = ((Lg.init segs size X).scan 0 segs).texts
  rw [show Lg.init segs size (Lg.opened segs size X).B = { Lg.init segs size X with B := (Lg.opened segs size X).B } from rfl, this, ht]
 ·show ((Lg.init segs size (Lg.opened segs size X).B).scan 0 segs).chain = ((Lg.init segs size X).scan 0 segs).chain
  rw [show Lg.init segs size (Lg.opened segs size X).B = { Lg.init segs size X with B := (Lg.opened segs size X).B } from rfl, this, ht]
theorem scan_fine : ∀ (f i : Nat) (s : Lg), s.Ok -> i + f <= s.segs -> s.texts.length + f * s.n <= 100000000 -> Fine s.texts -> Fine (s.scan i f).texts /\ (s.scan i f).texts.length <= s.texts.length + f * s.n
 | 0, i, s, _, _, _, hf => ⟨hf, by show s.texts.length <= _; omega⟩
 | f + 1, i, s, hok, hi, hm, hf => by
  rw [Nat.add_mul, Nat.one_mul] at hm
  have hsg := (hok.seg (j := i) (by omega)).1
  cases hp : pref (s.seg i) (hd i s.texts.length s.chain) with
  | false => rw [Lg.scan_no hp]; exact ⟨hf, by omega⟩
  | true =>
   have h1 := hok.scan1 (j := i) (by omega) (by omega)
   have ht := congrArg Lg.texts (Lg.scan1_yes hp)
   obtain ⟨ts, _, a1, _, a3, _⟩ := pz_told (s.seg i) s.texts.length s.n (pz0 s.chain) rfl hok.chain (by rw [hsg]; have := hok.n_le; show 128 <= s.n; omega)
   have hf1 : Fine (s.scan1 i).1.texts := by
    rw [ht]
    show Fine (s.texts ++ (pz (s.seg i) s.texts.length s.n (pz0 s.chain)).texts)
    rw [a1]
    intro t ht
    rcases List.mem_append.1 ht with h | h
    ·exact hf t h
    ·exact a3 t (by simpa [pz0] using h)
   have hn : (s.scan1 i).1.n = s.n := by unfold Lg.n; rw [h1.2.2.2.2]
   rw [Lg.scan_yes hp]
   split
   ·have ih := scan_fine f (i + 1) (s.scan1 i).1 h1.1 (by rw [h1.2.2.2.1]; omega) (by rw [hn]; have := h1.2.1; omega) hf1
    rw [hn] at ih
    rw [Nat.add_mul, Nat.one_mul]
    exact ⟨ih.1, by have := ih.2; have := h1.2.1; omega⟩
   ·rw [Nat.add_mul, Nat.one_mul]
    exact ⟨hf1, by have := h1.2.1; omega⟩
theorem scan_ok : ∀ (f i : Nat) (s : Lg), s.Ok -> i + f <= s.segs -> s.texts.length + f * s.n <= 100000000 -> (s.scan i f).Ok
 | 0, i, s, hok, _, _ => hok
 | f + 1, i, s, hok, hi, hm => by
  rw [Nat.add_mul, Nat.one_mul] at hm
  cases hp : pref (s.seg i) (hd i s.texts.length s.chain) with
  | false => rw [Lg.scan_no hp]; exact hok
  | true =>
   have h1 := hok.scan1 (j := i) (by omega) (by omega)
   have hn : (s.scan1 i).1.n = s.n := by unfold Lg.n; rw [h1.2.2.2.2]
   rw [Lg.scan_yes hp]
   split
   ·exact scan_ok f (i + 1) (s.scan1 i).1 h1.1 (by rw [h1.2.2.2.1]; omega) (by rw [hn]; have := h1.2.1; omega)
   ·exact h1.1
theorem told_ok {segs size : Nat} {X : List UInt8} (h1 : 1 <= segs /\ segs <= 16) (h2 : 2 <= size /\ size <= 16) (hX : X.length = segs * size * 128) : (Lg.told segs size X).Ok := by
 have hok := Lg.init_ok (segs := segs) (size := size) (X := X) (by omega) (by omega) hX
 have hb : segs * (size * 128) <= 16 * 2048 := Nat.mul_le_mul h1.2 (by omega)
 exact scan_ok segs 0 (Lg.init segs size X) hok (by show 0 + segs <= segs; omega) (by show 0 + segs * (size * 128) <= _; omega)
/-! ### What was sure is told -/
theorem scan_more : ∀ (f i : Nat) (s : Lg), ∃ more, (s.scan i f).texts = s.texts ++ more
 | 0, _, s => ⟨[], by simp [Lg.scan]⟩
 | f + 1, i, s => by
  cases hp : pref (s.seg i) (hd i s.texts.length s.chain) with
  | false => exact ⟨[], by rw [Lg.scan_no hp]; simp⟩
  | true =>
   rw [Lg.scan_yes hp]
   have h1 := congrArg Lg.texts (Lg.scan1_yes hp)
   split
   ·obtain ⟨more, hm⟩ := scan_more f (i + 1) (s.scan1 i).1
    rw [h1] at hm
    exact ⟨_, by rw [hm, List.append_assoc]⟩
   ·exact ⟨_, h1⟩
/-! ### The region behind a crash -/
end
section
set_option maxRecDepth 4000
open Go.RowKit
/-! ### Plain -/
theorem zsafe (N : Nat) : (Dk.new N).safe = zr (N * 128) := rfl
theorem dknew_ok {N : Nat} (h1 : 1 <= N) (h2 : N <= 1000) : (Dk.new N).Ok := by
 have hl : (Dk.new N).safe.length = N * 128 := by rw [zsafe, zr_length]
 exact ⟨by rw [hl]; exact ⟨N, by omega⟩, by rw [hl]; omega, by rw [hl]; omega, (fun q hq => by cases hq), by show (-9223372036854775808 : Int) <= -1; omega, by show (-1 : Int) <= 9223372036854775807; omega⟩
theorem dknew_piece (N f P : Nat) (h : f + P <= N) : (Dk.new N).piece f P = zr (P * 128) := by
 unfold Dk.piece
 rw [image_idle (show (Dk.new N).queue = [] from rfl), zsafe, zr_drop, zr_take]
 congr 1
 have : (f + P) * 128 <= N * 128 := Nat.mul_le_mul_right _ h
 rw [Nat.add_mul] at this
 omega
theorem dknew_opened (N f sg sz : Nat) (h1 : 1 <= sg) (h2 : 1 <= sz) (h : f + sg * sz <= N) : (Dk.new N).opened f sg sz = Dk.new N := by
 obtain ⟨n, rfl⟩ : ∃ n, sg = n + 1 := ⟨sg - 1, by omega⟩
 have hz := dknew_piece N f ((n + 1) * sz) h
 have htold : Lg.told (n + 1) sz ((Dk.new N).piece f ((n + 1) * sz)) = Lg.init (n + 1) sz ((Dk.new N).piece f ((n + 1) * sz)) := by
  unfold Lg.told
  refine scan_zero _ _ ?_
  show (Dk.new N).piece f ((n + 1) * sz) = zr ((n + 1) * (sz * 128))
  rw [seg_all, hz]
 have hend : (Lg.init (n + 1) sz ((Dk.new N).piece f ((n + 1) * sz))).end_ = 0 := by show 0 * _ + 0 = 0; omega
 have hcutB : (Lg.init (n + 1) sz ((Dk.new N).piece f ((n + 1) * sz))).cut.B = zr ((n + 1) * sz * 128) := by
  show ((Dk.new N).piece f ((n + 1) * sz)).take (Lg.init (n + 1) sz ((Dk.new N).piece f ((n + 1) * sz))).end_ ++ zr ((n + 1) * (sz * 128) - (Lg.init (n + 1) sz ((Dk.new N).piece f ((n + 1) * sz))).end_) = _
  rw [hend, List.take_zero, List.nil_append, Nat.sub_zero, seg_all]
 have hP : 0 < (n + 1) * sz := Nat.mul_pos (by omega) (by omega)
 unfold Dk.opened
 rw [htold, hend, hcutB]
 unfold Dk.cut
 rw [Nat.zero_div, if_pos hP, Nat.zero_mul, List.drop_zero, Nat.sub_zero]
 have him := image_push (D := Dk.new N) rfl (f + 0) ((n + 1) * sz) (zr ((n + 1) * sz * 128)) (zr_length _) (by rw [zsafe, zr_length]; exact Nat.mul_le_mul_right _ h)
 generalize (n + 1) * sz = Pz at him h ⊢
 unfold Dk.flushed
 rw [him, zsafe, zr_take, zr_drop, zr_add, zr_add]
 have e : min ((f + 0) * 128) (N * 128) + (Pz * 128 + (N * 128 - (f + 0 + Pz) * 128)) = N * 128 := by omega
 rw [e]
 rfl
theorem slos_zero (n : Nat) : slos (cl (List.replicate n none)) = zr (n * 256) := slos_fresh n
theorem kopen_fresh (n N : Nat) (h0 : 1 <= n) (h64 : n <= 64) (hN : 2 * n <= N) (h2 : N <= 1000) (b : Nat) (F : Nat -> Prop) (w : World) (hD : DiskAt w b F (Dk.new N)) (hF : ∀ k, F k -> k < w.heap.size) :
  Calls Tryz.prog 77 #[.pointer (some ⟨b, 0, none⟩), .int .i64 0, .int .i64 n] w fun e w' => ∃ t sg E D', e = .returned (.tuple #[.pointer (some ⟨t, 0, none⟩), Value.nilIface]) /\ KTo w F t b sg (0 : Nat) E false D' w' /\ (E = List.replicate n none /\ D' = Dk.new N) := by
 have hQ : ∀ q ∈ List.replicate n (none : Kd), KdOk q := fun q hq => by
  rw [List.eq_of_mem_replicate hq]
  intro p hp; cases hp
 have hn : ∀ (k : Nat) (s : Sl), (cl (List.replicate n none))[k]? = some s -> s.1 = none := fun k s hs => by
  unfold cl at hs
  rw [List.getElem?_map, List.getElem?_replicate] at hs
  split at hs
  ·injection hs with hs; rw [<- hs]
  ·cases hs
 have hlen : (cl (List.replicate n none)).length = n := by rw [cl_length, List.length_replicate]
 have h := open_any' b 0 (cl (List.replicate n none)) (Dk.new N) F w hD hF (dknew_ok (by omega) h2) rfl rfl (by omega) (by omega) (by omega) (by rw [hlen, zsafe, zr_length]; exact Nat.mul_le_mul_right _ (by omega)) (cl_ok hQ)
  (by rw [hlen, dknew_piece _ _ _ (by omega), slos_zero]; congr 1; omega) (fun i j p q Y Z h1 => by have := hn i _ h1; cases this)
 rw [hlen] at h
 refine h.mono ?_
 rintro e w' ⟨t, sg, E, D', he, hl, hE, hto, hsame⟩
 have hD' : D' = Dk.new N := hsame fun s hs => by
  obtain ⟨q, hq, rfl⟩ := List.mem_map.1 hs
  rfl
 have hEE : E = List.replicate n none := by
  refine List.ext_getElem? fun k => ?_
  rw [List.getElem?_replicate]
  split
  ·rename_i hk
   obtain ⟨e, h1, h2⟩ := hE k (none, enc none) (by unfold cl; rw [List.getElem?_map, List.getElem?_replicate, if_pos hk]; rfl)
   rw [h1, keD_none h2]
  ·rename_i hk
   exact List.getElem?_eq_none (by omega)
 exact ⟨t, sg, E, D', he, hto, hEE, hD'⟩
def St.fresh (sl sg sz : Nat) : St := { slots := sl, segs := sg, size := sz, D := Dk.new (2 * sl + sg * sz), E := List.replicate sl none, dead := false, s := Lg.opened sg sz (zr (sg * sz * 128)), l := [], atoms := 0, eps := [] }
theorem pool_new {w : World} {base base' p : Nat} (h : PoolIs w base p []) (hb : base' <= base) : PoolIn w base' p [] (fun k => base <= k /\ k < w.heap.size) := by
 obtain ⟨tA, tc, mb, dA, dc, sA, sc, hP⟩ := h
 have h1 := hP.lt
 exact ⟨tA, tc, mb, dA, dc, sA, sc, ⟨hP.blk, own_base hP.ts hb, own_base hP.ds hb, own_base hP.ss hb, hP.mp, hP.ne, ⟨Nat.le_trans hb hP.lo.1, Nat.le_trans hb hP.lo.2⟩⟩, ⟨⟨hP.lo.1, h1.1⟩, ⟨hP.lo.2, h1.2⟩, fun g hg => hP.ts.lt g hg, fun g hg => hP.ds.lt g hg, fun g hg => hP.ss.lt g hg⟩⟩
set_option maxHeartbeats 4000000 in
theorem new_r (sl sg sz : Nat) (h1 : 1 <= sl /\ sl <= 8) (h2 : 1 <= sg /\ sg <= 8) (h3 : 3 <= sz /\ sz <= 16) (w : World) (hT : TabsS w) (hbt : ∀ k, w.heap.size <= k -> k ≠ 3 /\ k ≠ 2) :
  Calls Tryz.prog 15 #[.int .i64 sl, .int .i64 sg, .int .i64 sz] w fun e w' => (∃ a F K L P T, e = .returned (.tuple #[.pointer (some ⟨a.r, 0, none⟩), Value.nilIface]) /\ Rn w' w.heap.size (St.fresh sl sg sz) a F K L P T) /\ Below w.heap.size w w' := by
 have hPl : sg * sz <= 8 * 16 := Nat.mul_le_mul h2.2 h3.2
 have hPg : 1 * 3 <= sg * sz := Nat.mul_le_mul h2.1 h3.1
 obtain ⟨N, hN⟩ : ∃ N, N = 2 * sl + sg * sz := ⟨_, rfl⟩
 have hi1 : IntKind.i64.wrap (2 * (sl : Int)) = ((2 * sl : Nat) : Int) := (IntWalk.i64_in _ (by omega)).trans (by omega)
 have hi2 : IntKind.i64.wrap ((sg : Int) * (sz : Int)) = ((sg * sz : Nat) : Int) := by
  rw [show (sg : Int) * (sz : Int) = ((sg * sz : Nat) : Int) by simp]
  exact IntWalk.i64_in _ (by omega)
 have hi3 : IntKind.i64.wrap (((2 * sl : Nat) : Int) + ((sg * sz : Nat) : Int)) = (N : Int) := (IntWalk.i64_in _ (by omega)).trans (by omega)
 obtain ⟨M, hM⟩ : ∃ M, M = 2 * sl := ⟨_, rfl⟩
 obtain ⟨Pz, hPz⟩ : ∃ P, P = sg * sz := ⟨_, rfl⟩
 rw [<- hM] at hi1 hi3
 rw [<- hPz] at hi2 hi3
 have HNN := Lh (Ai hN (Ai hM hPz))
 have hNb : 5 <= N /\ N <= 200 := by omega
 have a1 : ¬ (sl : Int) < 1 := by omega
 have a2 : ¬ (8 : Int) < (sl : Int) := by omega
 have b1 : ¬ (sg : Int) < 1 := by omega
 have b2 : ¬ (8 : Int) < (sg : Int) := by omega
 have z1 : ¬ (sz : Int) < 3 := by omega
 have z2 : ¬ (16 : Int) < (sz : Int) := by omega
 have HD := Lh (new_good N w (by omega) (by omega))
 have HT := Lh (Ai hT hbt)
 clear hPl hPg hN hM hPz hT hbt
 go_enter Tryz.func15, Tryz.ntmps15
 go_wp2_with fail
 refine HD.out.mono ?_
 rintro e w1 ⟨⟨b, F, rfl, hD, hF⟩, hb1⟩
 have HTN := Lh (tnew_any w1.heap.size w1 (Nat.le_refl _))
 have H1 := Lh (Ai hD (Ai hF hb1))
 clear hD hF hb1 HD
 go_wp2_with fail
 refine HTN.out.mono ?_
 rintro e w2 ⟨p, rfl, hpl, hb2, hpb⟩
 have H2 := Lh (Ai hpl (Ai hb2 hpb))
 clear hpl hb2 hpb HTN
 go_wp2_with fail
 obtain ⟨r, hr⟩ : ∃ r, r = w2.heap.size := ⟨_, rfl⟩
 obtain ⟨w3, hw3⟩ : ∃ w3, w3 = w2.alloc (.cells #[.pointer (some ⟨b, 0, none⟩), .int .i64 sl, .int .i64 sg, .int .i64 sz, .pointer none, .pointer none, .pointer (some ⟨p, 0, none⟩), .int .i64 0, .slice none 0 0] 91) := ⟨_, rfl⟩
 have hal : Below w2.heap.size w2 w3 := hw3 ▸ (Below.refl _ _).alloc (Nat.le_refl _) _
 have hz1 := H1.out.2.2.size
 have hz2 := H2.out.2.1.size
 have hz3 : w3.heap.size = w2.heap.size + 1 := by rw [hw3]; simp
 have hpre : RPre w3 w.heap.size (St.fresh sl sg sz) ⟨r, b, 0, 0, 0, p, none, 0, 0, 0, none, 0, none, 0, []⟩ (.pointer none) (.pointer none) F (fun k => w1.heap.size <= k /\ k < w2.heap.size) (fun k => if k < w1.heap.size then 1 else if k < w2.heap.size then 4 else 5) := by
  refine ⟨?_, World.ownsRow_nil _ _ _ _, ?_, (pool_new H2.out.1 hz1).below hal, fun k hk => ?_, fun k hk => ?_, fun k hk => ?_, fun k o hk => by cases hk⟩
  ·rw [hw3, hr]; exact Blk.new _ _ _
  ·have := (H1.out.1.below H2.out.2.1).below hal
   rw [HNN.out.1] at this
   exact this
  ·have := H1.out.2.1 k hk
   rw [if_pos this.2]
   exact ⟨rfl, this.1, by omega⟩
  ·rw [if_neg (by omega), if_pos hk.2]
   exact ⟨rfl, by omega, by omega⟩
  ·rcases hk with hk | hk
   ·have hk : k = r := hk
    rw [hk]
    show (if r < _ then 1 else if r < _ then 4 else 5) = 5 /\ _ <= r /\ r < _
    rw [if_neg (by omega), if_neg (by omega)]
    exact ⟨rfl, by omega, by omega⟩
   ·simp [Value.ownBlock] at hk
 have hb3 : Below w.heap.size w w3 := (H1.out.2.2.trans (H2.out.2.1.mono hz1)).trans (hal.mono (by omega))
 have hTB : TabsB w.heap.size w3 := HT.out.1.at_.below hb3
 have hdr : Below w3.heap.size w3 w3.drew := ⟨rfl, rfl, rfl, Nat.le_refl _, fun _ _ => rfl⟩
 have hko := kopen_fresh sl N h1.1 (by omega) (by rw [HNN.out.1]; omega) (by omega) b F w3.drew (by have := (hpre.below hdr).disk; rw [HNN.out.1]; exact this) (fun k hk => (hpre.tF k hk).2.2)
 have HO := Lh (open_r hpre hTB HT.out.2 h1.2 h2 (show 2 <= sz /\ sz <= 16 by omega) (fun E D' => E = List.replicate sl none /\ D' = Dk.new N) hko (by
  rintro E D' ⟨-, rfl⟩
  refine ⟨dknew_ok (by omega) (by omega), rfl, rfl, ?_⟩
  rw [zsafe, zr_length]
  show (2 * sl + sg * sz) * 128 <= N * 128
  rw [HNN.out.1]
  exact Nat.le_refl _))
 rw [<- hr, <- hw3]
 have HB := Lh hb3
 clear hr hw3 hal hz1 hz2 hz3 hpre hb3 hTB hdr hko
 refine HO.out.mono ?_
 rintro e w4 ⟨rfl, ⟨E, D1, a, F', K', L', T', ⟨rfl, rfl⟩, ha, hR⟩, hb4⟩
 have H4 := Lh (Ai hR (Ai (HB.out.trans hb4) ha))
 clear hR hb4 ha HO
 go_wp2_with fail
 go_ret2
 refine ⟨⟨a, F', K', L', (fun k => w1.heap.size <= k /\ k < w2.heap.size), T', ?_, ?_⟩, H4.out.2.1⟩
 ·have e : a.r = r := H4.out.2.2
  show Ending.returned (.tuple #[.pointer (some ⟨r, 0, none⟩), Value.nilIface]) = _
  rw [e]
 ·have hR := H4.out.1
  have e1 : (Dk.new N).opened (2 * (St.fresh sl sg sz).slots) (St.fresh sl sg sz).segs (St.fresh sl sg sz).size = Dk.new (2 * sl + sg * sz) := by
   rw [HNN.out.1]
   exact dknew_opened (2 * sl + sg * sz) (2 * sl) sg sz h2.1 (by omega) (Nat.le_refl _)
  have e2 : (Dk.new N).piece (2 * (St.fresh sl sg sz).slots) ((St.fresh sl sg sz).segs * (St.fresh sl sg sz).size) = zr (sg * sz * 128) := by
   rw [HNN.out.1]
   exact dknew_piece (2 * sl + sg * sz) (2 * sl) (sg * sz) (Nat.le_refl _)
  rw [e1, e2] at hR
  exact hR
end
end Go.Proofs.YtkgaeoeibjoljaaGreatDoor
