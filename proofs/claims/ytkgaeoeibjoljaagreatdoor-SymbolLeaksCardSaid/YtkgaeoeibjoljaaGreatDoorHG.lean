/-
  Logs on the grid, plain: what is put at the end, and what is cut, stays on it.
  Logs, plain: one text more, and a log that is opened, are laid; where a text lies.
  A disk's sectors: what each may have; a log on a disk whose power may be off.
-/
import Derived.Test.YtkgaeoeibjoljaaGreatDoorHF
import Derived.Test.YtkgaeoeibjoljaaGreatDoorHD
import Derived.Test.YtkgaeoeibjoljaaGreatDoorKey12
namespace Go.Proofs.YtkgaeoeibjoljaaGreatDoor
section
set_option maxRecDepth 4000
def FieldOk (n q v : Nat) : Prop := v = 0 \/ v = 4294967295 \/ (v = 144 /\ 128 + 184 * q + 232 <= n)
def four (X : List UInt8) (p : Nat) : List UInt8 := (X.drop p).take 4
theorem pzN_four {r : List UInt8} (h : 4 <= r.length) : pzN r = vl (r.take 4) := by
 unfold pzN eyeN
 rw [if_pos (by omega)]
theorem four_get {X Y : List UInt8} {p q : Nat} (h : ∀ i, i < 4 -> X[p + i]? = Y[q + i]?) : four X p = four Y q := by
 unfold four
 refine List.ext_getElem? fun i => ?_
 rw [List.getElem?_take, List.getElem?_take]
 split
 ·rename_i hi
  rw [List.getElem?_drop, List.getElem?_drop]
  exact h i hi
 ·rfl
def GridA (segs n : Nat) (X : List UInt8) : Prop := ∀ i q, i < segs -> 128 + 184 * q + 4 <= n -> FieldOk n q (vl (four X (i * n + (128 + 184 * q))))
theorem in_seg {segs n i p : Nat} (hi : i < segs) (hp : p <= n) : i * n + p <= segs * n := by
 have : (i + 1) * n <= segs * n := Nat.mul_le_mul_right _ hi
 rw [Nat.add_mul, Nat.one_mul] at this
 omega
theorem grid_iff {segs n : Nat} {X : List UInt8} (hX : X.length = segs * n) : GridX segs n X ↔ GridA segs n X := by
 have key : ∀ i q, i < segs -> 128 + 184 * q + 4 <= n -> pzN (((X.drop (i * n)).take n).drop (128 + 184 * q)) = vl (four X (i * n + (128 + 184 * q))) := fun i q hi hq => by
  have hs := in_seg (p := n) hi (Nat.le_refl _)
  rw [pzN_four]
  ·congr 1
   unfold four
   rw [List.drop_take, List.take_take, List.drop_drop, Nat.min_eq_left (by omega)]
  ·rw [List.length_drop, List.length_take, List.length_drop, hX]
   omega
 constructor
 ·intro h i q hi hq
  rw [<- key i q hi hq]
  exact h i hi q hq
 ·intro h i hi q hq
  have := h i q hi hq
  rw [<- key i q hi hq] at this
  exact this
theorem splice_get (l b : List UInt8) (e i : Nat) (h : e <= l.length) : (splice l e b)[i]? = if i < e then l[i]? else if i < e + b.length then b[i - e]? else l[i]? := by
 have he : (l.take e).length = e := by rw [List.length_take]; omega
 unfold splice
 split
 ·rename_i hi
  rw [List.getElem?_append_left (by omega), List.getElem?_take, if_pos hi]
 ·rename_i hi
  rw [List.getElem?_append_right (by omega), he]
  split
  ·rw [List.getElem?_append_left (by omega)]
  ·rw [List.getElem?_append_right (by omega), List.getElem?_drop]
   congr 1
   omega
theorem four_off {l b : List UInt8} {e p : Nat} (h : e <= l.length) (hp : p + 4 <= e \/ e + b.length <= p) : four (splice l e b) p = four l p := by
 refine four_get fun i hi => ?_
 rw [splice_get _ _ _ _ h]
 rcases hp with hp | hp
 ·rw [if_pos (by omega)]
 ·rw [if_neg (by omega), if_neg (by omega)]
theorem four_on {l b : List UInt8} {e : Nat} (h : e <= l.length) (hb : 4 <= b.length) : four (splice l e b) e = b.take 4 := by
 have : four (splice l e b) e = four b 0 := four_get fun i hi => by
  rw [splice_get _ _ _ _ h, if_neg (by omega), if_pos (by omega)]
  congr 1
  omega
 rw [this]
 rfl
theorem grid_put {segs n i0 u : Nat} {B x : List UInt8} (hB : B.length = segs * n) (h : GridA segs n B) (hi : i0 < segs) (hu : u + x.length <= n) (h8 : n % 8 = 0)
  (hx : (u = 0 /\ x.length <= 128) \/ ∃ m, u = 128 + 184 * m /\ 4 <= x.length /\ x.length <= 184 /\ FieldOk n m (vl (x.take 4))) : GridA segs n (splice B (i0 * n + u) x) := by
 intro i q hiq hq
 have he : i0 * n + u <= B.length := by rw [hB]; exact in_seg hi (by omega)
 have far : i ≠ i0 -> i * n + (128 + 184 * q) + 4 <= i0 * n + u \/ i0 * n + u + x.length <= i * n + (128 + 184 * q) := fun hne => by
  rcases Nat.lt_or_gt_of_ne hne with hlt | hgt
  ·have : (i + 1) * n <= i0 * n := Nat.mul_le_mul_right _ hlt
   rw [Nat.add_mul, Nat.one_mul] at this
   left; omega
  ·have : (i0 + 1) * n <= i * n := Nat.mul_le_mul_right _ hgt
   rw [Nat.add_mul, Nat.one_mul] at this
   right; omega
 by_cases hne : i = i0
 ·subst hne
  rcases hx with ⟨rfl, hl⟩ | ⟨m, rfl, hl4, hl, hf⟩
  ·rw [four_off he (.inr (by omega))]
   exact h i q hiq hq
  ·by_cases hqm : q = m
   ·subst hqm
    rw [four_on he hl4]
    exact hf
   ·rw [four_off he (by omega)]
    exact h i q hiq hq
 ·rw [four_off he (far hne)]
  exact h i q hiq hq
theorem take4_ft (k : Nat) (c : List UInt8) : vl ((ft k c).take 4) = 4294967295 := by
 obtain ⟨r, hr⟩ := ft_front k c
 rw [hr, take_be4, vl_be4 _ (by omega)]
theorem take4_frm (c t : List UInt8) (h : t.length = 144) : vl ((frm c t).take 4) = 144 := by
 obtain ⟨r, hr⟩ := frm_front c t
 rw [hr, take_be4, h, vl_be4 _ (by omega)]
theorem n_mod (s : Lg) : s.n % 8 = 0 := by unfold Lg.n; omega
theorem grid_begin {s : Lg} {t : List UInt8} (hB : s.B.length = s.all) (h : GridA s.segs s.n s.B) (hc : s.chain.length = 32) {k : Nat} (hk : k < s.segs) (ht : t.length = 144) (hn : 360 <= s.n) : GridA s.segs s.n ((s.begin_ k).lay t).B := by
 have hh : (hd k s.texts.length s.chain).length = 128 := hd_len' _ _ _ hc
 have h1 : GridA s.segs s.n (splice s.B (k * s.n + 0) (hd k s.texts.length s.chain)) := grid_put hB h hk (by omega) (n_mod s) (.inl ⟨rfl, by omega⟩)
 have hl : (splice s.B (k * s.n + 0) (hd k s.texts.length s.chain)).length = s.segs * s.n := by
  rw [length_splice _ _ _ (by rw [hB, hh]; exact in_seg (p := 0 + 128) hk (by omega)), hB]
  rfl
 have h2 := grid_put (x := frm s.chain t) (u := 128) hl h1 hk (by rw [frm_length]; omega) (n_mod s) (.inr ⟨0, rfl, by rw [frm_length]; omega, by rw [frm_length]; omega, by rw [take4_frm _ _ ht]; exact .inr (.inr ⟨rfl, by omega⟩)⟩)
 have e : ((s.begin_ k).lay t).B = splice (splice s.B (k * s.n + 0) (hd k s.texts.length s.chain)) (k * s.n + 128) (frm s.chain t) := by
  show splice (splice s.B (k * s.n + 0) (hd k s.texts.length s.chain)) (k * s.n + (0 + (hd k s.texts.length s.chain).length)) (frm s.chain t) = _
  rw [hh]
 rw [e]
 exact h2
theorem GLog.grid {s : Lg} (hg : GLog s) (hok : s.Ok) (h : GridA s.segs s.n s.B) {t : List UInt8} (ht : t.length = 144) (he : s.err 144 = 0) : GridA (s.append t).segs (s.append t).n (s.append t).B := by
 have hf : fitsF s.n 128 144 = true := by
  unfold Lg.err at he
  cases hd : s.dead with
  | true => rw [hd] at he; cases he
  | false =>
   rw [hd] at he
   cases hq : fitsF s.n 128 144 with
   | true => rfl
   | false => rw [hq] at he; cases he
 have hn : 360 <= s.n := by have := (fitsF_iff.1 hf).2.2; omega
 have hB : s.B.length = s.all := hok.oct
 unfold Lg.append
 rw [ht]
 unfold Lg.room
 split
 ·exact grid_begin hB h hok.chain (by have := hok.segs; omega) ht hn
 ·rename_i h0
  have hl := hok.last
  split
  ·rename_i h1
   refine grid_begin hB h hok.chain ?_ ht hn
   unfold Lg.err at he
   split at he
   ·cases he
   ·split at he
    ·cases he
    ·split at he
     ·cases he
     ·rename_i _ _ h3
      have hfs : s.fits 144 = false := by unfold Lg.fits; rw [h1]; simp
      have : ¬ (s.last + 1 = s.segs) := fun e => h3 ⟨by omega, hfs, e⟩
      omega
  ·rename_i h1
   have h1 : s.sealed_ = false := by simpa using h1
   have hfoot := hg.foot h1
   obtain ⟨m, hm⟩ : ∃ m, s.used = 128 + 184 * m := by
    rcases hg.used with e | ⟨_, m, e⟩ | ⟨e, _⟩
    ·exact absurd e h0
    ·exact ⟨m, e⟩
    ·rw [h1] at e; cases e
   split
   ·rename_i h2
    have hfl : (ft s.texts.length s.chain).length = 48 := by rw [ft_length, hok.chain]
    have h3 : GridA s.segs s.n (s.put (ft s.texts.length s.chain)).B := grid_put (x := ft s.texts.length s.chain) (u := s.used) hB h hl (by omega) (n_mod s) (.inr ⟨m, hm, by omega, by omega, by rw [take4_ft]; exact .inr (.inl rfl)⟩)
    have hlen : (s.put (ft s.texts.length s.chain)).B.length = s.all := by
     show (splice s.B (s.last * s.n + s.used) _).length = _
     rw [length_splice _ _ _ (by rw [hB, hfl, Nat.add_assoc]; exact in_seg hl hfoot), hB]
    refine grid_begin (s := s.put (ft s.texts.length s.chain)) hlen h3 hok.chain ?_ ht hn
    show s.last + 1 < s.segs
    unfold Lg.err at he
    split at he
    ·cases he
    ·split at he
     ·cases he
     ·split at he
      ·cases he
      ·rename_i _ _ h3
       have : ¬ (s.last + 1 = s.segs) := fun e => h3 ⟨by omega, h2, e⟩
       omega
   ·rename_i h2
    have h2 : s.fits 144 = true := by simpa using h2
    have h6 := (fitsF_iff.1 (Lg.fits_iff.1 h2).2.2).2.2
    show GridA s.segs s.n (splice s.B (s.last * s.n + s.used) (frm s.chain t))
    exact grid_put (x := frm s.chain t) (u := s.used) hB h hl (by rw [frm_length]; omega) (n_mod s) (.inr ⟨m, hm, by rw [frm_length]; omega, by rw [frm_length]; omega, by rw [take4_frm _ _ ht]; exact .inr (.inr ⟨rfl, by omega⟩)⟩)
theorem four_zeros (z p : Nat) : vl (four (zr z) p) = 0 := by
 unfold four
 rw [zr_drop]
 exact vl_zeros _
theorem grid_cut {segs n e : Nat} {X : List UInt8} (hX : X.length = segs * n) (h : GridA segs n X) (he : e <= segs * n) (h8 : n % 8 = 0) (he8 : e % 8 = 0) : GridA segs n (X.take e ++ zr (segs * n - e)) := by
 intro i q hi hq
 have hl : (X.take e).length = e := by rw [List.length_take]; omega
 have hp8 : (i * n + (128 + 184 * q)) % 8 = 0 := by
  obtain ⟨m, rfl⟩ : ∃ m, n = 8 * m := ⟨n / 8, by omega⟩
  rw [show i * (8 * m) = 8 * (i * m) by rw [Nat.mul_left_comm]]
  omega
 by_cases hlt : i * n + (128 + 184 * q) + 4 <= e
 ·have : four (X.take e ++ zr (segs * n - e)) (i * n + (128 + 184 * q)) = four X (i * n + (128 + 184 * q)) := four_get fun j hj => by
   rw [List.getElem?_append_left (by omega), List.getElem?_take, if_pos (by omega)]
  rw [this]
  exact h i q hi hq
 ·left
  have : four (X.take e ++ zr (segs * n - e)) (i * n + (128 + 184 * q)) = four (zr (segs * n - e)) (i * n + (128 + 184 * q) - e) := four_get fun j hj => by
   rw [List.getElem?_append_right (by omega), hl]
   congr 1
   omega
  rw [this]
  exact four_zeros _ _
theorem GLog.end8 {s : Lg} (h : GLog s) : s.end_ % 8 = 0 := by
 have hn := n_mod s
 obtain ⟨m, hm⟩ : ∃ m, s.n = 8 * m := ⟨s.n / 8, by omega⟩
 unfold Lg.end_
 rw [hm, show s.last * (8 * m) = 8 * (s.last * m) by rw [Nat.mul_left_comm]]
 rcases h.used with e | ⟨_, q, e⟩ | ⟨_, q, e⟩ <;> omega
end
section
set_option maxRecDepth 4000
theorem PLog.used_pos {s : Lg} {done : List (List (List UInt8))} {cur : List (List UInt8)} (h : PLog s done cur) : 128 <= s.used := by
 rw [h.used, bod_length _ _ _ _ _ (Chd_length _)]
 omega
theorem PL.last0 {s : Lg} (h : PL s) : s.used = 0 -> s.last = 0 := fun h0 => by
 rcases h with h | ⟨done, cur, h⟩
 ·exact h.2.1
 ·have := h.used_pos; omega
theorem err_fit {s : Lg} {m : Nat} (he : s.err m = 0) : s.dead = false /\ fitsF s.n 128 m = true /\ ¬ (0 < s.used /\ s.fits m = false /\ s.last + 1 = s.segs) := by
 unfold Lg.err at he
 cases hd : s.dead with
 | true => rw [hd] at he; cases he
 | false =>
  rw [hd] at he
  cases hq : fitsF s.n 128 m with
  | false => rw [hq] at he; cases he
  | true =>
   rw [hq] at he
   refine ⟨rfl, rfl, fun h => ?_⟩
   rw [if_neg (by decide), if_neg (by decide), if_pos h] at he
   cases he
theorem room_sealed {s : Lg} {m : Nat} (h0 : s.used ≠ 0) (h1 : s.sealed_ = true) : s.fits m = false := by
 unfold Lg.fits; rw [h1]; simp
theorem PL.append {s : Lg} (h : PL s) (hok : s.Ok) (hf : s.sealed_ = false -> s.used + 48 <= s.n) {t : List UInt8} (he : s.err t.length = 0) : PL (s.append t) := by
 have hR := hok.room hf he
 obtain ⟨hd, hfit, hlim⟩ := err_fit he
 have hfit := fitsF_iff.1 hfit
 have ht : 1 <= t.length /\ t.length <= 65535 := ⟨hfit.1, hfit.2.1⟩
 have hrl := hR.ok.end_le
 have hro := hR.ok.oct
 have hrf := hR.fit
 have hrn := hR.n
 have fin : ∀ done cur, PLog (s.room t.length) done cur -> (s.room t.length).sealed_ = false -> PL (s.append t) := fun done cur hp hs =>
  .inr ⟨done, cur ++ [t], hp.lay hs ht (by rw [hrn]; omega) hro hrl⟩
 unfold Lg.room at fin
 by_cases h0 : s.used = 0
 ·rw [if_pos h0] at fin
  rcases h with ⟨_, _, h3, h4⟩ | ⟨done, cur, h⟩
  ·exact fin [] [] (PLog.first h3 h4 (by have := hok.segs; omega) (by omega)) rfl
  ·have := h.used_pos; omega
 ·rw [if_neg h0] at fin
  obtain ⟨done, cur, h⟩ : ∃ done cur, PLog s done cur := by
   rcases h with h | h
   ·exact absurd h.1 h0
   ·exact h
  by_cases h1 : s.sealed_ = true
  ·rw [if_pos h1] at fin
   have hl : done.length + 1 < s.segs := by
    have := h.room
    have h5 : ¬ (s.last + 1 = s.segs) := fun e => hlim ⟨by omega, room_sealed h0 h1, e⟩
    have := h.last
    omega
   exact fin _ _ (h.next h1 hl (by omega) hok.oct) rfl
  ·rw [if_neg h1] at fin
   have h1 : s.sealed_ = false := by simpa using h1
   by_cases h2 : s.fits t.length = false
   ·rw [if_pos h2] at fin
    have hl : done.length + 1 < s.segs := by
     have := h.room
     have h5 : ¬ (s.last + 1 = s.segs) := fun e => hlim ⟨by omega, h2, e⟩
     have := h.last
     omega
    have hse := h.sealt h1 (hf h1) hok.oct hok.end_le
    have hpo : (s.put (ft s.texts.length s.chain)).Ok := hok.put (by rw [ft_length, hok.chain]; exact hf h1)
    exact fin _ _ (hse.next rfl hl (show 128 <= s.n by omega) hpo.oct) rfl
   ·rw [if_neg h2] at fin
    exact fin _ _ h h1
theorem PL.keep {s s' : Lg} (h : PL s) (e1 : s'.segs = s.segs) (e2 : s'.size = s.size) (e3 : s'.last = s.last) (e4 : s'.used = s.used) (e5 : s'.texts = s.texts) (e6 : s'.chain = s.chain) (e7 : s'.sealed_ = s.sealed_) (hB : s'.B.take s.end_ = s.B.take s.end_) : PL s' := by
 rcases h with ⟨h1, h2, h3, h4⟩ | ⟨done, cur, h⟩
 ·exact .inl ⟨e4.trans h1, e3.trans h2, e5.trans h3, e6.trans h4⟩
 ·exact .inr ⟨done, cur, h.keep e1 e2 e3 e4 e5 e6 e7 hB⟩
theorem PL.end_le {s : Lg} (h : PL s) (hs : 1 <= s.segs) : s.end_ <= s.all := by
 rcases h with ⟨h1, h2, _⟩ | ⟨done, cur, h⟩
 ·unfold Lg.end_; rw [h1, h2]; omega
 ·have h1 := h.fits
  have h2 := h.room
  unfold Lg.end_ Lg.all
  rw [h.last]
  exact in_seg h2 h1
theorem PL.dead {s : Lg} (h : PL s) (d : Bool) : PL { s with dead := d } := h.keep rfl rfl rfl rfl rfl rfl rfl rfl
theorem PL.flushed {s : Lg} (h : PL s) : PL s.flushed := h.keep rfl rfl rfl rfl rfl rfl rfl rfl
theorem opened_fix (segs size : Nat) (X : List UInt8) : (Lg.opened segs size X).segs = segs /\ (Lg.opened segs size X).size = size /\ (Lg.opened segs size X).dead = false /\ (Lg.opened segs size X).sure = (Lg.opened segs size X).texts.length /\ (Lg.opened segs size X).clean = (Lg.opened segs size X).end_ /\ (Lg.opened segs size X).end_ = (Lg.told segs size X).end_ /\ (Lg.opened segs size X).texts = (Lg.told segs size X).texts := by
 obtain ⟨h1, h2, _, _, _, h6⟩ := Lg.scan_fix segs (Lg.init segs size X) 0
 exact ⟨h1, h2, h6, rfl, rfl, rfl, rfl⟩
theorem opened_B {segs size : Nat} {X : List UInt8} : (Lg.opened segs size X).B = X.take (Lg.told segs size X).end_ ++ zr (segs * (size * 128) - (Lg.told segs size X).end_) := by
 obtain ⟨h1, h2, h3, _⟩ := Lg.scan_fix segs (Lg.init segs size X) 0
 show (Lg.told segs size X).B.take (Lg.told segs size X).end_ ++ zr ((Lg.told segs size X).all - (Lg.told segs size X).end_) = _
 have e : (Lg.told segs size X).all = segs * (size * 128) := by
  show ((Lg.init segs size X).scan 0 segs).segs * (((Lg.init segs size X).scan 0 segs).size * 128) = _
  rw [h1, h2]; rfl
 rw [e]
 show ((Lg.init segs size X).scan 0 segs).B.take _ ++ _ = _
 rw [h3]
 rfl
theorem opened_PL {segs size : Nat} {X : List UInt8} (hX : X.length = segs * (size * 128)) (h1 : 1 <= segs) (h2 : 2 <= size) : PL (Lg.opened segs size X) := by
 have hp := told_plog hX h2
 have hs : (Lg.told segs size X).segs = segs := (Lg.scan_fix segs (Lg.init segs size X) 0).1
 have hB : (Lg.told segs size X).B = X := (Lg.scan_fix segs (Lg.init segs size X) 0).2.2.1
 have he := hp.end_le (by rw [hs]; exact h1)
 have ha : (Lg.told segs size X).all = segs * (size * 128) := by
  obtain ⟨h1, h2, _⟩ := Lg.scan_fix segs (Lg.init segs size X) 0
  show ((Lg.init segs size X).scan 0 segs).segs * (((Lg.init segs size X).scan 0 segs).size * 128) = _
  rw [h1, h2]; rfl
 refine hp.keep rfl rfl rfl rfl rfl rfl rfl ?_
 rw [opened_B, hB, List.take_append_of_le_length (by rw [List.length_take]; omega), List.take_take, Nat.min_self]
theorem opened_gridA {segs size : Nat} {X : List UInt8} (hX : X.length = segs * (size * 128)) (h1 : 1 <= segs) (h2 : 2 <= size) (hg : GridA segs (size * 128) X) : GridA segs (size * 128) (Lg.opened segs size X).B := by
 have hG := opened_grid ((grid_iff hX).2 hg) hX h2
 have hfx := opened_fix segs size X
 have hp := told_plog hX h2
 have hs : (Lg.told segs size X).segs = segs := (Lg.scan_fix segs (Lg.init segs size X) 0).1
 have he := hp.end_le (by rw [hs]; exact h1)
 have ha : (Lg.told segs size X).all = segs * (size * 128) := by
  obtain ⟨h1, h2, _⟩ := Lg.scan_fix segs (Lg.init segs size X) 0
  show ((Lg.init segs size X).scan 0 segs).segs * (((Lg.init segs size X).scan 0 segs).size * 128) = _
  rw [h1, h2]; rfl
 rw [opened_B]
 refine grid_cut hX hg (by omega) (by omega) ?_
 rw [<- hfx.2.2.2.2.2.1]
 exact hG.end8
theorem frs_at : ∀ (ts : List (List UInt8)) (c t : List UInt8), t ∈ ts -> ∃ a b, frs c ts = a ++ (t ++ b)
 | [], _, _, h => by cases h
 | u :: ts, c, t, h => by
  rcases List.mem_cons.1 h with rfl | h
  ·obtain ⟨r, hr⟩ := frm_front c t
   exact ⟨be t.length 4, r ++ frs (sha (c ++ t)) ts, by rw [frs, hr]; simp only [List.append_assoc]⟩
  ·obtain ⟨a, b, hab⟩ := frs_at ts (sha (c ++ u)) t h
   exact ⟨frm c u ++ a, b, by rw [frs, hab, List.append_assoc]⟩
theorem bod_at {i k : Nat} {c t : List UInt8} {ts : List (List UInt8)} {fin : Bool} (h : t ∈ ts) : ∃ a b, bod i k c ts fin = a ++ (t ++ b) := by
 obtain ⟨a, b, hab⟩ := frs_at ts c t h
 exact ⟨hd i k c ++ a, b ++ (if fin then ft (k + ts.length) (chn c ts) else []), by unfold bod; rw [hab]; simp only [List.append_assoc]⟩
theorem allPre_at {n : Nat} {Y t : List UInt8} : ∀ (r : List (List (List UInt8))) (i k : Nat) (c : List UInt8), AllPre n Y i k c r -> t ∈ r.flatten -> ∃ p, p + t.length <= (i + r.length) * n /\ (Y.drop p).take t.length = t
 | [], _, _, _, _, h => by cases h
 | ts :: r, i, k, c, h, ht => by
  obtain ⟨⟨h1, _, z, h3⟩, h4⟩ := h
  rw [List.flatten_cons] at ht
  rcases List.mem_append.1 ht with ht | ht
  ·obtain ⟨a, b, hab⟩ := bod_at (i := i) (k := k) (c := c) (fin := true) ht
   have hl := congrArg List.length hab
   rw [List.length_append, List.length_append] at hl
   have hx : (i + 1) * n <= (i + (ts :: r).length) * n := Nat.mul_le_mul_right _ (by rw [List.length_cons]; omega)
   rw [Nat.add_mul i 1, Nat.one_mul] at hx
   refine ⟨i * n + a.length, by omega, ?_⟩
   rw [<- List.drop_drop, h3, hab, List.append_assoc, List.drop_left, List.append_assoc, List.take_left]
  ·obtain ⟨p, h5, h6⟩ := allPre_at r (i + 1) _ _ h4 ht
   exact ⟨p, by rw [List.length_cons, show i + (r.length + 1) = i + 1 + r.length by omega]; exact h5, h6⟩
theorem PL.at_ {s : Lg} (h : PL s) {t : List UInt8} (ht : t ∈ s.texts) : ∃ p, p + t.length <= s.end_ /\ (s.B.drop p).take t.length = t := by
 rcases h with ⟨_, _, h3, _⟩ | ⟨done, cur, h⟩
 ·rw [h3] at ht; cases ht
 ·have hend := h.end_
  rw [h.texts] at ht
  rcases List.mem_append.1 ht with ht | ht
  ·obtain ⟨p, h1, h2⟩ := allPre_at done 0 0 (zr 32) h.all ht
   rw [Nat.zero_add] at h1
   exact ⟨p, by omega, h2⟩
  ·obtain ⟨z, hz⟩ := h.pre
   obtain ⟨a, b, hab⟩ := bod_at (i := done.length) (k := Cnt done) (c := Chd done) (fin := s.sealed_) ht
   have hl := congrArg List.length hab
   rw [List.length_append, List.length_append] at hl
   refine ⟨done.length * s.n + a.length, by omega, ?_⟩
   rw [<- List.drop_drop, hz, hab, List.append_assoc, List.drop_left, List.append_assoc, List.take_left]
theorem allPre_few {n : Nat} {Y : List UInt8} : ∀ (r : List (List (List UInt8))) (i k : Nat) (c : List UInt8), c.length = 32 -> AllPre n Y i k c r -> r.flatten.length <= r.length * n
 | [], _, _, _, _, _ => by simp
 | ts :: r, i, k, c, hc, h => by
  obtain ⟨⟨h1, _, _⟩, h4⟩ := h
  have h5 := allPre_few r (i + 1) _ _ (chn_length _ _ hc) h4
  rw [bod_length _ _ _ _ _ hc] at h1
  have h6 := frs_many ts c
  rw [List.flatten_cons, List.length_append, List.length_cons, Nat.add_mul, Nat.one_mul]
  omega
theorem PL.few {s : Lg} (h : PL s) : s.texts.length <= s.end_ := by
 rcases h with ⟨_, _, h3, _⟩ | ⟨done, cur, h⟩
 ·rw [h3]; exact Nat.zero_le _
 ·have h1 := allPre_few done 0 0 (zr 32) (zr_length 32) h.all
  have h2 := h.end_
  rw [bod_length _ _ _ _ _ (Chd_length _)] at h2
  have h3 := frs_many cur (Chd done)
  rw [h.texts, List.length_append]
  omega
end
section
set_option maxRecDepth 4000
/-! ### Sectors -/
def Can (D : Dk) (j : Nat) (b : List UInt8) : Prop := b = sect D.safe j \/ ∃ q ∈ D.queue, q.1 = j /\ b = q.2
theorem can_idle {D : Dk} (hq : D.queue = []) {j : Nat} {b : List UInt8} (h : Can D j b) : b = sect D.safe j := by
 rcases h with h | ⟨q, hm, -⟩
 ·exact h
 ·rw [hq] at hm; cases hm
theorem can_crash {D : Dk} (hok : D.Ok) {keep : List Int} {j : Nat} (hj : (j + 1) * 128 <= D.safe.length) {b : List UInt8} (h : Can (D.crashed keep) j b) : Can D j b := by
 rw [can_idle rfl h]
 rcases crash_sect D hok keep j hj with h | ⟨q, h1, h2, h3⟩
 ·exact .inl h
 ·exact .inr ⟨q, h1, h2, h3⟩
theorem puts_sect : ∀ (Q : List (Nat × List UInt8)) (S : List UInt8) (j : Nat), (∀ q ∈ Q, q.2.length = 128 /\ (q.1 + 1) * 128 <= S.length) -> (j + 1) * 128 <= S.length -> sect (puts S Q) j = sect S j \/ ∃ q ∈ Q, q.1 = j /\ sect (puts S Q) j = q.2
 | [], _, _, _, _ => .inl rfl
 | (a, b) :: Q, S, j, hQ, hj => by
  have h1 := hQ (a, b) (by simp)
  have hl : (put S (a, b)).length = S.length := length_put _ _ h1.1 h1.2
  rcases puts_sect Q (put S (a, b)) j (fun q hq => by rw [hl]; exact hQ q (by simp [hq])) (by rw [hl]; exact hj) with h | ⟨q, h2, h3, h4⟩
  ·have hs := sect_put S a j b h1.1 h1.2 hj
   have e : puts S ((a, b) :: Q) = puts (put S (a, b)) Q := rfl
   rw [e, h, hs]
   split
   ·rename_i hab
    exact .inr ⟨(a, b), by simp, hab, rfl⟩
   ·exact .inl rfl
  ·exact .inr ⟨q, by simp [h2], h3, h4⟩
theorem can_flush {D : Dk} (hok : D.Ok) {j : Nat} (hj : (j + 1) * 128 <= D.safe.length) {b : List UInt8} (h : Can D.flushed j b) : Can D j b := by
 rw [can_idle rfl h]
 rcases puts_sect D.queue D.safe j hok.fits hj with h | ⟨q, h1, h2, h3⟩
 ·exact .inl h
 ·exact .inr ⟨q, h1, h2, h3⟩
theorem can_push {D : Dk} {a n j : Nat} {l b : List UInt8} (h : Can (D.push a l n) j b) : Can D j b \/ ∃ i, i < n /\ j = a + i /\ b = sect l i := by
 rcases h with h | ⟨q, h1, h2, h3⟩
 ·exact .inl (.inl h)
 ·have h1 : q ∈ D.queue ++ parts a l n := h1
  rcases List.mem_append.1 h1 with h1 | h1
  ·exact .inl (.inr ⟨q, h1, h2, h3⟩)
  ·obtain ⟨i, hi, rfl⟩ := List.mem_map.1 h1
   exact .inr ⟨i, List.mem_range.1 hi, h2.symm, h3⟩
theorem mul128 {a b c : Nat} (h : a <= b) (hb : b * 128 <= c) : a * 128 <= c := Nat.le_trans (Nat.mul_le_mul_right _ h) hb
theorem parts_fit {l : List UInt8} {a n N : Nat} (hl : n * 128 <= l.length) (hN : (a + n) * 128 <= N) : ∀ q ∈ parts a l n, q.2.length = 128 /\ (q.1 + 1) * 128 <= N := fun q hq => by
 obtain ⟨i, hi, rfl⟩ := List.mem_map.1 hq
 have hi := List.mem_range.1 hi
 exact ⟨length_sect l i (mul128 hi hl), mul128 (Nat.add_lt_add_left hi a) hN⟩
theorem puts_parts_sect (l : List UInt8) (a j : Nat) (S : List UInt8) (hj : (j + 1) * 128 <= S.length) (n : Nat) : n * 128 <= l.length -> (a + n) * 128 <= S.length -> sect (puts S (parts a l n)) j = if a <= j /\ j < a + n then sect l (j - a) else sect S j := by
 induction n with
 | zero => intro _ _; rw [if_neg (by omega)]; rfl
 | succ n ih =>
  intro hl hS
  have hl1 : n * 128 <= l.length := mul128 (Nat.le_succ n) hl
  have hS1 : (a + n) * 128 <= S.length := mul128 (Nat.le_succ _) hS
  have ih := ih hl1 hS1
  have hpl : (puts S (parts a l n)).length = S.length := length_puts _ _ (parts_fit hl1 hS1)
  have h1 : (a + n + 1) * 128 <= (puts S (parts a l n)).length := by rw [hpl]; exact hS
  have h2 : (j + 1) * 128 <= (puts S (parts a l n)).length := by rw [hpl]; exact hj
  rw [parts_succ, puts_snoc, sect_put _ _ _ _ (length_sect l n hl) h1 h2]
  by_cases h : a + n = j
  ·rw [if_pos h, if_pos (by omega)]
   have e : j - a = n := by omega
   rw [e]
  ·rw [if_neg h, ih]
   by_cases h2 : a <= j /\ j < a + n
   ·rw [if_pos h2, if_pos (by omega)]
   ·rw [if_neg h2, if_neg (by omega)]
theorem puts_append (S : List UInt8) (Q R : List (Nat × List UInt8)) : puts S (Q ++ R) = puts (puts S Q) R := by simp [puts]
theorem can_laid {D : Dk} (hok : D.Ok) {a n j : Nat} {l b : List UInt8} (hl : n * 128 <= l.length) (ha : (a + n) * 128 <= D.safe.length) (hj : (j + 1) * 128 <= D.safe.length) (h : Can (D.push a l n).flushed j b) : (a <= j /\ j < a + n /\ b = sect l (j - a)) \/ (¬ (a <= j /\ j < a + n) /\ Can D j b) := by
 have h1 := can_idle rfl h
 have e : (D.push a l n).flushed.safe = puts D.image (parts a l n) := puts_append _ _ _
 rw [e, puts_parts_sect l a j D.image (by rw [hok.image]; exact hj) n hl (by rw [hok.image]; exact ha)] at h1
 split at h1
 ·rename_i h2
  exact .inl ⟨h2.1, h2.2, h1⟩
 ·rename_i h2
  refine .inr ⟨h2, can_flush hok hj (.inl ?_)⟩
  rw [h1]
  rfl
/-! #### A key's two copies -/
theorem can_lay {D : Dk} (hok : D.Ok) {a j : Nat} {l b : List UInt8} (hl : l.length = 128) (ha : (a + 1) * 128 <= D.safe.length) (hj : (j + 1) * 128 <= D.safe.length) (h : Can (D.lay a l) j b) : (Can D j b \/ (j = a /\ b = l)) /\ (D.layOk = true -> j = a -> b = l) := by
 have hl1 : 1 * 128 <= l.length := by rw [hl]; exact Nat.le_refl _
 have hs : sect l 0 = l := by unfold sect; rw [Nat.zero_mul, List.drop_zero, List.take_of_length_le (by rw [hl]; exact Nat.le_refl _)]
 unfold Dk.lay at h
 split at h
 ·rename_i h0
  exact ⟨.inl h, fun hk => absurd h0 (of_decide_eq_true hk).1⟩
 ·split at h
  ·rename_i h0 h1
   refine ⟨?_, fun hk => absurd h1 (of_decide_eq_true hk).2⟩
   rcases can_push h with h | ⟨i, hi, h2, h3⟩
   ·exact .inl h
   ·obtain rfl : i = 0 := Nat.lt_one_iff.1 hi
    exact .inr ⟨h2, by rw [h3, hs]⟩
  ·have hc := can_laid hok hl1 ha hj h
   clear hl1 ha hj
   rcases hc with ⟨h1, h2, h3⟩ | ⟨h1, h2⟩
   ·have e : j - a = 0 := by omega
    rw [e, hs] at h3
    exact ⟨.inr ⟨by omega, h3⟩, fun _ _ => h3⟩
   ·exact ⟨.inl h2, fun _ e => absurd ⟨by omega, by omega⟩ h1⟩
theorem can_two {D : Dk} (hok : D.Ok) {a j : Nat} {l b : List UInt8} (hl : l.length = 128) (ha : (a + 2) * 128 <= D.safe.length) (hj : (j + 1) * 128 <= D.safe.length) (h : Can (D.two a l) j b) : (Can D j b \/ ((j = a \/ j = a + 1) /\ b = l)) /\ (D.twoOk a l = true -> j = a -> b = l) := by
 unfold Dk.two at h
 have h128 : 128 <= l.length := by rw [hl]; exact Nat.le_refl _
 have ha1 : (a + 1) * 128 <= D.safe.length := mul128 (Nat.le_succ _) ha
 have hlen := D.lay_length hok a l h128 ha1
 have hok1 := hok.lay a l h128 ha1
 have ha2 : (a + 1 + 1) * 128 <= (D.lay a l).safe.length := by rw [hlen]; exact ha
 by_cases h0 : D.layOk = true
 ·rw [if_pos h0] at h
  have h1 := can_lay hok1 hl ha2 (by rw [hlen]; exact hj) h
  rcases h1.1 with h2 | ⟨h2, h3⟩
  ·have h3 := can_lay hok hl ha1 hj h2
   refine ⟨?_, fun _ e => h3.2 h0 e⟩
   rcases h3.1 with h4 | ⟨h4, h5⟩
   ·exact .inl h4
   ·exact .inr ⟨.inl h4, h5⟩
  ·exact ⟨.inr ⟨.inr h2, h3⟩, fun _ _ => h3⟩
 ·rw [if_neg h0] at h
  have h1 := can_lay hok hl ha1 hj h
  refine ⟨?_, fun hk => ?_⟩
  ·rcases h1.1 with h2 | ⟨h2, h3⟩
   ·exact .inl h2
   ·exact .inr ⟨.inl h2, h3⟩
  ·unfold Dk.twoOk at hk
   simp only [Bool.and_eq_true] at hk
   exact absurd hk.1 h0
theorem two_len {D : Dk} (hok : D.Ok) (a : Nat) (l : List UInt8) (hl : l.length = 128) (ha : (a + 2) * 128 <= D.safe.length) : (D.two a l).Ok /\ (D.two a l).safe.length = D.safe.length /\ (D.two a l).queue.length <= D.queue.length + 2 := by
 have h128 : 128 <= l.length := by rw [hl]; exact Nat.le_refl _
 have ha1 : (a + 1) * 128 <= D.safe.length := mul128 (Nat.le_succ _) ha
 have hlen := D.lay_length hok a l h128 ha1
 have hok1 := hok.lay a l h128 ha1
 have ha2 : (a + 1 + 1) * 128 <= (D.lay a l).safe.length := by rw [hlen]; exact ha
 have hq := D.lay_queue a l
 unfold Dk.two
 split
 ·have h2 := (D.lay a l).lay_length hok1 (a + 1) l h128 ha2
  have h3 := (D.lay a l).lay_queue (a + 1) l
  exact ⟨hok1.lay _ l h128 ha2, by rw [h2, hlen], by clear ha ha1 ha2; omega⟩
 ·exact ⟨hok1, hlen, by clear ha ha1 ha2; omega⟩
/-! ### A region's sectors -/
theorem sectg (X : List UInt8) (i r : Nat) : (sect X i)[r]? = if r < 128 then X[i * 128 + r]? else none := by
 unfold sect
 rw [List.getElem?_take]
 split
 ·rw [List.getElem?_drop]
 ·rfl
def Agr (B : List UInt8) (c i : Nat) (b : List UInt8) : Prop := ∀ r, r < 128 -> i * 128 + r < c -> b[r]? = B[i * 128 + r]?
def SGr (segs n i : Nat) (b : List UInt8) : Prop := ∀ k q r, k < segs -> 128 + 184 * q + 4 <= n -> k * n + (128 + 184 * q) = i * 128 + r -> r < 128 -> FieldOk n q (vl (four b r))
theorem mul8 {k n : Nat} (h : n % 8 = 0) : (k * n) % 8 = 0 := by
 obtain ⟨m, rfl⟩ : ∃ m, n = 8 * m := ⟨n / 8, by omega⟩
 rw [Nat.mul_left_comm]
 omega
theorem four_sect {X : List UInt8} {i r : Nat} (h : r + 4 <= 128) : four (sect X i) r = four X (i * 128 + r) := four_get fun j hj => by
 rw [sectg, if_pos (by omega)]
 congr 1
 omega
theorem grid_of_sects {segs size : Nat} {X : List UInt8} (h : ∀ i, i < segs * size -> SGr segs (size * 128) i (sect X i)) : GridA segs (size * 128) X := by
 intro k q hk hq
 obtain ⟨p, hp⟩ : ∃ p, p = k * (size * 128) + (128 + 184 * q) := ⟨_, rfl⟩
 have h8 : (k * (size * 128)) % 8 = 0 := mul8 (by omega)
 have hin := in_seg (segs := segs) (n := size * 128) (p := 128 + 184 * q) hk (by omega)
 have hi : k * (size * 128) + (128 + 184 * q) < segs * (size * 128) := by
  have := in_seg (segs := segs) (n := size * 128) (p := 128 + 184 * q + 4) hk (by omega)
  omega
 rw [<- Nat.mul_assoc segs] at hi
 have h1 := h (p / 128) (by omega) k q (p % 128) hk hq (by omega) (by omega)
 rw [four_sect (by omega), show p / 128 * 128 + p % 128 = p by omega, hp] at h1
 exact h1
theorem sects_of_grid {segs size i : Nat} {X : List UInt8} (h : GridA segs (size * 128) X) : SGr segs (size * 128) i (sect X i) := by
 intro k q r hk hq he hr
 have h8 : (k * (size * 128)) % 8 = 0 := mul8 (by omega)
 rw [four_sect (by omega), <- he]
 exact h k q hk hq
theorem agr_take {X B : List UInt8} {c N : Nat} (hX : X.length = N * 128) (hB : B.length = N * 128) (h : ∀ i, i < N -> Agr B c i (sect X i)) : X.take c = B.take c := by
 refine List.ext_getElem? fun p => ?_
 rw [List.getElem?_take, List.getElem?_take]
 split
 ·rename_i hp
  by_cases hN : p < N * 128
  ·have h1 := h (p / 128) (by omega) (p % 128) (by omega) (by omega)
   rw [sectg, if_pos (by omega), show p / 128 * 128 + p % 128 = p by omega] at h1
   exact h1
  ·rw [List.getElem?_eq_none (by omega), List.getElem?_eq_none (by omega)]
 ·rfl
theorem agr_self (B : List UInt8) (c i : Nat) : Agr B c i (sect B i) := fun r hr _ => by rw [sectg, if_pos hr]
theorem agr_other {B B' : List UInt8} {c i : Nat} {b : List UInt8} (h : Agr B c i b) (ht : B'.take c = B.take c) : Agr B' c i b := fun r hr hc => by
 rw [h r hr hc]
 have := congrArg (fun l => l[i * 128 + r]?) ht
 simp only [List.getElem?_take, if_pos hc] at this
 exact this.symm
/-! ### A log on a disk -/
structure LogInv (s : Lg) (D : Dk) (f : Nat) : Prop where
 pl : PL s
 gl : GLog s
 grid : GridA s.segs s.n s.B
 sok : s.Ok
 big : 3 <= s.size
 cle : s.clean <= s.end_
 lt : s.dead = false -> s.sure ≠ s.texts.length -> s.clean < s.end_
 sle : s.sure <= s.texts.length
 sure : ∃ q : Lg, PL q /\ q.segs = s.segs /\ q.size = s.size /\ q.B = s.B /\ q.end_ = s.clean /\ q.texts = s.texts.take s.sure
 can : ∀ i b, i < s.segs * s.size -> Can D (f + i) b -> Agr s.B s.clean i b /\ SGr s.segs s.n i b
 ok : D.Ok
 fit : (f + s.segs * s.size) * 128 <= D.safe.length
section
variable {s : Lg} {D D' : Dk} {f : Nat}
theorem LogInv.disk (h : LogInv s D f) (hok : D'.Ok) (hl : D'.safe.length = D.safe.length) (hc : ∀ i b, i < s.segs * s.size -> Can D' (f + i) b -> Can D (f + i) b) : LogInv s D' f :=
 ⟨h.pl, h.gl, h.grid, h.sok, h.big, h.cle, h.lt, h.sle, h.sure, fun i b hi hb => h.can i b hi (hc i b hi hb), hok, by rw [hl]; exact h.fit⟩
theorem LogInv.all_eq (h : LogInv s D f) : s.B.length = s.segs * s.size * 128 := by rw [h.sok.oct]; exact (Nat.mul_assoc _ _ _).symm
theorem append_fix (s : Lg) (t : List UInt8) : (s.append t).segs = s.segs /\ (s.append t).size = s.size /\ (s.append t).sure = s.sure /\ (s.append t).clean = s.clean /\ (s.append t).dead = s.dead /\ (s.append t).texts = s.texts ++ [t] := by
 obtain ⟨h1, h2, h3, h4, h5, h6, -⟩ := room_fix s t.length
 exact ⟨h1, h2, h3, h4, h5, by show (s.room t.length).texts ++ [t] = _; rw [h6]⟩
theorem append_front {t : List UInt8} (h : LogInv s D f) (he : s.err t.length = 0) : s.end_ < (s.append t).end_ /\ (s.append t).B.take s.end_ = s.B.take s.end_ := by
 have hR := h.sok.room h.gl.foot he
 obtain ⟨h1, h2⟩ := room_front h.sok hR h.gl.foot h.pl.last0
 have h3 := hR.ok.end_le
 have h4 := hR.ok.oct
 refine ⟨?_, ?_⟩
 ·show _ < (s.room t.length).last * (s.room t.length).n + ((s.room t.length).used + (frm (s.room t.length).chain t).length)
  rw [frm_length]
  have : (s.room t.length).end_ = (s.room t.length).last * (s.room t.length).n + (s.room t.length).used := rfl
  omega
 ·have e := put_front (s.room t.length) (frm (s.room t.length).chain t) s.end_ h1 (by rw [h4]; exact h3)
  rw [<- h2]
  exact e
theorem LogInv.append {t : List UInt8} (h : LogInv s D f) (ht : t.length = 144) (he : s.err 144 = 0) (hm : s.texts.length + 1 <= 100000000) : LogInv (s.append t) D f := by
 rw [<- ht] at he
 obtain ⟨h1, h2, h3, h4, h5, h6⟩ := append_fix s t
 obtain ⟨hf1, hf2⟩ := append_front h he
 have hR := h.sok.room h.gl.foot he
 have hn : (s.append t).n = s.n := by unfold Lg.n; rw [h2]
 have hct : (s.append t).B.take s.clean = s.B.take s.clean := by
  have := congrArg (List.take s.clean) hf2
  rwa [List.take_take, List.take_take, Nat.min_eq_left h.cle] at this
 rw [ht] at he
 have hg := h.gl.grid h.sok h.grid ht he
 refine ⟨h.pl.append h.sok h.gl.foot (ht ▸ he), h.gl.append ht he h.sok.chain, hg, hR.append hm, by rw [h2]; exact h.big, by rw [h4]; have := h.cle; omega, fun _ _ => by rw [h4]; have := h.cle; omega, by rw [h3, h6]; have := h.sle; simp; omega, ?_, ?_, h.ok, by rw [h1, h2]; exact h.fit⟩
 ·obtain ⟨q, q1, q2, q3, q4, q5, q6⟩ := h.sure
  refine ⟨{ q with B := (s.append t).B }, q1.keep rfl rfl rfl rfl rfl rfl rfl ?_, q2.trans h1.symm, q3.trans h2.symm, rfl, ?_, ?_⟩
  ·rw [q4, q5]; exact hct
  ·rw [h4]; exact q5
  ·rw [h3, h6, List.take_append_of_le_length h.sle]
   exact q6
 ·intro i b hi hb
  rw [h1, h2] at hi
  have := h.can i b hi hb
  rw [h4, h1, hn]
  exact ⟨agr_other this.1 hct, this.2⟩
theorem LogInv.dead (h : LogInv s D f) : LogInv { s with dead := true } D f :=
 ⟨h.pl.dead true, ⟨h.gl.texts, h.gl.used, h.gl.foot⟩, h.grid, ⟨h.sok.segs, h.sok.size, h.sok.last, h.sok.used, h.sok.clean, h.sok.oct, h.sok.many, h.sok.chain, h.sok.sure⟩, h.big, h.cle, (fun h => by cases h), h.sle, h.sure, h.can, h.ok, h.fit⟩
theorem new_sects (h : LogInv s D f) : s.first <= s.behind /\ s.behind <= s.segs * s.size /\ s.new.length = (s.behind - s.first) * 128 /\ ∀ i, i < s.behind - s.first -> sect s.new i = sect s.B (s.first + i) := by
 have h1 := h.all_eq
 have h2 := h.sok.end_le
 have h3 := h.cle
 rw [<- h.sok.oct, h1] at h2
 have h4 : s.first <= s.behind /\ s.behind <= s.segs * s.size := by unfold Lg.first Lg.behind; omega
 refine ⟨h4.1, h4.2, ?_, fun i hi => ?_⟩
 ·unfold Lg.new
  rw [List.length_take, List.length_drop, h1, Nat.sub_mul]
  have : s.behind * 128 <= s.segs * s.size * 128 := Nat.mul_le_mul_right _ h4.2
  omega
 ·refine List.ext_getElem? fun r => ?_
  rw [sectg, sectg]
  split
  ·unfold Lg.new
   rw [List.getElem?_take, if_pos (by omega), List.getElem?_drop]
   congr 1
   omega
  ·rfl
theorem LogInv.push_ok (h : LogInv s D f) : (D.pushed f s).Ok /\ (D.pushed f s).safe.length = D.safe.length /\ (D.pushed f s).queue.length <= D.queue.length + s.segs * s.size := by
 obtain ⟨h1, h2, h3, -⟩ := new_sects h
 have h4 := h.fit
 refine ⟨h.ok.push _ _ _ (by rw [h3]; exact Nat.le_refl _) (Nat.le_trans (Nat.mul_le_mul_right _ (by omega)) h4), rfl, ?_⟩
 show (D.queue ++ parts _ _ _).length <= _
 rw [List.length_append, parts, List.length_map, List.length_range]
 omega
theorem LogInv.half (h : LogInv s D f) : LogInv { s with dead := true } (D.pushed f s) f := by
 obtain ⟨h1, h2, h3, h4⟩ := new_sects h
 obtain ⟨p1, p2, p3⟩ := h.push_ok
 have hd := h.dead
 refine ⟨hd.pl, hd.gl, hd.grid, hd.sok, hd.big, hd.cle, hd.lt, hd.sle, hd.sure, fun i b hi hb => ?_, p1, by rw [p2]; exact h.fit⟩
 rcases can_push hb with hb | ⟨m, hm, e1, e2⟩
 ·exact h.can i b hi hb
 ·rw [h4 m hm] at e2
  have : s.first + m = i := by omega
  rw [this] at e2
  rw [e2]
  exact ⟨agr_self _ _ _, sects_of_grid h.grid⟩
theorem LogInv.flush (h : LogInv s D f) : LogInv s.flushed (D.pushed f s).flushed f := by
 obtain ⟨h1, h2, h3, h4⟩ := new_sects h
 obtain ⟨p1, p2, p3⟩ := h.push_ok
 have hfit := h.fit
 have hcle := h.cle
 refine ⟨h.pl.flushed, ⟨h.gl.texts, h.gl.used, h.gl.foot⟩, h.grid, h.sok.flushed, h.big, Nat.le_refl _, (fun _ hne => absurd rfl hne), Nat.le_refl _, ⟨s, h.pl, rfl, rfl, rfl, rfl, ?_⟩, fun i b hi hb => ?_, p1.flushed, ?_⟩
 ·show s.texts = s.texts.take s.texts.length
  rw [List.take_length]
 ·have hi' : i < s.segs * s.size := hi
  have hfi : (f + i + 1) * 128 <= D.safe.length := Nat.le_trans (Nat.mul_le_mul_right _ (by omega)) hfit
  rcases can_laid h.ok (by rw [h3]; exact Nat.le_refl _) (Nat.le_trans (Nat.mul_le_mul_right _ (by omega)) hfit) hfi hb with ⟨e1, e2, e3⟩ | ⟨e1, e2⟩
  ·rw [h4 _ (by omega)] at e3
   have : s.first + (f + i - (f + s.first)) = i := by omega
   rw [this] at e3
   rw [e3]
   exact ⟨agr_self _ _ _, sects_of_grid h.grid⟩
  ·have hc := h.can i b hi' e2
   refine ⟨fun r hr hlt => ?_, hc.2⟩
   have hlt : i * 128 + r < s.end_ := hlt
   refine hc.1 r hr ?_
   have hb2 : i < s.first \/ s.behind <= i := by omega
   unfold Lg.first Lg.behind at hb2
   omega
 ·show _ <= (D.pushed f s).image.length
  rw [p1.image, p2]
  exact hfit
end
end
end Go.Proofs.YtkgaeoeibjoljaaGreatDoor
