/-
  Logs whose texts all have 144 octets, plain: frames lie on a grid.
  Logs, plain: what is told of any octets is laid as heads, frames and footers, whatever lies behind a footer.
  Logs, plain: octets that begin as a log did are told at least as far.
  Logs, plain: a text more.
-/
import Derived.Test.YtkgaeoeibjoljaaGreatDoorHD
import Derived.Test.YtkgaeoeibjoljaaGreatDoorHA
namespace Go.Proofs.YtkgaeoeibjoljaaGreatDoor
section
set_option maxRecDepth 4000
def GridS (n : Nat) (Y : List UInt8) : Prop := ∀ j, 128 + 184 * j + 4 <= n -> pzN (Y.drop (128 + 184 * j)) = 0 \/ pzN (Y.drop (128 + 184 * j)) = 4294967295 \/ (pzN (Y.drop (128 + 184 * j)) = 144 /\ 128 + 184 * j + 232 <= n)
theorem pz_grid {Y : List UInt8} {n k : Nat} (hY : Y.length = n) (hg : GridS n Y) : ∀ (f : Nat) (s : Pz) (m : Nat), s.used = 128 + 184 * m -> s.sealed_ = false -> s.used + 48 <= n -> (∀ t ∈ s.texts, t.length = 144) ->
  (∀ t ∈ (pz Y k f s).texts, t.length = 144) /\ (((pz Y k f s).sealed_ = false /\ (∃ m', (pz Y k f s).used = 128 + 184 * m') /\ (pz Y k f s).used + 48 <= n) \/ ((pz Y k f s).sealed_ = true /\ ∃ m', (pz Y k f s).used = 128 + 184 * m' + 48)) := by
 intro f
 induction f with
 | zero => intro s m h1 h2 h3 h4; exact ⟨h4, .inl ⟨h2, ⟨m, h1⟩, h3⟩⟩
 | succ f ih =>
  intro s m h1 h2 h3 h4
  by_cases c1 : pref (Y.drop s.used) (ft (k + s.texts.length) s.chain) = true
  ·rw [pz_seal _ _ _ _ c1]
   exact ⟨h4, .inr ⟨rfl, m, by show s.used + 48 = _; omega⟩⟩
  ·have c1' : pref (Y.drop s.used) (ft (k + s.texts.length) s.chain) = false := by simpa using c1
   by_cases c2 : pzBad (Y.drop s.used)
   ·rw [pz_stop _ _ _ _ c1' c2]
    exact ⟨h4, .inl ⟨h2, ⟨m, h1⟩, h3⟩⟩
   ·by_cases c3 : pref (Y.drop s.used) (frm s.chain (pzT (Y.drop s.used))) = true
    ·have hN : pzN (Y.drop s.used) = 144 /\ s.used + 232 <= n := by
      have hgj := hg m (by omega)
      rw [<- h1] at hgj
      unfold pzBad at c2
      rcases hgj with h | h | h
      ·omega
      ·omega
      ·exact ⟨h.1, by omega⟩
     rw [pz_on _ _ _ _ c1' c2 c3]
     refine ih _ (m + 1) ?_ h2 ?_ ?_
     ·show s.used + (pzN (Y.drop s.used) + 40) = _
      rw [hN.1, h1]; omega
     ·show s.used + (pzN (Y.drop s.used) + 40) + 48 <= n
      rw [hN.1]; omega
     ·intro t ht
      rcases List.mem_append.1 ht with ht | ht
      ·exact h4 t ht
      ·obtain rfl := List.mem_singleton.1 ht
       unfold pzT
       unfold pzBad at c2
       simp only [List.length_take, List.length_drop, hN.1] at c2 ⊢
       omega
    ·have c3' : pref (Y.drop s.used) (frm s.chain (pzT (Y.drop s.used))) = false := by simpa using c3
     rw [pz_other _ _ _ _ c1' c2 c3']
     exact ⟨h4, .inl ⟨h2, ⟨m, h1⟩, h3⟩⟩
structure GLog (s : Lg) : Prop where
 texts : ∀ t ∈ s.texts, t.length = 144
 used : s.used = 0 \/ (s.sealed_ = false /\ ∃ m, s.used = 128 + 184 * m) \/ (s.sealed_ = true /\ ∃ m, s.used = 128 + 184 * m + 48)
 foot : s.sealed_ = false -> s.used + 48 <= s.n
def GridX (segs n : Nat) (X : List UInt8) : Prop := ∀ i, i < segs -> GridS n ((X.drop (i * n)).take n)
theorem scan_grid : ∀ (f i : Nat) (s : Lg), s.B.length = s.all -> GridX s.segs s.n s.B -> 256 <= s.n -> i + f <= s.segs -> GLog s -> GLog (s.scan i f)
 | 0, _, _, _, _, _, _, h => h
 | f + 1, i, s, hB, hg, hn, hif, h => by
  have hlen : (s.seg i).length = s.n := by
   unfold Lg.seg
   rw [List.length_take, List.length_drop, hB]
   have h1 : (i + 1) * s.n <= s.segs * s.n := Nat.mul_le_mul_right _ (by omega)
   rw [Nat.add_mul, Nat.one_mul] at h1
   have h2 : s.all = s.segs * s.n := rfl
   omega
  cases hp : pref (s.seg i) (hd i s.texts.length s.chain) with
  | false => rw [Lg.scan_no hp]; exact h
  | true =>
   rw [Lg.scan_yes hp]
   have hz := pz_grid (k := s.texts.length) hlen (hg i (by omega)) s.n (pz0 s.chain) 0 rfl rfl (by show 128 + 48 <= s.n; omega) (fun t ht => by cases ht)
   have h1 := Lg.scan1_yes hp
   have hg1 : GLog (s.scan1 i).1 := by
    rw [h1]
    refine ⟨fun t ht => ?_, ?_, fun hs => ?_⟩
    ·rcases List.mem_append.1 ht with ht | ht
     ·exact h.texts t ht
     ·exact hz.1 t ht
    ·rcases hz.2 with ⟨hs, hm, _⟩ | ⟨hs, hm⟩
     ·exact .inr (.inl ⟨hs, hm⟩)
     ·exact .inr (.inr ⟨hs, hm⟩)
    ·rcases hz.2 with ⟨_, _, hf⟩ | ⟨hs', _⟩
     ·exact hf
     ·have : (pz (s.seg i) s.texts.length s.n (pz0 s.chain)).sealed_ = false := hs
      rw [this] at hs'
      cases hs'
   split
   ·refine scan_grid f (i + 1) (s.scan1 i).1 ?_ ?_ ?_ ?_ hg1
    ·rw [h1]; exact hB
    ·rw [h1]; exact hg
    ·rw [h1]; exact hn
    ·rw [h1]; show i + 1 + f <= s.segs; omega
   ·exact hg1
theorem opened_grid {segs size : Nat} {X : List UInt8} (h : GridX segs (size * 128) X) (hX : X.length = segs * (size * 128)) (h2 : 2 <= size) : GLog (Lg.opened segs size X) := by
 have h0 : GLog (Lg.init segs size X) := ⟨fun t ht => (by cases ht), .inl rfl, fun _ => by show 0 + 48 <= size * 128; omega⟩
 have h1 := scan_grid segs 0 (Lg.init segs size X) hX h (by show 256 <= size * 128; omega) (by show 0 + segs <= segs; omega) h0
 exact ⟨h1.texts, h1.used, h1.foot⟩
theorem GLog.append {s : Lg} (h : GLog s) {t : List UInt8} (ht : t.length = 144) (he : s.err 144 = 0) (hc : s.chain.length = 32) : GLog (s.append t) := by
 unfold Lg.err at he
 have hf : fitsF s.n 128 144 = true := by
  cases hd : s.dead with
  | true => rw [hd] at he; cases he
  | false =>
   rw [hd] at he
   cases hq : fitsF s.n 128 144 with
   | true => rfl
   | false => rw [hq] at he; cases he
 unfold fitsF at hf
 have hf := of_decide_eq_true hf
 have hb : ∀ (r : Lg) (k : Nat), r.texts = s.texts -> r.n = s.n -> r.chain.length = 32 -> GLog ((r.begin_ k).lay t) := fun r k h1 h2 h3 => by
  have hu : ((r.begin_ k).lay t).used = 312 := by
   show 0 + (hd k r.texts.length r.chain).length + (frm _ t).length = 312
   rw [hd_len' _ _ _ h3, frm_length, ht]
  refine ⟨fun u hu => ?_, .inr (.inl ⟨rfl, 1, by rw [hu]⟩), fun _ => ?_⟩
  ·have hu : u ∈ r.texts ++ [t] := hu
   rcases List.mem_append.1 hu with hu | hu
   ·exact h.texts u (h1 ▸ hu)
   ·obtain rfl := List.mem_singleton.1 hu; exact ht
  ·rw [hu]
   have : ((r.begin_ k).lay t).n = s.n := h2
   rw [this]; omega
 unfold Lg.append
 rw [ht]
 unfold Lg.room
 split
 ·exact hb s 0 rfl rfl hc
 ·rename_i h0
  split
  ·exact hb s _ rfl rfl hc
  ·rename_i h1
   have h1 : s.sealed_ = false := by simpa using h1
   split
   ·exact hb (s.put _) _ rfl rfl hc
   ·rename_i h2
    have h2 : s.fits 144 = true := by simpa using h2
    unfold Lg.fits fitsF at h2
    simp only [Bool.and_eq_true, decide_eq_true_eq] at h2
    have hu : (s.lay t).used = s.used + 184 := by
     show s.used + (frm _ t).length = _
     rw [frm_length, ht]
    refine ⟨fun u hu => ?_, .inr (.inl ⟨h1, ?_⟩), fun _ => ?_⟩
    ·have hu : u ∈ s.texts ++ [t] := hu
     rcases List.mem_append.1 hu with hu | hu
     ·exact h.texts u hu
     ·obtain rfl := List.mem_singleton.1 hu; exact ht
    ·rcases h.used with e | ⟨_, m, e⟩ | ⟨e, _⟩
     ·omega
     ·exact ⟨m + 1, by rw [hu, e]; omega⟩
     ·rw [h1] at e; cases e
    ·rw [hu]
     have : (s.lay t).n = s.n := rfl
     rw [this]; omega
end
section
set_option maxRecDepth 4000
def AllPre (n : Nat) (Y : List UInt8) : Nat -> Nat -> List UInt8 -> List (List (List UInt8)) -> Prop
 | _, _, _, [] => True
 | i, k, c, ts :: r => ((bod i k c ts true).length <= n /\ Fine ts /\ ∃ z, Y.drop (i * n) = bod i k c ts true ++ z) /\ AllPre n Y (i + 1) (k + ts.length) (chn c ts) r
theorem allPre_snoc {n : Nat} {Y : List UInt8} (ts : List (List UInt8)) : ∀ (r : List (List (List UInt8))) (i k : Nat) (c : List UInt8), AllPre n Y i k c r -> (bod (i + r.length) (k + r.flatten.length) (chn c r.flatten) ts true).length <= n -> Fine ts -> (∃ z, Y.drop ((i + r.length) * n) = bod (i + r.length) (k + r.flatten.length) (chn c r.flatten) ts true ++ z) -> AllPre n Y i k c (r ++ [ts])
 | [], i, k, c, _, h, hf, hz => ⟨⟨by simpa [chn] using h, hf, by simpa [chn] using hz⟩, trivial⟩
 | u :: r, i, k, c, h0, h, hf, hz => by
   have e1 : i + 1 + r.length = i + (u :: r).length := by rw [List.length_cons]; omega
   have e2 : k + u.length + r.flatten.length = k + (u :: r).flatten.length := by rw [List.flatten_cons, List.length_append]; omega
   have e3 : chn (chn c u) r.flatten = chn c (u :: r).flatten := by rw [List.flatten_cons, chn_append]
   refine ⟨h0.1, allPre_snoc ts r _ _ _ h0.2 ?_ hf ?_⟩
   ·rw [e1, e2, e3]; exact h
   ·rw [e1, e2, e3]; exact hz
structure PLog (s : Lg) (done : List (List (List UInt8))) (cur : List (List UInt8)) : Prop where
 last : s.last = done.length
 room : done.length < s.segs
 texts : s.texts = done.flatten ++ cur
 chain : s.chain = chn (Chd done) cur
 all : AllPre s.n s.B 0 0 (zr 32) done
 fine : Fine cur
 used : s.used = (bod done.length (Cnt done) (Chd done) cur s.sealed_).length
 fits : s.used <= s.n
 pre : ∃ r, s.B.drop (done.length * s.n) = bod done.length (Cnt done) (Chd done) cur s.sealed_ ++ r
def PL (s : Lg) : Prop := (s.used = 0 /\ s.last = 0 /\ s.texts = [] /\ s.chain = zr 32) \/ ∃ done cur, PLog s done cur
theorem scan_plog : ∀ (f i : Nat) (s : Lg) (done : List (List (List UInt8))), s.texts = done.flatten -> s.chain = Chd done -> AllPre s.n s.B 0 0 (zr 32) done -> done.length = i -> i + f <= s.segs -> 128 <= s.n -> s.B.length = s.all -> PL s -> PL (s.scan i f)
 | 0, _, _, _, _, _, _, _, _, _, _, h => h
 | f + 1, i, s, done, h1, h2, h3, h4, h5, h6, h7, h => by
  have hn1 : (i + 1) * s.n <= s.segs * s.n := Nat.mul_le_mul_right _ (by omega)
  rw [Nat.add_mul, Nat.one_mul] at hn1
  have hall : s.all = s.segs * s.n := rfl
  have hlen : (s.seg i).length = s.n := by
   unfold Lg.seg
   rw [List.length_take, List.length_drop, h7]
   omega
  cases hp : pref (s.seg i) (hd i s.texts.length s.chain) with
  | false => rw [Lg.scan_no hp]; exact h
  | true =>
   rw [Lg.scan_yes hp]
   have hc : s.chain.length = 32 := by rw [h2]; exact Chd_length done
   obtain ⟨ts, rest, a1, a2, a3, a4, a5, a6⟩ := pz_told (s.seg i) s.texts.length s.n (pz0 s.chain) rfl hc (by show 128 <= _; omega)
   obtain ⟨q, hq⟩ := pref_rest hp
   have hh := hd_len' i s.texts.length s.chain hc
   have e0 := Lg.scan1_yes hp
   generalize pz (s.seg i) s.texts.length s.n (pz0 s.chain) = z at a1 a2 a4 a5 a6 e0 ⊢
   have hq2 : (s.seg i).drop 128 = q := by rw [hq, <- hh, List.drop_left]
   have hbod : s.seg i = bod i s.texts.length s.chain ts z.sealed_ ++ rest := by
    have a4' : (s.seg i).drop 128 = frs s.chain ts ++ ((if z.sealed_ = true then ft (s.texts.length + (0 + ts.length)) (chn s.chain ts) else []) ++ rest) := a4
    rw [hq, <- hq2, a4', Nat.zero_add]
    unfold bod
    simp only [List.append_assoc]
   have hul : z.used = (bod i s.texts.length s.chain ts z.sealed_).length := by
    rw [bod_length _ _ _ _ _ hc]
    exact a5
   have hB : s.B.drop (i * s.n) = s.seg i ++ s.B.drop (i * s.n + s.n) := by
    unfold Lg.seg
    rw [<- List.drop_drop, List.take_append_drop]
   have ek : s.texts.length = Cnt done := by rw [h1]; rfl
   have hpl : PLog (s.scan1 i).1 done ts := by
    rw [e0]
    refine ⟨h4.symm, by show done.length < s.segs; omega, ?_, ?_, h3, a3, ?_, ?_, rest ++ s.B.drop (i * s.n + s.n), ?_⟩
    ·show s.texts ++ z.texts = _
     rw [a1, h1]; rfl
    ·show z.chain = _
     rw [a2, <- h2]; rfl
    ·show z.used = _
     rw [hul, h4, ek, h2]
    ·show z.used <= s.n
     omega
    ·show s.B.drop (done.length * s.n) = _
     rw [h4, hB, hbod, ek, h2, List.append_assoc]
   cases hz : z.sealed_ with
   | false => exact .inr ⟨done, ts, hpl⟩
   | true =>
    rw [if_pos rfl]
    have e1 : (s.scan1 i).1.sealed_ = true := by rw [e0]; exact hz
    have hn : (s.scan1 i).1.n = s.n := by rw [e0]; rfl
    have hBB : (s.scan1 i).1.B = s.B := by rw [e0]
    refine scan_plog f (i + 1) (s.scan1 i).1 (done ++ [ts]) ?_ ?_ ?_ (by simp [h4]) (by rw [e0]; show i + 1 + f <= s.segs; omega) (by rw [hn]; exact h6) (by rw [hBB, h7, e0]; rfl) (.inr ⟨done, ts, hpl⟩)
    ·rw [hpl.texts]; simp
    ·rw [hpl.chain]; unfold Chd; rw [List.flatten_append, chn_append]; simp
    ·rw [hn, hBB]
     have hu := hpl.used
     have hfi := hpl.fits
     obtain ⟨r, hr⟩ := hpl.pre
     rw [e1] at hu hr
     rw [hn] at hfi hr
     rw [hBB] at hr
     refine allPre_snoc ts done 0 0 (zr 32) h3 ?_ a3 ⟨r, ?_⟩
     ·rw [Nat.zero_add, Nat.zero_add]
      exact hu ▸ hfi
     ·rw [Nat.zero_add, Nat.zero_add]
      exact hr
theorem told_plog {segs size : Nat} {X : List UInt8} (hX : X.length = segs * (size * 128)) (h2 : 2 <= size) : PL (Lg.told segs size X) :=
 scan_plog segs 0 (Lg.init segs size X) [] rfl rfl trivial rfl (by show 0 + segs <= segs; omega) (by show 128 <= size * 128; omega) hX (.inl ⟨rfl, rfl, rfl, rfl⟩)
theorem pre_agree {Y Y' b z : List UInt8} {a e : Nat} (h : Y.drop a = b ++ z) (he : a + b.length <= e) (ht : Y'.take e = Y.take e) : ∃ z', Y'.drop a = b ++ z' := by
 have h1 : (Y'.drop a).take b.length = (Y.drop a).take b.length := by
  have := congrArg (fun l => (l.drop a).take b.length) ht
  simp only [List.drop_take, List.take_take, Nat.min_eq_left (show b.length <= e - a by omega)] at this
  exact this
 rw [h, List.take_left] at h1
 exact ⟨(Y'.drop a).drop b.length, by rw [<- h1, List.length_take]; conv => lhs; rw [<- List.take_append_drop b.length (Y'.drop a)]
                                      have hl := congrArg List.length h1
                                      rw [List.length_take] at hl
                                      rw [hl]⟩
theorem allPre_agree {n e : Nat} {Y Y' : List UInt8} (ht : Y'.take e = Y.take e) : ∀ (r : List (List (List UInt8))) (i k : Nat) (c : List UInt8), (i + r.length) * n <= e -> AllPre n Y i k c r -> AllPre n Y' i k c r
 | [], _, _, _, _, _ => trivial
 | ts :: r, i, k, c, he, h => by
  obtain ⟨⟨h1, h2, z, h3⟩, h4⟩ := h
  have e1 : i + (ts :: r).length = i + 1 + r.length := by rw [List.length_cons]; omega
  rw [e1] at he
  refine ⟨⟨h1, h2, pre_agree h3 ?_ ht⟩, allPre_agree ht r _ _ _ he h4⟩
  have : (i + 1) * n <= (i + 1 + r.length) * n := Nat.mul_le_mul_right _ (by omega)
  rw [Nat.add_mul i 1, Nat.one_mul] at this
  omega
theorem PLog.end_ {s : Lg} {done : List (List (List UInt8))} {cur : List (List UInt8)} (h : PLog s done cur) : s.end_ = done.length * s.n + (bod done.length (Cnt done) (Chd done) cur s.sealed_).length := by
 unfold Lg.end_
 rw [h.last, h.used]
theorem PLog.keep {s s' : Lg} {done : List (List (List UInt8))} {cur : List (List UInt8)} (h : PLog s done cur) (e1 : s'.segs = s.segs) (e2 : s'.size = s.size) (e3 : s'.last = s.last) (e4 : s'.used = s.used) (e5 : s'.texts = s.texts) (e6 : s'.chain = s.chain) (e7 : s'.sealed_ = s.sealed_) (hB : s'.B.take s.end_ = s.B.take s.end_) : PLog s' done cur := by
 have hn : s'.n = s.n := by unfold Lg.n; rw [e2]
 have hend := h.end_
 obtain ⟨z, hz⟩ := h.pre
 refine ⟨e3.trans h.last, by rw [e1]; exact h.room, e5.trans h.texts, e6.trans h.chain, ?_, h.fine, by rw [e4, e7]; exact h.used, by rw [e4, hn]; exact h.fits, ?_⟩
 ·rw [hn]
  exact allPre_agree hB done 0 0 (zr 32) (by rw [Nat.zero_add]; omega) h.all
 ·rw [hn, e7]
  exact pre_agree hz (by omega) hB
theorem scan_beyond : ∀ (f j : Nat) (t : Lg), t.scan j f = t \/ j * t.n <= (t.scan j f).end_
 | 0, _, _ => .inl rfl
 | f + 1, j, t => by
  cases hp : pref (t.seg j) (hd j t.texts.length t.chain) with
  | false => rw [Lg.scan_no hp]; exact .inl rfl
  | true =>
   rw [Lg.scan_yes hp]
   have e0 := Lg.scan1_yes hp
   have hn : (t.scan1 j).1.n = t.n := by rw [e0]; rfl
   have h1 : j * t.n <= (t.scan1 j).1.end_ := by rw [e0]; show j * t.n <= j * t.n + _; omega
   right
   split
   ·rcases scan_beyond f (j + 1) (t.scan1 j).1 with h | h
    ·rw [h]; exact h1
    ·rw [hn] at h
     exact Nat.le_trans (Nat.mul_le_mul_right _ (Nat.le_succ j)) h
   ·exact h1
theorem seg_reach {s : Lg} {i : Nat} {ts : List (List UInt8)} {fin : Bool} (hc : s.chain.length = 32) (hf : Fine ts) (hl : (bod i s.texts.length s.chain ts fin).length <= s.n) (hB : (i + 1) * s.n <= s.B.length) (hz : ∃ z, s.B.drop (i * s.n) = bod i s.texts.length s.chain ts fin ++ z) :
  pref (s.seg i) (hd i s.texts.length s.chain) = true /\ (s.seg i).length = s.n /\ ∃ more, (pz (s.seg i) s.texts.length s.n (pz0 s.chain)).texts = ts ++ more /\ (bod i s.texts.length s.chain ts fin).length <= (pz (s.seg i) s.texts.length s.n (pz0 s.chain)).used /\ (fin = true -> pz (s.seg i) s.texts.length s.n (pz0 s.chain) = ⟨ts, chn s.chain ts, true, (bod i s.texts.length s.chain ts fin).length⟩) := by
 obtain ⟨z, hz⟩ := hz
 have hseg : s.seg i = bod i s.texts.length s.chain ts fin ++ z.take (s.n - (bod i s.texts.length s.chain ts fin).length) := by
  unfold Lg.seg
  rw [hz, List.take_append, List.take_of_length_le hl]
 have hsl : (s.seg i).length = s.n := by
  unfold Lg.seg
  rw [List.length_take, List.length_drop]
  rw [Nat.add_mul, Nat.one_mul] at hB
  omega
 have hh := hd_len' i s.texts.length s.chain hc
 have hbl := bod_length i s.texts.length s.chain ts fin hc
 have hm := frs_many ts s.chain
 obtain ⟨g, hg⟩ : ∃ g, s.n = (g + 1) + ts.length := ⟨s.n - 1 - ts.length, by omega⟩
 have hd128 : (s.seg i).drop 128 = frs s.chain ts ++ ((if fin then ft (s.texts.length + ts.length) (chn s.chain ts) else []) ++ z.take (s.n - (bod i s.texts.length s.chain ts fin).length)) := by
  rw [hseg]
  generalize z.take (s.n - (bod i s.texts.length s.chain ts fin).length) = z'
  unfold bod
  rw [List.append_assoc, <- hh, List.drop_left, List.append_assoc]
 have hrun : pz (s.seg i) s.texts.length s.n (pz0 s.chain) = pz (s.seg i) s.texts.length (g + 1) ⟨ts, chn s.chain ts, false, 128 + (frs s.chain ts).length⟩ := by
  have h := pz_run (s.seg i) s.texts.length _ ts (pz0 s.chain) (g + 1) hf hd128
  rw [<- hg] at h
  rw [h]
  rfl
 refine ⟨?_, hsl, ?_⟩
 ·rw [hseg]
  unfold bod
  rw [List.append_assoc]
  exact pref_append _ _
 ·have hdu : (s.seg i).drop (128 + (frs s.chain ts).length) = (if fin then ft (s.texts.length + ts.length) (chn s.chain ts) else []) ++ z.take (s.n - (bod i s.texts.length s.chain ts fin).length) := by
   rw [<- List.drop_drop, hd128, List.drop_left]
  rw [hrun]
  cases fin with
  | true =>
   have hse := pz_seal (s.seg i) s.texts.length g ⟨ts, chn s.chain ts, false, 128 + (frs s.chain ts).length⟩ (by
    show pref ((s.seg i).drop (128 + (frs s.chain ts).length)) (ft (s.texts.length + ts.length) (chn s.chain ts)) = true
    rw [hdu]
    exact pref_append _ _)
   rw [hse]
   have e : (bod i s.texts.length s.chain ts true).length = 128 + (frs s.chain ts).length + 48 := hbl
   rw [e]
   exact ⟨[], (List.append_nil ts).symm, Nat.le_refl _, fun _ => rfl⟩
  | false =>
   have e : (bod i s.texts.length s.chain ts false).length = 128 + (frs s.chain ts).length := hbl
   obtain ⟨ts2, _, a1, _, _, _, a5, _⟩ := pz_told (s.seg i) s.texts.length (g + 1) ⟨ts, chn s.chain ts, false, 128 + (frs s.chain ts).length⟩ rfl (chn_length _ _ hc) (by
    show 128 + (frs s.chain ts).length <= (s.seg i).length
    rw [hsl]
    omega)
   generalize pz (s.seg i) s.texts.length (g + 1) ⟨ts, chn s.chain ts, false, 128 + (frs s.chain ts).length⟩ = zz at a1 a5 ⊢
   refine ⟨ts2, a1, ?_, fun h => by cases h⟩
   have a5' : zz.used = 128 + (frs s.chain ts).length + (frs (chn s.chain ts) ts2).length + (if zz.sealed_ = true then 48 else 0) := a5
   rw [e, a5']
   omega
end
section
set_option maxRecDepth 4000
theorem scan_reach (cur : List (List UInt8)) (fin : Bool) : ∀ (r : List (List (List UInt8))) (i : Nat) (s : Lg) (f : Nat), s.chain.length = 32 -> AllPre s.n s.B i s.texts.length s.chain r -> Fine cur ->
  (bod (i + r.length) (s.texts.length + r.flatten.length) (chn s.chain r.flatten) cur fin).length <= s.n -> r.length < f -> i + f <= s.segs -> s.B.length = s.all -> (∃ z, s.B.drop ((i + r.length) * s.n) = bod (i + r.length) (s.texts.length + r.flatten.length) (chn s.chain r.flatten) cur fin ++ z) ->
  (∃ more, (s.scan i f).texts = s.texts ++ (r.flatten ++ cur) ++ more) /\ (i + r.length) * s.n + (bod (i + r.length) (s.texts.length + r.flatten.length) (chn s.chain r.flatten) cur fin).length <= (s.scan i f).end_
 | [], i, s, f, hc, _, hf, hl, hr, hif, hB, hz => by
  obtain ⟨f, rfl⟩ : ∃ g, f = g + 1 := ⟨f - 1, by simp at hr; omega⟩
  simp only [List.flatten_nil, List.length_nil, Nat.add_zero, chn, List.nil_append] at hl hz ⊢
  have hB' : (i + 1) * s.n <= s.B.length := by rw [hB]; exact Nat.mul_le_mul_right _ (by omega)
  obtain ⟨hp, hsl, more, h1, h2, h3⟩ := seg_reach hc hf hl hB' hz
  rw [Lg.scan_yes hp]
  have e0 := Lg.scan1_yes hp
  generalize pz (s.seg i) s.texts.length s.n (pz0 s.chain) = z at h1 h2 h3 e0 ⊢
  have ht : (s.scan1 i).1.texts = s.texts ++ cur ++ more := by rw [e0]; show s.texts ++ z.texts = _; rw [h1, List.append_assoc]
  have he : i * s.n + (bod i s.texts.length s.chain cur fin).length <= (s.scan1 i).1.end_ := by rw [e0]; show _ <= i * s.n + z.used; omega
  have hn : (s.scan1 i).1.n = s.n := by rw [e0]; rfl
  split
  ·obtain ⟨m2, hm2⟩ := scan_more f (i + 1) (s.scan1 i).1
   refine ⟨⟨more ++ m2, by rw [hm2, ht]; simp⟩, ?_⟩
   rcases scan_beyond f (i + 1) (s.scan1 i).1 with h | h
   ·rw [h]; exact he
   ·rw [hn, Nat.add_mul, Nat.one_mul] at h
    omega
  ·exact ⟨⟨more, ht⟩, he⟩
 | ts :: r, i, s, f, hc, ha, hf, hl, hr, hif, hB, hz => by
  obtain ⟨f, rfl⟩ : ∃ g, f = g + 1 := ⟨f - 1, by simp at hr; omega⟩
  have e1 : i + (ts :: r).length = i + 1 + r.length := by simp; omega
  have e2 : s.texts.length + (ts :: r).flatten.length = (s.texts ++ ts).length + r.flatten.length := by simp; omega
  have e3 : chn s.chain (ts :: r).flatten = chn (chn s.chain ts) r.flatten := by rw [List.flatten_cons, chn_append]
  rw [e1, e2, e3] at hl hz ⊢
  have hB' : (i + 1) * s.n <= s.B.length := by rw [hB]; exact Nat.mul_le_mul_right _ (by omega)
  obtain ⟨⟨a1, a2, a3⟩, a4⟩ := ha
  obtain ⟨hp, hsl, more, h1, h2, h3⟩ := seg_reach hc a2 a1 hB' a3
  rw [Lg.scan_yes hp]
  have e0 := Lg.scan1_yes hp
  rw [h3 rfl] at e0 ⊢
  rw [if_pos rfl, e0]
  obtain ⟨⟨m2, hm2⟩, hend⟩ := scan_reach cur fin r (i + 1) { s with texts := s.texts ++ ts, chain := chn s.chain ts, last := i, used := (bod i s.texts.length s.chain ts true).length, sealed_ := true } f (chn_length _ _ hc) (by rw [List.length_append]; exact a4) hf hl (by simp at hr; omega) (by show i + 1 + f <= s.segs; omega) hB hz
  exact ⟨⟨m2, by rw [hm2]; simp [List.append_assoc]⟩, hend⟩
theorem PLog.reach {s : Lg} {done : List (List (List UInt8))} {cur : List (List UInt8)} (h : PLog s done cur) {X : List UInt8} (hX : X.length = s.all) (ht : X.take s.end_ = s.B.take s.end_) :
  (∃ more, (Lg.told s.segs s.size X).texts = s.texts ++ more) /\ s.end_ <= (Lg.told s.segs s.size X).end_ := by
 have hk : PLog { s with B := X } done cur := h.keep rfl rfl rfl rfl rfl rfl rfl ht
 have hend := h.end_
 have hfits := h.fits
 have hused := h.used
 obtain ⟨z, hz⟩ := hk.pre
 obtain ⟨⟨more, hm⟩, he⟩ := scan_reach cur s.sealed_ done 0 (Lg.init s.segs s.size X) s.segs (zr_length 32) hk.all h.fine
  (by rw [Nat.zero_add]; show (bod done.length (0 + done.flatten.length) (chn (zr 32) done.flatten) cur s.sealed_).length <= s.n; rw [Nat.zero_add]; exact hused ▸ hfits)
  h.room (by show 0 + s.segs <= s.segs; omega) hX ⟨z, by rw [Nat.zero_add]; show X.drop (done.length * s.n) = bod done.length (0 + done.flatten.length) (chn (zr 32) done.flatten) cur s.sealed_ ++ z; rw [Nat.zero_add]; exact hz⟩
 refine ⟨⟨more, ?_⟩, ?_⟩
 ·show ((Lg.init s.segs s.size X).scan 0 s.segs).texts = _
  rw [hm, h.texts]; rfl
 ·rw [hend]
  have he2 : (0 + done.length) * s.n + (bod (0 + done.length) (0 + done.flatten.length) (chn (zr 32) done.flatten) cur s.sealed_).length <= ((Lg.init s.segs s.size X).scan 0 s.segs).end_ := he
  rw [Nat.zero_add, Nat.zero_add] at he2
  exact he2
end
section
set_option maxRecDepth 4000
theorem splice_at (l b : List UInt8) (e : Nat) (h : e <= l.length) : (splice l e b).drop e = b ++ l.drop (e + b.length) := by
 unfold splice
 rw [List.drop_left' (by rw [List.length_take]; omega)]
theorem PLog.lay {s : Lg} {done : List (List (List UInt8))} {cur : List (List UInt8)} (h : PLog s done cur) (hs : s.sealed_ = false) {t : List UInt8} (h1 : 1 <= t.length /\ t.length <= 65535) (hfit : s.used + (t.length + 40) <= s.n) (hB : s.B.length = s.all) (hn : s.end_ <= s.all) : PLog (s.lay t) done (cur ++ [t]) := by
 have hend := h.end_
 have hused := h.used
 rw [hs] at hend hused
 have hBt : (s.lay t).B.take s.end_ = s.B.take s.end_ := splice_front _ _ _ _ (Nat.le_refl _) (by rw [hB]; exact hn)
 have hfl : (frm s.chain t).length = t.length + 40 := frm_length _ _
 obtain ⟨z, hz⟩ := h.pre
 rw [hs] at hz
 have hse : (s.lay t).sealed_ = false := hs
 refine ⟨h.last, h.room, ?_, ?_, ?_, ?_, ?_, ?_, ?_⟩
 ·show s.texts ++ [t] = _
  rw [h.texts, List.append_assoc]
 ·show sha (s.chain ++ t) = _
  rw [h.chain, chn_snoc]
 ·show AllPre s.n (s.lay t).B 0 0 (zr 32) done
  exact allPre_agree hBt done 0 0 (zr 32) (by rw [Nat.zero_add]; omega) h.all
 ·intro u hu
  rcases List.mem_append.1 hu with hu | hu
  ·exact h.fine u hu
  ·obtain rfl := List.mem_singleton.1 hu; exact h1
 ·rw [hse, bod_snoc, List.length_append, <- hused]
  show s.used + (frm s.chain t).length = _
  rw [h.chain]
 ·show s.used + (frm s.chain t).length <= s.n
  rw [hfl]; exact hfit
 ·rw [hse, bod_snoc, <- h.chain]
  obtain ⟨z', hz'⟩ := pre_agree hz (by omega) hBt
  have hz2 : (s.lay t).B.drop (done.length * s.n + (bod done.length (Cnt done) (Chd done) cur false).length) = frm s.chain t ++ s.B.drop (s.end_ + (frm s.chain t).length) := by
   rw [<- hend]
   exact splice_at s.B (frm s.chain t) s.end_ (by rw [hB]; exact hn)
  rw [<- List.drop_drop, hz', List.drop_left] at hz2
  exact ⟨_, by show (s.lay t).B.drop (done.length * s.n) = _; rw [hz', hz2, List.append_assoc]⟩
theorem bod_nil (i k : Nat) (c : List UInt8) : bod i k c [] false = hd i k c := by
 unfold bod
 simp [frs]
theorem PLog.next {s : Lg} {done : List (List (List UInt8))} {cur : List (List UInt8)} (h : PLog s done cur) (hs : s.sealed_ = true) (hr : done.length + 1 < s.segs) (hn : 128 <= s.n) (hB : s.B.length = s.all) : PLog (s.begin_ (s.last + 1)) (done ++ [cur]) [] := by
 have hused := h.used
 have hfits := h.fits
 obtain ⟨z, hz⟩ := h.pre
 rw [hs] at hused hz
 have he : (done.length + 1) * s.n <= s.B.length := by
  rw [hB]
  exact Nat.mul_le_mul_right _ (by omega)
 have hcl : s.chain.length = 32 := by rw [h.chain]; exact chn_length _ _ (Chd_length _)
 have hBt : (s.begin_ (s.last + 1)).B.take ((done.length + 1) * s.n) = s.B.take ((done.length + 1) * s.n) := by
  refine splice_front _ _ _ _ ?_ ?_
  ·show _ <= (s.last + 1) * s.n + 0
   rw [h.last]; exact Nat.le_refl _
  ·show (s.last + 1) * s.n + 0 <= s.B.length
   rw [h.last]; exact he
 have hx : (done.length + 1) * s.n = done.length * s.n + s.n := by rw [Nat.add_mul, Nat.one_mul]
 have eC : Chd (done ++ [cur]) = s.chain := by rw [h.chain]; unfold Chd; rw [List.flatten_append, chn_append]; simp
 have eN : Cnt (done ++ [cur]) = s.texts.length := by rw [h.texts]; unfold Cnt; simp
 refine ⟨by show s.last + 1 = _; rw [h.last]; simp, by show (done ++ [cur]).length < s.segs; simpa using hr, ?_, ?_, ?_, (fun t ht => by cases ht), ?_, ?_, ?_⟩
 ·show s.texts = _
  rw [h.texts]; simp
 ·show s.chain = _
  rw [eC]; rfl
 ·show AllPre s.n (s.begin_ (s.last + 1)).B 0 0 (zr 32) (done ++ [cur])
  refine allPre_snoc cur done 0 0 (zr 32) (allPre_agree hBt done 0 0 (zr 32) (by rw [Nat.zero_add, hx]; omega) h.all) ?_ h.fine ?_
  ·rw [Nat.zero_add, Nat.zero_add]
   exact hused ▸ hfits
  ·rw [Nat.zero_add, Nat.zero_add]
   have hl : (bod done.length (Cnt done) (Chd done) cur true).length <= s.n := hused ▸ hfits
   exact pre_agree hz (show done.length * s.n + (bod done.length (Cnt done) (Chd done) cur true).length <= (done.length + 1) * s.n by rw [hx]; omega) hBt
 ·show 0 + (hd (s.last + 1) s.texts.length s.chain).length = (bod (done ++ [cur]).length (Cnt (done ++ [cur])) (Chd (done ++ [cur])) [] false).length
  rw [bod_nil, eC, hd_len' _ _ _ hcl, hd_len' _ _ _ hcl]
 ·show 0 + (hd (s.last + 1) s.texts.length s.chain).length <= s.n
  rw [hd_len' _ _ _ hcl]; omega
 ·have hsp := splice_at s.B (hd (s.last + 1) s.texts.length s.chain) ((done.length + 1) * s.n) he
  refine ⟨s.B.drop ((done.length + 1) * s.n + (hd (s.last + 1) s.texts.length s.chain).length), ?_⟩
  show (splice s.B ((s.last + 1) * s.n + 0) (hd (s.last + 1) s.texts.length s.chain)).drop ((done ++ [cur]).length * s.n) = bod (done ++ [cur]).length (Cnt (done ++ [cur])) (Chd (done ++ [cur])) [] false ++ _
  rw [bod_nil, eC, eN, List.length_append, List.length_singleton, h.last, Nat.add_zero] at *
  exact hsp
theorem bod_sealed (i k : Nat) (c : List UInt8) (ts : List (List UInt8)) : bod i k c ts true = bod i k c ts false ++ ft (k + ts.length) (chn c ts) := by
 unfold bod
 simp [List.append_assoc]
theorem PLog.sealt {s : Lg} {done : List (List (List UInt8))} {cur : List (List UInt8)} (h : PLog s done cur) (hs : s.sealed_ = false) (hfit : s.used + 48 <= s.n) (hB : s.B.length = s.all) (hn : s.end_ <= s.all) : PLog { s.put (ft s.texts.length s.chain) with sealed_ := true } done cur := by
 have hend := h.end_
 have hused := h.used
 rw [hs] at hend hused
 have hcl : s.chain.length = 32 := by rw [h.chain]; exact chn_length _ _ (Chd_length _)
 have hBt : (s.put (ft s.texts.length s.chain)).B.take s.end_ = s.B.take s.end_ := splice_front _ _ _ _ (Nat.le_refl _) (by rw [hB]; exact hn)
 have hfl : (ft s.texts.length s.chain).length = 48 := by rw [ft_length, hcl]
 obtain ⟨z, hz⟩ := h.pre
 rw [hs] at hz
 have ek : Cnt done + cur.length = s.texts.length := by rw [h.texts, List.length_append]; rfl
 have eb : bod done.length (Cnt done) (Chd done) cur true = bod done.length (Cnt done) (Chd done) cur false ++ ft s.texts.length s.chain := by rw [bod_sealed, ek, <- h.chain]
 refine ⟨h.last, h.room, h.texts, h.chain, ?_, h.fine, ?_, ?_, ?_⟩
 ·show AllPre s.n (s.put (ft s.texts.length s.chain)).B 0 0 (zr 32) done
  exact allPre_agree hBt done 0 0 (zr 32) (by rw [Nat.zero_add]; omega) h.all
 ·show s.used + (ft s.texts.length s.chain).length = (bod done.length (Cnt done) (Chd done) cur true).length
  rw [eb, List.length_append, <- hused]
 ·show s.used + (ft s.texts.length s.chain).length <= s.n
  rw [hfl]; exact hfit
 ·obtain ⟨z', hz'⟩ := pre_agree hz (by omega) hBt
  have hz2 : (s.put (ft s.texts.length s.chain)).B.drop (done.length * s.n + (bod done.length (Cnt done) (Chd done) cur false).length) = ft s.texts.length s.chain ++ s.B.drop (s.end_ + (ft s.texts.length s.chain).length) := by
   rw [<- hend]
   exact splice_at s.B (ft s.texts.length s.chain) s.end_ (by rw [hB]; exact hn)
  rw [<- List.drop_drop, hz', List.drop_left] at hz2
  refine ⟨s.B.drop (s.end_ + (ft s.texts.length s.chain).length), ?_⟩
  show (s.put (ft s.texts.length s.chain)).B.drop (done.length * s.n) = bod done.length (Cnt done) (Chd done) cur true ++ _
  rw [hz', hz2, eb, List.append_assoc]
theorem PLog.first {s : Lg} (h1 : s.texts = []) (h2 : s.chain = zr 32) (hr : 0 < s.segs) (hn : 128 <= s.n) : PLog (s.begin_ 0) [] [] := by
 have hcl : s.chain.length = 32 := by rw [h2]; exact zr_length 32
 refine ⟨rfl, hr, ?_, ?_, trivial, (fun t ht => by cases ht), ?_, ?_, ?_⟩
 ·show s.texts = _
  rw [h1]; rfl
 ·show s.chain = _
  rw [h2]; rfl
 ·show 0 + (hd 0 s.texts.length s.chain).length = (bod 0 (Cnt []) (Chd []) [] false).length
  rw [bod_nil, hd_len' _ _ _ hcl, hd_len' _ _ _ (Chd_length _)]
 ·show 0 + (hd 0 s.texts.length s.chain).length <= s.n
  rw [hd_len' _ _ _ hcl]; omega
 ·refine ⟨s.B.drop (hd 0 s.texts.length s.chain).length, ?_⟩
  show (splice s.B (0 * s.n + 0) (hd 0 s.texts.length s.chain)).drop (0 * s.n) = bod 0 (Cnt []) (Chd []) [] false ++ _
  have hsp := splice_at s.B (hd 0 s.texts.length s.chain) 0 (Nat.zero_le _)
  rw [Nat.zero_mul, Nat.zero_add, hsp, bod_nil, h1, h2, Nat.zero_add]
  rfl
end
end Go.Proofs.YtkgaeoeibjoljaaGreatDoor
