/-
  What a log tells behind a crash: plain.
-/
import Derived.Test.YtldgnckchlbadaaDoorLogD
import Derived.Test.YtldgnckchlbadaaDoorGE
namespace Go.Proofs.YtldgnckchlbadaaDoor
set_option maxRecDepth 4000

theorem pz_agree (b b' : List UInt8) (k n : Nat) (c : List UInt8) (z : Pz) (hz : pz b k n (pz0 c) = z) (hc : c.length = 32) (hb : b.length = n) (hn : 128 ≤ n) (hp : b'.take z.used = b.take z.used) (ht : z.sealed_ = true ∨ ∃ m, b'.drop z.used = zr m) : pz b' k n (pz0 c) = z := by
  obtain ⟨ts, rest, a1, a2, a3, a4, a5, a6⟩ := pz_told b k n (pz0 c) rfl hc (by rw [hb]; exact hn)
  rw [hz] at a1 a2 a4 a5 a6
  have e0 : (pz0 c).used = 128 := rfl
  have e1 : (pz0 c).texts = [] := rfl
  have e2 : (pz0 c).chain = c := rfl
  rw [e0, e2] at a4 a5
  rw [e1, List.nil_append] at a1
  rw [e2] at a2
  rw [e1, List.length_nil, Nat.zero_add] at a4
  have hm := frs_many ts c
  obtain ⟨bd, hbd⟩ : ∃ bd, bd = frs c ts ++ (if z.sealed_ = true then ft (k + ts.length) (chn c ts) else []) := ⟨_, rfl⟩
  have hbl : bd.length = (frs c ts).length + if z.sealed_ = true then 48 else 0 := by
    rw [hbd, List.length_append]
    split
    · rw [ft_length, chn_length _ _ hc]
    · rfl
  have hu : z.used = 128 + bd.length := by rw [a5, hbl]; omega
  have hd : b.drop 128 = bd ++ rest := by rw [a4, hbd, List.append_assoc]
  have hd' : b'.drop 128 = bd ++ b'.drop z.used := by
    have h1 : (b'.take z.used).drop 128 = bd := by
      rw [hp, hu, List.drop_take, Nat.add_sub_cancel_left, hd, List.take_left' rfl]
    have h2 := List.take_append_drop z.used b'
    conv => lhs; rw [← h2]
    have h3 : 128 ≤ (b'.take z.used).length := by rw [hp, List.length_take]; omega
    rw [List.drop_append_of_le_length h3, h1]
  obtain ⟨g, hg⟩ : ∃ g, n = (g + 1) + ts.length := ⟨n - ts.length - 1, by omega⟩
  have hrun := pz_run b' k ((if z.sealed_ = true then ft (k + ts.length) (chn c ts) else []) ++ b'.drop z.used) ts (pz0 c) (g + 1) a3 (by show b'.drop 128 = _; rw [hd', hbd, List.append_assoc]; rfl)
  rw [hg, hrun, e1, List.nil_append, e2, e0]
  have hdd : b'.drop (128 + (frs c ts).length) = (if z.sealed_ = true then ft (k + ts.length) (chn c ts) else []) ++ b'.drop z.used := by
    rw [← List.drop_drop, hd', hbd, List.append_assoc, List.drop_left]
  have hzz : z = ⟨ts, chn c ts, z.sealed_, z.used⟩ := by cases z; simp only at a1 a2; rw [a1, a2]
  cases hse : z.sealed_ with
  | true =>
    rw [hse, if_pos rfl] at hdd
    rw [pz_seal b' k g _ (by
      show pref (b'.drop (128 + (frs c ts).length)) (ft (k + ts.length) (chn c ts)) = true
      rw [hdd]; exact pref_append _ _), hzz]
    rw [hse, if_pos rfl] at hbl
    simp only [hse]
    congr 1
    rw [hu, hbl]
    omega
  | false =>
    rw [hse] at ht hbl
    obtain ⟨m, hm0⟩ : ∃ m, b'.drop z.used = zr m := by
      rcases ht with h | h
      · cases h
      · exact h
    rw [hse, if_neg (by decide), List.nil_append, hm0] at hdd
    rw [pz_zeros b' k _ m g hdd, hzz]
    simp only [hse]
    congr 1
    rw [hu, hbl]
    simp

theorem pref_same (b b' q : List UInt8) (m : Nat) (h : b'.take m = b.take m) (hq : q.length ≤ m) : pref b' q = pref b q := by
  unfold pref
  have : b'.take q.length = b.take q.length := by
    have h1 := congrArg (List.take q.length) h
    rwa [List.take_take, List.take_take, Nat.min_eq_left hq] at h1
  rw [this]

/-- A region that is cut behind its end tells the same. -/
theorem scan_cut : ∀ (f i : Nat) (s : Lg), s.chain.length = 32 → s.B.length = s.all → i + f ≤ s.segs → 256 ≤ s.n → s.end_ ≤ i * s.n →
    (∀ B', B'.take (s.scan i f).end_ = s.B.take (s.scan i f).end_ → B'.drop (s.scan i f).end_ = zr (s.all - (s.scan i f).end_) → ({ s with B := B' } : Lg).scan i f = { s.scan i f with B := B' }) ∧ s.end_ ≤ (s.scan i f).end_ ∧ (s.scan i f).end_ ≤ s.all
  | 0, i, s, _, _, hi, _, he => ⟨fun _ _ _ => rfl, Nat.le_refl _, Nat.le_trans he (Nat.mul_le_mul_right _ (by omega))⟩
  | f + 1, i, s, hc, hB, hi, hn, he => by
    have hseg : (s.seg i).length = s.n := by
      have h1 : (i + 1) * s.n ≤ s.segs * s.n := Nat.mul_le_mul_right _ (by omega)
      rw [Nat.add_mul] at h1
      unfold Lg.seg
      rw [List.length_take, List.length_drop, hB]
      unfold Lg.all
      omega
    have hin : (i + 1) * s.n ≤ s.all := Nat.mul_le_mul_right _ (by omega)
    rw [Nat.add_mul, Nat.one_mul] at hin
    cases hp : pref (s.seg i) (hd i s.texts.length s.chain) with
    | false =>
      rw [Lg.scan_no hp]
      refine ⟨fun B' h1 h2 => ?_, Nat.le_refl _, by omega⟩
      refine Lg.scan_no (s := { s with B := B' }) ?_
      have : (B'.drop (i * s.n)).take s.n = zr s.n := by
        rw [show i * s.n = s.end_ + (i * s.n - s.end_) by omega, ← List.drop_drop, h2, zr_drop, zr_take]
        congr 1
        omega
      show pref ((B'.drop (i * s.n)).take s.n) _ = false
      rw [this]
      exact pref_zeros _ _ _ _
    | true =>
      obtain ⟨z, hz⟩ : ∃ z, z = pz (s.seg i) s.texts.length s.n (pz0 s.chain) := ⟨_, rfl⟩
      have hzb := pz_in' (s.seg i) s.texts.length s.n s.chain hc hseg hn
      rw [← hz] at hzb
      have hs1 := Lg.scan1_yes hp
      obtain ⟨s1, hs1d⟩ : ∃ s1, s1 = (s.scan1 i).1 := ⟨_, rfl⟩
      rw [← hs1d, ← hz] at hs1
      have hst := Lg.scan_yes (f := f) hp
      rw [← hs1d, ← hz] at hst
      have hn1 : s1.n = s.n := by rw [hs1]; rfl
      have he1 : s1.end_ = i * s.n + z.used := by rw [hs1]; rfl
      have hall : s1.all = s.all := by rw [hs1]; rfl
      have hB1 : s1.B = s.B := by rw [hs1]
      have ih := scan_cut f (i + 1) s1 (by rw [hs1]; exact hzb.2.2.1) (by rw [hB1, hall]; exact hB) (by rw [hs1]; show i + 1 + f ≤ s.segs; omega) (by rw [hn1]; exact hn) (by rw [he1, hn1, Nat.add_mul]; omega)
      rw [hall] at ih
      have hE : s1.end_ ≤ (s.scan i (f + 1)).end_ ∧ (s.scan i (f + 1)).end_ ≤ s.all := by
        rw [hst]
        split
        · exact ih.2
        · exact ⟨Nat.le_refl _, by rw [he1]; omega⟩
      refine ⟨fun B' h1 h2 => ?_, by omega, hE.2⟩
      obtain ⟨E, hEd⟩ : ∃ E, E = (s.scan i (f + 1)).end_ := ⟨_, rfl⟩
      rw [← hEd] at h1 h2 hE
      have htk : ((B'.drop (i * s.n)).take s.n).take z.used = (s.seg i).take z.used := by
        have h3 : B'.take (i * s.n + z.used) = s.B.take (i * s.n + z.used) := by
          have h4 := congrArg (List.take (i * s.n + z.used)) h1
          rwa [List.take_take, List.take_take, Nat.min_eq_left (by omega)] at h4
        have h5 := congrArg (List.drop (i * s.n)) h3
        rw [List.drop_take, List.drop_take, Nat.add_sub_cancel_left] at h5
        unfold Lg.seg
        rw [List.take_take, List.take_take, Nat.min_eq_left hzb.1]
        exact h5
      have hpz := pz_agree (s.seg i) ((B'.drop (i * s.n)).take s.n) s.texts.length s.n s.chain z hz.symm hc hseg (by omega) htk (by
        cases hse : z.sealed_ with
        | true => exact .inl rfl
        | false =>
          right
          rw [hse, if_neg (by decide)] at hst
          rw [hst, he1] at hEd
          refine ⟨s.n - z.used, ?_⟩
          rw [List.drop_take, List.drop_drop, ← hEd, h2, zr_take]
          congr 1
          omega)
      have hpr : pref ((B'.drop (i * s.n)).take s.n) (hd i s.texts.length s.chain) = true := by
        rw [pref_same _ _ _ z.used htk (by rw [hd_len' _ _ _ hc]; exact hzb.2.1)]
        exact hp
      have hs1' : (({ s with B := B' } : Lg).scan1 i).1 = { s1 with B := B' } := by
        have := Lg.scan1_yes (s := { s with B := B' }) (j := i) hpr
        rw [this, hs1]
        show ({ s with B := B', texts := s.texts ++ (pz ((B'.drop (i * s.n)).take s.n) s.texts.length s.n (pz0 s.chain)).texts, chain := (pz ((B'.drop (i * s.n)).take s.n) s.texts.length s.n (pz0 s.chain)).chain, last := i, used := (pz ((B'.drop (i * s.n)).take s.n) s.texts.length s.n (pz0 s.chain)).used, sealed_ := (pz ((B'.drop (i * s.n)).take s.n) s.texts.length s.n (pz0 s.chain)).sealed_ } : Lg) = _
        rw [hpz]
      have hst' := Lg.scan_yes (s := { s with B := B' }) (j := i) (f := f) hpr
      rw [hs1'] at hst'
      rw [show (pz (Lg.seg { s with B := B' } i) s.texts.length (Lg.n { s with B := B' }) (pz0 s.chain)) = z from hpz] at hst'
      rw [hst', hst]
      split
      · rename_i hse
        rw [hse, if_pos rfl] at hst
        refine ih.1 B' ?_ ?_
        · rw [← hst, ← hEd, hB1]; exact h1
        · rw [← hst, ← hEd]; exact h2
      · rfl

theorem opened_again {segs size : Nat} {X : List UInt8} (h1 : 1 ≤ segs ∧ segs ≤ 256) (h2 : 2 ≤ size ∧ size ≤ 512) (hX : X.length = segs * size * 128) :
    (Lg.opened segs size (Lg.opened segs size X).B).texts = (Lg.opened segs size X).texts ∧ (Lg.opened segs size (Lg.opened segs size X).B).chain = (Lg.opened segs size X).chain := by
  have hok := Lg.init_ok h1 h2 hX
  have hc := scan_cut segs 0 (Lg.init segs size X) hok.chain hok.oct (by show 0 + segs ≤ segs; omega) hok.n_le.1 (by show 0 * _ + 0 ≤ _; omega)
  have hfx := Lg.scan_fix segs (Lg.init segs size X) 0
  obtain ⟨t, ht⟩ : ∃ t, t = (Lg.init segs size X).scan 0 segs := ⟨_, rfl⟩
  rw [← ht] at hc hfx
  have hB : (Lg.opened segs size X).B = X.take t.end_ ++ zr ((Lg.init segs size X).all - t.end_) := by
    show (Lg.told segs size X).B.take (Lg.told segs size X).end_ ++ zr ((Lg.told segs size X).all - (Lg.told segs size X).end_) = _
    unfold Lg.told
    rw [← ht, hfx.2.2.1]
    unfold Lg.all Lg.n
    rw [hfx.1, hfx.2.1]
    rfl
  have hl : (X.take t.end_).length = t.end_ := by
    rw [List.length_take, Nat.min_eq_left]
    have := hc.2.2
    rw [hok.oct.symm] at this
    exact this
  have := hc.1 (Lg.opened segs size X).B (by rw [hB, seg_first hl]; rfl) (by rw [hB, seg_next hl])
  constructor
  · show ((Lg.init segs size (Lg.opened segs size X).B).scan 0 segs).texts = ((Lg.init segs size X).scan 0 segs).texts
    rw [show Lg.init segs size (Lg.opened segs size X).B = { Lg.init segs size X with B := (Lg.opened segs size X).B } from rfl, this, ht]
  · show ((Lg.init segs size (Lg.opened segs size X).B).scan 0 segs).chain = ((Lg.init segs size X).scan 0 segs).chain
    rw [show Lg.init segs size (Lg.opened segs size X).B = { Lg.init segs size X with B := (Lg.opened segs size X).B } from rfl, this, ht]

theorem scan_fine : ∀ (f i : Nat) (s : Lg), s.Ok → i + f ≤ s.segs → s.texts.length + f * s.n ≤ 100000000 → Fine s.texts → Fine (s.scan i f).texts ∧ (s.scan i f).texts.length ≤ s.texts.length + f * s.n
  | 0, i, s, _, _, _, hf => ⟨hf, by show s.texts.length ≤ _; omega⟩
  | f + 1, i, s, hok, hi, hm, hf => by
    rw [Nat.add_mul, Nat.one_mul] at hm
    have hsg := (hok.seg (j := i) (by omega)).1
    cases hp : pref (s.seg i) (hd i s.texts.length s.chain) with
    | false => rw [Lg.scan_no hp]; exact ⟨hf, by omega⟩
    | true =>
      have h1 := hok.scan1 (j := i) (by omega) (by omega)
      have ht := congrArg Lg.texts (Lg.scan1_yes hp)
      obtain ⟨ts, _, a1, _, a3, _⟩ := pz_told (s.seg i) s.texts.length s.n (pz0 s.chain) rfl hok.chain (by rw [hsg]; have := hok.n_le; show 128 ≤ s.n; omega)
      have hf1 : Fine (s.scan1 i).1.texts := by
        rw [ht]
        show Fine (s.texts ++ (pz (s.seg i) s.texts.length s.n (pz0 s.chain)).texts)
        rw [a1]
        intro t ht
        rcases List.mem_append.1 ht with h | h
        · exact hf t h
        · exact a3 t (by simpa [pz0] using h)
      have hn : (s.scan1 i).1.n = s.n := by unfold Lg.n; rw [h1.2.2.2.2]
      rw [Lg.scan_yes hp]
      split
      · have ih := scan_fine f (i + 1) (s.scan1 i).1 h1.1 (by rw [h1.2.2.2.1]; omega) (by rw [hn]; have := h1.2.1; omega) hf1
        rw [hn] at ih
        rw [Nat.add_mul, Nat.one_mul]
        exact ⟨ih.1, by have := ih.2; have := h1.2.1; omega⟩
      · rw [Nat.add_mul, Nat.one_mul]
        exact ⟨hf1, by have := h1.2.1; omega⟩
theorem opened_sure (segs size : Nat) (X : List UInt8) : (Lg.opened segs size X).sure = (Lg.opened segs size X).texts.length := rfl
theorem opened_texts (segs size : Nat) (X : List UInt8) : (Lg.told segs size X).texts = (Lg.opened segs size X).texts := rfl
theorem scan_ok : ∀ (f i : Nat) (s : Lg), s.Ok → i + f ≤ s.segs → s.texts.length + f * s.n ≤ 100000000 → (s.scan i f).Ok
  | 0, i, s, hok, _, _ => hok
  | f + 1, i, s, hok, hi, hm => by
    rw [Nat.add_mul, Nat.one_mul] at hm
    cases hp : pref (s.seg i) (hd i s.texts.length s.chain) with
    | false => rw [Lg.scan_no hp]; exact hok
    | true =>
      have h1 := hok.scan1 (j := i) (by omega) (by omega)
      have hn : (s.scan1 i).1.n = s.n := by unfold Lg.n; rw [h1.2.2.2.2]
      rw [Lg.scan_yes hp]
      split
      · exact scan_ok f (i + 1) (s.scan1 i).1 h1.1 (by rw [h1.2.2.2.1]; omega) (by rw [hn]; have := h1.2.1; omega)
      · exact h1.1
theorem told_ok {segs size : Nat} {X : List UInt8} (h1 : 1 ≤ segs ∧ segs ≤ 16) (h2 : 2 ≤ size ∧ size ≤ 16) (hX : X.length = segs * size * 128) : (Lg.told segs size X).Ok := by
  have hok := Lg.init_ok (segs := segs) (size := size) (X := X) (by omega) (by omega) hX
  have hb : segs * (size * 128) ≤ 16 * 2048 := Nat.mul_le_mul h1.2 (by omega)
  exact scan_ok segs 0 (Lg.init segs size X) hok (by show 0 + segs ≤ segs; omega) (by show 0 + segs * (size * 128) ≤ _; omega)
theorem opened_fine {segs size : Nat} {X : List UInt8} (h1 : 1 ≤ segs ∧ segs ≤ 16) (h2 : 2 ≤ size ∧ size ≤ 16) (hX : X.length = segs * size * 128) : Fine (Lg.opened segs size X).texts ∧ (Lg.opened segs size X).texts.length ≤ 100000 := by
  have hok := Lg.init_ok (segs := segs) (size := size) (X := X) (by omega) (by omega) hX
  have hb : segs * (size * 128) ≤ 16 * 2048 := Nat.mul_le_mul h1.2 (by omega)
  have hs := scan_fine segs 0 (Lg.init segs size X) hok (by show 0 + segs ≤ segs; omega) (by show 0 + segs * (size * 128) ≤ _; omega) (fun t ht => by cases ht)
  have h2 : (Lg.init segs size X).texts.length + segs * (Lg.init segs size X).n = 0 + segs * (size * 128) := rfl
  rw [h2] at hs
  exact ⟨hs.1, by have := hs.2; show ((Lg.init segs size X).scan 0 segs).texts.length ≤ _; omega⟩

/-! ### What was sure is told -/
theorem scan_more : ∀ (f i : Nat) (s : Lg), ∃ more, (s.scan i f).texts = s.texts ++ more
  | 0, _, s => ⟨[], by simp [Lg.scan]⟩
  | f + 1, i, s => by
    cases hp : pref (s.seg i) (hd i s.texts.length s.chain) with
    | false => exact ⟨[], by rw [Lg.scan_no hp]; simp⟩
    | true =>
      rw [Lg.scan_yes hp]
      have h1 := congrArg Lg.texts (Lg.scan1_yes hp)
      split
      · obtain ⟨more, hm⟩ := scan_more f (i + 1) (s.scan1 i).1
        rw [h1] at hm
        exact ⟨_, by rw [hm, List.append_assoc]⟩
      · exact ⟨_, h1⟩
theorem scan_sure (cur : List (List UInt8)) : ∀ (r : List (List (List UInt8))) (i : Nat) (s : Lg) (rest : List UInt8) (f : Nat), s.chain.length = 32 → AllFit s.n i s.texts.length s.chain r → Fine cur →
    (bod (i + r.length) (s.texts.length + r.flatten.length) (chn s.chain r.flatten) cur false).length ≤ s.n → r.length < f → 128 ≤ s.n →
    s.B.drop (i * s.n) = sgs s.n i s.texts.length s.chain r ++ (bod (i + r.length) (s.texts.length + r.flatten.length) (chn s.chain r.flatten) cur false ++ rest) → s.n ≤ (bod (i + r.length) (s.texts.length + r.flatten.length) (chn s.chain r.flatten) cur false).length + rest.length →
    ∃ more, (s.scan i f).texts = s.texts ++ (r.flatten ++ cur) ++ more
  | [], i, s, rest, f, hc, _, hf, hl, hr, hn, hB, hrl => by
    obtain ⟨f, rfl⟩ : ∃ g, f = g + 1 := ⟨f - 1, by simp at hr; omega⟩
    simp only [List.flatten_nil, List.length_nil, Nat.add_zero, chn, sgs, List.nil_append] at hl hB hrl ⊢
    have hseg : s.seg i = bod i s.texts.length s.chain cur false ++ rest.take (s.n - (bod i s.texts.length s.chain cur false).length) := by
      unfold Lg.seg
      rw [hB, List.take_append, List.take_of_length_le hl]
    have hhd : (hd i s.texts.length s.chain).length = 128 := hd_len' _ _ _ hc
    have hbd : bod i s.texts.length s.chain cur false = hd i s.texts.length s.chain ++ frs s.chain cur := by unfold bod; simp
    have hp : pref (s.seg i) (hd i s.texts.length s.chain) = true := by
      rw [hseg, hbd, List.append_assoc]
      exact pref_append _ _
    have hsl : (s.seg i).length = s.n := by rw [hseg, List.length_append, List.length_take]; omega
    have hm := frs_many cur s.chain
    have hbl : (bod i s.texts.length s.chain cur false).length = 128 + (frs s.chain cur).length := by rw [hbd, List.length_append, hhd]
    obtain ⟨g, hg⟩ : ∃ g, s.n = g + cur.length := ⟨s.n - cur.length, by omega⟩
    have hrun := pz_run (s.seg i) s.texts.length (rest.take (s.n - (bod i s.texts.length s.chain cur false).length)) cur (pz0 s.chain) g hf (by
      show (s.seg i).drop 128 = _
      rw [hseg, hbd, List.append_assoc, ← hhd, List.drop_left]
      rfl)
    rw [← hg] at hrun
    obtain ⟨ts, _, a1, _⟩ := pz_told (s.seg i) s.texts.length g ⟨(pz0 s.chain).texts ++ cur, chn (pz0 s.chain).chain cur, (pz0 s.chain).sealed_, (pz0 s.chain).used + (frs (pz0 s.chain).chain cur).length⟩ rfl (chn_length _ _ hc) (by
      show 128 + (frs s.chain cur).length ≤ (s.seg i).length
      rw [hsl, ← hbl]; exact hl)
    rw [← hrun] at a1
    have ht1 := congrArg Lg.texts (Lg.scan1_yes hp)
    have ht2 : (s.scan1 i).1.texts = s.texts ++ cur ++ ts := by
      rw [ht1]
      show s.texts ++ (pz (s.seg i) s.texts.length s.n (pz0 s.chain)).texts = _
      rw [a1]
      simp [pz0]
    rw [Lg.scan_yes hp]
    split
    · obtain ⟨more, hmo⟩ := scan_more f (i + 1) (s.scan1 i).1
      exact ⟨ts ++ more, by rw [hmo, ht2]; simp⟩
    · exact ⟨ts, ht2⟩
  | ts :: r, i, s, rest, f, hc, ha, hf, hl, hr, hn, hB, hrl => by
    obtain ⟨f, rfl⟩ : ∃ g, f = g + 1 := ⟨f - 1, by simp at hr; omega⟩
    have e1 : i + (ts :: r).length = i + 1 + r.length := by simp; omega
    have e2 : s.texts.length + (ts :: r).flatten.length = (s.texts ++ ts).length + r.flatten.length := by simp; omega
    have e3 : chn s.chain (ts :: r).flatten = chn (chn s.chain ts) r.flatten := by rw [List.flatten_cons, chn_append]
    rw [e1, e2, e3] at hl hB hrl
    have hseg : s.seg i = pad s.n (bod i s.texts.length s.chain ts true) := by
      unfold Lg.seg
      rw [hB, sgs, List.append_assoc]
      exact seg_first (pad_length ha.1.1)
    have hp : pref (s.seg i) (hd i s.texts.length s.chain) = true := by
      rw [hseg]
      unfold pad bod
      rw [List.append_assoc]
      exact pref_append _ _
    have hz' := pz_bod s.n i s.texts.length s.chain ts true hc ha.1.2 ha.1.1 (fun h => by cases h)
    have h1 : s.scan1 i = ({ s with texts := s.texts ++ ts, chain := chn s.chain ts, last := i, used := (bod i s.texts.length s.chain ts true).length, sealed_ := true }, true) := by
      unfold Lg.scan1
      rw [if_pos hp, hseg, hz']
    rw [Lg.scan, h1]
    simp only [if_true]
    have hB' : s.B.drop ((i + 1) * s.n) = sgs s.n (i + 1) (s.texts ++ ts).length (chn s.chain ts) r ++ (bod (i + 1 + r.length) ((s.texts ++ ts).length + r.flatten.length) (chn (chn s.chain ts) r.flatten) cur false ++ rest) := by
      rw [Nat.add_mul, Nat.one_mul, ← List.drop_drop, hB, sgs, List.append_assoc, seg_next (pad_length ha.1.1), List.length_append]
    obtain ⟨more, ih⟩ := scan_sure cur r (i + 1) { s with texts := s.texts ++ ts, chain := chn s.chain ts, last := i, used := (bod i s.texts.length s.chain ts true).length, sealed_ := true } rest f (chn_length _ _ hc) (by rw [List.length_append]; exact ha.2) hf hl (by simp at hr; omega) hn hB' hrl
    exact ⟨more, by rw [ih]; simp [List.append_assoc]⟩

/-- What is sure lies ahead of what is clean. -/
def Sr (s : Lg) : Prop := s.sure = 0 ∨ ∃ done cur, AllFit s.n 0 0 (zr 32) done ∧ Fine cur ∧ done.length < s.segs ∧ (bod done.length (Cnt done) (Chd done) cur false).length ≤ s.n ∧ (Lx s done cur).length = s.clean ∧ s.B.take s.clean = Lx s done cur ∧ s.sure = (done.flatten ++ cur).length
theorem Sr.told {s : Lg} (h : Sr s) (hok : s.Ok) {X : List UInt8} (hX : X.length = s.all) (ht : X.take s.clean = s.B.take s.clean) : s.sure ≤ (Lg.opened s.segs s.size X).texts.length := by
  rcases h with h | ⟨done, cur, h1, h2, h3, h4, h5, h6, h7⟩
  · omega
  · have hn := hok.n_le
    have hXd : X = Lx s done cur ++ X.drop s.clean := by rw [← h6, ← ht, List.take_append_drop]
    have hLl : (Lx s done cur).length = done.length * s.n + (bod done.length (Cnt done) (Chd done) cur false).length := by
      unfold Lx
      rw [List.length_append, sgs_length _ _ _ _ _ h1]
    have hal : (done.length + 1) * s.n ≤ s.segs * s.n := Nat.mul_le_mul_right _ h3
    rw [Nat.add_mul, Nat.one_mul] at hal
    obtain ⟨more, hm⟩ := scan_sure cur done 0 (Lg.init s.segs s.size X) (X.drop s.clean) s.segs (zr_length 32) h1 h2 (by show (bod (0 + done.length) (0 + done.flatten.length) (chn (zr 32) done.flatten) cur false).length ≤ s.n; rw [Nat.zero_add, Nat.zero_add]; exact h4) h3 (by show 128 ≤ s.n; omega) (by
      show X.drop (0 * s.n) = sgs s.n 0 0 (zr 32) done ++ (bod (0 + done.length) (0 + done.flatten.length) (chn (zr 32) done.flatten) cur false ++ X.drop s.clean)
      rw [Nat.zero_mul, List.drop_zero, Nat.zero_add, Nat.zero_add, ← List.append_assoc]
      exact hXd) (by
      show s.n ≤ (bod (0 + done.length) (0 + done.flatten.length) (chn (zr 32) done.flatten) cur false).length + (X.drop s.clean).length
      rw [Nat.zero_add, Nat.zero_add, List.length_drop, hX]
      have h8 : (bod done.length done.flatten.length (chn (zr 32) done.flatten) cur false).length = (bod done.length (Cnt done) (Chd done) cur false).length := rfl
      have h9 : s.all = s.segs * s.n := rfl
      omega)
    show s.sure ≤ ((Lg.init s.segs s.size X).scan 0 s.segs).texts.length
    rw [hm, h7]
    simp only [List.length_append]
    omega
theorem Sr.append {s : Lg} {D : Dk} {f : Nat} {t : List UInt8} (h : Sr s) (hk : Kp s D f) (he : s.err t.length = 0) : Sr (s.append t) := by
  have hf := laid_foot hk.laid
  have hr := hk.sok.room (fun _ => hf.2) he
  have hx := room_fix s t.length
  have hfr := room_front hk.sok hr (fun _ => hf.2) (laid_last hk.laid)
  have hce : s.clean ≤ s.end_ := by rcases hk.even with e | e <;> omega
  have hre := hr.ok.end_le
  have hn : (s.append t).n = s.n := by unfold Lg.n; rw [show (s.append t).size = s.size from hx.2.1]
  have hB : (s.append t).B.take s.clean = s.B.take s.clean := by
    have h1 : (s.append t).B.take s.end_ = s.B.take s.end_ := by
      have : (s.append t).B.take s.end_ = (s.room t.length).B.take s.end_ := put_front (s.room t.length) _ _ hfr.1 (by rw [hr.ok.oct]; exact hre)
      rw [this, hfr.2]
    have h2 := congrArg (List.take s.clean) h1
    rwa [List.take_take, List.take_take, Nat.min_eq_left hce] at h2
  have hcl : (s.append t).clean = s.clean := hx.2.2.2.1
  have hsu : (s.append t).sure = s.sure := hx.2.2.1
  have hsg : (s.append t).segs = s.segs := hx.1
  rcases h with h | ⟨done, cur, h1, h2, h3, h4, h5, h6, h7⟩
  · exact .inl (by rw [hsu]; exact h)
  · have hL : Lx (s.append t) done cur = Lx s done cur := by unfold Lx; rw [hn]
    exact .inr ⟨done, cur, by rw [hn]; exact h1, h2, by rw [hsg]; exact h3, by rw [hn]; exact h4, by rw [hL, hcl]; exact h5, by rw [hcl, hB, hL]; exact h6, by rw [hsu]; exact h7⟩
theorem Sr.flushed {s : Lg} (hl : Laid0 s ∨ ∃ done cur, Laid1 s done cur) : Sr s.flushed := by
  rcases hl with l | ⟨done, cur, l⟩
  · exact .inl (by show s.texts.length = 0; rw [l.texts]; rfl)
  · have h1 := l.foot
    refine .inr ⟨done, cur, l.fit, l.fine, l.room, by have := l.used; show _ ≤ s.n; omega, l.len, ?_, by show s.texts.length = _; rw [l.texts]⟩
    show s.B.take s.end_ = Lx s done cur
    rw [l.octs]
    exact seg_first l.len

/-! ### The region behind a crash -/
theorem sect_get (l : List UInt8) (s x : Nat) (hx : x < 128) : (sect l s)[x]? = l[s * 128 + x]? := by
  unfold sect
  rw [List.getElem?_take, if_pos hx, List.getElem?_drop]
theorem piece_take {D : Dk} (hq : D.queue = []) (f P c : Nat) (hc : c ≤ P * 128) : (D.piece f P).take c = (D.safe.drop (f * 128)).take c := by
  unfold Dk.piece
  rw [image_idle hq, List.take_take, Nat.min_eq_left hc]
/-- A crash with the new sectors in the queue keeps what is clean. -/
theorem Kp.torn {s : Lg} {D : Dk} {f : Nat} (h : Kp s D f) (hce : s.clean < s.end_) (k : Int) (hk : -1 ≤ k ∧ k ≤ 10) (keep : List Int) : ((({ D.pushed f s with calls := k } : Dk).crashed keep).piece f (s.segs * s.size)).take s.clean = s.B.take s.clean := by
  have hel := h.sok.end_le
  have hoct := h.sok.oct
  have hall : s.all = s.segs * s.size * 128 := by unfold Lg.all Lg.n; rw [seg_all]
  have hab : s.first < s.behind ∧ s.behind ≤ s.segs * s.size ∧ s.first * 128 ≤ s.clean ∧ s.end_ ≤ s.behind * 128 := by unfold Lg.first Lg.behind; omega
  have hnl : s.new.length = (s.behind - s.first) * 128 := by
    unfold Lg.new
    rw [List.length_take, List.length_drop, hoct, hall]
    omega
  have hpk : (D.pushed f s).Ok := h.ok.push _ _ _ (by rw [hnl]; exact Nat.le_refl _) (by have := h.fit; omega)
  obtain ⟨D1, hD1⟩ : ∃ D1, D1 = ({ D.pushed f s with calls := k } : Dk) := ⟨_, rfl⟩
  have hok1 : D1.Ok := by rw [hD1]; exact ⟨hpk.whole, hpk.pos, hpk.most, hpk.fits, by show _ ≤ k; omega, by show k ≤ _; omega⟩
  have hsafe : D1.safe = D.safe := by rw [hD1]; rfl
  have hqu : D1.queue = parts (f + s.first) s.new (s.behind - s.first) := by
    rw [hD1]
    show D.queue ++ parts _ _ _ = _
    rw [h.queue, List.nil_append]
  have hB : ∀ x, x < s.clean → D.safe[f * 128 + x]? = s.B[x]? := fun x hx => by
    have h1 := congrArg (fun l : List UInt8 => l[x]?) h.same
    unfold Dk.piece pad at h1
    rw [image_idle h.queue] at h1
    simp only [List.getElem?_take, List.getElem?_drop] at h1
    rw [if_pos (by omega), List.getElem?_append_left (by rw [List.length_take]; omega), List.getElem?_take, if_pos hx] at h1
    exact h1
  rw [← hD1, piece_take rfl _ _ _ (by omega)]
  have hget : ∀ x, x < s.clean → (D1.crashed keep).safe[f * 128 + x]? = s.B[x]? := fun x hx => by
    have e1 : f * 128 + x = (f + x / 128) * 128 + x % 128 := by omega
    have hfit := h.fit
    rw [e1, ← sect_get _ _ _ (Nat.mod_lt _ (by omega))]
    rcases crash_sect D1 hok1 keep (f + x / 128) (by rw [hsafe]; omega) with e | ⟨q, hq, hq1, e⟩
    · rw [e, sect_get _ _ _ (Nat.mod_lt _ (by omega)), ← e1, hsafe]
      exact hB x hx
    · rw [e]
      rw [hqu] at hq
      obtain ⟨i, hi, rfl⟩ := List.mem_map.1 hq
      have hi2 := List.mem_range.1 hi
      have hq2 : f + s.first + i = f + x / 128 := hq1
      show (sect s.new i)[x % 128]? = _
      rw [sect_get _ _ _ (Nat.mod_lt _ (by omega))]
      unfold Lg.new
      rw [List.getElem?_take, if_pos (by omega), List.getElem?_drop]
      congr 1
      omega
  apply List.ext_getElem?
  intro x
  rw [List.getElem?_take, List.getElem?_take]
  split
  · rw [List.getElem?_drop]
    exact hget x (by assumption)
  · rfl
/-- A crash with nothing in the queue. -/
theorem Kp.still {s : Lg} {D : Dk} {f : Nat} (h : Kp s D f) (k : Int) (keep : List Int) : ((({ D with calls := k } : Dk).crashed keep).piece f (s.segs * s.size)).take s.clean = s.B.take s.clean := by
  have hsf : (({ D with calls := k } : Dk).crashed keep).safe = D.safe := by
    show (crashS { D with calls := k } keep).1 = D.safe
    unfold crashS
    show (keep.foldl (crashF D.queue) (D.safe, [])).1 = D.safe
    rw [h.queue]
    suffices hh : ∀ (l : List Int) (st : List UInt8 × List Int), (l.foldl (crashF []) st).1 = st.1 from hh keep _
    intro l
    induction l with
    | nil => intro st; rfl
    | cons a l ih => intro st; rw [List.foldl_cons, ih]; unfold crashF; simp
  have hoct := h.sok.oct
  have hel := h.sok.end_le
  have hce : s.clean ≤ s.end_ := by rcases h.even with e | e <;> omega
  have hall : s.all = s.segs * s.size * 128 := by unfold Lg.all Lg.n; rw [seg_all]
  have h1 := h.same
  unfold Dk.piece at h1 ⊢
  rw [image_idle h.queue] at h1
  rw [image_idle rfl, hsf, h1]
  unfold pad
  exact seg_first (by rw [List.length_take]; omega)
end Go.Proofs.YtldgnckchlbadaaDoor
