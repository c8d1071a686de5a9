/-
  A log and its disk, whatever is laid and flushed: plain.
-/
import Derived.Test.YtldgnckchlbadaaDoorLog5
import Derived.Test.YtldgnckchlbadaaDoorLog9
import Derived.Test.YtldgnckchlbadaaDoorGE
namespace Go.Proofs.YtldgnckchlbadaaDoor
set_option maxRecDepth 4000

theorem puts_parts (S l : List UInt8) (a : Nat) : ∀ (n : Nat), n * 128 ≤ l.length → (a + n) * 128 ≤ S.length → puts S (parts a l n) = S.take (a * 128) ++ (l.take (n * 128) ++ S.drop ((a + n) * 128))
  | 0, _, _ => by simp [parts_zero, puts]
  | n + 1, h1, h2 => by
    have ih := puts_parts S l a n (by omega) (by omega)
    rw [parts_succ, puts_snoc, ih]
    have hs := length_sect l n (by omega)
    have hP : (S.take (a * 128) ++ l.take (n * 128)).length = (a + n) * 128 := by rw [List.length_append, List.length_take, List.length_take]; omega
    show splice (S.take (a * 128) ++ (l.take (n * 128) ++ S.drop ((a + n) * 128))) ((a + n) * 128) (sect l n) = _
    unfold splice
    have e1 : l.take ((n + 1) * 128) = l.take (n * 128) ++ sect l n := by rw [Nat.add_mul, Nat.one_mul, List.take_add]; rfl
    have e2 : ((S.take (a * 128) ++ l.take (n * 128)) ++ S.drop ((a + n) * 128)).drop ((a + n) * 128 + 128) = S.drop ((a + (n + 1)) * 128) := by
      rw [← List.drop_drop, seg_next hP, List.drop_drop]
      congr 1
      omega
    have e0 : S.take (a * 128) ++ (l.take (n * 128) ++ S.drop ((a + n) * 128)) = (S.take (a * 128) ++ l.take (n * 128)) ++ S.drop ((a + n) * 128) := (List.append_assoc _ _ _).symm
    rw [hs, e0, seg_first hP, e2, e1]
    simp only [List.append_assoc]
theorem image_push {D : Dk} (hq : D.queue = []) (a n : Nat) (l : List UInt8) (h1 : l.length = n * 128) (h2 : (a + n) * 128 ≤ D.safe.length) : (D.push a l n).image = D.safe.take (a * 128) ++ (l ++ D.safe.drop ((a + n) * 128)) := by
  show puts D.safe (D.queue ++ parts a l n) = _
  have hl : l.take (n * 128) = l := List.take_of_length_le (by omega)
  rw [hq, List.nil_append, puts_parts D.safe l a n (by omega) h2, hl]
theorem image_idle {D : Dk} (hq : D.queue = []) : D.image = D.safe := by
  show puts D.safe D.queue = _
  rw [hq]
  rfl
theorem mid_splice (S l : List UInt8) (F A N : Nat) (hA : A + l.length ≤ N) (hN : F + N ≤ S.length) : ((S.take (F + A) ++ (l ++ S.drop (F + A + l.length))).drop F).take N = ((S.drop F).take N).take A ++ (l ++ ((S.drop F).take N).drop (A + l.length)) := by
  obtain ⟨X, Y, rfl, hX⟩ : ∃ X Y, S = X ++ Y ∧ X.length = F := ⟨S.take F, S.drop F, (List.take_append_drop _ _).symm, by simp; omega⟩
  rw [List.length_append] at hN
  have e1 : (X ++ Y).take (F + A) = X ++ Y.take A := by rw [List.take_append, List.take_of_length_le (by omega), hX, Nat.add_sub_cancel_left]
  have e2 : (X ++ Y).drop (F + A + l.length) = Y.drop (A + l.length) := by rw [Nat.add_assoc, ← List.drop_drop, seg_next hX]
  rw [e1, e2, List.append_assoc, seg_next hX, seg_next hX]
  obtain ⟨R, Z, rfl, hR⟩ : ∃ R Z, Y = R ++ Z ∧ R.length = N := ⟨Y.take N, Y.drop N, (List.take_append_drop _ _).symm, by simp; omega⟩
  have t1 : (R ++ Z).take A = R.take A := List.take_append_of_le_length (by omega)
  have t2 : (R ++ Z).drop (A + l.length) = R.drop (A + l.length) ++ Z := List.drop_append_of_le_length (by omega)
  have t3 : (R.take A ++ (l ++ (R.drop (A + l.length) ++ Z))) = (R.take A ++ (l ++ R.drop (A + l.length))) ++ Z := by simp
  rw [t1, t2, seg_first hR, t3, seg_first (by simp; omega)]

theorem seg_all (segs size : Nat) : segs * (size * 128) = segs * size * 128 := (Nat.mul_assoc _ _ _).symm
theorem laid_octs {s : Lg} (h : Laid0 s ∨ ∃ done cur, Laid1 s done cur) : s.B = pad s.all (s.B.take s.end_) := by
  rcases h with h | ⟨done, cur, h⟩
  · have he : s.end_ = 0 := by unfold Lg.end_; rw [h.last, h.used, Nat.zero_mul]
    rw [he, List.take_zero, pad_nil]
    exact h.octs
  · have hl := h.len
    have : s.B.take s.end_ = Lx s done cur := by rw [h.octs]; exact seg_first hl
    rw [this]
    exact h.octs
theorem laid_foot {s : Lg} (h : Laid0 s ∨ ∃ done cur, Laid1 s done cur) : s.sealed_ = false ∧ s.used + 48 ≤ s.n := by
  rcases h with h | ⟨done, cur, h⟩
  · exact ⟨h.sealed_, by rw [h.used]; have := h.size; unfold Lg.n; omega⟩
  · exact ⟨h.sealed_, h.foot⟩

structure Kp (s : Lg) (D : Dk) (f : Nat) : Prop where
  sok : s.Ok
  laid : Laid0 s ∨ ∃ done cur, Laid1 s done cur
  dead : s.dead = false
  even : (s.sure = s.texts.length ∧ s.clean = s.end_) ∨ (s.sure < s.texts.length ∧ s.clean < s.end_)
  ok : D.Ok
  calls : D.calls = -1
  queue : D.queue = []
  fit : (f + s.segs * s.size) * 128 ≤ D.safe.length
  same : D.piece f (s.segs * s.size) = pad s.all (s.B.take s.clean)

/-- A piece of sectors anew. -/
theorem piece_push {D : Dk} (hok : D.Ok) (hq : D.queue = []) (f a n P : Nat) (l : List UInt8) (h1 : l.length = n * 128) (haP : a + n ≤ P) (h2 : (f + P) * 128 ≤ D.safe.length) : (D.push (f + a) l n).flushed.piece f P = (D.piece f P).take (a * 128) ++ (l ++ (D.piece f P).drop ((a + n) * 128)) := by
  show ((puts (D.push (f + a) l n).image []).drop (f * 128)).take (P * 128) = ((D.image.drop (f * 128)).take (P * 128)).take (a * 128) ++ (l ++ ((D.image.drop (f * 128)).take (P * 128)).drop ((a + n) * 128))
  show ((D.push (f + a) l n).image.drop (f * 128)).take (P * 128) = _
  rw [image_push hq _ _ _ h1 (by omega), image_idle hq]
  have := mid_splice D.safe l (f * 128) (a * 128) (P * 128) (by omega) (by omega)
  rw [show (f + a) * 128 = f * 128 + a * 128 by omega, show (f + a + n) * 128 = f * 128 + a * 128 + l.length by omega, this, show (a + n) * 128 = a * 128 + l.length by omega]

theorem laid_opened {segs size : Nat} {X : List UInt8} (h1 : 1 ≤ segs) (h2 : 2 ≤ size) (hz : X = zr (segs * size * 128)) : Laid0 (Lg.opened segs size X) := by
  obtain ⟨n, rfl⟩ : ∃ n, segs = n + 1 := ⟨segs - 1, by omega⟩
  have htold : Lg.told (n + 1) size X = Lg.init (n + 1) size X := by
    unfold Lg.told
    refine scan_zero _ _ ?_
    show X = zr ((n + 1) * (size * 128))
    rw [seg_all, hz]
  have hend : (Lg.init (n + 1) size X).end_ = 0 := by show 0 * _ + 0 = 0; omega
  unfold Lg.opened
  rw [htold]
  refine ⟨h1, h2, rfl, rfl, rfl, rfl, ?_, rfl⟩
  show X.take (Lg.init (n + 1) size X).end_ ++ zr ((n + 1) * (size * 128) - (Lg.init (n + 1) size X).end_) = zr ((n + 1) * (size * 128))
  rw [hend, List.take_zero, List.nil_append, Nat.sub_zero]
theorem allFit_fine (n : Nat) : ∀ (r : List (List (List UInt8))) (i k : Nat) (c : List UInt8), AllFit n i k c r → Fine r.flatten
  | [], _, _, _, _ => fun t ht => by simp at ht
  | ts :: r, i, k, c, h => fun t ht => by
    rw [List.flatten_cons, List.mem_append] at ht
    rcases ht with ht | ht
    · exact h.1.2 t ht
    · exact allFit_fine n r _ _ _ h.2 t ht
theorem laid_fine {s : Lg} (h : Laid0 s ∨ ∃ done cur, Laid1 s done cur) : Fine s.texts := by
  rcases h with h | ⟨done, cur, h⟩
  · rw [h.texts]; intro t ht; simp at ht
  · rw [h.texts]
    intro t ht
    rcases List.mem_append.1 ht with ht | ht
    · exact allFit_fine _ _ _ _ _ h.fit t ht
    · exact h.fine t ht
theorem Kp.opened {D : Dk} {f segs size : Nat} (hD : D.Ok) (hc : D.calls = -1) (hq : D.queue = []) (h1 : 1 ≤ segs ∧ segs ≤ 256) (h2 : 2 ≤ size ∧ size ≤ 512) (hfit : (f + segs * size) * 128 ≤ D.safe.length) (hz : D.piece f (segs * size) = zr (segs * size * 128)) : Kp (Lg.opened segs size (D.piece f (segs * size))) (D.opened f segs size) f := by
  obtain ⟨n, rfl⟩ : ∃ n, segs = n + 1 := ⟨segs - 1, by omega⟩
  have htold : Lg.told (n + 1) size (D.piece f ((n + 1) * size)) = Lg.init (n + 1) size (D.piece f ((n + 1) * size)) := by
    unfold Lg.told
    refine scan_zero _ _ ?_
    show D.piece f ((n + 1) * size) = zr ((n + 1) * (size * 128))
    rw [seg_all, hz]
  have hend : (Lg.init (n + 1) size (D.piece f ((n + 1) * size))).end_ = 0 := by show 0 * _ + 0 = 0; omega
  have hcutB : (Lg.init (n + 1) size (D.piece f ((n + 1) * size))).cut.B = zr ((n + 1) * size * 128) := by
    show (D.piece f ((n + 1) * size)).take (Lg.init (n + 1) size (D.piece f ((n + 1) * size))).end_ ++ zr ((n + 1) * (size * 128) - (Lg.init (n + 1) size (D.piece f ((n + 1) * size))).end_) = _
    rw [hend, List.take_zero, List.nil_append, Nat.sub_zero, seg_all]
  have hiok := Lg.init_ok h1 h2 (X := D.piece f ((n + 1) * size)) (by rw [hz, zr_length])
  have hP : 0 < (n + 1) * size := Nat.mul_pos (by omega) (by omega)
  unfold Lg.opened Dk.opened
  rw [htold, hend, hcutB]
  unfold Dk.cut
  rw [Nat.zero_div, if_pos hP, Nat.zero_mul, List.drop_zero, Nat.sub_zero]
  have hpk : (D.push (f + 0) (zr ((n + 1) * size * 128)) ((n + 1) * size)).Ok := hD.push _ _ _ (by rw [zr_length]; exact Nat.le_refl _) (by rw [Nat.add_zero]; exact hfit)
  refine ⟨hiok.cut.flushed, .inl ⟨h1.1, h2.1, rfl, rfl, rfl, rfl, ?_, rfl⟩, rfl, .inl ⟨rfl, rfl⟩, hpk.flushed, ?_, rfl, ?_, ?_⟩
  · show (Lg.init (n + 1) size (D.piece f ((n + 1) * size))).cut.B = zr ((n + 1) * (size * 128))
    rw [hcutB, seg_all]
  · show nextCalls (nextCalls D.calls) = -1
    rw [hc]; rfl
  · show _ ≤ (D.push (f + 0) (zr ((n + 1) * size * 128)) ((n + 1) * size)).image.length
    rw [hpk.image]
    exact hfit
  · show (D.push (f + 0) (zr ((n + 1) * size * 128)) ((n + 1) * size)).flushed.piece f ((n + 1) * size) = pad _ (List.take (Lg.init (n + 1) size (D.piece f ((n + 1) * size))).end_ _)
    rw [hend, List.take_zero, pad_nil, piece_push hD hq f 0 ((n + 1) * size) ((n + 1) * size) _ (zr_length _) (by omega) hfit, hz]
    show _ = zr ((n + 1) * (size * 128))
    rw [seg_all, Nat.zero_add, Nat.zero_mul, List.take_zero, List.nil_append, zr_drop, Nat.sub_self]
    simp [zr]

theorem splice_front (l b : List UInt8) (e c : Nat) (h : c ≤ e) (h2 : e ≤ l.length) : (splice l e b).take c = l.take c := by
  unfold splice
  rw [List.take_append_of_le_length (by rw [List.length_take]; omega), List.take_take, Nat.min_eq_left h]
theorem put_front (s : Lg) (b : List UInt8) (c : Nat) (h : c ≤ s.end_) (h2 : s.end_ ≤ s.B.length) : (s.put b).B.take c = s.B.take c := splice_front _ _ _ _ h h2
theorem room_fix (s : Lg) (m : Nat) : (s.room m).segs = s.segs ∧ (s.room m).size = s.size ∧ (s.room m).sure = s.sure ∧ (s.room m).clean = s.clean ∧ (s.room m).dead = s.dead ∧ (s.room m).texts = s.texts ∧ (s.room m).chain = s.chain := by
  unfold Lg.room
  split
  · exact ⟨rfl, rfl, rfl, rfl, rfl, rfl, rfl⟩
  · split
    · exact ⟨rfl, rfl, rfl, rfl, rfl, rfl, rfl⟩
    · split
      · exact ⟨rfl, rfl, rfl, rfl, rfl, rfl, rfl⟩
      · exact ⟨rfl, rfl, rfl, rfl, rfl, rfl, rfl⟩
/-- Making room leaves what lies ahead of the end. -/
theorem room_front {s : Lg} {m : Nat} (hok : s.Ok) (hr : s.Room m) (hf : s.sealed_ = false → s.used + 48 ≤ s.n) (hlast : s.used = 0 → s.last = 0) : s.end_ ≤ (s.room m).end_ ∧ (s.room m).B.take s.end_ = s.B.take s.end_ := by
  have hrk := hr.ok
  have hend := hok.end_le
  have hoct := hok.oct
  have key : ∀ (r : Lg), r.n = s.n → r.B.length = s.all → s.end_ ≤ (s.last + 1) * s.n → (r.begin_ (s.last + 1)).end_ ≥ s.end_ ∧ ((s.last + 1) * s.n ≤ s.all → (r.begin_ (s.last + 1)).B.take s.end_ = r.B.take s.end_) := by
    intro r hn hb hle
    refine ⟨?_, fun h2 => ?_⟩
    · show s.end_ ≤ (s.last + 1) * r.n + _
      rw [hn]
      omega
    · show (splice r.B ((s.last + 1) * r.n + 0) _).take s.end_ = _
      rw [hn]
      exact splice_front _ _ _ _ (by omega) (by rw [hb]; omega)
  have hle : s.end_ ≤ (s.last + 1) * s.n := by
    have := hok.used
    unfold Lg.end_
    rw [Nat.add_mul]
    omega
  unfold Lg.room at hrk ⊢
  by_cases h0 : s.used = 0
  · rw [if_pos h0] at hrk ⊢
    have he : s.end_ = 0 := by unfold Lg.end_; rw [h0, hlast h0, Nat.zero_mul]
    rw [he]
    exact ⟨Nat.zero_le _, rfl⟩
  · rw [if_neg h0] at hrk ⊢
    have hnx : ∀ r : Lg, r.segs = s.segs → r.n = s.n → (r.begin_ (s.last + 1)).Ok → (s.last + 1) * s.n ≤ s.all := by
      intro r h1 h2 h3
      have := h3.last
      have h4 : s.last + 1 < r.segs := this
      rw [h1] at h4
      exact Nat.mul_le_mul_right _ (by omega)
    by_cases h1 : s.sealed_ = true
    · rw [if_pos h1] at hrk ⊢
      have k := key s rfl hoct hle
      exact ⟨k.1, k.2 (hnx s rfl rfl hrk)⟩
    · rw [if_neg h1] at hrk ⊢
      by_cases h2 : s.fits m = false
      · rw [if_pos h2] at hrk ⊢
        have hfl : (s.put (ft s.texts.length s.chain)).Ok := hok.put (by rw [ft_length, hok.chain]; exact hf (by simpa using h1))
        have k := key (s.put (ft s.texts.length s.chain)) rfl hfl.oct hle
        refine ⟨k.1, ?_⟩
        rw [k.2 (hnx (s.put (ft s.texts.length s.chain)) rfl rfl hrk)]
        exact put_front s _ _ (Nat.le_refl _) (by rw [hoct]; exact hend)
      · rw [if_neg h2]
        exact ⟨Nat.le_refl _, rfl⟩

theorem laid_last {s : Lg} (h : Laid0 s ∨ ∃ done cur, Laid1 s done cur) : s.used = 0 → s.last = 0 := by
  intro h0
  rcases h with h | ⟨done, cur, h⟩
  · exact h.last
  · have := h.used
    rw [bod_length _ _ _ _ _ (Chd_length _)] at this
    omega

theorem Kp.append {s : Lg} {D : Dk} {f : Nat} {t : List UInt8} (h : Kp s D f) (he : s.err t.length = 0) (hm : s.texts.length + 1 ≤ 100000000) : Kp (s.append t) D f := by
  have hf := laid_foot h.laid
  have hr := h.sok.room (fun _ => hf.2) he
  have hx := room_fix s t.length
  have hfr := room_front h.sok hr (fun _ => hf.2) (laid_last h.laid)
  have hce : s.clean ≤ s.end_ := by rcases h.even with e | e <;> omega
  have hsg : (s.append t).segs = s.segs := hx.1
  have hsz : (s.append t).size = s.size := hx.2.1
  have hre := hr.ok.end_le
  have hall : (s.append t).all = s.all := by unfold Lg.all Lg.n; rw [hsg, hsz]
  have hende : s.end_ < (s.append t).end_ := by
    have : (s.append t).end_ = (s.room t.length).end_ + (frm (s.room t.length).chain t).length := by
      show (s.room t.length).last * (s.room t.length).n + ((s.room t.length).used + _) = (s.room t.length).last * (s.room t.length).n + (s.room t.length).used + _
      omega
    rw [this, frm_length]
    omega
  have htx : (s.append t).texts = s.texts ++ [t] := by show (s.room t.length).texts ++ [t] = _; rw [hx.2.2.2.2.2.1]
  have hB : (s.append t).B.take s.clean = s.B.take s.clean := by
    have h1 : (s.append t).B.take s.end_ = s.B.take s.end_ := by
      have : (s.append t).B.take s.end_ = (s.room t.length).B.take s.end_ := put_front (s.room t.length) _ _ hfr.1 (by rw [hr.ok.oct]; exact hre)
      rw [this, hfr.2]
    have h2 := congrArg (List.take s.clean) h1
    rwa [List.take_take, List.take_take, Nat.min_eq_left hce] at h2
  have hcl : (s.append t).clean = s.clean := hx.2.2.2.1
  have hsu : (s.append t).sure = s.sure := hx.2.2.1
  refine ⟨hr.append hm, .inr (laid_append h.laid he), (hx.2.2.2.2.1 : (s.append t).dead = s.dead).trans h.dead, .inr ⟨?_, ?_⟩, h.ok, h.calls, h.queue, ?_, ?_⟩
  · rw [hsu, htx, List.length_append]
    rcases h.even with e | e <;> simp <;> omega
  · rw [hcl]; omega
  · rw [hsg, hsz]; exact h.fit
  · rw [hsg, hsz, hall, hcl, hB]; exact h.same

theorem Kp.flush {s : Lg} {D : Dk} {f : Nat} (h : Kp s D f) (hne : s.sure ≠ s.texts.length) : s.clean < s.end_ ∧ Kp s.flushed (D.pushed f s).flushed f := by
  have hce : s.clean < s.end_ := by rcases h.even with e | e <;> omega
  have hel := h.sok.end_le
  have hoct := h.sok.oct
  have hall : s.all = s.segs * s.size * 128 := by unfold Lg.all Lg.n; rw [seg_all]
  have hab : s.first < s.behind ∧ s.behind ≤ s.segs * s.size ∧ s.first * 128 ≤ s.clean ∧ s.end_ ≤ s.behind * 128 := by unfold Lg.first Lg.behind; omega
  have hnl : s.new.length = (s.behind - s.first) * 128 := by
    unfold Lg.new
    rw [List.length_take, List.length_drop, hoct, hall]
    omega
  have hpk : (D.pushed f s).Ok := h.ok.push _ _ _ (by rw [hnl]; exact Nat.le_refl _) (by have := h.fit; omega)
  refine ⟨hce, h.sok.flushed, ?_, h.dead, .inl ⟨rfl, rfl⟩, hpk.flushed, ?_, rfl, ?_, ?_⟩
  · rcases h.laid with l | ⟨done, cur, l⟩
    · exact .inl ⟨l.segs, l.size, l.used, l.last, l.texts, l.chain, l.octs, l.sealed_⟩
    · exact .inr ⟨done, cur, l.last, l.room, l.texts, l.chain, l.fit, l.fine, l.used, l.foot, l.octs, l.sealed_⟩
  · show nextCalls (nextCalls D.calls) = -1
    rw [h.calls]; rfl
  · show _ ≤ (D.pushed f s).image.length
    rw [hpk.image]
    exact h.fit
  · show (D.pushed f s).flushed.piece f (s.segs * s.size) = pad s.all (s.B.take s.end_)
    rw [← laid_octs h.laid]
    unfold Dk.pushed
    rw [piece_push h.ok h.queue f s.first (s.behind - s.first) (s.segs * s.size) s.new hnl (by omega) h.fit, h.same]
    have hcl : (s.B.take s.clean).length = s.clean := by rw [List.length_take]; omega
    have e1 : (pad s.all (s.B.take s.clean)).take (s.first * 128) = s.B.take (s.first * 128) := by
      unfold pad
      rw [List.take_append_of_le_length (by omega), List.take_take, Nat.min_eq_left hab.2.2.1]
    have e2 : (pad s.all (s.B.take s.clean)).drop ((s.first + (s.behind - s.first)) * 128) = zr (s.all - s.behind * 128) := by
      unfold pad
      rw [show s.first + (s.behind - s.first) = s.behind by omega, List.drop_append, List.drop_eq_nil_of_le (by omega), hcl, List.nil_append, zr_drop]
      congr 1
      omega
    have e3 : s.B.drop (s.behind * 128) = zr (s.all - s.behind * 128) := by
      have h1 := laid_octs h.laid
      have h2 : (s.B.take s.end_).length = s.end_ := by rw [List.length_take]; omega
      rw [h1]
      unfold pad
      rw [List.drop_append, List.drop_eq_nil_of_le (by omega), h2, List.nil_append, zr_drop]
      congr 1
      omega
    rw [e1, e2, ← e3]
    unfold Lg.new
    have e4 : s.B.drop (s.behind * 128) = (s.B.drop (s.first * 128)).drop ((s.behind - s.first) * 128) := by
      rw [List.drop_drop]
      congr 1
      omega
    rw [e4, List.take_append_drop, List.take_append_drop]

/-- Behind a crash of a disk where nothing waits, all is told anew. -/
theorem Kp.again {s : Lg} {D : Dk} {f : Nat} (h : Kp s D f) (he : s.sure = s.texts.length) : (Lg.opened s.segs s.size ((D.crashed []).piece f (s.segs * s.size))).texts = s.texts ∧ (Lg.opened s.segs s.size ((D.crashed []).piece f (s.segs * s.size))).chain = s.chain := by
  have hce : s.clean = s.end_ := by rcases h.even with e | e <;> omega
  have hpc : (D.crashed []).piece f (s.segs * s.size) = s.B := by
    have h1 := h.same
    rw [hce, ← laid_octs h.laid] at h1
    rw [← h1]
    unfold Dk.piece
    rw [image_idle h.queue]
    rfl
  rw [hpc]
  obtain ⟨n, hn⟩ : ∃ n, s.segs = n + 1 := ⟨s.segs - 1, by have := h.sok.segs; omega⟩
  show ((Lg.init s.segs s.size s.B).scan 0 s.segs).texts = s.texts ∧ ((Lg.init s.segs s.size s.B).scan 0 s.segs).chain = s.chain
  rcases h.laid with l | ⟨done, cur, l⟩
  · rw [hn, scan_zero _ _ (by show s.B = zr ((n + 1) * (s.size * 128)); rw [l.octs]; unfold Lg.all Lg.n; rw [hn])]
    exact ⟨l.texts.symm, l.chain.symm⟩
  · have hsc := scan_laid cur done 0 (Lg.init s.segs s.size s.B) (s.all - s.end_) s.segs (zr_length 32) l.fit l.fine ?_ ?_ l.room ?_
    · rw [hsc]
      refine ⟨?_, ?_⟩
      · show [] ++ (done.flatten ++ cur) = s.texts
        rw [l.texts]; rfl
      · show chn (chn (zr 32) done.flatten) cur = s.chain
        rw [l.chain]; rfl
    · show (bod (0 + done.length) (0 + done.flatten.length) (chn (zr 32) done.flatten) cur false).length + 48 ≤ s.n
      rw [Nat.zero_add, Nat.zero_add]
      have := l.foot
      rw [l.used] at this
      exact this
    · show s.n ≤ (bod (0 + done.length) (0 + done.flatten.length) (chn (zr 32) done.flatten) cur false).length + _
      rw [Nat.zero_add, Nat.zero_add]
      have h1 := l.used
      have h2 := l.room
      have h3 : (done.length + 1) * s.n ≤ s.segs * s.n := Nat.mul_le_mul_right _ h2
      rw [Nat.add_mul] at h3
      have h4 : s.end_ = done.length * s.n + s.used := by unfold Lg.end_; rw [l.last]
      have h5 : s.all = s.segs * s.n := rfl
      have h6 : (bod done.length done.flatten.length (chn (zr 32) done.flatten) cur false).length = s.used := h1.symm
      omega
    · show s.B.drop (0 * _) = sgs s.n 0 0 (zr 32) done ++ (bod (0 + done.length) (0 + done.flatten.length) (chn (zr 32) done.flatten) cur false ++ zr (s.all - s.end_))
      rw [Nat.zero_mul, List.drop_zero, Nat.zero_add, Nat.zero_add, l.octs]
      unfold pad
      rw [l.len]
      unfold Lx
      rw [List.append_assoc]
      rfl
end Go.Proofs.YtldgnckchlbadaaDoor
