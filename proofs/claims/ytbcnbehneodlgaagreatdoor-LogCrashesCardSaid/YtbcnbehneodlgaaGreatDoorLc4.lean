/-
  A run of the law LogCrashes behind its last act.
-/
import Derived.Test.YtbcnbehneodlgaaGreatDoorLc3
import Derived.Test.YtbcnbehneodlgaaGreatDoorLcP
import Derived.Test.YtbcnbehneodlgaaGreatDoorGJ
import Derived.Test.YtbcnbehneodlgaaGreatDoorGE
namespace Go.Proofs.YtbcnbehneodlgaaGreatDoor
set_option maxRecDepth 4000
open Go.RowKit

/-- The disk that Open leaves. -/
theorem opened_disk {D : Dk} {f segs size : Nat} (hD : D.Ok) (hc : D.calls = -1) (hq : D.queue = []) (h1 : 1 ≤ segs ∧ segs ≤ 256) (h2 : 2 ≤ size ∧ size ≤ 512) (hfit : (f + segs * size) * 128 ≤ D.safe.length) :
    (D.opened f segs size).Ok ∧ (D.opened f segs size).calls = -1 ∧ (D.opened f segs size).queue = [] ∧ (D.opened f segs size).safe.length = D.safe.length ∧ (D.opened f segs size).piece f (segs * size) = (Lg.opened segs size (D.piece f (segs * size))).B := by
  obtain ⟨P, hP⟩ : ∃ P, P = segs * size := ⟨_, rfl⟩
  obtain ⟨X, hX⟩ : ∃ X, X = D.piece f (segs * size) := ⟨_, rfl⟩
  have hXl : X.length = P * 128 := by
    rw [hX, Dk.piece, List.length_take, List.length_drop, hD.image, ← hP]
    rw [← hP, Nat.add_mul] at hfit
    omega
  have hok := Lg.init_ok h1 h2 (X := X) (by rw [hXl, hP])
  have hcut := scan_cut segs 0 (Lg.init segs size X) hok.chain hok.oct (by show 0 + segs ≤ segs; omega) hok.n_le.1 (by show 0 * _ + 0 ≤ _; omega)
  have hfx := Lg.scan_fix segs (Lg.init segs size X) 0
  obtain ⟨t, ht⟩ : ∃ t, t = Lg.told segs size X := ⟨_, rfl⟩
  rw [show (Lg.init segs size X).scan 0 segs = t from ht.symm] at hcut hfx
  have hall : t.all = P * 128 := by unfold Lg.all Lg.n; rw [hfx.1, hfx.2.1, hP]; exact seg_all segs size
  have hE : t.end_ ≤ P * 128 := by
    have := hcut.2.2
    rwa [show (Lg.init segs size X).all = P * 128 from (seg_all segs size).trans (by rw [hP])] at this
  have hB : t.cut.B = X.take t.end_ ++ zr (P * 128 - t.end_) := by
    show t.B.take t.end_ ++ zr (t.all - t.end_) = _
    rw [hfx.2.2.1, hall]
    rfl
  have hBl : t.cut.B.length = P * 128 := by rw [hB, List.length_append, List.length_take, zr_length, hXl]; omega
  have hop : (Lg.opened segs size X).B = t.cut.B := by unfold Lg.opened; rw [← ht]; rfl
  unfold Dk.opened
  rw [← hX, ← ht, ← hP, hop]
  unfold Dk.cut
  split
  · rename_i hlt
    have hdl : (t.cut.B.drop (t.end_ / 128 * 128)).length = (P - t.end_ / 128) * 128 := by rw [List.length_drop, hBl, Nat.sub_mul]
    have hpk : (D.push (f + t.end_ / 128) (t.cut.B.drop (t.end_ / 128 * 128)) (P - t.end_ / 128)).Ok := hD.push _ _ _ (by rw [hdl]; exact Nat.le_refl _) (by rw [← hP] at hfit; omega)
    refine ⟨hpk.flushed, by show nextCalls (nextCalls D.calls) = -1; rw [hc]; rfl, rfl, hpk.image, ?_⟩
    rw [piece_push hD hq f (t.end_ / 128) (P - t.end_ / 128) P _ hdl (by omega) (by rw [← hP] at hfit; exact hfit), hP, ← hX]
    have e1 : X.take (t.end_ / 128 * 128) = t.cut.B.take (t.end_ / 128 * 128) := by
      rw [hB, List.take_append_of_le_length (by rw [List.length_take, hXl]; omega), List.take_take, Nat.min_eq_left (by omega)]
    have e2 : X.drop ((t.end_ / 128 + (segs * size - t.end_ / 128)) * 128) = [] := List.drop_eq_nil_of_le (by rw [hXl, ← hP]; omega)
    rw [e1, e2, List.append_nil, List.take_append_drop]
  · rename_i hge
    have hEP : t.end_ = P * 128 := by omega
    refine ⟨hD.flushed, by show nextCalls D.calls = -1; rw [hc]; rfl, rfl, hD.image, ?_⟩
    rw [hB, hEP, Nat.sub_self, List.take_of_length_le (by rw [hXl]; exact Nat.le_refl _)]
    show (D.image.drop (f * 128)).take (P * 128) = X ++ zr 0
    rw [show zr 0 = [] from rfl, List.append_nil, hX, hP]
    rfl

structure EsAt (w : World) (base r b lb e m : Nat) (s : Lg) (bg cB : Nat) (A : Option Addr) (cT : Nat) (C : Option Addr) (cC : Nat) (vs : List Pt) (Kl : Nat → Prop) (D : Dk) (F : Nat → Prop) : Prop where
  run : Blk w r 34 #[.pointer (some ⟨b, 0, none⟩), .pointer (some ⟨lb, 0, none⟩), .pointer (some ⟨e, 0, none⟩), .pointer (some ⟨m, 0, none⟩), .int .i64 3, .int .i64 4]
  ld : LD w lb b 1 s bg cB A cT C cC vs Kl D F
  sok : s.Ok
  segs : s.segs = 3
  size : s.size = 4
  sr : Sr s
  dok : D.Ok
  fit : (1 + 3 * 4) * 128 ≤ D.safe.length
  que : D.queue.length ≤ 1000000
  torn : ∀ keep, ((D.crashed keep).piece 1 (3 * 4)).take s.clean = s.B.take s.clean
  fine : Fine s.texts
  fr : ¬ F r
  kr : ¬ Kl r
  fb : ∀ k, F k → base ≤ k
  kb : ∀ k, Kl k → base ≤ k
  rb : base ≤ r
section
variable {w w' : World} {base r b lb e m : Nat} {s : Lg} {bg cB : Nat} {A : Option Addr} {cT : Nat} {C : Option Addr} {cC : Nat} {vs : List Pt} {Kl : Nat → Prop} {D : Dk} {F : Nat → Prop}
theorem calls_same {D : Dk} {k : Int} (h : D.calls = k) : ({ D with calls := k } : Dk) = D := by cases D; simp only at h; rw [h]
theorem RunAt.end_ (h : RunAt w base r b lb e m 3 4 s bg cB A cT C cC vs Kl D F) (hs : Sr s) : EsAt w base r b lb e m s bg cB A cT C cC vs Kl D F := by
  have hst := fun keep => h.kp.still (-1) keep
  rw [calls_same h.kp.calls, h.segs, h.size] at hst
  have hfit := h.kp.fit
  rw [h.segs, h.size] at hfit
  exact ⟨h.run, h.ld, h.kp.sok, h.segs, h.size, hs, h.kp.ok, hfit, by rw [h.kp.queue]; exact Nat.zero_le _, hst, laid_fine h.kp.laid, h.fr, h.kr, h.fb, h.kb, h.rb⟩

/-- The last Flush, with power for c calls. -/
theorem flush_end (c : Nat) (hc3 : c ≤ 3) (h : RunAt w base r b lb e m 3 4 s bg cB A cT C cC vs Kl D F) (hs : Sr s) {w1 : World} {F1 : Nat → Prop} (hl : LD w1 lb b 1 s bg cB A cT C cC vs Kl { D with calls := (c : Int) } F1) (hf : Fr F w w1) (hF : ∀ k, k < w.heap.size → F1 k → F k) :
    Calls Tryz.prog 9 #[.pointer (some ⟨lb, 0, none⟩)] w1 fun e' w' => (∃ v, e' = .returned v) ∧ (∃ s' D' F', s'.texts = s.texts ∧ EsAt w' base r b lb e m s' bg cB A cT C cC vs Kl D' F' ∧ ∀ k, k < w1.heap.size → F' k → F1 k) ∧ Fr (fun k => F1 k ∨ Kl k) w1 w' := by
  have hrl := h.run.lt
  have hz := hf.size
  have hrun1 := h.run.fr hf h.fr
  have hr1 : ¬ F1 r := fun hk => h.fr (hF r hrl hk)
  have hb1 : ∀ k, F1 k → base ≤ k := fun k hk => by
    by_cases hkl : k < w.heap.size
    · exact h.fb k (hF k hkl hk)
    · have := h.rb; omega
  have hfit := h.kp.fit
  rw [h.segs, h.size] at hfit
  have hfine := laid_fine h.kp.laid
  have mk : ∀ (w' : World) (s' : Lg) (D' : Dk) (F' : Nat → Prop), s'.texts = s.texts → s'.segs = 3 → s'.size = 4 → LD w' lb b 1 s' bg cB A cT C cC vs Kl D' F' → Fr (fun k => F1 k ∨ Kl k) w1 w' → (∀ k, k < w1.heap.size → F' k → F1 k) → s'.Ok → Sr s' → D'.Ok → (1 + 3 * 4) * 128 ≤ D'.safe.length → D'.queue.length ≤ 1000000 →
      (∀ keep, ((D'.crashed keep).piece 1 (3 * 4)).take s'.clean = s'.B.take s'.clean) → (∃ s' D' F', s'.texts = s.texts ∧ EsAt w' base r b lb e m s' bg cB A cT C cC vs Kl D' F' ∧ ∀ k, k < w1.heap.size → F' k → F1 k) ∧ Fr (fun k => F1 k ∨ Kl k) w1 w' := by
    intro w' s' D' F' q1 q2 q3 q4 q5 q6 q7 q8 q9 q10 q11 q12
    refine ⟨⟨s', D', F', q1, ⟨hrun1.fr q5 (fun hh => hh.elim hr1 h.kr), q4, q7, q2, q3, q8, q9, q10, q11, q12, by rw [q1]; exact hfine, fun hk => hr1 (q6 r (Nat.lt_of_lt_of_le hrl hz) hk), h.kr, fun k hk => ?_, h.kb, h.rb⟩, q6⟩, q5⟩
    by_cases hkl : k < w1.heap.size
    · exact hb1 k (q6 k hkl hk)
    · have := h.rb; omega
  have hDc : ({ D with calls := (c : Int) } : Dk).Ok := ⟨h.kp.ok.whole, h.kp.ok.pos, h.kp.ok.most, h.kp.ok.fits, by show _ ≤ (c : Int); omega, by show (c : Int) ≤ _; omega⟩
  by_cases hsu : s.sure = s.texts.length
  · refine (flush_idle hl.log h.kp.dead hsu).mono ?_
    rintro e' w' ⟨rfl, bel⟩
    have hst := fun keep => h.kp.still (c : Int) keep
    rw [h.segs, h.size] at hst
    exact ⟨⟨_, rfl⟩, mk w' s _ F1 rfl h.segs h.size (hl.below bel) (Fr.of_below bel _) (fun _ _ h => h) h.kp.sok hs hDc hfit (by show D.queue.length ≤ _; rw [h.kp.queue]; exact Nat.zero_le _) hst⟩
  · have hk := h.kp.flush hsu
    have hel := h.kp.sok.end_le
    have hoct := h.kp.sok.oct
    have hall : s.all = 12 * 128 := by unfold Lg.all Lg.n; rw [h.segs, h.size]
    have hab : s.first < s.behind ∧ s.behind ≤ 12 ∧ s.first * 128 ≤ s.clean ∧ s.end_ ≤ s.behind * 128 := by unfold Lg.first Lg.behind; omega
    have hnl : s.new.length = (s.behind - s.first) * 128 := by
      unfold Lg.new
      rw [List.length_take, List.length_drop, hoct, hall]
      omega
    have hfit1 : (1 + s.segs * s.size) * 128 ≤ ({ D with calls := (c : Int) } : Dk).safe.length := h.kp.fit
    have hq1 : ({ D with calls := (c : Int) } : Dk).queue.length ≤ 1000000 := by show D.queue.length ≤ _; rw [h.kp.queue]; exact Nat.zero_le _
    by_cases h0 : c = 0
    · subst h0
      refine (flush_dead0 hl h.kp.sok h.kp.dead hsu hk.1 hDc rfl hq1 (by omega) hfit1).mono ?_
      rintro e' w' ⟨⟨g, rfl⟩, F', l', fr', hF'⟩
      have hst := fun keep => h.kp.still ((0 : Nat) : Int) keep
      rw [h.segs, h.size] at hst
      refine ⟨⟨_, rfl⟩, mk w' { s with dead := true } _ F' rfl h.segs h.size l' fr' hF' ?_ ?_ hDc hfit hq1 hst⟩
      · have o := h.kp.sok
        exact ⟨o.segs, o.size, o.last, o.used, o.clean, o.oct, o.many, o.chain, o.sure⟩
      · exact hs
    · by_cases h1 : c = 1
      · subst h1
        refine (flush_dead1 hl h.kp.sok h.kp.dead hsu hk.1 hDc (by show ((1 : Nat) : Int) ≠ 0; decide) (by show nextCalls ((1 : Nat) : Int) = 0; decide) hq1 (by omega) hfit1).mono ?_
        rintro e' w' ⟨⟨g, rfl⟩, F', l', fr', hF'⟩
        have hst := fun keep => h.kp.torn hk.1 0 (by omega) keep
        rw [h.segs, h.size] at hst
        have hpk : (({ D with calls := ((1 : Nat) : Int) } : Dk).pushed 1 s).Ok := hDc.push _ _ _ (by rw [hnl]; exact Nat.le_refl _) (by show _ ≤ D.safe.length; omega)
        refine ⟨⟨_, rfl⟩, mk w' { s with dead := true } _ F' rfl h.segs h.size l' fr' hF' ?_ hs hpk hfit ?_ hst⟩
        · have o := h.kp.sok
          exact ⟨o.segs, o.size, o.last, o.used, o.clean, o.oct, o.many, o.chain, o.sure⟩
        · show (D.queue ++ parts _ _ _).length ≤ _
          rw [List.length_append, h.kp.queue, parts, List.length_map, List.length_range, List.length_nil]
          omega
      · refine (flush_on hl h.kp.sok h.kp.dead hsu hk.1 hDc (by show (c : Int) ≠ 0; omega) (by show nextCalls (c : Int) ≠ 0; unfold nextCalls; split <;> omega) hq1 (by omega) hfit1).mono ?_
        rintro e' w' ⟨rfl, F', l', fr', hF'⟩
        have hst := fun keep => hk.2.still (nextCalls (nextCalls (c : Int))) keep
        rw [show s.flushed.segs = 3 from h.segs, show s.flushed.size = 4 from h.size] at hst
        have hpk : (({ D with calls := (c : Int) } : Dk).pushed 1 s).Ok := hDc.push _ _ _ (by rw [hnl]; exact Nat.le_refl _) (by show _ ≤ D.safe.length; omega)
        refine ⟨⟨_, rfl⟩, mk w' s.flushed _ F' rfl h.segs h.size l' fr' hF' h.kp.sok.flushed (Sr.flushed h.kp.laid) hpk.flushed (by show _ ≤ (({ D with calls := (c : Int) } : Dk).pushed 1 s).image.length; rw [hpk.image]; exact hfit) (Nat.zero_le _) hst⟩
end
/-- The document's disk lies apart of what moves. -/
theorem RD.lift {w w' : World} {base d : Nat} {S W : List (List UInt8)} {T : List Int} {A B C : Option Addr} {cA cB cC : Nat} {G : Nat → Prop} (h : RD w base d S T W A cA B cB C cC) (hf : Fr G w w') (hG : ∀ k, base ≤ k → k < w.heap.size → ¬ G k) : RD w' base d S T W A cA B cB C cC :=
  ⟨h.top.fr hf (hG d h.lo h.top.lt), h.lo, own_fr h.s hf (fun g hg => hG g (h.s.lt g hg).1 (h.s.lt g hg).2), own_fr h.t hf (fun g hg => hG g (h.t.lt g hg).1 (h.t.lt g hg).2), own_fr h.w_ hf (fun g hg => hG g (h.w_.lt g hg).1 (h.w_.lt g hg).2), h.same⟩
end Go.Proofs.YtbcnbehneodlgaaGreatDoor
