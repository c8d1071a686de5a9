/-
  A run of the law: a log on a disk that is on.
-/
import Derived.Test.YtbcnbehneodlgaaDoorRf2
import Derived.Test.YtbcnbehneodlgaaDoorRf6
import Derived.Test.YtbcnbehneodlgaaDoorLog6
namespace Go.Proofs.YtbcnbehneodlgaaDoor
set_option maxRecDepth 4000
open Go.RowKit

structure RunAt (w : World) (base r b lb e m sg sz : Nat) (s : Lg) (bg cB : Nat) (A : Option Addr) (cT : Nat) (C : Option Addr) (cC : Nat) (vs : List Pt) (Kl : Nat → Prop) (D : Dk) (F : Nat → Prop) : Prop where
  run : Blk w r 33 #[.pointer (some ⟨b, 0, none⟩), .pointer (some ⟨lb, 0, none⟩), .pointer (some ⟨e, 0, none⟩), .pointer (some ⟨m, 0, none⟩), .int .i64 sg, .int .i64 sz]
  ld : LD w lb b 1 s bg cB A cT C cC vs Kl D F
  kp : Kp s D 1
  segs : s.segs = sg
  size : s.size = sz
  fr : ¬ F r
  kr : ¬ Kl r
  fb : ∀ k, F k → base ≤ k
  kb : ∀ k, Kl k → base ≤ k
  rb : base ≤ r
section
variable {w w' : World} {base r b lb e m sg sz : Nat} {s : Lg} {bg cB : Nat} {A : Option Addr} {cT : Nat} {C : Option Addr} {cC : Nat} {vs : List Pt} {Kl : Nat → Prop} {D : Dk} {F : Nat → Prop}
theorem RunAt.below (h : RunAt w base r b lb e m sg sz s bg cB A cT C cC vs Kl D F) (hb : Below w.heap.size w w') : RunAt w' base r b lb e m sg sz s bg cB A cT C cC vs Kl D F :=
  ⟨h.run.below hb h.run.lt, h.ld.below hb, h.kp, h.segs, h.size, h.fr, h.kr, h.fb, h.kb, h.rb⟩

theorem append_run (h : RunAt w base r b lb e m sg sz s bg cB A cT C cC vs Kl D F) (t : List UInt8) (X : Option Addr) (n c : Nat) (hm : s.texts.length + 1 ≤ 100000000) (hS : Sees w 1 X n (u8s t)) (htn : t.length = n) (hn : n ≤ maxLen) (hXK : 0 < n → ∀ a, X = some a → ¬ Kl a.block) (hT : Tab w) (hbt : ∀ k, base ≤ k → k ≠ 1 ∧ k ≠ 0) :
    Calls Tryd.prog 7 #[.pointer (some ⟨lb, 0, none⟩), .slice X n c] w fun e' w' => (s.err n ≠ 0 → (∃ g, e' = .returned (.iface 105 (.pointer (some ⟨g, 0, none⟩)))) ∧ RunAt w' base r b lb e m sg sz s bg cB A cT C cC vs Kl D F ∧ Below w.heap.size w w') ∧
      (s.err n = 0 → e' = .returned Value.nilIface ∧ (∃ A cT C cC vs Kl', RunAt w' base r b lb e m sg sz (s.append t) bg cB A cT C cC vs Kl' D F ∧ ∀ k, k < w.heap.size → Kl' k → Kl k) ∧ Fr Kl w w') := by
  have hfoot := laid_foot h.kp.laid
  refine (append_any lb b 1 s bg cB A cT C cC vs Kl t X n c w h.ld.log h.kp.sok (fun _ => hfoot.2) hm hS htn hn hXK hT (fun k hk => hbt k (h.kb k hk)) h.ld.klt).mono ?_
  rintro e' w' ⟨h1, h2⟩
  refine ⟨fun hne => ?_, fun he => ?_⟩
  · obtain ⟨g, bel⟩ := h1 hne
    exact ⟨g, h.below bel, bel⟩
  · obtain ⟨rfl, fr, A5, cT5, C5, cC5, vs5, l5⟩ := h2 he
    have hsz := fr.size
    have hfix := room_fix s n
    refine ⟨rfl, ⟨A5, cT5, C5, cC5, vs5, (fun k => (Kl k ∨ w.heap.size ≤ k) ∧ k < w'.heap.size), ⟨h.run.fr fr h.kr, ⟨l5.restrict, h.ld.disk.fr fr (fun k hk => h.ld.apart k hk), ?_, fun k hk => Nat.lt_of_lt_of_le (h.ld.flt k hk) hsz, fun k hk => hk.2⟩, h.kp.append (htn ▸ he) hm, ?_, ?_, h.fr, ?_, h.fb, ?_, h.rb⟩, ?_⟩, fr⟩
    · intro k hk hk'
      rcases hk'.1 with e | e
      · exact h.ld.apart k hk e
      · have := h.ld.flt k hk; omega
    · rw [← h.segs]; exact (room_fix s t.length).1
    · rw [← h.size]; exact (room_fix s t.length).2.1
    · intro hk
      rcases hk.1 with e | e
      · exact h.kr e
      · have := h.run.lt; omega
    · intro k hk
      rcases hk.1 with e | e
      · exact h.kb k e
      · have := h.run.lt; have := h.rb; omega
    · intro k hk hk'
      rcases hk'.1 with e | e
      · exact e
      · omega

theorem flushed_idle {s : Lg} (h1 : s.sure = s.texts.length) (h2 : s.clean = s.end_) : s.flushed = s := by
  unfold Lg.flushed
  rw [← h1, ← h2]

theorem flush_run (h : RunAt w base r b lb e m sg sz s bg cB A cT C cC vs Kl D F) :
    Calls Tryd.prog 9 #[.pointer (some ⟨lb, 0, none⟩)] w fun e' w' => e' = .returned Value.nilIface ∧ (∃ D' F', RunAt w' base r b lb e m sg sz s.flushed bg cB A cT C cC vs Kl D' F' ∧ ∀ k, k < w.heap.size → F' k → F k) ∧ Fr (fun k => F k ∨ Kl k) w w' := by
  by_cases hs : s.sure = s.texts.length
  · have hcl : s.clean = s.end_ := by rcases h.kp.even with e | e <;> omega
    refine (flush_idle h.ld.log h.kp.dead hs).mono ?_
    rintro e' w' ⟨rfl, bel⟩
    rw [flushed_idle hs hcl]
    exact ⟨rfl, ⟨D, F, h.below bel, fun _ _ h => h⟩, Fr.of_below bel _⟩
  · have hk := h.kp.flush hs
    refine (flush_on h.ld h.kp.sok h.kp.dead hs hk.1 h.kp.ok (by rw [h.kp.calls]; decide) (by rw [h.kp.calls]; decide) (by rw [h.kp.queue]; exact Nat.zero_le _) (by omega) h.kp.fit).mono ?_
    rintro e' w' ⟨rfl, F', l5, fr, hF⟩
    have hsz := fr.size
    have hrl := h.run.lt
    refine ⟨rfl, ⟨_, F', ⟨h.run.fr fr (fun hh => hh.elim h.fr h.kr), l5, hk.2, h.segs, h.size, fun hh => h.fr (hF r hrl hh), h.kr, ?_, h.kb, h.rb⟩, hF⟩, fr⟩
    intro k hk
    by_cases hkl : k < w.heap.size
    · exact h.fb k (hF k hkl hk)
    · have := h.rb; omega
end

set_option maxHeartbeats 4000000 in
theorem opened_any (sg sz : Nat) (w : World) (hT : Tab w) (hsg : 1 ≤ sg ∧ sg ≤ 16) (hsz : 2 ≤ sz ∧ sz ≤ 16) :
    Calls Tryd.prog 5 #[.int .i64 sg, .int .i64 sz] w fun e' w' => ∃ r, e' = .returned (.pointer (some ⟨r, 0, none⟩)) ∧ (∃ b lb e m bg cB A cT C cC vs Kl D F X, X = zr (sg * sz * 128) ∧ RunAt w' w.heap.size r b lb e m sg sz (Lg.opened sg sz X) bg cB A cT C cC vs Kl D F) ∧ Below w.heap.size w w' := by
  have hPb : sg * sz ≤ 16 * 16 := Nat.mul_le_mul hsg.2 hsz.2
  have hP2 : 2 ≤ sg * sz := by have := Nat.mul_le_mul hsg.1 hsz.1; omega
  obtain ⟨P, hP⟩ : ∃ P, P = sg * sz := ⟨_, rfl⟩
  rw [← hP] at hPb hP2 ⊢
  have hpi : IntKind.i64.wrap ((sg : Int) * (sz : Int)) = (P : Int) := by
    rw [hP, show (sg : Int) * (sz : Int) = ((sg * sz : Nat) : Int) by simp]
    exact IntWalk.i64_in _ (by omega)
  have hp1 : IntKind.i64.wrap (1 + (P : Int)) = ((1 + P : Nat) : Int) := by rw [show (1 : Int) + (P : Int) = ((1 + P : Nat) : Int) by omega]; exact IntWalk.i64_in _ (by omega)
  obtain ⟨Q, hQ⟩ : ∃ Q, Q = 1 + P := ⟨_, rfl⟩
  rw [← hQ] at hp1
  have HN := Lib.hid (new_good Q w (by omega) (by omega))
  have hDl : (Dk.new Q).safe.length = Q * 128 := by simp [Dk.new]
  have hpc : (Dk.new Q).piece 1 (sg * sz) = zr (P * 128) := by
    unfold Dk.piece
    rw [image_idle rfl]
    show ((List.replicate (Q * 128) 0).drop (1 * 128)).take (sg * sz * 128) = _
    rw [List.drop_replicate, List.take_replicate, ← hP]
    unfold zr
    congr 1
    omega
  have hfit : (1 + sg * sz) * 128 ≤ (Dk.new Q).safe.length := by rw [hDl, hQ, hP]; exact Nat.le_refl _
  have HDK := Lib.hid (And.intro (Dk.ok_new (n := Q) (by omega) (by omega)) (And.intro hpc hfit))
  have HO : Hid (∀ (W : World) (b : Nat) (F : Nat → Prop), DiskAt W b F (Dk.new Q) → (∀ k, F k → w.heap.size ≤ k ∧ k < W.heap.size) → Below w.heap.size w W →
      Calls Tryd.prog 12 #[.pointer (some ⟨b, 0, none⟩), .int .i64 1, .int .i64 sg, .int .i64 sz] W fun e w' => ∃ lb, e = .returned (.tuple #[.pointer (some ⟨lb, 0, none⟩), Value.nilIface]) ∧ ∃ bg cB A cT C cC vs K' F', LD w' lb b 1 (Lg.opened sg sz (zr (P * 128))) bg cB A cT C cC vs K' ((Dk.new Q).opened 1 sg sz) F' ∧ Fr F W w' ∧ (∀ k, k < W.heap.size → F' k → F k) ∧ (∀ k, K' k → W.heap.size ≤ k)) := Lib.hid (by
    intro W b F hD hF hb
    have hlt := hT.lt
    have hlt2 := hT.hlt
    have := open_log b 1 sg sz (Dk.new Q) F W hD (fun k hk => (hF k hk).2) (Dk.ok_new (by omega) (by omega)) rfl rfl (by omega) (by omega) (by omega) hfit (hT.below hb) (fun k hk => by have := (hF k hk).1; omega)
    rw [hpc] at this
    refine this.mono ?_
    rintro e w' ⟨lb, rfl, bg, cB, A, cT, C, cC, vs, K', F', h1, h2, h3, h4, -⟩
    exact ⟨lb, rfl, bg, cB, A, cT, C, cC, vs, K', F', h1, h2, h3, h4⟩)
  have HRN : Hid (∀ W : World, Calls Tryd.prog 18 #[.int .i64 Q] W fun e w' => e = .returned (.pointer (some ⟨W.heap.size, 0, none⟩)) ∧ (∃ A cA, RD w' W.heap.size W.heap.size (List.replicate Q (zr 128)) [] [] A cA none 0 none 0) ∧ Below W.heap.size W w') := Lib.hid (fun W => rnew_any Q W (by omega))
  have HRO : Hid (∀ (W : World) (d base : Nat) (A : Option Addr) (cA : Nat), RD W base d (List.replicate Q (zr 128)) [] [] A cA none 0 none 0 → base ≤ W.heap.size → Calls Tryd.prog 19 #[.pointer (some ⟨d, 0, none⟩), .int .i64 1, .int .i64 sg, .int .i64 sz] W fun e w' => ∃ lb, e = .returned (.tuple #[.pointer (some ⟨lb, 0, none⟩), .int .i64 0]) ∧ Below base W w') := Lib.hid (by
    intro W d base A cA hR hb
    have hX : zr (sg * (sz * 128)) = (((List.replicate Q (zr 128)).drop 1).take (sg * sz)).flatten := by
      rw [List.drop_replicate, List.take_replicate, Nat.min_eq_left (by omega), seg_all]
      have : ∀ n : Nat, (List.replicate n (zr 128)).flatten = zr (n * 128) := by
        intro n
        induction n with
        | zero => rfl
        | succ n ih => rw [List.replicate_succ, List.flatten_cons, ih, zr_add]; congr 1; omega
      rw [this]
    obtain ⟨n, hn⟩ : ∃ n, sg = n + 1 := ⟨sg - 1, by omega⟩
    have htold : Lg.told sg sz (zr (sg * (sz * 128))) = Lg.init sg sz (zr (sg * (sz * 128))) := by
      unfold Lg.told
      rw [hn]
      exact scan_zero _ _ rfl
    refine (ropen_any base d 1 sg sz _ A none none cA 0 0 W hR hb (by simp; omega) (fun s hs => by rw [(List.mem_replicate.1 hs).2]; exact zr_length 128) (by omega) (by omega) (by simp; omega) _ hX _ rfl (by rw [htold]; exact Lg.init_ok (by omega) (by omega) (by rw [zr_length, seg_all])) ?_).mono ?_
    · intro W1 lb hlb hB
      refine (rtold_zero lb d 1 sg sz W1 hB (by omega) (by omega)).mono ?_
      rintro e w' ⟨rfl, bel⟩
      rw [htold]
      exact ⟨rfl, ⟨none, 0, hB.below bel hB.lt, World.ownsRow_nil _ _ _ _⟩, Fr.of_below bel _⟩
    · rintro e w' ⟨lb, A', c', rfl, -, -, -, bel⟩
      exact ⟨lb, rfl, bel⟩)
  have HP := Lib.hid (And.intro hP hQ)
  have HS := Lib.hid (And.intro hsg hsz)
  clear hT hsg hsz hPb hP2 hP hQ hDl hpc hfit
  go_enter Tryd.func5, Tryd.ntmps5
  go_wp2_with fail
  refine HN.out.mono ?_
  rintro e w1 ⟨⟨b, F, rfl, hD, hF⟩, bel1⟩
  have HC := HO.out w1 b F hD hF bel1
  have H1 := Lib.hid (And.intro hD (And.intro hF bel1))
  clear hD hF bel1 HN
  go_wp2_with fail
  refine HC.mono ?_
  rintro e w2 ⟨lb, rfl, bg, cB, A, cT, C, cC, vs, Kl, F', l2, fr2, hF2, hK2⟩
  have hz1 := H1.out.2.2.size
  have hz2 := fr2.size
  have bel2 : Below w.heap.size w w2 := H1.out.2.2.trans (fr2.below hz1 (fun k hk => (H1.out.2.1 k hk).1))
  have H2 := Lib.hid (And.intro l2 (And.intro hF2 (And.intro hK2 bel2)))
  clear l2 fr2 hF2 hK2 bel2 HC
  go_wp2_with fail
  refine (HRN.out w2).mono ?_
  rintro e w3 ⟨rfl, ⟨A3, cA3, hR3⟩, bel3⟩
  have HC := HRO.out w3 w2.heap.size w2.heap.size A3 cA3 hR3 bel3.size
  have H3 := Lib.hid (H2.out.1.below bel3)
  have HB3 := Lib.hid bel3
  clear hR3 bel3
  go_wp2_with fail
  refine HC.mono ?_
  rintro e w4 ⟨m, rfl, bel4⟩
  have hz3 := HB3.out.size
  have bel24 := HB3.out.trans bel4
  have H4 := Lib.hid (And.intro (H2.out.1.below bel24) (H2.out.2.2.2.trans (bel24.mono H2.out.2.2.2.size)))
  have hz4 := bel24.size
  clear bel4 bel24 HC H3
  go_wp2_with fail
  go_ret
  refine ⟨w4.heap.size, rfl, ⟨b, lb, w2.heap.size, m, bg, cB, A, cT, C, cC, vs, Kl, _, F', _, rfl, ⟨Blk.new _ _ _, H4.out.1.below ((Below.refl _ _).alloc (Nat.le_refl _) _), ?_, (Lg.scan_fix sg (Lg.init sg sz (zr (P * 128))) 0).1, (Lg.scan_fix sg (Lg.init sg sz (zr (P * 128))) 0).2.1, ?_, ?_, ?_, ?_, ?_⟩⟩, H4.out.2.alloc (by omega) _⟩
  · have := Kp.opened (D := Dk.new Q) (f := 1) (segs := sg) (size := sz) HDK.out.1 rfl rfl (by have := HS.out; omega) (by have := HS.out; omega) HDK.out.2.2 (by rw [HDK.out.2.1, HP.out.1])
    rw [HDK.out.2.1] at this
    exact this
  · intro hh; have := H4.out.1.flt _ hh; omega
  · intro hh; have := H4.out.1.klt _ hh; omega
  · intro k hk
    by_cases hkl : k < w1.heap.size
    · exact (H1.out.2.1 k (H2.out.2.1 k hkl hk)).1
    · omega
  · intro k hk; have := H2.out.2.2.1 k hk; omega
  · omega
end Go.Proofs.YtbcnbehneodlgaaDoor
