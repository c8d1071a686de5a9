/-
  A run of the law: a log on a disk that is on.
  The law's example.
-/
import Derived.Test.YtbcnbehneodlgaaGreatDoorRf2
import Derived.Test.YtbcnbehneodlgaaGreatDoorRf6
import Derived.Test.YtbcnbehneodlgaaGreatDoorLog6
namespace Go.Proofs.YtbcnbehneodlgaaGreatDoor
set_option maxRecDepth 4000
open Go.RowKit

structure RunAt (w : World) (base r b lb e m sg sz : Nat) (s : Lg) (bg cB : Nat) (A : Option Addr) (cT : Nat) (C : Option Addr) (cC : Nat) (vs : List Pt) (Kl : Nat → Prop) (D : Dk) (F : Nat → Prop) : Prop where
  run : Blk w r 34 #[.pointer (some ⟨b, 0, none⟩), .pointer (some ⟨lb, 0, none⟩), .pointer (some ⟨e, 0, none⟩), .pointer (some ⟨m, 0, none⟩), .int .i64 sg, .int .i64 sz]
  ld : LD w lb b 1 s bg cB A cT C cC vs Kl D F
  kp : Kp s D 1
  segs : s.segs = sg
  size : s.size = sz
  fr : ¬ F r
  kr : ¬ Kl r
  fb : ∀ k, F k → base ≤ k
  kb : ∀ k, Kl k → base ≤ k
  rb : base ≤ r
section
variable {w w' : World} {base r b lb e m sg sz : Nat} {s : Lg} {bg cB : Nat} {A : Option Addr} {cT : Nat} {C : Option Addr} {cC : Nat} {vs : List Pt} {Kl : Nat → Prop} {D : Dk} {F : Nat → Prop}
theorem RunAt.below (h : RunAt w base r b lb e m sg sz s bg cB A cT C cC vs Kl D F) (hb : Below w.heap.size w w') : RunAt w' base r b lb e m sg sz s bg cB A cT C cC vs Kl D F :=
  ⟨h.run.below hb h.run.lt, h.ld.below hb, h.kp, h.segs, h.size, h.fr, h.kr, h.fb, h.kb, h.rb⟩

theorem append_run (h : RunAt w base r b lb e m sg sz s bg cB A cT C cC vs Kl D F) (t : List UInt8) (X : Option Addr) (n c : Nat) (hm : s.texts.length + 1 ≤ 100000000) (hS : Sees w 1 X n (u8s t)) (htn : t.length = n) (hn : n ≤ maxLen) (hXK : 0 < n → ∀ a, X = some a → ¬ Kl a.block) (hT : Tab w) (hbt : ∀ k, base ≤ k → k ≠ 1 ∧ k ≠ 0) :
    Calls Tryz.prog 11 #[.pointer (some ⟨lb, 0, none⟩), .slice X n c] w fun e' w' => (s.err n ≠ 0 → (∃ g, e' = .returned (.iface 112 (.pointer (some ⟨g, 0, none⟩)))) ∧ RunAt w' base r b lb e m sg sz s bg cB A cT C cC vs Kl D F ∧ Below w.heap.size w w') ∧
      (s.err n = 0 → e' = .returned Value.nilIface ∧ (∃ A cT C cC vs Kl', RunAt w' base r b lb e m sg sz (s.append t) bg cB A cT C cC vs Kl' D F ∧ ∀ k, k < w.heap.size → Kl' k → Kl k) ∧ Fr Kl w w') := by
  have hfoot := laid_foot h.kp.laid
  refine (append_any lb b 1 s bg cB A cT C cC vs Kl t X n c w h.ld.log h.kp.sok (fun _ => hfoot.2) hm hS htn hn hXK hT (fun k hk => hbt k (h.kb k hk)) h.ld.klt).mono ?_
  rintro e' w' ⟨h1, h2⟩
  refine ⟨fun hne => ?_, fun he => ?_⟩
  · obtain ⟨g, bel⟩ := h1 hne
    exact ⟨g, h.below bel, bel⟩
  · obtain ⟨rfl, fr, A5, cT5, C5, cC5, vs5, l5⟩ := h2 he
    have hsz := fr.size
    have hfix := room_fix s n
    refine ⟨rfl, ⟨A5, cT5, C5, cC5, vs5, (fun k => (Kl k ∨ w.heap.size ≤ k) ∧ k < w'.heap.size), ⟨h.run.fr fr h.kr, ⟨l5.restrict, h.ld.disk.fr fr (fun k hk => h.ld.apart k hk), ?_, fun k hk => Nat.lt_of_lt_of_le (h.ld.flt k hk) hsz, fun k hk => hk.2⟩, h.kp.append (htn ▸ he) hm, ?_, ?_, h.fr, ?_, h.fb, ?_, h.rb⟩, ?_⟩, fr⟩
    · intro k hk hk'
      rcases hk'.1 with e | e
      · exact h.ld.apart k hk e
      · have := h.ld.flt k hk; omega
    · rw [← h.segs]; exact (room_fix s t.length).1
    · rw [← h.size]; exact (room_fix s t.length).2.1
    · intro hk
      rcases hk.1 with e | e
      · exact h.kr e
      · have := h.run.lt; omega
    · intro k hk
      rcases hk.1 with e | e
      · exact h.kb k e
      · have := h.run.lt; have := h.rb; omega
    · intro k hk hk'
      rcases hk'.1 with e | e
      · exact e
      · omega

theorem flushed_idle {s : Lg} (h1 : s.sure = s.texts.length) (h2 : s.clean = s.end_) : s.flushed = s := by
  unfold Lg.flushed
  rw [← h1, ← h2]

theorem flush_run (h : RunAt w base r b lb e m sg sz s bg cB A cT C cC vs Kl D F) :
    Calls Tryz.prog 9 #[.pointer (some ⟨lb, 0, none⟩)] w fun e' w' => e' = .returned Value.nilIface ∧ (∃ D' F', RunAt w' base r b lb e m sg sz s.flushed bg cB A cT C cC vs Kl D' F' ∧ ∀ k, k < w.heap.size → F' k → F k) ∧ Fr (fun k => F k ∨ Kl k) w w' := by
  by_cases hs : s.sure = s.texts.length
  · have hcl : s.clean = s.end_ := by rcases h.kp.even with e | e <;> omega
    refine (flush_idle h.ld.log h.kp.dead hs).mono ?_
    rintro e' w' ⟨rfl, bel⟩
    rw [flushed_idle hs hcl]
    exact ⟨rfl, ⟨D, F, h.below bel, fun _ _ h => h⟩, Fr.of_below bel _⟩
  · have hk := h.kp.flush hs
    refine (flush_on h.ld h.kp.sok h.kp.dead hs hk.1 h.kp.ok (by rw [h.kp.calls]; decide) (by rw [h.kp.calls]; decide) (by rw [h.kp.queue]; exact Nat.zero_le _) (by omega) h.kp.fit).mono ?_
    rintro e' w' ⟨rfl, F', l5, fr, hF⟩
    have hsz := fr.size
    have hrl := h.run.lt
    refine ⟨rfl, ⟨_, F', ⟨h.run.fr fr (fun hh => hh.elim h.fr h.kr), l5, hk.2, h.segs, h.size, fun hh => h.fr (hF r hrl hh), h.kr, ?_, h.kb, h.rb⟩, hF⟩, fr⟩
    intro k hk
    by_cases hkl : k < w.heap.size
    · exact h.fb k (hF k hkl hk)
    · have := h.rb; omega
end

set_option maxHeartbeats 4000000 in
theorem opened_any (sg sz : Nat) (w : World) (hT : Tab w) (hsg : 1 ≤ sg ∧ sg ≤ 16) (hsz : 2 ≤ sz ∧ sz ≤ 16) :
    Calls Tryz.prog 6 #[.int .i64 sg, .int .i64 sz] w fun e' w' => ∃ r, e' = .returned (.pointer (some ⟨r, 0, none⟩)) ∧ (∃ b lb e m bg cB A cT C cC vs Kl D F X, X = zr (sg * sz * 128) ∧ RunAt w' w.heap.size r b lb e m sg sz (Lg.opened sg sz X) bg cB A cT C cC vs Kl D F) ∧ Below w.heap.size w w' := by
  have hPb : sg * sz ≤ 16 * 16 := Nat.mul_le_mul hsg.2 hsz.2
  have hP2 : 2 ≤ sg * sz := by have := Nat.mul_le_mul hsg.1 hsz.1; omega
  obtain ⟨P, hP⟩ : ∃ P, P = sg * sz := ⟨_, rfl⟩
  rw [← hP] at hPb hP2 ⊢
  have hpi : IntKind.i64.wrap ((sg : Int) * (sz : Int)) = (P : Int) := by
    rw [hP, show (sg : Int) * (sz : Int) = ((sg * sz : Nat) : Int) by simp]
    exact IntWalk.i64_in _ (by omega)
  have hp1 : IntKind.i64.wrap (1 + (P : Int)) = ((1 + P : Nat) : Int) := by rw [show (1 : Int) + (P : Int) = ((1 + P : Nat) : Int) by omega]; exact IntWalk.i64_in _ (by omega)
  obtain ⟨Q, hQ⟩ : ∃ Q, Q = 1 + P := ⟨_, rfl⟩
  rw [← hQ] at hp1
  have HN := Lib.hid (new_good Q w (by omega) (by omega))
  have hDl : (Dk.new Q).safe.length = Q * 128 := by simp [Dk.new]
  have hpc : (Dk.new Q).piece 1 (sg * sz) = zr (P * 128) := by
    unfold Dk.piece
    rw [image_idle rfl]
    show ((List.replicate (Q * 128) 0).drop (1 * 128)).take (sg * sz * 128) = _
    rw [List.drop_replicate, List.take_replicate, ← hP]
    unfold zr
    congr 1
    omega
  have hfit : (1 + sg * sz) * 128 ≤ (Dk.new Q).safe.length := by rw [hDl, hQ, hP]; exact Nat.le_refl _
  have HDK := Lib.hid (And.intro (Dk.ok_new (n := Q) (by omega) (by omega)) (And.intro hpc hfit))
  have HO : Hid (∀ (W : World) (b : Nat) (F : Nat → Prop), DiskAt W b F (Dk.new Q) → (∀ k, F k → w.heap.size ≤ k ∧ k < W.heap.size) → Below w.heap.size w W →
      Calls Tryz.prog 16 #[.pointer (some ⟨b, 0, none⟩), .int .i64 1, .int .i64 sg, .int .i64 sz] W fun e w' => ∃ lb, e = .returned (.tuple #[.pointer (some ⟨lb, 0, none⟩), Value.nilIface]) ∧ ∃ bg cB A cT C cC vs K' F', LD w' lb b 1 (Lg.opened sg sz (zr (P * 128))) bg cB A cT C cC vs K' ((Dk.new Q).opened 1 sg sz) F' ∧ Fr F W w' ∧ (∀ k, k < W.heap.size → F' k → F k) ∧ (∀ k, K' k → W.heap.size ≤ k)) := Lib.hid (by
    intro W b F hD hF hb
    have hlt := hT.lt
    have hlt2 := hT.hlt
    have := open_log b 1 sg sz (Dk.new Q) F W hD (fun k hk => (hF k hk).2) (Dk.ok_new (by omega) (by omega)) rfl rfl (by omega) (by omega) (by omega) hfit (hT.below hb) (fun k hk => by have := (hF k hk).1; omega)
    rw [hpc] at this
    refine this.mono ?_
    rintro e w' ⟨lb, rfl, bg, cB, A, cT, C, cC, vs, K', F', h1, h2, h3, h4, -⟩
    exact ⟨lb, rfl, bg, cB, A, cT, C, cC, vs, K', F', h1, h2, h3, h4⟩)
  have HRN : Hid (∀ W : World, Calls Tryz.prog 26 #[.int .i64 Q] W fun e w' => e = .returned (.pointer (some ⟨W.heap.size, 0, none⟩)) ∧ (∃ A cA, RD w' W.heap.size W.heap.size (List.replicate Q (zr 128)) [] [] A cA none 0 none 0) ∧ Below W.heap.size W w') := Lib.hid (fun W => rnew_any Q W (by omega))
  have HRO : Hid (∀ (W : World) (d base : Nat) (A : Option Addr) (cA : Nat), RD W base d (List.replicate Q (zr 128)) [] [] A cA none 0 none 0 → base ≤ W.heap.size → Calls Tryz.prog 21 #[.pointer (some ⟨d, 0, none⟩), .int .i64 1, .int .i64 sg, .int .i64 sz] W fun e w' => ∃ lb, e = .returned (.tuple #[.pointer (some ⟨lb, 0, none⟩), .int .i64 0]) ∧ Below base W w') := Lib.hid (by
    intro W d base A cA hR hb
    have hX : zr (sg * (sz * 128)) = (((List.replicate Q (zr 128)).drop 1).take (sg * sz)).flatten := by
      rw [List.drop_replicate, List.take_replicate, Nat.min_eq_left (by omega), seg_all]
      have : ∀ n : Nat, (List.replicate n (zr 128)).flatten = zr (n * 128) := by
        intro n
        induction n with
        | zero => rfl
        | succ n ih => rw [List.replicate_succ, List.flatten_cons, ih, zr_add]; congr 1; omega
      rw [this]
    obtain ⟨n, hn⟩ : ∃ n, sg = n + 1 := ⟨sg - 1, by omega⟩
    have htold : Lg.told sg sz (zr (sg * (sz * 128))) = Lg.init sg sz (zr (sg * (sz * 128))) := by
      unfold Lg.told
      rw [hn]
      exact scan_zero _ _ rfl
    refine (ropen_any base d 1 sg sz _ A none none cA 0 0 W hR hb (by simp; omega) (fun s hs => by rw [(List.mem_replicate.1 hs).2]; exact zr_length 128) (by omega) (by omega) (by simp; omega) _ hX _ rfl (by rw [htold]; exact Lg.init_ok (by omega) (by omega) (by rw [zr_length, seg_all])) ?_).mono ?_
    · intro W1 lb hlb hB
      refine (rtold_zero lb d 1 sg sz W1 hB (by omega) (by omega)).mono ?_
      rintro e w' ⟨rfl, bel⟩
      rw [htold]
      exact ⟨rfl, ⟨none, 0, hB.below bel hB.lt, World.ownsRow_nil _ _ _ _⟩, Fr.of_below bel _⟩
    · rintro e w' ⟨lb, A', c', rfl, -, -, -, bel, -⟩
      exact ⟨lb, rfl, bel⟩)
  have HP := Lib.hid (And.intro hP hQ)
  have HS := Lib.hid (And.intro hsg hsz)
  clear hT hsg hsz hPb hP2 hP hQ hDl hpc hfit
  go_enter Tryz.func6, Tryz.ntmps6
  go_wp2_with fail
  refine HN.out.mono ?_
  rintro e w1 ⟨⟨b, F, rfl, hD, hF⟩, bel1⟩
  have HC := HO.out w1 b F hD hF bel1
  have H1 := Lib.hid (And.intro hD (And.intro hF bel1))
  clear hD hF bel1 HN
  go_wp2_with fail
  refine HC.mono ?_
  rintro e w2 ⟨lb, rfl, bg, cB, A, cT, C, cC, vs, Kl, F', l2, fr2, hF2, hK2⟩
  have hz1 := H1.out.2.2.size
  have hz2 := fr2.size
  have bel2 : Below w.heap.size w w2 := H1.out.2.2.trans (fr2.below hz1 (fun k hk => (H1.out.2.1 k hk).1))
  have H2 := Lib.hid (And.intro l2 (And.intro hF2 (And.intro hK2 bel2)))
  clear l2 fr2 hF2 hK2 bel2 HC
  go_wp2_with fail
  refine (HRN.out w2).mono ?_
  rintro e w3 ⟨rfl, ⟨A3, cA3, hR3⟩, bel3⟩
  have HC := HRO.out w3 w2.heap.size w2.heap.size A3 cA3 hR3 bel3.size
  have H3 := Lib.hid (H2.out.1.below bel3)
  have HB3 := Lib.hid bel3
  clear hR3 bel3
  go_wp2_with fail
  refine HC.mono ?_
  rintro e w4 ⟨m, rfl, bel4⟩
  have hz3 := HB3.out.size
  have bel24 := HB3.out.trans bel4
  have H4 := Lib.hid (And.intro (H2.out.1.below bel24) (H2.out.2.2.2.trans (bel24.mono H2.out.2.2.2.size)))
  have hz4 := bel24.size
  clear bel4 bel24 HC H3
  go_wp2_with fail
  go_ret
  refine ⟨w4.heap.size, rfl, ⟨b, lb, w2.heap.size, m, bg, cB, A, cT, C, cC, vs, Kl, _, F', _, rfl, ⟨Blk.new _ _ _, H4.out.1.below ((Below.refl _ _).alloc (Nat.le_refl _) _), ?_, (Lg.scan_fix sg (Lg.init sg sz (zr (P * 128))) 0).1, (Lg.scan_fix sg (Lg.init sg sz (zr (P * 128))) 0).2.1, ?_, ?_, ?_, ?_, ?_⟩⟩, H4.out.2.alloc (by omega) _⟩
  · have := Kp.opened (D := Dk.new Q) (f := 1) (segs := sg) (size := sz) HDK.out.1 rfl rfl (by have := HS.out; omega) (by have := HS.out; omega) HDK.out.2.2 (by rw [HDK.out.2.1, HP.out.1])
    rw [HDK.out.2.1] at this
    exact this
  · intro hh; have := H4.out.1.flt _ hh; omega
  · intro hh; have := H4.out.1.klt _ hh; omega
  · intro k hk
    by_cases hkl : k < w1.heap.size
    · exact (H1.out.2.1 k (H2.out.2.1 k hkl hk)).1
    · omega
  · intro k hk; have := H2.out.2.2.1 k hk; omega
  · omega
end Go.Proofs.YtbcnbehneodlgaaGreatDoor

namespace Go.Proofs.YtbcnbehneodlgaaGreatDoor
set_option maxRecDepth 4000
open Go.RowKit

theorem aw1 {s : Lg} (h : Laid0 s) (hd : s.dead = false) (hg : s.segs = 2) (hz : s.size = 2) (t : List UInt8) (ht : t.length = 40) :
    s.err 40 = 0 ∧ (s.append t).used = 208 ∧ (s.append t).last = 0 ∧ (s.append t).texts.length = 1 ∧ (s.append t).sealed_ = false ∧ (s.append t).dead = false := by
  have hn : s.n = 256 := by unfold Lg.n; rw [hz]
  have hr : s.room t.length = s.begin_ 0 := by unfold Lg.room; rw [if_pos h.used]
  have hl : (Go.Proofs.YtbcnbehneodlgaaGreatDoor.hd 0 s.texts.length s.chain).length = 128 := hd_len' _ _ _ (by rw [h.chain]; exact zr_length 32)
  refine ⟨?_, ?_, ?_, ?_, ?_, ?_⟩
  · unfold Lg.err
    rw [hd, hn, h.used]
    simp [fitsF]
  · show (s.room t.length).used + (frm (s.room t.length).chain t).length = 208
    rw [hr, frm_length, ht]
    show 0 + (Go.Proofs.YtbcnbehneodlgaaGreatDoor.hd 0 s.texts.length s.chain).length + (40 + 40) = 208
    rw [hl]
  · show (s.room t.length).last = 0
    rw [hr]; rfl
  · show ((s.room t.length).texts ++ [t]).length = 1
    rw [hr]
    show (s.texts ++ [t]).length = 1
    rw [h.texts]; rfl
  · show (s.room t.length).sealed_ = false
    rw [hr]; rfl
  · show (s.room t.length).dead = false
    rw [hr]; exact hd
theorem aw2 {s : Lg} (hu : s.used = 208) (hl : s.last = 0) (hse : s.sealed_ = false) (hd : s.dead = false) (hg : s.segs = 2) (hz : s.size = 2) (t : List UInt8) (ht : t.length = 40) :
    s.err 40 = 0 ∧ (s.append t).last = 1 ∧ (s.append t).texts.length = s.texts.length + 1 := by
  have hn : s.n = 256 := by unfold Lg.n; rw [hz]
  have hf : s.fits 40 = false := by unfold Lg.fits; rw [hu, hse, hn]; simp [fitsF]
  have hr : s.room t.length = (s.put (ft s.texts.length s.chain)).begin_ (s.last + 1) := by unfold Lg.room; rw [if_neg (by rw [hu]; decide), hse, if_neg (by decide), ht, if_pos hf]
  refine ⟨?_, ?_, ?_⟩
  · unfold Lg.err
    rw [hd, hn, hu, hl, hg, hf]
    simp [fitsF]
  · show (s.room t.length).last = 1
    rw [hr, hl]; rfl
  · show ((s.room t.length).texts ++ [t]).length = s.texts.length + 1
    rw [hr]
    exact List.length_append

set_option maxHeartbeats 4000000 in
theorem log_awake (w : World) (hT : Tab w) : Calls Tryz.prog 4 #[] w fun e w' => e = .returned (.bool true) ∧ Below w.heap.size w w' := by
  have HOP := Lib.hid (opened_any 2 2 w hT (by omega) (by omega))
  have hmk := make_bytes 40 (by omega)
  obtain ⟨Z, hZ⟩ : ∃ z : Array Value, z = (u8s (List.replicate 40 0)).toArray := ⟨_, rfl⟩
  rw [← hZ] at hmk
  replace hmk : ∀ W : World, (Instr.makeSlice 42 (.int .i64 40) (.int .i64 40)).run Tryz.prog W = .ok (.slice (some ⟨W.heap.size, 0, none⟩) 40 40) (W.alloc (.cells Z 5)) := hmk
  have HT := Lib.hid (And.intro hT hZ)
  clear hT hZ
  go_enter Tryz.func4, Tryz.ntmps4
  go_wp2_with fail
  refine HOP.out.mono ?_
  rintro e w1 ⟨r, rfl, ⟨b, lb, ee, m, bg, cB, A, cT, C, cC, vs, Kl, D, F, X, hX, hR⟩, bel1⟩
  have h0 := laid_opened (segs := 2) (size := 2) (X := X) (by omega) (by omega) hX
  obtain ⟨s, hs⟩ : ∃ s, s = Lg.opened 2 2 X := ⟨_, rfl⟩
  rw [← hs] at h0 hR
  have hal : Below w1.heap.size w1 (w1.alloc (.cells Z 5)) := (Below.refl _ _).alloc (Nat.le_refl _) _
  have hSt : Sees (w1.alloc (.cells Z 5)) 1 (some ⟨w1.heap.size, 0, none⟩) 40 (u8s (List.replicate 40 0)) := by rw [HT.out.2]; exact sees_new w1 5 (u8s (List.replicate 40 0)) 1 40 (by simp)
  have hR2 := hR.below hal
  have bel2 := bel1.trans (hal.mono bel1.size)
  have htb : ¬ Kl w1.heap.size := fun hk => by have := hR.ld.klt _ hk; omega
  have htf : ¬ F w1.heap.size := fun hk => by have := hR.ld.flt _ hk; omega
  have hzt : w1.heap.size < (w1.alloc (.cells Z 5)).heap.size := by simp
  have hA := aw1 h0 hR.kp.dead hR.segs hR.size (List.replicate 40 0) (by simp)
  have c1 : (w1.alloc (.cells Z 5)).cell? ⟨r, 1, none⟩ = some (.pointer (some ⟨lb, 0, none⟩)) := hR2.run.cell 1
  have hbt : ∀ k, w.heap.size ≤ k → k ≠ 1 ∧ k ≠ 0 := fun k hk => by have := HT.out.1.lt; have := HT.out.1.hlt; omega
  have HC := append_run hR2 (List.replicate 40 0) (some ⟨w1.heap.size, 0, none⟩) 40 40 (by rw [h0.texts]; decide) hSt (by simp) (by unfold maxLen; omega) (fun _ a ha => by injection ha with ha; subst ha; exact htb) (HT.out.1.below bel2) hbt
  have H2 := Lib.hid (And.intro hR2 (And.intro bel2 (And.intro hSt (And.intro htb (And.intro hbt (And.intro hzt (And.intro hA (And.intro h0 htf))))))))
  replace HC := Lib.hid HC
  clear h0 hR hal hSt hR2 bel2 htb htf hzt hA hs hX bel1 hbt HOP
  go_wp2_with (simp only [hmk])
  refine HC.out.mono ?_
  rintro e w3 ⟨-, h2⟩
  obtain ⟨rfl, ⟨A3, cT3, C3, cC3, vs3, K3, hR3, hK3⟩, fr3⟩ := h2 H2.out.2.2.2.2.2.2.1.1
  clear h2 HC c1
  have c1 : w3.cell? ⟨r, 1, none⟩ = some (.pointer (some ⟨lb, 0, none⟩)) := hR3.run.cell 1
  have HC := Lib.hid (flush_run hR3)
  have hz3 := fr3.size
  have bel3 : Below w.heap.size w w3 := H2.out.2.1.trans (fr3.below H2.out.2.1.size (fun k hk => H2.out.1.kb k hk))
  have hS3 : Sees w3 1 (some ⟨w1.heap.size, 0, none⟩) 40 (u8s (List.replicate 40 0)) := ⟨H2.out.2.2.1.1, fun h0 => by
    obtain ⟨g, o, e, hc⟩ := H2.out.2.2.1.2 h0
    refine ⟨g, o, e, fun j u hu => fr3.cell (hc j u hu) ?_⟩
    injection e with e
    injection e with e _ _
    show ¬ Kl g
    rw [← e]
    exact H2.out.2.2.2.1⟩
  have ht3 : ¬ K3 w1.heap.size := fun hk => H2.out.2.2.2.1 (hK3 _ H2.out.2.2.2.2.2.1 hk)
  have H3 := Lib.hid (And.intro hR3 (And.intro bel3 (And.intro hS3 (And.intro ht3 (Nat.lt_of_lt_of_le H2.out.2.2.2.2.2.1 hz3)))))
  clear hR3 hK3 fr3 hz3 bel3 hS3 ht3
  go_wp2_with fail
  refine HC.out.mono ?_
  rintro e w4 ⟨rfl, ⟨D4, F4, hR4, hF4⟩, fr4⟩
  clear HC c1
  have c1 : w4.cell? ⟨r, 1, none⟩ = some (.pointer (some ⟨lb, 0, none⟩)) := hR4.run.cell 1
  have hz4 := fr4.size
  have htF := H2.out.2.2.2.2.2.2.2.2
  have hS4 : Sees w4 1 (some ⟨w1.heap.size, 0, none⟩) 40 (u8s (List.replicate 40 0)) := ⟨H3.out.2.2.1.1, fun h0 => by
    obtain ⟨g, o, e, hc⟩ := H3.out.2.2.1.2 h0
    refine ⟨g, o, e, fun j u hu => fr4.cell (hc j u hu) ?_⟩
    injection e with e
    injection e with e _ _
    show ¬ (F g ∨ K3 g)
    rw [← e]
    exact fun hh => hh.elim htF H3.out.2.2.2.1⟩
  have bel4 : Below w.heap.size w w4 := H3.out.2.1.trans (fr4.below H3.out.2.1.size (fun k hk => hk.elim (H3.out.1.fb k) (H3.out.1.kb k)))
  have hA1 := H2.out.2.2.2.2.2.2.1
  have hA2 := aw2 (s := (s.append (List.replicate 40 0)).flushed) hA1.2.1 hA1.2.2.1 hA1.2.2.2.2.1 hA1.2.2.2.2.2 hR4.segs hR4.size (List.replicate 40 0) (by simp)
  have hsu : ((s.append (List.replicate 40 0)).flushed.append (List.replicate 40 0)).sure = 1 := (room_fix (s.append (List.replicate 40 0)).flushed (List.replicate 40 0).length).2.2.1.trans hA1.2.2.2.1
  have htx : (s.append (List.replicate 40 0)).flushed.texts.length = 1 := hA1.2.2.2.1
  have HC := Lib.hid (append_run hR4 (List.replicate 40 0) (some ⟨w1.heap.size, 0, none⟩) 40 40 (by rw [htx]; decide) hS4 (by simp) (by unfold maxLen; omega) (fun _ a ha => by injection ha with ha; subst ha; exact H3.out.2.2.2.1) (HT.out.1.below bel4) H2.out.2.2.2.2.1)
  have H4 := Lib.hid (And.intro hR4 (And.intro bel4 (And.intro hA2 (And.intro hsu htx))))
  clear hR4 hF4 fr4 hz4 htF hS4 bel4 hA1 hA2 hsu htx
  go_wp2_with fail
  refine HC.out.mono ?_
  rintro e w5 ⟨-, h2⟩
  obtain ⟨rfl, ⟨A5, cT5, C5, cC5, vs5, K5, hR5, hK5⟩, fr5⟩ := h2 H4.out.2.2.1.1
  clear h2 HC c1
  have c1 : w5.cell? ⟨r, 1, none⟩ = some (.pointer (some ⟨lb, 0, none⟩)) := hR5.run.cell 1
  have h1 := segment_any hR5.ld.log
  have h2 := count_any hR5.ld.log
  have h3 := sure_any hR5.ld.log
  rw [H4.out.2.2.1.2.1] at h1
  rw [H4.out.2.2.1.2.2, H4.out.2.2.2.2] at h2
  rw [H4.out.2.2.2.1] at h3
  have HH1 := Lib.hid h1
  have HH2 := Lib.hid h2
  have HH3 := Lib.hid h3
  have bel5 : Below w.heap.size w w5 := H4.out.2.1.trans (fr5.below H4.out.2.1.size (fun k hk => H3.out.1.kb k hk))
  have H5 := Lib.hid bel5
  clear h1 h2 h3 hR5 hK5 fr5 bel5
  go_wp2_with fail
  refine HH1.out.mono ?_
  rintro e w6 ⟨rfl, rfl⟩
  go_wp2_with fail
  refine HH2.out.mono ?_
  rintro e w6 ⟨rfl, rfl⟩
  go_wp2_with fail
  refine HH3.out.mono ?_
  rintro e w6 ⟨rfl, rfl⟩
  go_wp2_with fail
  go_ret
  exact ⟨rfl, H5.out⟩
end Go.Proofs.YtbcnbehneodlgaaGreatDoor
