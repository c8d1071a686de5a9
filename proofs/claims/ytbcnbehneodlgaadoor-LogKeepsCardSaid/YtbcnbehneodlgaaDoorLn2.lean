/-
  The law's example.
-/
import Derived.Test.YtbcnbehneodlgaaDoorLn1
namespace Go.Proofs.YtbcnbehneodlgaaDoor
set_option maxRecDepth 4000
open Go.RowKit

theorem aw1 {s : Lg} (h : Laid0 s) (hd : s.dead = false) (hg : s.segs = 2) (hz : s.size = 2) (t : List UInt8) (ht : t.length = 40) :
    s.err 40 = 0 ∧ (s.append t).used = 208 ∧ (s.append t).last = 0 ∧ (s.append t).texts.length = 1 ∧ (s.append t).sealed_ = false ∧ (s.append t).dead = false := by
  have hn : s.n = 256 := by unfold Lg.n; rw [hz]
  have hr : s.room t.length = s.begin_ 0 := by unfold Lg.room; rw [if_pos h.used]
  have hl : (Go.Proofs.YtbcnbehneodlgaaDoor.hd 0 s.texts.length s.chain).length = 128 := hd_len' _ _ _ (by rw [h.chain]; exact zr_length 32)
  refine ⟨?_, ?_, ?_, ?_, ?_, ?_⟩
  · unfold Lg.err
    rw [hd, hn, h.used]
    simp [fitsF]
  · show (s.room t.length).used + (frm (s.room t.length).chain t).length = 208
    rw [hr, frm_length, ht]
    show 0 + (Go.Proofs.YtbcnbehneodlgaaDoor.hd 0 s.texts.length s.chain).length + (40 + 40) = 208
    rw [hl]
  · show (s.room t.length).last = 0
    rw [hr]; rfl
  · show ((s.room t.length).texts ++ [t]).length = 1
    rw [hr]
    show (s.texts ++ [t]).length = 1
    rw [h.texts]; rfl
  · show (s.room t.length).sealed_ = false
    rw [hr]; rfl
  · show (s.room t.length).dead = false
    rw [hr]; exact hd
theorem aw2 {s : Lg} (hu : s.used = 208) (hl : s.last = 0) (hse : s.sealed_ = false) (hd : s.dead = false) (hg : s.segs = 2) (hz : s.size = 2) (t : List UInt8) (ht : t.length = 40) :
    s.err 40 = 0 ∧ (s.append t).last = 1 ∧ (s.append t).texts.length = s.texts.length + 1 := by
  have hn : s.n = 256 := by unfold Lg.n; rw [hz]
  have hf : s.fits 40 = false := by unfold Lg.fits; rw [hu, hse, hn]; simp [fitsF]
  have hr : s.room t.length = (s.put (ft s.texts.length s.chain)).begin_ (s.last + 1) := by unfold Lg.room; rw [if_neg (by rw [hu]; decide), hse, if_neg (by decide), ht, if_pos hf]
  refine ⟨?_, ?_, ?_⟩
  · unfold Lg.err
    rw [hd, hn, hu, hl, hg, hf]
    simp [fitsF]
  · show (s.room t.length).last = 1
    rw [hr, hl]; rfl
  · show ((s.room t.length).texts ++ [t]).length = s.texts.length + 1
    rw [hr]
    exact List.length_append

set_option maxHeartbeats 4000000 in
theorem log_awake (w : World) (hT : Tab w) : Calls Tryd.prog 4 #[] w fun e w' => e = .returned (.bool true) ∧ Below w.heap.size w w' := by
  have HOP := Lib.hid (opened_any 2 2 w hT (by omega) (by omega))
  have hmk := make_bytes 40 (by omega)
  obtain ⟨Z, hZ⟩ : ∃ z : Array Value, z = (u8s (List.replicate 40 0)).toArray := ⟨_, rfl⟩
  rw [← hZ] at hmk
  replace hmk : ∀ W : World, (Instr.makeSlice 27 (.int .i64 40) (.int .i64 40)).run Tryd.prog W = .ok (.slice (some ⟨W.heap.size, 0, none⟩) 40 40) (W.alloc (.cells Z 5)) := hmk
  have HT := Lib.hid (And.intro hT hZ)
  clear hT hZ
  go_enter Tryd.func4, Tryd.ntmps4
  go_wp2_with fail
  refine HOP.out.mono ?_
  rintro e w1 ⟨r, rfl, ⟨b, lb, ee, m, bg, cB, A, cT, C, cC, vs, Kl, D, F, X, hX, hR⟩, bel1⟩
  have h0 := laid_opened (segs := 2) (size := 2) (X := X) (by omega) (by omega) hX
  obtain ⟨s, hs⟩ : ∃ s, s = Lg.opened 2 2 X := ⟨_, rfl⟩
  rw [← hs] at h0 hR
  have hal : Below w1.heap.size w1 (w1.alloc (.cells Z 5)) := (Below.refl _ _).alloc (Nat.le_refl _) _
  have hSt : Sees (w1.alloc (.cells Z 5)) 1 (some ⟨w1.heap.size, 0, none⟩) 40 (u8s (List.replicate 40 0)) := by rw [HT.out.2]; exact sees_new w1 5 (u8s (List.replicate 40 0)) 1 40 (by simp)
  have hR2 := hR.below hal
  have bel2 := bel1.trans (hal.mono bel1.size)
  have htb : ¬ Kl w1.heap.size := fun hk => by have := hR.ld.klt _ hk; omega
  have htf : ¬ F w1.heap.size := fun hk => by have := hR.ld.flt _ hk; omega
  have hzt : w1.heap.size < (w1.alloc (.cells Z 5)).heap.size := by simp
  have hA := aw1 h0 hR.kp.dead hR.segs hR.size (List.replicate 40 0) (by simp)
  have c1 : (w1.alloc (.cells Z 5)).cell? ⟨r, 1, none⟩ = some (.pointer (some ⟨lb, 0, none⟩)) := hR2.run.cell 1
  have hbt : ∀ k, w.heap.size ≤ k → k ≠ 1 ∧ k ≠ 0 := fun k hk => by have := HT.out.1.lt; have := HT.out.1.hlt; omega
  have HC := append_run hR2 (List.replicate 40 0) (some ⟨w1.heap.size, 0, none⟩) 40 40 (by rw [h0.texts]; decide) hSt (by simp) (by unfold maxLen; omega) (fun _ a ha => by injection ha with ha; subst ha; exact htb) (HT.out.1.below bel2) hbt
  have H2 := Lib.hid (And.intro hR2 (And.intro bel2 (And.intro hSt (And.intro htb (And.intro hbt (And.intro hzt (And.intro hA (And.intro h0 htf))))))))
  replace HC := Lib.hid HC
  clear h0 hR hal hSt hR2 bel2 htb htf hzt hA hs hX bel1 hbt HOP
  go_wp2_with (simp only [hmk])
  refine HC.out.mono ?_
  rintro e w3 ⟨-, h2⟩
  obtain ⟨rfl, ⟨A3, cT3, C3, cC3, vs3, K3, hR3, hK3⟩, fr3⟩ := h2 H2.out.2.2.2.2.2.2.1.1
  clear h2 HC c1
  have c1 : w3.cell? ⟨r, 1, none⟩ = some (.pointer (some ⟨lb, 0, none⟩)) := hR3.run.cell 1
  have HC := Lib.hid (flush_run hR3)
  have hz3 := fr3.size
  have bel3 : Below w.heap.size w w3 := H2.out.2.1.trans (fr3.below H2.out.2.1.size (fun k hk => H2.out.1.kb k hk))
  have hS3 : Sees w3 1 (some ⟨w1.heap.size, 0, none⟩) 40 (u8s (List.replicate 40 0)) := ⟨H2.out.2.2.1.1, fun h0 => by
    obtain ⟨g, o, e, hc⟩ := H2.out.2.2.1.2 h0
    refine ⟨g, o, e, fun j u hu => fr3.cell (hc j u hu) ?_⟩
    injection e with e
    injection e with e _ _
    show ¬ Kl g
    rw [← e]
    exact H2.out.2.2.2.1⟩
  have ht3 : ¬ K3 w1.heap.size := fun hk => H2.out.2.2.2.1 (hK3 _ H2.out.2.2.2.2.2.1 hk)
  have H3 := Lib.hid (And.intro hR3 (And.intro bel3 (And.intro hS3 (And.intro ht3 (Nat.lt_of_lt_of_le H2.out.2.2.2.2.2.1 hz3)))))
  clear hR3 hK3 fr3 hz3 bel3 hS3 ht3
  go_wp2_with fail
  refine HC.out.mono ?_
  rintro e w4 ⟨rfl, ⟨D4, F4, hR4, hF4⟩, fr4⟩
  clear HC c1
  have c1 : w4.cell? ⟨r, 1, none⟩ = some (.pointer (some ⟨lb, 0, none⟩)) := hR4.run.cell 1
  have hz4 := fr4.size
  have htF := H2.out.2.2.2.2.2.2.2.2
  have hS4 : Sees w4 1 (some ⟨w1.heap.size, 0, none⟩) 40 (u8s (List.replicate 40 0)) := ⟨H3.out.2.2.1.1, fun h0 => by
    obtain ⟨g, o, e, hc⟩ := H3.out.2.2.1.2 h0
    refine ⟨g, o, e, fun j u hu => fr4.cell (hc j u hu) ?_⟩
    injection e with e
    injection e with e _ _
    show ¬ (F g ∨ K3 g)
    rw [← e]
    exact fun hh => hh.elim htF H3.out.2.2.2.1⟩
  have bel4 : Below w.heap.size w w4 := H3.out.2.1.trans (fr4.below H3.out.2.1.size (fun k hk => hk.elim (H3.out.1.fb k) (H3.out.1.kb k)))
  have hA1 := H2.out.2.2.2.2.2.2.1
  have hA2 := aw2 (s := (s.append (List.replicate 40 0)).flushed) hA1.2.1 hA1.2.2.1 hA1.2.2.2.2.1 hA1.2.2.2.2.2 hR4.segs hR4.size (List.replicate 40 0) (by simp)
  have hsu : ((s.append (List.replicate 40 0)).flushed.append (List.replicate 40 0)).sure = 1 := (room_fix (s.append (List.replicate 40 0)).flushed (List.replicate 40 0).length).2.2.1.trans hA1.2.2.2.1
  have htx : (s.append (List.replicate 40 0)).flushed.texts.length = 1 := hA1.2.2.2.1
  have HC := Lib.hid (append_run hR4 (List.replicate 40 0) (some ⟨w1.heap.size, 0, none⟩) 40 40 (by rw [htx]; decide) hS4 (by simp) (by unfold maxLen; omega) (fun _ a ha => by injection ha with ha; subst ha; exact H3.out.2.2.2.1) (HT.out.1.below bel4) H2.out.2.2.2.2.1)
  have H4 := Lib.hid (And.intro hR4 (And.intro bel4 (And.intro hA2 (And.intro hsu htx))))
  clear hR4 hF4 fr4 hz4 htF hS4 bel4 hA1 hA2 hsu htx
  go_wp2_with fail
  refine HC.out.mono ?_
  rintro e w5 ⟨-, h2⟩
  obtain ⟨rfl, ⟨A5, cT5, C5, cC5, vs5, K5, hR5, hK5⟩, fr5⟩ := h2 H4.out.2.2.1.1
  clear h2 HC c1
  have c1 : w5.cell? ⟨r, 1, none⟩ = some (.pointer (some ⟨lb, 0, none⟩)) := hR5.run.cell 1
  have h1 := segment_any hR5.ld.log
  have h2 := count_any hR5.ld.log
  have h3 := sure_any hR5.ld.log
  rw [H4.out.2.2.1.2.1] at h1
  rw [H4.out.2.2.1.2.2, H4.out.2.2.2.2] at h2
  rw [H4.out.2.2.2.1] at h3
  have HH1 := Lib.hid h1
  have HH2 := Lib.hid h2
  have HH3 := Lib.hid h3
  have bel5 : Below w.heap.size w w5 := H4.out.2.1.trans (fr5.below H4.out.2.1.size (fun k hk => H3.out.1.kb k hk))
  have H5 := Lib.hid bel5
  clear h1 h2 h3 hR5 hK5 fr5 bel5
  go_wp2_with fail
  refine HH1.out.mono ?_
  rintro e w6 ⟨rfl, rfl⟩
  go_wp2_with fail
  refine HH2.out.mono ?_
  rintro e w6 ⟨rfl, rfl⟩
  go_wp2_with fail
  refine HH3.out.mono ?_
  rintro e w6 ⟨rfl, rfl⟩
  go_wp2_with fail
  go_ret
  exact ⟨rfl, H5.out⟩
end Go.Proofs.YtbcnbehneodlgaaDoor
