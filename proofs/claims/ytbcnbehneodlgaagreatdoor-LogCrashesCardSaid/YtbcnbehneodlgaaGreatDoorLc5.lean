/-
  The law LogCrashes, walked.
-/
import Derived.Test.YtbcnbehneodlgaaGreatDoorGI
import Derived.Test.YtbcnbehneodlgaaGreatDoorLc4
import Derived.Test.YtbcnbehneodlgaaGreatDoorGJ
import Derived.Test.YtbcnbehneodlgaaGreatDoorRp2
namespace Go.Proofs.YtbcnbehneodlgaaGreatDoor
set_option maxRecDepth 4000
open Go.RowKit

theorem same_eq (L : List (List UInt8)) (A B : Option Addr) (k c c' : Nat) (w : World) (hk : L.length = k) (hkc : k ≤ 100000) (hA : Sees w 1 A k (strs L)) (hB : Sees w 1 B k (strs L)) :
    Calls Tryz.prog 19 #[.slice A k c, .slice B k c'] w fun e w' => e = .returned (.bool true) ∧ Below w.heap.size w w' := by
  have HA := Lib.hid hA; have HB := Lib.hid hB; have HK := Lib.hid hk
  clear hA hB hk
  go_enter Tryz.func19, Tryz.ntmps19
  go_wp2_with fail
  go_loopw [5] (fun i wr => ∃ j : Nat, j ≤ k ∧ i = .int .i64 j ∧ Below w.heap.size w wr) (fun i _ => k - (intOf i).toNat)
  case atStart => exact ⟨0, by omega, rfl, Below.refl _ _⟩
  case round =>
    obtain ⟨j, hj, rfl, hbr⟩ := hrel
    by_cases hlt : j < k
    · have hlti : (j : Int) < (k : Int) := by omega
      have hp := List.getElem?_eq_getElem (l := L) (i := j) (by rw [HK.out]; exact hlt)
      obtain ⟨t, ht⟩ : ∃ p, p = L[j]'(by rw [HK.out]; exact hlt) := ⟨_, rfl⟩
      rw [← ht] at hp
      obtain ⟨g, off, rfl, hcs⟩ := HA.out.2 (by omega)
      obtain ⟨g2, off2, rfl, hcs2⟩ := HB.out.2 (by omega)
      have hc0 : w.cell? ⟨g, off + j, none⟩ = some (.string (str t)) := hcs j _ (by simp [strs, hp])
      have hc1 := (hbr.cell (World.block_lt_of_cell? w _ hc0)).trans hc0
      have hd0 : w.cell? ⟨g2, off2 + j, none⟩ = some (.string (str t)) := hcs2 j _ (by simp [strs, hp])
      have hd1 := (hbr.cell (World.block_lt_of_cell? w _ hd0)).trans hd0
      have HBR := Lib.hid hbr
      clear hcs hcs2 hp ht hc0 hd0 hbr
      generalize str t = X at *
      go_wp2_with fail
      refine region_fast [(0, true), (1, true), (2, true), (3, true), (4, true), (5, true), (6, true), (7, true), (8, true)] [1, 4, 5, 6, 7] 242 [(131072, 1, 0, 0), (262144, 32, 0, 0), (524288, 393216, 3, 3), (1048576, 524288, 4, 7), (2097152, 2, 0, 0), (4194304, 32, 0, 0), (8388608, 6291456, 48, 48), (16777216, 8388608, 64, 112), (33554432, 17825792, 136, 255)] (fun w' => w'.cell? ⟨g, off + j, none⟩ = some (.string X) ∧ w'.cell? ⟨g2, off2 + j, none⟩ = some (.string X)) (by kernel_rfl) (by kernel_rfl) (by kernel_rfl) rfl (by kernel_rfl) (by kernel_rfl) ⟨hc1, hd1⟩ (fun hS => ?_)
      repeat (first
        | (refine plan_read (v := ?_) rfl (fun _ _ _ h => h) rfl hS ?_ ?_; rotate_left 1; (focus (intro w' hS'; obtain ⟨z1, z2⟩ := hS'; go_simp; try rfl)); (simp only [Act.put, List.setIfInBounds_toArray]; dsimp only [List.set_cons_zero, List.set_cons_succ]))
        | (refine plan_skip rfl (fun _ _ _ h => h) rfl hS ?_; (simp only [Act.put, List.setIfInBounds_toArray]; dsimp only [List.set_cons_zero, List.set_cons_succ])))
      refine plan_nil ?_
      go_wp2_with fail
      go_roundw
      case rel => exact ⟨j + 1, by omega, by go_num, HBR.out.drew⟩
      case measure => simp [intOf]; omega
    · obtain rfl : j = k := by omega
      have hge : ¬ ((j : Int) < (j : Int)) := by omega
      go_wp2_with fail
      go_ret
      exact ⟨rfl, hbr⟩

theorem RunAt.fr' {w w' : World} {base r b lb e m sg sz : Nat} {s : Lg} {bg cB : Nat} {A : Option Addr} {cT : Nat} {C : Option Addr} {cC : Nat} {vs : List Pt} {Kl : Nat → Prop} {D : Dk} {F G : Nat → Prop} (h : RunAt w base r b lb e m sg sz s bg cB A cT C cC vs Kl D F) (hf : Fr G w w') (hr : ¬ G r) (hK : ∀ k, Kl k → ¬ G k) (hF : ∀ k, F k → ¬ G k) : RunAt w' base r b lb e m sg sz s bg cB A cT C cC vs Kl D F :=
  ⟨h.run.fr hf hr, ⟨h.ld.log.fr hf hK, h.ld.disk.fr hf hF, h.ld.apart, fun k hk => Nat.lt_of_lt_of_le (h.ld.flt k hk) hf.size, fun k hk => Nat.lt_of_lt_of_le (h.ld.klt k hk) hf.size⟩, h.kp, h.segs, h.size, h.fr, h.kr, h.fb, h.kb, h.rb⟩

/-- While acts are left: the run, and what the law has laid. -/
def GoodL (w wr : World) (r : Nat) (s : Lg) (Al : Option Addr) (cl : Nat) : Prop :=
  ∃ b lb e m bg cB A cT C cC vs Kl D F, RunAt wr w.heap.size r b lb e m 3 4 s bg cB A cT C cC vs Kl D F ∧ (∀ g, (Value.slice Al s.texts.length cl).ownBlock = some g → ¬ Kl g ∧ ¬ F g) ∧ Sr s
/-- Behind the last one. -/
def EndL (w wr : World) (r : Nat) (s : Lg) (Al : Option Addr) (cl : Nat) : Prop :=
  ∃ b lb e m bg cB A cT C cC vs Kl D F, EsAt wr w.heap.size r b lb e m s bg cB A cT C cC vs Kl D F ∧ (∀ g, (Value.slice Al s.texts.length cl).ownBlock = some g → ¬ Kl g ∧ ¬ F g)
structure LcAt (w wr : World) (r : Nat) (s : Lg) (j k : Nat) (Al : Option Addr) (cl : Nat) : Prop where
  at_ : (j < k ∧ GoodL w wr r s Al cl) ∨ (j = k ∧ EndL w wr r s Al cl)
  laid : wr.ownsRow w.heap.size 9 1 (.slice Al s.texts.length cl) s.texts.length (strs s.texts)
  below : Below w.heap.size w wr
  many : s.texts.length ≤ j

theorem wp_mid8 {P : Program} {c : Code} {Q' : Exit → Act → World → Prop} {a : Act} {w : World} (F : Option Addr → Nat → Option Addr → Nat → Option Addr → Nat → Option Addr → Nat → Act) (R : Option Addr → Nat → Option Addr → Nat → Option Addr → Nat → Option Addr → Nat → World → Prop)
    (h : c.wp P (fun e a' w' => e = .normal ∧ ∃ A1 n1 A2 n2 A3 n3 A4 n4, a' = F A1 n1 A2 n2 A3 n3 A4 n4 ∧ R A1 n1 A2 n2 A3 n3 A4 n4 w') a w) (hq : ∀ A1 n1 A2 n2 A3 n3 A4 n4 w', R A1 n1 A2 n2 A3 n3 A4 n4 w' → Q' .normal (F A1 n1 A2 n2 A3 n3 A4 n4) w') : c.wp P Q' a w :=
  wp_mono h (by rintro _ _ _ ⟨rfl, A1, n1, A2, n2, A3, n3, A4, n4, rfl, hR⟩; exact hq A1 n1 A2 n2 A3 n3 A4 n4 _ hR)

set_option maxHeartbeats 16000000 in
theorem crashes_any (ys : List La) (A : Option Addr) (k c : Nat) (a1 : Int) (aK : Option Addr) (z : List Int) (lk ck : Nat) (w : World) (hk : ys.length = k) (hI : Sees w 4 A k (las ys)) (hok : ∀ y ∈ ys, LaOk y) (hT : Tab w) (ha1 : 0 ≤ a1 ∧ a1 ≤ 255) (hz : z.length = lk) (hlk : lk ≤ maxLen) (hZ : Sees w 1 aK lk (z.map (Value.int .i64))) (hZl : ∀ a, aK = some a → 0 < lk → a.block < w.heap.size) (hkm : k ≤ maxLen) :
    Calls Tryz.prog 3 #[.slice A k c, .int .u8 a1, .slice aK lk ck] w fun e w' => e = .returned (.bool true) ∧ Below w.heap.size w w' := by
  unfold maxLen at hkm hlk
  have HAW := Lib.hid (log_awake w hT)
  have HT := Lib.hid hT; have HI := Lib.hid hI; have HK := Lib.hid (And.intro hk (And.intro hok (And.intro hz (And.intro hZ hZl))))
  obtain ⟨q4, hq4⟩ : ∃ q : Nat, q = (a1.tmod 4).toNat := ⟨_, rfl⟩
  have hqm : a1.tmod 4 = (q4 : Int) := by rw [hq4, Int.tmod_eq_emod_of_nonneg ha1.1]; omega
  have hq3 : q4 ≤ 3 := by rw [hq4, Int.tmod_eq_emod_of_nonneg ha1.1]; omega
  have hwa : IntKind.i64.wrap a1 = a1 := IntWalk.i64_in _ (by omega)
  have hwq : IntKind.i64.wrap (q4 : Int) = (q4 : Int) := IntWalk.i64_in _ (by omega)
  have hbt : ∀ k, w.heap.size ≤ k → k ≠ 1 ∧ k ≠ 0 := fun k hk => by have := hT.lt; have := hT.hlt; omega
  have HBT := Lib.hid hbt
  clear hT hI hk hq4 hbt hok hz hZ hZl
  go_enter Tryz.func3, Tryz.ntmps3
  go_wp2_with fail
  refine HAW.out.mono ?_
  rintro e w1 ⟨rfl, hb1⟩
  have HAW1 := Lib.hid (fun W hW => log_awake W (HT.out.below (hb1.trans (hW : Below w.heap.size w1 W))))
  have HSM := Lib.hid (small_acts ys A k c w1 HK.out.1 (HI.out.below hb1))
  have HB1 := Lib.hid hb1
  clear hb1 HAW
  go_wp2_with fail
  refine HSM.out.mono ?_
  rintro e w2 ⟨B, rfl, hB, hb2⟩
  have hb2' : Below w.heap.size w1 w2 := hb2.mono HB1.out.size
  have HAW2 := Lib.hid (HAW1.out w2 hb2')
  have HB2 := Lib.hid (HB1.out.trans hb2')
  clear hb2 hb2' HAW1 HSM
  cases B with
  | false =>
    go_wp2_with fail
    refine HAW2.out.mono ?_
    rintro e w3 ⟨rfl, hb3⟩
    have HB3 := Lib.hid (HB2.out.trans (hb3.mono HB2.out.size))
    clear hb3
    go_wp2_with fail
    go_ret
    exact ⟨rfl, HB3.out⟩
  | true =>
    by_cases h30 : 30 < lk
    · have h30i : (30 : Int) < (lk : Int) := by omega
      go_wp2_with fail
      refine HAW2.out.mono ?_
      rintro e w3 ⟨rfl, hb3⟩
      have HB3 := Lib.hid (HB2.out.trans (hb3.mono HB2.out.size))
      clear hb3
      go_wp2_with fail
      go_ret
      exact ⟨rfl, HB3.out⟩
    · have h30i : ¬ (30 : Int) < (lk : Int) := by omega
      have hk25 : k ≤ 25 := hB rfl
      have HOP := Lib.hid (opened_any 3 4 w2 (HT.out.below HB2.out) (by omega) (by omega))
      clear hB HAW2
      go_wp2_with fail
      refine HOP.out.mono ?_
      rintro e w3 ⟨r, rfl, ⟨b, lb, ee, m, bg, cB, AA, cT, C, cC, vs, Kl, D, F, X, hX, hR⟩, bel3⟩
      have h0 := laid_opened (segs := 3) (size := 4) (X := X) (by omega) (by omega) hX
      have hb2s := HB2.out.size
      have hsr : Sr (Lg.opened 3 4 X) := .inl (by rw [opened_sure, h0.texts]; rfl)
      have hR' : RunAt w3 w.heap.size r b lb ee m 3 4 (Lg.opened 3 4 X) bg cB AA cT C cC vs Kl D F := ⟨hR.run, hR.ld, hR.kp, hR.segs, hR.size, hR.fr, hR.kr, fun k hk => Nat.le_trans hb2s (hR.fb k hk), fun k hk => Nat.le_trans hb2s (hR.kb k hk), Nat.le_trans hb2s hR.rb⟩
      have H2 : Hid (LcAt w w3 r (Lg.opened 3 4 X) 0 k none 0) := Lib.hid (by
        refine ⟨?_, ?_, HB2.out.trans (bel3.mono hb2s), by rw [h0.texts]; exact Nat.le_refl _⟩
        · rcases Nat.eq_zero_or_pos k with hk0 | hk0
          · exact .inr ⟨hk0.symm, b, lb, ee, m, bg, cB, AA, cT, C, cC, vs, Kl, D, F, hR'.end_ hsr, fun g hg => by cases hg⟩
          · exact .inl ⟨hk0, b, lb, ee, m, bg, cB, AA, cT, C, cC, vs, Kl, D, F, hR', (fun g hg => by cases hg), hsr⟩
        · rw [h0.texts]
          exact World.ownsRow_nil _ _ _ _)
      have ht0 : (Lg.opened 3 4 X).texts.length = 0 := by rw [h0.texts]; rfl
      obtain ⟨s0, hs0⟩ : ∃ s, s = Lg.opened 3 4 X := ⟨_, rfl⟩
      rw [← hs0] at H2 ht0
      have H2' := Lib.hid ht0
      clear hR hR' h0 hX bel3 hs0 hb2s ht0 hsr HOP
      go_wp2_with fail
      go_loopw [8, 9] (fun ld i wr => ∃ j : Nat, j ≤ k ∧ i = .int .i64 j ∧ Hid (∃ s Al cl, ld = .slice Al s.texts.length cl ∧ LcAt w wr r s j k Al cl)) (fun _ i _ => k - (intOf i).toNat)
      case atStart => exact ⟨0, by omega, rfl, Lib.hid ⟨s0, none, 0, by rw [H2'.out], H2.out⟩⟩
      case round =>
        obtain ⟨j, hj, rfl, hr⟩ := hrel
        obtain ⟨s, Al, cl, rfl, hL⟩ := hr.out
        clear hr
        by_cases hlt : j < k
        · have hji : (j : Int) < (k : Int) := by omega
          obtain ⟨b, lb, ee, m, bg, cB, AA, cT, C, cC, vs, Kl, D, F, hR, hLa, hsr⟩ : GoodL w wr r s Al cl := by
            rcases hL.at_ with h | h
            · exact h.2
            · omega
          obtain ⟨-, hlaid, hbw, hmany⟩ := hL
          clear H2 H2'
          have hjl : j < ys.length := by rw [HK.out.1]; exact hlt
          obtain ⟨y, hy⟩ : ∃ y, y = ys[j] := ⟨_, rfl⟩
          have hyj : ys[j]? = some y := by rw [List.getElem?_eq_getElem hjl, hy]
          have hyok := HK.out.2.1 y (List.mem_of_getElem? hyj)
          obtain ⟨g, o, rfl, x0, x1, x2, x3⟩ := in_la (by rw [HK.out.1]; exact HI.out) hyj
          have hgl : g < w.heap.size := World.block_lt_of_cell? w _ x0
          have y0 := (hbw.cell hgl).trans x0
          have y1 := (hbw.cell hgl).trans x1
          have y2 := (hbw.cell hgl).trans x2
          have y3 := (hbw.cell hgl).trans x3
          have HRS := Lib.hid (fun W => rest_at y.kd 2 W hyok.1.1 hyok.1.2 (by omega) (by omega))
          have HTX := Lib.hid (fun W => text_any y hyok W)
          have hq2 := restN_lt y.kd 2 (by omega)
          obtain ⟨q, hq⟩ : ∃ q, q = restN y.kd 2 := ⟨_, rfl⟩
          rw [← hq] at HRS hq2
          obtain ⟨kd, nn, ab, pA, pl, pc⟩ := y
          simp only at y0 y1 y2 y3 HRS HTX
          obtain ⟨bn, hbn⟩ : ∃ x, x = ab.toNat := ⟨_, rfl⟩
          rw [← hbn] at y2 HTX
          obtain ⟨T, hTl⟩ : ∃ T, T = s.texts.length := ⟨_, rfl⟩
          rw [← hTl] at hlaid hLa hmany ⊢
          have hTj : T ≤ 25 := by omega
          have c0 : wr.cell? ⟨r, 0, none⟩ = some (.pointer (some ⟨b, 0, none⟩)) := hR.run.cell 0
          have c1 : wr.cell? ⟨r, 1, none⟩ = some (.pointer (some ⟨lb, 0, none⟩)) := hR.run.cell 1
          have HX := Lib.hid (And.intro x0 (And.intro x1 (And.intro x2 x3)))
          have HR := Lib.hid (And.intro hR (And.intro hLa (And.intro hlaid (And.intro hbw (And.intro hmany (And.intro hTl hsr))))))
          clear hjl hy hyj hyok x0 x1 x2 x3 hq hbn hR hLa hlaid hbw hmany hTl hsr
          obtain ⟨K1, hK1⟩ : ∃ K1, K1 = k - 1 := ⟨_, rfl⟩
          have hwk : IntKind.i64.wrap ((k : Int) - 1) = (K1 : Int) := by rw [show (k : Int) - 1 = (K1 : Int) by omega]; exact IntWalk.i64_in _ (by omega)
          by_cases hlast : j + 1 = k
          · obtain rfl : K1 = j := by omega
            have hl1 := HR.out.1.ld
            have HLM := Lib.hid (limit_any b q4 (by omega) F D wr hl1.disk)
            clear hK1
            go_wp2_with fail
            refine HLM.out.mono ?_
            rintro e w2 ⟨rfl, hd⟩
            obtain ⟨F2, l2, f2, s2'⟩ := HR.out.1.ld.move hd
            have hz2 := f2.size
            have bel2 : Below w.heap.size w w2 := HR.out.2.2.2.1.trans (f2.below HR.out.2.2.2.1.size (fun k hk => HR.out.1.fb k hk))
            have run2 := HR.out.1.run.fr f2 HR.out.1.fr
            have c1 : w2.cell? ⟨r, 1, none⟩ = some (.pointer (some ⟨lb, 0, none⟩)) := run2.cell 1
            have y0 := (bel2.cell hgl).trans HX.out.1
            have HF := Lib.hid (flush_end q4 hq3 HR.out.1 HR.out.2.2.2.2.2.2 l2 f2 s2')
            have H2 := Lib.hid (And.intro f2 (And.intro s2' (And.intro bel2 (own_fr HR.out.2.2.1 f2 (fun g hg => (HR.out.2.1 g hg).2)))))
            clear hd l2 f2 s2' bel2 run2 HLM hl1 y1 y2 y3
            go_wp2_with fail
            refine (HRS.out _).mono ?_
            rintro e w3 ⟨rfl, rfl⟩
            have HFIN : Hid (∀ (w4 : World), (∃ s' D' F', s'.texts = s.texts ∧ EsAt w4 w.heap.size r b lb ee m s' bg cB AA cT C cC vs Kl D' F' ∧ ∀ k, k < w2.heap.size → F' k → F2 k) ∧ Fr (fun k => F2 k ∨ Kl k) w2 w4 → ∃ s' Al' cl', Value.slice Al T cl = .slice Al' s'.texts.length cl' ∧ LcAt w w4 r s' (K1 + 1) k Al' cl') := Lib.hid (by
              rintro w4 ⟨⟨s', D', F', e1, hE, hF'⟩, f4⟩
              have hT' : s'.texts.length = T := by rw [e1]; exact HR.out.2.2.2.2.2.1.symm
              refine ⟨s', Al, cl, by rw [hT'], ⟨.inr ⟨hlast, b, lb, ee, m, bg, cB, AA, cT, C, cC, vs, Kl, D', F', hE, fun g hg => ?_⟩, ?_, H2.out.2.2.1.trans (f4.below H2.out.2.2.1.size (fun k hk => ?_)), by rw [hT']; have := HR.out.2.2.2.2.1; omega⟩⟩
              · rw [hT'] at hg
                have hgw := (HR.out.2.2.1.lt g hg).2
                exact ⟨(HR.out.2.1 g hg).1, fun hk => (HR.out.2.1 g hg).2 (H2.out.2.1 g hgw (hF' g (Nat.lt_of_lt_of_le hgw hz2) hk))⟩
              · rw [hT', e1]
                exact own_fr H2.out.2.2.2 f4 (fun g hg hh => hh.elim (fun h => (HR.out.2.1 g hg).2 (H2.out.2.1 g (HR.out.2.2.1.lt g hg).2 h)) (HR.out.2.1 g hg).1)
              · rcases hk with h | h
                · by_cases hkl : k < wr.heap.size
                  · exact HR.out.1.fb k (H2.out.2.1 k hkl h)
                  · have := HR.out.2.2.2.1.size; omega
                · exact HR.out.1.kb k h)
            by_cases hq1 : q = 1
            · subst hq1
              go_wp2_with fail
              refine HF.out.mono ?_
              rintro e w4 ⟨⟨v, rfl⟩, hh⟩
              have HH := Lib.hid (HFIN.out w4 hh)
              clear hh HF HFIN c1 y0
              go_wp2_with fail
              go_roundw
              case rel => exact ⟨K1 + 1, by omega, by go_num, HH⟩
              case measure => simp [intOf]; omega
            · obtain rfl : q = 0 := by omega
              go_wp2_with fail
              refine HF.out.mono ?_
              rintro e w4 ⟨⟨v, rfl⟩, hh⟩
              have HH := Lib.hid (HFIN.out w4 hh)
              clear hh HF HFIN c1 y0
              go_wp2_with fail
              go_roundw
              case rel => exact ⟨K1 + 1, by omega, by go_num, HH⟩
              case measure => simp [intOf]; omega
          · have hne : ¬ j = K1 := by omega
            have hnb : ((j : Int) == (K1 : Int)) = false := by rw [beq_eq_false_iff_ne]; omega
            have hj1k : j + 1 < k := by omega
            clear hK1
            go_wp2_with fail
            refine (HRS.out _).mono ?_
            rintro e w3 ⟨rfl, rfl⟩
            by_cases hq1 : q = 1
            · subst hq1
              have HF := Lib.hid (flush_run HR.out.1)
              go_wp2_with fail
              refine HF.out.mono ?_
              rintro e w4 ⟨rfl, ⟨D4, F4, hR4, hF4⟩, f4⟩
              have HH : Hid (∃ s' Al' cl', Value.slice Al T cl = .slice Al' s'.texts.length cl' ∧ LcAt w w4 r s' (j + 1) k Al' cl') := Lib.hid (by
                have hT' : s.flushed.texts.length = T := HR.out.2.2.2.2.2.1.symm
                refine ⟨s.flushed, Al, cl, by rw [hT'], ⟨.inl ⟨hj1k, b, lb, ee, m, bg, cB, AA, cT, C, cC, vs, Kl, D4, F4, hR4, fun g hg => ?_, Sr.flushed HR.out.1.kp.laid⟩, ?_, HR.out.2.2.2.1.trans (f4.below HR.out.2.2.2.1.size (fun k hk => hk.elim (HR.out.1.fb k) (HR.out.1.kb k))), by rw [hT']; have := HR.out.2.2.2.2.1; omega⟩⟩
                · rw [hT'] at hg
                  exact ⟨(HR.out.2.1 g hg).1, fun hk => (HR.out.2.1 g hg).2 (hF4 g (HR.out.2.2.1.lt g hg).2 hk)⟩
                · rw [hT']
                  exact own_fr HR.out.2.2.1 f4 (fun g hg hh => hh.elim (HR.out.2.1 g hg).2 (HR.out.2.1 g hg).1))
              clear hR4 hF4 f4 HF c0 c1 y0 y1 y2 y3
              go_wp2_with fail
              go_roundw
              case rel => exact ⟨j + 1, by omega, by go_num, HH⟩
              case measure => simp [intOf]; omega
            · obtain rfl : q = 0 := by omega
              go_wp2_with fail
              refine (HTX.out _).mono ?_
              rintro e w4 ⟨gt, t, rfl, hgt, htl, htb, bel4⟩
              have hR4 := HR.out.1.below bel4
              have c14 : w4.cell? ⟨r, 1, none⟩ = some (.pointer (some ⟨lb, 0, none⟩)) := hR4.run.cell 1
              have hSt : Sees w4 1 (some ⟨gt, 0, none⟩) t.length (u8s t) := Sees.of_own (own_mk (base := 0) (Nat.zero_le _) htb (Nat.le_refl _) (by unfold maxLen; omega) (by rw [List.size_toArray, length_u8s, Nat.mul_one]) (by rw [List.toList_toArray, List.take_of_length_le (by rw [length_u8s]; omega)]))
              have hgK : ¬ Kl gt := fun hk => by have := HR.out.1.ld.klt gt hk; omega
              have bel4w : Below w.heap.size w w4 := HR.out.2.2.2.1.trans (bel4.mono HR.out.2.2.2.1.size)
              have HAP := Lib.hid (append_run hR4 t (some ⟨gt, 0, none⟩) t.length t.length (by rw [← HR.out.2.2.2.2.2.1]; omega) hSt rfl (by unfold maxLen; omega) (fun _ a ha => by injection ha with ha; subst ha; exact hgK) (HT.out.below bel4w) HBT.out)
              obtain ⟨n, hn⟩ : ∃ n, n = t.length := ⟨_, rfl⟩
              have H4 := Lib.hid (And.intro hR4 (And.intro bel4w (And.intro (own_below HR.out.2.2.1 bel4) (And.intro hSt (And.intro hgK (And.intro hn (And.intro htb hgt)))))))
              rw [← hn] at HAP htl ⊢
              clear hR4 hSt hgK bel4w bel4 htb hn hgt c0 c1 y0 y1 y2 y3
              go_wp2_with fail
              refine HAP.out.mono ?_
              by_cases he : s.err n = 0
              · rintro e w5 ⟨-, h2⟩
                obtain ⟨rfl, ⟨A5, cT5, C5, cC5, vs5, K5, hR5, hK5⟩, fr5⟩ := h2 he
                have hbw5 : Below w.heap.size w w5 := H4.out.2.1.trans (fr5.below H4.out.2.1.size (fun k hk => H4.out.1.kb k hk))
                have htb5 := H4.out.2.2.2.2.2.2.1.fr fr5 H4.out.2.2.2.2.1
                have hS5 : Sees w5 1 (some ⟨gt, 0, none⟩) t.length (u8s t) := Sees.of_own (own_mk (base := 0) (Nat.zero_le _) htb5 (Nat.le_refl _) (by unfold maxLen; have := H4.out.2.2.2.2.2.1; omega) (by rw [List.size_toArray, length_u8s, Nat.mul_one]) (by rw [List.toList_toArray, List.take_of_length_le (by rw [length_u8s]; omega)]))
                have hcv5 := run_to_string (P := Tryz.prog) (w := w5) Tryz.underlying42 Tryz.underlying5 Tryz.underlying9 n hS5
                rw [← H4.out.2.2.2.2.2.1] at hcv5
                obtain ⟨Y, hY⟩ : ∃ X, X = str t := ⟨_, rfl⟩
                rw [← hY] at hcv5
                have hla5 : w5.ownsRow w.heap.size 9 1 (.slice Al T cl) T (strs s.texts) := own_fr H4.out.2.2.1 fr5 (fun g hg => (HR.out.2.1 g hg).1)
                have hz5 := fr5.size
                have H5 := Lib.hid (And.intro hR5 (And.intro hK5 (And.intro hbw5 (And.intro hla5 (And.intro hY he)))))
                have HRV := Lib.hid hcv5
                clear h2 hR5 hK5 fr5 hbw5 htb5 hS5 hla5 hY c14 HAP hcv5 he
                go_wp2_with first
                  | (have hcv5 := HRV.out; simp only [hcv5])
                  | (at_builtin; refine wpList_app rfl (.tmp 85) (.tmp 88) 28 rfl w.heap.size 9 _ 1 16 Tryz.underlying28 info_string rfl (by decide) (.slice Al T cl) T (strs s.texts) rfl (own_below H5.out.2.2.2.1 ((Below.refl _ _).alloc (Nat.le_refl _) _)) (some ⟨w5.heap.size, 0, none⟩) 1 1 [.string Y] rfl (sees_new w5 9 [.string Y] 1 1 rfl) (by simp [Value.oneCell']) (by unfold maxLen; omega) (by omega) (by have := H5.out.2.2.1.size; simp; omega) ?_; intro v6 w6 o1 o2 o3 o4
                     have f6 : Fr (fun k => (Value.slice Al T cl).ownBlock = some k) w5 w6 := (Fr.alloc w5 _ _).trans (Fr.of_grown o2 (F := fun k => (Value.slice Al T cl).ownBlock = some k) (fun k h => h)) (fun _ _ h => h)
                     obtain ⟨Al2, cl2, rfl⟩ := own_shape o1
                     have hlK := fun g (hg : (Value.slice Al T cl).ownBlock = some g) => HR.out.2.1 g hg
                     have hll := fun g (hg : (Value.slice Al T cl).ownBlock = some g) => (H4.out.2.2.1.lt g hg).2
                     have R6 := H5.out.1.fr' f6 (fun e9 => own_ne H5.out.2.2.2.1 H5.out.1.run (by decide) r e9 rfl) (fun k hk hg => (hlK k hg).1 (H5.out.2.1 k (hll k hg) hk)) (fun k hk hg => (hlK k hg).2 hk)
                     have HH : Hid (∃ s' Al' cl', Value.slice Al2 (T + 1) cl2 = .slice Al' s'.texts.length cl' ∧ LcAt w w6 r s' (j + 1) k Al' cl') := Lib.hid (by
                       have ht2 : (s.append t).texts = s.texts ++ [t] := by show (s.room t.length).texts ++ [t] = _; rw [(room_fix s t.length).2.2.2.2.2.1]
                       have hT2 : T + 1 = (s.append t).texts.length := by rw [ht2, List.length_append, ← HR.out.2.2.2.2.2.1]; rfl
                       have hsr2 := Sr.append HR.out.2.2.2.2.2.2 HR.out.1.kp (t := t) (by rw [← H4.out.2.2.2.2.2.1]; exact H5.out.2.2.2.2.2)
                       refine ⟨s.append t, Al2, cl2, by rw [← hT2], ⟨.inl ⟨hj1k, b, lb, ee, m, bg, cB, A5, cT5, C5, cC5, vs5, K5, D, F, R6, fun g hg => ?_, hsr2⟩, ?_, ?_, by rw [← hT2]; have := HR.out.2.2.2.2.1; omega⟩⟩
                       · rw [← hT2] at hg
                         rcases o3 with e3 | e3
                         · have hg2 : (Value.slice Al T cl).ownBlock = some g := e3.symm.trans hg
                           exact ⟨fun hk => (hlK g hg2).1 (H5.out.2.1 g (hll g hg2) hk), (hlK g hg2).2⟩
                         · have hg2 : (w5.alloc (.cells #[.string Y] 9)).heap.size = g := Option.some.inj (e3.symm.trans hg)
                           have hg3 : w5.heap.size ≤ g := by rw [← hg2]; simp
                           exact ⟨fun hk => by have := H5.out.1.ld.klt g hk; omega, fun hk => by have := H5.out.1.ld.flt g hk; omega⟩
                       · rw [← hT2, ht2]
                         have e2 : strs (s.texts ++ [t]) = strs s.texts ++ [.string Y] := by rw [H5.out.2.2.2.2.1]; simp [strs]
                         rw [e2]
                         exact o1
                       · exact H5.out.2.2.1.trans (f6.below H5.out.2.2.1.size (fun k hk => (H5.out.2.2.2.1.lt k hk).1)))
                     clear o1 o2 o3 o4 f6 hlK hll R6)
                go_roundw
                case rel => exact ⟨j + 1, by omega, by go_num, HH⟩
                case measure => simp [intOf]; omega
              · rintro e w5 ⟨h1, -⟩
                obtain ⟨⟨gq, rfl⟩, hR5, bel5⟩ := h1 he
                have HH : Hid (∃ s' Al' cl', Value.slice Al T cl = .slice Al' s'.texts.length cl' ∧ LcAt w w5 r s' (j + 1) k Al' cl') := Lib.hid (by
                  refine ⟨s, Al, cl, by rw [← HR.out.2.2.2.2.2.1], ⟨.inl ⟨hj1k, b, lb, ee, m, bg, cB, AA, cT, C, cC, vs, Kl, D, F, hR5, ?_, HR.out.2.2.2.2.2.2⟩, ?_, H4.out.2.1.trans (bel5.mono H4.out.2.1.size), ?_⟩⟩
                  · rw [← HR.out.2.2.2.2.2.1]; exact HR.out.2.1
                  · rw [← HR.out.2.2.2.2.2.1]; exact own_below H4.out.2.2.1 bel5
                  · rw [← HR.out.2.2.2.2.2.1]; have := HR.out.2.2.2.2.1; omega)
                clear h1 hR5 bel5 HAP c14
                go_wp2_with fail
                go_roundw
                case rel => exact ⟨j + 1, by omega, by go_num, HH⟩
                case measure => simp [intOf]; omega
        · obtain rfl : j = k := by omega
          have hge : ¬ ((j : Int) < (j : Int)) := by omega
          obtain ⟨b, lb, ee, m, bg, cB, AA, cT, C, cC, vs, Kl, D, F, hR, hLa⟩ : EndL w wr r s Al cl := by
            rcases hL.at_ with h | h
            · omega
            · exact h.2
          obtain ⟨-, hlaid, hbw, hmany⟩ := hL
          obtain ⟨T, hTl⟩ : ∃ T, T = s.texts.length := ⟨_, rfl⟩
          rw [← hTl] at hlaid hLa hmany ⊢
          have hT25 : T ≤ 25 := by omega
          obtain ⟨su, hsu⟩ : ∃ x, x = s.sure := ⟨_, rfl⟩
          have c0 : wr.cell? ⟨r, 0, none⟩ = some (.pointer (some ⟨b, 0, none⟩)) := hR.run.cell 0
          have c1 : wr.cell? ⟨r, 1, none⟩ = some (.pointer (some ⟨lb, 0, none⟩)) := hR.run.cell 1
          have hSU := sure_any hR.ld.log
          rw [← hsu] at hSU
          have HSU := Lib.hid hSU
          have HCR := Lib.hid (crash_any b F D aK lk ck z wr hR.ld.disk hR.dok HK.out.2.2.1 (by unfold maxLen; omega) (by have := hR.que; omega) (HK.out.2.2.2.1.below hbw) (fun h a ha hF => by have := HK.out.2.2.2.2 a ha h; have := hR.fb _ hF; omega))
          have hsub : su ≤ 100000000 := by rw [hsu]; exact hR.sok.sure
          have HR := Lib.hid (And.intro hR (And.intro hLa (And.intro hlaid (And.intro hbw (And.intro hTl hsu)))))
          clear hR hLa hlaid hbw hmany hTl hsu hSU
          go_wp2_with fail
          refine HSU.out.mono ?_
          rintro e w4 ⟨rfl, rfl⟩
          go_wp2_with fail
          refine HCR.out.mono ?_
          rintro e w5 ⟨rfl, hD5⟩
          obtain ⟨F5, l5, fr5, hF5⟩ := HR.out.1.ld.move hD5
          obtain ⟨D1, hD1⟩ : ∃ D1, D1 = D.crashed z := ⟨_, rfl⟩
          rw [← hD1] at l5
          have hz5 := fr5.size
          have run5 := HR.out.1.run.fr fr5 HR.out.1.fr
          have c05 : w5.cell? ⟨r, 0, none⟩ = some (.pointer (some ⟨b, 0, none⟩)) := run5.cell 0
          have bel5 : Below w.heap.size w w5 := HR.out.2.2.2.1.trans (fr5.below HR.out.2.2.2.1.size (fun k hk => HR.out.1.fb k hk))
          have la5 := own_fr HR.out.2.2.1 fr5 (fun g hg => (HR.out.2.1 g hg).2)
          have hF5b : ∀ k, F5 k → w.heap.size ≤ k := fun k hk => by
            by_cases hkl : k < wr.heap.size
            · exact HR.out.1.fb k (hF5 k hkl hk)
            · have := HR.out.2.2.2.1.size; omega
          have hrF : ¬ F5 r := fun hk => HR.out.1.fr (hF5 r HR.out.1.run.lt hk)
          have hlF : ∀ g, (Value.slice Al T cl).ownBlock = some g → ¬ F5 g := fun g hg hk => (HR.out.2.1 g hg).2 (hF5 g (HR.out.2.2.1.lt g hg).2 hk)
          have hok1 : D1.Ok := by rw [hD1]; exact HR.out.1.dok.crashed z
          have hc1 : D1.calls = -1 := by rw [hD1]; rfl
          have hq1 : D1.queue = [] := by rw [hD1]; rfl
          have hfit1 : (1 + 3 * 4) * 128 ≤ D1.safe.length := by rw [hD1]; show _ ≤ (crashS D z).1.length; rw [crash_length D HR.out.1.dok z]; exact HR.out.1.fit
          have HIM := Lib.hid (image_any b F5 D1 w5 l5.disk hok1 (by rw [hq1]; exact Nat.zero_le _))
          obtain ⟨mm, hmm⟩ : ∃ mm, D1.image.length = mm * 128 := by
            obtain ⟨x, hx⟩ := hok1.whole
            exact ⟨x, by rw [hok1.image, hx]; omega⟩
          have hmm7 : mm ≤ 70000 := by have := hok1.most; rw [← hok1.image, hmm] at this; omega
          have hmm13 : 13 ≤ mm := by rw [← hok1.image, hmm] at hfit1; omega
          have HLO := fun W => rload_any D1.image mm W hmm hmm7
          obtain ⟨X1, hX1⟩ : ∃ X, X = D1.piece 1 (3 * 4) := ⟨_, rfl⟩
          have hX1l : X1.length = 3 * 4 * 128 := by
            rw [hX1, Dk.piece, List.length_take, List.length_drop, hmm]
            omega
          have hS8 : ∀ s ∈ (List.range mm).map (sect D1.image), s.length = 128 := fun q hq => by
            obtain ⟨i, hi, rfl⟩ := List.mem_map.1 hq
            have := List.mem_range.1 hi
            exact length_sect _ _ (by rw [hmm]; omega)
          have hXS : X1 = ((((List.range mm).map (sect D1.image)).drop 1).take (3 * 4)).flatten := by
            rw [hX1]
            unfold Dk.piece
            rw [← List.map_drop, ← List.map_take]
            have hr : ((List.range mm).drop 1).take (3 * 4) = (List.range (3 * 4)).map (· + 1) := by
              apply List.ext_getElem?
              intro i
              rw [List.getElem?_take, List.getElem?_drop, List.getElem?_map]
              by_cases hi : i < 3 * 4
              · rw [if_pos hi, List.getElem?_range (by omega), List.getElem?_range hi]
                simp; omega
              · rw [if_neg hi, List.getElem?_eq_none (by rw [List.length_range]; omega)]
                rfl
            rw [hr, List.map_map]
            have hfl : ∀ n, 1 + n ≤ mm → ((List.range n).map (sect D1.image ∘ (· + 1))).flatten = (D1.image.drop (1 * 128)).take (n * 128) := by
              intro n
              induction n with
              | zero => intro _; simp
              | succ n ih =>
                intro hn
                rw [List.range_succ, List.map_append, List.flatten_append, ih (by omega)]
                rw [show (n + 1) * 128 = n * 128 + 128 by omega, List.take_add]
                congr 1
                simp only [List.map_cons, List.map_nil, List.flatten_cons, List.flatten_nil, List.append_nil, Function.comp]
                unfold sect
                rw [List.drop_drop]
                congr 2
                omega
            rw [hfl (3 * 4) (by omega)]
          obtain ⟨s8, hs8⟩ : ∃ s8, s8 = Lg.opened 3 4 X1 := ⟨_, rfl⟩
          have hf8 := opened_fine (segs := 3) (size := 4) (X := X1) (by omega) (by omega) hX1l
          rw [← hs8] at hf8
          have hsure : su ≤ s8.texts.length := by
            have htorn := HR.out.1.torn z
            rw [← hD1, ← hX1] at htorn
            have := HR.out.1.sr.told HR.out.1.sok (X := X1) (by rw [hX1l]; unfold Lg.all Lg.n; rw [HR.out.1.segs, HR.out.1.size]) htorn
            rw [HR.out.1.segs, HR.out.1.size, ← hs8, ← HR.out.2.2.2.2.2] at this
            exact this
          obtain ⟨T8, hT8⟩ : ∃ x, x = s8.texts.length := ⟨_, rfl⟩
          have hT8b : T8 ≤ 100000 := by rw [hT8]; exact hf8.2
          rw [← hT8] at hsure
          have HOP : Hid (∀ (W : World), LD W lb b 1 s bg cB AA cT C cC vs Kl D1 F5 → Below w.heap.size w W → Calls Tryz.prog 16 #[.pointer (some ⟨b, 0, none⟩), .int .i64 1, .int .i64 3, .int .i64 4] W fun e w' => ∃ lb, e = .returned (.tuple #[.pointer (some ⟨lb, 0, none⟩), Value.nilIface]) ∧ ∃ bg cB A cT C cC vs K' F', LD w' lb b 1 s8 bg cB A cT C cC vs K' (D1.opened 1 3 4) F' ∧ Fr F5 W w' ∧ (∀ k, k < W.heap.size → F' k → F5 k) ∧ (∀ k, K' k → W.heap.size ≤ k) ∧ s8.Ok) := Lib.hid (by
            intro W hW hbW
            have := open_log b 1 3 4 D1 F5 W hW.disk hW.flt hok1 hc1 hq1 (by decide) (by decide) (by decide) hfit1 (HT.out.below hbW) (fun k hk => HBT.out k (hF5b k hk))
            rw [← hX1, ← hs8] at this
            exact this)
          have hod := opened_disk (D := D1) (f := 1) (segs := 3) (size := 4) hok1 hc1 hq1 (by decide) (by decide) hfit1
          obtain ⟨D2, hD2⟩ : ∃ D2, D2 = D1.opened 1 3 4 := ⟨_, rfl⟩
          rw [← hD2] at HOP hod
          have hag := opened_again (segs := 3) (size := 4) (X := X1) (by decide) (by decide) hX1l
          rw [← hX1, ← hs8] at hod
          rw [← hs8] at hag
          have hp3 : (D2.crashed []).piece 1 (3 * 4) = s8.B := by
            rw [← hod.2.2.2.2]
            unfold Dk.piece
            rw [image_idle hod.2.2.1]
            rfl
          obtain ⟨s12, hs12⟩ : ∃ s12, s12 = Lg.opened 3 4 s8.B := ⟨_, rfl⟩
          rw [← hs12] at hag
          have HOP2 : Hid (∀ (W : World) (F11 : Nat → Prop), DiskAt W b F11 (D2.crashed []) → (∀ k, F11 k → k < W.heap.size) → (∀ k, F11 k → w.heap.size ≤ k) → Below w.heap.size w W → Calls Tryz.prog 16 #[.pointer (some ⟨b, 0, none⟩), .int .i64 1, .int .i64 3, .int .i64 4] W fun e w' => ∃ lb, e = .returned (.tuple #[.pointer (some ⟨lb, 0, none⟩), Value.nilIface]) ∧ ∃ bg cB A cT C cC vs K' F', LD w' lb b 1 s12 bg cB A cT C cC vs K' ((D2.crashed []).opened 1 3 4) F' ∧ Fr F11 W w' ∧ (∀ k, k < W.heap.size → F' k → F11 k) ∧ (∀ k, K' k → W.heap.size ≤ k) ∧ s12.Ok) := Lib.hid (by
            intro W F11 hW hlt hFb hbW
            have := open_log b 1 3 4 (D2.crashed []) F11 W hW hlt (hod.1.crashed []) rfl rfl (by decide) (by decide) (by decide) (by show _ ≤ D2.safe.length; rw [hod.2.2.2.1]; exact hfit1) (HT.out.below hbW) (fun k hk => HBT.out k (hFb k hk))
            rw [hp3, ← hs12] at this
            exact this)
          have HRO : Hid (∀ (W : World) (d base : Nat) (A : Option Addr) (cA : Nat), RD W base d ((List.range mm).map (sect D1.image)) [] [] A cA none 0 none 0 → base ≤ W.heap.size → Calls Tryz.prog 21 #[.pointer (some ⟨d, 0, none⟩), .int .i64 1, .int .i64 3, .int .i64 4] W fun e w' => ∃ lb A c, e = .returned (.tuple #[.pointer (some ⟨lb, 0, none⟩), .int .i64 0]) ∧ w'.cell? ⟨lb, 8, none⟩ = some (.slice A T8 c) ∧ w'.ownsRow W.heap.size 9 1 (.slice A T8 c) T8 (strs s8.texts) ∧ Below base W w' ∧ Fr (fun k => k = d) W w') := Lib.hid (by
            intro W d base A cA hRD hb
            have htx : (Lg.told 3 4 X1).texts = s8.texts := by rw [hs8, opened_texts]
            have hki := Lg.init_ok (segs := 3) (size := 4) (X := X1) (by decide) (by decide) hX1l
            have htk : (Lg.told 3 4 X1).Ok := told_ok (by decide) (by decide) hX1l
            refine (ropen_any base d 1 3 4 _ A none none cA 0 0 W hRD hb (by simp; omega) hS8 (by decide) (by decide) (by simp; omega) X1 hXS _ rfl htk ?_).mono ?_
            · intro W1 lb hlb hB
              exact rtold_any lb d 1 3 4 X1 W1 hB (by decide) (by decide) hX1l (by decide)
            · rintro e w' ⟨lb, A', c', rfl, -, hblk, hown, bel, frd⟩
              rw [htx, ← hT8] at hblk hown
              exact ⟨lb, A', c', rfl, hblk.cell 8, hown, bel, frd⟩)
          obtain ⟨IM, hIM⟩ : ∃ x, x = str D1.image := ⟨_, rfl⟩
          rw [← hIM] at HLO
          replace HLO := Lib.hid HLO
          have H5 := Lib.hid (And.intro l5 (And.intro run5 (And.intro la5 (And.intro bel5 (And.intro hF5b (And.intro hrF (And.intro hlF fr5)))))))
          have HS8 := Lib.hid (And.intro hf8 (And.intro hT8 (And.intro hag (And.intro hod hIM))))
          clear hD5 l5 fr5 hF5 run5 bel5 la5 hF5b hrF hlF hok1 hc1 hq1 hfit1 hX1 hX1l hS8 hXS hs8 hf8 hT8 hod hag hp3 hs12 hD2 hIM hD1 hmm hmm7 hmm13 HCR HSU c0 c1
          go_wp2_with fail
          refine HIM.out.mono ?_
          rintro e w6 ⟨⟨v6, rfl, own6⟩, bel6⟩
          obtain ⟨A6, c6, rfl⟩ := own_shape own6
          have hcv6 := run_to_string (P := Tryz.prog) (w := w6) Tryz.underlying42 Tryz.underlying5 Tryz.underlying9 c6 (Sees.of_own own6)
          rw [← HS8.out.2.2.2.2] at hcv6
          have H6 := Lib.hid bel6
          clear own6 bel6 HIM c05
          go_wp2_with (simp only [hcv6])
          refine (HLO.out w6).mono ?_
          rintro e w7 ⟨rfl, ⟨AS, cS, rd7⟩, bel7⟩
          clear hcv6
          have bel57 : Below w5.heap.size w5 w7 := H6.out.trans (bel7.mono H6.out.size)
          have hz67 := H6.out.size
          have hz77 := bel7.size
          have bel7w : Below w.heap.size w w7 := H5.out.2.2.2.1.trans (bel57.mono H5.out.2.2.2.1.size)
          have run7 := H5.out.2.1.below bel57 H5.out.2.1.lt
          have c07 : w7.cell? ⟨r, 0, none⟩ = some (.pointer (some ⟨b, 0, none⟩)) := run7.cell 0
          have HOQ := Lib.hid (HOP.out w7 (H5.out.1.below bel57) bel7w)
          have H7 := Lib.hid (And.intro rd7 (And.intro bel57 (And.intro bel7w run7)))
          clear rd7 bel7 bel57 bel7w run7 HLO HOP
          go_wp2_with fail
          refine HOQ.out.mono ?_
          rintro e w8 ⟨lb2, rfl, bg8, cB8, A8, cT8, C8, cC8, vs8, K8, F8, l8, fr8, hF8, hK8, ok8⟩
          have hz8 := fr8.size
          have bel8w : Below w.heap.size w w8 := H7.out.2.2.1.trans (fr8.below H7.out.2.2.1.size H5.out.2.2.2.2.1)
          have hTXL := texts_log l8.log ok8 HS8.out.1.1
          rw [← HS8.out.2.1] at hTXL
          have HTX := Lib.hid hTXL
          have H8 := Lib.hid (And.intro l8 (And.intro fr8 (And.intro hF8 (And.intro hK8 (And.intro ok8 bel8w)))))
          clear l8 fr8 hF8 hK8 ok8 bel8w hTXL HOQ c07
          go_wp2_with fail
          refine HTX.out.mono ?_
          rintro e w9 ⟨B9, c9, rfl, own9, bel9⟩
          obtain ⟨ps9, hl9, hm9, hr9, hp9⟩ := own9.use
          have hDX := texts_any ps9 B9 T8 c9 w9 (by rw [hl9]; exact HS8.out.2.1.symm) (by omega) hr9 hp9
          rw [hm9] at hDX
          have HDX := Lib.hid hDX
          have H9 := Lib.hid bel9
          clear own9 hl9 hm9 hr9 hp9 hDX bel9 HTX
          go_wp2_with fail
          refine HDX.out.mono ?_
          rintro e w10 ⟨v10, rfl, own10, bel10⟩
          obtain ⟨A10, c10, rfl⟩ := own_shape own10
          have hz9 := H9.out.size
          have hz10 := bel10.size
          have bel810 : Below w8.heap.size w8 w10 := H9.out.trans (bel10.mono hz9)
          have l10 := H8.out.1.below bel810
          have hF8b : ∀ k, F8 k → w.heap.size ≤ k := fun k hk => by
            by_cases hkl : k < w7.heap.size
            · exact H5.out.2.2.2.2.1 k (H8.out.2.2.1 k hkl hk)
            · have := H7.out.2.2.1.size; omega
          have run10 := (H7.out.2.2.2.fr H8.out.2.1 H5.out.2.2.2.2.2.1).below bel810 (Nat.lt_of_lt_of_le H7.out.2.2.2.lt hz8)
          have hrF8 : ¬ F8 r := fun hk => H5.out.2.2.2.2.2.1 (H8.out.2.2.1 r H7.out.2.2.2.lt hk)
          have c010 : w10.cell? ⟨r, 0, none⟩ = some (.pointer (some ⟨b, 0, none⟩)) := run10.cell 0
          have bel10w : Below w.heap.size w w10 := H8.out.2.2.2.2.2.trans (bel810.mono H8.out.2.2.2.2.2.size)
          have HCR2 := Lib.hid (crash_any b F8 D2 none 0 0 [] w10 l10.disk HS8.out.2.2.2.1.1 rfl (Nat.zero_le _) (by rw [HS8.out.2.2.2.1.2.2.1]; exact Nat.zero_le _) (Sees.none_ _ _ _) (fun h => absurd h (by decide)))
          have H10 := Lib.hid (And.intro l10 (And.intro own10 (And.intro hF8b (And.intro run10 (And.intro hrF8 (And.intro bel10w bel810))))))
          clear l10 own10 hF8b run10 hrF8 bel10w bel10 bel810 HDX
          go_wp2_with fail
          refine HCR2.out.mono ?_
          rintro e w11 ⟨rfl, hD11⟩
          obtain ⟨F11, l11, fr11, hF11⟩ := H10.out.1.move hD11
          have hz11 := fr11.size
          have hF11b : ∀ k, F11 k → w.heap.size ≤ k := fun k hk => by
            by_cases hkl : k < w10.heap.size
            · exact H10.out.2.2.1 k (hF11 k hkl hk)
            · have := H10.out.2.2.2.2.2.1.size; omega
          have run11 := H10.out.2.2.2.1.fr fr11 H10.out.2.2.2.2.1
          have c011 : w11.cell? ⟨r, 0, none⟩ = some (.pointer (some ⟨b, 0, none⟩)) := run11.cell 0
          have bel11w : Below w.heap.size w w11 := H10.out.2.2.2.2.2.1.trans (fr11.below H10.out.2.2.2.2.2.1.size H10.out.2.2.1)
          have HOR := Lib.hid (HOP2.out w11 F11 l11.disk l11.flt hF11b bel11w)
          have H11 := Lib.hid (And.intro fr11 (And.intro hF11 (And.intro hF11b bel11w)))
          clear hD11 l11 fr11 hF11 hF11b run11 bel11w HCR2 HOP2 c010
          go_wp2_with fail
          refine HOR.out.mono ?_
          rintro e w12 ⟨lb3, rfl, bg12, cB12, A12, cT12, C12, cC12, vs12, K12, F12, l12, fr12, -, -, ok12⟩
          have hz12 := fr12.size
          have bel12w : Below w.heap.size w w12 := H11.out.2.2.2.trans (fr12.below H11.out.2.2.2.size H11.out.2.2.1)
          have frA : Fr F5 w7 w12 := by
            have q1 : Fr F5 w7 w10 := H8.out.2.1.trans (Fr.of_below H10.out.2.2.2.2.2.2 F5) (fun _ _ h => h)
            have q2 : Fr F5 w7 w11 := q1.trans H11.out.1 (fun k hk h => H8.out.2.2.1 k hk h)
            exact q2.trans fr12 (fun k hk h => H8.out.2.2.1 k hk (H11.out.2.1 k (by omega) h))
          have frB : Fr F8 w8 w12 := by
            have q2 : Fr F8 w8 w11 := (Fr.of_below H10.out.2.2.2.2.2.2 F8).trans H11.out.1 (fun _ _ h => h)
            exact q2.trans fr12 (fun k hk h => H11.out.2.1 k (by omega) h)
          have frC : Fr F8 w10 w12 := H11.out.1.trans fr12 (fun k hk h => H11.out.2.1 k hk h)
          have la12 := own_fr (own_below H5.out.2.2.1 H7.out.2.1) frA H5.out.2.2.2.2.2.2.1
          have rd12 := H7.out.1.lift frA (fun k hk _ hF => by have := H5.out.1.flt k hF; omega)
          have old12 := H8.out.1.log.fr frB (fun k hk hf => H8.out.1.apart k hf hk)
          have got12 := own_fr H10.out.2.1 frC (fun g hg hf => by have h1 := (H10.out.2.1.lt g hg).1; have h2 := H8.out.1.flt g hf; omega)
          have fine12 : Fine s12.texts := by rw [HS8.out.2.2.1.1]; exact HS8.out.1.1
          have hdr : Below w12.heap.size w12 w12.drew := (Below.refl _ _).drew
          have H12 := Lib.hid (And.intro (l12.log.below hdr) (And.intro (old12.below hdr) (And.intro (own_below la12 hdr) (And.intro bel12w.drew (And.intro ok12 (And.intro H8.out.2.2.2.2.1 (And.intro fine12 (And.intro (rd12.below hdr) (own_below got12 hdr)))))))))
          have hgb : w9.heap.size ≤ w12.drew.heap.size := by show w9.heap.size ≤ w12.heap.size; omega
          have hdb : w6.heap.size ≤ w12.drew.heap.size := by show w6.heap.size ≤ w12.heap.size; omega
          clear l12 fr12 ok12 frA frB frC la12 rd12 old12 got12 fine12 bel12w hdr HOR c011
          obtain ⟨XC, hXC⟩ : ∃ X, X = str s12.chain := ⟨_, rfl⟩
          have hXO : XC = str s8.chain := by rw [hXC, HS8.out.2.2.1.2]
          have hTXN := texts_log H12.out.1 H12.out.2.2.2.2.1 H12.out.2.2.2.2.2.2.1
          rw [HS8.out.2.2.1.1, ← HS8.out.2.1] at hTXN
          have HTXN := Lib.hid hTXN
          clear hTXN
          go_wp2_with fail
          refine wp_mid8 ?F (fun _ _ _ _ _ _ _ _ W => Below w12.drew.heap.size w12.drew W) ?reg ?go
          case reg =>
            refine region_tree (.read 0 (.read 1 (.read 2 (.read 3 (.read 4 (.read 5 (.read 6 (.read 7 (.read 10 (.one 8 (.one 9 (.one 11 (.read 12 (.read 13 (.read 14 (.read 15 (.read 18 (.one 16 (.two 17 (.one 19 (.one 20 (.read 21 (.read 22 .leaf)))) 19 (.two 17 (.one 20 (.read 21 (.read 22 .leaf))) 20 (.one 17 (.read 21 (.read 22 .leaf))))))))))))))))))))))) [8, 9, 10, 16, 17, 18] 460544 [(348449143727040986586495598010130648530944, 65536, 0, 0), (696898287454081973172991196020261297061888, 348449143727040986586495598010130648530944, 1, 1), (1393796574908163946345982392040522594123776, 696898287454081973172991196020261297061888, 2, 3), (2787593149816327892691964784081045188247552, 1393796574908163946345982392040522594140160, 4, 7), (5575186299632655785383929568162090376495104, 4181389724724491839037947176121567782371328, 12, 15), (11150372599265311570767859136324180752990208, 6968982874540819731729911960202612970618880, 20, 31), (22300745198530623141535718272648361505980416, 11150372599265311570767859136324180752990208, 36, 63), (44601490397061246283071436545296723011960832, 22300745198530623141535718272648361506045952, 64, 127), (89202980794122492566142873090593446023921664, 66902235595591869424607154817945084517941248, 192, 255), (178405961588244985132285746181186892047843328, 111503725992653115707678591363241807529902080, 320, 511), (356811923176489970264571492362373784095686656, 22300745198530623141535718272648361506013184, 64, 127), (713623846352979940529142984724747568191373312, 557518629963265578538392956816209037649510400, 1600, 2047), (1427247692705959881058285969449495136382746624, 735924591551510563670678702997395929697353728, 2112, 4095), (2854495385411919762116571938898990272765493248, 1449548437904490504199821687722143497888727040, 4160, 8191), (5708990770823839524233143877797980545530986496, 2854495385411919762116571938898990272765493248, 10240, 16383), (11417981541647679048466287755595961091061972992, 5708990770823839524233143877797980545531052032, 16384, 32767), (22835963083295358096932575511191922182123945984, 17126972312471518572699431633393941636592959488, 49152, 65535), (45671926166590716193865151022383844364247891968, 28544953854119197621165719388989902727654932480, 81920, 131071), (91343852333181432387730302044767688728495783936, 5708990770823839524233143877797980545530994688, 16384, 32767), (182687704666362864775460604089535377456991567872, 97052843104005271911963445922565669274026770432, 344064, 393215), (365375409332725729550921208179070754913983135744, 188396695437186704299693747967333358002522554368, 540672, 917503), (730750818665451459101842416358141509827966271488, 416756326270140285269019503079252579823762014208, 1196032, 2097151), (1461501637330902918203684832716283019655932542976, 736459809436275298626075560235939490373497257984, 2113536, 4194303)] (fun W => Below w12.drew.heap.size w12.drew W) (by kernel_rfl) (by kernel_rfl) (by kernel_rfl) rfl (by kernel_rfl) (by kernel_rfl) (Below.refl _ _) (fun hS => ?_)
            repeat (first
              | (refine tree_read (v := ?_) rfl (fun _ _ _ h => by first | exact h | cases h.1) rfl hS ?_ ?_; rotate_left 1; (focus (intro w' hS'; go_simp; try rfl)); (simp only [Act.put, List.setIfInBounds_toArray]; dsimp only [List.set_cons_zero, List.set_cons_succ]))
              | (refine tree_skip rfl (fun _ _ _ h => by first | exact h | cases h.1) rfl hS ?_; (simp only [Act.put, List.setIfInBounds_toArray]; dsimp only [List.set_cons_zero, List.set_cons_succ])))
            refine tree_do (by rfl) (by rfl) (fun K hK => ?_)
            go_simp
            refine HTXN.out.mono ?_
            rintro e w13 ⟨B13, c13, rfl, own13, bel13⟩
            obtain ⟨ps13, hl13, hm13, hr13, hp13⟩ := own13.use
            refine hK.out _ _ (fun _ => bel13) (fun hS => ?_); clear hK K; replace hS := hS rfl; try (simp only [Act.put, List.setIfInBounds_toArray]; dsimp only [List.set_cons_zero, List.set_cons_succ])
            repeat (first
              | (refine tree_read (v := ?_) rfl (fun _ _ _ h => by first | exact h | cases h.1) rfl hS ?_ ?_; rotate_left 1; (focus (intro w' hS'; go_simp; try rfl)); (simp only [Act.put, List.setIfInBounds_toArray]; dsimp only [List.set_cons_zero, List.set_cons_succ]))
              | (refine tree_skip rfl (fun _ _ _ h => by first | exact h | cases h.1) rfl hS ?_; (simp only [Act.put, List.setIfInBounds_toArray]; dsimp only [List.set_cons_zero, List.set_cons_succ])))
            have hDX := texts_any ps13 B13 T8 c13 w13 (by rw [hl13]; exact HS8.out.2.1.symm) (by omega) hr13 hp13
            rw [hm13] at hDX
            refine tree_do (by rfl) (by rfl) (fun K hK => ?_)
            go_simp
            refine hDX.mono ?_
            rintro e w14 ⟨v13, rfl, own14, bel14⟩
            obtain ⟨A14, c14, rfl⟩ := own_shape own14
            refine hK.out _ _ (fun _ => hS.trans (bel14.mono hS.size)) (fun hS => ?_); clear hK K; replace hS := hS rfl; try (simp only [Act.put, List.setIfInBounds_toArray]; dsimp only [List.set_cons_zero, List.set_cons_succ])
            repeat (first
              | (refine tree_read (v := ?_) rfl (fun _ _ _ h => by first | exact h | cases h.1) rfl hS ?_ ?_; rotate_left 1; (focus (intro w' hS'; go_simp; try rfl)); (simp only [Act.put, List.setIfInBounds_toArray]; dsimp only [List.set_cons_zero, List.set_cons_succ]))
              | (refine tree_skip rfl (fun _ _ _ h => by first | exact h | cases h.1) rfl hS ?_; (simp only [Act.put, List.setIfInBounds_toArray]; dsimp only [List.set_cons_zero, List.set_cons_succ])))
            have HSM := same_eq s8.texts A14 A10 T8 c14 c10 w14 HS8.out.2.1.symm (by omega) (Sees.of_own own14) (Sees.of_own (own_below H12.out.2.2.2.2.2.2.2.2 hS))
            refine tree_do (by rfl) (by rfl) (fun K hK => ?_)
            go_simp
            refine HSM.mono ?_
            rintro e w15 ⟨rfl, bel15⟩
            have hS := hS.trans (bel15.mono hS.size)
            refine hK.out _ _ (fun h => by cases h) (fun _ => ?_); clear hK K; try (simp only [Act.put, List.setIfInBounds_toArray]; dsimp only [List.set_cons_zero, List.set_cons_succ])
            repeat (first
              | (refine tree_read (v := ?_) rfl (fun _ _ _ h => by first | exact h | cases h.1) rfl hS ?_ ?_; rotate_left 1; (focus (intro w' hS'; go_simp; try rfl)); (simp only [Act.put, List.setIfInBounds_toArray]; dsimp only [List.set_cons_zero, List.set_cons_succ]))
              | (refine tree_skip rfl (fun _ _ _ h => by first | exact h | cases h.1) rfl hS ?_; (simp only [Act.put, List.setIfInBounds_toArray]; dsimp only [List.set_cons_zero, List.set_cons_succ])))
            refine tree_do (by rfl) (by rfl) (fun K hK => ?_)
            go_simp
            refine (chain_log (H12.out.1.below hS) H12.out.2.2.2.2.1.chain).mono ?_
            rintro e w16 ⟨v16, rfl, own16, bel16⟩
            obtain ⟨A16, c16, rfl⟩ := own_shape own16
            refine hK.out _ _ (fun _ => hS.trans (bel16.mono hS.size)) (fun hS => ?_); clear hK K; replace hS := hS rfl; try (simp only [Act.put, List.setIfInBounds_toArray]; dsimp only [List.set_cons_zero, List.set_cons_succ])
            repeat (first
              | (refine tree_read (v := ?_) rfl (fun _ _ _ h => by first | exact h | cases h.1) rfl hS ?_ ?_; rotate_left 1; (focus (intro w' hS'; go_simp; try rfl)); (simp only [Act.put, List.setIfInBounds_toArray]; dsimp only [List.set_cons_zero, List.set_cons_succ]))
              | (refine tree_skip rfl (fun _ _ _ h => by first | exact h | cases h.1) rfl hS ?_; (simp only [Act.put, List.setIfInBounds_toArray]; dsimp only [List.set_cons_zero, List.set_cons_succ])))
            refine tree_two ?_ ?_
            · skip
              have hcv := run_to_string (P := Tryz.prog) (w := w16) Tryz.underlying42 Tryz.underlying5 Tryz.underlying9 c16 (Sees.of_own own16)
              rw [← hXC] at hcv
              refine tree_do (by rfl) (by rfl) (fun K hK => ?_)
              go_simp
              clear hcv
              refine hK.out _ _ (fun _ => hS) (fun hS => ?_); clear hK K; replace hS := hS rfl; try (simp only [Act.put, List.setIfInBounds_toArray]; dsimp only [List.set_cons_zero, List.set_cons_succ])
              repeat (first
                | (refine tree_read (v := ?_) rfl (fun _ _ _ h => by first | exact h | cases h.1) rfl hS ?_ ?_; rotate_left 1; (focus (intro w' hS'; go_simp; try rfl)); (simp only [Act.put, List.setIfInBounds_toArray]; dsimp only [List.set_cons_zero, List.set_cons_succ]))
                | (refine tree_skip rfl (fun _ _ _ h => by first | exact h | cases h.1) rfl hS ?_; (simp only [Act.put, List.setIfInBounds_toArray]; dsimp only [List.set_cons_zero, List.set_cons_succ])))
              refine tree_do (by rfl) (by rfl) (fun K hK => ?_)
              go_simp
              refine (chain_log (H12.out.2.1.below hS) H12.out.2.2.2.2.2.1.chain).mono ?_
              rintro e w17 ⟨v17, rfl, own17, bel17⟩
              obtain ⟨A17, c17, rfl⟩ := own_shape own17
              have own16b := own_below own16 bel17
              have hS := hS.trans (bel17.mono hS.size)
              refine hK.out _ _ (fun h => by cases h) (fun _ => ?_); clear hK K; try (simp only [Act.put, List.setIfInBounds_toArray]; dsimp only [List.set_cons_zero, List.set_cons_succ])
              repeat (first
                | (refine tree_read (v := ?_) rfl (fun _ _ _ h => by first | exact h | cases h.1) rfl hS ?_ ?_; rotate_left 1; (focus (intro w' hS'; go_simp; try rfl)); (simp only [Act.put, List.setIfInBounds_toArray]; dsimp only [List.set_cons_zero, List.set_cons_succ]))
                | (refine tree_skip rfl (fun _ _ _ h => by first | exact h | cases h.1) rfl hS ?_; (simp only [Act.put, List.setIfInBounds_toArray]; dsimp only [List.set_cons_zero, List.set_cons_succ])))
              have hcv := run_to_string (P := Tryz.prog) (w := w17) Tryz.underlying42 Tryz.underlying5 Tryz.underlying9 c17 (Sees.of_own own17)
              rw [← hXO] at hcv
              refine tree_do (by rfl) (by rfl) (fun K hK => ?_)
              go_simp
              clear hcv
              refine hK.out _ _ (fun h => by cases h) (fun _ => ?_); clear hK K; try (simp only [Act.put, List.setIfInBounds_toArray]; dsimp only [List.set_cons_zero, List.set_cons_succ])
              repeat (first
                | (refine tree_read (v := ?_) rfl (fun _ _ _ h => by first | exact h | cases h.1) rfl hS ?_ ?_; rotate_left 1; (focus (intro w' hS'; go_simp; try rfl)); (simp only [Act.put, List.setIfInBounds_toArray]; dsimp only [List.set_cons_zero, List.set_cons_succ]))
                | (refine tree_skip rfl (fun _ _ _ h => by first | exact h | cases h.1) rfl hS ?_; (simp only [Act.put, List.setIfInBounds_toArray]; dsimp only [List.set_cons_zero, List.set_cons_succ])))
              refine tree_leaf ?_
              refine ⟨rfl, B13, c13, A14, c14, A16, c16, A17, c17, ?_, hS⟩
              rfl
            · skip
              refine tree_do (by rfl) (by rfl) (fun K hK => ?_)
              go_simp
              refine (chain_log (H12.out.2.1.below hS) H12.out.2.2.2.2.2.1.chain).mono ?_
              rintro e w17 ⟨v17, rfl, own17, bel17⟩
              obtain ⟨A17, c17, rfl⟩ := own_shape own17
              have own16b := own_below own16 bel17
              have hS := hS.trans (bel17.mono hS.size)
              refine hK.out _ _ (fun h => by cases h) (fun _ => ?_); clear hK K; try (simp only [Act.put, List.setIfInBounds_toArray]; dsimp only [List.set_cons_zero, List.set_cons_succ])
              repeat (first
                | (refine tree_read (v := ?_) rfl (fun _ _ _ h => by first | exact h | cases h.1) rfl hS ?_ ?_; rotate_left 1; (focus (intro w' hS'; go_simp; try rfl)); (simp only [Act.put, List.setIfInBounds_toArray]; dsimp only [List.set_cons_zero, List.set_cons_succ]))
                | (refine tree_skip rfl (fun _ _ _ h => by first | exact h | cases h.1) rfl hS ?_; (simp only [Act.put, List.setIfInBounds_toArray]; dsimp only [List.set_cons_zero, List.set_cons_succ])))
              refine tree_two ?_ ?_
              · skip
                have hcv := run_to_string (P := Tryz.prog) (w := w17) Tryz.underlying42 Tryz.underlying5 Tryz.underlying9 c16 (Sees.of_own own16b)
                rw [← hXC] at hcv
                refine tree_do (by rfl) (by rfl) (fun K hK => ?_)
                go_simp
                clear hcv
                refine hK.out _ _ (fun _ => hS) (fun hS => ?_); clear hK K; replace hS := hS rfl; try (simp only [Act.put, List.setIfInBounds_toArray]; dsimp only [List.set_cons_zero, List.set_cons_succ])
                repeat (first
                  | (refine tree_read (v := ?_) rfl (fun _ _ _ h => by first | exact h | cases h.1) rfl hS ?_ ?_; rotate_left 1; (focus (intro w' hS'; go_simp; try rfl)); (simp only [Act.put, List.setIfInBounds_toArray]; dsimp only [List.set_cons_zero, List.set_cons_succ]))
                  | (refine tree_skip rfl (fun _ _ _ h => by first | exact h | cases h.1) rfl hS ?_; (simp only [Act.put, List.setIfInBounds_toArray]; dsimp only [List.set_cons_zero, List.set_cons_succ])))
                have hcv := run_to_string (P := Tryz.prog) (w := w17) Tryz.underlying42 Tryz.underlying5 Tryz.underlying9 c17 (Sees.of_own own17)
                rw [← hXO] at hcv
                refine tree_do (by rfl) (by rfl) (fun K hK => ?_)
                go_simp
                clear hcv
                refine hK.out _ _ (fun h => by cases h) (fun _ => ?_); clear hK K; try (simp only [Act.put, List.setIfInBounds_toArray]; dsimp only [List.set_cons_zero, List.set_cons_succ])
                repeat (first
                  | (refine tree_read (v := ?_) rfl (fun _ _ _ h => by first | exact h | cases h.1) rfl hS ?_ ?_; rotate_left 1; (focus (intro w' hS'; go_simp; try rfl)); (simp only [Act.put, List.setIfInBounds_toArray]; dsimp only [List.set_cons_zero, List.set_cons_succ]))
                  | (refine tree_skip rfl (fun _ _ _ h => by first | exact h | cases h.1) rfl hS ?_; (simp only [Act.put, List.setIfInBounds_toArray]; dsimp only [List.set_cons_zero, List.set_cons_succ])))
                refine tree_leaf ?_
                refine ⟨rfl, B13, c13, A14, c14, A16, c16, A17, c17, ?_, hS⟩
                rfl
              · skip
                have hcv := run_to_string (P := Tryz.prog) (w := w17) Tryz.underlying42 Tryz.underlying5 Tryz.underlying9 c17 (Sees.of_own own17)
                rw [← hXO] at hcv
                refine tree_do (by rfl) (by rfl) (fun K hK => ?_)
                go_simp
                clear hcv
                refine hK.out _ _ (fun h => by cases h) (fun _ => ?_); clear hK K; try (simp only [Act.put, List.setIfInBounds_toArray]; dsimp only [List.set_cons_zero, List.set_cons_succ])
                repeat (first
                  | (refine tree_read (v := ?_) rfl (fun _ _ _ h => by first | exact h | cases h.1) rfl hS ?_ ?_; rotate_left 1; (focus (intro w' hS'; go_simp; try rfl)); (simp only [Act.put, List.setIfInBounds_toArray]; dsimp only [List.set_cons_zero, List.set_cons_succ]))
                  | (refine tree_skip rfl (fun _ _ _ h => by first | exact h | cases h.1) rfl hS ?_; (simp only [Act.put, List.setIfInBounds_toArray]; dsimp only [List.set_cons_zero, List.set_cons_succ])))
                have hcv := run_to_string (P := Tryz.prog) (w := w17) Tryz.underlying42 Tryz.underlying5 Tryz.underlying9 c16 (Sees.of_own own16b)
                rw [← hXC] at hcv
                refine tree_do (by rfl) (by rfl) (fun K hK => ?_)
                go_simp
                clear hcv
                refine hK.out _ _ (fun _ => hS) (fun hS => ?_); clear hK K; replace hS := hS rfl; try (simp only [Act.put, List.setIfInBounds_toArray]; dsimp only [List.set_cons_zero, List.set_cons_succ])
                repeat (first
                  | (refine tree_read (v := ?_) rfl (fun _ _ _ h => by first | exact h | cases h.1) rfl hS ?_ ?_; rotate_left 1; (focus (intro w' hS'; go_simp; try rfl)); (simp only [Act.put, List.setIfInBounds_toArray]; dsimp only [List.set_cons_zero, List.set_cons_succ]))
                  | (refine tree_skip rfl (fun _ _ _ h => by first | exact h | cases h.1) rfl hS ?_; (simp only [Act.put, List.setIfInBounds_toArray]; dsimp only [List.set_cons_zero, List.set_cons_succ])))
                refine tree_leaf ?_
                refine ⟨rfl, B13, c13, A14, c14, A16, c16, A17, c17, ?_, hS⟩
                rfl
          case go =>
            intro _ _ _ _ _ _ _ _ w18 hS18
            have hz18 := hS18.size
            have HRQ := Lib.hid (HRO.out w18 w6.heap.size w6.heap.size AS cS (H12.out.2.2.2.2.2.2.2.1.below hS18) (Nat.le_trans hdb hz18))
            have H18 := Lib.hid hS18
            clear hS18 HRO
            go_wp2_with fail
            refine HRQ.out.mono ?_
            rintro e w19 ⟨lb4, A19, c19, rfl, c8m, own19, bel19, fr19⟩
            have hw6w : w.heap.size ≤ w6.heap.size := Nat.le_trans H5.out.2.2.2.1.size hz67
            have la19 : w19.ownsRow w.heap.size 9 1 (.slice Al T cl) T (strs s.texts) := by
              have q := own_below H12.out.2.2.1 H18.out
              have q5 := H5.out.2.2.1
              refine own_fr q fr19 (fun g hg hh => ?_)
              have hh : g = w6.heap.size := hh
              have := (q5.lt g hg).2
              have := H6.out.size
              omega
            have got19 : w19.ownsRow w9.heap.size 9 1 (.slice A10 T8 c10) T8 (strs s8.texts) := by
              refine own_fr (own_below H12.out.2.2.2.2.2.2.2.2 H18.out) fr19 (fun g hg hh => ?_)
              have hh : g = w6.heap.size := hh
              have := H7.out.1.top.lt
              have := (H10.out.2.1.lt g hg).1
              omega
            have bel19w : Below w.heap.size w w19 := (H12.out.2.2.2.1.trans (H18.out.mono H12.out.2.2.2.1.size)).trans (bel19.mono hw6w)
            have HBG := Lib.hid (begins_texts s.texts s8.texts Al A19 T T8 cl c19 w19 HR.out.2.2.2.2.1.symm HS8.out.2.1.symm (by omega) (by omega) (Sees.of_own la19) (Sees.of_own own19))
            have HBG2 := Lib.hid (fun W (hW : Below w19.heap.size w19 W) => begins_texts s.texts s8.texts Al A10 T T8 cl c10 W HR.out.2.2.2.2.1.symm HS8.out.2.1.symm (by omega) (by omega) (Sees.of_own (own_below la19 hW)) (Sees.of_own (own_below got19 hW)))
            have H19 := Lib.hid bel19w
            have hsui : (su : Int) ≤ (T8 : Int) := by omega
            clear own19 bel19 fr19 la19 got19 bel19w HRQ
            obtain ⟨BG, hBG⟩ : ∃ x, x = decide (s8.texts = s.texts.take s8.texts.length) := ⟨_, rfl⟩
            rw [← hBG] at HBG HBG2
            clear hBG
            go_wp2_with fail
            refine HBG.out.mono ?_
            rintro e w20 ⟨rfl, bel20⟩
            have HBH := Lib.hid (HBG2.out w20 bel20)
            have H20 := Lib.hid (H19.out.trans (bel20.mono H19.out.size))
            clear bel20 HBG HBG2 c8m
            cases BG with
            | false =>
              go_wp2_with fail
              go_ret
              exact ⟨rfl, H20.out⟩
            | true =>
              go_wp2_with fail
              refine HBH.out.mono ?_
              rintro e w21 ⟨rfl, bel21⟩
              have H21 := Lib.hid (H20.out.trans (bel21.mono H20.out.size))
              clear bel21
              go_wp2_with fail
              go_ret
              exact ⟨rfl, H21.out⟩

theorem crashes_walk (a0 : Option Addr) (ys0 : List La) (len0 cap0 : Nat) (a1 : Int) (a2 : Option Addr) (len2 cap2 : Nat) (z2 : List Int) (W : World) (hT : Tab W) (m0 : ys0.length = len0) (w0 : Sees W 4 a0 ys0.length (las ys0) ∧ (∀ y ∈ ys0, LaOk y) ∧ ys0.length ≤ maxLen) (w1 : (Lit.int .u8 a1).wf = true) (w2 : IsRow .i64 W a2 len2 cap2 z2) :
    Calls Tryz.prog 3 #[.slice a0 len0 cap0, .int .u8 a1, .slice a2 len2 cap2] W fun e W' => e = .returned (.bool true) ∧ Below W.heap.size W W' := by
  subst m0
  obtain ⟨h2, h1, h3, h4, -⟩ := w2.sees
  refine crashes_any ys0 a0 ys0.length cap0 a1 a2 (z2.take len2) len2 cap2 W rfl w0.1 w0.2.1 hT (wf_u8 w1) h1 (Nat.le_trans h3 h4) h2 (fun a ha hl => ?_) w0.2.2
  obtain ⟨g, o, e, hc⟩ := h2.2 hl
  have hq : ((z2.take len2).map (Value.int .i64))[0]? = some (.int .i64 ((z2.take len2)[0]'(by rw [h1]; exact hl))) := by rw [List.getElem?_map, List.getElem?_eq_getElem (by rw [h1]; exact hl)]; rfl
  have := World.block_lt_of_cell? W _ (hc 0 _ hq)
  rw [ha] at e
  injection e with e
  rw [e]
  exact this
end Go.Proofs.YtbcnbehneodlgaaGreatDoor
