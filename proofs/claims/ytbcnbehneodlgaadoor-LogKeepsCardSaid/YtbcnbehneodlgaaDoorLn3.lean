/-
  The law LogKeeps, walked.
-/
import Derived.Test.YtbcnbehneodlgaaDoorLn2
import Derived.Test.YtbcnbehneodlgaaDoorGB
namespace Go.Proofs.YtbcnbehneodlgaaDoor
set_option maxRecDepth 4000
open Go.RowKit

theorem same_eq (L : List (List UInt8)) (A B : Option Addr) (k c c' : Nat) (w : World) (hk : L.length = k) (hkc : k ≤ 100000) (hA : Sees w 1 A k (strs L)) (hB : Sees w 1 B k (strs L)) :
    Calls Tryd.prog 13 #[.slice A k c, .slice B k c'] w fun e w' => e = .returned (.bool true) ∧ Below w.heap.size w w' := by
  have HA := Lib.hid hA; have HB := Lib.hid hB; have HK := Lib.hid hk
  clear hA hB hk
  go_enter Tryd.func13, Tryd.ntmps13
  go_wp2_with fail
  go_loopw [5] (fun i wr => ∃ j : Nat, j ≤ k ∧ i = .int .i64 j ∧ Below w.heap.size w wr) (fun i _ => k - (intOf i).toNat)
  case atStart => exact ⟨0, by omega, rfl, Below.refl _ _⟩
  case round =>
    obtain ⟨j, hj, rfl, hbr⟩ := hrel
    by_cases hlt : j < k
    · have hlti : (j : Int) < (k : Int) := by omega
      have hp := List.getElem?_eq_getElem (l := L) (i := j) (by rw [HK.out]; exact hlt)
      obtain ⟨t, ht⟩ : ∃ p, p = L[j]'(by rw [HK.out]; exact hlt) := ⟨_, rfl⟩
      rw [← ht] at hp
      obtain ⟨g, off, rfl, hcs⟩ := HA.out.2 (by omega)
      obtain ⟨g2, off2, rfl, hcs2⟩ := HB.out.2 (by omega)
      have hc0 : w.cell? ⟨g, off + j, none⟩ = some (.string (str t)) := hcs j _ (by simp [strs, hp])
      have hc1 := (hbr.cell (World.block_lt_of_cell? w _ hc0)).trans hc0
      have hd0 : w.cell? ⟨g2, off2 + j, none⟩ = some (.string (str t)) := hcs2 j _ (by simp [strs, hp])
      have hd1 := (hbr.cell (World.block_lt_of_cell? w _ hd0)).trans hd0
      have HBR := Lib.hid hbr
      clear hcs hcs2 hp ht hc0 hd0 hbr
      generalize str t = X at *
      go_wp2_with fail
      refine region_fast [(0, true), (1, true), (2, true), (3, true), (4, true), (5, true), (6, true), (7, true), (8, true)] [1, 4, 5, 6, 7] 242 [(131072, 1, 0, 0), (262144, 32, 0, 0), (524288, 393216, 3, 3), (1048576, 524288, 4, 7), (2097152, 2, 0, 0), (4194304, 32, 0, 0), (8388608, 6291456, 48, 48), (16777216, 8388608, 64, 112), (33554432, 17825792, 136, 255)] (fun w' => w'.cell? ⟨g, off + j, none⟩ = some (.string X) ∧ w'.cell? ⟨g2, off2 + j, none⟩ = some (.string X)) (by kernel_rfl) (by kernel_rfl) (by kernel_rfl) rfl (by kernel_rfl) (by kernel_rfl) ⟨hc1, hd1⟩ (fun hS => ?_)
      repeat (first
        | (refine plan_read (v := ?_) rfl (fun _ _ _ h => h) rfl hS ?_ ?_; rotate_left 1; (focus (intro w' hS'; obtain ⟨z1, z2⟩ := hS'; go_simp; try rfl)); (simp only [Act.put, List.setIfInBounds_toArray]; dsimp only [List.set_cons_zero, List.set_cons_succ]))
        | (refine plan_skip rfl (fun _ _ _ h => h) rfl hS ?_; (simp only [Act.put, List.setIfInBounds_toArray]; dsimp only [List.set_cons_zero, List.set_cons_succ])))
      refine plan_nil ?_
      go_wp2_with fail
      go_roundw
      case rel => exact ⟨j + 1, by omega, by go_num, HBR.out.drew⟩
      case measure => simp [intOf]; omega
    · obtain rfl : j = k := by omega
      have hge : ¬ ((j : Int) < (j : Int)) := by omega
      go_wp2_with fail
      go_ret
      exact ⟨rfl, hbr⟩

theorem RunAt.fr' {w w' : World} {base r b lb e m sg sz : Nat} {s : Lg} {bg cB : Nat} {A : Option Addr} {cT : Nat} {C : Option Addr} {cC : Nat} {vs : List Pt} {Kl : Nat → Prop} {D : Dk} {F G : Nat → Prop} (h : RunAt w base r b lb e m sg sz s bg cB A cT C cC vs Kl D F) (hf : Fr G w w') (hr : ¬ G r) (hK : ∀ k, Kl k → ¬ G k) (hF : ∀ k, F k → ¬ G k) : RunAt w' base r b lb e m sg sz s bg cB A cT C cC vs Kl D F :=
  ⟨h.run.fr hf hr, ⟨h.ld.log.fr hf hK, h.ld.disk.fr hf hF, h.ld.apart, fun k hk => Nat.lt_of_lt_of_le (h.ld.flt k hk) hf.size, fun k hk => Nat.lt_of_lt_of_le (h.ld.klt k hk) hf.size⟩, h.kp, h.segs, h.size, h.fr, h.kr, h.fb, h.kb, h.rb⟩

/-- What the law holds: the run, and what it has laid. -/
structure Kps (w wr : World) (r : Nat) (s : Lg) (j : Nat) (Al : Option Addr) (cl : Nat) : Prop where
  at_ : ∃ b lb e m bg cB A cT C cC vs Kl D F, RunAt wr w.heap.size r b lb e m 3 3 s bg cB A cT C cC vs Kl D F ∧ ∀ g, (Value.slice Al s.texts.length cl).ownBlock = some g → ¬ Kl g ∧ ¬ F g
  laid : wr.ownsRow w.heap.size 9 1 (.slice Al s.texts.length cl) s.texts.length (strs s.texts)
  below : Below w.heap.size w wr
  many : s.texts.length ≤ j

theorem keeps_long (A : Option Addr) (k c : Nat) (fl : Int) (w : World) (hT : Tab w) (hk : 20 < k) :
    Calls Tryd.prog 3 #[.slice A k c, .int .u8 fl] w fun e w' => e = .returned (.bool true) ∧ Below w.heap.size w w' := by
  have hki : (20 : Int) < (k : Int) := by omega
  have HAW := Lib.hid (log_awake w hT)
  go_enter Tryd.func3, Tryd.ntmps3
  go_wp2_with fail
  refine HAW.out.mono ?_
  rintro e w1 ⟨rfl, hb1⟩
  have HAW1 := Lib.hid (log_awake w1 (hT.below hb1))
  have HB1 := Lib.hid hb1
  clear hb1
  go_wp2_with fail
  refine HAW1.out.mono ?_
  rintro e w2 ⟨rfl, hb2⟩
  have HB2 := Lib.hid (HB1.out.trans (hb2.mono HB1.out.size))
  go_wp2_with fail
  go_ret
  exact ⟨rfl, HB2.out⟩

set_option maxHeartbeats 16000000 in
theorem keeps_any (ps : List Pt) (A : Option Addr) (k c : Nat) (fl : Int) (w : World) (hk : ps.length = k) (hI : InRows w A ps c) (hT : Tab w) (hfl : 0 ≤ fl ∧ fl ≤ 255) (h20 : k ≤ 20) :
    Calls Tryd.prog 3 #[.slice A k c, .int .u8 fl] w fun e w' => e = .returned (.bool true) ∧ Below w.heap.size w w' := by
  have hki : ¬ (20 : Int) < (k : Int) := by omega
  have HAW := Lib.hid (log_awake w hT)
  have HT := Lib.hid hT; have HI := Lib.hid hI; have HK := Lib.hid hk
  obtain ⟨p, hp⟩ : ∃ p : Nat, p = (fl.tmod 5).toNat := ⟨_, rfl⟩
  have hpm : fl.tmod 5 = (p : Int) := by rw [hp, Int.tmod_eq_emod_of_nonneg hfl.1]; omega
  have hp5 : p < 5 := by rw [hp, Int.tmod_eq_emod_of_nonneg hfl.1]; omega
  have hw0 : IntKind.i64.wrap fl = fl := IntWalk.i64_in _ (by omega)
  have hw1 : IntKind.i64.wrap (1 + (p : Int)) = 1 + (p : Int) := IntWalk.i64_in _ (by omega)
  have hw2 : IntKind.i64.wrap (p : Int) = (p : Int) := IntWalk.i64_in _ (by omega)
  have hq0 : ¬ (1 + (p : Int) = 0) := by omega
  have hbt : ∀ k, w.heap.size ≤ k → k ≠ 1 ∧ k ≠ 0 := fun k hk => by have := hT.lt; have := hT.hlt; omega
  have HBT := Lib.hid hbt
  clear hT hI hk hp hbt
  go_enter Tryd.func3, Tryd.ntmps3
  go_wp2_with fail
  refine HAW.out.mono ?_
  rintro e w1 ⟨rfl, hb1⟩
  have HOP := Lib.hid (opened_any 3 3 w1 (HT.out.below hb1) (by omega) (by omega))
  have HB1 := Lib.hid hb1
  clear hb1 HAW
  go_wp2_with fail
  refine HOP.out.mono ?_
  rintro e w2 ⟨r, rfl, ⟨b, lb, ee, m, bg, cB, AA, cT, C, cC, vs, Kl, D, F, X, hX, hR⟩, bel2⟩
  have h0 := laid_opened (segs := 3) (size := 3) (X := X) (by omega) (by omega) hX
  have hb1s := HB1.out.size
  have H2 : Hid (Kps w w2 r (Lg.opened 3 3 X) 0 none 0) := Lib.hid (by
    refine ⟨⟨b, lb, ee, m, bg, cB, AA, cT, C, cC, vs, Kl, D, F, ⟨hR.run, hR.ld, hR.kp, hR.segs, hR.size, hR.fr, hR.kr, fun k hk => Nat.le_trans hb1s (hR.fb k hk), fun k hk => Nat.le_trans hb1s (hR.kb k hk), Nat.le_trans hb1s hR.rb⟩, fun g hg => by cases hg⟩, ?_, HB1.out.trans (bel2.mono hb1s), by rw [h0.texts]; exact Nat.le_refl _⟩
    rw [h0.texts]
    exact World.ownsRow_nil _ _ _ _)
  have ht0 : (Lg.opened 3 3 X).texts.length = 0 := by rw [h0.texts]; rfl
  obtain ⟨s0, hs0⟩ : ∃ s, s = Lg.opened 3 3 X := ⟨_, rfl⟩
  rw [← hs0] at H2 ht0
  have H2' := Lib.hid ht0
  clear hR h0 hX bel2 hs0 hb1s ht0 HOP HB1
  go_wp2_with fail
  go_loopw [6, 7] (fun ld i wr => ∃ j : Nat, j ≤ k ∧ i = .int .i64 j ∧ Hid (∃ s Al cl, ld = .slice Al s.texts.length cl ∧ Kps w wr r s j Al cl)) (fun _ i _ => k - (intOf i).toNat)
  case atStart => exact ⟨0, by omega, rfl, Lib.hid ⟨s0, none, 0, by rw [H2'.out], H2.out⟩⟩
  case round =>
    obtain ⟨j, hj, rfl, hr⟩ := hrel
    obtain ⟨s, Al, cl, rfl, hK⟩ := hr.out
    obtain ⟨⟨b, lb, ee, m, bg, cB, AA, cT, C, cC, vs, Kl, D, F, hR, hLa⟩, hlaid, hbw, hmany⟩ := hK
    clear hr
    by_cases hlt : j < k
    · have hji : (j : Int) < (k : Int) := by omega
      have hjp : j < ps.length := by rw [HK.out]; exact hlt
      obtain ⟨⟨B, n, c', l⟩, hpe⟩ : ∃ q : Pt, q = ps[j] := ⟨_, rfl⟩
      have hpj : ps[j]? = some ⟨B, n, c', l⟩ := by rw [List.getElem?_eq_getElem hjp, ← hpe]
      have hmem : (⟨B, n, c', l⟩ : Pt) ∈ ps := List.mem_of_getElem? hpj
      obtain ⟨hSj, hln⟩ := HI.out.pts _ hmem
      have hcap := HI.out.caps _ hmem
      obtain ⟨g, off, rfl, hrow⟩ := HI.out.row (by omega)
      have hc0 : w.cell? ⟨g, off + j, none⟩ = some (.slice B n c') := hrow j _ hpj
      have hgl : g < w.heap.size := World.block_lt_of_cell? w _ hc0
      have hBl : 0 < n → ∀ a, B = some a → a.block < w.heap.size := fun h0 a ha => by
        obtain ⟨g2, o2, e2, hc2⟩ := hSj.2 h0
        have hq : (u8s l)[0]? = some (.int .u8 ((l[0]'(by have : l.length = n := hln; omega)).toNat : Nat)) := by
          rw [u8s, List.getElem?_map, List.getElem?_eq_getElem (by have : l.length = n := hln; omega)]
          rfl
        have := World.block_lt_of_cell? w _ (hc2 0 _ hq)
        rw [ha] at e2
        injection e2 with e2
        rw [e2]
        exact this
      obtain ⟨T, hTl⟩ : ∃ T, T = s.texts.length := ⟨_, rfl⟩
      rw [← hTl] at hlaid hLa hmany ⊢
      have hTj : T ≤ 20 := by omega
      obtain ⟨z, hz⟩ : ∃ z : Nat, z = j % (1 + p) := ⟨_, rfl⟩
      have hz1 : (j : Int).tmod (1 + (p : Int)) = (z : Int) := by rw [Int.tmod_eq_emod_of_nonneg (by omega), hz]; simp
      have hz2 : (j : Int) % (1 + (p : Int)) = (z : Int) := by rw [hz]; simp
      have HZ := Lib.hid hz
      have HJ := Lib.hid (And.intro hSj (And.intro hln (And.intro hcap (And.intro hc0 (And.intro hgl hBl)))))
      have c1 : wr.cell? ⟨r, 1, none⟩ = some (.pointer (some ⟨lb, 0, none⟩)) := hR.run.cell 1
      have HCH := Lib.hid (chain_log hR.ld.log hR.kp.sok.chain)
      have HR := Lib.hid (And.intro hR (And.intro hLa (And.intro hlaid (And.intro hbw (And.intro hmany hTl)))))
      clear hjp hpe hpj hmem hSj hln hcap hrow hc0 hBl hz hR hLa hlaid hbw hmany hTl
      go_wp2_with fail
      refine HCH.out.mono ?_
      rintro e w3 ⟨v, rfl, own3, bel3⟩
      obtain ⟨A3, c3, rfl⟩ := own_shape own3
      have hcv3 := run_to_string (P := Tryd.prog) (w := w3) Tryd.underlying27 Tryd.underlying5 Tryd.underlying9 c3 (Sees.of_own own3)
      obtain ⟨X0, hX0⟩ : ∃ X, X = str s.chain := ⟨_, rfl⟩
      rw [← hX0] at hcv3
      have hbw3 : Below w.heap.size w w3 := HR.out.2.2.2.1.trans (bel3.mono HR.out.2.2.2.1.size)
      have H3 := Lib.hid (And.intro (HR.out.1.below bel3) (And.intro (own_below HR.out.2.2.1 bel3) (And.intro hbw3 hX0)))
      clear own3 bel3 hbw3 hX0 HCH c1
      go_wp2_with (simp only [hcv3])
      clear hcv3
      have c1 : w3.drew.cell? ⟨r, 1, none⟩ = some (.pointer (some ⟨lb, 0, none⟩)) := H3.out.1.run.cell 1
      have c0 : w3.drew.cell? ⟨g, off + j, none⟩ = some (.slice B n c') := (H3.out.2.2.1.cell HJ.out.2.2.2.2.1).trans HJ.out.2.2.2.1
      have hbd : Below w.heap.size w w3.drew := H3.out.2.2.1.drew
      have HAP := append_run (H3.out.1.below (Below.refl _ _).drew) l B n c' (by rw [← HR.out.2.2.2.2.2]; omega) (HJ.out.1.below hbd) HJ.out.2.1 (by have := HJ.out.2.2.1; exact Nat.le_trans this.1 this.2) (fun h0 a ha hk => by have := HJ.out.2.2.2.2.2 h0 a ha; have := H3.out.1.kb _ hk; omega) (HT.out.below hbd) HBT.out
      replace HAP := Lib.hid HAP
      clear hbd
      refine region_fast [(0, true), (1, true), (2, true), (3, true), (4, true), (5, true), (6, true), (7, true), (8, false), (9, true)] [4, 5, 6, 7] 240 [(17179869184, 32, 0, 0), (34359738368, 17179869184, 1, 1), (68719476736, 34359738368, 2, 3), (137438953472, 68719476736, 4, 7), (274877906944, 1, 0, 0), (549755813888, 128, 0, 0), (1099511627776, 824633720832, 48, 48), (2199023255552, 1099511627776, 64, 112), (4398046511104, 2336462209024, 136, 255), (8796093022208, 4398046511104, 256, 511)] (fun W => W.cell? ⟨r, 1, none⟩ = some (.pointer (some ⟨lb, 0, none⟩)) ∧ W.cell? ⟨g, off + j, none⟩ = some (.slice B n c')) (by kernel_rfl) (by kernel_rfl) (by kernel_rfl) rfl (by kernel_rfl) (by kernel_rfl) ⟨c1, c0⟩ (fun hS => ?_)
      repeat (first
        | (refine plan_read (v := ?_) rfl (fun _ _ _ h => h) rfl hS ?_ ?_; rotate_left 1; (focus (intro w' hS'; have e1 := hS'.1; have e2 := hS'.2; go_simp; try rfl)); (simp only [Act.put, List.setIfInBounds_toArray]; dsimp only [List.set_cons_zero, List.set_cons_succ]))
        | (refine plan_skip rfl (fun _ _ _ h => h) rfl hS ?_; (simp only [Act.put, List.setIfInBounds_toArray]; dsimp only [List.set_cons_zero, List.set_cons_succ])))
      refine plan_do (by rfl) (by rfl) (fun K hK => ?_)
      go_simp
      refine HAP.out.mono ?_
      by_cases he : s.err n = 0
      · rintro e w4 ⟨-, h2⟩
        obtain ⟨rfl, ⟨A4, cT4, C4, cC4, vs4, K4, hR4, hK4⟩, fr4⟩ := h2 he
        have hbw4 : Below w.heap.size w w4 := (H3.out.2.2.1.drew).trans (fr4.below H3.out.2.2.1.size (fun k hk => H3.out.1.kb k hk))
        have c04 : w4.cell? ⟨g, off + j, none⟩ = some (.slice B n c') := (hbw4.cell HJ.out.2.2.2.2.1).trans HJ.out.2.2.2.1
        have hS : w4.cell? ⟨r, 1, none⟩ = some (.pointer (some ⟨lb, 0, none⟩)) ∧ w4.cell? ⟨g, off + j, none⟩ = some (.slice B n c') := ⟨hR4.run.cell 1, c04⟩
        refine hK.out _ _ (fun h => by cases h) (fun _ => ?_); clear hK K; try (simp only [Act.put, List.setIfInBounds_toArray]; dsimp only [List.set_cons_zero, List.set_cons_succ])
        repeat (first
          | (refine plan_read (v := ?_) rfl (fun _ _ _ h => h) rfl hS ?_ ?_; rotate_left 1; (focus (intro w' hS'; go_simp; try rfl)); (simp only [Act.put, List.setIfInBounds_toArray]; dsimp only [List.set_cons_zero, List.set_cons_succ]))
          | (refine plan_skip rfl (fun _ _ _ h => h) rfl hS ?_; (simp only [Act.put, List.setIfInBounds_toArray]; dsimp only [List.set_cons_zero, List.set_cons_succ])))
        refine plan_nil ?_
        have hcv4 := run_to_string (P := Tryd.prog) (w := w4) Tryd.underlying27 Tryd.underlying5 Tryd.underlying9 c' (HJ.out.1.below hbw4)
        obtain ⟨Y, hY⟩ : ∃ X, X = str l := ⟨_, rfl⟩
        rw [← hY] at hcv4
        have hla4 : w4.ownsRow w.heap.size 9 1 (.slice Al T cl) T (strs s.texts) := own_fr (own_below H3.out.2.1 (Below.refl _ _).drew) fr4 (fun g hg => (HR.out.2.1 g hg).1)
        have hz4 := fr4.size
        have H4 := Lib.hid (And.intro hR4 (And.intro hK4 (And.intro hbw4 (And.intro hla4 hY))))
        have HRV := Lib.hid hcv4
        clear h2 hR4 hK4 fr4 hbw4 hla4 hY c1 c0 HAP hcv4
        have hgs : w3.drew.heap.size = w3.heap.size := rfl
        by_cases hz : z = 0
        · subst hz
          go_wp2_with first
            | (have hcv4 := HRV.out; simp only [hcv4])
            | (at_builtin; refine wpList_app rfl (.tmp 44) (.tmp 50) 26 rfl w.heap.size 9 _ 1 16 Tryd.underlying26 info_string rfl (by decide) (.slice Al T cl) T (strs s.texts) rfl (own_below H4.out.2.2.2.1 ((Below.refl _ _).alloc (Nat.le_refl _) _)) (some ⟨w4.heap.size, 0, none⟩) 1 1 [.string Y] rfl (sees_new w4 9 [.string Y] 1 1 rfl) (by simp [Value.oneCell']) (by unfold maxLen; omega) (by omega) (by have := H4.out.2.2.1.size; simp; omega) ?_; intro v5 w5 o1 o2 o3 o4
               have f5 : Fr (fun k => (Value.slice Al T cl).ownBlock = some k) w4 w5 := (Fr.alloc w4 _ _).trans (Fr.of_grown o2 (F := fun k => (Value.slice Al T cl).ownBlock = some k) (fun k h => h)) (fun _ _ h => h)
               have hz5 := f5.size
               obtain ⟨Al2, cl2, rfl⟩ := own_shape o1
               have hlK := fun g (hg : (Value.slice Al T cl).ownBlock = some g) => HR.out.2.1 g hg
               have hll := fun g (hg : (Value.slice Al T cl).ownBlock = some g) => (H3.out.2.1.lt g hg).2
               have R5 := H4.out.1.fr' f5 (fun e9 => own_ne H4.out.2.2.2.1 H4.out.1.run (by decide) r e9 rfl) (fun k hk hg => (hlK k hg).1 (H4.out.2.1 k (hll k hg) hk)) (fun k hk hg => (hlK k hg).2 hk)
               obtain ⟨s2, hs2⟩ : ∃ s2, s2 = s.append l := ⟨_, rfl⟩
               rw [← hs2] at R5
               have ht2 : s2.texts = s.texts ++ [l] := by rw [hs2]; show (s.room l.length).texts ++ [l] = _; rw [(room_fix s l.length).2.2.2.2.2.1]
               have hT2 : T + 1 = s2.texts.length := by rw [ht2, List.length_append, ← HR.out.2.2.2.2.2]; rfl
               have HKs : Hid (Kps w w5 r s2 (j + 1) Al2 cl2) := Lib.hid (by
                 refine ⟨⟨b, lb, ee, m, bg, cB, A4, cT4, C4, cC4, vs4, K4, D, F, R5, fun g hg => ?_⟩, ?_, ?_, by rw [← hT2]; have := HR.out.2.2.2.2.1; omega⟩
                 · rw [← hT2] at hg
                   rcases o3 with e3 | e3
                   · have hg2 : (Value.slice Al T cl).ownBlock = some g := e3.symm.trans hg
                     exact ⟨fun hk => (hlK g hg2).1 (H4.out.2.1 g (hll g hg2) hk), (hlK g hg2).2⟩
                   · have hg2 : (w4.alloc (.cells #[.string Y] 9)).heap.size = g := Option.some.inj (e3.symm.trans hg)
                     have hg3 : w4.heap.size ≤ g := by rw [← hg2]; simp
                     exact ⟨fun hk => by have := H4.out.1.ld.klt g hk; omega, fun hk => by have := H4.out.1.ld.flt g hk; omega⟩
                 · rw [← hT2, ht2]
                   have e2 : strs (s.texts ++ [l]) = strs s.texts ++ [.string Y] := by rw [H4.out.2.2.2.2]; simp [strs]
                   rw [e2]
                   exact o1
                 · exact H4.out.2.2.1.trans (f5.below H4.out.2.2.1.size (fun k hk => (H4.out.2.2.2.1.lt k hk).1)))
               have c1 : w5.cell? ⟨r, 1, none⟩ = some (.pointer (some ⟨lb, 0, none⟩)) := R5.run.cell 1
               clear o1 o2 o3 o4 f5 hz5 hlK hll R5 hs2 ht2)
          obtain ⟨⟨b9, lb9, ee9, m9, bg9, cB9, AA9, cT9, C9, cC9, vs9, Kl9, D9, F9, hR9, hLa9⟩, hlaid9, hbw9, hmany9⟩ := HKs.out
          obtain rfl : lb9 = lb := by
            have e1 : World.cell? _ ⟨r, 1, none⟩ = some (.pointer (some ⟨lb9, 0, none⟩)) := hR9.run.cell 1
            rw [c1] at e1
            injection e1 with e1
            injection e1 with e1
            injection e1 with e1
            injection e1 with e1
            exact e1.symm
          have HF := Lib.hid (flush_run hR9)
          have H9 := Lib.hid (And.intro hR9 (And.intro hLa9 (And.intro hlaid9 (And.intro hbw9 hmany9))))
          clear hR9 hLa9 hlaid9 hbw9 hmany9 HKs
          refine HF.out.mono ?_
          rintro e w6 ⟨rfl, ⟨D6, F6, hR6, hF6⟩, fr6⟩
          have HKs : Hid (Kps w w6 r s2.flushed (j + 1) Al2 cl2) := Lib.hid ⟨⟨b9, lb9, ee9, m9, bg9, cB9, AA9, cT9, C9, cC9, vs9, Kl9, D6, F6, hR6, fun g hg => ⟨(H9.out.2.1 g hg).1, fun hh => (H9.out.2.1 g hg).2 (hF6 g (H9.out.2.2.1.lt g hg).2 hh)⟩⟩, own_fr H9.out.2.2.1 fr6 (fun g hg hh => hh.elim (H9.out.2.1 g hg).2 (H9.out.2.1 g hg).1), H9.out.2.2.2.1.trans (fr6.below H9.out.2.2.2.1.size (fun k hk => hk.elim (H9.out.1.fb k) (H9.out.1.kb k))), H9.out.2.2.2.2⟩
          clear hR6 hF6 fr6 HF c1
          go_wp2_with fail
          go_roundw
          case rel => exact ⟨j + 1, by omega, by go_num, Lib.hid ⟨s2.flushed, Al2, cl2, by first | rfl | (rw [show s2.flushed.texts.length = _ from hT2.symm]), HKs.out⟩⟩
          case measure => simp [intOf]; omega
        · have hzi : ¬ ((z : Int) = 0) := by omega
          go_wp2_with first
            | (have hcv4 := HRV.out; simp only [hcv4])
            | (at_builtin; refine wpList_app rfl (.tmp 44) (.tmp 50) 26 rfl w.heap.size 9 _ 1 16 Tryd.underlying26 info_string rfl (by decide) (.slice Al T cl) T (strs s.texts) rfl (own_below H4.out.2.2.2.1 ((Below.refl _ _).alloc (Nat.le_refl _) _)) (some ⟨w4.heap.size, 0, none⟩) 1 1 [.string Y] rfl (sees_new w4 9 [.string Y] 1 1 rfl) (by simp [Value.oneCell']) (by unfold maxLen; omega) (by omega) (by have := H4.out.2.2.1.size; simp; omega) ?_; intro v5 w5 o1 o2 o3 o4
               have f5 : Fr (fun k => (Value.slice Al T cl).ownBlock = some k) w4 w5 := (Fr.alloc w4 _ _).trans (Fr.of_grown o2 (F := fun k => (Value.slice Al T cl).ownBlock = some k) (fun k h => h)) (fun _ _ h => h)
               have hz5 := f5.size
               obtain ⟨Al2, cl2, rfl⟩ := own_shape o1
               have hlK := fun g (hg : (Value.slice Al T cl).ownBlock = some g) => HR.out.2.1 g hg
               have hll := fun g (hg : (Value.slice Al T cl).ownBlock = some g) => (H3.out.2.1.lt g hg).2
               have R5 := H4.out.1.fr' f5 (fun e9 => own_ne H4.out.2.2.2.1 H4.out.1.run (by decide) r e9 rfl) (fun k hk hg => (hlK k hg).1 (H4.out.2.1 k (hll k hg) hk)) (fun k hk hg => (hlK k hg).2 hk)
               obtain ⟨s2, hs2⟩ : ∃ s2, s2 = s.append l := ⟨_, rfl⟩
               rw [← hs2] at R5
               have ht2 : s2.texts = s.texts ++ [l] := by rw [hs2]; show (s.room l.length).texts ++ [l] = _; rw [(room_fix s l.length).2.2.2.2.2.1]
               have hT2 : T + 1 = s2.texts.length := by rw [ht2, List.length_append, ← HR.out.2.2.2.2.2]; rfl
               have HKs : Hid (Kps w w5 r s2 (j + 1) Al2 cl2) := Lib.hid (by
                 refine ⟨⟨b, lb, ee, m, bg, cB, A4, cT4, C4, cC4, vs4, K4, D, F, R5, fun g hg => ?_⟩, ?_, ?_, by rw [← hT2]; have := HR.out.2.2.2.2.1; omega⟩
                 · rw [← hT2] at hg
                   rcases o3 with e3 | e3
                   · have hg2 : (Value.slice Al T cl).ownBlock = some g := e3.symm.trans hg
                     exact ⟨fun hk => (hlK g hg2).1 (H4.out.2.1 g (hll g hg2) hk), (hlK g hg2).2⟩
                   · have hg2 : (w4.alloc (.cells #[.string Y] 9)).heap.size = g := Option.some.inj (e3.symm.trans hg)
                     have hg3 : w4.heap.size ≤ g := by rw [← hg2]; simp
                     exact ⟨fun hk => by have := H4.out.1.ld.klt g hk; omega, fun hk => by have := H4.out.1.ld.flt g hk; omega⟩
                 · rw [← hT2, ht2]
                   have e2 : strs (s.texts ++ [l]) = strs s.texts ++ [.string Y] := by rw [H4.out.2.2.2.2]; simp [strs]
                   rw [e2]
                   exact o1
                 · exact H4.out.2.2.1.trans (f5.below H4.out.2.2.1.size (fun k hk => (H4.out.2.2.2.1.lt k hk).1)))
               have c1 : w5.cell? ⟨r, 1, none⟩ = some (.pointer (some ⟨lb, 0, none⟩)) := R5.run.cell 1
               clear o1 o2 o3 o4 f5 hz5 hlK hll R5 hs2 ht2)
          go_roundw
          case rel => exact ⟨j + 1, by omega, by go_num, Lib.hid ⟨s2, Al2, cl2, by rw [← hT2], HKs.out⟩⟩
          case measure => simp [intOf]; omega
      · rintro e w4 ⟨h1, -⟩
        obtain ⟨⟨gq, rfl⟩, hR4, bel4⟩ := h1 he
        have hS : w4.cell? ⟨r, 1, none⟩ = some (.pointer (some ⟨lb, 0, none⟩)) ∧ w4.cell? ⟨g, off + j, none⟩ = some (.slice B n c') := ⟨hR4.run.cell 1, (bel4.cell (World.block_lt_of_cell? _ _ c0)).trans c0⟩
        refine hK.out _ _ (fun h => by cases h) (fun _ => ?_); clear hK K; try (simp only [Act.put, List.setIfInBounds_toArray]; dsimp only [List.set_cons_zero, List.set_cons_succ])
        repeat (first
          | (refine plan_read (v := ?_) rfl (fun _ _ _ h => h) rfl hS ?_ ?_; rotate_left 1; (focus (intro w' hS'; go_simp; try rfl)); (simp only [Act.put, List.setIfInBounds_toArray]; dsimp only [List.set_cons_zero, List.set_cons_succ]))
          | (refine plan_skip rfl (fun _ _ _ h => h) rfl hS ?_; (simp only [Act.put, List.setIfInBounds_toArray]; dsimp only [List.set_cons_zero, List.set_cons_succ])))
        refine plan_nil ?_
        clear hS
        have c14 : w4.cell? ⟨r, 1, none⟩ = some (.pointer (some ⟨lb, 0, none⟩)) := hR4.run.cell 1
        have HCH := Lib.hid (chain_log hR4.ld.log hR4.kp.sok.chain)
        have bel34 : Below w3.heap.size w3 w4 := ((Below.refl _ _).drew : Below w3.heap.size w3 w3.drew).trans bel4
        have H4 := Lib.hid (And.intro hR4 (And.intro (own_below H3.out.2.1 bel34) (H3.out.2.2.1.trans (bel34.mono H3.out.2.2.1.size))))
        clear h1 hR4 bel4 bel34 c1 c0 HAP
        go_wp2_with fail
        refine HCH.out.mono ?_
        rintro e w5 ⟨v5, rfl, own5, bel5⟩
        obtain ⟨A5, c5, rfl⟩ := own_shape own5
        have hcv5 := run_to_string (P := Tryd.prog) (w := w5) Tryd.underlying27 Tryd.underlying5 Tryd.underlying9 c5 (Sees.of_own own5)
        rw [← H3.out.2.2.2] at hcv5
        have hR5 := H4.out.1.below bel5
        have c15 : w5.cell? ⟨r, 1, none⟩ = some (.pointer (some ⟨lb, 0, none⟩)) := hR5.run.cell 1
        have HCO := count_any hR5.ld.log
        rw [← HR.out.2.2.2.2.2] at HCO
        replace HCO := Lib.hid HCO
        obtain ⟨s2, hs2⟩ : ∃ s2, s2 = s := ⟨_, rfl⟩
        have hT2 : T = s2.texts.length := by rw [hs2]; exact HR.out.2.2.2.2.2
        obtain ⟨Al2, hAl2⟩ : ∃ a, a = Al := ⟨_, rfl⟩
        obtain ⟨cl2, hcl2⟩ : ∃ a, a = cl := ⟨_, rfl⟩
        have HKs : Hid (Kps w w5 r s2 (j + 1) Al2 cl2) := Lib.hid (by
          rw [hs2, hAl2, hcl2]
          refine ⟨⟨b, lb, ee, m, bg, cB, AA, cT, C, cC, vs, Kl, D, F, hR5, ?_⟩, ?_, H4.out.2.2.trans (bel5.mono H4.out.2.2.size), ?_⟩
          · rw [← HR.out.2.2.2.2.2]; exact HR.out.2.1
          · rw [← HR.out.2.2.2.2.2]; exact own_below H4.out.2.1 bel5
          · rw [← HR.out.2.2.2.2.2]; have := HR.out.2.2.2.2.1; omega)
        rw [← hAl2, ← hcl2]
        clear own5 bel5 hR5 hs2 hAl2 hcl2 HCH c14
        go_wp2_with (simp only [hcv5])
        refine HCO.out.mono ?_
        rintro e w6 ⟨rfl, rfl⟩
        have c1 := c15
        clear c15 hcv5
        by_cases hz : z = 0
        · subst hz
          go_wp2_with fail
          obtain ⟨⟨b9, lb9, ee9, m9, bg9, cB9, AA9, cT9, C9, cC9, vs9, Kl9, D9, F9, hR9, hLa9⟩, hlaid9, hbw9, hmany9⟩ := HKs.out
          obtain rfl : lb9 = lb := by
            have e1 : World.cell? _ ⟨r, 1, none⟩ = some (.pointer (some ⟨lb9, 0, none⟩)) := hR9.run.cell 1
            rw [c1] at e1
            injection e1 with e1
            injection e1 with e1
            injection e1 with e1
            injection e1 with e1
            exact e1.symm
          have HF := Lib.hid (flush_run hR9)
          have H9 := Lib.hid (And.intro hR9 (And.intro hLa9 (And.intro hlaid9 (And.intro hbw9 hmany9))))
          clear hR9 hLa9 hlaid9 hbw9 hmany9 HKs
          refine HF.out.mono ?_
          rintro e w6 ⟨rfl, ⟨D6, F6, hR6, hF6⟩, fr6⟩
          have HKs : Hid (Kps w w6 r s2.flushed (j + 1) Al2 cl2) := Lib.hid ⟨⟨b9, lb9, ee9, m9, bg9, cB9, AA9, cT9, C9, cC9, vs9, Kl9, D6, F6, hR6, fun g hg => ⟨(H9.out.2.1 g hg).1, fun hh => (H9.out.2.1 g hg).2 (hF6 g (H9.out.2.2.1.lt g hg).2 hh)⟩⟩, own_fr H9.out.2.2.1 fr6 (fun g hg hh => hh.elim (H9.out.2.1 g hg).2 (H9.out.2.1 g hg).1), H9.out.2.2.2.1.trans (fr6.below H9.out.2.2.2.1.size (fun k hk => hk.elim (H9.out.1.fb k) (H9.out.1.kb k))), H9.out.2.2.2.2⟩
          clear hR6 hF6 fr6 HF c1
          go_wp2_with fail
          go_roundw
          case rel => exact ⟨j + 1, by omega, by go_num, Lib.hid ⟨s2.flushed, Al2, cl2, by first | rfl | (rw [show s2.flushed.texts.length = _ from hT2.symm]), HKs.out⟩⟩
          case measure => simp [intOf]; omega
        · have hzi : ¬ ((z : Int) = 0) := by omega
          go_wp2_with fail
          go_roundw
          case rel => exact ⟨j + 1, by omega, by go_num, Lib.hid ⟨s2, Al2, cl2, by rw [← hT2], HKs.out⟩⟩
          case measure => simp [intOf]; omega
    · obtain rfl : j = k := by omega
      have hge : ¬ ((j : Int) < (j : Int)) := by omega
      obtain ⟨T, hTl⟩ : ∃ T, T = s.texts.length := ⟨_, rfl⟩
      rw [← hTl] at hlaid hLa hmany ⊢
      have c1 : wr.cell? ⟨r, 1, none⟩ = some (.pointer (some ⟨lb, 0, none⟩)) := hR.run.cell 1
      have HF := Lib.hid (flush_run hR)
      have HR := Lib.hid (And.intro hR (And.intro hLa (And.intro hlaid (And.intro hbw (And.intro hmany hTl)))))
      have hT20 : T ≤ 20 := by omega
      clear hR hLa hlaid hbw hmany hTl
      go_wp2_with fail
      refine HF.out.mono ?_
      rintro e w3 ⟨rfl, ⟨D3, F3, hR3, hF3⟩, fr3⟩
      have c13 : w3.cell? ⟨r, 1, none⟩ = some (.pointer (some ⟨lb, 0, none⟩)) := hR3.run.cell 1
      have c03 : w3.cell? ⟨r, 0, none⟩ = some (.pointer (some ⟨b, 0, none⟩)) := hR3.run.cell 0
      have hla3 := own_fr HR.out.2.2.1 fr3 (fun g hg hh => hh.elim (HR.out.2.1 g hg).2 (HR.out.2.1 g hg).1)
      have hL3 : ∀ g, (Value.slice Al T cl).ownBlock = some g → ¬ Kl g ∧ ¬ F3 g := fun g hg => ⟨(HR.out.2.1 g hg).1, fun hh => (HR.out.2.1 g hg).2 (hF3 g (HR.out.2.2.1.lt g hg).2 hh)⟩
      have bel3 : Below w.heap.size w w3 := HR.out.2.2.2.1.trans (fr3.below HR.out.2.2.2.1.size (fun k hk => hk.elim (HR.out.1.fb k) (HR.out.1.kb k)))
      have HSU := sure_any hR3.ld.log
      rw [show s.flushed.sure = T from HR.out.2.2.2.2.2.symm] at HSU
      replace HSU := Lib.hid HSU
      have HCR := Lib.hid (crash_any b F3 D3 none 0 0 [] w3 hR3.ld.disk hR3.kp.ok rfl (Nat.zero_le _) (by rw [hR3.kp.queue]; exact Nat.zero_le _) (Sees.none_ _ _ _) (fun h => absurd h (by decide)))
      have H3 := Lib.hid (And.intro hR3 (And.intro hla3 (And.intro hL3 bel3)))
      clear hR3 hF3 fr3 hla3 hL3 bel3 HF c1
      go_wp2_with fail
      refine HSU.out.mono ?_
      rintro e w4 ⟨rfl, rfl⟩
      go_wp2_with fail
      refine HCR.out.mono ?_
      rintro e w5 ⟨rfl, hD5⟩
      obtain ⟨F5, hLD5, fr5, hF5⟩ := H3.out.1.ld.move hD5
      have c05 : w5.cell? ⟨r, 0, none⟩ = some (.pointer (some ⟨b, 0, none⟩)) := (H3.out.1.run.fr fr5 H3.out.1.fr).cell 0
      have hrun5 := H3.out.1.run.fr fr5 H3.out.1.fr
      have hla5 := own_fr H3.out.2.1 fr5 (fun g hg => (H3.out.2.2.1 g hg).2)
      have bel5 : Below w.heap.size w w5 := H3.out.2.2.2.trans (fr5.below H3.out.2.2.2.size (fun k hk => H3.out.1.fb k hk))
      have hz5 := fr5.size
      have hF5b : ∀ k, F5 k → w.heap.size ≤ k := fun k hk => by
        by_cases hkl : k < w3.heap.size
        · exact H3.out.1.fb k (hF5 k hkl hk)
        · have := H3.out.2.2.2.size; omega
      have hrF : ¬ F5 r := fun hk => H3.out.1.fr (hF5 r H3.out.1.run.lt hk)
      have hlF : ∀ g, (Value.slice Al T cl).ownBlock = some g → ¬ F5 g := fun g hg hk => (H3.out.2.2.1 g hg).2 (hF5 g (H3.out.2.1.lt g hg).2 hk)
      have hkp := H3.out.1.kp
      have hag := hkp.again (show s.flushed.sure = s.flushed.texts.length from rfl)
      have hsl : (D3.crashed []).safe.length = D3.safe.length := rfl
      have hfit := hkp.fit
      rw [H3.out.1.segs, H3.out.1.size] at hag hfit
      have HOP := Lib.hid (open_log b 1 3 3 (D3.crashed []) F5 w5 hLD5.disk hLD5.flt (hkp.ok.crashed []) rfl rfl (by decide) (by decide) (by decide) (by rw [hsl]; exact hfit) (HT.out.below bel5) (fun k hk => HBT.out k (hF5b k hk)))
      have H5 := Lib.hid (And.intro hLD5 (And.intro hrun5 (And.intro hla5 (And.intro bel5 (And.intro hF5b (And.intro hrF (And.intro hlF hag)))))))
      clear hD5 hLD5 fr5 hF5 hrun5 hla5 bel5 hz5 hF5b hrF hlF hkp hag hsl hfit HCR HSU c03 c13
      go_wp2_with fail
      refine HOP.out.mono ?_
      rintro e w6 ⟨lb2, rfl, bg6, cB6, AA6, cT6, C6, cC6, vs6, K6, F6, l6, fr6, hF6, hK6, ok6⟩
      obtain ⟨s6, hs6⟩ : ∃ s6, s6 = Lg.opened 3 3 ((D3.crashed []).piece 1 (3 * 3)) := ⟨_, rfl⟩
      have hag := H5.out.2.2.2.2.2.2.2
      rw [← hs6] at l6 ok6 hag
      have bel6 : Below w.heap.size w w6 := H5.out.2.2.2.1.trans (fr6.below H5.out.2.2.2.1.size H5.out.2.2.2.2.1)
      have hrun6 := H5.out.2.1.fr fr6 H5.out.2.2.2.2.2.1
      have hla6 := own_fr H5.out.2.2.1 fr6 H5.out.2.2.2.2.2.2.1
      have hold6 := H5.out.1.log.fr fr6 (fun k hk hf => H5.out.1.apart k hf hk)
      have c16 : w6.drew.cell? ⟨r, 1, none⟩ = some (.pointer (some ⟨lb, 0, none⟩)) := hrun6.cell 1
      have hfine : Fine s6.texts := by rw [hag.1]; exact laid_fine H3.out.1.kp.laid
      have hT6 : T = s6.texts.length := by rw [hag.1]; exact HR.out.2.2.2.2.2
      have H6 := Lib.hid (And.intro (l6.log.below (Below.refl _ _).drew) (And.intro (hold6.below (Below.refl _ _).drew) (And.intro (own_below hla6 (Below.refl _ _).drew) (And.intro bel6.drew (And.intro ok6 (And.intro hfine (And.intro hag hT6)))))))
      have hrl : r < w6.drew.heap.size := hrun6.lt
      clear l6 ok6 hag bel6 hrun6 hla6 hold6 fr6 hF6 hK6 hs6 hfine hT6 HOP c05
      go_wp2_with fail
      have hlaid : w6.drew.ownsRow w.heap.size 9 1 (.slice Al T cl) T (strs s6.texts) := by
        rw [H6.out.2.2.2.2.2.2.1.1]
        exact H6.out.2.2.1
      obtain ⟨XC, hXC⟩ : ∃ X, X = str s6.chain := ⟨_, rfl⟩
      have hXO : XC = str s.flushed.chain := by rw [hXC, H6.out.2.2.2.2.2.2.1.2]
      have HTX := texts_log H6.out.1 H6.out.2.2.2.2.1 H6.out.2.2.2.2.2.1
      rw [← H6.out.2.2.2.2.2.2.2] at HTX
      replace HTX := Lib.hid HTX
      refine region_tree (.read 0 (.read 1 (.read 2 (.read 3 (.read 4 (.read 5 (.read 6 (.read 7 (.read 10 (.one 8 (.one 9 (.one 11 (.read 12 (.read 13 (.read 14 (.read 17 (.read 18 (.read 19 (.read 20 (.one 15 (.two 16 (.one 21 (.one 22 (.read 23 (.read 24 (.read 25 .leaf))))) 21 (.two 16 (.one 22 (.read 23 (.read 24 (.read 25 .leaf)))) 22 (.one 16 (.read 23 (.read 24 (.read 25 .leaf)))))))))))))))))))))))))) [8, 9, 10, 15, 16, 17, 18, 19, 20] 2066176 [(20769187434139310514121985316880384, 512, 0, 0), (41538374868278621028243970633760768, 20769187434139310514121985316880384, 1, 1), (83076749736557242056487941267521536, 41538374868278621028243970633760768, 2, 3), (166153499473114484112975882535043072, 83076749736557242056487941267522560, 4, 7), (332306998946228968225951765070086144, 249230249209671726169463823802564608, 12, 15), (664613997892457936451903530140172288, 415383748682786210282439706337607680, 20, 31), (1329227995784915872903807060280344576, 664613997892457936451903530140172288, 36, 63), (2658455991569831745807614120560689152, 1329227995784915872903807060280345088, 64, 127), (5316911983139663491615228241121378304, 3987683987354747618711421180841033728, 192, 255), (10633823966279326983230456482242756608, 6646139978924579364519035301401722880, 320, 511), (21267647932558653966460912964485513216, 1329227995784915872903807060280344640, 64, 127), (42535295865117307932921825928971026432, 33230699894622896822595176507008614400, 1600, 2047), (85070591730234615865843651857942052864, 43864523860902223805825632989251371008, 2112, 4095), (170141183460469231731687303715884105728, 85070591730234615865843651857942052864, 6144, 8191), (340282366920938463463374607431768211456, 170141183460469231731687303715884106240, 8192, 16383), (680564733841876926926749214863536422912, 510423550381407695195061911147652317184, 24576, 32767), (1361129467683753853853498429727072845824, 850705917302346158658436518579420528640, 40960, 65535), (2722258935367507707706996859454145691648, 170141183460469231731687303715884105760, 8192, 16383), (5444517870735015415413993718908291383296, 2892400118827976939438684163170029797376, 139264, 147455), (10889035741470030830827987437816582766592, 5614659054195484647145681022624175489024, 270336, 409599), (21778071482940061661655974875633165533184, 11059176924930500062559674741532466872320, 532480, 933887), (43556142965880123323311949751266331066368, 21948212666400530893387662179349049638912, 1089536, 2031615), (87112285931760246646623899502532662132736, 43726284149340592555043637054982215172096, 2105344, 4128767), (174224571863520493293247799005065324265472, 88643556582904469732209085235975619084288, 4268032, 8388607), (348449143727040986586495598010130648530944, 174394713046980962524979486308781208371200, 8396800, 16777215), (16, 348449143727040986586495598010130648530944, 33554431, 33554431)] (fun W => Below w6.drew.heap.size w6.drew W) (by kernel_rfl) (by kernel_rfl) (by kernel_rfl) rfl (by kernel_rfl) (by kernel_rfl) (Below.refl _ _) (fun hS => ?_)
      repeat (first
        | (refine tree_read (v := ?_) rfl (fun _ _ _ h => by first | exact h | cases h.1) rfl hS ?_ ?_; rotate_left 1; (focus (intro w' hS'; have e1 := (hS'.cell hrl).trans c16; go_simp; try rfl)); (simp only [Act.put, List.setIfInBounds_toArray]; dsimp only [List.set_cons_zero, List.set_cons_succ]))
        | (refine tree_skip rfl (fun _ _ _ h => by first | exact h | cases h.1) rfl hS ?_; (simp only [Act.put, List.setIfInBounds_toArray]; dsimp only [List.set_cons_zero, List.set_cons_succ])))
      refine tree_do (by rfl) (by rfl) (fun K hK => ?_)
      go_simp
      refine HTX.out.mono ?_
      rintro e w7 ⟨B7, c7, rfl, own7, bel7⟩
      obtain ⟨ps7, hl7, hm7, hr7, hp7⟩ := own7.use
      refine hK.out _ _ (fun _ => bel7) (fun hS => ?_); clear hK K; replace hS := hS rfl; try (simp only [Act.put, List.setIfInBounds_toArray]; dsimp only [List.set_cons_zero, List.set_cons_succ])
      repeat (first
        | (refine tree_read (v := ?_) rfl (fun _ _ _ h => by first | exact h | cases h.1) rfl hS ?_ ?_; rotate_left 1; (focus (intro w' hS'; have e1 := (hS'.cell hrl).trans c16; go_simp; try rfl)); (simp only [Act.put, List.setIfInBounds_toArray]; dsimp only [List.set_cons_zero, List.set_cons_succ]))
        | (refine tree_skip rfl (fun _ _ _ h => by first | exact h | cases h.1) rfl hS ?_; (simp only [Act.put, List.setIfInBounds_toArray]; dsimp only [List.set_cons_zero, List.set_cons_succ])))
      have hlaid := own_below hlaid bel7
      have HDX := texts_any ps7 B7 T c7 w7 (by rw [hl7]; exact H6.out.2.2.2.2.2.2.2.symm) (by omega) hr7 hp7
      rw [hm7] at HDX
      refine tree_do (by rfl) (by rfl) (fun K hK => ?_)
      go_simp
      refine HDX.mono ?_
      rintro e w8 ⟨v8, rfl, own8, bel8⟩
      obtain ⟨A8, c8, rfl⟩ := own_shape own8
      have hlaid := own_below hlaid bel8
      refine hK.out _ _ (fun _ => hS.trans (bel8.mono hS.size)) (fun hS => ?_); clear hK K; replace hS := hS rfl; try (simp only [Act.put, List.setIfInBounds_toArray]; dsimp only [List.set_cons_zero, List.set_cons_succ])
      repeat (first
        | (refine tree_read (v := ?_) rfl (fun _ _ _ h => by first | exact h | cases h.1) rfl hS ?_ ?_; rotate_left 1; (focus (intro w' hS'; have e1 := (hS'.cell hrl).trans c16; go_simp; try rfl)); (simp only [Act.put, List.setIfInBounds_toArray]; dsimp only [List.set_cons_zero, List.set_cons_succ]))
        | (refine tree_skip rfl (fun _ _ _ h => by first | exact h | cases h.1) rfl hS ?_; (simp only [Act.put, List.setIfInBounds_toArray]; dsimp only [List.set_cons_zero, List.set_cons_succ])))
      have HSM := same_eq s6.texts A8 Al T c8 cl w8 H6.out.2.2.2.2.2.2.2.symm (by omega) (Sees.of_own own8) (Sees.of_own hlaid)
      refine tree_do (by rfl) (by rfl) (fun K hK => ?_)
      go_simp
      refine HSM.mono ?_
      rintro e w9 ⟨rfl, bel9⟩
      have hS := hS.trans (bel9.mono hS.size)
      refine hK.out _ _ (fun h => by cases h) (fun _ => ?_); clear hK K; try (simp only [Act.put, List.setIfInBounds_toArray]; dsimp only [List.set_cons_zero, List.set_cons_succ])
      repeat (first
        | (refine tree_read (v := ?_) rfl (fun _ _ _ h => by first | exact h | cases h.1) rfl hS ?_ ?_; rotate_left 1; (focus (intro w' hS'; have e1 := (hS'.cell hrl).trans c16; go_simp; try rfl)); (simp only [Act.put, List.setIfInBounds_toArray]; dsimp only [List.set_cons_zero, List.set_cons_succ]))
        | (refine tree_skip rfl (fun _ _ _ h => by first | exact h | cases h.1) rfl hS ?_; (simp only [Act.put, List.setIfInBounds_toArray]; dsimp only [List.set_cons_zero, List.set_cons_succ])))
      refine tree_do (by rfl) (by rfl) (fun K hK => ?_)
      go_simp
      refine (chain_log (H6.out.1.below hS) H6.out.2.2.2.2.1.chain).mono ?_
      rintro e w10 ⟨v10, rfl, own10, bel10⟩
      obtain ⟨A10, c10, rfl⟩ := own_shape own10
      refine hK.out _ _ (fun _ => hS.trans (bel10.mono hS.size)) (fun hS => ?_); clear hK K; replace hS := hS rfl; try (simp only [Act.put, List.setIfInBounds_toArray]; dsimp only [List.set_cons_zero, List.set_cons_succ])
      repeat (first
        | (refine tree_read (v := ?_) rfl (fun _ _ _ h => by first | exact h | cases h.1) rfl hS ?_ ?_; rotate_left 1; (focus (intro w' hS'; have e1 := (hS'.cell hrl).trans c16; go_simp; try rfl)); (simp only [Act.put, List.setIfInBounds_toArray]; dsimp only [List.set_cons_zero, List.set_cons_succ]))
        | (refine tree_skip rfl (fun _ _ _ h => by first | exact h | cases h.1) rfl hS ?_; (simp only [Act.put, List.setIfInBounds_toArray]; dsimp only [List.set_cons_zero, List.set_cons_succ])))
      refine tree_two ?_ ?_
      · skip
        have hcv := run_to_string (P := Tryd.prog) (w := w10) Tryd.underlying27 Tryd.underlying5 Tryd.underlying9 c10 (Sees.of_own own10)
        rw [← hXC] at hcv
        refine tree_do (by rfl) (by rfl) (fun K hK => ?_)
        go_simp
        clear hcv
        refine hK.out _ _ (fun _ => hS) (fun hS => ?_); clear hK K; replace hS := hS rfl; try (simp only [Act.put, List.setIfInBounds_toArray]; dsimp only [List.set_cons_zero, List.set_cons_succ])
        repeat (first
          | (refine tree_read (v := ?_) rfl (fun _ _ _ h => by first | exact h | cases h.1) rfl hS ?_ ?_; rotate_left 1; (focus (intro w' hS'; have e1 := (hS'.cell hrl).trans c16; go_simp; try rfl)); (simp only [Act.put, List.setIfInBounds_toArray]; dsimp only [List.set_cons_zero, List.set_cons_succ]))
          | (refine tree_skip rfl (fun _ _ _ h => by first | exact h | cases h.1) rfl hS ?_; (simp only [Act.put, List.setIfInBounds_toArray]; dsimp only [List.set_cons_zero, List.set_cons_succ])))
        refine tree_do (by rfl) (by rfl) (fun K hK => ?_)
        go_simp
        refine (chain_log (H6.out.2.1.below hS) H3.out.1.kp.sok.chain).mono ?_
        rintro e w11 ⟨v11, rfl, own11, bel11⟩
        obtain ⟨A11, c11, rfl⟩ := own_shape own11
        have own10b := own_below own10 bel11
        have hS := hS.trans (bel11.mono hS.size)
        refine hK.out _ _ (fun h => by cases h) (fun _ => ?_); clear hK K; try (simp only [Act.put, List.setIfInBounds_toArray]; dsimp only [List.set_cons_zero, List.set_cons_succ])
        repeat (first
          | (refine tree_read (v := ?_) rfl (fun _ _ _ h => by first | exact h | cases h.1) rfl hS ?_ ?_; rotate_left 1; (focus (intro w' hS'; have e1 := (hS'.cell hrl).trans c16; go_simp; try rfl)); (simp only [Act.put, List.setIfInBounds_toArray]; dsimp only [List.set_cons_zero, List.set_cons_succ]))
          | (refine tree_skip rfl (fun _ _ _ h => by first | exact h | cases h.1) rfl hS ?_; (simp only [Act.put, List.setIfInBounds_toArray]; dsimp only [List.set_cons_zero, List.set_cons_succ])))
        have hcv := run_to_string (P := Tryd.prog) (w := w11) Tryd.underlying27 Tryd.underlying5 Tryd.underlying9 c11 (Sees.of_own own11)
        rw [← hXO] at hcv
        refine tree_do (by rfl) (by rfl) (fun K hK => ?_)
        go_simp
        clear hcv
        refine hK.out _ _ (fun h => by cases h) (fun _ => ?_); clear hK K; try (simp only [Act.put, List.setIfInBounds_toArray]; dsimp only [List.set_cons_zero, List.set_cons_succ])
        repeat (first
          | (refine tree_read (v := ?_) rfl (fun _ _ _ h => by first | exact h | cases h.1) rfl hS ?_ ?_; rotate_left 1; (focus (intro w' hS'; have e1 := (hS'.cell hrl).trans c16; go_simp; try rfl)); (simp only [Act.put, List.setIfInBounds_toArray]; dsimp only [List.set_cons_zero, List.set_cons_succ]))
          | (refine tree_skip rfl (fun _ _ _ h => by first | exact h | cases h.1) rfl hS ?_; (simp only [Act.put, List.setIfInBounds_toArray]; dsimp only [List.set_cons_zero, List.set_cons_succ])))
        refine tree_leaf ?_
        go_wp2_with fail
        go_ret
        exact ⟨rfl, H6.out.2.2.2.1.trans (hS.mono H6.out.2.2.2.1.size)⟩
      · skip
        refine tree_do (by rfl) (by rfl) (fun K hK => ?_)
        go_simp
        refine (chain_log (H6.out.2.1.below hS) H3.out.1.kp.sok.chain).mono ?_
        rintro e w11 ⟨v11, rfl, own11, bel11⟩
        obtain ⟨A11, c11, rfl⟩ := own_shape own11
        have own10b := own_below own10 bel11
        have hS := hS.trans (bel11.mono hS.size)
        refine hK.out _ _ (fun h => by cases h) (fun _ => ?_); clear hK K; try (simp only [Act.put, List.setIfInBounds_toArray]; dsimp only [List.set_cons_zero, List.set_cons_succ])
        repeat (first
          | (refine tree_read (v := ?_) rfl (fun _ _ _ h => by first | exact h | cases h.1) rfl hS ?_ ?_; rotate_left 1; (focus (intro w' hS'; have e1 := (hS'.cell hrl).trans c16; go_simp; try rfl)); (simp only [Act.put, List.setIfInBounds_toArray]; dsimp only [List.set_cons_zero, List.set_cons_succ]))
          | (refine tree_skip rfl (fun _ _ _ h => by first | exact h | cases h.1) rfl hS ?_; (simp only [Act.put, List.setIfInBounds_toArray]; dsimp only [List.set_cons_zero, List.set_cons_succ])))
        refine tree_two ?_ ?_
        · skip
          have hcv := run_to_string (P := Tryd.prog) (w := w11) Tryd.underlying27 Tryd.underlying5 Tryd.underlying9 c10 (Sees.of_own own10b)
          rw [← hXC] at hcv
          refine tree_do (by rfl) (by rfl) (fun K hK => ?_)
          go_simp
          clear hcv
          refine hK.out _ _ (fun _ => hS) (fun hS => ?_); clear hK K; replace hS := hS rfl; try (simp only [Act.put, List.setIfInBounds_toArray]; dsimp only [List.set_cons_zero, List.set_cons_succ])
          repeat (first
            | (refine tree_read (v := ?_) rfl (fun _ _ _ h => by first | exact h | cases h.1) rfl hS ?_ ?_; rotate_left 1; (focus (intro w' hS'; have e1 := (hS'.cell hrl).trans c16; go_simp; try rfl)); (simp only [Act.put, List.setIfInBounds_toArray]; dsimp only [List.set_cons_zero, List.set_cons_succ]))
            | (refine tree_skip rfl (fun _ _ _ h => by first | exact h | cases h.1) rfl hS ?_; (simp only [Act.put, List.setIfInBounds_toArray]; dsimp only [List.set_cons_zero, List.set_cons_succ])))
          have hcv := run_to_string (P := Tryd.prog) (w := w11) Tryd.underlying27 Tryd.underlying5 Tryd.underlying9 c11 (Sees.of_own own11)
          rw [← hXO] at hcv
          refine tree_do (by rfl) (by rfl) (fun K hK => ?_)
          go_simp
          clear hcv
          refine hK.out _ _ (fun h => by cases h) (fun _ => ?_); clear hK K; try (simp only [Act.put, List.setIfInBounds_toArray]; dsimp only [List.set_cons_zero, List.set_cons_succ])
          repeat (first
            | (refine tree_read (v := ?_) rfl (fun _ _ _ h => by first | exact h | cases h.1) rfl hS ?_ ?_; rotate_left 1; (focus (intro w' hS'; have e1 := (hS'.cell hrl).trans c16; go_simp; try rfl)); (simp only [Act.put, List.setIfInBounds_toArray]; dsimp only [List.set_cons_zero, List.set_cons_succ]))
            | (refine tree_skip rfl (fun _ _ _ h => by first | exact h | cases h.1) rfl hS ?_; (simp only [Act.put, List.setIfInBounds_toArray]; dsimp only [List.set_cons_zero, List.set_cons_succ])))
          refine tree_leaf ?_
          go_wp2_with fail
          go_ret
          exact ⟨rfl, H6.out.2.2.2.1.trans (hS.mono H6.out.2.2.2.1.size)⟩
        · skip
          have hcv := run_to_string (P := Tryd.prog) (w := w11) Tryd.underlying27 Tryd.underlying5 Tryd.underlying9 c11 (Sees.of_own own11)
          rw [← hXO] at hcv
          refine tree_do (by rfl) (by rfl) (fun K hK => ?_)
          go_simp
          clear hcv
          refine hK.out _ _ (fun h => by cases h) (fun _ => ?_); clear hK K; try (simp only [Act.put, List.setIfInBounds_toArray]; dsimp only [List.set_cons_zero, List.set_cons_succ])
          repeat (first
            | (refine tree_read (v := ?_) rfl (fun _ _ _ h => by first | exact h | cases h.1) rfl hS ?_ ?_; rotate_left 1; (focus (intro w' hS'; have e1 := (hS'.cell hrl).trans c16; go_simp; try rfl)); (simp only [Act.put, List.setIfInBounds_toArray]; dsimp only [List.set_cons_zero, List.set_cons_succ]))
            | (refine tree_skip rfl (fun _ _ _ h => by first | exact h | cases h.1) rfl hS ?_; (simp only [Act.put, List.setIfInBounds_toArray]; dsimp only [List.set_cons_zero, List.set_cons_succ])))
          have hcv := run_to_string (P := Tryd.prog) (w := w11) Tryd.underlying27 Tryd.underlying5 Tryd.underlying9 c10 (Sees.of_own own10b)
          rw [← hXC] at hcv
          refine tree_do (by rfl) (by rfl) (fun K hK => ?_)
          go_simp
          clear hcv
          refine hK.out _ _ (fun _ => hS) (fun hS => ?_); clear hK K; replace hS := hS rfl; try (simp only [Act.put, List.setIfInBounds_toArray]; dsimp only [List.set_cons_zero, List.set_cons_succ])
          repeat (first
            | (refine tree_read (v := ?_) rfl (fun _ _ _ h => by first | exact h | cases h.1) rfl hS ?_ ?_; rotate_left 1; (focus (intro w' hS'; have e1 := (hS'.cell hrl).trans c16; go_simp; try rfl)); (simp only [Act.put, List.setIfInBounds_toArray]; dsimp only [List.set_cons_zero, List.set_cons_succ]))
            | (refine tree_skip rfl (fun _ _ _ h => by first | exact h | cases h.1) rfl hS ?_; (simp only [Act.put, List.setIfInBounds_toArray]; dsimp only [List.set_cons_zero, List.set_cons_succ])))
          refine tree_leaf ?_
          go_wp2_with fail
          go_ret
          exact ⟨rfl, H6.out.2.2.2.1.trans (hS.mono H6.out.2.2.2.1.size)⟩

theorem keeps_walk (A : Option Addr) (ps : List Pt) (len cap : Nat) (fl : Int) (W : World) (hT : Tab W) (hk : ps.length = len) (hI : InRows W A ps cap) (hfl : (Lit.int .u8 fl).wf = true) :
    Calls Tryd.prog 3 #[.slice A len cap, .int .u8 fl] W fun e W' => e = .returned (.bool true) ∧ Below W.heap.size W W' := by
  rcases Nat.lt_or_ge 20 len with h | h
  · exact keeps_long A len cap fl W hT h
  · exact keeps_any ps A len cap fl W hk hI hT (wf_u8 hfl) h
end Go.Proofs.YtbcnbehneodlgaaDoor
