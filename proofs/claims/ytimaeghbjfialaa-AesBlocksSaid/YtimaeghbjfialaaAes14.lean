/-
  The document's round keys.
-/
import Derived.Test.YtimaeghbjfialaaAes13
namespace Go.Proofs.Ytimaeghbjfialaa
open Go.RowKit

theorem sees_cell {w : World} {g n i : Nat} {l : List Nat} (h : Sees w 1 (some ⟨g, 0, none⟩) n (nis l)) (hi : i < n) : w.cell? ⟨g, i, none⟩ = some (.int .i64 (l.getD i 0 : Nat)) := by
  have hl : l.length = n := by have := h.1; rwa [length_nis, Nat.mul_one] at this
  obtain ⟨g', off, e, hc⟩ := h.2 (by omega)
  injection e with e; injection e with e1 e2; subst e1 e2
  have := hc i _ (nis_get (l := l) (by omega))
  rwa [Nat.zero_add] at this
theorem take_get {l : List Nat} {n i : Nat} (h : i < n) : (l.take n).getD i 0 = l.getD i 0 := by
  rw [List.getD_eq_getElem?_getD, List.getElem?_take_of_lt h, ← List.getD_eq_getElem?_getD]
theorem drop_get {l : List Nat} {n i : Nat} : (l.drop n).getD i 0 = l.getD (n + i) 0 := by
  rw [List.getD_eq_getElem?_getD, List.getElem?_drop, ← List.getD_eq_getElem?_getD]

set_option maxRecDepth 100000 in
set_option maxHeartbeats 4000000 in
theorem keys_any (key : List Nat) (hk : key.length = 16) (hkb : byt key) (A : Option Addr) (c gb : Nat) (w : World) (hA : Sees w 1 A 16 (nis key)) (hbx : Blk w gb 3 (nis sbox).toArray) :
    Calls Try.prog 23 #[.slice A 16 c, .slice (some ⟨gb, 0, none⟩) 256 256] w fun e w' => (∃ v, e = .returned v ∧ w'.ownsRow w.heap.size 3 1 v 176 (nis (KF key))) ∧ Below w.heap.size w w' := by
  have hKl := KF_length hk
  have hk0 : (KF key).take 16 = key := by
    refine list_ext (by simp [hKl, hk]) fun i hi => ?_
    have hi : i < 16 := by simp [hKl] at hi; omega
    rw [take_get hi, KF_key (by omega)]
  have hA1 : Sees (w.alloc (.cells #[] 3)) 1 A 16 (nis key) := hA.below ((Below.refl _ _).alloc (Nat.le_refl _) _)
  have HA := Lib.hid hA; have HA1 := Lib.hid hA1; have HBX := Lib.hid hbx; clear hA hA1
  have hgb := hbx.lt
  clear hbx
  go_enter Try.func23, Try.ntmps23
  go_wp2_with (at_builtin; refine wpList_app rfl (.tmp 10) (.tmp 11) _ rfl w.heap.size 3 _ 1 8 Try.underlying30 info_int rfl (by decide) (.slice (some ⟨w.heap.size, 0, none⟩) 0 0) 0 [] rfl (World.ownsRow_made w #[] 0 (Nat.le_refl _) (Nat.zero_le _) rfl) _ 16 c (nis key) rfl HA1.out (nis_ones key) (by unfold maxLen; omega) (by omega) (by simp) ?_; intro v1 w1 hown1 hgr1 hat1 hnil1)
  have hb1 : Below w.heap.size w w1 := ((Below.refl _ _).alloc (Nat.le_refl _) _).grown hgr1 (by simp) (fun k hk => by simp [Value.ownBlock] at hk; omega)
  rw [Nat.zero_add, List.nil_append] at hown1
  have HO1 := Lib.hid hown1; have HB1 := Lib.hid hb1; clear hown1 hb1 hgr1 hat1 hnil1
  go_loopw [5, 6, 7] (fun v p ii wr => ∃ i : Nat, 4 ≤ i ∧ i ≤ 44 ∧ ii = .int .i64 i ∧ p = .int .i64 (pw ((i - 1) / 4) : Nat) ∧ wr.ownsRow w.heap.size 3 1 v (4 * i) (nis ((KF key).take (4 * i))) ∧ Below w.heap.size w wr) (fun _ _ ii _ => 44 - (intOf ii).toNat)
  case atStart => exact ⟨4, by omega, by omega, rfl, rfl, by rw [show 4 * 4 = 16 from rfl, hk0]; exact HO1.out, HB1.out⟩
  case round =>
    obtain ⟨i, hi4, hi, rfl, rfl, hown, hbr⟩ := hrel
    clear HO1 HB1
    by_cases hlt : i < 44
    · have hlti : (i : Int) < 44 := by omega
      obtain ⟨g, cap, cu, rfl, hg, hblk, hnc, hcm, -⟩ := own_open hown (by omega)
      have hS : Sees wr 1 (some ⟨g, 0, none⟩) (4 * i) (nis ((KF key).take (4 * i))) := Sees.of_own hown
      have hP := (hS.piece (4 * i - 4) 4 (by omega)).below (w' := wr.alloc (.cells #[] 3)) ((Below.refl _ _).alloc (Nat.le_refl _) _)
      rw [Nat.zero_add, show ((nis ((KF key).take (4 * i))).drop (4 * i - 4)).take 4 = nis (((KF key).take (4 * i)).drop (4 * i - 4)) by
        rw [List.take_of_length_le (by simp [nis, hKl]; omega)]; simp [nis, List.map_drop]] at hP
      have hglt := hblk.lt
      have hbsz := hbr.size
      have HOWN := Lib.hid hown; have HBLK := Lib.hid hblk; have HS := Lib.hid hS; have HP := Lib.hid hP; have HBR := Lib.hid hbr; clear hown hblk hS hP hbr
      have hcne : ¬ cap = 4 * i - 4 := by omega
      have hw0 : IntKind.i64.wrap (4 * (i : Int)) = 4 * (i : Int) := IntWalk.i64_in _ (by omega)
      have hn1 : (4 * (i : Int) - 4).toNat = 4 * i - 4 := by omega
      have hn2 : (4 * (i : Int)).toNat = 4 * i := by omega
      have hq1 : (0 : Int) ≤ 4 * (i : Int) - 4 := by omega
      have hq2 : 4 * (i : Int) - 4 ≤ 4 * (i : Int) := by omega
      have hq3 : 4 * (i : Int) ≤ (cap : Int) := by omega
      have hsub : 4 * i - (4 * i - 4) = 4 := by omega
      have hpz : ∀ k, k < 4 → (((KF key).take (4 * i)).drop (4 * i - 4)).getD k 0 = (KF key).getD (4 * i - 4 + k) 0 := fun k hk => by rw [drop_get, take_get (by omega)]
      by_cases hm : i % 4 = 0
      · have hmi : (i : Int).tmod 4 = 0 := by rw [Int.tmod_eq_emod_of_nonneg (by omega)]; omega
        have hp0 : (i - 1) / 4 = i / 4 - 1 := by omega
        rw [hp0]
        have hpw : pw ((i + 1 - 1) / 4) = dbl (pw (i / 4 - 1)) := by
          rw [show (i + 1 - 1) / 4 = (i / 4 - 1) + 1 by omega]; rfl
        obtain ⟨x0, hx0⟩ : ∃ x, x = (KF key).getD (4 * i - 4) 0 := ⟨_, rfl⟩
        obtain ⟨x1, hx1⟩ : ∃ x, x = (KF key).getD (4 * i - 4 + 1) 0 := ⟨_, rfl⟩
        obtain ⟨x2, hx2⟩ : ∃ x, x = (KF key).getD (4 * i - 4 + 2) 0 := ⟨_, rfl⟩
        obtain ⟨x3, hx3⟩ : ∃ x, x = (KF key).getD (4 * i - 4 + 3) 0 := ⟨_, rfl⟩
        have l0 : x0 < 256 := by rw [hx0]; exact KF_byt hkb _
        have l1 : x1 < 256 := by rw [hx1]; exact KF_byt hkb _
        have l2 : x2 < 256 := by rw [hx2]; exact KF_byt hkb _
        have l3 : x3 < 256 := by rw [hx3]; exact KF_byt hkb _
        have step0 : ∀ k, k < 4 → (KF key).getD (4 * i + k) 0 = (KF key).getD (4 * i - 16 + k) 0 ^^^ ([sb x1 ^^^ pw (i / 4 - 1), sb x2, sb x3, sb x0] : List Nat).getD k 0 := fun k hk4 => by
          rw [KF_step hk (by omega) (by omega)]
          unfold kb
          rw [if_pos (by omega), show 4 * i + k - 16 = 4 * i - 16 + k by omega, show 4 * ((4 * i + k) / 4) - 4 = 4 * i - 4 by omega, show (4 * i + k) % 4 = k by omega, show (4 * i + k) / 16 - 1 = i / 4 - 1 by omega]
          have hkk : k = 0 ∨ k = 1 ∨ k = 2 ∨ k = 3 := by omega
          rcases hkk with rfl | rfl | rfl | rfl
          · rw [hx1]; rfl
          · rw [hx2]; simp
          · rw [hx3]; simp
          · rw [hx0]; simp
        have hp256 := pw_lt (i / 4 - 1)
        obtain ⟨p0, hp0e⟩ : ∃ p0, p0 = pw (i / 4 - 1) := ⟨_, rfl⟩
        rw [← hp0e] at hpw step0 hp256 ⊢
        have HPW := Lib.hid hpw; clear hpw
        have HST := Lib.hid step0; clear step0
        have hpx0 := hpz 0 (by omega); have hpx1 := hpz 1 (by omega); have hpx2 := hpz 2 (by omega); have hpx3 := hpz 3 (by omega)
        rw [Nat.add_zero, ← hx0] at hpx0
        rw [← hx1] at hpx1
        rw [← hx2] at hpx2
        rw [← hx3] at hpx3
        have HPX0 := Lib.hid hpx0; have HPX1 := Lib.hid hpx1; have HPX2 := Lib.hid hpx2; have HPX3 := Lib.hid hpx3
        have HPZ := Lib.hid hpz; clear hpz hm hx0 hx1 hx2 hx3 hpx0 hpx1 hpx2 hpx3 hp0e hp0
        have MK := Lib.hid (rmul_any p0 2 hp256 (by omega))
        rw [mul_two hp256] at MK
        have HXR := Lib.hid (i64_xor_nat (sb x1) p0 (by have := sb_lt x1; omega) (by omega))
        go_wp2_with (at_builtin; refine wpList_app rfl (.tmp 17) (.tmp 24) _ rfl wr.heap.size 3 _ 1 8 Try.underlying30 info_int rfl (by decide) (.slice (some ⟨wr.heap.size, 0, none⟩) 0 0) 0 [] rfl (World.ownsRow_made wr #[] 0 (Nat.le_refl _) (Nat.zero_le _) rfl) (some ⟨g, 4 * i - 4, none⟩) 4 _ (nis (((KF key).take (4 * i)).drop (4 * i - 4))) rfl HP.out (nis_ones _) (by decide) (by decide) (by simp) ?_; intro v2 w2 hown2 hgr2 hat2 hnil2; have HO2 := Lib.hid hown2; have HG2 := Lib.hid hgr2; clear hown2 hgr2 hat2 hnil2; refine Go.RowKit.Hid.out ?_)
        refine Lib.hid ?_
        have hown2 := HO2.out
        rw [Nat.zero_add, List.nil_append] at hown2
        obtain ⟨gt, capt, cut, rfl, hgt, hbt, hnt, hmt, -⟩ := own_open hown2 (by omega)
        have hb2w : Below wr.heap.size wr w2 := ((Below.refl _ _).alloc (Nat.le_refl _) _).grown HG2.out (by simp) (fun k hk => by simp [Value.ownBlock] at hk; omega)
        have hTS0 : Sees w2 1 (some ⟨gt, 0, none⟩) 4 (nis (((KF key).take (4 * i)).drop (4 * i - 4))) := Sees.of_own hown2
        have hownX0 := own_below HOWN.out hb2w
        have hbelX0 := HBR.out.trans (hb2w.mono hbsz)
        have hbx2 : Blk w2 gb 3 (nis sbox).toArray := HBX.out.below hbelX0 hgb
        have hw2s : wr.heap.size ≤ w2.heap.size := hb2w.size
        have hcx : ∀ w', Sees w' 1 (some ⟨gt, 0, none⟩) 4 (nis (((KF key).take (4 * i)).drop (4 * i - 4))) → w'.cell? ⟨gt, 0, none⟩ = some (.int .i64 (x0 : Nat)) ∧ w'.cell? ⟨gt, 1, none⟩ = some (.int .i64 (x1 : Nat)) ∧ w'.cell? ⟨gt, 2, none⟩ = some (.int .i64 (x2 : Nat)) ∧ w'.cell? ⟨gt, 3, none⟩ = some (.int .i64 (x3 : Nat)) := fun w' h =>
          ⟨by rw [sees_cell h (by omega), HPX0.out], by rw [sees_cell h (by omega), HPX1.out], by rw [sees_cell h (by omega), HPX2.out], by rw [sees_cell h (by omega), HPX3.out]⟩
        have hcy : ∀ w', Blk w' gb 3 (nis sbox).toArray → w'.cell? ⟨gb, x0, none⟩ = some (.int .i64 (sb x0 : Nat)) ∧ w'.cell? ⟨gb, x1, none⟩ = some (.int .i64 (sb x1 : Nat)) ∧ w'.cell? ⟨gb, x2, none⟩ = some (.int .i64 (sb x2 : Nat)) ∧ w'.cell? ⟨gb, x3, none⟩ = some (.int .i64 (sb x3 : Nat)) := fun w' h =>
          ⟨bln_cell h (by rw [length_sbox]; exact l0), bln_cell h (by rw [length_sbox]; exact l1), bln_cell h (by rw [length_sbox]; exact l2), bln_cell h (by rw [length_sbox]; exact l3)⟩
        have HCX := Lib.hid hcx; have HCY := Lib.hid hcy; have HTS0 := Lib.hid hTS0; have HBX2 := Lib.hid hbx2; have HOX := Lib.hid hownX0; have HBE := Lib.hid hbelX0; clear hcx hcy hTS0 hbx2 hownX0 hbelX0 hbt hown2 hb2w HO2 HG2
        have hi0 : (x0 : Int) < 256 := by omega
        have hi1 : (x1 : Int) < 256 := by omega
        have hi2 : (x2 : Int) < 256 := by omega
        have hi3 : (x3 : Int) < 256 := by omega
        go_wp2_with fail
        refine region_plan [(0, true), (1, true), (2, true), (3, true), (4, true), (5, true), (6, true), (7, true), (8, true), (9, true), (10, true), (11, true), (12, true), (13, true), (14, true), (15, true), (16, true), (17, true), (18, true), (19, true), (20, true), (21, true), (22, true), (23, true), (24, true), (25, true), (26, false), (27, false)] [1, 2, 3, 6, 8, 9, 10, 11, 12, 13, 14, 15, 16, 17, 18, 19, 20, 21, 22, 23, 24, 25] (fun w' => Sees w' 1 (some ⟨gt, 0, none⟩) 4 (nis (((KF key).take (4 * i)).drop (4 * i - 4))) ∧ Blk w' gb 3 (nis sbox).toArray) (by kernel_rfl) (by kernel_rfl) rfl (by kernel_rfl) ⟨HTS0.out, HBX2.out⟩ (fun hS => ?_)
        repeat (first
          | (refine plan_read (v := ?_) rfl (fun _ _ _ h => h) rfl hS ?_ ?_; rotate_left 1; (focus (intro w' hS'; obtain ⟨ha0, ha1, ha2, ha3⟩ := HCX.out _ hS'.1; obtain ⟨hb0, hb1, hb2, hb3⟩ := HCY.out _ hS'.2; go_simp; try rfl)); simp only [Act.put, List.setIfInBounds_toArray, List.set_cons_zero, List.set_cons_succ])
          | (refine plan_skip rfl (fun _ _ _ h => h) rfl hS ?_; simp only [Act.put, List.setIfInBounds_toArray, List.set_cons_zero, List.set_cons_succ]))
        refine plan_do (by rfl) (by rfl) (fun K hK => ?_)
        go_simp
        rw [HXR.out]
        refine hK.out _ _ (fun h => by cases h) (fun _ => ?_); clear hK K; try simp only [Act.put, List.setIfInBounds_toArray, List.set_cons_zero, List.set_cons_succ]
        refine plan_do (by rfl) (by rfl) (fun K hK => ?_)
        go_simp
        refine hK.out _ _ (fun h => by cases h) (fun _ => ?_); clear hK K; try simp only [Act.put, List.setIfInBounds_toArray, List.set_cons_zero, List.set_cons_succ]
        refine plan_nil ?_
        go_wp2_with fail
        refine (MK.out _).mono ?_
        rintro e w' ⟨rfl, rfl⟩
        obtain ⟨gT, hgT⟩ : ∃ g, g = w2.heap.size := ⟨_, rfl⟩
        have hTS : Sees (w2.alloc (.cells (nis [sb x1 ^^^ p0, sb x2, sb x3, sb x0]).toArray 3)).drew 1 (some ⟨gT, 0, none⟩) 4 (nis [sb x1 ^^^ p0, sb x2, sb x3, sb x0]) := by rw [hgT]; exact sees_new w2 3 _ 1 4 rfl
        have hbal : Below w2.heap.size w2 (w2.alloc (.cells (nis [sb x1 ^^^ p0, sb x2, sb x3, sb x0]).toArray 3)).drew := ((Below.refl _ _).alloc (Nat.le_refl _) _).drew
        have hownX := own_below HOX.out hbal
        have hneX : ∀ h, (Value.slice (some ⟨g, 0, none⟩) (4 * i) cap).ownBlock = some h → h ≠ gT := fun h hh => by simp [Value.ownBlock] at hh; omega
        have hbelX := HBE.out.trans (hbal.mono HBE.out.size)
        have hgTX : gT < (w2.alloc (.cells (nis [sb x1 ^^^ p0, sb x2, sb x3, sb x0]).toArray 3)).drew.heap.size := by rw [hgT]; simp
        rw [← hgT]
        clear hbal HBX2 HTS0 HCX HCY HOX HBE
        have HW3 : Hid ((nis [sb x1 ^^^ p0, sb x2, sb x3, sb x0]).toArray = #[.int .i64 (sb x1 ^^^ p0 : Nat), .int .i64 (sb x2 : Nat), .int .i64 (sb x3 : Nat), .int .i64 (sb x0 : Nat)]) := Lib.hid rfl
        rw [← HW3.out]
        generalize (w2.alloc (.cells (nis [sb x1 ^^^ p0, sb x2, sb x3, sb x0]).toArray 3)).drew = W3 at *
        clear HW3 hgT
        have hTl : ([sb x1 ^^^ p0, sb x2, sb x3, sb x0]).length = 4 := rfl
        have hKN : ∀ k, k < 4 → (KF key).getD (4 * i + k) 0 = (KF key).getD (4 * i - 16 + k) 0 ^^^ ([sb x1 ^^^ p0, sb x2, sb x3, sb x0]).getD k 0 := HST.out
        have HKN := Lib.hid hKN; clear hKN
        obtain ⟨T, hT⟩ : ∃ T, T = [sb x1 ^^^ p0, sb x2, sb x3, sb x0] := ⟨_, rfl⟩
        rw [← hT] at hTl HKN hTS
        clear hT
        have HTS := Lib.hid hTS; have HOW := Lib.hid hownX; have HNE := Lib.hid hneX; have HBX := Lib.hid hbelX; clear hTS hownX hneX hbelX
        go_wp2_with fail
        go_loopw [5, 9] (fun v kk wq => ∃ k : Nat, k ≤ 4 ∧ kk = .int .i64 k ∧ wq.ownsRow w.heap.size 3 1 v (4 * i + k) (nis ((KF key).take (4 * i + k))) ∧ (∀ h, v.ownBlock = some h → h ≠ gT) ∧ Sees wq 1 (some ⟨gT, 0, none⟩) 4 (nis T) ∧ gT < wq.heap.size ∧ Below w.heap.size w wq) (fun _ kk _ => 4 - (intOf kk).toNat)
        case atStart => exact ⟨0, by omega, rfl, HOW.out, HNE.out, HTS.out, hgTX, HBX.out⟩
        case round =>
          obtain ⟨k, hk4, rfl, hown, hne, hts, hgs, hbq⟩ := hrel
          clear HTS HOW HNE HBX
          by_cases hlk : k < 4
          · have hlki : (k : Int) < 4 := by omega
            obtain ⟨g2, cap2, cu2, rfl, hg2, hb2, hn2, hm2, -⟩ := own_open hown (by omega)
            have hs2 : Sees wr 1 (some ⟨g2, 0, none⟩) (4 * i + k) (nis ((KF key).take (4 * i + k))) := Sees.of_own hown
            obtain ⟨a, ha⟩ : ∃ a, a = (KF key).getD (4 * i - 16 + k) 0 := ⟨_, rfl⟩
            obtain ⟨b, hb⟩ : ∃ b, b = T.getD k 0 := ⟨_, rfl⟩
            have hca : ∀ w', Sees w' 1 (some ⟨g2, 0, none⟩) (4 * i + k) (nis ((KF key).take (4 * i + k))) → w'.cell? ⟨g2, 4 * i - 16 + k, none⟩ = some (.int .i64 (a : Nat)) := fun w' h => by
              have := sees_cell h (show 4 * i - 16 + k < 4 * i + k by omega)
              rw [this, take_get (by omega), ha]
            have hcb : ∀ w', Sees w' 1 (some ⟨gT, 0, none⟩) 4 (nis T) → w'.cell? ⟨gT, k, none⟩ = some (.int .i64 (b : Nat)) := fun w' h => by
              have := sees_cell h hlk
              rw [this, hb]
            have ha2 : a < 256 := by rw [ha]; exact KF_byt hkb _
            have hnk := HKN.out k hlk
            rw [← ha, ← hb] at hnk
            have hb256 : b < 256 := by
              have h1 : a ^^^ (a ^^^ b) = b := xor_can a b
              rw [← h1, ← hnk]; exact xor_lt ha2 (KF_byt hkb _)
            have HX := Lib.hid (i64_xor_nat a b (by omega) (by omega))
            have HCA := Lib.hid hca; have HCB := Lib.hid hcb; have HNK := Lib.hid hnk; clear hca hcb hnk ha hb
            have hw1 : IntKind.i64.wrap (4 * (i : Int)) = 4 * (i : Int) := IntWalk.i64_in _ (by omega)
            have hw2 : IntKind.i64.wrap (4 * (i : Int) - 16) = 4 * (i : Int) - 16 := IntWalk.i64_in _ (by omega)
            have hw3 : IntKind.i64.wrap (4 * (i : Int) - 16 + (k : Int)) = 4 * (i : Int) - 16 + (k : Int) := IntWalk.i64_in _ (by omega)
            have hw4 : (4 * (i : Int) - 16 + (k : Int)).toNat = 4 * i - 16 + k := by omega
            have hw5 : (0 : Int) ≤ 4 * (i : Int) - 16 + (k : Int) := by omega
            have hw6 : 4 * (i : Int) - 16 + (k : Int) < ((4 * i + k : Nat) : Int) := by omega
            have hw7 : 4 * (i : Int) - 16 + (k : Int) < 4 * (i : Int) + (k : Int) := by omega
            have HOWN := Lib.hid hown; have HB2 := Lib.hid hb2; have HTS := Lib.hid hts; have HS2 := Lib.hid hs2; have HBQ := Lib.hid hbq; have HNE := Lib.hid hne; clear hown hb2 hts hs2 hbq hne
            go_wp2_with fail
            refine region_plan [(0, true), (1, true), (2, true), (3, true), (4, true), (5, true), (6, true), (7, true), (8, true), (9, true), (10, true), (11, true), (12, true), (13, true), (14, false), (15, false), (16, false)] [1, 2, 3, 4, 5, 6, 7, 8, 9, 10, 11, 12, 13, 14] (fun w' => Sees w' 1 (some ⟨g2, 0, none⟩) (4 * i + k) (nis ((KF key).take (4 * i + k))) ∧ Sees w' 1 (some ⟨gT, 0, none⟩) 4 (nis T)) (by kernel_rfl) (by kernel_rfl) rfl (by kernel_rfl) ⟨HS2.out, HTS.out⟩ (fun hS => ?_)
            repeat (first
              | (refine plan_read (v := ?_) rfl (fun _ _ _ h => h) rfl hS ?_ ?_; rotate_left 1; (focus (intro w' hS'; have hca := HCA.out _ hS'.1; have hcb := HCB.out _ hS'.2; go_simp; try rfl)); simp only [Act.put, List.setIfInBounds_toArray, List.set_cons_zero, List.set_cons_succ])
              | (refine plan_skip rfl (fun _ _ _ h => h) rfl hS ?_; simp only [Act.put, List.setIfInBounds_toArray, List.set_cons_zero, List.set_cons_succ]))
            refine plan_do (by rfl) (by rfl) (fun K hK => ?_)
            go_simp
            rw [HX.out]
            refine hK.out _ _ (fun _ => ⟨hS.1.below ((Below.refl _ _).alloc (Nat.le_refl _) _), hS.2.below ((Below.refl _ _).alloc (Nat.le_refl _) _)⟩) (fun hS => ?_); clear hK K; replace hS := hS rfl; try simp only [Act.put, List.setIfInBounds_toArray, List.set_cons_zero, List.set_cons_succ]
            have hbal : Below wr.heap.size wr ((wr.alloc (.cells #[.int .i64 (a ^^^ b : Nat)] 3)).drew) := ((Below.refl _ wr).alloc (Nat.le_refl _) _).drew
            have hsz2 : ((wr.alloc (.cells #[.int .i64 (a ^^^ b : Nat)] 3)).drew).heap.size = wr.heap.size + 1 := by simp
            refine plan_do (by rfl) (by rfl) (fun K hK => ?_)
            refine wp_app (.tmp 62) (.tmp 76) 30 rfl w.heap.size 3 _ 1 8 Try.underlying30 info_int rfl (by decide) (.slice (some ⟨g2, 0, none⟩) (4 * i + k) cap2) (4 * i + k) (nis ((KF key).take (4 * i + k))) rfl (own_below HOWN.out hbal) (some ⟨wr.heap.size, 0, none⟩) 1 _ [.int .i64 (a ^^^ b : Nat)] rfl (sees_new wr _ [.int .i64 (a ^^^ b : Nat)] 1 1 rfl) (by simp [Value.oneCell']) (by unfold maxLen; omega) (by omega) (by rw [hsz2]; have := HBQ.out.size; omega) ?_
            intro v3 w3 hown3 hgr3 hat3 hnil3
            have hbw3 : Below w.heap.size w w3 := (HBQ.out.trans (hbal.mono HBQ.out.size)).grown hgr3 (by rw [hsz2]; have := HBQ.out.size; omega) (fun k hk => (HOWN.out.lt k hk).1)
            have hfr3 : Fr (fun k => (Value.slice (some ⟨g2, 0, none⟩) (4 * i + k) cap2).ownBlock = some k) ((wr.alloc (.cells #[.int .i64 (a ^^^ b : Nat)] 3)).drew) w3 := Fr.of_grown hgr3 (fun k h => h)
            have hts3 : Sees w3 1 (some ⟨gT, 0, none⟩) 4 (nis T) := hS.2.fr hfr3 (fun _ x hx => by injection hx with hx; subst hx; exact fun h => HNE.out _ h rfl)
            have hgs3 : gT < w3.heap.size := Nat.lt_of_lt_of_le (by rw [hsz2]; omega) hfr3.size
            have hne3 : ∀ h, v3.ownBlock = some h → h ≠ gT := fun h hh => by
              rcases hat3 with e | e
              · exact HNE.out h (by rw [← e]; exact hh)
              · rw [hh, hsz2] at e; injection e with e; omega
            have hx3 : w3.ownsRow w.heap.size 3 1 v3 (4 * i + (k + 1)) (nis ((KF key).take (4 * i + (k + 1)))) := by
              rw [← Nat.add_assoc, take_next (by omega), HNK.out, nis_append]; exact hown3
            have HX3 := Lib.hid hx3; have HT3 := Lib.hid hts3; have HB3 := Lib.hid hbw3; have HN3 := Lib.hid hne3; clear hx3 hts3 hbw3 hne3 hfr3 hgr3 hown3 hat3 hnil3
            refine hK.out _ _ (fun h => by cases h) (fun _ => ?_); clear hK K; try simp only [Act.put, List.setIfInBounds_toArray, List.set_cons_zero, List.set_cons_succ]
            refine plan_do (by rfl) (by rfl) (fun K hK => ?_)
            go_simp
            refine hK.out _ _ (fun h => by cases h) (fun _ => ?_); clear hK K; try simp only [Act.put, List.setIfInBounds_toArray, List.set_cons_zero, List.set_cons_succ]
            refine plan_nil ?_
            go_wp2_with fail
            go_roundw
            case rel => exact ⟨k + 1, by omega, by go_num, HX3.out, HN3.out, HT3.out, hgs3, HB3.out⟩
            case measure => simp [intOf]; omega
          · obtain rfl : k = 4 := by omega
            have HOWN := Lib.hid hown; have HTS := Lib.hid hts; have HBQ := Lib.hid hbq; have HNE := Lib.hid hne; clear hown hts hbq hne
            go_wp2_with fail
            go_roundw
            case rel => exact ⟨i + 1, by omega, by omega, by go_num, by rw [HPW.out], by rw [show 4 * (i + 1) = 4 * i + 4 by omega]; exact HOWN.out, HBQ.out⟩
            case measure => simp [intOf]; omega
      · obtain ⟨d, hd⟩ : ∃ d, d = i % 4 := ⟨_, rfl⟩
        have hmi : (i : Int).tmod 4 = (d : Int) := by rw [Int.tmod_eq_emod_of_nonneg (by omega)]; omega
        have hd0 : ((d : Int) == 0) = false := by simp; omega
        have hpw : pw ((i + 1 - 1) / 4) = pw ((i - 1) / 4) := by rw [show (i + 1 - 1) / 4 = (i - 1) / 4 by omega]
        have step1 : ∀ k, k < 4 → (KF key).getD (4 * i + k) 0 = (KF key).getD (4 * i - 16 + k) 0 ^^^ (((KF key).take (4 * i)).drop (4 * i - 4)).getD k 0 := fun k hk4 => by
          rw [hpz k hk4, KF_step hk (by omega) (by omega)]
          unfold kb
          rw [if_neg (by omega), show 4 * i + k - 16 = 4 * i - 16 + k by omega, show 4 * i + k - 4 = 4 * i - 4 + k by omega]
        have HPW := Lib.hid hpw; clear hpw
        have HST := Lib.hid step1; clear step1
        have HPZ := Lib.hid hpz; clear hpz hm hd
        generalize pw ((i - 1) / 4) = p at *
        go_wp2_with (at_builtin; refine wpList_app rfl (.tmp 17) (.tmp 24) _ rfl wr.heap.size 3 _ 1 8 Try.underlying30 info_int rfl (by decide) (.slice (some ⟨wr.heap.size, 0, none⟩) 0 0) 0 [] rfl (World.ownsRow_made wr #[] 0 (Nat.le_refl _) (Nat.zero_le _) rfl) (some ⟨g, 4 * i - 4, none⟩) 4 _ (nis (((KF key).take (4 * i)).drop (4 * i - 4))) rfl HP.out (nis_ones _) (by decide) (by decide) (by simp) ?_; intro v2 w2 hown2 hgr2 hat2 hnil2; have HO2 := Lib.hid hown2; have HG2 := Lib.hid hgr2; clear hown2 hgr2 hat2 hnil2; refine Go.RowKit.Hid.out ?_)
        refine Lib.hid ?_
        have hown2 := HO2.out
        rw [Nat.zero_add, List.nil_append] at hown2
        obtain ⟨gT, capt, cut, rfl, hgt, hbt, hnt, hmt, -⟩ := own_open hown2 (by omega)
        have hb2w : Below wr.heap.size wr w2 := ((Below.refl _ _).alloc (Nat.le_refl _) _).grown HG2.out (by simp) (fun k hk => by simp [Value.ownBlock] at hk; omega)
        have hTS : Sees w2 1 (some ⟨gT, 0, none⟩) 4 (nis (((KF key).take (4 * i)).drop (4 * i - 4))) := Sees.of_own hown2
        have hownX := own_below HOWN.out hb2w
        have hneX : ∀ h, (Value.slice (some ⟨g, 0, none⟩) (4 * i) cap).ownBlock = some h → h ≠ gT := fun h hh => by simp [Value.ownBlock] at hh; omega
        have hbelX := HBR.out.trans (hb2w.mono hbsz)
        have hgTX := hbt.lt
        clear hbt hown2 hb2w HO2 HG2
        have hTl : (((KF key).take (4 * i)).drop (4 * i - 4)).length = 4 := by simp [hKl]; omega
        have hKN : ∀ k, k < 4 → (KF key).getD (4 * i + k) 0 = (KF key).getD (4 * i - 16 + k) 0 ^^^ (((KF key).take (4 * i)).drop (4 * i - 4)).getD k 0 := HST.out
        have HKN := Lib.hid hKN; clear hKN
        obtain ⟨T, hT⟩ : ∃ T, T = ((KF key).take (4 * i)).drop (4 * i - 4) := ⟨_, rfl⟩
        rw [← hT] at hTl HKN hTS
        clear hT
        have HTS := Lib.hid hTS; have HOW := Lib.hid hownX; have HNE := Lib.hid hneX; have HBX := Lib.hid hbelX; clear hTS hownX hneX hbelX
        go_wp2_with fail
        go_loopw [5, 9] (fun v kk wq => ∃ k : Nat, k ≤ 4 ∧ kk = .int .i64 k ∧ wq.ownsRow w.heap.size 3 1 v (4 * i + k) (nis ((KF key).take (4 * i + k))) ∧ (∀ h, v.ownBlock = some h → h ≠ gT) ∧ Sees wq 1 (some ⟨gT, 0, none⟩) 4 (nis T) ∧ gT < wq.heap.size ∧ Below w.heap.size w wq) (fun _ kk _ => 4 - (intOf kk).toNat)
        case atStart => exact ⟨0, by omega, rfl, HOW.out, HNE.out, HTS.out, hgTX, HBX.out⟩
        case round =>
          obtain ⟨k, hk4, rfl, hown, hne, hts, hgs, hbq⟩ := hrel
          clear HTS HOW HNE HBX
          by_cases hlk : k < 4
          · have hlki : (k : Int) < 4 := by omega
            obtain ⟨g2, cap2, cu2, rfl, hg2, hb2, hn2, hm2, -⟩ := own_open hown (by omega)
            have hs2 : Sees wr 1 (some ⟨g2, 0, none⟩) (4 * i + k) (nis ((KF key).take (4 * i + k))) := Sees.of_own hown
            obtain ⟨a, ha⟩ : ∃ a, a = (KF key).getD (4 * i - 16 + k) 0 := ⟨_, rfl⟩
            obtain ⟨b, hb⟩ : ∃ b, b = T.getD k 0 := ⟨_, rfl⟩
            have hca : ∀ w', Sees w' 1 (some ⟨g2, 0, none⟩) (4 * i + k) (nis ((KF key).take (4 * i + k))) → w'.cell? ⟨g2, 4 * i - 16 + k, none⟩ = some (.int .i64 (a : Nat)) := fun w' h => by
              have := sees_cell h (show 4 * i - 16 + k < 4 * i + k by omega)
              rw [this, take_get (by omega), ha]
            have hcb : ∀ w', Sees w' 1 (some ⟨gT, 0, none⟩) 4 (nis T) → w'.cell? ⟨gT, k, none⟩ = some (.int .i64 (b : Nat)) := fun w' h => by
              have := sees_cell h hlk
              rw [this, hb]
            have ha2 : a < 256 := by rw [ha]; exact KF_byt hkb _
            have hnk := HKN.out k hlk
            rw [← ha, ← hb] at hnk
            have hb256 : b < 256 := by
              have h1 : a ^^^ (a ^^^ b) = b := xor_can a b
              rw [← h1, ← hnk]; exact xor_lt ha2 (KF_byt hkb _)
            have HX := Lib.hid (i64_xor_nat a b (by omega) (by omega))
            have HCA := Lib.hid hca; have HCB := Lib.hid hcb; have HNK := Lib.hid hnk; clear hca hcb hnk ha hb
            have hw1 : IntKind.i64.wrap (4 * (i : Int)) = 4 * (i : Int) := IntWalk.i64_in _ (by omega)
            have hw2 : IntKind.i64.wrap (4 * (i : Int) - 16) = 4 * (i : Int) - 16 := IntWalk.i64_in _ (by omega)
            have hw3 : IntKind.i64.wrap (4 * (i : Int) - 16 + (k : Int)) = 4 * (i : Int) - 16 + (k : Int) := IntWalk.i64_in _ (by omega)
            have hw4 : (4 * (i : Int) - 16 + (k : Int)).toNat = 4 * i - 16 + k := by omega
            have hw5 : (0 : Int) ≤ 4 * (i : Int) - 16 + (k : Int) := by omega
            have hw6 : 4 * (i : Int) - 16 + (k : Int) < ((4 * i + k : Nat) : Int) := by omega
            have hw7 : 4 * (i : Int) - 16 + (k : Int) < 4 * (i : Int) + (k : Int) := by omega
            have HOWN := Lib.hid hown; have HB2 := Lib.hid hb2; have HTS := Lib.hid hts; have HS2 := Lib.hid hs2; have HBQ := Lib.hid hbq; have HNE := Lib.hid hne; clear hown hb2 hts hs2 hbq hne
            go_wp2_with fail
            refine region_plan [(0, true), (1, true), (2, true), (3, true), (4, true), (5, true), (6, true), (7, true), (8, true), (9, true), (10, true), (11, true), (12, true), (13, true), (14, false), (15, false), (16, false)] [1, 2, 3, 4, 5, 6, 7, 8, 9, 10, 11, 12, 13, 14] (fun w' => Sees w' 1 (some ⟨g2, 0, none⟩) (4 * i + k) (nis ((KF key).take (4 * i + k))) ∧ Sees w' 1 (some ⟨gT, 0, none⟩) 4 (nis T)) (by kernel_rfl) (by kernel_rfl) rfl (by kernel_rfl) ⟨HS2.out, HTS.out⟩ (fun hS => ?_)
            repeat (first
              | (refine plan_read (v := ?_) rfl (fun _ _ _ h => h) rfl hS ?_ ?_; rotate_left 1; (focus (intro w' hS'; have hca := HCA.out _ hS'.1; have hcb := HCB.out _ hS'.2; go_simp; try rfl)); simp only [Act.put, List.setIfInBounds_toArray, List.set_cons_zero, List.set_cons_succ])
              | (refine plan_skip rfl (fun _ _ _ h => h) rfl hS ?_; simp only [Act.put, List.setIfInBounds_toArray, List.set_cons_zero, List.set_cons_succ]))
            refine plan_do (by rfl) (by rfl) (fun K hK => ?_)
            go_simp
            rw [HX.out]
            refine hK.out _ _ (fun _ => ⟨hS.1.below ((Below.refl _ _).alloc (Nat.le_refl _) _), hS.2.below ((Below.refl _ _).alloc (Nat.le_refl _) _)⟩) (fun hS => ?_); clear hK K; replace hS := hS rfl; try simp only [Act.put, List.setIfInBounds_toArray, List.set_cons_zero, List.set_cons_succ]
            have hbal : Below wr.heap.size wr ((wr.alloc (.cells #[.int .i64 (a ^^^ b : Nat)] 3)).drew) := ((Below.refl _ wr).alloc (Nat.le_refl _) _).drew
            have hsz2 : ((wr.alloc (.cells #[.int .i64 (a ^^^ b : Nat)] 3)).drew).heap.size = wr.heap.size + 1 := by simp
            refine plan_do (by rfl) (by rfl) (fun K hK => ?_)
            refine wp_app (.tmp 62) (.tmp 76) 30 rfl w.heap.size 3 _ 1 8 Try.underlying30 info_int rfl (by decide) (.slice (some ⟨g2, 0, none⟩) (4 * i + k) cap2) (4 * i + k) (nis ((KF key).take (4 * i + k))) rfl (own_below HOWN.out hbal) (some ⟨wr.heap.size, 0, none⟩) 1 _ [.int .i64 (a ^^^ b : Nat)] rfl (sees_new wr _ [.int .i64 (a ^^^ b : Nat)] 1 1 rfl) (by simp [Value.oneCell']) (by unfold maxLen; omega) (by omega) (by rw [hsz2]; have := HBQ.out.size; omega) ?_
            intro v3 w3 hown3 hgr3 hat3 hnil3
            have hbw3 : Below w.heap.size w w3 := (HBQ.out.trans (hbal.mono HBQ.out.size)).grown hgr3 (by rw [hsz2]; have := HBQ.out.size; omega) (fun k hk => (HOWN.out.lt k hk).1)
            have hfr3 : Fr (fun k => (Value.slice (some ⟨g2, 0, none⟩) (4 * i + k) cap2).ownBlock = some k) ((wr.alloc (.cells #[.int .i64 (a ^^^ b : Nat)] 3)).drew) w3 := Fr.of_grown hgr3 (fun k h => h)
            have hts3 : Sees w3 1 (some ⟨gT, 0, none⟩) 4 (nis T) := hS.2.fr hfr3 (fun _ x hx => by injection hx with hx; subst hx; exact fun h => HNE.out _ h rfl)
            have hgs3 : gT < w3.heap.size := Nat.lt_of_lt_of_le (by rw [hsz2]; omega) hfr3.size
            have hne3 : ∀ h, v3.ownBlock = some h → h ≠ gT := fun h hh => by
              rcases hat3 with e | e
              · exact HNE.out h (by rw [← e]; exact hh)
              · rw [hh, hsz2] at e; injection e with e; omega
            have hx3 : w3.ownsRow w.heap.size 3 1 v3 (4 * i + (k + 1)) (nis ((KF key).take (4 * i + (k + 1)))) := by
              rw [← Nat.add_assoc, take_next (by omega), HNK.out, nis_append]; exact hown3
            have HX3 := Lib.hid hx3; have HT3 := Lib.hid hts3; have HB3 := Lib.hid hbw3; have HN3 := Lib.hid hne3; clear hx3 hts3 hbw3 hne3 hfr3 hgr3 hown3 hat3 hnil3
            refine hK.out _ _ (fun h => by cases h) (fun _ => ?_); clear hK K; try simp only [Act.put, List.setIfInBounds_toArray, List.set_cons_zero, List.set_cons_succ]
            refine plan_do (by rfl) (by rfl) (fun K hK => ?_)
            go_simp
            refine hK.out _ _ (fun h => by cases h) (fun _ => ?_); clear hK K; try simp only [Act.put, List.setIfInBounds_toArray, List.set_cons_zero, List.set_cons_succ]
            refine plan_nil ?_
            go_wp2_with fail
            go_roundw
            case rel => exact ⟨k + 1, by omega, by go_num, HX3.out, HN3.out, HT3.out, hgs3, HB3.out⟩
            case measure => simp [intOf]; omega
          · obtain rfl : k = 4 := by omega
            have HOWN := Lib.hid hown; have HTS := Lib.hid hts; have HBQ := Lib.hid hbq; have HNE := Lib.hid hne; clear hown hts hbq hne
            go_wp2_with fail
            go_roundw
            case rel => exact ⟨i + 1, by omega, by omega, by go_num, by rw [HPW.out], by rw [show 4 * (i + 1) = 4 * i + 4 by omega]; exact HOWN.out, HBQ.out⟩
            case measure => simp [intOf]; omega
    · obtain rfl : i = 44 := by omega
      rw [show (4 * 44 : Nat) = 176 from rfl, List.take_of_length_le (by omega)] at hown
      go_wp2_with fail
      go_ret
      exact ⟨⟨_, rfl, hown⟩, hbr⟩
end Go.Proofs.Ytimaeghbjfialaa
