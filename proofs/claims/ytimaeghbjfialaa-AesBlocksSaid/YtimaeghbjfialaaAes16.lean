/-
  The document's answer for a block, and the law AesBlocks, walked.
-/
import Derived.Test.YtimaeghbjfialaaAes15
import Derived.Test.YtimaeghbjfialaaAes9
namespace Go.Proofs.Ytimaeghbjfialaa
open Go.RowKit

set_option maxHeartbeats 1000000 in
theorem one_any (key b : List Nat) (hk : key.length = 16) (hkb : byt key) (hb : b.length = 16) (hbb : byt b) (w : World) :
    Calls Try.prog 10 #[.string (str (oct key)), .string (str (oct b))] w fun e w' => e = .returned (.string (str (oct (enc key b)))) ∧ Below w.heap.size w w' := by
  have HX := Lib.hid Boxes_any
  have HI1 := Lib.hid (ints_any key hkb (by omega))
  have HI2 := Lib.hid (ints_any b hbb (by omega))
  have hel : (enc key b).length = 16 := st_length _ _ _
  have heb : byt (enc key b) := st_byt hkb hbb 10
  rw [hk] at HI1
  rw [hb] at HI2
  go_enter Try.func10, Try.ntmps10
  go_wp2_with fail
  refine (HX.out _).mono ?_
  rintro e w1 ⟨gb, rfl, hblk, hgb, hb1⟩
  have HBLK := Lib.hid hblk; have HB1 := Lib.hid hb1; clear hblk hb1
  go_wp2_with fail
  refine (HI1.out _).mono ?_
  rintro e w2 ⟨⟨v1, rfl, hown1⟩, hb2⟩
  obtain ⟨g1, cap1, cu1, rfl, hg1, hc1, -⟩ := own_open hown1 (by omega)
  have hS1 : Sees w2 1 (some ⟨g1, 0, none⟩) 16 (nis key) := Sees.of_own hown1
  have hX2 := HBLK.out.below hb2 HBLK.out.lt
  have hbb2 : Below w.heap.size w w2 := HB1.out.trans (hb2.mono HB1.out.size)
  have HK := Lib.hid (keys_any key hk hkb (some ⟨g1, 0, none⟩) cap1 gb w2 hS1 hX2)
  have HX2 := Lib.hid hX2; have HBB2 := Lib.hid hbb2; clear hX2 hbb2 hS1 hown1 hc1 hb2 HBLK HB1
  go_wp2_with fail
  refine HK.out.mono ?_
  rintro e w3 ⟨⟨v2, rfl, hown2⟩, hb3⟩
  obtain ⟨g2, cap2, cu2, rfl, hg2, hc2, -⟩ := own_open hown2 (by omega)
  have hS2 : Sees w3 1 (some ⟨g2, 0, none⟩) 176 (nis (KF key)) := Sees.of_own hown2
  have hX3 := HX2.out.below hb3 HX2.out.lt
  have hbb3 : Below w.heap.size w w3 := HBB2.out.trans (hb3.mono HBB2.out.size)
  have hl2 := hc2.lt
  have HS2 := Lib.hid hS2; have HX3 := Lib.hid hX3; have HBB3 := Lib.hid hbb3; clear hS2 hX3 hbb3 hown2 hc2 hb3 HX2 HBB2 HK
  go_wp2_with fail
  refine (HI2.out _).mono ?_
  rintro e w4 ⟨⟨v3, rfl, hown3⟩, hb4⟩
  obtain ⟨g3, cap3, cu3, rfl, hg3, hc3, -⟩ := own_open hown3 (by omega)
  have hS3 : Sees w4 1 (some ⟨g3, 0, none⟩) 16 (nis b) := Sees.of_own hown3
  have hX4 := HX3.out.below hb4 HX3.out.lt
  have hS4 := HS2.out.below hb4
  have hbb4 : Below w.heap.size w w4 := HBB3.out.trans (hb4.mono HBB3.out.size)
  have HBLO := Lib.hid (rblock_any key b hk hkb hb hbb g2 cap2 gb g3 cap3 w4 hS4 (Nat.lt_of_lt_of_le hl2 hb4.size) hX4 hS3 hc3.lt)
  have HBB4 := Lib.hid hbb4; clear hX4 hS4 hbb4 hown3 hc3 hb4 hS3 HS2 HX3 HBB3
  go_wp2_with fail
  refine HBLO.out.mono ?_
  rintro e w5 ⟨g5, rfl, hb5, hb6⟩
  have hS5 : Sees w5 1 (some ⟨g5, 0, none⟩) 16 (nis (enc key b)) := ⟨by rw [length_nis, hel], fun _ => ⟨g5, 0, rfl, fun j u hu => by rw [Nat.zero_add, hb5.cell, List.getElem?_toArray, hu]⟩⟩
  have HT := Lib.hid (text2_any (enc key b) heb 16 hel (by omega) (by omega) g5 16 w5 hS5)
  have hbb5 : Below w.heap.size w w5 := HBB4.out.trans (hb6.mono HBB4.out.size)
  have HBB5 := Lib.hid hbb5; clear hbb5 hS5 hb5 hb6 HBLO HBB4
  go_wp2_with fail
  refine HT.out.mono ?_
  rintro e w6 ⟨rfl, hb7⟩
  go_wp2_with fail
  go_ret
  exact ⟨rfl, HBB5.out.trans (hb7.mono HBB5.out.size)⟩

set_option maxHeartbeats 1000000 in
theorem blocks_walk (k b : List Nat) (w : World) (lk : k.length = 16) (hk : byt k) (lb : b.length = 16) (hb : byt b) :
    Calls Try.prog 3 #[.agg (nbs k).toArray, .agg (nbs b).toArray] w fun e w' => e = .returned (.bool true) ∧ Below w.heap.size w w' := by
  have hi16 : (Try.prog.info? 22).map (·.size) = some 16 := by kernel_rfl
  have HI16 := Lib.hid hi16; clear hi16
  have HB1 := Lib.hid (block_any k b lk lb hk hb)
  have HT1 := Lib.hid (text_any (enc k b) (st_length _ _ _) (st_byt hk hb 10))
  have HT2 := Lib.hid (text_any k lk hk)
  have HT3 := Lib.hid (text_any b lb hb)
  have HO := Lib.hid (one_any k b lk hk lb hb)
  obtain ⟨ck, hck⟩ : ∃ c, c = (nbs k).toArray := ⟨_, rfl⟩
  obtain ⟨cb, hcb⟩ : ∃ c, c = (nbs b).toArray := ⟨_, rfl⟩
  have sk : ck.size = 16 := by rw [hck, nbs_size, lk]
  have sb' : cb.size = 16 := by rw [hcb, nbs_size, lb]
  rw [← hck, ← hcb] at HB1
  rw [← hck] at HT2
  rw [← hcb] at HT3
  rw [← hck, ← hcb]
  clear hck hcb
  generalize (nbs (enc k b)).toArray = E at *
  generalize str (oct (enc k b)) = s1 at *
  generalize str (oct k) = s2 at *
  generalize str (oct b) = s3 at *
  have hK0 : Blk ((w.alloc (.cells ck 22)).alloc (.cells cb 22)) w.heap.size 22 ck := (Blk.new _ _ _).alloc _
  have hB0 : Blk ((w.alloc (.cells ck 22)).alloc (.cells cb 22)) (w.heap.size + 1) 22 cb := Blk.new' (by simp) rfl
  have hbel0 : Below w.heap.size w ((w.alloc (.cells ck 22)).alloc (.cells cb 22)) := ((Below.refl _ _).alloc (Nat.le_refl _) _).alloc (by simp) _
  have HK0 := Lib.hid hK0; have HB0 := Lib.hid hB0; have HBEL0 := Lib.hid hbel0; clear hK0 hB0 hbel0
  go_enter Try.func3, Try.ntmps3
  go_wp2_with fail
  refine (awake_any _).mono ?_
  rintro e w1 ⟨rfl, hbw⟩
  have hK1 := HK0.out.below hbw HK0.out.lt
  have hB1 := HB0.out.below hbw HB0.out.lt
  have hbel1 : Below w.heap.size w w1 := HBEL0.out.trans (hbw.mono HBEL0.out.size)
  clear HK0 HB0 HBEL0 hbw
  have HK1 := Lib.hid hK1; have HB1' := Lib.hid hB1; have HBEL1 := Lib.hid hbel1; clear hK1 hB1 hbel1
  go_wp2_with fail
  refine region_plan [(0, true), (1, true), (4, true), (6, true), (2, false), (3, false), (5, false), (7, false), (8, false), (9, false), (10, false)] [1, 2, 3, 4, 5, 6] (fun w' => Blk w' w.heap.size 22 ck ∧ Blk w' (w.heap.size + 1) 22 cb) (by kernel_rfl) (by kernel_rfl) rfl (by kernel_rfl) ⟨HK1.out, HB1'.out⟩ (fun hS => ?_)
  refine plan_row rfl (fun _ _ _ _ h => h) rfl hS 22 (.tmp 2) rfl w.heap.size rfl 22 ck _ (fun w' h => h.1) Try.underlying22 rfl (by rw [sk]; exact HI16.out) ?_; simp only [Act.put, List.setIfInBounds_toArray, List.set_cons_zero, List.set_cons_succ]
  refine plan_row rfl (fun _ _ _ _ h => h) rfl hS 22 (.tmp 3) rfl (w.heap.size + 1) rfl 22 cb _ (fun w' h => h.2) Try.underlying22 rfl (by rw [sb']; exact HI16.out) ?_; simp only [Act.put, List.setIfInBounds_toArray, List.set_cons_zero, List.set_cons_succ]
  refine plan_row rfl (fun _ _ _ _ h => h) rfl hS 22 (.tmp 2) rfl w.heap.size rfl 22 ck _ (fun w' h => h.1) Try.underlying22 rfl (by rw [sk]; exact HI16.out) ?_; simp only [Act.put, List.setIfInBounds_toArray, List.set_cons_zero, List.set_cons_succ]
  refine plan_row rfl (fun _ _ _ _ h => h) rfl hS 22 (.tmp 3) rfl (w.heap.size + 1) rfl 22 cb _ (fun w' h => h.2) Try.underlying22 rfl (by rw [sb']; exact HI16.out) ?_; simp only [Act.put, List.setIfInBounds_toArray, List.set_cons_zero, List.set_cons_succ]
  refine plan_do (by rfl) (by rfl) (fun K hK => ?_)
  go_simp
  refine (HB1.out _).mono ?_
  rintro e w2 ⟨rfl, hb2⟩
  have hs2 : Blk w2 w.heap.size 22 ck ∧ Blk w2 (w.heap.size + 1) 22 cb := ⟨hS.1.below hb2 hS.1.lt, hS.2.below hb2 hS.2.lt⟩
  have hbel2 : Below w.heap.size w w2 := HBEL1.out.drew.trans (hb2.mono HBEL1.out.drew.size)
  refine hK.out _ _ (fun _ => hs2) (fun hS => ?_); clear hK K; replace hS := hS rfl; try simp only [Act.put, List.setIfInBounds_toArray, List.set_cons_zero, List.set_cons_succ]
  refine plan_do (by rfl) (by rfl) (fun K hK => ?_)
  go_simp
  refine (HT1.out _).mono ?_
  rintro e w3 ⟨rfl, hb3⟩
  have hs3 : Blk w3 w.heap.size 22 ck ∧ Blk w3 (w.heap.size + 1) 22 cb := ⟨hS.1.below hb3 hS.1.lt, hS.2.below hb3 hS.2.lt⟩
  have hbel3 : Below w.heap.size w w3 := hbel2.trans (hb3.mono hbel2.size)
  refine hK.out _ _ (fun _ => hs3) (fun hS => ?_); clear hK K; replace hS := hS rfl; try simp only [Act.put, List.setIfInBounds_toArray, List.set_cons_zero, List.set_cons_succ]
  refine plan_do (by rfl) (by rfl) (fun K hK => ?_)
  go_simp
  refine (HT2.out _).mono ?_
  rintro e w4 ⟨rfl, hb4⟩
  have hs4 : Blk w4 w.heap.size 22 ck ∧ Blk w4 (w.heap.size + 1) 22 cb := ⟨hS.1.below hb4 hS.1.lt, hS.2.below hb4 hS.2.lt⟩
  have hbel4 : Below w.heap.size w w4 := hbel3.trans (hb4.mono hbel3.size)
  refine hK.out _ _ (fun _ => hs4) (fun hS => ?_); clear hK K; replace hS := hS rfl; try simp only [Act.put, List.setIfInBounds_toArray, List.set_cons_zero, List.set_cons_succ]
  refine plan_do (by rfl) (by rfl) (fun K hK => ?_)
  go_simp
  refine (HT3.out _).mono ?_
  rintro e w5 ⟨rfl, hb5⟩
  have hbel5 : Below w.heap.size w w5 := hbel4.trans (hb5.mono hbel4.size)
  refine hK.out _ _ (fun h => by cases h) (fun _ => ?_); clear hK K; try simp only [Act.put, List.setIfInBounds_toArray, List.set_cons_zero, List.set_cons_succ]
  refine plan_do (by rfl) (by rfl) (fun K hK => ?_)
  go_simp
  refine (HO.out _).mono ?_
  rintro e w6 ⟨rfl, hb6⟩
  have hbel6 : Below w.heap.size w w6 := hbel5.trans (hb6.mono hbel5.size)
  refine hK.out _ _ (fun h => by cases h) (fun _ => ?_); clear hK K; try simp only [Act.put, List.setIfInBounds_toArray, List.set_cons_zero, List.set_cons_succ]
  refine plan_do (by rfl) (by rfl) (fun K hK => ?_)
  go_simp
  refine hK.out _ _ (fun h => by cases h) (fun _ => ?_); clear hK K; try simp only [Act.put, List.setIfInBounds_toArray, List.set_cons_zero, List.set_cons_succ]
  refine plan_do (by rfl) (by rfl) (fun K hK => ?_)
  go_simp
  refine hK.out _ _ (fun h => by cases h) (fun _ => ?_); clear hK K; try simp only [Act.put, List.setIfInBounds_toArray, List.set_cons_zero, List.set_cons_succ]
  refine plan_nil ?_
  go_wp2_with fail
  go_ret
  exact ⟨rfl, hbel6⟩
end Go.Proofs.Ytimaeghbjfialaa
