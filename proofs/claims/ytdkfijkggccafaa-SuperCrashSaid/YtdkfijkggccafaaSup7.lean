/-
  A superblock is stored and found.
-/
import Derived.Test.YtdkfijkggccafaaSup6
import Derived.Test.YtdkfijkggccafaaDisk4
import Derived.Test.YtdkfijkggccafaaDisk5
import Derived.Test.YtdkfijkggccafaaFault
namespace Go.Proofs.Ytdkfijkggccafaa
set_option maxRecDepth 4000
open Go.RowKit

theorem DiskTo.then {w w1 w2 : World} {b : Nat} {F F1 : Nat → Prop} {D' : Dk} (hf : Fr F w w1) (hs : ∀ k, k < w.heap.size → F1 k → F k) (h2 : DiskTo w1 b F1 D' w2) : DiskTo w b F D' w2 := by
  obtain ⟨F2, a2, f2, s2⟩ := h2
  exact ⟨F2, a2, hf.trans f2 hs, fun k hk h => hs k hk (s2 k (Nat.lt_of_lt_of_le hk hf.size) h)⟩

def Sp.place (s : Sp) : Nat := s.gen.toNat % 2
theorem Sp.place_eq (s : Sp) (h : s.right) : s.gen.tmod 2 = (s.place : Int) := by
  have := h.1
  unfold Sp.place
  rw [Int.tmod_eq_emod_of_nonneg (by omega)]
  omega
theorem there_place (s : Sp) (D : Dk) (hl : 256 ≤ D.safe.length) : (s.place + 1) * 128 ≤ D.safe.length := by
  unfold Sp.place; omega
theorem writeE_off (s : Sp) (D : Dk) (hl : 256 ≤ D.safe.length) (h0 : D.calls = 0) : D.writeE (s.place : Int) (spo s) = 22 := by
  unfold Dk.writeE
  have ht : thereN (s.place : Int) ((spo s).length / 128) D.size = true := by
    have := there_place s D hl
    rw [spo_length]
    unfold thereN thereB Dk.size
    exact decide_eq_true (by omega)
  rw [if_neg (by rw [spo_length]; decide), if_neg (by rw [ht]; decide), if_pos h0]

set_option maxHeartbeats 1000000 in
theorem store_none (s : Sp) (h : s.right) (b : Nat) (F : Nat → Prop) (D : Dk) (w : World) (hD : DiskAt w b F D) (hok : D.Ok) (hF : ∀ k, F k → k < w.heap.size) (hl : 256 ≤ D.safe.length) (h0 : D.calls = 0) :
    Calls Try.prog 17 #[.pointer (some ⟨b, 0, none⟩), s.val] w fun e w' => (∃ g, e = .returned (.iface 90 (.pointer (some ⟨g, 0, none⟩)))) ∧ DiskTo w b F D w' := by
  have HO := Lib.hid (octets_ok s h)
  have hpl := s.place_eq h
  have hp2 : s.place < 2 := Nat.mod_lt _ (by omega)
  have hwe := writeE_off s D hl h0
  have hsl := spo_length s
  generalize s.place = a at *
  generalize spo s = l at *
  obtain ⟨s1, s2, s3, s4, s5⟩ := s
  have hgw : IntKind.i64.wrap (a : Int) = (a : Int) := IntWalk.i64_in _ (by omega)
  replace hpl : s1.tmod 2 = (a : Int) := hpl
  have HWB := Lib.hid (fun A c w hD => write_bad b F D a A c l w hD hok (by omega) (by rw [hwe]; decide))
  rw [hwe, hsl] at HWB
  have HWR := Lib.hid (fun k w => wrap_no { data := #[115, 117, 112, 101, 114] } k 22 (by decide) w)
  have hal : Below w.heap.size w (w.alloc (.cells #[.int .i64 s1, .int .i64 s2, .int .i64 s3, .int .i64 s4, .int .i64 s5] 23)) := (Below.refl _ _).alloc (Nat.le_refl _) _
  have HBK := Lib.hid (Blk.new w 23 #[.int .i64 s1, .int .i64 s2, .int .i64 s3, .int .i64 s4, .int .i64 s5])
  have HA := Lib.hid hal; have HD := Lib.hid hD; have HL := Lib.hid hsl
  clear hal hD hwe hsl hl hok h h0 hF
  unfold Sp.val at *
  go_enter Try.func17, Try.ntmps17
  go_wp2_with fail
  refine (HO.out _).mono ?_
  rintro e w1 ⟨v1, rfl, hown1, hb1⟩
  obtain ⟨A1, c1, rfl⟩ := own_shape hown1
  have c0 : w1.cell? ⟨w.heap.size, 0, none⟩ = some (.int .i64 s1) := (HBK.out.below hb1 HBK.out.lt).cell 0
  have hb01 := HA.out.trans (hb1.mono HA.out.size)
  have HX := Lib.hid (HWB.out A1 c1 w1 (HD.out.below hb01))
  have HB1 := Lib.hid hb01
  clear hown1 hb1 hb01 HO HWB
  go_wp2_with fail
  refine HX.out.mono ?_
  rintro e w2 ⟨rfl, hto⟩
  have hd2 := DiskTo.then (Fr.of_below HB1.out F) (fun _ _ h => h) hto
  have HD2 := Lib.hid hd2
  clear hto hd2 HX
  go_wp2_with fail
  refine (HWR.out _ _).mono ?_
  rintro e w3 ⟨rfl, hb, hb3⟩
  have HD3 := Lib.hid (HD2.out.below hb3)
  clear hb hb3
  go_wp2_with fail
  go_ret
  exact ⟨⟨_, rfl⟩, HD3.out⟩

set_option maxHeartbeats 1000000 in
theorem store_full (s : Sp) (h : s.right) (b : Nat) (F : Nat → Prop) (D : Dk) (w : World) (hD : DiskAt w b F D) (hok : D.Ok) (hF : ∀ k, F k → k < w.heap.size) (hl : 256 ≤ D.safe.length) (hq : D.queue.length ≤ 1000000) (h0 : D.calls ≠ 0) (h1 : D.calls ≠ 1) :
    Calls Try.prog 17 #[.pointer (some ⟨b, 0, none⟩), s.val] w fun e w' => e = .returned Value.nilIface ∧ DiskTo w b F (D.push s.place (spo s) 1).flushed w' := by
  have HO := Lib.hid (octets_ok s h)
  have hpl := s.place_eq h
  have hp2 : s.place < 2 := Nat.mod_lt _ (by omega)
  have hfit := there_place s D hl
  have hsl := spo_length s
  generalize s.place = a at *
  generalize spo s = l at *
  obtain ⟨s1, s2, s3, s4, s5⟩ := s
  have hgw : IntKind.i64.wrap (a : Int) = (a : Int) := IntWalk.i64_in _ (by omega)
  replace hpl : s1.tmod 2 = (a : Int) := hpl
  have HWB := Lib.hid (fun A c w hD (hc : 128 ≤ c) (hcm : c ≤ maxLen) (hS : Sees w 1 A 128 (u8s l)) hA => (write_good b F D a 1 A c l w hD hok (by omega) (by omega) hcm hS hA (by omega) (by omega) (by omega) : Calls Try.prog _ #[.pointer (some ⟨b, 0, none⟩), .int .i64 a, .slice A 128 c] w _))
  have HWR := Lib.hid (fun k w => wrap_ok { data := #[115, 117, 112, 101, 114] } k  w)
  have HFL := Lib.hid (fun F w hD => flush_good b F (D.push a l 1) w hD (hok.push a l 1 (by omega) (by omega)) (by simp only [Dk.push, List.length_append, parts, List.length_map, List.length_range]; omega) (by simp only [Dk.push, nextCalls]; split <;> omega))
  have hal : Below w.heap.size w (w.alloc (.cells #[.int .i64 s1, .int .i64 s2, .int .i64 s3, .int .i64 s4, .int .i64 s5] 23)) := (Below.refl _ _).alloc (Nat.le_refl _) _
  have HBK := Lib.hid (Blk.new w 23 #[.int .i64 s1, .int .i64 s2, .int .i64 s3, .int .i64 s4, .int .i64 s5])
  have HA := Lib.hid hal; have HD := Lib.hid hD; have HL := Lib.hid hsl; have HF := Lib.hid hF
  clear hal hD hsl hl hok h hF hfit hq
  unfold Sp.val at *
  go_enter Try.func17, Try.ntmps17
  go_wp2_with fail
  refine (HO.out _).mono ?_
  rintro e w1 ⟨v1, rfl, hown1, hb1⟩
  obtain ⟨g1, c1, cur, rfl, hg1, -, hc1, hcm1, -⟩ := own_open hown1 (by omega)
  have hS1 := Sees.of_own hown1
  have c0 : w1.cell? ⟨w.heap.size, 0, none⟩ = some (.int .i64 s1) := (HBK.out.below hb1 HBK.out.lt).cell 0
  have hb01 := HA.out.trans (hb1.mono HA.out.size)
  have hws := HA.out.size
  have HX := Lib.hid (HWB.out (some ⟨g1, 0, none⟩) c1 w1 (HD.out.below hb01) hc1 hcm1 hS1 (fun _ a ha hFa => by have := HF.out _ hFa; injection ha with ha; subst ha; simp only at this; omega))
  have HB1 := Lib.hid hb01
  clear hown1 hb1 hb01 HO HWB hS1 hc1 hcm1 hg1 hws
  go_wp2_with fail
  refine HX.out.mono ?_
  rintro e w2 ⟨rfl, F2, hd2, hf2, hs2⟩
  have hf02 : Fr F w w2 := (Fr.of_below HB1.out F).trans hf2 (fun _ _ h => h)
  have hs02 : ∀ k, k < w.heap.size → F2 k → F k := fun k hk h => hs2 k (Nat.lt_of_lt_of_le hk HB1.out.size) h
  have HFX := Lib.hid (HFL.out F2 w2 hd2)
  have H02 := Lib.hid (And.intro hf02 hs02)
  clear hd2 hf2 hs2 hf02 hs02 HX HFL
  go_wp2_with fail
  refine HFX.out.mono ?_
  rintro e w3 ⟨rfl, hto⟩
  have HD3 := Lib.hid (DiskTo.then H02.out.1 H02.out.2 hto)
  clear hto HFX
  go_wp2_with fail
  refine (HWR.out _ _).mono ?_
  rintro e w4 ⟨rfl, rfl⟩
  go_wp2_with fail
  go_ret
  exact ⟨rfl, HD3.out⟩

set_option maxHeartbeats 1000000 in
theorem store_half (s : Sp) (h : s.right) (b : Nat) (F : Nat → Prop) (D : Dk) (w : World) (hD : DiskAt w b F D) (hok : D.Ok) (hF : ∀ k, F k → k < w.heap.size) (hl : 256 ≤ D.safe.length) (hq : D.queue.length ≤ 1000000) (h0 : D.calls = 1) :
    Calls Try.prog 17 #[.pointer (some ⟨b, 0, none⟩), s.val] w fun e w' => (∃ g, e = .returned (.iface 90 (.pointer (some ⟨g, 0, none⟩)))) ∧ DiskTo w b F (D.push s.place (spo s) 1) w' := by
  have HO := Lib.hid (octets_ok s h)
  have hpl := s.place_eq h
  have hp2 : s.place < 2 := Nat.mod_lt _ (by omega)
  have hfit := there_place s D hl
  have hsl := spo_length s
  generalize s.place = a at *
  generalize spo s = l at *
  obtain ⟨s1, s2, s3, s4, s5⟩ := s
  have hgw : IntKind.i64.wrap (a : Int) = (a : Int) := IntWalk.i64_in _ (by omega)
  replace hpl : s1.tmod 2 = (a : Int) := hpl
  have HWB := Lib.hid (fun A c w hD (hc : 128 ≤ c) (hcm : c ≤ maxLen) (hS : Sees w 1 A 128 (u8s l)) hA => (write_good b F D a 1 A c l w hD hok (by omega) (by omega) hcm hS hA (by omega) (by omega) (by omega) : Calls Try.prog _ #[.pointer (some ⟨b, 0, none⟩), .int .i64 a, .slice A 128 c] w _))
  have HWR := Lib.hid (fun k w => wrap_no { data := #[115, 117, 112, 101, 114] } k 22 (by decide) w)
  have HFL := Lib.hid (fun F w hD => flush_bad b F (D.push a l 1) w hD (hok.push a l 1 (by omega) (by omega)) (by simp only [Dk.push, nextCalls]; rw [if_pos (by omega)]; omega))
  have hal : Below w.heap.size w (w.alloc (.cells #[.int .i64 s1, .int .i64 s2, .int .i64 s3, .int .i64 s4, .int .i64 s5] 23)) := (Below.refl _ _).alloc (Nat.le_refl _) _
  have HBK := Lib.hid (Blk.new w 23 #[.int .i64 s1, .int .i64 s2, .int .i64 s3, .int .i64 s4, .int .i64 s5])
  have HA := Lib.hid hal; have HD := Lib.hid hD; have HL := Lib.hid hsl; have HF := Lib.hid hF
  clear hal hD hsl hl hok h hF hfit hq
  unfold Sp.val at *
  go_enter Try.func17, Try.ntmps17
  go_wp2_with fail
  refine (HO.out _).mono ?_
  rintro e w1 ⟨v1, rfl, hown1, hb1⟩
  obtain ⟨g1, c1, cur, rfl, hg1, -, hc1, hcm1, -⟩ := own_open hown1 (by omega)
  have hS1 := Sees.of_own hown1
  have c0 : w1.cell? ⟨w.heap.size, 0, none⟩ = some (.int .i64 s1) := (HBK.out.below hb1 HBK.out.lt).cell 0
  have hb01 := HA.out.trans (hb1.mono HA.out.size)
  have hws := HA.out.size
  have HX := Lib.hid (HWB.out (some ⟨g1, 0, none⟩) c1 w1 (HD.out.below hb01) hc1 hcm1 hS1 (fun _ a ha hFa => by have := HF.out _ hFa; injection ha with ha; subst ha; simp only at this; omega))
  have HB1 := Lib.hid hb01
  clear hown1 hb1 hb01 HO HWB hS1 hc1 hcm1 hg1 hws
  go_wp2_with fail
  refine HX.out.mono ?_
  rintro e w2 ⟨rfl, F2, hd2, hf2, hs2⟩
  have hf02 : Fr F w w2 := (Fr.of_below HB1.out F).trans hf2 (fun _ _ h => h)
  have hs02 : ∀ k, k < w.heap.size → F2 k → F k := fun k hk h => hs2 k (Nat.lt_of_lt_of_le hk HB1.out.size) h
  have HFX := Lib.hid (HFL.out F2 w2 hd2)
  have H02 := Lib.hid (And.intro hf02 hs02)
  clear hd2 hf2 hs2 hf02 hs02 HX HFL
  go_wp2_with fail
  refine HFX.out.mono ?_
  rintro e w3 ⟨rfl, hto⟩
  have HD3 := Lib.hid (DiskTo.then H02.out.1 H02.out.2 hto)
  clear hto HFX
  go_wp2_with fail
  refine (HWR.out _ _).mono ?_
  rintro e w4 ⟨rfl, hb, hb3⟩
  have HD4 := Lib.hid (HD3.out.below hb3)
  clear hb hb3
  go_wp2_with fail
  go_ret
  exact ⟨⟨_, rfl⟩, HD4.out⟩

set_option maxHeartbeats 1000000 in
theorem find_ok (b : Nat) (F : Nat → Prop) (D : Dk) (w : World) (hD : DiskAt w b F D) (hok : D.Ok) (hF : ∀ k, F k → k < w.heap.size) (hl : 256 ≤ D.safe.length) (hq : D.queue.length ≤ 1000000) (h0 : D.calls ≠ 0) (hn : newOk (D.piece 0 2)) :
    Calls Try.prog 20 #[.pointer (some ⟨b, 0, none⟩)] w fun e w' => e = .returned (.tuple #[(newS (D.piece 0 2)).val, Value.nilIface]) ∧ DiskTo w b F D.ticked w' := by
  have HRD := Lib.hid (fun w hD => read_good b F D 0 2 w hD hok (by omega) h0 (by omega))
  have hpl : (D.piece 0 2).length = 256 := by
    unfold Dk.piece
    rw [List.length_take, List.length_drop, hok.image]; omega
  have HNW := Lib.hid (fun A c w hS hc => newest_any (D.piece 0 2) A 256 c w hS hpl (by omega) hc)
  rw [decide_eq_true hn] at HNW
  generalize hnS : newS (D.piece 0 2) = s at *
  generalize D.piece 0 2 = l at *
  have HSZ := Lib.hid (show (Try.prog.info? 23).map (·.size) = some 5 by kernel_rfl)
  obtain ⟨s1, s2, s3, s4, s5⟩ := s
  have hal : Below w.heap.size w (w.alloc (.cells #[.int .i64 0, .int .i64 0, .int .i64 0, .int .i64 0, .int .i64 0] 23)) := (Below.refl _ _).alloc (Nat.le_refl _) _
  have HZ := Lib.hid (Blk.new w 23 #[.int .i64 0, .int .i64 0, .int .i64 0, .int .i64 0, .int .i64 0])
  have HA := Lib.hid hal; have HD := Lib.hid hD; have HF := Lib.hid hF
  clear hal hD hok hF hn hnS hpl
  unfold Sp.val at *
  go_enter Try.func20, Try.ntmps20
  go_wp2_with fail
  refine (HRD.out _ (HD.out.below HA.out)).mono ?_
  rintro e w1 ⟨v1, rfl, hown1, hd1, hf1⟩
  obtain ⟨g1, c1, cur, rfl, hg1, -, hc1, -, -⟩ := own_open hown1 (by omega)
  have hS1 := Sees.of_own hown1
  have hz1 := HZ.out.fr hf1 (fun h => Nat.lt_irrefl _ (HF.out _ h))
  have hf01 : Fr F w w1 := (Fr.of_below HA.out F).trans hf1 (fun _ _ h => h)
  have HX := Lib.hid (HNW.out (some ⟨g1, 0, none⟩) c1 w1 hS1 hc1)
  have H1 := Lib.hid (And.intro hz1 (And.intro hd1 hf01))
  clear hS1 hz1 hf01 hown1 hd1 hf1 hg1 hc1 HRD HNW
  go_wp2_with fail
  refine HX.out.mono ?_
  rintro e w2 ⟨rfl, hb2⟩
  have hal2 := alloc_row w2 23 #[.int .i64 0, .int .i64 0, .int .i64 0, .int .i64 0, .int .i64 0] #[.int .i64 s1, .int .i64 s2, .int .i64 s3, .int .i64 s4, .int .i64 s5]
  have hb13 := hb2.trans (hal2.2.mono hb2.size)
  have hz3 := H1.out.1.below hb13 H1.out.1.lt
  have hd3 := H1.out.2.1.below hb13
  have hf3 : Fr F w _ := H1.out.2.2.trans (Fr.of_below hb13 F) (fun _ _ h => h)
  have HK := Lib.hid (Blk.new w2 23 #[.int .i64 0, .int .i64 0, .int .i64 0, .int .i64 0, .int .i64 0])
  have H3 := Lib.hid (And.intro hal2.1 (And.intro hz3 (And.intro hd3 hf3)))
  clear hal2 hb13 hz3 hd3 hf3 H1 HX hb2
  go_wp2_with first
    | (refine wpList_store_row rfl 23 (.tmp 6) (.tmp 25) rfl w2.heap.size _ rfl rfl 23 _ HK.out (by exact HSZ.out) (Eq.refl 5) (by simp [Value.oneCell']) ?_; generalize (World.setRow _ _ _) = W2 at *; have c0 : W2.cell? ⟨w2.heap.size, 0, none⟩ = some (.int .i64 s1) := H3.out.1.cell 0; have c1 : W2.cell? ⟨w2.heap.size, 1, none⟩ = some (.int .i64 s2) := H3.out.1.cell 1; have c2 : W2.cell? ⟨w2.heap.size, 2, none⟩ = some (.int .i64 s3) := H3.out.1.cell 2; have c3 : W2.cell? ⟨w2.heap.size, 3, none⟩ = some (.int .i64 s4) := H3.out.1.cell 3; have c4 : W2.cell? ⟨w2.heap.size, 4, none⟩ = some (.int .i64 s5) := H3.out.1.cell 4)
    | (refine wpList_store_row rfl 23 (.tmp 2) (.tmp 31) rfl w.heap.size _ rfl rfl 23 _ H3.out.2.1 (by exact HSZ.out) (Eq.refl 5) (by simp [Value.oneCell']) ?_)
  have hfs : Fr (· = w.heap.size) W2 (W2.setRow w.heap.size #[.int .i64 s1, .int .i64 s2, .int .i64 s3, .int .i64 s4, .int .i64 s5]) := Fr.setRow W2 w.heap.size _ rfl
  refine bodyPost_ret (results_row_tmp rfl _ _ w.heap.size 23 _ (0, 0) _ rfl (H3.out.2.1.setRow _) Try.underlying23 rfl (by exact HSZ.out)) rfl ⟨rfl, F, ?_, ?_, fun _ _ h => h⟩
  · exact H3.out.2.2.1.fr hfs (fun k hk e => Nat.lt_irrefl _ (e ▸ HF.out k hk))
  · exact H3.out.2.2.2.trans hfs (fun k hk e => absurd hk (by subst e; exact Nat.lt_irrefl _))
end Go.Proofs.Ytdkfijkggccafaa
