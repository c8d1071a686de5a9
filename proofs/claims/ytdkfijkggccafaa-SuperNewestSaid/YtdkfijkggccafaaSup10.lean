/-
  The law SuperNewest, walked.
-/
import Derived.Test.YtdkfijkggccafaaSup8
namespace Go.Proofs.Ytdkfijkggccafaa
set_option maxRecDepth 4000
open Go.RowKit

set_option maxHeartbeats 4000000 in
theorem newest_walk (AA : Option Addr) (len cap : Nat) (zs : List Int) (place : Int) (w : World) (hrow : IsRow .u8 w AA len cap zs) (hpl : (Lit.int .i64 place).wf = true) :
    Calls Try.prog 4 #[.slice AA len cap, .int .i64 place] w fun e w' => e = .returned (.bool true) ∧ Below w.heap.size w w' := by
  obtain ⟨b, hb, hS, hlc, -⟩ := hrow.bytes
  have hnil : AA = none → cap = 0 := by
    intro h
    rcases hrow with ⟨-, -, h2, -⟩ | ⟨x, h2, -⟩
    · exact h2
    · rw [h] at h2; cases h2
  have HAW := Lib.hid awake_any
  by_cases hlen : 600 < len
  · have hi : (600 : Int) < (len : Int) := by omega
    go_enter Try.func4, Try.ntmps4
    go_wp2_with fail
    refine (HAW.out _).mono ?_
    rintro e w1 ⟨rfl, hb1⟩
    have HB1 := Lib.hid hb1
    clear hb1
    go_wp2_with fail
    refine (HAW.out _).mono ?_
    rintro e w2 ⟨rfl, hb2⟩
    have HB2 := Lib.hid (HB1.out.trans (hb2.mono HB1.out.size))
    go_wp2_with fail
    go_ret
    exact ⟨rfl, HB2.out⟩
  · have hi : ¬ (600 : Int) < (len : Int) := by omega
    have HNW := Lib.hid (fun w hS => newest_any b AA len cap w hS hb (by omega) hlc)
    have HRN := Lib.hid (rnewest_any b (by omega))
    have HRD := Lib.hid (fun w hS => read_any b AA len cap place w hS hb (by omega) hnil)
    have HRR := Lib.hid (rread_any b place (by omega))
    have HCV := Lib.hid (fun (w : World) (h : Sees w 1 AA len (u8s b)) => run_to_string (P := Try.prog) (w := w) Try.underlying25 Try.underlying5 Try.underlying9 cap h)
    generalize newS b = s at *
    generalize decide (newOk b) = q at *
    generalize readS b place = t at *
    generalize decide (rdOk b place) = o at *
    generalize str b = X at *
    obtain ⟨s1, s2, s3, s4, s5⟩ := s
    obtain ⟨t1, t2, t3, t4, t5⟩ := t
    have HS := Lib.hid hS
    have HSZ := Lib.hid (show (Try.prog.info? 23).map (·.size) = some 5 by kernel_rfl)
    clear hS hb hrow hpl hlc hnil
    unfold Sp.val at *
    go_enter Try.func4, Try.ntmps4
    go_wp2_with fail
    refine (HAW.out _).mono ?_
    rintro e w1 ⟨rfl, hb1⟩
    have HX := Lib.hid (HNW.out w1 (HS.out.below hb1))
    have HB1 := Lib.hid hb1
    clear hb1 HNW HAW
    go_wp2_with fail
    refine HX.out.mono ?_
    rintro e w2 ⟨rfl, hb2⟩
    have hal2 := alloc_row w2 23 #[.int .i64 0, .int .i64 0, .int .i64 0, .int .i64 0, .int .i64 0] #[.int .i64 s1, .int .i64 s2, .int .i64 s3, .int .i64 s4, .int .i64 s5]
    have hbz2 := hb2.trans (hal2.2.mono hb2.size)
    have HB2 := Lib.hid (HB1.out.trans (hbz2.mono HB1.out.size))
    have HP2 := Lib.hid hal2.1
    have HK2 := Lib.hid (Blk.new w2 23 #[.int .i64 0, .int .i64 0, .int .i64 0, .int .i64 0, .int .i64 0])
    have HS2 := Lib.hid (HS.out.below HB2.out)
    have HC2 := Lib.hid (HCV.out _ HS2.out)
    clear hal2 hbz2 hb2 HX HB1
    go_wp2_with (refine wpList_store_row rfl 23 (.tmp 5) (.tmp 24) rfl w2.heap.size _ rfl rfl 23 _ HK2.out (by exact HSZ.out) (Eq.refl 5) (by simp [Value.oneCell']) ?_; generalize (World.setRow _ _ _) = W2 at *; clear HK2; have hcv2 := HC2.out)
    refine (HRN.out _).mono ?_
    rintro e w3 ⟨rfl, hb3⟩
    have hal3 := alloc_row w3 23 #[.int .i64 0, .int .i64 0, .int .i64 0, .int .i64 0, .int .i64 0] #[.int .i64 s1, .int .i64 s2, .int .i64 s3, .int .i64 s4, .int .i64 s5]
    have hbz3 := hb3.trans (hal3.2.mono hb3.size)
    have HB3 := Lib.hid (HB2.out.trans (hbz3.mono HB2.out.size))
    have HP3 := Lib.hid (HP2.out.below hbz3 HP2.out.lt)
    have HQ3 := Lib.hid hal3.1
    have HK3 := Lib.hid (Blk.new w3 23 #[.int .i64 0, .int .i64 0, .int .i64 0, .int .i64 0, .int .i64 0])
    have HX3 := Lib.hid (HRD.out _ (HS.out.below HB3.out))
    clear hal3 hbz3 hb3 HB2 HP2 HC2 hcv2 HS2 HRN
    go_wp2_with (refine wpList_store_row rfl 23 (.tmp 7) (.tmp 30) rfl w3.heap.size _ rfl rfl 23 _ HK3.out (by exact HSZ.out) (Eq.refl 5) (by simp [Value.oneCell']) ?_; generalize (World.setRow _ _ _) = W3 at *; clear HK3)
    refine HX3.out.mono ?_
    rintro e w4 ⟨rfl, hb4⟩
    have hal4 := alloc_row w4 23 #[.int .i64 0, .int .i64 0, .int .i64 0, .int .i64 0, .int .i64 0] #[.int .i64 t1, .int .i64 t2, .int .i64 t3, .int .i64 t4, .int .i64 t5]
    have hbz4 := hb4.trans (hal4.2.mono hb4.size)
    have HB4 := Lib.hid (HB3.out.trans (hbz4.mono HB3.out.size))
    have HP4 := Lib.hid (HP3.out.below hbz4 HP3.out.lt)
    have HQ4 := Lib.hid (HQ3.out.below hbz4 HQ3.out.lt)
    have HT4 := Lib.hid hal4.1
    have HK4 := Lib.hid (Blk.new w4 23 #[.int .i64 0, .int .i64 0, .int .i64 0, .int .i64 0, .int .i64 0])
    have HC4 := Lib.hid (HCV.out _ (HS.out.below HB4.out))
    clear hal4 hbz4 hb4 HB3 HP3 HQ3 HX3 HRD HCV
    go_wp2_with (refine wpList_store_row rfl 23 (.tmp 9) (.tmp 36) rfl w4.heap.size _ rfl rfl 23 _ HK4.out (by exact HSZ.out) (Eq.refl 5) (by simp [Value.oneCell']) ?_; generalize (World.setRow _ _ _) = W4 at *; clear HK4; have hcv4 := HC4.out)
    refine (HRR.out _).mono ?_
    rintro e w5 ⟨rfl, hb5⟩
    have hal5 := alloc_row w5 23 #[.int .i64 0, .int .i64 0, .int .i64 0, .int .i64 0, .int .i64 0] #[.int .i64 t1, .int .i64 t2, .int .i64 t3, .int .i64 t4, .int .i64 t5]
    have hbz5 := hb5.trans (hal5.2.mono hb5.size)
    have HB5 := Lib.hid (HB4.out.trans (hbz5.mono HB4.out.size))
    have HP5 := Lib.hid (HP4.out.below hbz5 HP4.out.lt)
    have HQ5 := Lib.hid (HQ4.out.below hbz5 HQ4.out.lt)
    have HT5 := Lib.hid (HT4.out.below hbz5 HT4.out.lt)
    have HU5 := Lib.hid hal5.1
    have HK5 := Lib.hid (Blk.new w5 23 #[.int .i64 0, .int .i64 0, .int .i64 0, .int .i64 0, .int .i64 0])
    clear hal5 hbz5 hb5 HB4 HP4 HQ4 HT4 HC4 hcv4 HRR
    go_wp2_with (refine wpList_store_row rfl 23 (.tmp 11) (.tmp 43) rfl w5.heap.size _ rfl rfl 23 _ HK5.out (by exact HSZ.out) (Eq.refl 5) (by simp [Value.oneCell']) ?_; generalize (World.setRow _ _ _) = W5 at *; clear HK5; have a0 : W5.cell? ⟨w2.heap.size, 0, none⟩ = some (.int .i64 s1) := HP5.out.cell 0; have a1 : W5.cell? ⟨w2.heap.size, 1, none⟩ = some (.int .i64 s2) := HP5.out.cell 1; have a2 : W5.cell? ⟨w2.heap.size, 2, none⟩ = some (.int .i64 s3) := HP5.out.cell 2; have a3 : W5.cell? ⟨w2.heap.size, 3, none⟩ = some (.int .i64 s4) := HP5.out.cell 3; have a4 : W5.cell? ⟨w2.heap.size, 4, none⟩ = some (.int .i64 s5) := HP5.out.cell 4; have b0 : W5.cell? ⟨w3.heap.size, 0, none⟩ = some (.int .i64 s1) := HQ5.out.cell 0; have b1 : W5.cell? ⟨w3.heap.size, 1, none⟩ = some (.int .i64 s2) := HQ5.out.cell 1; have b2 : W5.cell? ⟨w3.heap.size, 2, none⟩ = some (.int .i64 s3) := HQ5.out.cell 2; have b3 : W5.cell? ⟨w3.heap.size, 3, none⟩ = some (.int .i64 s4) := HQ5.out.cell 3; have b4 : W5.cell? ⟨w3.heap.size, 4, none⟩ = some (.int .i64 s5) := HQ5.out.cell 4; have c0 : W5.cell? ⟨w4.heap.size, 0, none⟩ = some (.int .i64 t1) := HT5.out.cell 0; have c1 : W5.cell? ⟨w4.heap.size, 1, none⟩ = some (.int .i64 t2) := HT5.out.cell 1; have c2 : W5.cell? ⟨w4.heap.size, 2, none⟩ = some (.int .i64 t3) := HT5.out.cell 2; have c3 : W5.cell? ⟨w4.heap.size, 3, none⟩ = some (.int .i64 t4) := HT5.out.cell 3; have c4 : W5.cell? ⟨w4.heap.size, 4, none⟩ = some (.int .i64 t5) := HT5.out.cell 4; have d0 : W5.cell? ⟨w5.heap.size, 0, none⟩ = some (.int .i64 t1) := HU5.out.cell 0; have d1 : W5.cell? ⟨w5.heap.size, 1, none⟩ = some (.int .i64 t2) := HU5.out.cell 1; have d2 : W5.cell? ⟨w5.heap.size, 2, none⟩ = some (.int .i64 t3) := HU5.out.cell 2; have d3 : W5.cell? ⟨w5.heap.size, 3, none⟩ = some (.int .i64 t4) := HU5.out.cell 3; have d4 : W5.cell? ⟨w5.heap.size, 4, none⟩ = some (.int .i64 t5) := HU5.out.cell 4)
    go_ret
    exact ⟨rfl, HB5.out⟩
end Go.Proofs.Ytdkfijkggccafaa

