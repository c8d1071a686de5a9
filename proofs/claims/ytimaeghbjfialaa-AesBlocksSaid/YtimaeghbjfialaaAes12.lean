/-
  The law AesBoxes, walked.
-/
import Derived.Test.YtimaeghbjfialaaAes11
import Derived.Test.YtimaeghbjfialaaAes8
namespace Go.Proofs.Ytimaeghbjfialaa
open Go.RowKit

theorem boxes_walk (a0 a1 : Int) (w : World) (w0 : (Lit.int .u8 a0).wf = true) (w1 : (Lit.int .u8 a1).wf = true) :
    Calls Try.prog 4 #[.int .u8 a0, .int .u8 a1] w fun e w' => e = .returned (.bool true) ∧ Below w.heap.size w w' := by
  obtain ⟨a, rfl, ha⟩ := u8_nat w0
  obtain ⟨b, rfl, hb⟩ := u8_nat w1
  clear w0 w1
  have hai : (a : Int) < 256 := by omega
  have hbi : (b : Int) < 256 := by omega
  have hsb := sb_box ha
  have hxl := box_lt ha
  have hml := mul_lt b ha
  have HB := Lib.hid (box_any a ha)
  have HR := Lib.hid (rbox_any a ha)
  have HM := Lib.hid (mul_any a b ha hb)
  have HN := Lib.hid (rmul_any a b ha hb)
  have HX := Lib.hid Boxes_any
  have hcell : ∀ (w' : World) g, Blk w' g 3 (nis sbox).toArray → w'.cell? ⟨g, a, none⟩ = some (.int .i64 (box a : Nat)) := fun w' g h => by
    rw [bln_cell h (by rw [length_sbox]; exact ha), ← hsb]; rfl
  have HC := Lib.hid hcell; clear hcell hsb
  generalize box a = x at *
  generalize mul a b = m at *
  have hxi : (x : Int) < 256 := by omega
  have hmi : (m : Int) < 256 := by omega
  go_enter Try.func4, Try.ntmps4
  go_wp2_with fail
  refine (awake_any _).mono ?_
  rintro e w1 ⟨rfl, hbel⟩
  go_wp2_with fail
  refine (HB.out _).mono ?_
  rintro e w' ⟨rfl, rfl⟩
  go_wp2_with fail
  refine (HR.out _).mono ?_
  rintro e w' ⟨rfl, rfl⟩
  go_wp2_with fail
  refine (HB.out _).mono ?_
  rintro e w' ⟨rfl, rfl⟩
  go_wp2_with fail
  refine (HX.out _).mono ?_
  rintro e w2 ⟨g, rfl, hblk, hg, hbel2⟩
  have hc := HC.out w2 g hblk
  have HBL := Lib.hid hblk; clear hblk
  go_wp2_with fail
  refine (HM.out _).mono ?_
  rintro e w' ⟨rfl, rfl⟩
  go_wp2_with fail
  refine (HN.out _).mono ?_
  rintro e w' ⟨rfl, rfl⟩
  go_wp2_with fail
  go_ret
  exact ⟨rfl, hbel.trans (hbel2.mono hbel.size)⟩
end Go.Proofs.Ytimaeghbjfialaa
