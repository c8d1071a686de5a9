/-
  The law FaultNil, walked.
-/
import Derived.Test.YtnfcnjnecankbaaDoorFt15
namespace Go.Proofs.YtnfcnjnecankbaaDoor
set_option maxRecDepth 4000
open Go.RowKit

theorem plc_self (op : ByteArray) (k : Int) : plc op [⟨op, k⟩] = (k, true) := by
  unfold plc
  rw [if_pos (by simp)]

set_option maxHeartbeats 4000000 in
theorem nils_any (op : ByteArray) (k : Int) (w : World) (hT : Tabs w) (hop : op.size ≤ maxLen) (hk : -9223372036854775808 ≤ k ∧ k ≤ 9223372036854775807) :
    Calls Tryd.prog 6 #[.string op, .int .i64 k] w fun r w' => r = .returned (.bool true) ∧ Below w.heap.size w w' := by
  have HAW := Lib.hid awake_any
  have HT := Lib.hid hT
  have hnn : op.size ≤ 9223372036854775807 := by unfold maxLen at hop; omega
  have HOK := Lib.hid (show LkOk ⟨op, k⟩ from ⟨hk, hop⟩)
  have HNB := Lib.hid (fun w => rnum_any k hk.1 hk.2 w)
  have hle := itoa_le k hk
  obtain ⟨X, hX⟩ : ∃ X, str (Lib.itoa k) = X := ⟨_, rfl⟩
  obtain ⟨U1, hU1⟩ : ∃ U, op ++ (ByteArray.mk #[32]) = U := ⟨_, rfl⟩
  obtain ⟨U2, hU2⟩ : ∃ U, U1 ++ X = U := ⟨_, rfl⟩
  obtain ⟨U3, hU3⟩ : ∃ U, U2 ++ (ByteArray.mk #[58, 32]) = U := ⟨_, rfl⟩
  have h1s : U1.size = op.size + 1 := by rw [← hU1, ByteArray.size_append]; rfl
  have hXs : X.size ≤ 21 := by rw [← hX, size_str]; exact hle
  have h2s : U2.size = U1.size + X.size := by rw [← hU2, ByteArray.size_append]
  have hfin : str (lnkT ⟨op, k⟩) = U3 := by
    rw [← hU3, ← hU2, ← hU1, ← hX]
    unfold lnkT
    rw [← str_cat, ← str_cat, ← str_cat, str_of]
    rfl
  rw [hX] at HNB
  have HFN := Lib.hid hfin
  have HH := Lib.hid (And.intro h1s (And.intro h2s hXs))
  clear hT hop hk hle hX h1s h2s hfin hXs
  go_enter Tryd.func6, Tryd.ntmps6
  go_wp2_with fail
  refine (HAW.out _ HT.out).mono ?_
  rintro r w1 ⟨rfl, hb1⟩
  have HB1 := Lib.hid hb1
  clear hb1
  by_cases h50 : (50 : Int) < (op.size : Int)
  · go_wp2_with fail
    refine (HAW.out _ (HT.out.below HB1.out)).mono ?_
    rintro r w3 ⟨rfl, hb3⟩
    have HB3 := Lib.hid (HB1.out.trans (hb3.mono HB1.out.size))
    go_wp2_with fail
    go_ret
    exact ⟨rfl, HB3.out⟩
  · have h50n : op.size ≤ 50 := by omega
    have n1 : ¬ 9223372036854775807 < op.size + 1 := by omega
    have n2 : ¬ 9223372036854775807 < U1.size + X.size := by have := HH.out; omega
    have n3 : ¬ 9223372036854775807 < U2.size + 2 := by have := HH.out; omega
    have hbl : Blk (w1.alloc (.cells #[.string op, .int .i64 k, .nilIface] 33)) w1.heap.size 33 #[.string op, .int .i64 k, .nilIface] := Blk.new _ _ _
    have hba : Below w1.heap.size w1 (w1.alloc (.cells #[.string op, .int .i64 k, .nilIface] 33)) := (Below.refl _ _).alloc (Nat.le_refl _) _
    have HPL := Lib.hid (place_any .nilIface (.iface 29 (.pointer (some ⟨w1.heap.size, 0, none⟩))) [⟨op, k⟩] op _ (.inl rfl) ⟨_, _, rfl, hbl, rfl⟩ ((HT.out.below HB1.out).below hba) (by simp))
    rw [plc_self] at HPL
    have HB2 := Lib.hid (HB1.out.trans (hba.mono HB1.out.size))
    have HBL := Lib.hid hbl
    obtain ⟨W, hW⟩ : ∃ W, w1.alloc (.cells #[.string op, .int .i64 k, .nilIface] 33) = W := ⟨_, rfl⟩
    have HFE := Lib.hid ferror_nil
    rw [show str [] = ByteArray.mk #[] from rfl] at HFE
    have HUN := Lib.hid unwrap_nil
    have HAN := Lib.hid again_nil
    have HWK := Lib.hid wrap_ok
    clear hbl hba
    go_wp2_with fail
    rw [hW] at HPL HB2 HBL
    generalize w1.heap.size = p at *
    clear hW
    refine HPL.out.mono ?_
    rintro r w2 ⟨rfl, hb2⟩
    have HB3 := Lib.hid (HB2.out.trans (hb2.mono HB2.out.size))
    have HBL2 := Lib.hid (HBL.out.below hb2 HBL.out.lt)
    have HCO := Lib.hid (code_none p _ _ w2 (HT.out.below HB3.out).2 HBL2.out)
    clear hb2 HPL HBL
    go_wp2_with fail
    refine (HFE.out _).mono ?_
    rintro r w2' ⟨rfl, rfl⟩
    go_wp2_with fail
    refine (HUN.out _).mono ?_
    rintro r w2' ⟨rfl, rfl⟩
    go_wp2_with fail
    refine (HAN.out _ _ _).mono ?_
    rintro r w2' ⟨rfl, rfl⟩
    go_wp2_with fail
    refine (HWK.out _ _ _).mono ?_
    rintro r w2' ⟨rfl, rfl⟩
    go_wp2_with fail
    refine HCO.out.mono ?_
    rintro r w4 ⟨rfl, hb4⟩
    have HB4 := Lib.hid (HB3.out.trans (hb4.mono HB3.out.size))
    have HBL4 := Lib.hid (HBL2.out.below hb4 HBL2.out.lt)
    have HF := Lib.hid (ferror_one ⟨op, k⟩ p w4 HBL4.out HOK.out h50n (HT.out.below HB4.out).1)
    rw [HFN.out] at HF
    clear hb4 HBL2 HCO
    go_wp2_with fail
    refine HF.out.mono ?_
    rintro r w5 ⟨rfl, hb5⟩
    have HB5 := Lib.hid (HB4.out.trans (hb5.mono HB4.out.size))
    have HBL5 := Lib.hid (HBL4.out.below hb5 HBL4.out.lt)
    clear hb5 HBL4 HF
    go_wp2_with fail
    refine (HNB.out _).mono ?_
    rintro r w6 ⟨rfl, hb6⟩
    have HB6 := Lib.hid (HB5.out.trans (hb6.mono HB5.out.size))
    have HUW := Lib.hid (unwrap_any p (_, _) .nilIface w6 (HBL5.out.below hb6 HBL5.out.lt))
    clear hb6 HBL5
    go_wp2_with fail
    refine HUW.out.mono ?_
    rintro r w7 ⟨rfl, rfl⟩
    go_wp2_with fail
    go_ret
    exact ⟨rfl, HB6.out⟩

theorem nils_walk (a0 : ByteArray) (a1 : Int) (W : World) (hT : Tabs W) (w0 : a0.size ≤ maxLen) (w1 : (Lit.int .i64 a1).wf = true) :
    Calls Tryd.prog 6 #[.string a0, .int .i64 a1] W fun e w' => e = .returned (.bool true) ∧ Below W.heap.size W w' :=
  nils_any a0 a1 W hT w0 (wf_i64 w1)
end Go.Proofs.YtnfcnjnecankbaaDoor
