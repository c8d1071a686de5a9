/-
  heap.down.
-/
import Derived.Test.YtaapdkeipknilaaDue6
import Derived.Deep.DeepCutAuto
namespace Go.Proofs.Ytaapdkeipknilaa
set_option maxRecDepth 4000
open Go.RowKit

set_option maxHeartbeats 2000000 in
theorem down_any (q : Nat) (v : Value) (l : List (Int × Int)) (n i0 : Nat) (w : World) (h : HAt w q v l) (hd : Dn l n i0 i0) (h0 : 0 < l.length) (hn : n ≤ l.length) (hi : i0 ≤ 1000) (hl : l.length ≤ 1000) :
    Calls Try.prog 34 #[.iface 51 (.pointer (some ⟨q, 0, none⟩)), .int .i64 i0, .int .i64 n] w fun e w' => ∃ b, e = .returned (.bool b) ∧
      ∃ l', l'.Perm l ∧ (∀ k, n ≤ k → gg l' k = gg l k) ∧ HAt w' q v l' ∧ Fr (QF q v) w w' ∧ (b = true → Hp l' n) ∧ (b = false → Up l' n i0) := by
  obtain ⟨g, c, rfl⟩ := own_first h.row h0
  have H := Lib.hid (And.intro h (And.intro hd (And.intro hn (And.intro hi hl))))
  obtain ⟨n0, hn0⟩ : ∃ n0, l.length = n0 := ⟨_, rfl⟩
  rw [hn0] at H ⊢
  have hn1 : (n : Int) ≤ 1000 := by omega
  have hi1 : (i0 : Int) ≤ 1000 := by omega
  clear h hd hn hi hl h0
  go_enter Try.func34, Try.ntmps34
  go_wp2_with fail
  go_loopw [7, 8, 9, 10] (fun ii _ _ _ wr => ∃ (i : Nat) (l1 : List (Int × Int)), ii = .int .i64 i ∧ i ≤ 1000 ∧ l1.Perm l ∧ Dn l1 n i0 i ∧ (∀ k, n ≤ k → gg l1 k = gg l k) ∧ HAt wr q (.slice (some ⟨g, 0, none⟩) n0 c) l1 ∧ Fr (QF q (.slice (some ⟨g, 0, none⟩) n0 c)) w wr) (fun ii _ _ _ _ => 1001 - (intOf ii).toNat)
  case atStart => exact ⟨i0, l, rfl, H.out.2.2.2.1, .refl _, H.out.2.1, fun _ _ => rfl, H.out.1, Fr.refl _ _⟩
  case round =>
    obtain ⟨i, l1, rfl, hi, hp, hd, ho, ha, hf⟩ := hrel
    have hcell := ha.cell
    have hln : l1.length = n0 := hp.length_eq.trans hn0
    have hi2 : (i : Int) ≤ 1000 := by omega
    by_cases h1 : 2 * i + 1 < n
    · obtain ⟨J, hJ⟩ : ∃ J, 2 * i + 1 = J := ⟨_, rfl⟩
      have hJ1 : 2 * (i : Int) + 1 = (J : Int) := by omega
      have h1i : ¬ ((n : Int) ≤ (J : Int)) := by omega
      have hJ2 : (J : Int) ≤ 1000 := by omega
      have hnn := H.out.2.2.1
      have HA := Lib.hid ha
      have HI := Lib.hid (And.intro hp (And.intro hd (And.intro ho (And.intro hf (And.intro hln (And.intro hi (show J < n ∧ J = 2 * i + 1 ∧ n ≤ l1.length ∧ l1.length ≤ 1000 by have := H.out; omega)))))))
      clear hi hp hd ho ha hf hln h1
      go_upto_region 6 with fail
      obtain ⟨B, hB⟩ : ∃ B : Bool, B = decide (J + 1 < n ∧ ¬ LE (gg l1 J) (gg l1 (J + 1))) := ⟨_, rfl⟩
      have HB := Lib.hid hB; clear hB
      go_cut [33] (fun s w9 => s = .bool B ∧ Below wr.heap.size wr w9)
      case first =>
        by_cases h2 : J + 1 < n
        · have h2i : (J : Int) + 1 < (n : Int) := by omega
          have hm := mLess q _ wr hcell
          have HH := Lib.hid h2
          clear h2
          go_wp2_with fail
          refine (hless HA.out (J + 1) J (by have := HI.out; have := HH.out; omega) (by have := HI.out; have := HH.out; omega) (by have := HI.out; omega)).mono ?_
          rintro e w1 ⟨rfl, hb1⟩
          have HB1 := Lib.hid hb1
          clear hb1 hm
          go_wp2_with fail
          go_meet
          refine ⟨?_, HB1.out⟩
          rw [HB.out]
          by_cases hle : LE (gg l1 J) (gg l1 (J + 1))
          · simp [hle]
          · simp [hle, HH.out]
        · have h2i : ¬ ((J : Int) + 1 < (n : Int)) := by omega
          have HH := Lib.hid h2
          clear h2
          go_wp2_with fail
          go_meet
          refine ⟨?_, Below.refl _ _⟩
          rw [HB.out]
          simp [HH.out]
      case rest =>
      obtain ⟨rfl, hb0⟩ := hcut
      have HB0 := Lib.hid hb0; clear hb0
      generalize wc = wr1 at *
      go_upto_if 33 with fail
      go_cut [9] (fun s w9 => w9 = wr1 ∧ ∃ j : Nat, s = .int .i64 j ∧ j < n ∧ 0 < j ∧ (j - 1) / 2 = i ∧ (∀ k, 0 < k → k < n → (k - 1) / 2 = i → LE (gg l1 j) (gg l1 k)))
      case first =>
        cases B with
        | false =>
          have hB : ¬ (J + 1 < n ∧ ¬ LE (gg l1 J) (gg l1 (J + 1))) := of_decide_eq_false HB.out.symm
          have HH := Lib.hid hB
          clear hB
          go_wp2_with fail
          go_meet
          refine ⟨rfl, J, rfl, by have := HI.out; omega, by have := HI.out; omega, by have := HI.out; omega, fun k k0 kn kp => ?_⟩
          obtain rfl | rfl : k = J ∨ k = J + 1 := by have := HI.out; omega
          · exact LE.refl _
          · exact Decidable.byContradiction fun h => HH.out ⟨kn, h⟩
        | true =>
          have hB : (J + 1 < n ∧ ¬ LE (gg l1 J) (gg l1 (J + 1))) := of_decide_eq_true HB.out.symm
          have HH := Lib.hid hB
          clear hB
          go_wp2_with fail
          go_meet
          refine ⟨rfl, J + 1, rfl, HH.out.1, by have := HI.out; omega, by have := HI.out; omega, fun k k0 kn kp => ?_⟩
          obtain rfl | rfl : k = J ∨ k = J + 1 := by have := HI.out; omega
          · exact LE.of_not HH.out.2
          · exact LE.refl _
      case rest =>
        obtain ⟨hw, j, rfl, hj, hj0, hjp, hjc⟩ := hcut
        obtain rfl := hw.symm
        have hb := HB0.out
        have H1 := Lib.hid (And.intro (HA.out.below hb) ((HI.out.2.2.2.1).trans (Fr.of_below hb _) (fun _ _ h => h)))
        have HJ := Lib.hid (And.intro hj (And.intro hj0 (And.intro hjp hjc)))
        have HL := Lib.hid (show i < l1.length ∧ j < l1.length ∧ l1.length ≤ 1000 by have := HI.out; omega)
        have hm := mLess q _ wr1 H1.out.1.cell
        clear hj hj0 hjp hjc hb hcell
        go_wp2_with fail
        refine (hless H1.out.1 j i HL.out.2.1 HL.out.1 HL.out.2.2).mono ?_
        rintro e w1 ⟨rfl, hb1⟩
        have H2 := Lib.hid (And.intro (H1.out.1.below hb1) ((H1.out.2).trans (Fr.of_below hb1 _) (fun _ _ h => h)))
        have hm1 := mSwap q _ w1 H2.out.1.cell
        clear hb1 hm
        by_cases hle : LE (gg l1 i) (gg l1 j)
        · have hd : decide (¬ LE (gg l1 i) (gg l1 j)) = false := by simpa using hle
          have hst := HI.out.2.1.stop (fun k k0 kn kp => hle.trans (HJ.out.2.2.2 k k0 kn kp))
          have HST := Lib.hid hst
          clear hle hst hm1
          go_wp2_with fail
          go_ret
          refine ⟨_, rfl, l1, HI.out.1, HI.out.2.2.1, H2.out.1, H2.out.2, fun h => HST.out.2 (by simpa using h), fun h => ?_⟩
          obtain rfl : i0 = i := by have := HI.out.2.1.2.2.1; have : ¬ i0 < i := by simpa using h
                                    omega
          exact HST.out.1
        · have hd : decide (¬ LE (gg l1 i) (gg l1 j)) = true := by simpa using hle
          have HLE := Lib.hid hle
          clear hle
          go_wp2_with fail
          refine (hswap H2.out.1 i j HL.out.1 HL.out.2.1 HL.out.2.2).mono ?_
          rintro e w2 ⟨rfl, ha2, hf2⟩
          have H3 := Lib.hid (And.intro ha2 (H2.out.2.trans hf2 (fun _ _ h => h)))
          clear ha2 hf2 hm1
          go_wp2_with fail
          refine ⟨⟨j, sw l1 i j, rfl, by have := HL.out; omega, (sw_perm HL.out.1 HL.out.2.1).trans HI.out.1, HI.out.2.1.step (by have := HI.out; omega) HJ.out.1 HJ.out.2.1 HJ.out.2.2.1 HLE.out HJ.out.2.2.2, fun k hk => ?_, H3.out.1, H3.out.2⟩, ?_⟩
          · rw [sw_gg HL.out.1 HL.out.2.1, if_neg (by have := HJ.out; omega), if_neg (by have := HJ.out; have := HI.out; omega)]
            exact HI.out.2.2.1 k hk
          · simp [intOf]
            have := HJ.out
            have := HI.out
            have := HL.out
            omega
    · have h1i : (n : Int) ≤ 2 * (i : Int) + 1 := by omega
      have hst := hd.stop (fun k k0 kn kp => by omega)
      have HST := Lib.hid hst
      have HI := Lib.hid (And.intro hd.2.2.1 (And.intro hp (And.intro ho (And.intro hf ha))))
      clear hi hp hd ho ha hf hln h1 hst hcell
      go_wp2_with fail
      go_ret
      refine ⟨_, rfl, l1, HI.out.2.1, HI.out.2.2.1, HI.out.2.2.2.2, HI.out.2.2.2.1, fun h => HST.out.2 (by simpa using h), fun h => ?_⟩
      obtain rfl : i0 = i := by have := HI.out.1; have : ¬ i0 < i := by simpa using h
                                omega
      exact HST.out.1
end Go.Proofs.Ytaapdkeipknilaa
