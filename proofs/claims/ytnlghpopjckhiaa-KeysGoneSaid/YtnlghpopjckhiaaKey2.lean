/-
  A sector's key, by the code.
-/
import Derived.Test.YtnlghpopjckhiaaKey1
import Derived.Test.YtnlghpopjckhiaaEye2
import Derived.Test.YtnlghpopjckhiaaRes
namespace Go.Proofs.Ytnlghpopjckhiaa
set_option maxRecDepth 4000
open Go.RowKit

theorem raw_eye (base p k : Nat) (l : List UInt8) (w : World) (hE : Eye w base p l 0) (h0 : 0 < k) (hkl : k ≤ l.length) (hk : k ≤ 1000) (hl : l.length ≤ 1000000000) (hb : base ≤ w.heap.size) :
    Calls Try.prog 50 #[.pointer (some ⟨p, 0, none⟩), .int .i64 k] w fun e w' => (∃ v, e = .returned v ∧ w'.ownsRow base 5 1 v k (u8s (l.take k))) ∧ Eye w' base p (l.drop k) 0 ∧ Below base w w' := by
  have HX := Lib.hid (next_ok base p k l w hE hkl hl)
  clear hE
  go_enter Try.func50, Try.ntmps50
  go_wp2_with fail
  refine HX.out.mono ?_
  rintro e w1 ⟨A, c, rfl, hS, hE1, hb1⟩
  obtain ⟨g, off, rfl, -⟩ := hS.2 (by omega)
  have HC := Lib.hid (clone_any _ k c _ w1 hS (u8s_one _) (by omega))
  have HE := Lib.hid hE1; have HB := Lib.hid hb1; clear hE1 hb1 hS
  go_wp2_with fail
  refine HC.out.mono ?_
  rintro e w2 ⟨v, rfl, hown, hb2⟩
  have hs := HB.out.size
  have HE2 := Lib.hid (HE.out.keep hb2); have HB2 := Lib.hid (HB.out.trans (hb2.mono (by omega)))
  have HO := Lib.hid (own_base hown (base' := base) (by omega))
  clear hown hb2
  go_wp2_with fail
  go_ret
  exact ⟨⟨_, rfl, HO.out⟩, HE2.out, HB2.out⟩

/-- The bucket that a sector's octets tell. -/
def kbuck (l : List UInt8) : Int := wrap64 (vl ((l.drop 4).take 8) : Nat)
def kkey (l : List UInt8) : List UInt8 := (l.drop 12).take 32
/-- Has the sector a key? -/
def kIs (l : List UInt8) : Prop := 0 ≤ kbuck l ∧ kbuck l ≤ 1099511627776 ∧ keyo (kbuck l).toNat (kkey l) = l
instance (l : List UInt8) : Decidable (kIs l) := by unfold kIs; infer_instance

/-- What read gives. -/
def ReadTo (w : World) (base : Nat) (l : List UInt8) (x : Value) : Prop :=
  (¬ kIs l ∧ x = .agg #[.bool false, .int .i64 0, .slice none 0 0]) ∨ ∃ v, kIs l ∧ x = .agg #[.bool true, .int .i64 (kbuck l), v] ∧ w.ownsRow base 5 1 v 32 (u8s (kkey l))

set_option maxHeartbeats 1000000 in
theorem read_any (l : List UInt8) (ad : Addr) (c : Nat) (w : World) (hl : l.length = 128) (hS : Sees w 1 (some ad) 128 (u8s l)) :
    Calls Try.prog 38 #[.slice (some ad) 128 c] w fun e w' => ∃ x, e = .returned x ∧ ReadTo w' w.heap.size l x ∧ Below w.heap.size w w' := by
  have hal : Below w.heap.size w (w.alloc (.cells #[.bool false, .int .i64 0, .slice none 0 0] 68)) := (Below.refl _ _).alloc (Nat.le_refl _) _
  have HZ := Lib.hid (Blk.new w 68 #[.bool false, .int .i64 0, .slice none 0 0])
  have HX := Lib.hid (open_any l ad 128 c _ (hS.below hal) hl (by omega))
  have HS := Lib.hid hS
  have HA := Lib.hid hal
  have HL := Lib.hid hl
  have HSZ := Lib.hid (show (Try.prog.info? 68).map (·.size) = some 3 by kernel_rfl)
  clear hal hS
  have hv8 := vl_lt ((l.drop 4).take 8)
  have hp8 : 256 ^ ((l.drop 4).take 8).length ≤ 256 ^ 8 := Nat.pow_le_pow_right (by omega) (by rw [List.length_take]; omega)
  go_enter Try.func38, Try.ntmps38
  go_wp2_with fail
  refine HX.out.mono ?_
  rintro e w1 ⟨p, rfl, hE1, hb1⟩
  have HQ := Lib.hid (raw_eye _ p 4 l w1 hE1 (by omega) (by omega) (by omega) (by omega) (by have := hb1.size; omega))
  have HB1 := Lib.hid hb1
  clear hE1 hb1 HX
  go_wp2_with fail
  refine HQ.out.mono ?_
  rintro e w2 ⟨⟨v2, rfl, -⟩, hE2, hb2⟩
  have hq2 := e64_any _ p 0 (l.drop 4) w2 hE2 (by omega) (by rw [List.length_drop]; omega)
  have e1 : eyeN (l.drop 4) 0 8 = vl ((l.drop 4).take 8) := if_pos ⟨rfl, by rw [List.length_drop]; omega⟩
  have e2 : eyeL (l.drop 4) 0 8 = l.drop 12 := by rw [eyeL, if_pos ⟨rfl, by rw [List.length_drop]; omega⟩, List.drop_drop]
  have e3 : eyeE (l.drop 4) 0 8 = 0 := if_neg (by rw [List.length_drop]; omega)
  rw [e1, e2, e3] at hq2
  have HQ2 := Lib.hid hq2
  have HB2 := Lib.hid (HB1.out.trans hb2)
  obtain ⟨f, hf⟩ : ∃ f, f = vl ((l.drop 4).take 8) := ⟨_, rfl⟩
  have HK := Lib.hid (show kbuck l = wrap64 (f : Int) by rw [hf]; rfl)
  rw [← hf] at HQ2
  clear hE2 hb2 hq2 e1 e2 e3 HQ HB1 hf hv8 hp8
  go_wp2_with fail
  refine HQ2.out.mono ?_
  rintro e w3 ⟨rfl, hE3, hb3⟩
  have HB3 := Lib.hid (HB2.out.trans hb3)
  have HQ3 := Lib.hid (raw_eye _ p 32 (l.drop 12) w3 hE3 (by omega) (by rw [List.length_drop]; omega) (by omega) (by rw [List.length_drop]; omega) (by have := HB3.out.size; simp at this ⊢; omega))
  clear hE3 hb3 HQ2 HB2
  go_wp2_with fail
  refine HQ3.out.mono ?_
  rintro e w4 ⟨⟨v4, rfl, hown4⟩, -, hb4⟩
  obtain ⟨A4, c4, rfl⟩ := own_shape hown4
  have HR := Lib.hid (right_any (wrap64 (f : Int)) A4 32 c4 w4)
  have HO4 := Lib.hid hown4
  have HB4 := Lib.hid (HB3.out.trans hb4)
  have hba := HA.out.trans (HB4.out.mono (by simp))
  have HZ4 := Lib.hid (HZ.out.below (HB4.out) (by simp))
  have HBA := Lib.hid hba
  clear hown4 hb4 hba HQ3 HB3 HB4 HZ
  obtain ⟨x, hx⟩ : ∃ x, x = wrap64 (f : Int) := ⟨_, rfl⟩
  rw [← hx] at HR HK ⊢
  have hbz : Below w4.heap.size w4 w4 := Below.refl _ _
  by_cases hr : keyRight x 32
  · obtain ⟨n, rfl⟩ : ∃ n : Nat, x = n := ⟨x.toNat, by have := hr.1; omega⟩
    rw [decide_eq_true hr] at HR
    have hn := hr.2.1
    have hkl : ((l.drop 12).take 32).length = 32 := by rw [List.length_take, List.length_drop]; omega
    have HOC := Lib.hid (octets_any n ((l.drop 12).take 32) A4 c4 w4 (by omega) hkl (Sees.of_own HO4.out))
    have HKI := Lib.hid (show keyo n ((l.drop 12).take 32) = l ↔ kIs l by
      unfold kIs
      rw [HK.out, Int.toNat_natCast]
      exact ⟨fun h => ⟨by omega, by omega, h⟩, fun h => h.2.2⟩)
    clear hx hn hr hkl hbz
    go_wp2_with fail
    refine HR.out.mono ?_
    rintro e w5 ⟨rfl, rfl⟩
    go_wp2_with fail
    refine HOC.out.mono ?_
    rintro e w6 ⟨v6, rfl, hown6, hb6⟩
    obtain ⟨A6, c6, rfl⟩ := own_shape hown6
    have HE := Lib.hid (equal_any _ l A6 (some ad) 128 c6 128 c w6 (Sees.of_own hown6) (HS.out.below (HBA.out.trans (hb6.mono HBA.out.size))))
    have HB6 := Lib.hid (HBA.out.trans (hb6.mono HBA.out.size))
    have HZ6 := Lib.hid (HZ4.out.below hb6 HZ4.out.lt)
    have HO6 := Lib.hid (own_below HO4.out hb6)
    clear hown6 hb6 HOC HR HZ4 HO4 HBA
    by_cases hk : kIs l
    · rw [decide_eq_true (HKI.out.2 hk)] at HE
      have HKK := Lib.hid hk; clear hk
      go_wp2_with fail
      refine HE.out.mono ?_
      rintro e w7 ⟨rfl, rfl⟩
      go_wp2_with (refine wpList_store_row rfl 68 (.tmp 2) (.tmp 30) rfl w.heap.size _ rfl rfl 68 _ HZ6.out (by exact HSZ.out) (Eq.refl 3) (by simp [Value.oneCell']) ?_)
      refine bodyPost_ret (results_cell_row rfl _ _ w.heap.size 68 _ (0, 0) _ rfl (HZ6.out.setRow _) Try.underlying68 rfl (by exact HSZ.out)) rfl ⟨_, rfl, ?_, below_setRow HB6.out (Nat.le_refl _) _⟩
      refine .inr ⟨_, HKK.out, by rw [HK.out], ?_⟩
      exact own_fr (own_base HO6.out (by simp)) (Fr.setRow (F := (· = w.heap.size)) _ w.heap.size _ rfl) (own_ne HO6.out HZ6.out (by decide))
    · rw [decide_eq_false (fun h => hk (HKI.out.1 h))] at HE
      have HKK := Lib.hid hk; clear hk
      go_wp2_with fail
      refine HE.out.mono ?_
      rintro e w7 ⟨rfl, rfl⟩
      go_wp2_with (refine wpList_store_row rfl 68 (.tmp 2) (.tmp 27) rfl w.heap.size _ rfl rfl 68 _ HZ6.out (by exact HSZ.out) (Eq.refl 3) (by simp [Value.oneCell']) ?_)
      refine bodyPost_ret (results_cell_row rfl _ _ w.heap.size 68 _ (0, 0) _ rfl (HZ6.out.setRow _) Try.underlying68 rfl (by exact HSZ.out)) rfl ⟨_, rfl, ?_, below_setRow HB6.out (Nat.le_refl _) _⟩
      exact .inl ⟨HKK.out, rfl⟩
  · rw [decide_eq_false hr] at HR
    have HKK : Hid (¬ kIs l) := Lib.hid (fun h => hr ⟨by rw [← HK.out]; exact h.1, by rw [← HK.out]; exact h.2.1, rfl⟩)
    clear hx hr hbz
    go_wp2_with fail
    refine HR.out.mono ?_
    rintro e w5 ⟨rfl, rfl⟩
    go_wp2_with (refine wpList_store_row rfl 68 (.tmp 2) (.tmp 27) rfl w.heap.size _ rfl rfl 68 _ HZ4.out (by exact HSZ.out) (Eq.refl 3) (by simp [Value.oneCell']) ?_)
    refine bodyPost_ret (results_cell_row rfl _ _ w.heap.size 68 _ (0, 0) _ rfl (HZ4.out.setRow _) Try.underlying68 rfl (by exact HSZ.out)) rfl ⟨_, rfl, ?_, below_setRow HBA.out (Nat.le_refl _) _⟩
    exact .inl ⟨HKK.out, rfl⟩
end Go.Proofs.Ytnlghpopjckhiaa
