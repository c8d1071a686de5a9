/-
  Within; a key's octets, by the document.
-/
import Derived.Test.YtnlghpopjckhiaaKey13
namespace Go.Proofs.Ytnlghpopjckhiaa
set_option maxRecDepth 4000
open Go.RowKit

theorem str_extract (l : List UInt8) (a b : Nat) : (str l).extract a b = str ((l.drop a).take (b - a)) := by
  apply ByteArray.ext
  simp [str]

/-- Does a text stand in another one, from a place on? -/
def standsAt (l m : List UInt8) (i : Nat) : Prop := i + l.length ≤ m.length ∧ (m.drop i).take l.length = l
def Stands (l m : List UInt8) : Prop := ∃ i, standsAt l m i
open Classical in
theorem within_any (l m : List UInt8) (w : World) (hl : l.length ≤ 1000000) (hm : m.length ≤ 1000000) :
    Calls Try.prog 16 #[.string (str l), .string (str m)] w fun e w' => e = .returned (.bool (decide (Stands l m))) ∧ Below w.heap.size w w' := by
  obtain ⟨X, hX⟩ : ∃ X, str l = X := ⟨_, rfl⟩
  obtain ⟨Y, hY⟩ : ∃ Y, str m = Y := ⟨_, rfl⟩
  have hXs : X.size = l.length := by rw [← hX, size_str]
  have hYs : Y.size = m.length := by rw [← hY, size_str]
  have hex : ∀ i, standsAt l m i → ((Y.extract i (i + l.length)).toList == X.toList) = true := fun i h => by
    rw [← hY, str_extract, ← hX, Nat.add_sub_cancel_left, h.2, beq_iff_eq]
  have hnex : ∀ i, i + l.length ≤ m.length → ¬ standsAt l m i → ((Y.extract i (i + l.length)).toList == X.toList) = false := fun i hi h => by
    rw [beq_eq_false_iff_ne]
    intro e
    rw [← hY, str_extract, ← hX, Nat.add_sub_cancel_left, str_toList, str_toList] at e
    exact h ⟨hi, e⟩
  rw [hX, hY]
  obtain ⟨n, hn⟩ : ∃ n, n = l.length := ⟨_, rfl⟩
  obtain ⟨N, hN⟩ : ∃ N, N = m.length := ⟨_, rfl⟩
  rw [← hn] at hXs hl
  rw [← hN] at hYs hm
  have HE := Lib.hid hex
  have HNE := Lib.hid hnex
  have HD := Lib.hid (And.intro hn hN)
  obtain ⟨V, hV⟩ : ∃ V : Prop, V = Stands l m := ⟨_, rfl⟩
  have HV := Lib.hid hV
  rw [← hV]
  clear hX hY hex hnex hn hN hV
  go_enter Try.func16, Try.ntmps16
  go_wp2_with fail
  go_loopw [5] (fun i wr => ∃ j : Nat, i = .int .i64 j ∧ j ≤ N + 1 ∧ Hid ((∀ i, i < j → ¬ standsAt l m i) ∧ Below w.heap.size w wr)) (fun i _ => N + 1 - (intOf i).toNat)
  case atStart => exact ⟨0, rfl, Nat.zero_le _, Lib.hid ⟨fun i hi => by omega, Below.refl _ _⟩⟩
  case round =>
    obtain ⟨j, rfl, hj, hr⟩ := hrel
    by_cases hlt : j + n ≤ N
    · have hlti : (j : Int) + (n : Int) ≤ (N : Int) := by omega
      by_cases hst : standsAt l m j
      · have hx := HE.out j hst
        rw [← HD.out.1] at hx
        have hVt : decide V = true := by rw [HV.out]; exact decide_eq_true ⟨j, hst⟩
        have HVT := Lib.hid hVt
        clear hst hVt
        go_wp2_with fail
        go_ret
        exact ⟨by rw [HVT.out]; rfl, hr.out.2⟩
      · have hx := HNE.out j (by rw [← HD.out.1, ← HD.out.2]; exact hlt) hst
        rw [← HD.out.1] at hx
        have HN := Lib.hid (And.intro (fun i (hi : i < j + 1) => by
          rcases Nat.lt_or_ge i j with h | h
          · exact hr.out.1 i h
          · obtain rfl : i = j := by omega
            exact hst) hr.out.2)
        clear hst hr
        go_wp2_with fail
        refine ⟨⟨j + 1, by go_num, by omega, HN⟩, ?_⟩
        simp [intOf]; omega
    · have hlti : ¬ ((j : Int) + (n : Int) ≤ (N : Int)) := by omega
      have hVf : decide V = false := by
        rw [HV.out]
        refine decide_eq_false ?_
        rintro ⟨i, hi⟩
        have := hi.1
        rw [← HD.out.1, ← HD.out.2] at this
        exact hr.out.1 i (by omega) hi
      have HVF := Lib.hid hVf
      clear hVf
      go_wp2_with fail
      go_ret
      exact ⟨by rw [HVF.out]; rfl, hr.out.2⟩

open Classical in
theorem within_b (l m : List UInt8) (hl : l.length ≤ 1000000) (hm : m.length ≤ 1000000) : ∃ D : Bool, (D = true ↔ Stands l m) ∧ ∀ w, Calls Try.prog 16 #[.string (str l), .string (str m)] w fun e w' => e = .returned (.bool D) ∧ Below w.heap.size w w' :=
  ⟨decide (Stands l m), decide_eq_true_iff, fun w => within_any l m w hl hm⟩

/-- A key's octets, by the document. -/
theorem roctets_any (b : Nat) (k : List UInt8) (hb : b ≤ 1099511627776) (hk : k.length = 32) (w : World) : Calls Try.prog 17 #[.int .i64 b, .string (str k)] w fun e w' => e = .returned (.string (str (keyo b k))) ∧ Below w.heap.size w w' := by
  have hb0 : IntKind.u64.wrap (b : Int) = (b : Int) := by rw [IntKind.wrap_u64]; omega
  have HN := Lib.hid (number_any b 8 (by omega) (by omega))
  have HW := Lib.hid (with_any (khead b k) (by rw [khead_length b k hk]; omega))
  obtain ⟨X, hX⟩ : ∃ X, str k = X := ⟨_, rfl⟩
  obtain ⟨Y, hY⟩ : ∃ Y, str (be b 8) = Y := ⟨_, rfl⟩
  obtain ⟨Z, hZ⟩ : ∃ Z, str (crcw (khead b k)) = Z := ⟨_, rfl⟩
  obtain ⟨V, hV⟩ : ∃ V, str (khead b k) = V := ⟨_, rfl⟩
  obtain ⟨U, hU⟩ : ∃ U, str (List.replicate 80 0) = U := ⟨_, rfl⟩
  obtain ⟨R, hR⟩ : ∃ R, str (keyo b k) = R := ⟨_, rfl⟩
  obtain ⟨M, hM⟩ : ∃ M, (ByteArray.mk #[101, 110, 103, 107]) ++ Y = M := ⟨_, rfl⟩
  have hMX : M ++ X = V := by
    rw [← hM, ← hY, ← hX, ← hV, show khead b k = [101, 110, 103, 107] ++ be b 8 ++ k from rfl, ← str_cat, ← str_cat]
    rfl
  have hZU : Z ++ U = R := by rw [← hZ, ← hU, ← hR, str_cat]; rfl
  have hXs : X.size = 32 := by rw [← hX, size_str, hk]
  have hYs : Y.size = 8 := by rw [← hY, size_str, length_be]
  have hMs : M.size = 12 := by rw [← hM, ← hY, ByteArray.size_append, size_str, length_be]; rfl
  have hZs : Z.size = 48 := by rw [← hZ, size_str, crcw, List.length_append, khead_length b k hk, length_be]
  have hUs : U.size = 80 := by rw [← hU, size_str, List.length_replicate]
  have hmk := make_bytes 80 (by omega)
  obtain ⟨Q, hQ⟩ : ∃ z : Array Value, z = (u8s (List.replicate 80 0)).toArray := ⟨_, rfl⟩
  rw [← hQ] at hmk
  replace hmk : ∀ W : World, (Instr.makeSlice 37 (.int .i64 80) (.int .i64 80)).run Try.prog W = .ok (.slice (some ⟨W.heap.size, 0, none⟩) 80 80) (W.alloc (.cells Q 5)) := hmk
  have hcv : ∀ W : World, (convert 37 9 (.slice (some ⟨W.heap.size, 0, none⟩) 80 80)).run Try.prog (W.alloc (.cells Q 5)) = .ok (.string U) (W.alloc (.cells Q 5)) := fun W => by
    rw [← hU, hQ]
    exact run_to_string Try.underlying37 Try.underlying5 Try.underlying9 80 (sees_mark W 5 (0, 0) (u8s (List.replicate 80 0)) 80 (by rw [length_u8s, List.length_replicate]))
  rw [hY] at HN
  rw [hV, hZ] at HW
  rw [hX, hR]
  have HMK := Lib.hid hmk
  have HCV := Lib.hid hcv
  have HM := Lib.hid hM
  have HMX := Lib.hid hMX
  have HZU := Lib.hid hZU
  clear hX hY hZ hV hU hR hM hMX hZU hmk hcv hQ
  go_enter Try.func17, Try.ntmps17
  go_wp2_with fail
  refine (HN.out _).mono ?_
  rintro e w1 ⟨rfl, hb1⟩
  have HB1 := Lib.hid hb1; clear hb1
  go_wp2_with (simp only [HM.out, HMX.out])
  refine (HW.out _).mono ?_
  rintro e w2 ⟨rfl, hb2⟩
  have HB2 := Lib.hid (HB1.out.trans (hb2.mono HB1.out.size)); clear hb2
  go_wp2_with first | (simp only [HMK.out]) | (simp only [HCV.out]) | (simp only [HZU.out])
  go_ret
  exact ⟨by first | rfl | (rw [HZU.out]), HB2.out.alloc HB2.out.size _⟩

/-- A key stands in no zeros. -/
theorem stands_zer (k : List UInt8) (h : k.length = 32) (h0 : k ≠ List.replicate 32 0) : ¬ Stands k zer := by
  rintro ⟨i, h1, h2⟩
  refine h0 ?_
  rw [← h2, h]
  unfold zer
  rw [h, zer_len] at h1
  rw [List.drop_replicate, List.take_replicate]
  congr 1
  omega
theorem stands_self (k : List UInt8) (b : Nat) (hk : k.length = 32) : Stands k (keyo b k) := by
  refine ⟨12, ?_, ?_⟩
  · rw [hk, keyo_length b k hk]; omega
  · have := kkey_keyo (b, k)
    unfold kkey at this
    rw [keyo_cut, ← List.append_assoc, hk]
    exact cut (i := 12) (by simp [length_be]) hk
end Go.Proofs.Ytnlghpopjckhiaa
