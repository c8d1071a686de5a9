/-
  A segment's head, foot and frame by the document.
-/
import Derived.Test.YtldgnckchlbadaaDoorSha6
import Derived.Test.YtldgnckchlbadaaDoorSeg2
namespace Go.Proofs.YtldgnckchlbadaaDoor
set_option maxRecDepth 4000
open Go.RowKit

theorem rchain_any (l m : List UInt8) (hl : l.length + m.length ≤ 1000000) (w : World) :
    Calls Tryd.prog 42 #[.string (str l), .string (str m)] w fun e w' => e = .returned (.string (str (sha (l ++ m)))) ∧ Below w.heap.size w w' := by
  have HS := Lib.hid (rsum_any (l ++ m) (by rw [List.length_append]; exact hl))
  have hcat : str l ++ str m = str (l ++ m) := str_cat _ _
  obtain ⟨X, hX⟩ : ∃ X, X = str l := ⟨_, rfl⟩
  obtain ⟨Y, hY⟩ : ∃ Y, Y = str m := ⟨_, rfl⟩
  obtain ⟨Z, hZ⟩ : ∃ Z, Z = str (l ++ m) := ⟨_, rfl⟩
  have hXs : X.size = l.length := by rw [hX, size_str]
  have hYs : Y.size = m.length := by rw [hY, size_str]
  have hlen : ¬ 9223372036854775807 < l.length + m.length := by omega
  rw [← hX, ← hY, ← hZ] at hcat
  rw [← hZ] at HS
  rw [← hX, ← hY]
  clear hX hY hZ
  go_enter Tryd.func42, Tryd.ntmps42
  go_wp2_with fail
  refine (HS.out _).mono ?_
  rintro e w' ⟨rfl, hb⟩
  go_wp2_with fail
  go_ret
  exact ⟨rfl, hb⟩

theorem rframe_any (l t : List UInt8) (hl : l.length = 32) (ht : t.length ≤ 65535) (w : World) :
    Calls Tryd.prog 75 #[.string (str l), .string (str t)] w fun e w' => e = .returned (.tuple #[.string (str (frm l t)), .string (str (sha (l ++ t)))]) ∧ Below w.heap.size w w' := by
  have HC := Lib.hid (rchain_any l t (by omega))
  have HN := Lib.hid (number_any t.length 4 (by omega) (by omega))
  have hsl := sha_length (l ++ t)
  have hfr : frm l t = crcw (be t.length 4 ++ t ++ sha (l ++ t)) := rfl
  obtain ⟨sx, hsx⟩ : ∃ x, x = sha (l ++ t) := ⟨_, rfl⟩
  rw [← hsx] at HC hsl hfr ⊢
  have HW := Lib.hid (with_any (be t.length 4 ++ t ++ sx) (by rw [List.length_append, List.length_append, length_be]; omega))
  rw [← hfr] at HW
  have hc1 : str (be t.length 4) ++ str t = str (be t.length 4 ++ t) := str_cat _ _
  have hc2 : str (be t.length 4 ++ t) ++ str sx = str (be t.length 4 ++ t ++ sx) := str_cat _ _
  obtain ⟨n, hn⟩ : ∃ n, n = t.length := ⟨_, rfl⟩
  have hs0 : (str t).size = n := by rw [size_str, hn]
  have hs1 : (str (be t.length 4)).size = 4 := by rw [size_str, length_be]
  have hs2 : (str (be t.length 4 ++ t)).size = n + 4 := by rw [size_str, List.length_append, length_be, hn]; omega
  have hs3 : (str sx).size = 32 := by rw [size_str, hsl]
  rw [← hn] at ht
  have HN' : Hid (∀ w, Calls Tryd.prog 86 #[.int .u64 n, .int .i64 4] w fun e w' => e = .returned (.string (str (be t.length 4))) ∧ Below w.heap.size w w') := Lib.hid (by rw [hn]; exact HN.out)
  obtain ⟨X1, hX1⟩ : ∃ X, X = str (be t.length 4) := ⟨_, rfl⟩
  obtain ⟨X2, hX2⟩ : ∃ X, X = str t := ⟨_, rfl⟩
  obtain ⟨X3, hX3⟩ : ∃ X, X = str (be t.length 4 ++ t) := ⟨_, rfl⟩
  obtain ⟨X4, hX4⟩ : ∃ X, X = str sx := ⟨_, rfl⟩
  obtain ⟨X5, hX5⟩ : ∃ X, X = str (be t.length 4 ++ t ++ sx) := ⟨_, rfl⟩
  rw [← hX1] at HN' hc1 hs1
  rw [← hX2] at HC hc1 hs0 ⊢
  rw [← hX3] at hc1 hc2 hs2
  rw [← hX4] at HC hc2 hs3 ⊢
  rw [← hX5] at HW hc2
  have hnw : IntKind.u64.wrap (n : Int) = (n : Int) := by rw [IntKind.wrap_u64]; omega
  have hq1 : ¬ 9223372036854775807 < 4 + n := by omega
  have hq2 : ¬ 9223372036854775807 < n + 4 + 32 := by omega
  clear hX1 hX2 hX3 hX4 hX5 hn HN hfr
  go_enter Tryd.func75, Tryd.ntmps75
  go_wp2_with fail
  refine (HC.out _).mono ?_
  rintro e w1 ⟨rfl, hb1⟩
  go_wp2_with fail
  refine (HN'.out _).mono ?_
  rintro e w2 ⟨rfl, hb2⟩
  have hb12 := hb1.trans (hb2.mono hb1.size)
  have HB12 := Lib.hid hb12; clear hb1 hb2 hb12
  go_wp2_with fail
  refine (HW.out _).mono ?_
  rintro e w3 ⟨rfl, hb3⟩
  have hb13 := HB12.out.trans (hb3.mono HB12.out.size)
  have HB13 := Lib.hid hb13; clear hb13 hb3
  go_wp2_with fail
  go_ret2
  exact ⟨rfl, HB13.out⟩

theorem rfoot_any (k : Nat) (l : List UInt8) (hl : l.length = 32) (hk : k < 9223372036854775808) (w : World) :
    Calls Tryd.prog 73 #[.int .i64 k, .string (str l)] w fun e w' => e = .returned (.string (str (ft k l))) ∧ Below w.heap.size w w' := by
  have HN1 := Lib.hid (number_any 4294967295 4 (by omega) (by omega))
  have HN2 := Lib.hid (number_any k 8 (by omega) (by omega))
  have hfr : ft k l = crcw (be 4294967295 4 ++ be k 8 ++ l) := rfl
  have HW := Lib.hid (with_any (be 4294967295 4 ++ be k 8 ++ l) (by rw [List.length_append, List.length_append, length_be, length_be, hl]; omega))
  rw [← hfr] at HW
  have hc1 : str (be 4294967295 4) ++ str (be k 8) = str (be 4294967295 4 ++ be k 8) := str_cat _ _
  have hc2 : str (be 4294967295 4 ++ be k 8) ++ str l = str (be 4294967295 4 ++ be k 8 ++ l) := str_cat _ _
  have hs0 : (str l).size = 32 := by rw [size_str, hl]
  have hs1 : (str (be 4294967295 4)).size = 4 := by rw [size_str, length_be]
  have hs2 : (str (be k 8)).size = 8 := by rw [size_str, length_be]
  have hs3 : (str (be 4294967295 4 ++ be k 8)).size = 12 := by rw [size_str, List.length_append, length_be, length_be]
  obtain ⟨X1, hX1⟩ : ∃ X, X = str (be 4294967295 4) := ⟨_, rfl⟩
  obtain ⟨X2, hX2⟩ : ∃ X, X = str (be k 8) := ⟨_, rfl⟩
  obtain ⟨X3, hX3⟩ : ∃ X, X = str (be 4294967295 4 ++ be k 8) := ⟨_, rfl⟩
  obtain ⟨X4, hX4⟩ : ∃ X, X = str l := ⟨_, rfl⟩
  obtain ⟨X5, hX5⟩ : ∃ X, X = str (be 4294967295 4 ++ be k 8 ++ l) := ⟨_, rfl⟩
  rw [← hX1] at HN1 hc1 hs1
  rw [← hX2] at HN2 hc1 hs2
  rw [← hX3] at hc1 hc2 hs3
  rw [← hX4] at hc2 hs0 ⊢
  rw [← hX5] at HW hc2
  have hnw : IntKind.u64.wrap (k : Int) = (k : Int) := by rw [IntKind.wrap_u64]; omega
  clear hX1 hX2 hX3 hX4 hX5 hfr
  go_enter Tryd.func73, Tryd.ntmps73
  go_wp2_with fail
  refine (HN1.out _).mono ?_
  rintro e w1 ⟨rfl, hb1⟩
  go_wp2_with fail
  refine (HN2.out _).mono ?_
  rintro e w2 ⟨rfl, hb2⟩
  have hb12 := hb1.trans (hb2.mono hb1.size)
  have HB12 := Lib.hid hb12; clear hb1 hb2 hb12
  go_wp2_with fail
  refine (HW.out _).mono ?_
  rintro e w3 ⟨rfl, hb3⟩
  have hb13 := HB12.out.trans (hb3.mono HB12.out.size)
  have HB13 := Lib.hid hb13; clear hb13 hb3
  go_wp2_with fail
  go_ret
  exact ⟨rfl, HB13.out⟩

theorem rhead_any (q k : Nat) (l : List UInt8) (hl : l.length = 32) (hq : q < 4294967296) (hk : k < 9223372036854775808) (w : World) :
    Calls Tryd.prog 72 #[.int .i64 q, .int .i64 k, .string (str l)] w fun e w' => e = .returned (.string (str (hd q k l))) ∧ Below w.heap.size w w' := by
  have HN1 := Lib.hid (number_any q 4 (by omega) (by omega))
  have HN2 := Lib.hid (number_any k 8 (by omega) (by omega))
  have hfr : hd0 q k l = crcw ([101, 110, 103, 114] ++ be q 4 ++ l ++ be k 8) := rfl
  have HW := Lib.hid (with_any ([101, 110, 103, 114] ++ be q 4 ++ l ++ be k 8) (by rw [List.length_append, List.length_append, List.length_append, length_be, length_be, hl]; simp))
  rw [← hfr] at HW
  have h52 : (hd0 q k l).length = 52 := by rw [hfr, crcw_length, List.length_append, List.length_append, List.length_append, length_be, length_be, hl]; rfl
  have hc0 : ({ data := #[101, 110, 103, 114] } : ByteArray) ++ str (be q 4) = str ([101, 110, 103, 114] ++ be q 4) := str_cat [101, 110, 103, 114] _
  have hc1 : str ([101, 110, 103, 114] ++ be q 4) ++ str l = str ([101, 110, 103, 114] ++ be q 4 ++ l) := str_cat _ _
  have hc2 : str ([101, 110, 103, 114] ++ be q 4 ++ l) ++ str (be k 8) = str ([101, 110, 103, 114] ++ be q 4 ++ l ++ be k 8) := str_cat _ _
  have hc3 : str (hd0 q k l) ++ str (List.replicate 76 0) = str (hd q k l) := str_cat _ _
  have hs0 : (str l).size = 32 := by rw [size_str, hl]
  have hs1 : (str (be q 4)).size = 4 := by rw [size_str, length_be]
  have hs2 : (str (be k 8)).size = 8 := by rw [size_str, length_be]
  have hs3 : (str ([101, 110, 103, 114] ++ be q 4)).size = 8 := by rw [size_str, List.length_append, length_be]; rfl
  have hs4 : (str ([101, 110, 103, 114] ++ be q 4 ++ l)).size = 40 := by rw [size_str, List.length_append, List.length_append, length_be, hl]; rfl
  have hs5 : (str (hd0 q k l)).size = 52 := by rw [size_str, h52]
  have hs6 : (str (List.replicate 76 0)).size = 76 := by rw [size_str, List.length_replicate]
  have hcv := fun (w : World) => run_to_string (P := Tryd.prog) Tryd.underlying35 Tryd.underlying5 Tryd.underlying9 76 (sees_new w 5 (u8s (List.replicate 76 0)) 1 76 (by simp))
  have hmk := make_bytes 76 (by omega)
  obtain ⟨Z, hZ⟩ : ∃ z : Array Value, z = (u8s (List.replicate 76 0)).toArray := ⟨_, rfl⟩
  rw [← hZ] at hmk
  rw [← hZ] at hcv
  replace hmk : ∀ W : World, (Instr.makeSlice 35 (.int .i64 76) (.int .i64 76)).run Tryd.prog W = .ok (.slice (some ⟨W.heap.size, 0, none⟩) 76 76) (W.alloc (.cells Z 5)) := hmk
  obtain ⟨X1, hX1⟩ : ∃ X, X = str (be q 4) := ⟨_, rfl⟩
  obtain ⟨X2, hX2⟩ : ∃ X, X = str (be k 8) := ⟨_, rfl⟩
  obtain ⟨X3, hX3⟩ : ∃ X, X = str ([101, 110, 103, 114] ++ be q 4) := ⟨_, rfl⟩
  obtain ⟨X4, hX4⟩ : ∃ X, X = str l := ⟨_, rfl⟩
  obtain ⟨X5, hX5⟩ : ∃ X, X = str ([101, 110, 103, 114] ++ be q 4 ++ l) := ⟨_, rfl⟩
  obtain ⟨X6, hX6⟩ : ∃ X, X = str ([101, 110, 103, 114] ++ be q 4 ++ l ++ be k 8) := ⟨_, rfl⟩
  obtain ⟨X7, hX7⟩ : ∃ X, X = str (hd0 q k l) := ⟨_, rfl⟩
  obtain ⟨X8, hX8⟩ : ∃ X, X = str (List.replicate 76 0) := ⟨_, rfl⟩
  obtain ⟨X9, hX9⟩ : ∃ X, X = str (hd q k l) := ⟨_, rfl⟩
  rw [← hX1] at HN1 hc0 hs1
  rw [← hX2] at HN2 hc2 hs2
  rw [← hX3] at hc0 hc1 hs3
  rw [← hX4] at hc1 hs0 ⊢
  rw [← hX5] at hc1 hc2 hs4
  rw [← hX6] at HW hc2
  rw [← hX7] at HW hc3 hs5
  rw [← hX8] at hc3 hs6 hcv
  rw [← hX9] at hc3 ⊢
  have hnw : IntKind.u64.wrap (k : Int) = (k : Int) := by rw [IntKind.wrap_u64]; omega
  have hnq : IntKind.u64.wrap (q : Int) = (q : Int) := by rw [IntKind.wrap_u64]; omega
  clear hX1 hX2 hX3 hX4 hX5 hX6 hX7 hX8 hX9 hfr hZ
  go_enter Tryd.func72, Tryd.ntmps72
  go_wp2_with fail
  refine (HN1.out _).mono ?_
  rintro e w1 ⟨rfl, hb1⟩
  go_wp2_with fail
  refine (HN2.out _).mono ?_
  rintro e w2 ⟨rfl, hb2⟩
  have hb12 := hb1.trans (hb2.mono hb1.size)
  have HB12 := Lib.hid hb12; clear hb1 hb2 hb12
  go_wp2_with fail
  refine (HW.out _).mono ?_
  rintro e w3 ⟨rfl, hb3⟩
  have hb13 := HB12.out.trans (hb3.mono HB12.out.size)
  have HB13 := Lib.hid hb13; clear hb13 hb3
  go_wp2_with (simp only [hmk])
  go_ret
  exact ⟨rfl, HB13.out.alloc HB13.out.size _⟩
end Go.Proofs.YtldgnckchlbadaaDoor
