/-
  A segment's head, foot and frame, written by the code.
-/
import Derived.Test.YtldgnckchlbadaaDoorSeg1
import Derived.Test.YtldgnckchlbadaaDoorGB
namespace Go.Proofs.YtldgnckchlbadaaDoor
set_option maxRecDepth 4000
open Go.RowKit

def frm (l t : List UInt8) : List UInt8 := crcw (be t.length 4 ++ t ++ sha (l ++ t))
def ft (n : Nat) (l : List UInt8) : List UInt8 := crcw (be 4294967295 4 ++ be n 8 ++ l)
def hd0 (k n : Nat) (l : List UInt8) : List UInt8 := crcw ([101, 110, 103, 114] ++ be k 4 ++ l ++ be n 8)
def hd (k n : Nat) (l : List UInt8) : List UInt8 := hd0 k n l ++ List.replicate 76 0
theorem sha_length (l : List UInt8) : (sha l).length = 32 := by
  unfold sha; rw [length_flatMap_const _ 4 (fun x => length_be x 4), (hsj_w8 _ _).1]
theorem crcw_length (l : List UInt8) : (crcw l).length = l.length + 4 := by rw [crcw, List.length_append, length_be]

theorem frame_ok (l t : List UInt8) (A B : Option Addr) (c m c' : Nat) (w : World) (hA : Sees w 1 A 32 (u8s l)) (hB : Sees w 1 B m (u8s t)) (hl : l.length = 32) (ht : t.length = m) (hm1 : 1 ≤ m) (hm : m ≤ 65535) (hT : Tab w) :
    Calls Tryd.prog 31 #[.slice A 32 c, .slice B m c'] w fun e w' => ∃ v v', e = .returned (.tuple #[v, v']) ∧ w'.ownsRow w.heap.size 5 1 v (m + 40) (u8s (frm l t)) ∧ w'.ownsRow w.heap.size 5 1 v' 32 (u8s (sha (l ++ t))) ∧ Below w.heap.size w w' := by
  have HC := Lib.hid (chain_any l t A B 32 c m c' w hA hB hl ht (by omega) hT)
  have HN := Lib.hid new_any
  have HB := Lib.hid hB; clear hA hB hT
  have h1 : (1 : Int) ≤ (m : Int) := by omega
  have h2 : (m : Int) ≤ 65535 := by omega
  have hsl := sha_length (l ++ t)
  obtain ⟨sx, hsx⟩ : ∃ x, x = sha (l ++ t) := ⟨_, rfl⟩
  have hfr : frm l t = crcw (be m 4 ++ t ++ sx) := by rw [frm, ht, hsx]
  rw [← hsx] at HC hsl ⊢
  have HFR := Lib.hid hfr; clear hfr hsx
  go_enter Tryd.func31, Tryd.ntmps31
  go_wp2_with fail
  refine HC.out.mono ?_
  rintro e w1 ⟨v, rfl, hown, hb1⟩
  obtain ⟨g1, c1, cu, rfl, hg1, hB1, -⟩ := own_open hown (by omega)
  have HOWN := Lib.hid hown; have HB1 := Lib.hid hb1; clear hown hb1 hB1 cu HC
  go_wp2_with fail
  refine (HN.out _).mono ?_
  rintro e w2 ⟨rfl, hp2, hb2⟩
  have HU := Lib.hid (u32_any w1.heap.size w1.heap.size [] m w2 hp2 (by omega) (by simp))
  have HB2 := Lib.hid hb2; clear hp2 hb2 HN
  go_wp2_with fail
  refine HU.out.mono ?_
  rintro e w3 ⟨rfl, hp3, hb3⟩
  have hb13 := HB2.out.trans hb3
  have hTq := HB.out.below (HB1.out.trans (hb13.mono HB1.out.size))
  rw [List.nil_append] at hp3
  have HR := Lib.hid (raw_any w1.heap.size w1.heap.size _ t B m c' w3 hp3 hTq ht (by rw [length_be]; omega))
  have HB13 := Lib.hid hb13; clear hp3 hb3 hTq hb13 HU HB2
  go_wp2_with fail
  refine HR.out.mono ?_
  rintro e w4 ⟨rfl, hp4, hb4⟩
  have hb14 := HB13.out.trans hb4
  have hSn := Sees.of_own (own_below HOWN.out hb14)
  have HR2 := Lib.hid (raw_any w1.heap.size w1.heap.size _ sx _ 32 c1 w4 hp4 hSn hsl (by rw [List.length_append, length_be]; omega))
  have HB14 := Lib.hid hb14; clear hp4 hb4 hb14 hSn HR HB13
  go_wp2_with fail
  refine HR2.out.mono ?_
  rintro e w5 ⟨rfl, hp5, hb5⟩
  have hb15 := HB14.out.trans hb5
  have hlen : (be m 4 ++ t ++ sx).length = m + 36 := by rw [List.length_append, List.length_append, length_be, hsl, ht]; omega
  have hBy := bytes_any w1.heap.size w1.heap.size _ w5 hp5 (by omega) (by omega)
  rw [hlen] at hBy
  have HBY := Lib.hid hBy; have HB15 := Lib.hid hb15; clear hp5 hb5 hb15 hBy HR2 HB14
  go_wp2_with fail
  refine HBY.out.mono ?_
  rintro e w6 ⟨v6, rfl, hown6, hb6⟩
  obtain ⟨A6, c6, rfl⟩ := own_shape hown6
  have hb16 := HB15.out.trans (hb6.mono HB15.out.size)
  have HW := Lib.hid (cwith_any _ A6 (m + 36) c6 w6 (Sees.of_own hown6) hlen (by omega))
  have HB16 := Lib.hid hb16; clear hown6 hb6 hb16 HBY HB15
  go_wp2_with fail
  refine HW.out.mono ?_
  rintro e w7 ⟨v7, rfl, hown7, hb7⟩
  have hb17 := HB16.out.trans (hb7.mono HB16.out.size)
  have hws := HB1.out.size
  have hown8 := own_below HOWN.out hb17
  rw [← HFR.out] at hown7
  have HO7 := Lib.hid hown7; have HO8 := Lib.hid hown8; have HB17 := Lib.hid hb17; clear hown7 hown8 hb7 HW
  go_wp2_with fail
  go_ret2
  exact ⟨v7, _, rfl, own_base HO7.out (by have := HB16.out.size; omega), HO8.out, HB1.out.trans (hb17.mono hws)⟩

theorem frame_no (A B : Option Addr) (n c m c' : Nat) (w : World) (h : m < 1 ∨ 65535 < m ∨ n ≠ 32) :
    Calls Tryd.prog 31 #[.slice A n c, .slice B m c'] w fun e w' => e = .returned (.tuple #[.slice none 0 0, .slice none 0 0]) ∧ w = w' := by
  by_cases h1 : m < 1
  · have h1i : (m : Int) < 1 := by omega
    go_enter Tryd.func31, Tryd.ntmps31
    go_wp2_with fail
    go_ret2
    exact ⟨rfl, rfl⟩
  · have h1i : (1 : Int) ≤ (m : Int) := by omega
    by_cases h2 : 65535 < m
    · have h2i : (65535 : Int) < (m : Int) := by omega
      go_enter Tryd.func31, Tryd.ntmps31
      go_wp2_with fail
      go_ret2
      exact ⟨rfl, rfl⟩
    · have h2i : (m : Int) ≤ 65535 := by omega
      have h3 : ((n : Int) == 32) = false := by rw [beq_eq_false_iff_ne]; omega
      have h4 : ((n : Int) != 32) = true := by rw [bne, h3]; rfl
      go_enter Tryd.func31, Tryd.ntmps31
      go_wp2_with fail
      go_ret2
      exact ⟨rfl, rfl⟩

theorem foot_ok (k : Nat) (l : List UInt8) (A : Option Addr) (c : Nat) (w : World) (hA : Sees w 1 A 32 (u8s l)) (hl : l.length = 32) (hk : k < 9223372036854775808) :
    Calls Tryd.prog 30 #[.int .i64 k, .slice A 32 c] w fun e w' => ∃ v, e = .returned v ∧ w'.ownsRow w.heap.size 5 1 v 48 (u8s (ft k l)) ∧ Below w.heap.size w w' := by
  have HN := Lib.hid new_any
  have HA := Lib.hid hA; clear hA
  have hk0 : (0 : Int) ≤ (k : Int) := by omega
  have hkw : IntKind.u64.wrap (k : Int) = (k : Int) := by rw [IntKind.wrap_u64]; omega
  go_enter Tryd.func30, Tryd.ntmps30
  go_wp2_with fail
  refine (HN.out _).mono ?_
  rintro e w2 ⟨rfl, hp2, hb2⟩
  have HU := Lib.hid (u32_any w.heap.size w.heap.size [] 4294967295 w2 hp2 (by omega) (by simp))
  have HB2 := Lib.hid hb2; clear hp2 hb2 HN
  go_wp2_with fail
  refine HU.out.mono ?_
  rintro e w3 ⟨rfl, hp3, hb3⟩
  have hb13 := HB2.out.trans hb3
  rw [List.nil_append] at hp3
  have HV := Lib.hid (u64_any w.heap.size w.heap.size _ k w3 hp3 (by omega) (by rw [length_be]; omega))
  have HB13 := Lib.hid hb13; clear hp3 hb3 hb13 HU HB2
  go_wp2_with fail
  refine HV.out.mono ?_
  rintro e w4 ⟨rfl, hp4, hb4⟩
  have hb14 := HB13.out.trans hb4
  have HR2 := Lib.hid (raw_any w.heap.size w.heap.size _ l A 32 c w4 hp4 (HA.out.below hb14) hl (by rw [List.length_append, length_be, length_be]; omega))
  have HB14 := Lib.hid hb14; clear hp4 hb4 hb14 HV HB13
  go_wp2_with fail
  refine HR2.out.mono ?_
  rintro e w5 ⟨rfl, hp5, hb5⟩
  have hb15 := HB14.out.trans hb5
  have hlen : (be 4294967295 4 ++ be k 8 ++ l).length = 44 := by rw [List.length_append, List.length_append, length_be, length_be, hl]
  have hBy := bytes_any w.heap.size w.heap.size _ w5 hp5 (by omega) (by omega)
  rw [hlen] at hBy
  have HBY := Lib.hid hBy; have HB15 := Lib.hid hb15; clear hp5 hb5 hb15 hBy HR2 HB14
  go_wp2_with fail
  refine HBY.out.mono ?_
  rintro e w6 ⟨v6, rfl, hown6, hb6⟩
  obtain ⟨A6, c6, rfl⟩ := own_shape hown6
  have hb16 := HB15.out.trans (hb6.mono HB15.out.size)
  have HW := Lib.hid (cwith_any _ A6 44 c6 w6 (Sees.of_own hown6) hlen (by omega))
  have HB16 := Lib.hid hb16; clear hown6 hb6 hb16 HBY HB15
  go_wp2_with fail
  refine HW.out.mono ?_
  rintro e w7 ⟨v7, rfl, hown7, hb7⟩
  have HO7 := Lib.hid hown7; have HB7 := Lib.hid hb7; clear hown7 hb7 HW
  go_wp2_with fail
  go_ret
  exact ⟨v7, rfl, own_base HO7.out HB16.out.size, HB16.out.trans (HB7.out.mono HB16.out.size)⟩

theorem foot_no (k : Int) (A : Option Addr) (n c : Nat) (w : World) (h : n ≠ 32 ∨ k < 0) :
    Calls Tryd.prog 30 #[.int .i64 k, .slice A n c] w fun e w' => e = .returned (.slice none 0 0) ∧ w = w' := by
  by_cases h1 : n = 32
  · subst h1
    have h2 : k < 0 := by omega
    go_enter Tryd.func30, Tryd.ntmps30
    go_wp2_with fail
    go_ret
    exact ⟨rfl, rfl⟩
  · have h3 : ((n : Int) == 32) = false := by rw [beq_eq_false_iff_ne]; omega
    go_enter Tryd.func30, Tryd.ntmps30
    go_wp2_with fail
    go_ret
    exact ⟨rfl, rfl⟩

theorem head_no (q k : Int) (A : Option Addr) (n c : Nat) (w : World) (h : n ≠ 32 ∨ k < 0) :
    Calls Tryd.prog 47 #[.int .i64 q, .int .i64 k, .slice A n c] w fun e w' => e = .returned (.slice none 0 0) ∧ w = w' := by
  by_cases h1 : n = 32
  · subst h1
    have h2 : k < 0 := by omega
    go_enter Tryd.func47, Tryd.ntmps47
    go_wp2_with fail
    go_ret
    exact ⟨rfl, rfl⟩
  · have h3 : ((n : Int) == 32) = false := by rw [beq_eq_false_iff_ne]; omega
    go_enter Tryd.func47, Tryd.ntmps47
    go_wp2_with fail
    go_ret
    exact ⟨rfl, rfl⟩

theorem eng_cells : u8s [101, 110, 103, 114] = [.int .u8 101, .int .u8 110, .int .u8 103, .int .u8 114] := rfl
theorem head_bad (q : Int) (k : Nat) (l : List UInt8) (A : Option Addr) (c : Nat) (w : World) (hA : Sees w 1 A 32 (u8s l)) (hl : l.length = 32) (hk2 : k < 9223372036854775808) (hq : q < 0 ∨ 4294967295 < q) (hq2 : q.natAbs ≤ 9223372036854775808) :
    Calls Tryd.prog 47 #[.int .i64 q, .int .i64 k, .slice A 32 c] w fun e w' => e = .returned (.slice none 0 0) ∧ Below w.heap.size w w' := by
  have HN := Lib.hid new_any
  have HA := Lib.hid hA; clear hA
  have hk0 : (0 : Int) ≤ (k : Int) := by omega
  have hkw : IntKind.u64.wrap (k : Int) = (k : Int) := by rw [IntKind.wrap_u64]; omega
  have HQ := Lib.hid hq; have HQ2 := Lib.hid hq2; clear hq hq2
  go_enter Tryd.func47, Tryd.ntmps47
  go_wp2_with fail
  refine (HN.out _).mono ?_
  rintro e w2 ⟨rfl, hp2, hb2⟩
  have hal : Below w2.heap.size w2 (w2.alloc (.cells #[.int .u8 101, .int .u8 110, .int .u8 103, .int .u8 114] 5 (4, 5))) := (Below.refl _ _).alloc (Nat.le_refl _) _
  have hcv : (convert 35 35 (.slice (some ⟨w2.heap.size, 0, none⟩) 4 4)).run Tryd.prog (w2.alloc (.cells #[.int .u8 101, .int .u8 110, .int .u8 103, .int .u8 114] 5)) = .ok (.slice (some ⟨w2.heap.size, 0, none⟩) 4 4) (w2.alloc (.cells #[.int .u8 101, .int .u8 110, .int .u8 103, .int .u8 114] 5 (4, 5))) := cv_mark w2 _ 4 4
  have HR := Lib.hid (raw_any w.heap.size w.heap.size [] [101, 110, 103, 114] _ 4 4 _ (hp2.keep hal) (sees_mark w2 5 (4, 5) [.int .u8 101, .int .u8 110, .int .u8 103, .int .u8 114] 4 rfl) rfl (by simp))
  have hb2 := hb2.trans (hal.mono hb2.size)
  have HB2 := Lib.hid hb2; clear hp2 hb2 HN hal
  go_wp2_with fail
  refine HR.out.mono ?_
  rintro e w3 ⟨rfl, hp3, hb3⟩
  have hb13 := HB2.out.trans hb3
  have HU := Lib.hid (u32_bad w.heap.size w.heap.size _ q w3 (by have := HQ.out; omega) HQ2.out hp3)
  have HB13 := Lib.hid hb13; clear hp3 hb3 hb13 HR HB2
  go_wp2_with fail
  refine HU.out.mono ?_
  rintro e w4 ⟨rfl, hp4, hb4⟩
  have hb14 := HB13.out.trans hb4
  have HR2 := Lib.hid (raw_bad w.heap.size w.heap.size A 32 c w4 hp4)
  have HV := Lib.hid (u64_bad w.heap.size w.heap.size k w4 hp4)
  have HBY := Lib.hid (bytes_bad w.heap.size w.heap.size w4 hp4)
  have HB14 := Lib.hid hb14; clear hp4 hb4 hb14 HU HB13
  go_wp2_with fail
  refine HR2.out.mono ?_
  rintro e w5 ⟨rfl, rfl⟩
  go_wp2_with fail
  refine HV.out.mono ?_
  rintro e w6 ⟨rfl, rfl⟩
  go_wp2_with fail
  refine HBY.out.mono ?_
  rintro e w7 ⟨rfl, rfl⟩
  go_wp2_with fail
  go_ret
  exact ⟨rfl, HB14.out⟩

theorem head_ok (q k : Nat) (l : List UInt8) (A : Option Addr) (c : Nat) (w : World) (hA : Sees w 1 A 32 (u8s l)) (hl : l.length = 32) (hk : k < 9223372036854775808) (hq : q < 4294967296) :
    Calls Tryd.prog 47 #[.int .i64 q, .int .i64 k, .slice A 32 c] w fun e w' => ∃ v, e = .returned v ∧ w'.ownsRow w.heap.size 5 1 v 128 (u8s (hd q k l)) ∧ Below w.heap.size w w' := by
  have HN := Lib.hid new_any
  have HA := Lib.hid hA; clear hA
  have hk0 : (0 : Int) ≤ (k : Int) := by omega
  have hkw : IntKind.u64.wrap (k : Int) = (k : Int) := by rw [IntKind.wrap_u64]; omega
  go_enter Tryd.func47, Tryd.ntmps47
  go_wp2_with fail
  refine (HN.out _).mono ?_
  rintro e w2 ⟨rfl, hp2, hb2⟩
  have hal : Below w2.heap.size w2 (w2.alloc (.cells #[.int .u8 101, .int .u8 110, .int .u8 103, .int .u8 114] 5 (4, 5))) := (Below.refl _ _).alloc (Nat.le_refl _) _
  have hcv : (convert 35 35 (.slice (some ⟨w2.heap.size, 0, none⟩) 4 4)).run Tryd.prog (w2.alloc (.cells #[.int .u8 101, .int .u8 110, .int .u8 103, .int .u8 114] 5)) = .ok (.slice (some ⟨w2.heap.size, 0, none⟩) 4 4) (w2.alloc (.cells #[.int .u8 101, .int .u8 110, .int .u8 103, .int .u8 114] 5 (4, 5))) := cv_mark w2 _ 4 4
  have HR := Lib.hid (raw_any w.heap.size w.heap.size [] [101, 110, 103, 114] _ 4 4 _ (hp2.keep hal) (sees_mark w2 5 (4, 5) [.int .u8 101, .int .u8 110, .int .u8 103, .int .u8 114] 4 rfl) rfl (by simp))
  have hb2 := hb2.trans (hal.mono hb2.size)
  have HB2 := Lib.hid hb2; clear hp2 hb2 HN hal
  go_wp2_with fail
  refine HR.out.mono ?_
  rintro e w3 ⟨rfl, hp3, hb3⟩
  have hb13 := HB2.out.trans hb3
  rw [List.nil_append] at hp3
  have HU := Lib.hid (u32_any w.heap.size w.heap.size _ q w3 hp3 (by omega) (by simp))
  have HB13 := Lib.hid hb13; clear hp3 hb3 hb13 HR HB2
  go_wp2_with fail
  refine HU.out.mono ?_
  rintro e w4 ⟨rfl, hp4, hb4⟩
  have hb14 := HB13.out.trans hb4
  have HR2 := Lib.hid (raw_any w.heap.size w.heap.size _ l A 32 c w4 hp4 (HA.out.below hb14) hl (by rw [List.length_append, length_be]; simp))
  have HB14 := Lib.hid hb14; clear hp4 hb4 hb14 HU HB13
  go_wp2_with fail
  refine HR2.out.mono ?_
  rintro e w5 ⟨rfl, hp5, hb5⟩
  have hb15 := HB14.out.trans hb5
  have HV := Lib.hid (u64_any w.heap.size w.heap.size _ k w5 hp5 (by omega) (by rw [List.length_append, List.length_append, length_be, hl]; simp))
  have HB15 := Lib.hid hb15; clear hp5 hb5 hb15 HR2 HB14
  go_wp2_with fail
  refine HV.out.mono ?_
  rintro e w6 ⟨rfl, hp6, hb6⟩
  have hb16 := HB15.out.trans hb6
  have hlen : ([101, 110, 103, 114] ++ be q 4 ++ l ++ be k 8).length = 48 := by rw [List.length_append, List.length_append, List.length_append, length_be, length_be, hl]; rfl
  have hBy := bytes_any w.heap.size w.heap.size _ w6 hp6 (by omega) (by omega)
  rw [hlen] at hBy
  have HBY := Lib.hid hBy; have HB16 := Lib.hid hb16; clear hp6 hb6 hb16 hBy HV HB15
  have hmk := make_bytes 128 (by omega)
  obtain ⟨Z, hZ⟩ : ∃ z : Array Value, z = (u8s (List.replicate 128 0)).toArray := ⟨_, rfl⟩
  rw [← hZ] at hmk
  replace hmk : ∀ W : World, (Instr.makeSlice 35 (.int .i64 128) (.int .i64 128)).run Tryd.prog W = .ok (.slice (some ⟨W.heap.size, 0, none⟩) 128 128) (W.alloc (.cells Z 5)) := hmk
  have HZ := Lib.hid hZ; clear hZ
  have hZs : Z.size = 128 := by rw [HZ.out]; simp
  go_wp2_with fail
  refine HBY.out.mono ?_
  rintro e w7 ⟨v7, rfl, hown7, hb7⟩
  obtain ⟨A7, c7, rfl⟩ := own_shape hown7
  have hb17 := HB16.out.trans (hb7.mono HB16.out.size)
  have hal7 : Below w7.heap.size w7 (w7.alloc (.cells Z 5)) := (Below.refl _ _).alloc (Nat.le_refl _) _
  have HW := Lib.hid (cwith_any _ A7 48 c7 (w7.alloc (.cells Z 5)) (Sees.of_own (own_below hown7 hal7)) hlen (by omega))
  have HB17 := Lib.hid hb17; clear hown7 hb7 hb17 HBY HB16 hal7
  go_wp2_with (simp only [hmk])
  refine HW.out.mono ?_
  rintro e w8 ⟨v8, rfl, hown8, hb8⟩
  obtain ⟨A8, c8, rfl⟩ := own_shape hown8
  have hBZ : Blk w8 w7.heap.size 5 Z := (Blk.new w7 5 Z).below hb8 (by simp)
  have hS8 := Sees.of_own hown8
  have hsz : (Tryd.prog.info? 5).map (·.size) = some 1 := by kernel_rfl
  have hw7 : (w7.alloc (.cells Z 5)).heap.size = w7.heap.size + 1 := by simp
  have hb8' : Below w.heap.size w w8 := (HB17.out.alloc HB17.out.size _).trans (hb8.mono (by have := HB17.out.size; omega))
  have hws := HB17.out.size
  have HBZ := Lib.hid hBZ; have HS8 := Lib.hid hS8; have HB8 := Lib.hid hb8'
  clear hBZ hS8 hb8' hb8 hown8 HW HB17 hmk
  go_wp2_with (with_reducible refine wpList_cpy rfl (.tmp 41) (.tmp 43) 35 35 rfl 5 Tryd.underlying35 hsz w7.heap.size 0 128 128 A8 52 c8 rfl rfl Z 5 HBZ.out (u8s (crcw ([101, 110, 103, 114] ++ be q 4 ++ l ++ be k 8))) HS8.out (by rw [hZs]; omega) (u8s_one _) ?_; intro w9 hB9 hF9; have HB9 := Lib.hid hB9; have HF9 := Lib.hid hF9; clear hB9 hF9)
  go_ret
  have hcw : (crcw ([101, 110, 103, 114] ++ be q 4 ++ l ++ be k 8)).length = 52 := by rw [crcw_length, hlen]
  have e : splice Z.toList 0 ((u8s (crcw ([101, 110, 103, 114] ++ be q 4 ++ l ++ be k 8))).take 128) = u8s (hd q k l) := by
    rw [List.take_of_length_le (by rw [length_u8s, hcw]; omega), HZ.out, splice, length_u8s, hcw, List.take_zero, List.nil_append, hd, u8s_append, hd0]
    congr 1
  have HB9' := HB9.out
  rw [e] at HB9'
  have hlh : (u8s (hd q k l)).length = 128 := by rw [length_u8s, hd, List.length_append, hd0, hcw]; rfl
  refine ⟨_, rfl, own_mk hws HB9' (Nat.le_refl _) (by unfold maxLen; omega) (by rw [List.size_toArray, hlh]) (by rw [List.toList_toArray, Nat.mul_one]; exact List.take_of_length_le (by rw [hlh]; exact Nat.le_refl _)), HB8.out.trans (HF9.out.below HB8.out.size (fun j hj => by omega))⟩
end Go.Proofs.YtldgnckchlbadaaDoor
