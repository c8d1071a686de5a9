/-
  A key's octets, by the code.
-/
import Derived.Test.YtnlghpopjckhiaaCrcW
import Derived.Test.YtnlghpopjckhiaaKit
namespace Go.Proofs.Ytnlghpopjckhiaa
set_option maxRecDepth 4000
open Go.RowKit

def khead (b : Nat) (k : List UInt8) : List UInt8 := [101, 110, 103, 107] ++ be b 8 ++ k
def keyo (b : Nat) (k : List UInt8) : List UInt8 := crcw (khead b k) ++ List.replicate 80 0
theorem khead_length (b : Nat) (k : List UInt8) (h : k.length = 32) : (khead b k).length = 44 := by simp [khead, length_be, h]
theorem keyo_length (b : Nat) (k : List UInt8) (h : k.length = 32) : (keyo b k).length = 128 := by rw [keyo, List.length_append, crcw, List.length_append, khead_length b k h, length_be, List.length_replicate]

def keyRight (b : Int) (n : Nat) : Prop := 0 ≤ b ∧ b ≤ 1099511627776 ∧ n = 32
instance (b : Int) (n : Nat) : Decidable (keyRight b n) := by unfold keyRight; infer_instance

theorem right_any (b : Int) (A : Option Addr) (n c : Nat) (w : World) : Calls Try.prog 28 #[.int .i64 b, .slice A n c] w fun e w' => e = .returned (.bool (decide (keyRight b n))) ∧ w = w' := by
  by_cases h1 : 0 ≤ b
  · by_cases h2 : b ≤ 1099511627776
    · by_cases h3 : n = 32
      · rw [decide_eq_true (show keyRight b n from ⟨h1, h2, h3⟩)]
        have h3' : (n : Int) = 32 := by omega
        go_enter Try.func28, Try.ntmps28
        go_wp2_with fail
        go_ret
        exact ⟨ret_bool (by first | rfl | (simp; done) | (simp; omega)), rfl⟩
      · rw [decide_eq_false (show ¬ keyRight b n from fun h => h3 h.2.2)]
        have h3' : ((n : Int) == 32) = false := by rw [beq_eq_false_iff_ne]; omega
        go_enter Try.func28, Try.ntmps28
        go_wp2_with fail
        go_ret
        exact ⟨ret_bool (by first | rfl | (simp; done) | (simp; omega)), rfl⟩
    · rw [decide_eq_false (show ¬ keyRight b n from fun h => h2 h.2.1)]
      go_enter Try.func28, Try.ntmps28
      go_wp2_with fail
      go_ret
      exact ⟨ret_bool (by first | rfl | (simp; done) | (simp; omega)), rfl⟩
  · rw [decide_eq_false (show ¬ keyRight b n from fun h => h1 h.1)]
    go_enter Try.func28, Try.ntmps28
    go_wp2_with fail
    go_ret
    exact ⟨ret_bool (by first | rfl | (simp; done) | (simp; omega)), rfl⟩

theorem octets_any (b : Nat) (k : List UInt8) (A : Option Addr) (c : Nat) (w : World) (hb : b ≤ 1099511627776) (hk : k.length = 32) (hS : Sees w 1 A 32 (u8s k)) :
    Calls Try.prog 30 #[.int .i64 b, .slice A 32 c] w fun e w' => ∃ v, e = .returned v ∧ w'.ownsRow w.heap.size 5 1 v 128 (u8s (keyo b k)) ∧ Below w.heap.size w w' := by
  have HL := Lib.hid (khead_length b k hk)
  have HH := Lib.hid (show keyo b k = crcw (khead b k) ++ List.replicate 80 0 from rfl)
  generalize hP0 : keyo b k = P0 at *
  clear hP0
  have HH0 := Lib.hid (show khead b k = [101, 110, 103, 107] ++ be b 8 ++ k from rfl)
  generalize khead b k = L0 at *
  have hb0 : IntKind.u64.wrap (b : Int) = (b : Int) := by rw [IntKind.wrap_u64]; omega
  have HN := Lib.hid new_any
  have HS := Lib.hid hS; clear hS
  go_enter Try.func30, Try.ntmps30
  go_wp2_with fail
  refine (HN.out _).mono ?_
  rintro e w2 ⟨rfl, hp2, hb2⟩
  have hal : Below w2.heap.size w2 (w2.alloc (.cells #[.int .u8 101, .int .u8 110, .int .u8 103, .int .u8 107] 5 (4, 5))) := (Below.refl _ _).alloc (Nat.le_refl _) _
  have hcv : (convert 37 37 (.slice (some ⟨w2.heap.size, 0, none⟩) 4 4)).run Try.prog (w2.alloc (.cells #[.int .u8 101, .int .u8 110, .int .u8 103, .int .u8 107] 5)) = .ok (.slice (some ⟨w2.heap.size, 0, none⟩) 4 4) (w2.alloc (.cells #[.int .u8 101, .int .u8 110, .int .u8 103, .int .u8 107] 5 (4, 5))) := cv_mark w2 _ 4 4
  have HRW := Lib.hid (raw_any w.heap.size w.heap.size [] [101, 110, 103, 107] _ 4 4 _ (hp2.keep hal) (sees_mark w2 5 (4, 5) [.int .u8 101, .int .u8 110, .int .u8 103, .int .u8 107] 4 rfl) rfl (by simp))
  have hb2 := hb2.trans (hal.mono hb2.size)
  have HB2 := Lib.hid hb2; clear hp2 hb2 HN hal
  go_wp2_with fail
  refine HRW.out.mono ?_
  rintro e w3 ⟨rfl, hp3, hb3⟩
  have hb13 := HB2.out.trans hb3
  rw [List.nil_append] at hp3
  have HU := Lib.hid (u64_any w.heap.size w.heap.size _ b w3 hp3 (by omega) (by simp))
  have HB13 := Lib.hid hb13; clear hp3 hb3 hb13 HRW HB2
  go_wp2_with fail
  refine HU.out.mono ?_
  rintro e w4 ⟨rfl, hp4, hb4⟩
  have hb14 := HB13.out.trans hb4
  have HU2 := Lib.hid (raw_any w.heap.size w.heap.size _ k _ 32 c w4 hp4 (HS.out.below hb14) hk (by simp [length_be]))
  rw [← HH0.out] at HU2
  have HB14 := Lib.hid hb14; clear hp4 hb4 hb14 HU HB13
  go_wp2_with fail
  refine HU2.out.mono ?_
  rintro e w5 ⟨rfl, hp5, hb5⟩
  have hb15 := HB14.out.trans hb5
  have hBy := bytes_any w.heap.size w.heap.size L0 w5 hp5 (by rw [HL.out]; omega) (by rw [HL.out]; omega)
  rw [HL.out] at hBy
  have HBY := Lib.hid hBy
  have HB15 := Lib.hid hb15; clear hp5 hb5 hb15 HU2 HB14 hBy
  have hmk := make_bytes 128 (by omega)
  obtain ⟨Z, hZ⟩ : ∃ z : Array Value, z = (u8s (List.replicate 128 0)).toArray := ⟨_, rfl⟩
  rw [← hZ] at hmk
  replace hmk : ∀ W : World, (Instr.makeSlice 37 (.int .i64 128) (.int .i64 128)).run Try.prog W = .ok (.slice (some ⟨W.heap.size, 0, none⟩) 128 128) (W.alloc (.cells Z 5)) := hmk
  have HZ := Lib.hid hZ; clear hZ
  have hZs : Z.size = 128 := by rw [HZ.out]; simp
  go_wp2_with fail
  refine HBY.out.mono ?_
  rintro e w7 ⟨v7, rfl, hown7, hb7⟩
  obtain ⟨A7, c7, rfl⟩ := own_shape hown7
  have hb17 := HB15.out.trans (hb7.mono HB15.out.size)
  have hal7 : Below w7.heap.size w7 (w7.alloc (.cells Z 5)) := (Below.refl _ _).alloc (Nat.le_refl _) _
  have HW := Lib.hid (cwith_any L0 A7 44 c7 (w7.alloc (.cells Z 5)) (Sees.of_own (own_below hown7 hal7)) HL.out (by omega))
  have HB17 := Lib.hid hb17; clear hown7 hb7 hb17 HBY HB15 hal7
  go_wp2_with (simp only [hmk])
  refine HW.out.mono ?_
  rintro e w8 ⟨v8, rfl, hown8, hb8⟩
  obtain ⟨A8, c8, rfl⟩ := own_shape hown8
  have hBZ : Blk w8 w7.heap.size 5 Z := (Blk.new w7 5 Z).below hb8 (by simp)
  have hS8 := Sees.of_own hown8
  have hsz : (Try.prog.info? 5).map (·.size) = some 1 := by kernel_rfl
  have hw7 : (w7.alloc (.cells Z 5)).heap.size = w7.heap.size + 1 := by simp
  have hb8' : Below w.heap.size w w8 := (HB17.out.alloc HB17.out.size _).trans (hb8.mono (by have := HB17.out.size; omega))
  have hws := HB17.out.size
  have HBZ := Lib.hid hBZ; have HS8 := Lib.hid hS8; have HB8 := Lib.hid hb8'
  clear hBZ hS8 hb8' hb8 hown8 HW HB17 hmk
  go_wp2_with (with_reducible refine wpList_cpy rfl (.tmp 27) (.tmp 29) 37 37 rfl 5 Try.underlying37 hsz w7.heap.size 0 128 128 A8 48 c8 rfl rfl Z 5 HBZ.out (u8s (crcw L0)) HS8.out (by rw [hZs]; omega) (u8s_one _) ?_; intro w9 hB9 hF9; have HB9 := Lib.hid hB9; have HF9 := Lib.hid hF9; clear hB9 hF9)
  go_ret
  have hcw : (crcw L0).length = 48 := by rw [crcw, List.length_append, length_be, HL.out]
  have e : splice Z.toList 0 ((u8s (crcw L0)).take 128) = u8s P0 := by
    rw [List.take_of_length_le (by rw [length_u8s, hcw]; omega), HZ.out, splice, length_u8s, hcw, List.take_zero, List.nil_append, HH.out, u8s_append]
    congr 1
  have HB9' := HB9.out
  rw [e] at HB9'
  have hlh : (u8s P0).length = 128 := by rw [HH.out, length_u8s, List.length_append, hcw]; rfl
  refine ⟨_, rfl, own_mk (by omega) HB9' (Nat.le_refl _) (by unfold maxLen; omega) (by rw [List.size_toArray, hlh]) (by rw [List.toList_toArray, Nat.mul_one]; exact List.take_of_length_le (by rw [hlh]; exact Nat.le_refl _)), HB8.out.trans (HF9.out.below HB8.out.size (fun j hj => by omega))⟩
end Go.Proofs.Ytnlghpopjckhiaa
