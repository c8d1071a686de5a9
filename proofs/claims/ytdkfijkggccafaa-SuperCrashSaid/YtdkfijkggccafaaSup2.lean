/-
  A superblock's octets, by the code.
-/
import Derived.Test.YtdkfijkggccafaaSup1
namespace Go.Proofs.Ytdkfijkggccafaa
set_option maxRecDepth 4000
open Go.RowKit

def Sp.head (s : Sp) : List UInt8 := [101, 110, 103, 115] ++ be s.gen.toNat 8 ++ be s.boot.toNat 8 ++ (be s.slots.toNat 4 ++ be s.segs.toNat 4 ++ be s.size.toNat 4)
def spo (s : Sp) : List UInt8 := crcw s.head ++ List.replicate 92 0
theorem Sp.head_length (s : Sp) : s.head.length = 32 := by simp [Sp.head, length_be]
theorem spo_length (s : Sp) : (spo s).length = 128 := by rw [spo, List.length_append, crcw, List.length_append, Sp.head_length, length_be, List.length_replicate]
theorem Sp.nats (s : Sp) (h : s.right) : ∃ g b n m z : Nat, s = ⟨g, b, n, m, z⟩ ∧ 1 ≤ g ∧ g ≤ 1099511627776 ∧ b ≤ 1099511627776 ∧ 1 ≤ n ∧ n ≤ 64 ∧ 1 ≤ m ∧ m ≤ 256 ∧ 2 ≤ z ∧ z ≤ 512 := by
  obtain ⟨h1, h2, h3, h4, h5, h6, h7, h8, h9, h10⟩ := h
  refine ⟨s.gen.toNat, s.boot.toNat, s.slots.toNat, s.segs.toNat, s.size.toNat, ?_, by omega, by omega, by omega, by omega, by omega, by omega, by omega, by omega, by omega⟩
  obtain ⟨g, b, n, m, z⟩ := s
  simp only at *
  rw [Int.toNat_of_nonneg (by omega), Int.toNat_of_nonneg (by omega), Int.toNat_of_nonneg (by omega), Int.toNat_of_nonneg (by omega), Int.toNat_of_nonneg (by omega)]

theorem Pen.apart_new {w : World} {base p : Nat} {l : List UInt8} (h : Pen w base p l) (o : Obj) : Apart (w.alloc o) p w.heap.size := by
  obtain ⟨h1, v, h2, h3⟩ := h
  have hlt := h2.lt
  refine ⟨by omega, fun u hu => ?_⟩
  have hc := (h2.alloc o).cell 0
  rw [hc] at hu
  have hu' : u = v := by simpa using hu.symm
  subst hu'
  intro e
  have := (h3.lt _ e).2
  omega

theorem octets_no (s : Sp) (h : ¬ s.right) (w : World) : Calls Try.prog 7 #[s.val] w fun e w' => e = .returned (.tuple #[.slice none 0 0, .bool false]) ∧ Below w.heap.size w w' := by
  have hal : Below w.heap.size w (w.alloc (.cells #[.int .i64 s.gen, .int .i64 s.boot, .int .i64 s.slots, .int .i64 s.segs, .int .i64 s.size] 23)) := (Below.refl _ _).alloc (Nat.le_refl _) _
  have H := Lib.hid (right_any s)
  rw [decide_eq_false h] at H
  have HA := Lib.hid hal; clear hal
  unfold Sp.val at *
  go_enter Try.func7, Try.ntmps7
  go_wp2_with fail
  refine (H.out _).mono ?_
  rintro e w1 ⟨rfl, hb⟩
  have HB := Lib.hid (HA.out.trans (hb.mono HA.out.size))
  go_wp2_with fail
  go_ret2
  exact ⟨rfl, HB.out⟩

theorem octets_ok (s : Sp) (h : s.right) (w : World) : Calls Try.prog 7 #[s.val] w fun e w' => ∃ v, e = .returned (.tuple #[v, .bool true]) ∧ w'.ownsRow w.heap.size 5 1 v 128 (u8s (spo s)) ∧ Below w.heap.size w w' := by
  have HL := Lib.hid (Sp.head_length s)
  have HH := Lib.hid (show spo s = crcw s.head ++ List.replicate 92 0 from rfl)
  generalize hP0 : spo s = P0 at *
  clear hP0
  obtain ⟨g, b, n, m, z, rfl, h1, h2, h3, h4, h5, h6, h7, h8, h9⟩ := s.nats h
  have hal : Below w.heap.size w (w.alloc (.cells #[.int .i64 g, .int .i64 b, .int .i64 n, .int .i64 m, .int .i64 z] 23)) := (Below.refl _ _).alloc (Nat.le_refl _) _
  have H := Lib.hid (right_any ⟨g, b, n, m, z⟩)
  rw [decide_eq_true h] at H
  have hg0 : IntKind.u64.wrap (g : Int) = (g : Int) := by rw [IntKind.wrap_u64]; omega
  have hb0 : IntKind.u64.wrap (b : Int) = (b : Int) := by rw [IntKind.wrap_u64]; omega
  have HN := Lib.hid new_any
  have HA := Lib.hid hal; clear hal h
  have HH0 := Lib.hid (show (Sp.mk g b n m z).head = [101, 110, 103, 115] ++ be g 8 ++ be b 8 ++ (be n 4 ++ be m 4 ++ be z 4) from rfl)
  generalize (Sp.mk g b n m z).head = L0 at *
  unfold Sp.val at *
  go_enter Try.func7, Try.ntmps7
  go_wp2_with fail
  refine (H.out _).mono ?_
  rintro e w1 ⟨rfl, hb⟩
  have HR := Lib.hid ((Blk.new w 23 #[.int .i64 g, .int .i64 b, .int .i64 n, .int .i64 m, .int .i64 z]).below hb (by simp))
  have hsz1 : w.heap.size < w1.heap.size := HR.out.lt
  have HB1 := Lib.hid (HA.out.trans (hb.mono HA.out.size))
  clear hb HA H
  go_wp2_with fail
  refine (HN.out _).mono ?_
  rintro e w2 ⟨rfl, hp2, hb2⟩
  have hal : Below w2.heap.size w2 (w2.alloc (.cells #[.int .u8 101, .int .u8 110, .int .u8 103, .int .u8 115] 5 (4, 5))) := (Below.refl _ _).alloc (Nat.le_refl _) _
  have hcv : (convert 25 25 (.slice (some ⟨w2.heap.size, 0, none⟩) 4 4)).run Try.prog (w2.alloc (.cells #[.int .u8 101, .int .u8 110, .int .u8 103, .int .u8 115] 5)) = .ok (.slice (some ⟨w2.heap.size, 0, none⟩) 4 4) (w2.alloc (.cells #[.int .u8 101, .int .u8 110, .int .u8 103, .int .u8 115] 5 (4, 5))) := cv_mark w2 _ 4 4
  have HRW := Lib.hid (raw_any w1.heap.size w1.heap.size [] [101, 110, 103, 115] _ 4 4 _ (hp2.keep hal) (sees_mark w2 5 (4, 5) [.int .u8 101, .int .u8 110, .int .u8 103, .int .u8 115] 4 rfl) rfl (by simp))
  have hb2 := hb2.trans (hal.mono hb2.size)
  have HB2 := Lib.hid hb2; clear hp2 hb2 HN hal
  go_wp2_with fail
  refine HRW.out.mono ?_
  rintro e w3 ⟨rfl, hp3, hb3⟩
  have hb13 := HB2.out.trans hb3
  rw [List.nil_append] at hp3
  have c3 : w3.cell? ⟨w.heap.size, 0, none⟩ = some (.int .i64 g) := (HR.out.below hb13 hsz1).cell 0
  have HU := Lib.hid (u64_any w1.heap.size w1.heap.size _ g w3 hp3 (by omega) (by simp))
  have HB13 := Lib.hid hb13; clear hp3 hb3 hb13 HRW HB2
  go_wp2_with fail
  refine HU.out.mono ?_
  rintro e w4 ⟨rfl, hp4, hb4⟩
  have hb14 := HB13.out.trans hb4
  have c4 : w4.cell? ⟨w.heap.size, 1, none⟩ = some (.int .i64 b) := (HR.out.below hb14 hsz1).cell 1
  have HU2 := Lib.hid (u64_any w1.heap.size w1.heap.size _ b w4 hp4 (by omega) (by simp [length_be]))
  have HB14 := Lib.hid hb14; clear hp4 hb4 hb14 HU HB13 c3
  go_wp2_with fail
  refine HU2.out.mono ?_
  rintro e w5 ⟨rfl, hp5, hb5⟩
  have hb15 := HB14.out.trans hb5
  have c50 : w5.cell? ⟨w.heap.size, 2, none⟩ = some (.int .i64 n) := (HR.out.below hb15 hsz1).cell 2
  have c51 : w5.cell? ⟨w.heap.size, 3, none⟩ = some (.int .i64 m) := (HR.out.below hb15 hsz1).cell 3
  have c52 : w5.cell? ⟨w.heap.size, 4, none⟩ = some (.int .i64 z) := (HR.out.below hb15 hsz1).cell 4
  have HP5 := Lib.hid hp5
  have HB15 := Lib.hid hb15; clear hp5 hb5 hb15 HU2 HB14 c4
  go_wp2_with fail
  have hal5 : Below w5.heap.size w5 (w5.alloc (.cells #[.int .i64 n, .int .i64 m, .int .i64 z] 3)) := (Below.refl _ _).alloc (Nat.le_refl _) _
  have hpA := HP5.out.keep hal5
  have hap := HP5.out.apart_new (.cells #[.int .i64 n, .int .i64 m, .int .i64 z] 3)
  have hBA : Blk (w5.alloc (.cells #[.int .i64 n, .int .i64 m, .int .i64 z] 3)) w5.heap.size 3 #[.int .i64 n, .int .i64 m, .int .i64 z] := Blk.new _ _ _
  have hb5A := HB15.out.alloc HB15.out.size (.cells #[.int .i64 n, .int .i64 m, .int .i64 z] 3)
  obtain ⟨lb, hlb⟩ : ∃ l, l = [101, 110, 103, 115] ++ be g 8 ++ be b 8 := ⟨_, rfl⟩
  obtain ⟨ns, hns⟩ : ∃ l : List Nat, l = [n, m, z] := ⟨_, rfl⟩
  have hlbl : lb.length = 20 := by rw [hlb]; simp [length_be]
  rw [← hlb] at hpA
  have HS5 := Lib.hid (show 0 ≤ w5.heap.size ∧ ns.length = 3 ∧ (∀ y ∈ ns, y ≤ 512) ∧ lb ++ ns.flatMap (fun y => be y 4) = L0 from
    ⟨Nat.zero_le _, by rw [hns]; rfl, by rw [hns]; simp; omega, by rw [HH0.out, hlb, hns]; simp [List.append_assoc]⟩)
  have hcel : (#[.int .i64 n, .int .i64 m, .int .i64 z] : Array Value) = (ns.map fun y : Nat => Value.int .i64 y).toArray := by rw [hns]; simp
  obtain ⟨g3, hg3⟩ : ∃ x, x = w5.heap.size := ⟨_, rfl⟩
  rw [← hg3] at hap hBA ⊢
  rw [hcel] at hBA hpA hap hb5A ⊢
  obtain ⟨wA, hwA⟩ : ∃ x, x = w5.alloc (.cells (ns.map fun y : Nat => Value.int .i64 y).toArray 3) := ⟨_, rfl⟩
  rw [← hwA] at hap hBA hpA hb5A ⊢
  have HPA := Lib.hid hpA; have HAP := Lib.hid hap; have HBA := Lib.hid hBA; have HB5A := Lib.hid hb5A
  clear hpA hap hBA hb5A hal5 HP5 HB15 c50 c51 c52 hns hcel hlb hg3 hwA HH0
  go_loopw [36] (fun i wr => ∃ j : Nat, j ≤ 3 ∧ i = .int .i64 j ∧ Pen wr w1.heap.size w1.heap.size (lb ++ (ns.take j).flatMap fun y => be y 4) ∧ Apart wr w1.heap.size g3 ∧ Blk wr g3 3 (ns.map fun y : Nat => Value.int .i64 y).toArray ∧ Below w1.heap.size w1 wr) (fun i _ => 3 - (intOf i).toNat)
  case atStart => exact ⟨0, by omega, rfl, by simpa using HPA.out, HAP.out, HBA.out, HB5A.out⟩
  case round =>
    obtain ⟨j, hj, rfl, hp, hap, hbl, hbr⟩ := hrel
    by_cases hlt : j < 3
    · have hlti : (j : Int) < 3 := by omega
      have hjl : j < ns.length := by rw [HS5.out.2.1]; exact hlt
      obtain ⟨y, hy⟩ : ∃ y, ns[j]? = some y := ⟨_, List.getElem?_eq_getElem hjl⟩
      have hy5 : y ≤ 512 := HS5.out.2.2.1 y (List.mem_of_getElem? hy)
      have hc : wr.cell? ⟨g3, j, none⟩ = some (.int .i64 y) := by rw [hbl.cell, List.getElem?_toArray, List.getElem?_map, hy]; rfl
      have hlen : (lb ++ (ns.take j).flatMap fun y => be y 4).length ≤ 1000000 := by
        rw [List.length_append, length_flatMap_const _ 4 (fun x => length_be x 4), List.length_take]; omega
      have HU := Lib.hid (u32_anyS w1.heap.size w1.heap.size _ y wr hp (by omega) hlen)
      have ht : (ns.take (j + 1)).flatMap (fun y => be y 4) = (ns.take j).flatMap (fun y => be y 4) ++ be y 4 := by
        rw [List.take_add_one, hy, List.flatMap_append]; simp
      rw [List.append_assoc, ← ht] at HU
      have HAR := Lib.hid hap; have HBL := Lib.hid hbl; have HBR := Lib.hid hbr
      clear hp hap hbl hbr hy ht hlen
      go_wp2_with fail
      refine HU.out.mono ?_
      rintro e w' ⟨rfl, k1, k2, k3⟩
      have k4 := k3.2 g3 HBL.out.lt HAR.out
      have K := Lib.hid (And.intro k1 (And.intro k4.2 (And.intro (HBL.out.keep k4.1) (HBR.out.trans k2))))
      clear k1 k2 k3 k4 HU HAR HBL HBR
      go_wp2_with fail
      go_roundw
      case rel => exact ⟨j + 1, by omega, by go_num, K.out.1, K.out.2.1, K.out.2.2.1, K.out.2.2.2⟩
      case measure => simp [intOf]; omega
    · obtain rfl : j = 3 := by omega
      rw [List.take_of_length_le (by rw [HS5.out.2.1]; exact Nat.le_refl _), HS5.out.2.2.2] at hp
      have hBy := bytes_any w1.heap.size w1.heap.size L0 wr hp (by rw [HL.out]; omega) (by rw [HL.out]; omega)
      rw [HL.out] at hBy
      have HBY := Lib.hid hBy; have HBR := Lib.hid hbr; clear hp hap hbl hbr hBy
      have hmk := make_bytes 128 (by omega)
      obtain ⟨Z, hZ⟩ : ∃ z : Array Value, z = (u8s (List.replicate 128 0)).toArray := ⟨_, rfl⟩
      rw [← hZ] at hmk
      replace hmk : ∀ W : World, (Instr.makeSlice 25 (.int .i64 128) (.int .i64 128)).run Try.prog W = .ok (.slice (some ⟨W.heap.size, 0, none⟩) 128 128) (W.alloc (.cells Z 5)) := hmk
      have HZ := Lib.hid hZ; clear hZ
      have hZs : Z.size = 128 := by rw [HZ.out]; simp
      go_wp2_with fail
      refine HBY.out.mono ?_
      rintro e w7 ⟨v7, rfl, hown7, hb7⟩
      obtain ⟨A7, c7, rfl⟩ := own_shape hown7
      have hb17 := HBR.out.trans (hb7.mono HBR.out.size)
      have hal7 : Below w7.heap.size w7 (w7.alloc (.cells Z 5)) := (Below.refl _ _).alloc (Nat.le_refl _) _
      have HW := Lib.hid (cwith_any L0 A7 32 c7 (w7.alloc (.cells Z 5)) (Sees.of_own (own_below hown7 hal7)) HL.out (by omega))
      have HB17 := Lib.hid hb17; clear hown7 hb7 hb17 HBY HBR hal7
      go_wp2_with (simp only [hmk])
      refine HW.out.mono ?_
      rintro e w8 ⟨v8, rfl, hown8, hb8⟩
      obtain ⟨A8, c8, rfl⟩ := own_shape hown8
      have hBZ : Blk w8 w7.heap.size 5 Z := (Blk.new w7 5 Z).below hb8 (by simp)
      have hS8 := Sees.of_own hown8
      have hsz : (Try.prog.info? 5).map (·.size) = some 1 := by kernel_rfl
      have hw7 : (w7.alloc (.cells Z 5)).heap.size = w7.heap.size + 1 := by simp
      have hb8' : Below w1.heap.size w1 w8 := (HB17.out.alloc HB17.out.size _).trans (hb8.mono (by have := HB17.out.size; omega))
      have hws := HB17.out.size
      have HBZ := Lib.hid hBZ; have HS8 := Lib.hid hS8; have HB8 := Lib.hid (HB1.out.trans (hb8'.mono (by omega)))
      clear hBZ hS8 hb8' hb8 hown8 HW HB17 hmk
      go_wp2_with (with_reducible refine wpList_cpy rfl (.tmp 50) (.tmp 52) 25 25 rfl 5 Try.underlying25 hsz w7.heap.size 0 128 128 A8 36 c8 rfl rfl Z 5 HBZ.out (u8s (crcw L0)) HS8.out (by rw [hZs]; omega) (u8s_one _) ?_; intro w9 hB9 hF9; have HB9 := Lib.hid hB9; have HF9 := Lib.hid hF9; clear hB9 hF9)
      go_ret2
      have hcw : (crcw L0).length = 36 := by rw [crcw, List.length_append, length_be, HL.out]
      have e : splice Z.toList 0 ((u8s (crcw L0)).take 128) = u8s P0 := by
        rw [List.take_of_length_le (by rw [length_u8s, hcw]; omega), HZ.out, splice, length_u8s, hcw, List.take_zero, List.nil_append, HH.out, u8s_append]
        congr 1
      have HB9' := HB9.out
      rw [e] at HB9'
      have hlh : (u8s P0).length = 128 := by rw [HH.out, length_u8s, List.length_append, hcw]; rfl
      refine ⟨_, rfl, own_mk (by omega) HB9' (Nat.le_refl _) (by unfold maxLen; omega) (by rw [List.size_toArray, hlh]) (by rw [List.toList_toArray, Nat.mul_one]; exact List.take_of_length_le (by rw [hlh]; exact Nat.le_refl _)), HB8.out.trans (HF9.out.below HB8.out.size (fun j hj => by omega))⟩
end Go.Proofs.Ytdkfijkggccafaa
