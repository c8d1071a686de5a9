/-
  A term's name, by the code.
  A function of the library at this program: what the library's own contract asks, laid by its own tool in plain words.
  Names in octets: plain; the mark is looked for.
-/
import Derived.Test.YtkgaeoeibjoljaaGreatDoorGB
import Derived.Shelf.Bytes.SlIndexWhole
import Derived.Test.YtkgaeoeibjoljaaGreatDoorProg
import Derived.Test.YtkgaeoeibjoljaaGreatDoorGC
namespace Go.Proofs.YtkgaeoeibjoljaaGreatDoor
section
set_option maxRecDepth 4000
open Go.RowKit
def mk24 : List UInt8 := [97, 45, 116, 101, 114, 109, 45, 111, 102, 45, 116, 104, 101, 45, 101, 110, 103, 114, 111, 115, 115, 101, 114, 58]
theorem mk24_length : mk24.length = 24 := rfl
def nm (n : Nat) : List UInt8 := mk24 ++ be n 8
theorem nm_length (n : Nat) : (nm n).length = 32 := by rw [nm, List.length_append, length_be, mk24_length]
theorem name_any (n : Nat) (w : World) (hn : n <= 9223372036854775807) :
  Calls Tryz.prog 7 #[.int .i64 n] w fun e w' => (∃ v, e = .returned v /\ w'.ownsRow w.heap.size 5 1 v 32 (u8s (nm n))) /\ Below w.heap.size w w' := by
 have hn0 : ¬ (n : Int) < 0 := by omega
 have hb0 : IntKind.u64.wrap (n : Int) = (n : Int) := by rw [IntKind.wrap_u64]; omega
 have HN := Lh new_any
 have HL := Lh (nm_length n)
 have HM := Lh mk24_length
 have HNM := Lh (show nm n = mk24 ++ be n 8 from rfl)
 obtain ⟨MK, hMK⟩ : ∃ M, M = mk24 := ⟨_, rfl⟩
 have HC := Lh (show u8s MK = [.int .u8 97, .int .u8 45, .int .u8 116, .int .u8 101, .int .u8 114, .int .u8 109, .int .u8 45, .int .u8 111, .int .u8 102, .int .u8 45, .int .u8 116, .int .u8 104, .int .u8 101, .int .u8 45, .int .u8 101, .int .u8 110, .int .u8 103, .int .u8 114, .int .u8 111, .int .u8 115, .int .u8 115, .int .u8 101, .int .u8 114, .int .u8 58] by rw [hMK]; rfl)
 rw [<- hMK] at HM HNM
 generalize nm n = NM at *
 clear hMK
 go_enter Tryz.func7, Tryz.ntmps7
 go_wp2_with fail
 refine (HN.out _).mono ?_
 rintro e w2 ⟨rfl, hp2, hb2⟩
 have hal : Below w2.heap.size w2 (w2.alloc (.cells #[.int .u8 97, .int .u8 45, .int .u8 116, .int .u8 101, .int .u8 114, .int .u8 109, .int .u8 45, .int .u8 111, .int .u8 102, .int .u8 45, .int .u8 116, .int .u8 104, .int .u8 101, .int .u8 45, .int .u8 101, .int .u8 110, .int .u8 103, .int .u8 114, .int .u8 111, .int .u8 115, .int .u8 115, .int .u8 101, .int .u8 114, .int .u8 58] 5 (24, 25))) := (Below.refl _ _).alloc (Nat.le_refl _) _
 have hcv : (convert 22 22 (.slice (some ⟨w2.heap.size, 0, none⟩) 24 24)).run Tryz.prog (w2.alloc (.cells #[.int .u8 97, .int .u8 45, .int .u8 116, .int .u8 101, .int .u8 114, .int .u8 109, .int .u8 45, .int .u8 111, .int .u8 102, .int .u8 45, .int .u8 116, .int .u8 104, .int .u8 101, .int .u8 45, .int .u8 101, .int .u8 110, .int .u8 103, .int .u8 114, .int .u8 111, .int .u8 115, .int .u8 115, .int .u8 101, .int .u8 114, .int .u8 58] 5)) = .ok (.slice (some ⟨w2.heap.size, 0, none⟩) 24 24) (w2.alloc (.cells #[.int .u8 97, .int .u8 45, .int .u8 116, .int .u8 101, .int .u8 114, .int .u8 109, .int .u8 45, .int .u8 111, .int .u8 102, .int .u8 45, .int .u8 116, .int .u8 104, .int .u8 101, .int .u8 45, .int .u8 101, .int .u8 110, .int .u8 103, .int .u8 114, .int .u8 111, .int .u8 115, .int .u8 115, .int .u8 101, .int .u8 114, .int .u8 58] 5 (24, 25))) := cv_mark w2 _ 24 24
 have hsm : Sees (w2.alloc (.cells #[.int .u8 97, .int .u8 45, .int .u8 116, .int .u8 101, .int .u8 114, .int .u8 109, .int .u8 45, .int .u8 111, .int .u8 102, .int .u8 45, .int .u8 116, .int .u8 104, .int .u8 101, .int .u8 45, .int .u8 101, .int .u8 110, .int .u8 103, .int .u8 114, .int .u8 111, .int .u8 115, .int .u8 115, .int .u8 101, .int .u8 114, .int .u8 58] 5 (24, 25))) 1 (some ⟨w2.heap.size, 0, none⟩) 24 (u8s MK) := by
  rw [HC.out]
  exact sees_mark w2 5 (24, 25) [.int .u8 97, .int .u8 45, .int .u8 116, .int .u8 101, .int .u8 114, .int .u8 109, .int .u8 45, .int .u8 111, .int .u8 102, .int .u8 45, .int .u8 116, .int .u8 104, .int .u8 101, .int .u8 45, .int .u8 101, .int .u8 110, .int .u8 103, .int .u8 114, .int .u8 111, .int .u8 115, .int .u8 115, .int .u8 101, .int .u8 114, .int .u8 58] 24 rfl
 have HRW := Lh (raw_any w.heap.size w.heap.size [] MK _ 24 24 _ (hp2.keep hal) hsm HM.out (by simp))
 have hb2 := hb2.trans (hal.mono hb2.size)
 have HB2 := Lh hb2; clear hp2 hb2 HN hal hsm
 go_wp2_with fail
 refine HRW.out.mono ?_
 rintro e w3 ⟨rfl, hp3, hb3⟩
 have hb13 := HB2.out.trans hb3
 rw [List.nil_append] at hp3
 have HU := Lh (u64_any w.heap.size w.heap.size _ n w3 hp3 (by omega) (by rw [HM.out]; omega))
 have HB13 := Lh hb13; clear hp3 hb3 hb13 HRW HB2
 go_wp2_with fail
 refine HU.out.mono ?_
 rintro e w4 ⟨rfl, hp4, hb4⟩
 have hb14 := HB13.out.trans hb4
 rw [<- HNM.out] at hp4
 have hBy := bytes_any w.heap.size w.heap.size NM w4 hp4 (by rw [HL.out]; omega) (by rw [HL.out]; omega)
 rw [HL.out] at hBy
 have HBY := Lh hBy
 have HB14 := Lh hb14; clear hp4 hb4 hb14 HU HB13 hBy
 go_wp2_with fail
 refine HBY.out.mono ?_
 rintro e w5 ⟨v, rfl, hown, hb5⟩
 have HE := Lh (Ai hown (HB14.out.trans (hb5.mono HB14.out.size)))
 clear hown hb5 HBY
 go_wp2_with fail
 go_ret
 exact ⟨⟨v, rfl, own_base HE.out.1 HB14.out.size⟩, HE.out.2⟩
end
section
open Go.Shelf
def idxRen : Go.Shelf.Ren := ⟨fun | 185 => 39 | 187 => 68 | 115 => 69 | 253 => 70 | 224 => 71 | 254 => 72 | 255 => 107 | 291 => 108 | n => n, fun | 37 => 22 | 3 => 3 | 4 => 4 | 0 => 0 | 5 => 5 | 46 => 127 | 9 => 9 | 146 => 181 | 51 => 180 | n => n, fun | 1 => 0 | n => n⟩
theorem idxLays : Lays.n185 Tryz.prog idxRen := {
 mixed := by kernel_rfl
 f115 := Tryz.func69.trans (congrArg some (by kernel_rfl))
 f185 := Tryz.func39.trans (congrArg some (by kernel_rfl))
 f187 := Tryz.func68.trans (congrArg some (by kernel_rfl))
 f224 := Tryz.func71.trans (congrArg some (by kernel_rfl))
 f253 := Tryz.func70.trans (congrArg some (by kernel_rfl))
 f254 := Tryz.func72.trans (congrArg some (by kernel_rfl))
 f255 := Tryz.func107.trans (congrArg some (by kernel_rfl))
 f291 := Tryz.func108.trans (congrArg some (by kernel_rfl))
 t0 := Tryz.underlying0
 a0 := Tryz.isAgg0
 z0 := Tryz.sizeOf0
 v0 := Tryz.zeroValue0
 t3 := Tryz.underlying3
 a3 := Tryz.isAgg3
 z3 := Tryz.sizeOf3
 v3 := Tryz.zeroValue3
 t4 := Tryz.underlying4
 a4 := Tryz.isAgg4
 z4 := Tryz.sizeOf4
 v4 := Tryz.zeroValue4
 t5 := Tryz.underlying5
 a5 := Tryz.isAgg5
 z5 := Tryz.sizeOf5
 v5 := Tryz.zeroValue5
 t9 := Tryz.underlying9
 a9 := Tryz.isAgg9
 z9 := Tryz.sizeOf9
 v9 := Tryz.zeroValue9
 t37 := Tryz.underlying22
 a37 := Tryz.isAgg22
 z37 := Tryz.sizeOf22
 v37 := Tryz.zeroValue22
 t46 := Tryz.underlying127
 a46 := Tryz.isAgg127
 z46 := Tryz.sizeOf127
 v46 := Tryz.zeroValue127
 t51 := Tryz.underlying180
 a51 := Tryz.isAgg180
 z51 := Tryz.sizeOf180
 v51 := Tryz.zeroValue180
 t146 := Tryz.underlying181
 a146 := Tryz.isAgg181
 z146 := Tryz.sizeOf181
 v146 := Tryz.zeroValue181
 g1 := by kernel_rfl }
end
section
set_option maxRecDepth 4000
open Go.RowKit
def mkAt (l : List UInt8) (i : Nat) : Prop := (l.drop i).take 24 = mk24
def at32 (l : List UInt8) (i n : Nat) : Prop := mkAt l i /\ i + 32 <= l.length /\ vl ((l.drop (i + 24)).take 8) = n
def NamesTo (l : List UInt8) (off : Nat) (x : Int) : Prop := ∃ n : Nat, x = n /\ n < 4096 /\ ∃ i, i < off /\ at32 l i n
def NamesOf (l : List UInt8) (x : Int) : Prop := ∃ n : Nat, x = n /\ n < 4096 /\ ∃ i, at32 l i n
theorem mkAt_room {l : List UInt8} {i : Nat} (h : mkAt l i) : i + 24 <= l.length := by
 have := congrArg List.length h
 rw [List.length_take, List.length_drop, mk24_length] at this
 omega
theorem mkAt_drop (l : List UInt8) (a i : Nat) : mkAt (l.drop a) i ↔ mkAt l (a + i) := by
 unfold mkAt
 rw [List.drop_drop]
theorem occ_mk (l : List UInt8) (i : Nat) : Lib.occAt l mk24 i = true ↔ mkAt l i := by
 unfold Lib.occAt mkAt
 rw [List.isPrefixOf_iff_prefix, List.prefix_iff_eq_take, mk24_length]
 exact ⟨fun h => h.symm, fun h => h.symm⟩
theorem index_mk (l : List UInt8) : (Lib.index l mk24 = -1 /\ ∀ j, ¬ mkAt l j) \/ ∃ i : Nat, Lib.index l mk24 = i /\ mkAt l i /\ ∀ j, j < i -> ¬ mkAt l j := by
 rcases Lib.index_spec l mk24 with ⟨h1, h2⟩ | ⟨i, h1, _, h3, h4⟩
 ·refine .inl ⟨h1, fun j hj => ?_⟩
  have := h2 j (by have := mkAt_room hj; omega)
  rw [(occ_mk l j).2 hj] at this
  cases this
 ·refine .inr ⟨i, h1, (occ_mk l i).1 h3, fun j hj hm => ?_⟩
  have := h4 j hj
  rw [(occ_mk l j).2 hm] at this
  cases this
theorem names_none {l : List UInt8} {off : Nat} (h : ∀ j, off <= j -> ¬ mkAt l j) (x : Int) : NamesTo l off x ↔ NamesOf l x := by
 constructor
 ·rintro ⟨n, h1, h2, i, h3, h4⟩
  exact ⟨n, h1, h2, i, h4⟩
 ·rintro ⟨n, h1, h2, i, h4⟩
  refine ⟨n, h1, h2, i, ?_, h4⟩
  by_cases h3 : i < off
  ·exact h3
  ·exact absurd h4.1 (h i (by omega))
theorem names_step {l : List UInt8} {off p : Nat} (hp : off <= p) (hno : ∀ j, off <= j -> j < p -> ¬ mkAt l j) (hm : mkAt l p) (x : Int) :
  NamesTo l (p + 1) x ↔ NamesTo l off x \/ (p + 32 <= l.length /\ vl ((l.drop (p + 24)).take 8) < 4096 /\ x = (vl ((l.drop (p + 24)).take 8) : Nat)) := by
 constructor
 ·rintro ⟨n, h1, h2, i, h3, h4⟩
  by_cases hi : i < off
  ·exact .inl ⟨n, h1, h2, i, hi, h4⟩
  ·by_cases hip : i = p
   ·subst hip
    exact .inr ⟨h4.2.1, by rw [h4.2.2]; exact h2, by rw [h4.2.2]; exact h1⟩
   ·exact absurd h4.1 (hno i (by omega) (by omega))
 ·rintro (⟨n, h1, h2, i, h3, h4⟩ | ⟨h1, h2, h3⟩)
  ·exact ⟨n, h1, h2, i, by omega, h4⟩
  ·exact ⟨_, h3, h2, p, by omega, hm, h1, rfl⟩
def numsZ (l : List UInt8) : List Int := l.map fun x => (x.toNat : Int)
theorem numsZ_length (l : List UInt8) : (numsZ l).length = l.length := List.length_map _
theorem bytesOf_numsZ : ∀ l : List UInt8, Lib.bytesOf (numsZ l) = l
 | [] => rfl
 | x :: l => by
  have e : UInt8.ofNat ((x.toNat : Int).toNat) = x := by simp
  show UInt8.ofNat ((x.toNat : Int).toNat) :: Lib.bytesOf (numsZ l) = x :: l
  rw [e, bytesOf_numsZ l]
theorem bindex_any (l : List UInt8) (A : Option Addr) (a2 : Addr) (n c c2 : Nat) (w : World) (h1 : Sees w 1 A n (u8s l)) (hl : l.length = n) (hc : n <= c) (hn : n <= 100000000) (hA : A = none -> c = 0) (h2 : Sees w 1 (some a2) 24 (u8s mk24)) (hm : ∃ m, w.cell? ⟨0, 0, none⟩ = some (.int .i64 m)) :
  Calls Tryz.prog 39 #[.slice A n c, .slice (some a2) 24 c2] w fun e w' => e = .returned (.int .i64 (Lib.index l mk24)) /\ ∃ q, w' = w.drewN q := by
 have hadd : ∀ (g o i : Nat), (⟨g, o, none⟩ : Addr).add i = ⟨g, o + i, none⟩ := fun g o i => by unfold Addr.add; split <;> simp_all
 have hcell : ∀ (m : List UInt8) (k : Nat) (a : Addr), Sees w 1 (some a) k (u8s m) -> m.length = k -> ∀ i, i < k -> w.cell? (a.add i) = some (.int .u8 ((numsZ m).getD i 0)) := by
  intro m k a hS hk i hi
  obtain ⟨g, o, e, hcc⟩ := hS.2 (by omega)
  injection e with e
  subst e
  rw [hadd]
  refine hcc i _ ?_
  unfold u8s numsZ
  rw [List.getElem?_map, List.getD_eq_getElem?_getD, List.getElem?_map, List.getElem?_eq_getElem (by omega)]
  rfl
 have hr : ∀ (m : List UInt8), ∀ x ∈ numsZ m, 0 <= x /\ x < 256 := by
  intro m x hx
  obtain ⟨b, _, rfl⟩ := List.mem_map.1 hx
  have := UInt8.toNat_lt b
  omega
 obtain ⟨mm, hmm⟩ := hm
 cases A with
 | some a1 =>
  have := Any.bytes_Index_at idxLays a1 a2 n c 24 c2 (numsZ l) (numsZ mk24) mm w (by rw [numsZ_length, hl]) (by rw [numsZ_length, mk24_length]) (hr l) (hr mk24) (hcell l n a1 h1 hl) (hcell mk24 24 a2 h2 mk24_length) hc (by omega) (by omega) hmm
  rw [bytesOf_numsZ, bytesOf_numsZ] at this
  exact this
 | none =>
  obtain rfl := hA rfl
  have hn0 : n = 0 := by omega
  subst hn0
  obtain rfl : l = [] := List.length_eq_zero_iff.1 hl
  have := Any.bytes_Index_nil idxLays (some a2) 24 c2 w (by omega) (by omega)
  refine Calls.mono this ?_
  rintro e w' ⟨rfl, rfl⟩
  exact ⟨rfl, 0, rfl⟩
theorem eerr_any (base p err : Nat) (l : List UInt8) (w : World) (hE : Eye w base p l err) :
  Calls Tryz.prog 43 #[.pointer (some ⟨p, 0, none⟩)] w fun e w' => e = .returned (.int .i64 err) /\ w = w' := by
 obtain ⟨_, A, c, hb, -⟩ := hE
 have c1 : w.cell? ⟨p, 1, none⟩ = some (.int .i64 err) := hb.cell 1
 clear hb
 go_enter Tryz.func43, Tryz.ntmps43
 go_wp2_with fail
 go_ret
 exact ⟨rfl, rfl⟩
end
end Go.Proofs.YtkgaeoeibjoljaaGreatDoor
