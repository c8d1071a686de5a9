/-
  A pen that went bad; the chain behind a text.
  A segment's head, foot and frame, written by the code.
  bytes.HasPrefix, bytes.Clone.
  What a segment's octets tell, as a plain function of any octets; and that texts laid one behind the other are told. No program in sight.
  A log as plain data: its region's octets, its texts; what is laid, and that it is told again. No program in sight.
-/
import Derived.Test.YtkgaeoeibjoljaaGreatDoorGB
import Derived.Test.YtkgaeoeibjoljaaGreatDoorGJ
import Derived.Test.YtkgaeoeibjoljaaGreatDoorGC
namespace Go.Proofs.YtkgaeoeibjoljaaGreatDoor
section
set_option maxRecDepth 4000
open Go.RowKit
structure Tab (w : World) : Prop where
 k : Kt w
 h : Ht w
 lt : 3 < w.heap.size
theorem Tab.hlt {w : World} (h : Tab w) : 2 < w.heap.size := by
 obtain ⟨t, fr, e⟩ := h.h
 exact (Array.getElem?_eq_some_iff.1 e).1
theorem Tab.below {w w' : World} (h : Tab w) (hb : Below w.heap.size w w') : Tab w' := by
 refine ⟨h.k.below hb h.lt, ?_, Nat.lt_of_lt_of_le h.lt hb.size⟩
 obtain ⟨t, fr, e⟩ := h.h
 exact ⟨t, fr, (hb.block _ (Array.getElem?_eq_some_iff.1 e).1).trans e⟩
theorem chain_any (l m : List UInt8) (A B : Option Addr) (n c n' c' : Nat) (w : World) (hA : Sees w 1 A n (u8s l)) (hB : Sees w 1 B n' (u8s m)) (hl : l.length = n) (hm : m.length = n') (hn : n + n' <= 1000000) (hT : Tab w) :
  Calls Tryz.prog 137 #[.slice A n c, .slice B n' c'] w fun e w' => ∃ v, e = .returned v /\ w'.ownsRow w.heap.size 5 1 v 32 (u8s (sha (l ++ m))) /\ Below w.heap.size w w' := by
 have hal : Below w.heap.size w (w.alloc (.cells #[.slice A n c, .slice B n' c'] 22)) := (Below.refl _ _).alloc (Nat.le_refl _) _
 have hT2 := hT.below hal
 have hS := sum_any [⟨A, n, c, l⟩, ⟨B, n', c', m⟩] w.heap.size 0 2 2 (w.alloc (.cells #[.slice A n c, .slice B n' c'] 22)) rfl
  (fun j p hj => by rw [Nat.zero_add, (Blk.new w 22 #[.slice A n c, .slice B n' c']).cell]; match j, hj with | 0, hj => (simp at hj; subst hj; rfl) | 1, hj => (simp at hj; subst hj; rfl) | j + 2, hj => (simp at hj))
  (fun p hp => by simp only [List.mem_cons, List.not_mem_nil, or_false] at hp; rcases hp with rfl | rfl; exact ⟨hA.below hal, hl⟩; exact ⟨hB.below hal, hm⟩)
  (by simp [cat]; omega) (by omega) hT2.k hT2.h hT2.lt (by simp)
 have hc : cat [⟨A, n, c, l⟩, ⟨B, n', c', m⟩] = l ++ m := by simp [cat]
 rw [hc] at hS
 have HS := Lh hS; clear hS hA hB hT hT2 hc
 go_enter Tryz.func137, Tryz.ntmps137
 go_wp2_with fail
 refine HS.out.mono ?_
 rintro e w' ⟨v, rfl, h1, h2⟩
 go_wp2_with fail
 go_ret
 have h3 : w.heap.size <= (w.alloc (.cells #[.slice A n c, .slice B n' c'] 22)).heap.size := hal.size
 exact ⟨v, rfl, own_base h1 h3, hal.trans (h2.mono h3)⟩
end
section
set_option maxRecDepth 4000
open Go.RowKit
def frm (l t : List UInt8) : List UInt8 := crcw (be t.length 4 ++ t ++ sha (l ++ t))
def ft (n : Nat) (l : List UInt8) : List UInt8 := crcw (be 4294967295 4 ++ be n 8 ++ l)
def hd0 (k n : Nat) (l : List UInt8) : List UInt8 := crcw ([101, 110, 103, 114] ++ be k 4 ++ l ++ be n 8)
def hd (k n : Nat) (l : List UInt8) : List UInt8 := hd0 k n l ++ List.replicate 76 0
theorem sha_length (l : List UInt8) : (sha l).length = 32 := by
 unfold sha; rw [length_flatMap_const _ 4 (fun x => length_be x 4), (hsj_w8 _ _).1]
theorem crcw_length (l : List UInt8) : (crcw l).length = l.length + 4 := by rw [crcw, List.length_append, length_be]
theorem frame_ok (l t : List UInt8) (A B : Option Addr) (c m c' : Nat) (w : World) (hA : Sees w 1 A 32 (u8s l)) (hB : Sees w 1 B m (u8s t)) (hl : l.length = 32) (ht : t.length = m) (hm1 : 1 <= m) (hm : m <= 65535) (hT : Tab w) :
  Calls Tryz.prog 93 #[.slice A 32 c, .slice B m c'] w fun e w' => ∃ v v', e = .returned (.tuple #[v, v']) /\ w'.ownsRow w.heap.size 5 1 v (m + 40) (u8s (frm l t)) /\ w'.ownsRow w.heap.size 5 1 v' 32 (u8s (sha (l ++ t))) /\ Below w.heap.size w w' := by
 have HC := Lh (chain_any l t A B 32 c m c' w hA hB hl ht (by omega) hT)
 have HN := Lh new_any
 have HB := Lh hB; clear hA hB hT
 have h1 : (1 : Int) <= (m : Int) := by omega
 have h2 : (m : Int) <= 65535 := by omega
 have hsl := sha_length (l ++ t)
 obtain ⟨sx, hsx⟩ : ∃ x, x = sha (l ++ t) := ⟨_, rfl⟩
 have hfr : frm l t = crcw (be m 4 ++ t ++ sx) := by rw [frm, ht, hsx]
 rw [<- hsx] at HC hsl ⊢
 have HFR := Lh hfr; clear hfr hsx
 go_enter Tryz.func93, Tryz.ntmps93
 go_wp2_with fail
 refine HC.out.mono ?_
 rintro e w1 ⟨v, rfl, hown, hb1⟩
 obtain ⟨g1, c1, cu, rfl, hg1, hB1, -⟩ := own_open hown (by omega)
 have HOWN := Lh hown; have HB1 := Lh hb1; clear hown hb1 hB1 cu HC
 go_wp2_with fail
 refine (HN.out _).mono ?_
 rintro e w2 ⟨rfl, hp2, hb2⟩
 have HU := Lh (u32_any w1.heap.size w1.heap.size [] m w2 hp2 (by omega) (by simp))
 have HB2 := Lh hb2; clear hp2 hb2 HN
 go_wp2_with fail
 refine HU.out.mono ?_
 rintro e w3 ⟨rfl, hp3, hb3⟩
 have hb13 := HB2.out.trans hb3
 have hTq := HB.out.below (HB1.out.trans (hb13.mono HB1.out.size))
 rw [List.nil_append] at hp3
 have HR := Lh (raw_any w1.heap.size w1.heap.size _ t B m c' w3 hp3 hTq ht (by rw [length_be]; omega))
 have HB13 := Lh hb13; clear hp3 hb3 hTq hb13 HU HB2
 go_wp2_with fail
 refine HR.out.mono ?_
 rintro e w4 ⟨rfl, hp4, hb4⟩
 have hb14 := HB13.out.trans hb4
 have hSn := Sees.of_own (own_below HOWN.out hb14)
 have HR2 := Lh (raw_any w1.heap.size w1.heap.size _ sx _ 32 c1 w4 hp4 hSn hsl (by rw [List.length_append, length_be]; omega))
 have HB14 := Lh hb14; clear hp4 hb4 hb14 hSn HR HB13
 go_wp2_with fail
 refine HR2.out.mono ?_
 rintro e w5 ⟨rfl, hp5, hb5⟩
 have hb15 := HB14.out.trans hb5
 have hlen : (be m 4 ++ t ++ sx).length = m + 36 := by rw [List.length_append, List.length_append, length_be, hsl, ht]; omega
 have hBy := bytes_any w1.heap.size w1.heap.size _ w5 hp5 (by omega) (by omega)
 rw [hlen] at hBy
 have HBY := Lh hBy; have HB15 := Lh hb15; clear hp5 hb5 hb15 hBy HR2 HB14
 go_wp2_with fail
 refine HBY.out.mono ?_
 rintro e w6 ⟨v6, rfl, hown6, hb6⟩
 obtain ⟨A6, c6, rfl⟩ := own_shape hown6
 have hb16 := HB15.out.trans (hb6.mono HB15.out.size)
 have HW := Lh (cwith_any _ A6 (m + 36) c6 w6 (Sees.of_own hown6) hlen (by omega))
 have HB16 := Lh hb16; clear hown6 hb6 hb16 HBY HB15
 go_wp2_with fail
 refine HW.out.mono ?_
 rintro e w7 ⟨v7, rfl, hown7, hb7⟩
 have hb17 := HB16.out.trans (hb7.mono HB16.out.size)
 have hws := HB1.out.size
 have hown8 := own_below HOWN.out hb17
 rw [<- HFR.out] at hown7
 have HO7 := Lh hown7; have HO8 := Lh hown8; have HB17 := Lh hb17; clear hown7 hown8 hb7 HW
 go_wp2_with fail
 go_ret2
 exact ⟨v7, _, rfl, own_base HO7.out (by have := HB16.out.size; omega), HO8.out, HB1.out.trans (hb17.mono hws)⟩
theorem foot_ok (k : Nat) (l : List UInt8) (A : Option Addr) (c : Nat) (w : World) (hA : Sees w 1 A 32 (u8s l)) (hl : l.length = 32) (hk : k < 9223372036854775808) :
  Calls Tryz.prog 92 #[.int .i64 k, .slice A 32 c] w fun e w' => ∃ v, e = .returned v /\ w'.ownsRow w.heap.size 5 1 v 48 (u8s (ft k l)) /\ Below w.heap.size w w' := by
 have HN := Lh new_any
 have HA := Lh hA; clear hA
 have hk0 : (0 : Int) <= (k : Int) := by omega
 have hkw : IntKind.u64.wrap (k : Int) = (k : Int) := by rw [IntKind.wrap_u64]; omega
 go_enter Tryz.func92, Tryz.ntmps92
 go_wp2_with fail
 refine (HN.out _).mono ?_
 rintro e w2 ⟨rfl, hp2, hb2⟩
 have HU := Lh (u32_any w.heap.size w.heap.size [] 4294967295 w2 hp2 (by omega) (by simp))
 have HB2 := Lh hb2; clear hp2 hb2 HN
 go_wp2_with fail
 refine HU.out.mono ?_
 rintro e w3 ⟨rfl, hp3, hb3⟩
 have hb13 := HB2.out.trans hb3
 rw [List.nil_append] at hp3
 have HV := Lh (u64_any w.heap.size w.heap.size _ k w3 hp3 (by omega) (by rw [length_be]; omega))
 have HB13 := Lh hb13; clear hp3 hb3 hb13 HU HB2
 go_wp2_with fail
 refine HV.out.mono ?_
 rintro e w4 ⟨rfl, hp4, hb4⟩
 have hb14 := HB13.out.trans hb4
 have HR2 := Lh (raw_any w.heap.size w.heap.size _ l A 32 c w4 hp4 (HA.out.below hb14) hl (by rw [List.length_append, length_be, length_be]; omega))
 have HB14 := Lh hb14; clear hp4 hb4 hb14 HV HB13
 go_wp2_with fail
 refine HR2.out.mono ?_
 rintro e w5 ⟨rfl, hp5, hb5⟩
 have hb15 := HB14.out.trans hb5
 have hlen : (be 4294967295 4 ++ be k 8 ++ l).length = 44 := by rw [List.length_append, List.length_append, length_be, length_be, hl]
 have hBy := bytes_any w.heap.size w.heap.size _ w5 hp5 (by omega) (by omega)
 rw [hlen] at hBy
 have HBY := Lh hBy; have HB15 := Lh hb15; clear hp5 hb5 hb15 hBy HR2 HB14
 go_wp2_with fail
 refine HBY.out.mono ?_
 rintro e w6 ⟨v6, rfl, hown6, hb6⟩
 obtain ⟨A6, c6, rfl⟩ := own_shape hown6
 have hb16 := HB15.out.trans (hb6.mono HB15.out.size)
 have HW := Lh (cwith_any _ A6 44 c6 w6 (Sees.of_own hown6) hlen (by omega))
 have HB16 := Lh hb16; clear hown6 hb6 hb16 HBY HB15
 go_wp2_with fail
 refine HW.out.mono ?_
 rintro e w7 ⟨v7, rfl, hown7, hb7⟩
 have HO7 := Lh hown7; have HB7 := Lh hb7; clear hown7 hb7 HW
 go_wp2_with fail
 go_ret
 exact ⟨v7, rfl, own_base HO7.out HB16.out.size, HB16.out.trans (HB7.out.mono HB16.out.size)⟩
theorem head_ok (q k : Nat) (l : List UInt8) (A : Option Addr) (c : Nat) (w : World) (hA : Sees w 1 A 32 (u8s l)) (hl : l.length = 32) (hk : k < 9223372036854775808) (hq : q < 4294967296) :
  Calls Tryz.prog 134 #[.int .i64 q, .int .i64 k, .slice A 32 c] w fun e w' => ∃ v, e = .returned v /\ w'.ownsRow w.heap.size 5 1 v 128 (u8s (hd q k l)) /\ Below w.heap.size w w' := by
 have HN := Lh new_any
 have HA := Lh hA; clear hA
 have hk0 : (0 : Int) <= (k : Int) := by omega
 have hkw : IntKind.u64.wrap (k : Int) = (k : Int) := by rw [IntKind.wrap_u64]; omega
 go_enter Tryz.func134, Tryz.ntmps134
 go_wp2_with fail
 refine (HN.out _).mono ?_
 rintro e w2 ⟨rfl, hp2, hb2⟩
 have hal : Below w2.heap.size w2 (w2.alloc (.cells #[.int .u8 101, .int .u8 110, .int .u8 103, .int .u8 114] 5 (4, 5))) := (Below.refl _ _).alloc (Nat.le_refl _) _
 have hcv : (convert 22 22 (.slice (some ⟨w2.heap.size, 0, none⟩) 4 4)).run Tryz.prog (w2.alloc (.cells #[.int .u8 101, .int .u8 110, .int .u8 103, .int .u8 114] 5)) = .ok (.slice (some ⟨w2.heap.size, 0, none⟩) 4 4) (w2.alloc (.cells #[.int .u8 101, .int .u8 110, .int .u8 103, .int .u8 114] 5 (4, 5))) := cv_mark w2 _ 4 4
 have HR := Lh (raw_any w.heap.size w.heap.size [] [101, 110, 103, 114] _ 4 4 _ (hp2.keep hal) (sees_mark w2 5 (4, 5) [.int .u8 101, .int .u8 110, .int .u8 103, .int .u8 114] 4 rfl) rfl (by simp))
 have hb2 := hb2.trans (hal.mono hb2.size)
 have HB2 := Lh hb2; clear hp2 hb2 HN hal
 go_wp2_with fail
 refine HR.out.mono ?_
 rintro e w3 ⟨rfl, hp3, hb3⟩
 have hb13 := HB2.out.trans hb3
 rw [List.nil_append] at hp3
 have HU := Lh (u32_any w.heap.size w.heap.size _ q w3 hp3 (by omega) (by simp))
 have HB13 := Lh hb13; clear hp3 hb3 hb13 HR HB2
 go_wp2_with fail
 refine HU.out.mono ?_
 rintro e w4 ⟨rfl, hp4, hb4⟩
 have hb14 := HB13.out.trans hb4
 have HR2 := Lh (raw_any w.heap.size w.heap.size _ l A 32 c w4 hp4 (HA.out.below hb14) hl (by rw [List.length_append, length_be]; simp))
 have HB14 := Lh hb14; clear hp4 hb4 hb14 HU HB13
 go_wp2_with fail
 refine HR2.out.mono ?_
 rintro e w5 ⟨rfl, hp5, hb5⟩
 have hb15 := HB14.out.trans hb5
 have HV := Lh (u64_any w.heap.size w.heap.size _ k w5 hp5 (by omega) (by rw [List.length_append, List.length_append, length_be, hl]; simp))
 have HB15 := Lh hb15; clear hp5 hb5 hb15 HR2 HB14
 go_wp2_with fail
 refine HV.out.mono ?_
 rintro e w6 ⟨rfl, hp6, hb6⟩
 have hb16 := HB15.out.trans hb6
 have hlen : ([101, 110, 103, 114] ++ be q 4 ++ l ++ be k 8).length = 48 := by rw [List.length_append, List.length_append, List.length_append, length_be, length_be, hl]; rfl
 have hBy := bytes_any w.heap.size w.heap.size _ w6 hp6 (by omega) (by omega)
 rw [hlen] at hBy
 have HBY := Lh hBy; have HB16 := Lh hb16; clear hp6 hb6 hb16 hBy HV HB15
 have hmk := make_bytes 128 (by omega)
 obtain ⟨Z, hZ⟩ : ∃ z : Array Value, z = (u8s (List.replicate 128 0)).toArray := ⟨_, rfl⟩
 rw [<- hZ] at hmk
 replace hmk : ∀ W : World, (Instr.makeSlice 22 (.int .i64 128) (.int .i64 128)).run Tryz.prog W = .ok (.slice (some ⟨W.heap.size, 0, none⟩) 128 128) (W.alloc (.cells Z 5)) := hmk
 have HZ := Lh hZ; clear hZ
 have hZs : Z.size = 128 := by rw [HZ.out]; simp
 go_wp2_with fail
 refine HBY.out.mono ?_
 rintro e w7 ⟨v7, rfl, hown7, hb7⟩
 obtain ⟨A7, c7, rfl⟩ := own_shape hown7
 have hb17 := HB16.out.trans (hb7.mono HB16.out.size)
 have hal7 : Below w7.heap.size w7 (w7.alloc (.cells Z 5)) := (Below.refl _ _).alloc (Nat.le_refl _) _
 have HW := Lh (cwith_any _ A7 48 c7 (w7.alloc (.cells Z 5)) (Sees.of_own (own_below hown7 hal7)) hlen (by omega))
 have HB17 := Lh hb17; clear hown7 hb7 hb17 HBY HB16 hal7
 go_wp2_with (simp only [hmk])
 refine HW.out.mono ?_
 rintro e w8 ⟨v8, rfl, hown8, hb8⟩
 obtain ⟨A8, c8, rfl⟩ := own_shape hown8
 have hBZ : Blk w8 w7.heap.size 5 Z := (Blk.new w7 5 Z).below hb8 (by simp)
 have hS8 := Sees.of_own hown8
 have hsz : (Tryz.prog.info? 5).map (·.size) = some 1 := by kernel_rfl
 have hw7 : (w7.alloc (.cells Z 5)).heap.size = w7.heap.size + 1 := by simp
 have hb8' : Below w.heap.size w w8 := (HB17.out.alloc HB17.out.size _).trans (hb8.mono (by have := HB17.out.size; omega))
 have hws := HB17.out.size
 have HBZ := Lh hBZ; have HS8 := Lh hS8; have HB8 := Lh hb8'
 clear hBZ hS8 hb8' hb8 hown8 HW HB17 hmk
 go_wp2_with (with_reducible refine wpList_cpy rfl (.tmp 41) (.tmp 43) 22 22 rfl 5 Tryz.underlying22 hsz w7.heap.size 0 128 128 A8 52 c8 rfl rfl Z 5 HBZ.out (u8s (crcw ([101, 110, 103, 114] ++ be q 4 ++ l ++ be k 8))) HS8.out (by rw [hZs]; omega) (u8s_one _) ?_; intro w9 hB9 hF9; have HB9 := Lh hB9; have HF9 := Lh hF9; clear hB9 hF9)
 go_ret
 have hcw : (crcw ([101, 110, 103, 114] ++ be q 4 ++ l ++ be k 8)).length = 52 := by rw [crcw_length, hlen]
 have e : splice Z.toList 0 ((u8s (crcw ([101, 110, 103, 114] ++ be q 4 ++ l ++ be k 8))).take 128) = u8s (hd q k l) := by
  rw [List.take_of_length_le (by rw [length_u8s, hcw]; omega), HZ.out, splice, length_u8s, hcw, List.take_zero, List.nil_append, hd, u8s_append, hd0]
  congr 1
 have HB9' := HB9.out
 rw [e] at HB9'
 have hlh : (u8s (hd q k l)).length = 128 := by rw [length_u8s, hd, List.length_append, hd0, hcw]; rfl
 refine ⟨_, rfl, own_mk hws HB9' (Nat.le_refl _) (by unfold maxLen; omega) (by rw [List.size_toArray, hlh]) (by rw [List.toList_toArray, Nat.mul_one]; exact List.take_of_length_le (by rw [hlh]; exact Nat.le_refl _)), HB8.out.trans (HF9.out.below HB8.out.size (fun j hj => by omega))⟩
end
section
set_option maxRecDepth 4000
open Go.RowKit
def pref (l q : List UInt8) : Bool := decide (l.take q.length = q)
theorem prefix_any (l q : List UInt8) (ad : Addr) (B : Option Addr) (n c m c' : Nat) (w : World) (hA : Sees w 1 (some ad) n (u8s l)) (hB : Sees w 1 B m (u8s q)) (hl : l.length = n) (hq : q.length = m) (hnc : n <= c) :
  Calls Tryz.prog 169 #[.slice (some ad) n c, .slice B m c'] w fun e w' => e = .returned (.bool (pref l q)) /\ w = w' := by
 by_cases hmn : m <= n
 ·have hA2 : Sees w 1 (some ad) m (u8s (l.take m)) := by
   refine ⟨by simp [hl]; omega, fun hm => ?_⟩
   obtain ⟨g, off, e, hc⟩ := hA.2 (by omega)
   refine ⟨g, off, e, fun j u hu => hc j u ?_⟩
   rw [u8s_take, List.getElem?_take] at hu
   split at hu
   ·exact hu
   ·cases hu
  have HE := Lh (equal_any (l.take m) q (some ad) B m c m c' w hA2 hB)
  have hp : decide (l.take m = q) = pref l q := by rw [pref, hq]
  rw [hp] at HE
  have hi : (m : Int) <= (n : Int) := by omega
  have hi2 : (m : Int) <= (c : Int) := by omega
  have hi3 : m <= c := by omega
  clear hA hB hA2 hp hl hq
  go_enter Tryz.func169, Tryz.ntmps169
  go_wp2_with fail
  refine HE.out.mono ?_
  rintro e w' ⟨rfl, rfl⟩
  go_wp2_with fail
  go_ret
  exact ⟨rfl, rfl⟩
 ·have hi : ¬ ((m : Int) <= (n : Int)) := by omega
  have hp : pref l q = false := by
   rw [pref, decide_eq_false_iff_not]
   intro e
   have := congrArg List.length e
   rw [List.length_take, hl, hq] at this
   omega
  have HP := Lh hp; clear hp hA hB hl hq
  go_enter Tryz.func169, Tryz.ntmps169
  go_wp2_with fail
  go_ret
  exact ⟨ret_bool (by rw [HP.out]), rfl⟩
theorem bclone_any (ad : Addr) (n c : Nat) (xs : List Value) (w : World) (hr : Sees w 1 (some ad) n xs) (h1 : ∀ u ∈ xs, u.oneCell' = true) (hn : n <= 140737488355328) :
  Calls Tryz.prog 162 #[.slice (some ad) n c] w fun e w' => ∃ v, e = .returned v /\ w'.ownsRow w.heap.size 5 1 v n xs /\ Below w.heap.size w w' := by
 have q : ∀ (w : World) (a : Option Addr) (n c n' c' : Nat), (binOp .eql 22 (.slice a n c) (.slice none n' c')).run Tryz.prog w = .ok (.bool a.isNone) w := fun w a n c n' c' => Lib.run_eql_slice_nil w _ _ a n c n' c' Tryz.underlying22
 have hr1 : Sees (w.alloc (.cells #[] 5)) 1 (some ad) n xs := hr.below ((Below.refl _ _).alloc (Nat.le_refl _) _)
 go_enter Tryz.func162, Tryz.ntmps162
 go_wp2_with (at_builtin; refine wpList_app rfl (.tmp 5) (.tmp 6) _ rfl w.heap.size 5 _ 1 1 Tryz.underlying22 info_byte rfl (by decide) (.slice (some ⟨w.heap.size, 0, none⟩) 0 0) 0 [] rfl (World.ownsRow_made w #[] 0 (Nat.le_refl _) (Nat.zero_le _) rfl) _ n c xs rfl hr1 h1 (by unfold maxLen; omega) (by omega) (by simp) ?_; intro v' w1 hown hgrow hat hnil)
 go_ret
 refine ⟨v', rfl, by simpa using hown, ?_⟩
 exact ((Below.refl _ w).alloc (Nat.le_refl _) _).grown hgrow (by simp) (by intro k hk; simp [Value.ownBlock] at hk; omega)
end
section
set_option maxRecDepth 4000
open Go.RowKit
structure Pz where
 texts : List (List UInt8)
 chain : List UInt8
 sealed_ : Bool
 used : Nat
theorem crcw_len (l : List UInt8) : (crcw l).length = l.length + 4 := by rw [crcw, List.length_append, length_be]
theorem frm_length (l t : List UInt8) : (frm l t).length = t.length + 40 := by rw [frm, crcw_len, List.length_append, List.length_append, length_be, sha_length]; omega
theorem ft_length (n : Nat) (l : List UInt8) : (ft n l).length = l.length + 16 := by rw [ft, crcw_len, List.length_append, List.length_append, length_be, length_be]; omega
def pzN (rest : List UInt8) : Nat := eyeN rest 0 4
def pzT (rest : List UInt8) : List UInt8 := (rest.drop 4).take (pzN rest)
def pzBad (rest : List UInt8) : Prop := pzN rest < 1 \/ 65535 < pzN rest \/ rest.length < pzN rest + 40
instance (rest : List UInt8) : Decidable (pzBad rest) := by unfold pzBad; infer_instance
def pzNext (b : List UInt8) (k : Nat) (s : Pz) : Pz × Bool :=
 if pref (b.drop s.used) (ft (k + s.texts.length) s.chain) = true then (⟨s.texts, s.chain, true, s.used + 48⟩, false)
 else if pzBad (b.drop s.used) then (s, false)
 else if pref (b.drop s.used) (frm s.chain (pzT (b.drop s.used))) = true then (⟨s.texts ++ [pzT (b.drop s.used)], sha (s.chain ++ pzT (b.drop s.used)), s.sealed_, s.used + (pzN (b.drop s.used) + 40)⟩, true)
 else (s, false)
def pz (b : List UInt8) (k : Nat) : Nat -> Pz -> Pz
 | 0, s => s
 | f + 1, s => if (pzNext b k s).2 = true then pz b k f (pzNext b k s).1 else (pzNext b k s).1
def pz0 (l : List UInt8) : Pz := ⟨[], l, false, 128⟩
theorem pref_append (q r : List UInt8) : pref (q ++ r) q = true := by
 unfold pref
 exact decide_eq_true (by rw [List.take_left])
theorem pz_seal (b : List UInt8) (k f : Nat) (s : Pz) (h : pref (b.drop s.used) (ft (k + s.texts.length) s.chain) = true) : pz b k (f + 1) s = ⟨s.texts, s.chain, true, s.used + 48⟩ := by
 have hn : pzNext b k s = (⟨s.texts, s.chain, true, s.used + 48⟩, false) := by unfold pzNext; rw [if_pos h]
 rw [pz, hn]; rfl
theorem pz_stop (b : List UInt8) (k f : Nat) (s : Pz) (h1 : pref (b.drop s.used) (ft (k + s.texts.length) s.chain) = false) (h2 : pzBad (b.drop s.used)) : pz b k (f + 1) s = s := by
 have hn : pzNext b k s = (s, false) := by unfold pzNext; rw [if_neg (by rw [h1]; decide), if_pos h2]
 rw [pz, hn]; rfl
theorem pz_other (b : List UInt8) (k f : Nat) (s : Pz) (h1 : pref (b.drop s.used) (ft (k + s.texts.length) s.chain) = false) (h2 : ¬ pzBad (b.drop s.used)) (h3 : pref (b.drop s.used) (frm s.chain (pzT (b.drop s.used))) = false) : pz b k (f + 1) s = s := by
 have hn : pzNext b k s = (s, false) := by unfold pzNext; rw [if_neg (by rw [h1]; decide), if_neg h2, if_neg (by rw [h3]; decide)]
 rw [pz, hn]; rfl
theorem pz_on (b : List UInt8) (k f : Nat) (s : Pz) (h1 : pref (b.drop s.used) (ft (k + s.texts.length) s.chain) = false) (h2 : ¬ pzBad (b.drop s.used)) (h3 : pref (b.drop s.used) (frm s.chain (pzT (b.drop s.used))) = true) :
  pz b k (f + 1) s = pz b k f ⟨s.texts ++ [pzT (b.drop s.used)], sha (s.chain ++ pzT (b.drop s.used)), s.sealed_, s.used + (pzN (b.drop s.used) + 40)⟩ := by
 have hn : pzNext b k s = (⟨s.texts ++ [pzT (b.drop s.used)], sha (s.chain ++ pzT (b.drop s.used)), s.sealed_, s.used + (pzN (b.drop s.used) + 40)⟩, true) := by unfold pzNext; rw [if_neg (by rw [h1]; decide), if_neg h2, if_pos h3]
 rw [pz, hn]; rfl
/-! ### Texts laid one behind the other -/
def frs : List UInt8 -> List (List UInt8) -> List UInt8
 | _, [] => []
 | c, t :: ts => frm c t ++ frs (sha (c ++ t)) ts
def chn : List UInt8 -> List (List UInt8) -> List UInt8
 | c, [] => c
 | c, t :: ts => chn (sha (c ++ t)) ts
theorem frs_snoc (t : List UInt8) : ∀ (ts : List (List UInt8)) (c : List UInt8), frs c (ts ++ [t]) = frs c ts ++ frm (chn c ts) t
 | [], c => by simp [frs, chn]
 | u :: ts, c => by rw [List.cons_append, frs, frs_snoc t ts, frs, chn, List.append_assoc]
theorem chn_snoc (t : List UInt8) : ∀ (ts : List (List UInt8)) (c : List UInt8), chn c (ts ++ [t]) = sha (chn c ts ++ t)
 | [], c => rfl
 | u :: ts, c => by rw [List.cons_append, chn, chn_snoc t ts, chn]
theorem chn_length : ∀ (ts : List (List UInt8)) (c : List UInt8), c.length = 32 -> (chn c ts).length = 32
 | [], _, h => h
 | u :: ts, _, _ => chn_length ts _ (sha_length _)
theorem vl_be4 (n : Nat) (h : n < 4294967296) : vl (be n 4) = n := by
 have e : ∀ a b c d : UInt8, vl [a, b, c, d] = ((a.toNat * 256 + b.toNat) * 256 + c.toNat) * 256 + d.toNat := fun a b c d => by simp [vl]
 simp only [be, e, UInt8.toNat_ofNat']
 omega
theorem take_be4 (n : Nat) (r : List UInt8) : (be n 4 ++ r).take 4 = be n 4 := by
 have := List.take_left (l₁ := be n 4) (l₂ := r)
 rwa [length_be] at this
theorem drop_be4 (n : Nat) (r : List UInt8) : (be n 4 ++ r).drop 4 = r := by
 have := List.drop_left (l₁ := be n 4) (l₂ := r)
 rwa [length_be] at this
theorem ft_front (n : Nat) (l : List UInt8) : ∃ r, ft n l = be 4294967295 4 ++ r := ⟨be n 8 ++ l ++ be (crc (be 4294967295 4 ++ be n 8 ++ l)) 4, by rw [ft, crcw]; simp [List.append_assoc]⟩
theorem frm_front (c t : List UInt8) : ∃ r, frm c t = be t.length 4 ++ (t ++ r) := ⟨sha (c ++ t) ++ be (crc (be t.length 4 ++ t ++ sha (c ++ t))) 4, by rw [frm, crcw]; simp [List.append_assoc]⟩
theorem pref_ft_frm (c t r : List UInt8) (n : Nat) (l : List UInt8) (ht : t.length <= 65535) : pref (frm c t ++ r) (ft n l) = false := by
 obtain ⟨r1, h1⟩ := ft_front n l
 obtain ⟨r2, h2⟩ := frm_front c t
 unfold pref
 refine decide_eq_false fun e => ?_
 have e4 := congrArg (fun x => vl (x.take 4)) e
 simp only [List.take_take] at e4
 rw [h1, take_be4, h2, vl_be4 _ (by omega)] at e4
 have : min 4 (be 4294967295 4 ++ r1).length = 4 := by rw [List.length_append, length_be]; omega
 rw [this, List.append_assoc, take_be4, vl_be4 _ (by omega)] at e4
 omega
theorem pzN_frm (c t r : List UInt8) (h1 : 1 <= t.length) (ht : t.length <= 65535) : pzN (frm c t ++ r) = t.length /\ pzT (frm c t ++ r) = t /\ ¬ pzBad (frm c t ++ r) := by
 obtain ⟨r2, h2⟩ := frm_front c t
 have hl : 4 <= (frm c t ++ r).length := by rw [List.length_append, frm_length]; omega
 have hn : pzN (frm c t ++ r) = t.length := by
  unfold pzN eyeN
  rw [if_pos ⟨rfl, hl⟩, h2, List.append_assoc, take_be4, vl_be4 _ (by omega)]
 refine ⟨hn, ?_, ?_⟩
 ·unfold pzT
  rw [hn, h2, List.append_assoc, drop_be4, List.append_assoc, List.take_left]
 ·unfold pzBad
  rw [hn, List.length_append, frm_length]
  omega
theorem vl_zeros (z : Nat) : vl ((List.replicate z 0).take 4) = 0 := by
 rw [List.take_replicate]
 have : ∀ m : Nat, vl (List.replicate m 0) = 0 := by
  intro m
  induction m with
  | zero => rfl
  | succ m ih => rw [List.replicate_succ', vl_snoc, ih]; rfl
 exact this _
end
section
set_option maxRecDepth 4000
open Go.RowKit
def zr (n : Nat) : List UInt8 := List.replicate n 0
@[simp] theorem zr_length (n : Nat) : (zr n).length = n := List.length_replicate
theorem zr_add (a b : Nat) : zr a ++ zr b = zr (a + b) := by simp [zr, List.replicate_append_replicate]
theorem zr_drop (a b : Nat) : (zr a).drop b = zr (a - b) := by simp [zr]
theorem zr_take (a b : Nat) : (zr a).take b = zr (min b a) := by simp [zr]
structure Lg where
 segs : Nat
 size : Nat
 B : List UInt8
 last : Nat
 used : Nat
 clean : Nat
 texts : List (List UInt8)
 chain : List UInt8
 sure : Nat
 sealed_ : Bool
 dead : Bool
def Lg.n (s : Lg) : Nat := s.size * 128
def Lg.all (s : Lg) : Nat := s.segs * s.n
def Lg.end_ (s : Lg) : Nat := s.last * s.n + s.used
def Lg.put (s : Lg) (b : List UInt8) : Lg := { s with B := splice s.B s.end_ b, used := s.used + b.length }
def Lg.begin_ (s : Lg) (k : Nat) : Lg := ({ s with last := k, used := 0, sealed_ := false } : Lg).put (hd k s.texts.length s.chain)
def fitsF (size used text : Nat) : Bool := decide (1 <= text /\ text <= 65535 /\ used + text + 88 <= size)
def Lg.fits (s : Lg) (t : Nat) : Bool := decide (0 < s.used) && !s.sealed_ && fitsF s.n s.used t
def Lg.err (s : Lg) (t : Nat) : Nat := if s.dead then 22 else if fitsF s.n 128 t = false then 11 else if 0 < s.used /\ s.fits t = false /\ s.last + 1 = s.segs then 21 else 0
def Lg.room (s : Lg) (t : Nat) : Lg := if s.used = 0 then s.begin_ 0 else if s.sealed_ then s.begin_ (s.last + 1) else if s.fits t = false then (s.put (ft s.texts.length s.chain)).begin_ (s.last + 1) else s
def Lg.lay (r : Lg) (t : List UInt8) : Lg := { r.put (frm r.chain t) with texts := r.texts ++ [t], chain := sha (r.chain ++ t) }
def Lg.append (s : Lg) (t : List UInt8) : Lg := (s.room t.length).lay t
def Lg.seg (s : Lg) (i : Nat) : List UInt8 := (s.B.drop (i * s.n)).take s.n
def Lg.scan1 (s : Lg) (i : Nat) : Lg × Bool :=
 if pref (s.seg i) (hd i s.texts.length s.chain) = true then
  ({ s with texts := s.texts ++ (pz (s.seg i) s.texts.length s.n (pz0 s.chain)).texts, chain := (pz (s.seg i) s.texts.length s.n (pz0 s.chain)).chain, last := i, used := (pz (s.seg i) s.texts.length s.n (pz0 s.chain)).used, sealed_ := (pz (s.seg i) s.texts.length s.n (pz0 s.chain)).sealed_ }, (pz (s.seg i) s.texts.length s.n (pz0 s.chain)).sealed_)
 else (s, false)
def Lg.scan (s : Lg) (i : Nat) : Nat -> Lg
 | 0 => s
 | f + 1 => if (s.scan1 i).2 = true then (s.scan1 i).1.scan (i + 1) f else (s.scan1 i).1
/-! ### What is laid -/
def bod (i k : Nat) (c : List UInt8) (ts : List (List UInt8)) (fin : Bool) : List UInt8 := hd i k c ++ (frs c ts ++ if fin then ft (k + ts.length) (chn c ts) else [])
def Fine (ts : List (List UInt8)) : Prop := ∀ t ∈ ts, 1 <= t.length /\ t.length <= 65535
theorem chn_append : ∀ (a b : List (List UInt8)) (c : List UInt8), chn c (a ++ b) = chn (chn c a) b
 | [], _, _ => rfl
 | t :: a, b, c => by rw [List.cons_append, chn, chn_append a b]; rfl
theorem hd_len' (q k : Nat) (l : List UInt8) (h : l.length = 32) : (hd q k l).length = 128 := by
 simp [hd, hd0, crcw_len, length_be, h]
def Cnt (done : List (List (List UInt8))) : Nat := done.flatten.length
def Chd (done : List (List (List UInt8))) : List UInt8 := chn (zr 32) done.flatten
theorem Chd_length (done : List (List (List UInt8))) : (Chd done).length = 32 := chn_length _ _ (zr_length 32)
theorem bod_length (i k : Nat) (c : List UInt8) (ts : List (List UInt8)) (fin : Bool) (hc : c.length = 32) : (bod i k c ts fin).length = 128 + (frs c ts).length + (if fin then 48 else 0) := by
 unfold bod
 rw [List.length_append, List.length_append, hd_len' i k c hc]
 cases fin with
 | true => simp only [if_true, ft_length, chn_length _ _ hc]; omega
 | false => simp
theorem bod_snoc (i k : Nat) (c t : List UInt8) (ts : List (List UInt8)) : bod i k c (ts ++ [t]) false = bod i k c ts false ++ frm (chn c ts) t := by
 unfold bod
 simp only [Bool.false_eq_true, if_false, List.append_nil]
 rw [frs_snoc, List.append_assoc]
theorem fitsF_iff {a b c : Nat} : fitsF a b c = true ↔ (1 <= c /\ c <= 65535 /\ b + c + 88 <= a) := by unfold fitsF; exact decide_eq_true_iff
/-! ### What is laid is told -/
theorem frs_many : ∀ (ts : List (List UInt8)) (c : List UInt8), ts.length <= (frs c ts).length
 | [], _ => Nat.le_refl _
 | t :: ts, c => by
   have := frs_many ts (sha (c ++ t))
   rw [frs, List.length_append, frm_length, List.length_cons]
   omega
theorem seg_first {n : Nat} {x r : List UInt8} (h : x.length = n) : (x ++ r).take n = x := by rw [<- h, List.take_left]
theorem seg_next {n : Nat} {x r : List UInt8} (h : x.length = n) : (x ++ r).drop n = r := by rw [<- h, List.drop_left]
theorem pref_zeros (m i k : Nat) (l : List UInt8) : pref (zr m) (hd i k l) = false := by
 refine Bool.eq_false_iff.2 fun h => ?_
 have h1 := of_decide_eq_true h
 rw [zr_take] at h1
 have h2 := congrArg (fun x => x[0]?) h1
 simp only [hd, hd0, crcw, zr] at h2
 simp [List.getElem?_replicate] at h2
theorem scan_zero (s : Lg) (f : Nat) (h : s.B = zr s.all) : s.scan 0 (f + 1) = s := by
 have h1 : s.scan1 0 = (s, false) := by
  unfold Lg.scan1 Lg.seg
  rw [h, zr_drop, zr_take, if_neg (by rw [pref_zeros]; decide)]
 rw [Lg.scan, h1]
 rfl
end
end Go.Proofs.YtkgaeoeibjoljaaGreatDoor
