/-
  The law's words: a block as a text, the document's example.
-/
import Derived.Test.YtimaeghbjfialaaAes6
import Derived.Test.YtimaeghbjfialaaHex
namespace Go.Proofs.Ytimaeghbjfialaa
open Go.RowKit

/-- Octets as a string's. -/
def oct (l : List Nat) : List UInt8 := l.map UInt8.ofNat
theorem u8s_oct {l : List Nat} (h : byt l) : u8s (oct l) = nbs l := by
  refine List.ext_getElem? fun i => ?_
  by_cases hi : i < l.length
  · have hl := h i
    rw [List.getD_eq_getElem?_getD, List.getElem?_eq_getElem hi] at hl
    simp only [Option.getD_some] at hl
    simp [u8s, oct, nbs, hi, UInt8.toNat_ofNat', Nat.mod_eq_of_lt hl]
  · simp [u8s, oct, nbs, hi]

theorem text_any (l : List Nat) (hl : l.length = 16) (hb : byt l) (w : World) : Calls Try.prog 8 #[.agg (nbs l).toArray] w fun e w' => e = .returned (.string (str (oct l))) ∧ Below w.heap.size w w' := by
  obtain ⟨c, hc⟩ : ∃ c, c = (nbs l).toArray := ⟨_, rfl⟩
  rw [← hc]
  have hS : Sees (w.alloc (.cells c 22)) 1 (some ⟨w.heap.size, 0, none⟩) 16 (u8s (oct l)) := by
    rw [u8s_oct hb, hc]
    exact sees_blk (Blk.new _ _ _) hl
  have hcv := run_to_string Try.underlying38 Try.underlying5 Try.underlying9 16 hS
  have HC := Lib.hid hc; clear hc
  have HS := Lib.hid hS; clear hS
  go_enter Try.func8, Try.ntmps8
  go_wp2_with fail
  go_ret
  exact ⟨rfl, (Below.refl _ _).alloc (Nat.le_refl _) _⟩

def awk (n : Nat) : List Nat := tab 16 fun i => if i < n then i else 0
def awb (n : Nat) : List Nat := tab 16 fun i => if i < n then 17 * i else 0
theorem awk_next (n : Nat) : (awk n).set n n = awk (n + 1) := by
  rw [awk, tab_set]
  refine tab_ext fun j _ => ?_
  by_cases e : j = n
  · subst e; simp
  · rw [if_neg e]
    by_cases h : j < n
    · rw [if_pos h, if_pos (by omega)]
    · rw [if_neg h, if_neg (by omega)]
theorem awb_next (n : Nat) : (awb n).set n (17 * n) = awb (n + 1) := by
  rw [awb, tab_set]
  refine tab_ext fun j _ => ?_
  by_cases e : j = n
  · subst e; simp
  · rw [if_neg e]
    by_cases h : j < n
    · rw [if_pos h, if_pos (by omega)]
    · rw [if_neg h, if_neg (by omega)]
theorem aw_enc : enc (awk 16) (awb 16) = [0x69, 0xc4, 0xe0, 0xd8, 0x6a, 0x7b, 0x04, 0x30, 0xd8, 0xcd, 0xb7, 0x80, 0x70, 0xb4, 0xc5, 0x5a] := by
  rw [show awk 16 = tab 16 fun i => i from tab_ext fun i hi => if_pos hi, show awb 16 = tab 16 fun i => 17 * i from tab_ext fun i hi => if_pos hi]
  exact enc_awake

theorem awake_any (w : World) : Calls Try.prog 7 #[] w fun e w' => e = .returned (.bool true) ∧ Below w.heap.size w w' := by
  have hi16 : (Try.prog.info? 22).map (·.size) = some 16 := by kernel_rfl
  have HI16 := Lib.hid hi16; clear hi16
  go_enter Try.func7, Try.ntmps7
  go_wp2_with fail
  go_loopw [3] (fun i wr => ∃ n : Nat, n ≤ 16 ∧ i = .int .i64 n ∧ Blk wr w.heap.size 22 (nbs (awk n)).toArray ∧ Blk wr (w.heap.size + 1) 22 (nbs (awb n)).toArray ∧ Below w.heap.size w wr) (fun i _ => 16 - (intOf i).toNat)
  case atStart => exact ⟨0, by omega, rfl, (Blk.new' rfl rfl).alloc _, Blk.new' (by simp) rfl, ((Below.refl _ _).alloc (Nat.le_refl _) _).alloc (by simp) _⟩
  case round =>
    obtain ⟨n, hn, rfl, hK, hB, hbel⟩ := hrel
    by_cases hlt : n < 16
    · have hlti : (n : Int) < 16 := by omega
      have hK2 := hK.set_ n (.int .u8 (n : Nat))
      rw [nbs_arr_set, awk_next] at hK2
      have hB2 := (hB.far (p := ⟨w.heap.size, n, none⟩) (by show w.heap.size + 1 ≠ w.heap.size; omega) (.int .u8 (n : Nat))).set_ n (.int .u8 (17 * n : Nat))
      rw [nbs_arr_set, awb_next] at hB2
      have hK3 := hK2.far (p := ⟨w.heap.size + 1, n, none⟩) (by show w.heap.size ≠ w.heap.size + 1; omega) (.int .u8 (17 * n : Nat))
      obtain ⟨u, hc1⟩ : ∃ u, wr.cell? ⟨w.heap.size, n, none⟩ = some u := ⟨_, blk_cell hK (by rw [awk, tab_length]; exact hlt)⟩
      obtain ⟨v, hc2⟩ : ∃ u, wr.cell? ⟨w.heap.size + 1, n, none⟩ = some u := ⟨_, blk_cell hB (by rw [awb, tab_length]; exact hlt)⟩
      have hf1 : wr.frozen? ⟨w.heap.size, n, none⟩ = false := hK.frozen n
      have hf2 : wr.frozen? ⟨w.heap.size + 1, n, none⟩ = false := hB.frozen n
      obtain ⟨m, hm⟩ : ∃ m, m = 17 * n := ⟨_, rfl⟩
      have h17 : (17 * (n : Int)) = (m : Int) := by omega
      have hw17 : IntKind.i64.wrap (m : Int) = (m : Int) := IntWalk.i64_in _ (by omega)
      have hm256 : (m : Int) < 256 := by omega
      rw [← hm] at hB2 hK3
      clear hm
      have HK3 := Lib.hid hK3; have HB2 := Lib.hid hB2; clear hK hK2 hB hB2 hK3
      go_wp2_with fail
      go_roundw
      case rel =>
        exact ⟨n + 1, by omega, by go_num, HK3.out, HB2.out, (hbel.setCell (Nat.le_refl _) _).setCell (by show w.heap.size ≤ w.heap.size + 1; omega) _⟩
      case measure => simp [intOf]; omega
    · obtain rfl : n = 16 := by omega
      have hbk : byt (awk 16) := byt_tab fun i hi => by rw [if_pos hi]; omega
      have hbb : byt (awb 16) := byt_tab fun i hi => by rw [if_pos hi]; omega
      have HBL := Lib.hid (block_any (awk 16) (awb 16) (tab_length _ _) (tab_length _ _) hbk hbb)
      have HTX := Lib.hid (text_any (enc (awk 16) (awb 16)) (st_length _ _ _) (st_byt hbk hbb 10))
      rw [aw_enc] at HBL HTX
      obtain ⟨ck, hck⟩ : ∃ c, c = (nbs (awk 16)).toArray := ⟨_, rfl⟩
      obtain ⟨cb, hcb⟩ : ∃ c, c = (nbs (awb 16)).toArray := ⟨_, rfl⟩
      have hs1 : ck.size = 16 := by rw [hck, nbs_size, awk, tab_length]
      have hs2 : cb.size = 16 := by rw [hcb, nbs_size, awb, tab_length]
      rw [← hck] at hK HBL
      rw [← hcb] at hB HBL
      clear hck hcb
      obtain ⟨o, ho⟩ : ∃ o : List Nat, o = [0x69, 0xc4, 0xe0, 0xd8, 0x6a, 0x7b, 0x04, 0x30, 0xd8, 0xcd, 0xb7, 0x80, 0x70, 0xb4, 0xc5, 0x5a] := ⟨_, rfl⟩
      rw [← ho] at HBL HTX
      have HHX := Lib.hid (hex_any (oct o) (by rw [ho]; decide))
      have hhex : hexOf (oct o) = [54, 57, 99, 52, 101, 48, 100, 56, 54, 97, 55, 98, 48, 52, 51, 48, 100, 56, 99, 100, 98, 55, 56, 48, 55, 48, 98, 52, 99, 53, 53, 97] := by rw [ho]; decide +kernel
      rw [hhex] at HHX
      clear ho hhex
      go_wp2_with (first
        | (refine wpList_load_row rfl 22 (.tmp 1) rfl w.heap.size rfl 22 _ (0, 0) _ hK Try.underlying22 rfl (by rw [hs1]; exact HI16.out) ?_)
        | (refine wpList_load_row rfl 22 (.tmp 2) rfl (w.heap.size + 1) rfl 22 _ (0, 0) _ hB Try.underlying22 rfl (by rw [hs2]; exact HI16.out) ?_))
      refine (HBL.out _).mono ?_
      rintro e w1 ⟨rfl, hb1⟩
      go_wp2_with fail
      refine (HTX.out _).mono ?_
      rintro e w2 ⟨rfl, hb2⟩
      go_wp2_with fail
      refine (HHX.out _).mono ?_
      rintro e w3 ⟨rfl, hb3⟩
      go_wp2_with fail
      go_ret
      exact ⟨ret_bool (by decide +kernel), hbel.trans (hb1.mono hbel.size |>.trans (hb2.mono (Nat.le_trans hbel.size hb1.size)) |>.trans (hb3.mono (Nat.le_trans hbel.size (Nat.le_trans hb1.size hb2.size))))⟩
end Go.Proofs.Ytimaeghbjfialaa
