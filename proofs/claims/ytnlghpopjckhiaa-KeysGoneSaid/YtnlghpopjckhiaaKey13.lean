/-
  A key of the law's.
-/
import Derived.Test.YtnlghpopjckhiaaKey12
import Derived.Test.YtnlghpopjckhiaaRest
namespace Go.Proofs.Ytnlghpopjckhiaa
set_option maxRecDepth 4000
open Go.RowKit

def keyc (c : UInt8) : List UInt8 := (List.range 32).map fun i => c + UInt8.ofNat i
theorem keyc_length (c : UInt8) : (keyc c).length = 32 := by simp [keyc]
theorem keyc_get (c : UInt8) (i : Nat) (h : i < 32) : (keyc c)[i]? = some (c + UInt8.ofNat i) := by
  unfold keyc
  rw [List.getElem?_map, List.getElem?_range h]
  rfl
def keyPart (c : UInt8) (j : Nat) : List UInt8 := (keyc c).take j ++ List.replicate (32 - j) 0
theorem keyPart_step (c : UInt8) (j : Nat) (h : j < 32) : (keyPart c j).set j (c + UInt8.ofNat j) = keyPart c (j + 1) := by
  refine List.ext_getElem? fun k => ?_
  unfold keyPart
  have hl : ((keyc c).take j).length = j := by rw [List.length_take, keyc_length]; omega
  have hl2 : ((keyc c).take (j + 1)).length = j + 1 := by rw [List.length_take, keyc_length]; omega
  rw [List.getElem?_set]
  split
  · rename_i hk
    subst hk
    rw [if_pos (by rw [List.length_append, hl, List.length_replicate]; omega), List.getElem?_append_left (by omega), List.getElem?_take, if_pos (by omega), keyc_get c j h]
  · rename_i hk
    rcases Nat.lt_or_ge k j with h1 | h1
    · rw [List.getElem?_append_left (by omega), List.getElem?_append_left (by omega), List.getElem?_take, List.getElem?_take, if_pos h1, if_pos (by omega)]
    · rw [List.getElem?_append_right (by omega), List.getElem?_append_right (by omega), List.getElem?_replicate, List.getElem?_replicate, hl, hl2]
      by_cases h2 : k - j < 32 - j
      · rw [if_pos h2, if_pos (by omega)]
      · rw [if_neg h2, if_neg (by omega)]
theorem u8_add (c : UInt8) (j : Nat) (h : j < 256) : IntKind.u8.wrap ((c.toNat : Int) + (j : Int)) = ((c + UInt8.ofNat j).toNat : Nat) := by
  rw [IntKind.wrap_u8, UInt8.toNat_add, UInt8.toNat_ofNat']
  omega

theorem key_any (c : UInt8) (w : World) : Calls Try.prog 13 #[.int .u8 (c.toNat : Nat)] w fun e w' => (∃ v, e = .returned v ∧ w'.ownsRow w.heap.size 5 1 v 32 (u8s (keyc c))) ∧ Below w.heap.size w w' := by
  have hmk := make_bytes 32 (by omega)
  obtain ⟨Z, hZ⟩ : ∃ z : Array Value, z = (u8s (List.replicate 32 0)).toArray := ⟨_, rfl⟩
  rw [← hZ] at hmk
  replace hmk : ∀ W : World, (Instr.makeSlice 37 (.int .i64 32) (.int .i64 32)).run Try.prog W = .ok (.slice (some ⟨W.heap.size, 0, none⟩) 32 32) (W.alloc (.cells Z 5)) := hmk
  have HZ := Lib.hid hZ; clear hZ
  have hu := u8_add c
  obtain ⟨x, hx⟩ : ∃ x, x = c.toNat := ⟨_, rfl⟩
  rw [← hx] at hu ⊢
  have HX := Lib.hid hx; clear hx
  have HU := Lib.hid hu; clear hu
  go_enter Try.func13, Try.ntmps13
  go_wp2_with (simp only [hmk])
  have hb0 : Below w.heap.size w (w.alloc (.cells Z 5)) := (Below.refl _ _).alloc (Nat.le_refl _) _
  have hk0 : Blk (w.alloc (.cells Z 5)) w.heap.size 5 (u8s (keyPart c 0)).toArray := by
    have := Blk.new w 5 Z
    rw [HZ.out] at this ⊢
    exact this
  have H0 := Lib.hid (And.intro hk0 hb0)
  clear hb0 hk0 hmk
  generalize w.alloc (.cells Z 5) = w1 at *
  go_loopw [4] (fun i wr => ∃ j : Nat, i = .int .i64 j ∧ j ≤ 32 ∧ Hid (Blk wr w.heap.size 5 (u8s (keyPart c j)).toArray ∧ Below w.heap.size w wr)) (fun i _ => 32 - (intOf i).toNat)
  case atStart => exact ⟨0, rfl, Nat.zero_le _, H0⟩
  case round =>
    obtain ⟨j, rfl, hj, hr⟩ := hrel
    by_cases hlt : j < 32
    · have hu := HU.out j (by omega)
      have hsz : (u8s (keyPart c j)).length = 32 := by rw [length_u8s]; simp [keyPart, keyc_length]; omega
      obtain ⟨u, hu0⟩ : ∃ u, (u8s (keyPart c j))[j]? = some u := ⟨_, List.getElem?_eq_getElem (by omega)⟩
      have q0 : wr.cell? ⟨w.heap.size, j, none⟩ = some u := by rw [hr.out.1.cell, List.getElem?_toArray]; exact hu0
      have qf := hr.out.1.frozen j
      have hst := hr.out.1.set_ j (.int .u8 ((c + UInt8.ofNat j).toNat : Nat))
      have e1 : (u8s (keyPart c j)).toArray.setIfInBounds j (.int .u8 ((c + UInt8.ofNat j).toNat : Nat)) = (u8s (keyPart c (j + 1))).toArray := by
        rw [List.setIfInBounds_toArray, ← keyPart_step c j hlt]
        congr 1
        unfold u8s
        rw [List.map_set]
      rw [e1] at hst
      have hbb := hr.out.2.trans ((Fr.setCell (F := (· = w.heap.size)) wr ⟨w.heap.size, j, none⟩ (.int .u8 ((c + UInt8.ofNat j).toNat : Nat)) rfl).below hr.out.2.size (fun k hk => by omega))
      have HN := Lib.hid (And.intro hst hbb)
      clear hr hst hbb hu0 hsz e1
      generalize c + UInt8.ofNat j = y at *
      go_wp2_with fail
      go_roundw
      case rel => exact ⟨j + 1, by go_num, by omega, HN⟩
      case measure => simp [intOf]; omega
    · obtain rfl : j = 32 := by omega
      go_wp2_with fail
      go_ret
      have e2 : keyPart c 32 = keyc c := by unfold keyPart; rw [List.take_of_length_le (by rw [keyc_length]; omega)]; simp
      have hb := hr.out.1
      rw [e2] at hb
      exact ⟨⟨_, rfl, own_mk (by omega) hb (Nat.le_refl _) (by unfold maxLen; omega) (by rw [List.size_toArray, length_u8s, keyc_length]) (by rw [List.toList_toArray, Nat.mul_one]; exact List.take_of_length_le (by rw [length_u8s, keyc_length]; omega))⟩, hr.out.2⟩
end Go.Proofs.Ytnlghpopjckhiaa
