/-
  The head of texts: the chain behind the last one; by the code and by the document.
-/
import Derived.Test.YtldgnckchlbadaaDoorSeg3
import Derived.Test.YtldgnckchlbadaaDoorGB
namespace Go.Proofs.YtldgnckchlbadaaDoor
set_option maxRecDepth 4000
open Go.RowKit

/-- The chain behind texts. -/
def hdc (L : List (List UInt8)) : List UInt8 := L.foldl (fun c t => sha (c ++ t)) (List.replicate 32 0)
theorem hdc_snoc (L : List (List UInt8)) (t : List UInt8) : hdc (L ++ [t]) = sha (hdc L ++ t) := by simp [hdc]
theorem hdc_length (L : List (List UInt8)) : (hdc L).length = 32 := by
  suffices h : ∀ (L : List (List UInt8)) (c : List UInt8), c.length = 32 → (L.foldl (fun c t => sha (c ++ t)) c).length = 32 from h L _ (by simp)
  intro L
  induction L with
  | nil => intro c h; exact h
  | cons t L ih => intro c _; exact ih _ (sha_length _)
set_option maxRecDepth 4000 in
set_option maxHeartbeats 1000000 in
theorem head_any' (ps : List Pt) (A : Option Addr) (k c : Nat) (w : World) (hk : ps.length = k) (hkc : k ≤ 100000) (hR : Rws w A ps) (hP : Pts w ps) (hl : ∀ p ∈ ps, p.l.length ≤ 100000) (hT : Tab w) :
    Calls Tryd.prog 9 #[.slice A k c] w fun e w' => ∃ v, e = .returned (.tuple #[.int .i64 k, v]) ∧ w'.ownsRow w.heap.size 5 1 v 32 (u8s (hdc (ps.map (·.l)))) ∧ Below w.heap.size w w' := by
  have hmk := make_bytes 32 (by omega)
  obtain ⟨Z, hZ⟩ : ∃ z : Array Value, z = (u8s (List.replicate 32 0)).toArray := ⟨_, rfl⟩
  rw [← hZ] at hmk
  replace hmk : ∀ W : World, (Instr.makeSlice 35 (.int .i64 32) (.int .i64 32)).run Tryd.prog W = .ok (.slice (some ⟨W.heap.size, 0, none⟩) 32 32) (W.alloc (.cells Z 5)) := hmk
  have HZ := Lib.hid hZ; have HR := Lib.hid hR; have HP := Lib.hid hP; have HK := Lib.hid hk; have HL := Lib.hid hl; have HT := Lib.hid hT; clear hZ hR hP hk hl hT
  go_enter Tryd.func9, Tryd.ntmps9
  go_wp2_with (simp only [hmk])
  go_loopw [4, 10] (fun v i wr => ∃ j : Nat, j ≤ k ∧ i = .int .i64 j ∧ wr.ownsRow w.heap.size 5 1 v 32 (u8s (hdc ((ps.take j).map (·.l)))) ∧ Below w.heap.size w wr) (fun _ i _ => k - (intOf i).toNat)
  case atStart =>
    exact ⟨0, by omega, rfl, own_mk (Nat.le_refl _) (Blk.newAt rfl HZ.out) (Nat.le_refl _) (by unfold maxLen; omega) (by simp) (by simp [hdc, u8s]), (Below.refl _ _).alloc (Nat.le_refl _) _⟩
  case round =>
    obtain ⟨j, hj, rfl, hown, hbr⟩ := hrel
    obtain ⟨A1, c1, rfl⟩ := own_shape hown
    by_cases hlt : j < k
    · have hlti : (j : Int) < (k : Int) := by omega
      have hp := List.getElem?_eq_getElem (l := ps) (i := j) (by rw [HK.out]; exact hlt)
      obtain ⟨⟨B, n, c', l⟩, hpe⟩ : ∃ p, p = ps[j]'(by rw [HK.out]; exact hlt) := ⟨_, rfl⟩
      rw [← hpe] at hp
      obtain ⟨g, off, rfl, hcs⟩ := HR.out (by rw [HK.out]; omega)
      have hc0 := (hbr.cell (World.block_lt_of_cell? w _ (hcs j _ hp))).trans (hcs j _ hp)
      simp only [Pt.val] at hc0
      obtain ⟨hS, hll⟩ := HP.out _ (List.mem_of_getElem? hp)
      simp only at hS hll
      have hlm := HL.out _ (List.mem_of_getElem? hp)
      simp only at hlm
      have hnx : hdc ((ps.take (j + 1)).map (·.l)) = sha (hdc ((ps.take j).map (·.l)) ++ l) := by
        rw [List.take_add_one, hp, List.map_append]
        exact hdc_snoc _ _
      have HC := Lib.hid (chain_any (hdc ((ps.take j).map (·.l))) l _ B 32 c1 n c' wr (Sees.of_own hown) (hS.below hbr) (hdc_length _) hll (by omega) (HT.out.below hbr))
      rw [← hnx] at HC
      have HBR := Lib.hid hbr
      clear hown hbr hS hnx hpe hp hcs hll hlm
      go_wp2_with fail
      refine HC.out.mono ?_
      rintro e w1 ⟨v, rfl, hown1, hb1⟩
      have hb2 := HBR.out.trans (hb1.mono HBR.out.size)
      have HOWN := Lib.hid (own_base hown1 HBR.out.size); have HB2 := Lib.hid hb2; clear hown1 hb1 hb2 HC
      go_wp2_with fail
      go_roundw
      case rel => exact ⟨j + 1, by omega, by go_num, HOWN.out, HB2.out⟩
      case measure => simp [intOf]; omega
    · obtain rfl : j = k := by omega
      rw [List.take_of_length_le (by rw [HK.out]; exact Nat.le_refl _)] at hown
      have hge : ¬ ((j : Int) < (j : Int)) := by omega
      have HOWN := Lib.hid hown; clear hown
      go_wp2_with fail
      go_ret2
      exact ⟨_, rfl, HOWN.out, hbr⟩

theorem zero_any (w : World) : Calls Tryd.prog 40 #[] w fun e w' => e = .returned (.string (str (List.replicate 32 0))) ∧ Below w.heap.size w w' := by
  have hcv := fun (w : World) => run_to_string (P := Tryd.prog) Tryd.underlying35 Tryd.underlying5 Tryd.underlying9 32 (sees_new w 5 (u8s (List.replicate 32 0)) 1 32 (by simp))
  have hmk := make_bytes 32 (by omega)
  obtain ⟨Z, hZ⟩ : ∃ z : Array Value, z = (u8s (List.replicate 32 0)).toArray := ⟨_, rfl⟩
  rw [← hZ] at hmk hcv
  replace hmk : ∀ W : World, (Instr.makeSlice 35 (.int .i64 32) (.int .i64 32)).run Tryd.prog W = .ok (.slice (some ⟨W.heap.size, 0, none⟩) 32 32) (W.alloc (.cells Z 5)) := hmk
  obtain ⟨X, hX⟩ : ∃ X, X = str (List.replicate 32 0) := ⟨_, rfl⟩
  rw [← hX] at hcv ⊢
  clear hX hZ
  go_enter Tryd.func40, Tryd.ntmps40
  go_wp2_with (simp only [hmk])
  go_ret
  exact ⟨rfl, (Below.refl _ _).alloc (Nat.le_refl _) _⟩

set_option maxRecDepth 4000 in
set_option maxHeartbeats 1000000 in
theorem rhead_any' (L : List (List UInt8)) (A : Option Addr) (k c : Nat) (w : World) (hk : L.length = k) (hkc : k ≤ 100000) (hS : Sees w 1 A k (strs L)) (hl : ∀ t ∈ L, t.length ≤ 100000) :
    Calls Tryd.prog 18 #[.slice A k c] w fun e w' => e = .returned (.string (str (hdc L))) ∧ Below w.heap.size w w' := by
  have HZ := Lib.hid zero_any
  have HS := Lib.hid hS; have HK := Lib.hid hk; have HL := Lib.hid hl; clear hS hk hl
  go_enter Tryd.func18, Tryd.ntmps18
  go_wp2_with fail
  refine (HZ.out _).mono ?_
  rintro e w1 ⟨rfl, hb1⟩
  have HB1 := Lib.hid hb1; clear hb1
  go_wp2_with fail
  go_loopw [3, 4] (fun v i wr => ∃ j : Nat, j ≤ k ∧ i = .int .i64 j ∧ v = .string (str (hdc (L.take j))) ∧ Below w.heap.size w wr) (fun _ i _ => k - (intOf i).toNat)
  case atStart => exact ⟨0, by omega, rfl, rfl, HB1.out⟩
  case round =>
    obtain ⟨j, hj, rfl, rfl, hbr⟩ := hrel
    by_cases hlt : j < k
    · have hlti : (j : Int) < (k : Int) := by omega
      have hp := List.getElem?_eq_getElem (l := L) (i := j) (by rw [HK.out]; exact hlt)
      obtain ⟨t, ht⟩ : ∃ p, p = L[j]'(by rw [HK.out]; exact hlt) := ⟨_, rfl⟩
      rw [← ht] at hp
      obtain ⟨g, off, rfl, hcs⟩ := HS.out.2 (by omega)
      have hc0 : w.cell? ⟨g, off + j, none⟩ = some (.string (str t)) := hcs j _ (by simp [strs, hp])
      have hc1 := (hbr.cell (World.block_lt_of_cell? w _ hc0)).trans hc0
      have hlm := HL.out _ (List.mem_of_getElem? hp)
      have hnx : hdc (L.take (j + 1)) = sha (hdc (L.take j) ++ t) := by
        rw [List.take_add_one, hp]
        exact hdc_snoc _ _
      have HC := Lib.hid (rchain_any (hdc (L.take j)) t (by rw [hdc_length]; omega) wr)
      rw [← hnx] at HC
      obtain ⟨X, hX⟩ : ∃ X, X = str t := ⟨_, rfl⟩
      obtain ⟨Y, hY⟩ : ∃ Y, Y = str (hdc (L.take j)) := ⟨_, rfl⟩
      rw [← hX] at HC hc1
      rw [← hY] at HC ⊢
      have HBR := Lib.hid hbr
      clear hbr hnx ht hp hcs hc0 hlm hX hY
      go_wp2_with fail
      refine HC.out.mono ?_
      rintro e w2 ⟨rfl, hb2⟩
      have hb3 := HBR.out.trans (hb2.mono HBR.out.size)
      have HB3 := Lib.hid hb3; clear hb2 hb3 HC
      go_wp2_with fail
      go_roundw
      case rel => exact ⟨j + 1, by omega, by go_num, rfl, HB3.out⟩
      case measure => simp [intOf]; omega
    · obtain rfl : j = k := by omega
      rw [List.take_of_length_le (by rw [HK.out]; exact Nat.le_refl _)]
      have hge : ¬ ((j : Int) < (j : Int)) := by omega
      go_wp2_with fail
      go_ret
      exact ⟨rfl, hbr⟩
end Go.Proofs.YtldgnckchlbadaaDoor
