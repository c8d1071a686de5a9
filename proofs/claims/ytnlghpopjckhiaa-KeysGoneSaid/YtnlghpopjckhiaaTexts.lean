/-
  Rows of texts, and the document's texts of them.
-/
import Derived.Test.YtnlghpopjckhiaaPt
import Derived.Test.YtnlghpopjckhiaaClone
namespace Go.Proofs.Ytnlghpopjckhiaa
set_option maxRecDepth 4000
open Go.RowKit

/-- Parts in a row of slices. -/
def Rws (w : World) (A : Option Addr) (ps : List Pt) : Prop := 0 < ps.length → ∃ g off, A = some ⟨g, off, none⟩ ∧ ∀ j p, ps[j]? = some p → w.cell? ⟨g, off + j, none⟩ = some p.val
theorem Rws.below {w w' : World} {A : Option Addr} {ps : List Pt} (h : Rws w A ps) (hb : Below w.heap.size w w') : Rws w' A ps := fun h0 => by
  obtain ⟨g, off, e, hc⟩ := h h0
  exact ⟨g, off, e, fun j p hj => (hb.cell (World.block_lt_of_cell? w _ (hc j p hj))).trans (hc j p hj)⟩

/-- Texts as cells. -/
def strs (L : List (List UInt8)) : List Value := L.map fun l => .string (str l)
theorem strs_one (L : List (List UInt8)) : ∀ u ∈ strs L, u.oneCell' = true := by
  intro u hu
  obtain ⟨c, _, rfl⟩ := List.mem_map.1 hu
  rfl
theorem info_string : (Try.prog.info? 9).map (fun i => (i.zero, i.size, i.bytes)) = some (some (.string ⟨#[]⟩), 1, 16) := by kernel_rfl

set_option maxRecDepth 4000 in
set_option maxHeartbeats 1000000 in
theorem texts_any (ps : List Pt) (A : Option Addr) (k c : Nat) (w : World) (hk : ps.length = k) (hkc : k ≤ 100000) (hR : Rws w A ps) (hP : Pts w ps) :
    Calls Try.prog 18 #[.slice A k c] w fun e w' => ∃ v, e = .returned v ∧ w'.ownsRow w.heap.size 9 1 v k (strs (ps.map (·.l))) ∧ Below w.heap.size w w' := by
  have HR := Lib.hid hR; have HP := Lib.hid hP; have HK := Lib.hid hk; clear hR hP hk
  go_enter Try.func18, Try.ntmps18
  go_wp2_with fail
  go_loopw [3, 4] (fun v i wr => ∃ j : Nat, j ≤ k ∧ i = .int .i64 j ∧ wr.ownsRow w.heap.size 9 1 v j (strs ((ps.take j).map (·.l))) ∧ Below w.heap.size w wr) (fun _ i _ => k - (intOf i).toNat)
  case atStart => exact ⟨0, by omega, rfl, World.ownsRow_nil _ _ _ _, Below.refl _ _⟩
  case round =>
    obtain ⟨j, hj, rfl, hown, hbr⟩ := hrel
    obtain ⟨A1, c1, rfl⟩ := own_shape hown
    by_cases hlt : j < k
    · have hlti : (j : Int) < (k : Int) := by omega
      have hp := List.getElem?_eq_getElem (l := ps) (i := j) (by rw [HK.out]; exact hlt)
      obtain ⟨⟨B, n, c', l⟩, hpe⟩ : ∃ p, p = ps[j]'(by rw [HK.out]; exact hlt) := ⟨_, rfl⟩
      rw [← hpe] at hp
      obtain ⟨g, off, rfl, hcs⟩ := HR.out (by rw [HK.out]; omega)
      have hc0 := (hbr.cell (World.block_lt_of_cell? w _ (hcs j _ hp))).trans (hcs j _ hp)
      simp only [Pt.val] at hc0
      obtain ⟨hS, hll⟩ := HP.out _ (List.mem_of_getElem? hp)
      simp only at hS hll
      have hcv := run_to_string Try.underlying37 Try.underlying5 Try.underlying9 c' (hS.below hbr)
      have hnx : strs ((ps.take (j + 1)).map (·.l)) = strs ((ps.take j).map (·.l)) ++ [.string (str l)] := by
        rw [List.take_add_one, hp, List.map_append]
        simp [strs]
      obtain ⟨X, hX⟩ : ∃ X, X = str l := ⟨_, rfl⟩
      rw [← hX] at hcv hnx
      have hbz := hbr.size
      have HBR := Lib.hid hbr; have HOWN := Lib.hid hown; have HNX := Lib.hid hnx
      clear hown hbr hS hnx hpe hp hcs hll hX
      go_wp2_with (at_builtin; refine wpList_app rfl (.tmp 11) (.tmp 17) _ rfl w.heap.size 9 _ 1 16 Try.underlying51 info_string rfl (by decide) _ j _ rfl (own_below HOWN.out ((Below.refl _ _).alloc (Nat.le_refl _) _)) (some ⟨wr.heap.size, 0, none⟩) 1 _ [.string X] rfl (sees_new wr _ [.string X] 1 1 rfl) (by simp [Value.oneCell']) (by unfold maxLen; omega) (by omega) (by simp; omega) ?_; intro v1 w1 hown1 hgr1 hat1 hnil1; rw [← HNX.out] at hown1; have hb1 := (HBR.out.alloc hbz _).grown hgr1 (by simp; omega) (fun k hk => (HOWN.out.lt k hk).1); have HOWN1 := Lib.hid hown1; have HB1 := Lib.hid hb1; clear hown1 hgr1 hat1 hnil1 hb1)
      go_roundw
      case rel => exact ⟨j + 1, by omega, by go_num, HOWN1.out, HB1.out⟩
      case measure => simp [intOf]; omega
    · obtain rfl : j = k := by omega
      rw [List.take_of_length_le (by rw [HK.out]; exact Nat.le_refl _)] at hown
      have hge : ¬ ((j : Int) < (j : Int)) := by omega
      have HOWN := Lib.hid hown; clear hown
      go_wp2_with fail
      go_ret
      exact ⟨_, rfl, HOWN.out, hbr⟩

end Go.Proofs.Ytnlghpopjckhiaa
