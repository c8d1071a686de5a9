/-
  Bytes copied anew.
  Rows of texts, and the document's texts of them.
  make([]byte, n) and []byte("..") of a constant.
-/
import Derived.Test.YtbcnbehneodlgaaGreatDoorProg
import Derived.Test.YtbcnbehneodlgaaGreatDoorGA
import Derived.BigQuiet
import Derived.Handy
import Derived.Deep.RegionHeld3
import Derived.Laws.MakeOwn
import Derived.Laws.IdiomStrings
namespace Go.Proofs.YtbcnbehneodlgaaGreatDoor
set_option maxRecDepth 4000
open Go.RowKit

theorem info_byte : (Tryz.prog.info? 5).map (fun i => (i.zero, i.size, i.bytes)) = some (some (.int .u8 0), 1, 1) := by kernel_rfl
theorem clone_any (ad : Addr) (n c : Nat) (xs : List Value) (w : World) (hr : Sees w 1 (some ad) n xs) (h1 : ∀ u ∈ xs, u.oneCell' = true) (hn : n ≤ 140737488355328) :
    Calls Tryz.prog 37 #[.slice (some ad) n c] w fun e w' => ∃ v, e = .returned v ∧ w'.ownsRow w.heap.size 5 1 v n xs ∧ Below w.heap.size w w' := by
  have q : ∀ (w : World) (a : Option Addr) (n c n' c' : Nat), (binOp .eql 42 (.slice a n c) (.slice none n' c')).run Tryz.prog w = .ok (.bool a.isNone) w := fun w a n c n' c' => Lib.run_eql_slice_nil w _ _ a n c n' c' Tryz.underlying42
  have hr1 : Sees (w.alloc (.cells #[] 5)) 1 (some ad) n xs := hr.below ((Below.refl _ _).alloc (Nat.le_refl _) _)
  go_enter Tryz.func37, Tryz.ntmps37
  go_wp2_with (at_builtin; refine wpList_app rfl (.tmp 5) (.tmp 6) _ rfl w.heap.size 5 _ 1 1 Tryz.underlying42 info_byte rfl (by decide) (.slice (some ⟨w.heap.size, 0, none⟩) 0 0) 0 [] rfl (World.ownsRow_made w #[] 0 (Nat.le_refl _) (Nat.zero_le _) rfl) _ n c xs rfl hr1 h1 (by unfold maxLen; omega) (by omega) (by simp) ?_; intro v' w1 hown hgrow hat hnil)
  go_ret
  refine ⟨v', rfl, by simpa using hown, ?_⟩
  exact ((Below.refl _ w).alloc (Nat.le_refl _) _).grown hgrow (by simp) (by intro k hk; simp [Value.ownBlock] at hk; omega)
theorem clone_nil (n c : Nat) (w : World) :
    Calls Tryz.prog 37 #[.slice none n c] w fun e w' => e = .returned (.slice none 0 0) ∧ w = w' := by
  have q : ∀ (w : World) (a : Option Addr) (n c n' c' : Nat), (binOp .eql 42 (.slice a n c) (.slice none n' c')).run Tryz.prog w = .ok (.bool a.isNone) w := fun w a n c n' c' => Lib.run_eql_slice_nil w _ _ a n c n' c' Tryz.underlying42
  go_enter Tryz.func37, Tryz.ntmps37
  go_wp2
  go_ret
  exact ⟨rfl, rfl⟩
end Go.Proofs.YtbcnbehneodlgaaGreatDoor

namespace Go.Proofs.YtbcnbehneodlgaaGreatDoor
set_option maxRecDepth 4000
open Go.RowKit

/-- Parts in a row of slices. -/
def Rws (w : World) (A : Option Addr) (ps : List Pt) : Prop := 0 < ps.length → ∃ g off, A = some ⟨g, off, none⟩ ∧ ∀ j p, ps[j]? = some p → w.cell? ⟨g, off + j, none⟩ = some p.val
theorem Rws.below {w w' : World} {A : Option Addr} {ps : List Pt} (h : Rws w A ps) (hb : Below w.heap.size w w') : Rws w' A ps := fun h0 => by
  obtain ⟨g, off, e, hc⟩ := h h0
  exact ⟨g, off, e, fun j p hj => (hb.cell (World.block_lt_of_cell? w _ (hc j p hj))).trans (hc j p hj)⟩

/-- Texts as cells. -/
def strs (L : List (List UInt8)) : List Value := L.map fun l => .string (str l)
theorem strs_one (L : List (List UInt8)) : ∀ u ∈ strs L, u.oneCell' = true := by
  intro u hu
  obtain ⟨c, _, rfl⟩ := List.mem_map.1 hu
  rfl
theorem info_string : (Tryz.prog.info? 9).map (fun i => (i.zero, i.size, i.bytes)) = some (some (.string ⟨#[]⟩), 1, 16) := by kernel_rfl

set_option maxRecDepth 4000 in
set_option maxHeartbeats 1000000 in
theorem texts_any (ps : List Pt) (A : Option Addr) (k c : Nat) (w : World) (hk : ps.length = k) (hkc : k ≤ 100000) (hR : Rws w A ps) (hP : Pts w ps) :
    Calls Tryz.prog 17 #[.slice A k c] w fun e w' => ∃ v, e = .returned v ∧ w'.ownsRow w.heap.size 9 1 v k (strs (ps.map (·.l))) ∧ Below w.heap.size w w' := by
  have HR := Lib.hid hR; have HP := Lib.hid hP; have HK := Lib.hid hk; clear hR hP hk
  go_enter Tryz.func17, Tryz.ntmps17
  go_wp2_with fail
  go_loopw [3, 4] (fun v i wr => ∃ j : Nat, j ≤ k ∧ i = .int .i64 j ∧ wr.ownsRow w.heap.size 9 1 v j (strs ((ps.take j).map (·.l))) ∧ Below w.heap.size w wr) (fun _ i _ => k - (intOf i).toNat)
  case atStart => exact ⟨0, by omega, rfl, World.ownsRow_nil _ _ _ _, Below.refl _ _⟩
  case round =>
    obtain ⟨j, hj, rfl, hown, hbr⟩ := hrel
    obtain ⟨A1, c1, rfl⟩ := own_shape hown
    by_cases hlt : j < k
    · have hlti : (j : Int) < (k : Int) := by omega
      have hp := List.getElem?_eq_getElem (l := ps) (i := j) (by rw [HK.out]; exact hlt)
      obtain ⟨⟨B, n, c', l⟩, hpe⟩ : ∃ p, p = ps[j]'(by rw [HK.out]; exact hlt) := ⟨_, rfl⟩
      rw [← hpe] at hp
      obtain ⟨g, off, rfl, hcs⟩ := HR.out (by rw [HK.out]; omega)
      have hc0 := (hbr.cell (World.block_lt_of_cell? w _ (hcs j _ hp))).trans (hcs j _ hp)
      simp only [Pt.val] at hc0
      obtain ⟨hS, hll⟩ := HP.out _ (List.mem_of_getElem? hp)
      simp only at hS hll
      have hcv := run_to_string Tryz.underlying42 Tryz.underlying5 Tryz.underlying9 c' (hS.below hbr)
      have hnx : strs ((ps.take (j + 1)).map (·.l)) = strs ((ps.take j).map (·.l)) ++ [.string (str l)] := by
        rw [List.take_add_one, hp, List.map_append]
        simp [strs]
      obtain ⟨X, hX⟩ : ∃ X, X = str l := ⟨_, rfl⟩
      rw [← hX] at hcv hnx
      have hbz := hbr.size
      have HBR := Lib.hid hbr; have HOWN := Lib.hid hown; have HNX := Lib.hid hnx
      clear hown hbr hS hnx hpe hp hcs hll hX
      go_wp2_with (at_builtin; refine wpList_app rfl (.tmp 11) (.tmp 17) _ rfl w.heap.size 9 _ 1 16 Tryz.underlying28 info_string rfl (by decide) _ j _ rfl (own_below HOWN.out ((Below.refl _ _).alloc (Nat.le_refl _) _)) (some ⟨wr.heap.size, 0, none⟩) 1 _ [.string X] rfl (sees_new wr _ [.string X] 1 1 rfl) (by simp [Value.oneCell']) (by unfold maxLen; omega) (by omega) (by simp; omega) ?_; intro v1 w1 hown1 hgr1 hat1 hnil1; rw [← HNX.out] at hown1; have hb1 := (HBR.out.alloc hbz _).grown hgr1 (by simp; omega) (fun k hk => (HOWN.out.lt k hk).1); have HOWN1 := Lib.hid hown1; have HB1 := Lib.hid hb1; clear hown1 hgr1 hat1 hnil1 hb1)
      go_roundw
      case rel => exact ⟨j + 1, by omega, by go_num, HOWN1.out, HB1.out⟩
      case measure => simp [intOf]; omega
    · obtain rfl : j = k := by omega
      rw [List.take_of_length_le (by rw [HK.out]; exact Nat.le_refl _)] at hown
      have hge : ¬ ((j : Int) < (j : Int)) := by omega
      have HOWN := Lib.hid hown; clear hown
      go_wp2_with fail
      go_ret
      exact ⟨_, rfl, HOWN.out, hbr⟩

end Go.Proofs.YtbcnbehneodlgaaGreatDoor

namespace Go.Proofs.YtbcnbehneodlgaaGreatDoor
set_option maxRecDepth 4000
open Go.RowKit

theorem make_bytes (n : Nat) (hn : n ≤ 1000) (W : World) : (Instr.makeSlice 42 (.int .i64 (n : Int)) (.int .i64 (n : Int))).run Tryz.prog W = .ok (.slice (some ⟨W.heap.size, 0, none⟩) n n) (W.alloc (.cells (u8s (List.replicate n 0)).toArray 5)) := by
  obtain ⟨i, hi, hz, hs, hb⟩ := info_parts info_byte
  have h := run_make (P := Tryz.prog) W 42 5 i (.int .u8 0) Tryz.underlying42 hi hz .i64 .i64 (n : Int) (n : Int) (by omega) (by omega) (by rw [hb]; omega) (by omega)
  have e0 : u8s (List.replicate n 0) = List.replicate n (Value.int .u8 0) := by simp [u8s]
  have e1 : madeCells (Value.int .u8 0).cells ((n : Int).toNat * i.size) = (u8s (List.replicate n 0)).toArray := by
    rw [hs, Int.toNat_natCast, Nat.mul_one, e0, ← toList_madeCells_one (.int .u8 0) n]
    rfl
  rw [e1, Int.toNat_natCast] at h
  exact h

/-- '[]byte(..)' of a constant: its row bears the run-time's mark. -/
theorem cv_mark (w : World) (C : Array Value) (n c : Nat) : (convert 42 42 (.slice (some ⟨w.heap.size, 0, none⟩) n c)).run Tryz.prog (w.alloc (.cells C 5)) = .ok (.slice (some ⟨w.heap.size, 0, none⟩) n c) (w.alloc (.cells C 5 (C.size, C.size + 1))) := by
  have hsh : (w.alloc (.cells C 5)).shape? w.heap.size = some (5, C.size) := by
    have : (w.alloc (.cells C 5)).heap[w.heap.size]? = some (.cells C 5) := heap_alloc_new w _
    unfold World.shape?
    rw [this]
  have hfr : (w.alloc (.cells C 5)).freeze ⟨w.heap.size, C.size, none⟩ 1 = w.alloc (.cells C 5 (C.size, C.size + 1)) := by
    have hm : ∀ (a : Array Obj) (x : Obj) (f : Obj → Obj), (a.push x).modify a.size f = a.push (f x) := by
      intro a x f
      apply Array.ext
      · simp
      · intro i h1 h2
        simp only [Array.getElem_modify, Array.getElem_push]
        by_cases h : a.size = i
        · subst h
          simp
        · have hi : i < a.size := by simp at h1; omega
          simp [h, hi]
    unfold World.freeze
    rw [if_neg (by decide)]
    show ({ w.alloc (.cells C 5) with heap := (w.heap.push (.cells C 5)).modify w.heap.size _ } : World) = _
    rw [hm]
    rfl
  simp [convert, run_underlying Tryz.underlying42, run_underlying Tryz.underlying5, markStringish, hsh, hfr]
theorem sees_mark (w : World) (T : TypeId) (fz : Nat × Nat) (cs : List Value) (n : Nat) (h : cs.length = n * 1) : Sees (w.alloc (.cells cs.toArray T fz)) 1 (some ⟨w.heap.size, 0, none⟩) n cs :=
  ⟨h, fun _ => ⟨_, 0, rfl, fun j u hu => by rw [Nat.zero_add, cell_of_row _ _ _ _ _ _ (heap_alloc_new w (.cells cs.toArray T fz)), List.getElem?_toArray]; exact hu⟩⟩
end Go.Proofs.YtbcnbehneodlgaaGreatDoor
