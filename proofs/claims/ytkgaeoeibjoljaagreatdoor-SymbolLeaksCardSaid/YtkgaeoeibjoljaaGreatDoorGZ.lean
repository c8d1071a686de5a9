/-
  What follows as numbers; whether one follows; rows of numbers compared.
  Close and Follows; the document's Close.
-/
import Derived.Test.YtkgaeoeibjoljaaGreatDoorGY
import Derived.Test.YtkgaeoeibjoljaaGreatDoorTerm7
namespace Go.Proofs.YtkgaeoeibjoljaaGreatDoor
section
set_option maxRecDepth 4000
open Go.RowKit
def numsTo (k : List Bool) (j : Nat) : List Int := ((List.range j).filter (fun n => at_ k n)).map (fun n : Nat => (n : Int))
def nums (k : List Bool) : List Int := numsTo k k.length
theorem numsTo_one {k : List Bool} {j : Nat} (h : at_ k j = true) : numsTo k (j + 1) = numsTo k j ++ [(j : Int)] := by
 unfold numsTo
 rw [List.range_succ, List.filter_append, List.map_append, List.filter_cons, if_pos h]
 rfl
theorem numsTo_no {k : List Bool} {j : Nat} (h : at_ k j = false) : numsTo k (j + 1) = numsTo k j := by
 unfold numsTo
 rw [List.range_succ, List.filter_append, List.map_append, List.filter_cons, if_neg (by rw [h]; simp)]
 simp
theorem length_numsTo (k : List Bool) (j : Nat) : (numsTo k j).length <= j := by
 unfold numsTo
 rw [List.length_map]
 exact Nat.le_trans (List.length_filter_le _ _) (by simp)
theorem mem_nums {k : List Bool} {x : Int} : x ∈ nums k ↔ 0 <= x /\ at_ k x.toNat = true := by
 unfold nums numsTo
 simp only [List.mem_map, List.mem_filter, List.mem_range]
 constructor
 ·rintro ⟨n, ⟨h1, h2⟩, rfl⟩
  exact ⟨by omega, by simpa using h2⟩
 ·rintro ⟨h1, h2⟩
  exact ⟨x.toNat, ⟨at_lt h2, h2⟩, by omega⟩
theorem sees_bool {w : World} {A : Option Addr} {n : Nat} {k : List Bool} (h : Sees w 1 A n (bls k)) {j : Nat} (hj : j < n) : ∃ g o, A = some ⟨g, o, none⟩ /\ w.cell? ⟨g, o + j, none⟩ = some (.bool (at_ k j)) := by
 obtain ⟨g, o, e, hc⟩ := h.2 (by omega)
 have hl := h.1
 simp at hl
 exact ⟨g, o, e, hc j _ (bls_get (by omega))⟩
theorem sees_int {w : World} {A : Option Addr} {n : Nat} {z : List Int} (h : Sees w 1 A n (i64s z)) {j : Nat} (hj : j < n) : ∃ g o, A = some ⟨g, o, none⟩ /\ w.cell? ⟨g, o + j, none⟩ = some (.int .i64 (z.getD j 0)) := by
 obtain ⟨g, o, e, hc⟩ := h.2 (by omega)
 have hl := h.1
 simp at hl
 exact ⟨g, o, e, hc j _ (by simp [i64s, List.getD_eq_getElem?_getD, List.getElem?_eq_getElem (show j < z.length by omega)])⟩
def Nums (w : World) (base : Nat) (v : Value) (z : List Int) : Prop := w.ownsRow base 3 1 v z.length (i64s z)
theorem Nums.sees {w : World} {base c : Nat} {A : Option Addr} {z : List Int} (h : Nums w base (.slice A z.length c) z) : Sees w 1 A z.length (i64s z) := Sees.of_own h
theorem index_any (A : Option Addr) (z : List Int) (c : Nat) (x : Int) (w : World) (h : Sees w 1 A z.length (i64s z)) (hl : z.length <= 100000) :
  Calls Tryz.prog 141 #[.slice A z.length c, .int .i64 x] w fun e w' => ∃ r : Int, e = .returned (.int .i64 r) /\ (0 <= r ↔ x ∈ z) /\ w = w' := by
 have HS := Lh h; clear h
 go_enter Tryz.func141, Tryz.ntmps141
 go_wp2_with fail
 go_loopw [5, 8] (fun _ i wr => ∃ j : Nat, i = .int .i64 j /\ j <= z.length /\ Hid (∀ i, i < j -> z[i]? ≠ some x) /\ wr = w) (fun _ i _ => z.length - (intOf i).toNat)
 case atStart => exact ⟨0, rfl, Nat.zero_le _, Lh (fun i hi => by omega), rfl⟩
 case round =>
  obtain ⟨j, rfl, hj, hr, rfl⟩ := hrel
  by_cases hlt : j < z.length
  ·obtain ⟨g, o, rfl, q0⟩ := sees_int HS.out hlt
   have hget : z[j]? = some (z.getD j 0) := by simp [List.getD_eq_getElem?_getD, List.getElem?_eq_getElem hlt]
   generalize z.getD j 0 = y at *
   by_cases hy : x = y
   ·subst hy
    have HM := Lh (List.mem_of_getElem? hget); clear hget
    go_wp2_with fail
    go_ret
    exact ⟨_, rfl, ⟨fun _ => HM.out, fun _ => by omega⟩, rfl⟩
   ·have hyb : ((x : Int) == y) = false := by simpa using hy
    have HR : Hid (∀ i, i < j + 1 -> z[i]? ≠ some x) := Lh fun i hi => by
     rcases Nat.lt_or_ge i j with h | h
     ·exact hr.out i h
     ·obtain rfl : i = j := by omega
      rw [hget]
      intro e
      injection e with e
      exact hy e.symm
    clear hget hr hy
    go_wp2_with fail
    go_roundw
    case rel => exact ⟨j + 1, by go_num, by omega, HR, by trivial⟩
    case measure => simp [intOf]; omega
  ·obtain rfl : j = z.length := by omega
   go_wp2_with fail
   go_ret
   refine ⟨_, rfl, ⟨fun h => by simp at h, fun h => ?_⟩, rfl⟩
   obtain ⟨i, hi, e⟩ := List.mem_iff_getElem.1 h
   exact absurd (by rw [List.getElem?_eq_getElem hi, e]) (hr.out i hi)
theorem contains_any (A : Option Addr) (z : List Int) (c : Nat) (x : Int) (w : World) (h : Sees w 1 A z.length (i64s z)) (hl : z.length <= 100000) :
  Calls Tryz.prog 100 #[.slice A z.length c, .int .i64 x] w fun e w' => e = .returned (.bool (decide (x ∈ z))) /\ w = w' := by
 have HI := Lh (index_any A z c x w h hl); clear h
 go_enter Tryz.func100, Tryz.ntmps100
 go_wp2_with (go_at_call 141; refine HI.out.mono ?_; rintro e' w' ⟨r, rfl, hr, rfl⟩; have HR := Lh hr; clear hr)
 go_ret
 exact ⟨ret_bool (by rw [decide_eq_decide]; exact HR.out), rfl⟩
end
section
set_option maxRecDepth 4000
open Go.RowKit
structure CloAt (w : World) (pb p : Nat) (l : List Tm) (A : Option Addr) (gv : List Int) : Prop where
 pool : PoolIs w pb p l
 ok : Pool l
 len : l.length <= 1000
 glen : gv.length <= 10000
 row : Sees w 1 A gv.length (i64s gv)
 wf : ∀ x ∈ gv, (Lit.int .i64 x).wf = true
theorem close_any (p : Nat) (l : List Tm) (A : Option Addr) (gv : List Int) (c pb : Nat) (w : World) (h : CloAt w pb p l A gv) :
  Calls Tryz.prog 101 #[.pointer (some ⟨p, 0, none⟩), .slice A gv.length c] w fun e w' => ∃ v, e = .returned v /\ Nums w' w.heap.size v (nums (clo l gv)) /\ Below w.heap.size w w' := by
 have HR := Lh (run_any p l A gv c pb w h.pool h.ok h.len h.glen h.row h.wf)
 have hcl := length_clo l gv
 have hll := h.len
 clear h
 go_enter Tryz.func101, Tryz.ntmps101
 go_wp2_with fail
 refine HR.out.mono ?_
 rintro e w1 ⟨b, kb, s, rfl, hr, hk⟩
 have c1 := (show w1.cell? ⟨b, 1, none⟩ = some (.slice (some ⟨kb, 0, none⟩) s.kn.length l.length) by obtain ⟨_, _, h⟩ := hr.srch; exact h.cell1)
 have HM : Hid (∀ W, Below w1.heap.size w1 W -> ∀ j, j < l.length -> W.cell? ⟨kb, j, none⟩ = some (.bool (at_ (clo l gv) j))) := Lh fun W hW j hj => by
  obtain ⟨_, _, h⟩ := hr.srch.below hW
  rw [<- hk]
  exact h.mark (by rw [hk, hcl]; exact hj)
 rw [hk, hcl] at c1
 have HB := Lh hr.bel
 clear hr hk
 go_wp2_with fail
 go_loopw [5, 6, 7, 17] (fun v _ _ i wr => ∃ j : Nat, i = .int .i64 j /\ j <= l.length /\ Hid (Nums wr w1.heap.size v (numsTo (clo l gv) j) /\ Below w1.heap.size w1 wr)) (fun _ _ _ i _ => l.length - (intOf i).toNat)
 case atStart => exact ⟨0, rfl, Nat.zero_le _, Lh ⟨World.ownsRow_nil _ _ _ _, Below.refl _ _⟩⟩
 case round =>
  obtain ⟨j, rfl, hj, hr⟩ := hrel
  by_cases hlt : j < l.length
  ·have q0 := HM.out wr hr.out.2 j hlt
   obtain ⟨K, hK⟩ : ∃ K, at_ (clo l gv) j = K := ⟨_, rfl⟩
   rw [hK] at q0
   cases K with
   | false =>
    have HN : Hid (Nums wr w1.heap.size u5 (numsTo (clo l gv) (j + 1)) /\ Below w1.heap.size w1 wr) := Lh (by rw [numsTo_no hK]; exact hr.out)
    clear hr hK
    go_wp2_with fail
    go_roundw
    case rel => exact ⟨j + 1, by go_num, by omega, HN⟩
    case measure => simp [intOf]; omega
   | true =>
    have hln := length_numsTo (clo l gv) j
    have HO := Lh (own_below hr.out.1 ((Below.refl _ _).alloc (Nat.le_refl _) (.cells #[.int .i64 (j : Int)] 3)))
    have HB2 := Lh (Ai (hr.out.2.alloc hr.out.2.size (.cells #[.int .i64 (j : Int)] 3)) (Ai hr.out.2.size hr.out.1))
    have HK := Lh hK
    clear hr hK
    go_wp2_with (at_builtin; refine wpList_app rfl (.tmp 23) (.tmp 25) 28 rfl w1.heap.size 3 _ 1 8 Tryz.underlying28 info_i64 rfl (by decide) u5 (numsTo (clo l gv) j).length (i64s (numsTo (clo l gv) j)) rfl HO.out _ 1 _ [.int .i64 (j : Int)] rfl (sees_new wr 3 [.int .i64 (j : Int)] 1 1 rfl) (by simp [Value.oneCell']) (by unfold maxLen; omega) (by omega) (by have := HB2.out.2.1; simp; omega) ?_; intro v' w2 hown1 hgr1 hat1 hnil1; have HF := Lh (Ai hown1 hgr1); clear hown1 hgr1 hat1 hnil1)
    have HN : Hid (Nums w2 w1.heap.size v' (numsTo (clo l gv) (j + 1)) /\ Below w1.heap.size w1 w2) := Lh ⟨by
     have := HF.out.1
     unfold Nums
     rw [numsTo_one HK.out]
     simpa [i64s_append, i64s] using this, HB2.out.1.grown HF.out.2 HB2.out.1.size (fun g hg => (HB2.out.2.2.lt g hg).1)⟩
    go_roundw
    case rel => exact ⟨j + 1, by go_num, by omega, HN⟩
    case measure => simp [intOf]; omega
  ·obtain rfl : j = l.length := by omega
   go_wp2_with fail
   go_ret
   refine ⟨_, rfl, ?_, HB.out.trans (hr.out.2.mono HB.out.size)⟩
   have := hr.out.1
   unfold nums
   rw [hcl]
   exact own_base this HB.out.size
theorem follows_any (p : Nat) (l : List Tm) (x : Int) (A : Option Addr) (gv : List Int) (c pb : Nat) (w : World) (h : CloAt w pb p l A gv) :
  Calls Tryz.prog 59 #[.pointer (some ⟨p, 0, none⟩), .int .i64 x, .slice A gv.length c] w fun e w' => e = .returned (.bool (decide (x ∈ nums (clo l gv)))) /\ Below w.heap.size w w' := by
 have HC := Lh (close_any p l A gv c pb w h)
 have hln : (nums (clo l gv)).length <= 1000 := by
  have := length_numsTo (clo l gv) (clo l gv).length
  have h2 := h.len
  rw [length_clo] at this
  unfold nums
  rw [length_clo]
  omega
 clear h
 go_enter Tryz.func59, Tryz.ntmps59
 go_wp2_with fail
 refine HC.out.mono ?_
 rintro e w1 ⟨v, rfl, hN, hb⟩
 obtain ⟨vA, vc, rfl⟩ := own_shape hN
 have HI := Lh (contains_any vA _ vc x w1 hN.sees (by omega)); clear hN
 go_wp2_with fail
 refine HI.out.mono ?_
 rintro e w2 ⟨rfl, rfl⟩
 go_wp2_with fail
 go_ret
 exact ⟨rfl, hb⟩
end
end Go.Proofs.YtkgaeoeibjoljaaGreatDoor
