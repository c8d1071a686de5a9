/-
  Close and Follows; the document's Close.
-/
import Derived.Test.YtphhlfochapecaaDoorClo5
namespace Go.Proofs.YtphhlfochapecaaDoor
set_option maxRecDepth 4000
open Go.RowKit

/-- What Close meets: the pool and what is given. -/
structure CloAt (w : World) (pb p : Nat) (l : List Tm) (A : Option Addr) (gv : List Int) : Prop where
  pool : PoolIs w pb p l
  ok : Pool l
  len : l.length ≤ 1000
  glen : gv.length ≤ 10000
  row : Sees w 1 A gv.length (i64s gv)
  wf : ∀ x ∈ gv, (Lit.int .i64 x).wf = true
theorem CloAt.below {w w' : World} {pb p : Nat} {l : List Tm} {A : Option Addr} {gv : List Int} (h : CloAt w pb p l A gv) (hb : Below w.heap.size w w') : CloAt w' pb p l A gv :=
  ⟨h.pool.below hb, h.ok, h.len, h.glen, h.row.below hb, h.wf⟩

theorem close_any (p : Nat) (l : List Tm) (A : Option Addr) (gv : List Int) (c pb : Nat) (w : World) (h : CloAt w pb p l A gv) :
    Calls Tryd.prog 12 #[.pointer (some ⟨p, 0, none⟩), .slice A gv.length c] w fun e w' => ∃ v, e = .returned v ∧ Nums w' w.heap.size v (nums (clo l gv)) ∧ Below w.heap.size w w' := by
  have HR := Lib.hid (run_any p l A gv c pb w h.pool h.ok h.len h.glen h.row h.wf)
  have hcl := length_clo l gv
  have hll := h.len
  clear h
  go_enter Tryd.func12, Tryd.ntmps12
  go_wp2_with fail
  refine HR.out.mono ?_
  rintro e w1 ⟨b, kb, s, rfl, hr, hk⟩
  have c1 := (show w1.cell? ⟨b, 1, none⟩ = some (.slice (some ⟨kb, 0, none⟩) s.kn.length l.length) by obtain ⟨_, _, h⟩ := hr.srch; exact h.cell1)
  have HM : Hid (∀ W, Below w1.heap.size w1 W → ∀ j, j < l.length → W.cell? ⟨kb, j, none⟩ = some (.bool (at_ (clo l gv) j))) := Lib.hid fun W hW j hj => by
    obtain ⟨_, _, h⟩ := hr.srch.below hW
    rw [← hk]
    exact h.mark (by rw [hk, hcl]; exact hj)
  rw [hk, hcl] at c1
  have HB := Lib.hid hr.bel
  clear hr hk
  go_wp2_with fail
  go_loopw [5, 6, 7, 17] (fun v _ _ i wr => ∃ j : Nat, i = .int .i64 j ∧ j ≤ l.length ∧ Hid (Nums wr w1.heap.size v (numsTo (clo l gv) j) ∧ Below w1.heap.size w1 wr)) (fun _ _ _ i _ => l.length - (intOf i).toNat)
  case atStart => exact ⟨0, rfl, Nat.zero_le _, Lib.hid ⟨World.ownsRow_nil _ _ _ _, Below.refl _ _⟩⟩
  case round =>
    obtain ⟨j, rfl, hj, hr⟩ := hrel
    by_cases hlt : j < l.length
    · have q0 := HM.out wr hr.out.2 j hlt
      obtain ⟨K, hK⟩ : ∃ K, at_ (clo l gv) j = K := ⟨_, rfl⟩
      rw [hK] at q0
      cases K with
      | false =>
        have HN : Hid (Nums wr w1.heap.size u5 (numsTo (clo l gv) (j + 1)) ∧ Below w1.heap.size w1 wr) := Lib.hid (by rw [numsTo_no hK]; exact hr.out)
        clear hr hK
        go_wp2_with fail
        go_roundw
        case rel => exact ⟨j + 1, by go_num, by omega, HN⟩
        case measure => simp [intOf]; omega
      | true =>
        have hln := length_numsTo (clo l gv) j
        have HO := Lib.hid (own_below hr.out.1 ((Below.refl _ _).alloc (Nat.le_refl _) (.cells #[.int .i64 (j : Int)] 3)))
        have HB2 := Lib.hid (And.intro (hr.out.2.alloc hr.out.2.size (.cells #[.int .i64 (j : Int)] 3)) (And.intro hr.out.2.size hr.out.1))
        have HK := Lib.hid hK
        clear hr hK
        go_wp2_with (at_builtin; refine wpList_app rfl (.tmp 23) (.tmp 25) 23 rfl w1.heap.size 3 _ 1 8 Tryd.underlying23 info_i64 rfl (by decide) u5 (numsTo (clo l gv) j).length (i64s (numsTo (clo l gv) j)) rfl HO.out _ 1 _ [.int .i64 (j : Int)] rfl (sees_new wr 3 [.int .i64 (j : Int)] 1 1 rfl) (by simp [Value.oneCell']) (by unfold maxLen; omega) (by omega) (by have := HB2.out.2.1; simp; omega) ?_; intro v' w2 hown1 hgr1 hat1 hnil1; have HF := Lib.hid (And.intro hown1 hgr1); clear hown1 hgr1 hat1 hnil1)
        have HN : Hid (Nums w2 w1.heap.size v' (numsTo (clo l gv) (j + 1)) ∧ Below w1.heap.size w1 w2) := Lib.hid ⟨by
          have := HF.out.1
          unfold Nums
          rw [numsTo_one HK.out]
          simpa [i64s_append, i64s] using this, HB2.out.1.grown HF.out.2 HB2.out.1.size (fun g hg => (HB2.out.2.2.lt g hg).1)⟩
        go_roundw
        case rel => exact ⟨j + 1, by go_num, by omega, HN⟩
        case measure => simp [intOf]; omega
    · obtain rfl : j = l.length := by omega
      go_wp2_with fail
      go_ret
      refine ⟨_, rfl, ?_, HB.out.trans (hr.out.2.mono HB.out.size)⟩
      have := hr.out.1
      unfold nums
      rw [hcl]
      exact own_base this HB.out.size

theorem close_nil (v : Value) (w : World) : Calls Tryd.prog 12 #[.pointer none, v] w fun e w' => e = .returned (.slice none 0 0) ∧ w = w' := by
  go_enter Tryd.func12, Tryd.ntmps12
  go_wp2_with fail
  go_ret
  exact ⟨rfl, rfl⟩
theorem follows_any (p : Nat) (l : List Tm) (x : Int) (A : Option Addr) (gv : List Int) (c pb : Nat) (w : World) (h : CloAt w pb p l A gv) :
    Calls Tryd.prog 13 #[.pointer (some ⟨p, 0, none⟩), .int .i64 x, .slice A gv.length c] w fun e w' => e = .returned (.bool (decide (x ∈ nums (clo l gv)))) ∧ Below w.heap.size w w' := by
  have HC := Lib.hid (close_any p l A gv c pb w h)
  have hln : (nums (clo l gv)).length ≤ 1000 := by
    have := length_numsTo (clo l gv) (clo l gv).length
    have h2 := h.len
    rw [length_clo] at this
    unfold nums
    rw [length_clo]
    omega
  clear h
  go_enter Tryd.func13, Tryd.ntmps13
  go_wp2_with fail
  refine HC.out.mono ?_
  rintro e w1 ⟨v, rfl, hN, hb⟩
  obtain ⟨vA, vc, rfl⟩ := own_shape hN
  have HI := Lib.hid (contains_any vA _ vc x w1 hN.sees (by omega)); clear hN
  go_wp2_with fail
  refine HI.out.mono ?_
  rintro e w2 ⟨rfl, rfl⟩
  go_wp2_with fail
  go_ret
  exact ⟨rfl, hb⟩
theorem follows_nil (x : Int) (v : Value) (w : World) : Calls Tryd.prog 13 #[.pointer none, .int .i64 x, v] w fun e w' => e = .returned (.bool false) ∧ w = w' := by
  have HC := Lib.hid (close_nil v w)
  have HI := Lib.hid (contains_any none [] 0 x w (Sees.none_ _ _ _) (by simp))
  go_enter Tryd.func13, Tryd.ntmps13
  go_wp2_with fail
  refine HC.out.mono ?_
  rintro e w1 ⟨rfl, rfl⟩
  go_wp2_with fail
  refine HI.out.mono ?_
  rintro e w2 ⟨rfl, rfl⟩
  go_wp2_with fail
  go_ret
  exact ⟨by simp, by trivial⟩
end Go.Proofs.YtphhlfochapecaaDoor
