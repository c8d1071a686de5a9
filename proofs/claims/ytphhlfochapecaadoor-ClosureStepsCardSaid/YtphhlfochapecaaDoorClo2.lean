/-
  A known term taken apart.
-/
import Derived.Test.YtphhlfochapecaaDoorClo1
namespace Go.Proofs.YtphhlfochapecaaDoor
set_option maxRecDepth 4000
open Go.RowKit

/-- What the walks of apart and together meet behind Get: the search, its blocks older than the term's own. -/
structure GotAt (w W : World) (base b p : Nat) (s : Sr) (kb kc : Nat) (t : Tm) (B : Nat) (G : Nat → Prop) : Prop where
  srch : SearchIn W base b p s kb kc G
  box : Blk W B 45 #[.int .i64 t.k, .int .i64 t.a, .int .i64 t.x, .int .i64 t.y]
  far : ¬ G B
  bel : Below base w W
  in_ : ∀ k, G k → base ≤ k
section
variable {w W W' : World} {base b p : Nat} {s : Sr} {kb kc : Nat} {t : Tm} {B : Nat} {G : Nat → Prop}
theorem GotAt.start (h : SearchIs w base b p s kb kc) {w1 : World} (hb : Below w.heap.size w w1) : GotAt w (w1.alloc (.cells #[.int .i64 t.k, .int .i64 t.a, .int .i64 t.x, .int .i64 t.y] 45)) base b p s kb kc t w1.heap.size (fun k => base ≤ k ∧ k < w.heap.size) := by
  have hs : base ≤ w.heap.size := by obtain ⟨_, _, h⟩ := h; exact h.size
  have hA : Below w.heap.size w (w1.alloc (.cells #[.int .i64 t.k, .int .i64 t.a, .int .i64 t.x, .int .i64 t.y] 45)) := hb.alloc hb.size _
  exact ⟨h.in_.below hA, Blk.new _ _ _, fun h => by have := hb.size; omega, hA.mono hs, fun k hk => hk.1⟩
theorem GotAt.drew (h : GotAt w W base b p s kb kc t B G) : GotAt w W.drew base b p s kb kc t B G :=
  ⟨h.srch.below (Below.refl _ _).drew, h.box, h.far, h.bel.drew, h.in_⟩
theorem GotAt.learnt (h : GotAt w W base b p s kb kc t B G) {s' : Sr} (h1 : SearchIn W' base b p s' kb kc (fun k => G k ∨ W.heap.size ≤ k)) (h2 : Fr G W W') : GotAt w W' base b p s' kb kc t B (fun k => G k ∨ W.heap.size ≤ k) := by
  have hs : base ≤ W.heap.size := by obtain ⟨_, _, h, _⟩ := h.srch; exact h.size
  refine ⟨h1, h.box.fr h2 h.far, fun hh => ?_, h.bel.trans (h2.below hs h.in_), fun k hk => ?_⟩
  · rcases hh with hh | hh
    · exact h.far hh
    · have := h.box.lt; omega
  · rcases hk with hk | hk
    · exact h.in_ k hk
    · omega
end

theorem apart_any (b p n : Nat) (l : List Tm) (s : Sr) (kb kc : Nat) (base pb : Nat) (w : World) (hS : SearchIs w base b p s kb kc) (hP : PoolIs w pb p l) (hp : Pool l) (hl : s.kn.length = l.length) (hn : n < l.length) (hst : s.st.length + 2 ≤ 10000) (hll : l.length ≤ 10000) :
    Calls Tryd.prog 33 #[.pointer (some ⟨b, 0, none⟩), .int .i64 n] w fun e w' => e = .returned (.tuple #[]) ∧ SearchIs w' base b p (apartS l s n) kb kc ∧ Below base w w' := by
  have hx : l[n]? = some (l[n]'hn) := List.getElem?_eq_getElem hn
  generalize l[n] = t at hx
  have hr := hp.right n t hx
  have HG := Lib.hid (get_ok p n t l pb w hP hx)
  have hst0 := fun w1 hb => GotAt.start (t := t) hS (w1 := w1) hb
  have c0 : w.cell? ⟨b, 0, none⟩ = some (.pointer (some ⟨p, 0, none⟩)) := by obtain ⟨_, _, h⟩ := hS; exact h.cell0
  have HST := Lib.hid hst0; clear hst0 hP
  have hsz : base ≤ w.heap.size := by obtain ⟨_, _, h⟩ := hS; exact h.size
  clear hS
  by_cases k2 : t.k = 2
  · have hxx := okT_x hr (by omega)
    have hyy := okT_y hr (by omega) (by omega)
    have HE := Lib.hid (show apartS l s n = learnS (learnS s t.x.toNat 1 n) t.y.toNat 2 n by unfold apartS; rw [hx]; simp only; rw [if_pos k2])
    obtain ⟨X, hX⟩ : ∃ X : Nat, t.x = X := ⟨t.x.toNat, by omega⟩
    obtain ⟨Y, hY⟩ : ∃ Y : Nat, t.y = Y := ⟨t.y.toNat, by omega⟩
    obtain ⟨k, a, x, y⟩ := t
    unfold tval at HG
    simp only at k2 hX hY hxx hyy HST HE
    subst k2
    subst hX
    subst hY
    simp only [Int.toNat_natCast] at HE
    clear hx hr
    go_enter Tryd.func33, Tryd.ntmps33
    go_wp2_with fail
    refine HG.out.mono ?_
    rintro e w1 ⟨rfl, b1⟩
    have H1 := Lib.hid (HST.out w1 b1)
    clear b1 c0
    have d0 := H1.out.box.cell 0
    have d2 := H1.out.box.cell 2
    simp only [List.getElem?_toArray, List.getElem?_cons_zero, List.getElem?_cons_succ] at d0 d2
    go_wp2_with fail
    refine (learn_in b p X 1 n s kb kc base _ _ H1.out.srch (by omega) (by omega) (by omega)).mono ?_
    rintro e w2 ⟨rfl, h1, h2⟩
    have H2 := Lib.hid (H1.out.learnt h1 h2); clear h1 h2 d0 d2
    have d3 := H2.out.box.cell 3
    simp only [List.getElem?_toArray, List.getElem?_cons_zero, List.getElem?_cons_succ] at d3
    have hlk := length_learnS s X 1 n
    have hgl := (learnS_grow s X 1 n)
    have hls : (learnS s X 1 n).st.length ≤ s.st.length + 1 := by unfold learnS; split <;> simp
    go_wp2_with fail
    refine (learn_in b p Y 2 n _ kb kc base _ _ H2.out.srch (by omega) (by omega) (by omega)).mono ?_
    rintro e w3 ⟨rfl, h1, h2⟩
    have H3 := Lib.hid (H2.out.learnt h1 h2); clear h1 h2 d3
    go_wp2_with fail
    refine bodyPost_end (results_none rfl _ _ _) rfl ?_
    refine ⟨rfl, ?_, H3.out.bel⟩
    rw [HE.out]
    exact H3.out.srch.is
  · have k2b : ((t.k : Int) == 2) = false := by simpa using k2
    by_cases k4 : t.k = 4
    · have hxx := okT_x hr (by omega)
      have hyy := okT_y hr (by omega) (by omega)
      obtain ⟨X, hX⟩ : ∃ X : Nat, t.x = X := ⟨t.x.toNat, by omega⟩
      obtain ⟨Y, hY⟩ : ∃ Y : Nat, t.y = Y := ⟨t.y.toNat, by omega⟩
      have hap : apartS l s n = if at_ s.kn X = true then learnS s Y 3 n else s := by
        unfold apartS; rw [hx]; simp only; rw [if_neg k2]
        simp [k4, hX, hY]
      obtain ⟨K, hK⟩ : ∃ K, at_ s.kn X = K := ⟨_, rfl⟩
      rw [hK] at hap
      have HE := Lib.hid hap; clear hap
      obtain ⟨k, a, x, y⟩ := t
      unfold tval at HG
      simp only at k2 k4 k2b hX hY hxx hyy HST
      subst k4
      subst hX
      subst hY
      clear hx hr k2 k2b
      go_enter Tryd.func33, Tryd.ntmps33
      go_wp2_with fail
      refine HG.out.mono ?_
      rintro e w1 ⟨rfl, b1⟩
      have H1 := Lib.hid (HST.out w1 b1)
      clear b1 c0
      have d0 := H1.out.box.cell 0
      simp only [List.getElem?_toArray, List.getElem?_cons_zero, List.getElem?_cons_succ] at d0
      go_wp2_with fail
      obtain ⟨sA, sc, hpa, _⟩ := H1.out.drew.srch
      have e1 := hpa.cell1
      have e2 := hpa.mark (n := X) (by omega)
      rw [hK] at e2
      have e3 := H1.out.drew.box.cell 0
      have e4 := H1.out.drew.box.cell 2
      simp only [List.getElem?_toArray, List.getElem?_cons_zero, List.getElem?_cons_succ] at e3 e4
      have HS := Lib.hid (And.intro e1 (And.intro e2 (And.intro e3 e4)))
      clear e1 e2 e3 e4 hpa hK
      have gY : Y < s.kn.length := by omega
      have hkl : s.kn.length ≤ 10000 := by omega
      have g1 : X < s.kn.length := by omega
      have g1i : (X : Int) < (s.kn.length : Int) := by omega
      clear hl
      refine region_fast [(0, true), (1, true), (2, true), (3, true), (4, true), (5, true), (6, true), (7, true), (8, true), (9, true), (10, true), (11, true), (12, true), (13, true)] [8, 9] 768 [(1073741824, 16, 0, 0), (2147483648, 1073741824, 1, 1), (4294967296, 2147483648, 2, 3), (8589934592, 4294967296, 4, 7), (17179869184, 8589934593, 8, 15), (34359738368, 25769803776, 24, 31), (68719476736, 42949672960, 40, 63), (137438953472, 77309411328, 72, 127), (274877906944, 8589934608, 8, 15), (549755813888, 283467841536, 264, 271), (1099511627776, 695784701952, 648, 1023), (2199023255552, 1108101562368, 1032, 2047), (4398046511104, 2207613190144, 2056, 4095), (536870912, 4398046511104, 4104, 8191)] (fun W => W.cell? ⟨b, 1, none⟩ = some (.slice (some ⟨kb, 0, none⟩) s.kn.length kc) ∧ W.cell? ⟨kb, X, none⟩ = some (.bool K) ∧ W.cell? ⟨w1.heap.size, 0, none⟩ = some (.int .i64 4) ∧ W.cell? ⟨w1.heap.size, 2, none⟩ = some (.int .i64 (X : Int))) (by kernel_rfl) (by kernel_rfl) (by kernel_rfl) rfl (by kernel_rfl) (by kernel_rfl) HS.out (fun hS => ?_)
      repeat (first
        | (refine plan_read (v := ?_) rfl (fun _ _ _ h => h) rfl hS ?_ ?_; rotate_left 1; (focus (intro w' hS'; obtain ⟨s1, s2, s3, s4⟩ := hS'; go_simp; try rfl)); (simp only [Act.put, List.setIfInBounds_toArray]; dsimp only [List.set_cons_zero, List.set_cons_succ]))
        | (refine plan_skip rfl (fun _ _ _ h => h) rfl hS ?_; (simp only [Act.put, List.setIfInBounds_toArray]; dsimp only [List.set_cons_zero, List.set_cons_succ])))
      refine plan_nil ?_
      have H2 := Lib.hid H1.out.drew
      have d3 := H2.out.box.cell 3
      simp only [List.getElem?_toArray, List.getElem?_cons_zero, List.getElem?_cons_succ] at d3
      clear hS HS
      cases K with
      | false =>
        rw [if_neg (by simp)] at HE
        go_wp2_with fail
        refine bodyPost_end (results_none rfl _ _ _) rfl ?_
        refine ⟨rfl, ?_, H2.out.bel⟩
        rw [HE.out]
        exact H2.out.srch.is
      | true =>
        rw [if_pos rfl] at HE
        go_wp2_with fail
        refine (learn_in b p Y 3 n s kb kc base _ _ H2.out.srch (by omega) (by omega) (by omega)).mono ?_
        rintro e w3 ⟨rfl, h1, h2⟩
        have H3 := Lib.hid (H2.out.learnt h1 h2); clear h1 h2 d3
        go_wp2_with fail
        refine bodyPost_end (results_none rfl _ _ _) rfl ?_
        refine ⟨rfl, ?_, H3.out.bel⟩
        rw [HE.out]
        exact H3.out.srch.is
    · have k4b : ((t.k : Int) == 4) = false := by simpa using k4
      have HE := Lib.hid (show apartS l s n = s by unfold apartS; rw [hx]; simp only; rw [if_neg k2, if_neg (by simp [k4])])
      obtain ⟨k, a, x, y⟩ := t
      unfold tval at HG
      simp only at k2 k4 k2b k4b HST
      clear hx hr k2 k4
      go_enter Tryd.func33, Tryd.ntmps33
      go_wp2_with fail
      refine HG.out.mono ?_
      rintro e w1 ⟨rfl, b1⟩
      have H1 := Lib.hid (HST.out w1 b1)
      clear b1 c0
      have d0 := H1.out.box.cell 0
      simp only [List.getElem?_toArray, List.getElem?_cons_zero, List.getElem?_cons_succ] at d0
      go_wp2_with fail
      have e3 := H1.out.drew.box.cell 0
      simp only [List.getElem?_toArray, List.getElem?_cons_zero, List.getElem?_cons_succ] at e3
      have HS := Lib.hid e3
      clear e3
      refine region_fast [(0, true), (1, true), (2, true), (3, true), (4, true), (5, true), (6, true), (7, true), (8, true), (9, true), (10, true), (11, true), (12, true), (13, true)] [8, 9] 768 [(1073741824, 16, 0, 0), (2147483648, 1073741824, 1, 1), (4294967296, 2147483648, 2, 3), (8589934592, 4294967296, 4, 7), (17179869184, 8589934593, 8, 15), (34359738368, 25769803776, 24, 31), (68719476736, 42949672960, 40, 63), (137438953472, 77309411328, 72, 127), (274877906944, 8589934608, 8, 15), (549755813888, 283467841536, 264, 271), (1099511627776, 695784701952, 648, 1023), (2199023255552, 1108101562368, 1032, 2047), (4398046511104, 2207613190144, 2056, 4095), (536870912, 4398046511104, 4104, 8191)] (fun W => W.cell? ⟨w1.heap.size, 0, none⟩ = some (.int .i64 k)) (by kernel_rfl) (by kernel_rfl) (by kernel_rfl) rfl (by kernel_rfl) (by kernel_rfl) HS.out (fun hS => ?_)
      repeat (first
        | (refine plan_read (v := ?_) rfl (fun _ _ _ h => h) rfl hS ?_ ?_; rotate_left 1; (focus (intro w' hS'; have s3 := hS'; go_simp; try rfl)); (simp only [Act.put, List.setIfInBounds_toArray]; dsimp only [List.set_cons_zero, List.set_cons_succ]))
        | (refine plan_skip rfl (fun _ _ _ h => h) rfl hS ?_; (simp only [Act.put, List.setIfInBounds_toArray]; dsimp only [List.set_cons_zero, List.set_cons_succ])))
      refine plan_nil ?_
      have H2 := Lib.hid H1.out.drew
      clear hS HS
      go_wp2_with fail
      refine bodyPost_end (results_none rfl _ _ _) rfl ?_
      refine ⟨rfl, ?_, H2.out.bel⟩
      rw [HE.out]
      exact H2.out.srch.is
end Go.Proofs.YtphhlfochapecaaDoor
