/-
  The document's Close.
-/
import Derived.Test.YtphhlfochapecaaDoorClo6
import Derived.Test.YtphhlfochapecaaDoorTermR1
import Derived.Deep.DeepCutAuto
namespace Go.Proofs.YtphhlfochapecaaDoor
set_option maxRecDepth 4000
open Go.RowKit

structure HasAt (W : World) (hb B : Nat) (k : List Bool) (t : Tm) : Prop where
  has : Blk W hb 4 (bls k).toArray
  box : Blk W B 45 #[.int .i64 t.k, .int .i64 t.a, .int .i64 t.x, .int .i64 t.y]
section
variable {W : World} {hb B : Nat} {k : List Bool} {t : Tm}
theorem HasAt.mark (h : HasAt W hb B k t) {n : Nat} (hn : n < k.length) : W.cell? ⟨hb, n, none⟩ = some (.bool (at_ k n)) := by rw [h.has.cell, List.getElem?_toArray, bls_get hn]
theorem HasAt.set (h : HasAt W hb B k t) (n : Nat) : HasAt (W.setCell ⟨hb, n, none⟩ (.bool true)) hb B (k.set n true) t :=
  ⟨by rw [← bls_set]; exact h.has.set_ n _, h.box.far (p := ⟨hb, n, none⟩) (fun e => Blk.same h.has h.box (by decide) e.symm) _⟩
end

def stepD1 (k : List Bool) (t : Tm) (n : Nat) : List Bool := if (t.k = 3 ∧ at_ k t.x.toNat = true) ∨ ((t.k = 2 ∨ t.k = 4) ∧ at_ k t.x.toNat = true ∧ at_ k t.y.toNat = true) then k.set n true else k
def stepD2 (k : List Bool) (t : Tm) (n : Nat) : List Bool := if at_ k n = true ∧ t.k = 2 then (k.set t.x.toNat true).set t.y.toNat true else k
def stepD3 (k : List Bool) (t : Tm) (n : Nat) : List Bool := if at_ k n = true ∧ t.k = 4 ∧ at_ k t.x.toNat = true then k.set t.y.toNat true else k
theorem stepD_eq {l : List Tm} {k : List Bool} {n : Nat} {t : Tm} (h : l[n]? = some t) : stepD l k n = stepD3 (stepD2 (stepD1 k t n) t n) t n := by
  unfold stepD
  rw [h]
  rfl
theorem length_stepD1 (k : List Bool) (t : Tm) (n : Nat) : (stepD1 k t n).length = k.length := by unfold stepD1; split <;> simp
theorem length_stepD2 (k : List Bool) (t : Tm) (n : Nat) : (stepD2 k t n).length = k.length := by unfold stepD2; split <;> simp
theorem length_startD (n : Nat) (gv : List Int) : (startD n gv).length = n := by
  rw [startD, ← (foldl_sub _ (fun k x => ?_) _ _).1, List.length_replicate]
  split
  · exact Sub.set _ _
  · exact Sub.refl _
theorem startD_snoc (n : Nat) (gv : List Int) (x : Int) : startD n (gv ++ [x]) = if 0 ≤ x ∧ x < n then (startD n gv).set x.toNat true else startD n gv := by
  simp [startD]
theorem length_passTo (l : List Tm) (k : List Bool) (m : Nat) : ((List.range m).foldl (stepD l) k).length = k.length := (foldl_sub _ (stepD_sub l) _ _).1.symm
theorem length_timesD (l : List Tm) (r : Nat) (k : List Bool) : (timesD l r k).length = k.length := (timesD_sub l r k).1.symm

/-- What the document's Close meets: its marks in block hb. -/
structure RcAt (w W : World) (hb : Nat) (k : List Bool) : Prop where
  has : Blk W hb 4 (bls k).toArray
  bel : Below w.heap.size w W

set_option maxHeartbeats 1000000 in
theorem rclose_any (v : Value) (l : List Tm) (base : Nat) (A : Option Addr) (gv : List Int) (c : Nat) (w : World) (h : LIs w base v l) (hp : Pool l) (hll : l.length ≤ 1000) (hgl : gv.length ≤ 10000) (hg : Sees w 1 A gv.length (i64s gv)) (hwf : ∀ x ∈ gv, (Lit.int .i64 x).wf = true) :
    Calls Tryd.prog 10 #[v, .slice A gv.length c] w fun e w' => e = .returned (.slice (some ⟨w.heap.size, 0, none⟩) l.length l.length) ∧ RcAt w w' w.heap.size (clo l gv) := by
  obtain ⟨vA, vc, rfl⟩ := own_shape h
  have hmk := make_bools l.length (by omega) w
  have HL := Lib.hid h; have HGV := Lib.hid hg; have HP := Lib.hid hp; have HWF := Lib.hid hwf
  clear h hg hp hwf
  go_enter Tryd.func10, Tryd.ntmps10
  go_wp2_with fail
  go_loopw [6] (fun i wr => ∃ j : Nat, i = .int .i64 j ∧ j ≤ gv.length ∧ Hid (RcAt w wr w.heap.size (startD l.length (gv.take j)))) (fun i _ => gv.length - (intOf i).toNat)
  case atStart => exact ⟨0, rfl, Nat.zero_le _, Lib.hid ⟨by simpa [startD] using Blk.new w 4 (bls (List.replicate l.length false)).toArray, (Below.refl _ _).alloc (Nat.le_refl _) _⟩⟩
  case round =>
    obtain ⟨j, rfl, hj, hr⟩ := hrel
    by_cases hlt : j < gv.length
    · have hget : gv[j]? = some (gv[j]'hlt) := List.getElem?_eq_getElem hlt
      generalize gv[j] = x at hget
      have hgs := HGV.out.below hr.out.bel
      obtain ⟨gg, go, hAe, hgc⟩ := hgs.2 (by omega)
      have q0 : wr.cell? ⟨gg, go + j, none⟩ = some (.int .i64 x) := hgc j _ (by simp [i64s, hget])
      subst hAe
      have hwx := wf_i64 (HWF.out x (List.mem_of_getElem? hget))
      have hnext : startD l.length (gv.take (j + 1)) = if 0 ≤ x ∧ x < l.length then (startD l.length (gv.take j)).set x.toNat true else startD l.length (gv.take j) := by
        rw [List.take_add_one, hget]; exact startD_snoc _ _ _
      have HN := Lib.hid hnext; clear hnext hget hgs hgc
      have hlk := length_startD l.length (gv.take j)
      by_cases h0 : 0 ≤ x
      · by_cases h1 : x < l.length
        · obtain ⟨X, rfl⟩ : ∃ X : Nat, x = X := ⟨x.toNat, by omega⟩
          have m0 : ∃ vv, wr.cell? ⟨w.heap.size, X, none⟩ = some vv := ⟨_, by rw [hr.out.has.cell, List.getElem?_toArray, bls_get (by omega)]⟩
          obtain ⟨vv, m0⟩ := m0
          have z0 := hr.out.has.frozen X
          have HR2 : Hid (RcAt w (wr.setCell ⟨w.heap.size, X, none⟩ (.bool true)) w.heap.size (startD l.length (gv.take (j + 1)))) := Lib.hid ⟨by
            rw [HN.out, if_pos ⟨h0, h1⟩, ← bls_set]
            exact hr.out.has.set_ X _, hr.out.bel.setCell (Nat.le_refl _) _⟩
          clear hlk
          go_wp2_with fail
          go_roundw
          case rel => exact ⟨j + 1, by go_num, by omega, HR2⟩
          case measure => simp [intOf]; omega
        · have HR2 : Hid (RcAt w wr w.heap.size (startD l.length (gv.take (j + 1)))) := Lib.hid (by rw [HN.out, if_neg (by omega)]; exact hr.out)
          go_wp2_with fail
          go_roundw
          case rel => exact ⟨j + 1, by go_num, by omega, HR2⟩
          case measure => simp [intOf]; omega
      · have HR2 : Hid (RcAt w wr w.heap.size (startD l.length (gv.take (j + 1)))) := Lib.hid (by rw [HN.out, if_neg (by omega)]; exact hr.out)
        go_wp2_with fail
        go_roundw
        case rel => exact ⟨j + 1, by go_num, by omega, HR2⟩
        case measure => simp [intOf]; omega
    · obtain rfl : j = gv.length := by omega
      have hr0 : Hid (RcAt w wr w.heap.size (startD l.length gv)) := Lib.hid (by have := hr.out; rwa [List.take_length] at this)
      clear hr
      go_wp2_with fail
      go_loopw [7, 8, 9] (fun i _ _ wr => ∃ r : Nat, i = .int .i64 r ∧ r ≤ l.length ∧ Hid (RcAt w wr w.heap.size (timesD l r (startD l.length gv)))) (fun i _ _ _ => l.length - (intOf i).toNat)
      case atStart => exact ⟨0, rfl, Nat.zero_le _, hr0⟩
      case round =>
        obtain ⟨r, rfl, hrl, hr⟩ := hrel
        by_cases hlt2 : r < l.length
        · go_wp2_with fail
          go_loopw [8, 9] (fun i _ wr => ∃ m : Nat, i = .int .i64 m ∧ m ≤ l.length ∧ Hid (RcAt w wr w.heap.size ((List.range m).foldl (stepD l) (timesD l r (startD l.length gv))))) (fun i _ _ => l.length - (intOf i).toNat)
          case atStart => exact ⟨0, rfl, Nat.zero_le _, hr⟩
          case round =>
            obtain ⟨m, rfl, hml, hr'⟩ := hrel
            by_cases hlt3 : m < l.length
            · have hx : l[m]? = some (l[m]'hlt3) := List.getElem?_eq_getElem hlt3
              generalize l[m] = t at hx
              obtain ⟨tg, rfl, q0, q1, q2, q3⟩ := own_tm (own_below HL.out hr'.out.bel) hx
              have hok := HP.out.right m t hx
              have hlk : ((List.range m).foldl (stepD l) (timesD l r (startD l.length gv))).length = l.length := by rw [length_passTo, length_timesD, length_startD]
              have hnext : (List.range (m + 1)).foldl (stepD l) (timesD l r (startD l.length gv)) = stepD3 (stepD2 (stepD1 ((List.range m).foldl (stepD l) (timesD l r (startD l.length gv))) t m) t m) t m := by
                rw [List.range_succ, List.foldl_append]
                exact stepD_eq hx
              have HN := Lib.hid hnext; clear hnext hx
              generalize (List.range m).foldl (stepD l) (timesD l r (startD l.length gv)) = k0 at *
              have hA : Below wr.heap.size wr (wr.alloc (.cells #[.int .i64 t.k, .int .i64 t.a, .int .i64 t.x, .int .i64 t.y] 45)) := (Below.refl _ _).alloc (Nat.le_refl _) _
              have H0 : Hid (HasAt (wr.alloc (.cells #[.int .i64 t.k, .int .i64 t.a, .int .i64 t.x, .int .i64 t.y] 45)) w.heap.size wr.heap.size k0 t ∧ Below w.heap.size w (wr.alloc (.cells #[.int .i64 t.k, .int .i64 t.a, .int .i64 t.x, .int .i64 t.y] 45))) := Lib.hid ⟨⟨hr'.out.has.alloc _, Blk.new _ _ _⟩, hr'.out.bel.trans (hA.mono hr'.out.bel.size)⟩
              clear hA hr'
              go_upto_region 14 with fail
              generalize wr.alloc (.cells #[.int .i64 t.k, .int .i64 t.a, .int .i64 t.x, .int .i64 t.y] 45) = W0 at *
              obtain ⟨C1, hC1⟩ : ∃ C1 : Bool, C1 = decide ((t.k = 3 ∧ at_ k0 t.x.toNat = true) ∨ ((t.k = 2 ∨ t.k = 4) ∧ at_ k0 t.x.toNat = true ∧ at_ k0 t.y.toNat = true)) := ⟨_, rfl⟩
              have HC1 := Lib.hid hC1; clear hC1
              go_cut [88] (fun s wc => s = .bool C1 ∧ wc = W0)
              case first =>
                have d0 : W0.cell? ⟨wr.heap.size, 0, none⟩ = some (.int .i64 t.k) := H0.out.1.box.cell 0
                have d2 : W0.cell? ⟨wr.heap.size, 2, none⟩ = some (.int .i64 t.x) := H0.out.1.box.cell 2
                have d3 : W0.cell? ⟨wr.heap.size, 3, none⟩ = some (.int .i64 t.y) := H0.out.1.box.cell 3
                have mm := H0.out.1.mark (n := m) (by omega)
                obtain ⟨N, hN⟩ : ∃ N, at_ k0 m = N := ⟨_, rfl⟩
                rw [hN] at mm
                by_cases k3 : t.k = 3
                · skip
                  have hxx := okT_x hok (by omega)
                  obtain ⟨X, hX⟩ : ∃ X : Nat, t.x = X := ⟨t.x.toNat, by omega⟩
                  have m0 := H0.out.1.mark (n := X) (by omega)
                  obtain ⟨K, hK⟩ : ∃ K, at_ k0 X = K := ⟨_, rfl⟩
                  rw [hK] at m0
                  have e1 : C1 = K := by rw [HC1.out]; simp only [hX, hK, hN, Int.toNat_natCast]; simp [k3]
                  rw [k3] at d0
                  rw [hX] at d2 hxx
                  have g1 : X < l.length := by omega
                  clear k3 hX hok hK hN
                  cases K <;> cases N
                  all_goals (subst e1; go_wp2_with fail; go_meet; exact ⟨by first | rfl | trivial, by first | rfl | trivial⟩)
                · have k3b : ((t.k : Int) == 3) = false := by simpa using k3
                  by_cases k2 : t.k = 2
                  · skip
                    have hxx := okT_x hok (by omega)
                    obtain ⟨X, hX⟩ : ∃ X : Nat, t.x = X := ⟨t.x.toNat, by omega⟩
                    have m0 := H0.out.1.mark (n := X) (by omega)
                    obtain ⟨K, hK⟩ : ∃ K, at_ k0 X = K := ⟨_, rfl⟩
                    rw [hK] at m0
                    have hyy := okT_y hok (by omega) (by omega)
                    obtain ⟨Y, hY⟩ : ∃ Y : Nat, t.y = Y := ⟨t.y.toNat, by omega⟩
                    have m1 := H0.out.1.mark (n := Y) (by omega)
                    obtain ⟨M, hM⟩ : ∃ M, at_ k0 Y = M := ⟨_, rfl⟩
                    rw [hM] at m1
                    have e1 : C1 = (K && M) := by rw [HC1.out]; simp only [hX, hK, hN, hY, hM, Int.toNat_natCast]; simp [k2]
                    rw [k2] at d0
                    rw [hX] at d2 hxx
                    rw [hY] at d3 hyy
                    have g1 : X < l.length := by omega
                    have g2 : Y < l.length := by omega
                    clear k2 hX hok hK hN hY hM
                    cases K <;> cases N <;> cases M
                    all_goals (subst e1; go_wp2_with fail; go_meet; exact ⟨by first | rfl | trivial, by first | rfl | trivial⟩)
                  · have k2b : ((t.k : Int) == 2) = false := by simpa using k2
                    by_cases k4 : t.k = 4
                    · skip
                      have hxx := okT_x hok (by omega)
                      obtain ⟨X, hX⟩ : ∃ X : Nat, t.x = X := ⟨t.x.toNat, by omega⟩
                      have m0 := H0.out.1.mark (n := X) (by omega)
                      obtain ⟨K, hK⟩ : ∃ K, at_ k0 X = K := ⟨_, rfl⟩
                      rw [hK] at m0
                      have hyy := okT_y hok (by omega) (by omega)
                      obtain ⟨Y, hY⟩ : ∃ Y : Nat, t.y = Y := ⟨t.y.toNat, by omega⟩
                      have m1 := H0.out.1.mark (n := Y) (by omega)
                      obtain ⟨M, hM⟩ : ∃ M, at_ k0 Y = M := ⟨_, rfl⟩
                      rw [hM] at m1
                      have e1 : C1 = (K && M) := by rw [HC1.out]; simp only [hX, hK, hN, hY, hM, Int.toNat_natCast]; simp [k4]
                      rw [k4] at d0
                      rw [hX] at d2 hxx
                      rw [hY] at d3 hyy
                      have g1 : X < l.length := by omega
                      have g2 : Y < l.length := by omega
                      clear k4 hX hok hK hN hY hM
                      cases K <;> cases N <;> cases M
                      all_goals (subst e1; go_wp2_with fail; go_meet; exact ⟨by first | rfl | trivial, by first | rfl | trivial⟩)
                    · have k4b : ((t.k : Int) == 4) = false := by simpa using k4
                      have e1 : C1 = false := by rw [HC1.out]; simp [k3, k2, k4]
                      subst e1
                      clear hok k3 k2 k4
                      generalize t.k = tk at *
                      clear hN
                      cases N
                      all_goals (go_wp2_with fail; go_meet; exact ⟨by first | rfl | trivial, by first | rfl | trivial⟩)
              case rest =>
                obtain ⟨rfl, hw⟩ := hcut
                obtain rfl := hw.symm
                go_upto_if 88 with fail
                go_cut [] (fun w9 => Hid (HasAt w9 w.heap.size wr.heap.size (stepD1 k0 t m) t ∧ Below w.heap.size w w9))
                case first =>
                  cases C1 with
                  | false =>
                    have hn : ¬ ((t.k = 3 ∧ at_ k0 t.x.toNat = true) ∨ ((t.k = 2 ∨ t.k = 4) ∧ at_ k0 t.x.toNat = true ∧ at_ k0 t.y.toNat = true)) := of_decide_eq_false HC1.out.symm
                    have e1 : stepD1 k0 t m = k0 := if_neg hn
                    have HE := Lib.hid e1; clear e1 hn
                    go_wp2_with fail
                    go_meet
                    exact Lib.hid (by rw [HE.out]; exact H0.out)
                  | true =>
                    have hn : ((t.k = 3 ∧ at_ k0 t.x.toNat = true) ∨ ((t.k = 2 ∨ t.k = 4) ∧ at_ k0 t.x.toNat = true ∧ at_ k0 t.y.toNat = true)) := of_decide_eq_true HC1.out.symm
                    have e1 : stepD1 k0 t m = k0.set m true := if_pos hn
                    have HE := Lib.hid e1; clear e1 hn
                    have mm := H0.out.1.mark (n := m) (by omega)
                    have zz := H0.out.1.has.frozen m
                    go_wp2_with fail
                    go_meet
                    exact Lib.hid (by rw [HE.out]; exact ⟨H0.out.1.set m, H0.out.2.setCell (Nat.le_refl _) _⟩)
                case rest =>
                  have hl1 : (stepD1 k0 t m).length = l.length := by rw [length_stepD1]; exact hlk
                  have HK1 := Lib.hid (show stepD1 k0 t m = stepD1 k0 t m from rfl)
                  generalize stepD1 k0 t m = k1 at *
                  generalize wc = W1 at *
                  have H1 := hcut; clear hcut
                  go_upto_region 16 with fail
                  obtain ⟨C2, hC2⟩ : ∃ C2 : Bool, C2 = decide (at_ k1 m = true ∧ t.k = 2) := ⟨_, rfl⟩
                  have HC2 := Lib.hid hC2; clear hC2
                  go_cut [100] (fun s wc => s = .bool C2 ∧ wc = W1)
                  case first =>
                    have d0 : W1.cell? ⟨wr.heap.size, 0, none⟩ = some (.int .i64 t.k) := H1.out.1.box.cell 0
                    have d2 : W1.cell? ⟨wr.heap.size, 2, none⟩ = some (.int .i64 t.x) := H1.out.1.box.cell 2
                    have d3 : W1.cell? ⟨wr.heap.size, 3, none⟩ = some (.int .i64 t.y) := H1.out.1.box.cell 3
                    have mm := H1.out.1.mark (n := m) (by omega)
                    obtain ⟨N, hN⟩ : ∃ N, at_ k1 m = N := ⟨_, rfl⟩
                    rw [hN] at mm
                    by_cases k2 : t.k = 2
                    · skip
                      have hxx := okT_x hok (by omega)
                      obtain ⟨X, hX⟩ : ∃ X : Nat, t.x = X := ⟨t.x.toNat, by omega⟩
                      have m0 := H1.out.1.mark (n := X) (by omega)
                      obtain ⟨K, hK⟩ : ∃ K, at_ k1 X = K := ⟨_, rfl⟩
                      rw [hK] at m0
                      have hyy := okT_y hok (by omega) (by omega)
                      obtain ⟨Y, hY⟩ : ∃ Y : Nat, t.y = Y := ⟨t.y.toNat, by omega⟩
                      have m1 := H1.out.1.mark (n := Y) (by omega)
                      obtain ⟨M, hM⟩ : ∃ M, at_ k1 Y = M := ⟨_, rfl⟩
                      rw [hM] at m1
                      have e1 : C2 = N := by rw [HC2.out]; simp only [hX, hK, hN, hY, hM, Int.toNat_natCast]; simp [k2]
                      rw [k2] at d0
                      rw [hX] at d2 hxx
                      rw [hY] at d3 hyy
                      have g1 : X < l.length := by omega
                      have g2 : Y < l.length := by omega
                      clear k2 hX hok hK hN hY hM
                      cases K <;> cases N <;> cases M
                      all_goals (subst e1; go_wp2_with fail; go_meet; exact ⟨by first | rfl | trivial, by first | rfl | trivial⟩)
                    · have k2b : ((t.k : Int) == 2) = false := by simpa using k2
                      have e1 : C2 = false := by rw [HC2.out]; simp [k2]
                      subst e1
                      clear hok k2
                      generalize t.k = tk at *
                      clear hN
                      cases N
                      all_goals (go_wp2_with fail; go_meet; exact ⟨by first | rfl | trivial, by first | rfl | trivial⟩)
                  case rest =>
                    obtain ⟨rfl, hw⟩ := hcut
                    obtain rfl := hw.symm
                    go_upto_if 100 with fail
                    go_cut [] (fun w9 => Hid (HasAt w9 w.heap.size wr.heap.size (stepD2 k1 t m) t ∧ Below w.heap.size w w9))
                    case first =>
                      cases C2 with
                      | false =>
                        have hn : ¬ (at_ k1 m = true ∧ t.k = 2) := of_decide_eq_false HC2.out.symm
                        have e1 : stepD2 k1 t m = k1 := if_neg hn
                        have HE := Lib.hid e1; clear e1 hn
                        go_wp2_with fail
                        go_meet
                        exact Lib.hid (by rw [HE.out]; exact H1.out)
                      | true =>
                        have hn : (at_ k1 m = true ∧ t.k = 2) := of_decide_eq_true HC2.out.symm
                        have hxx := okT_x hok (by omega)
                        have hyy := okT_y hok (by omega) (by omega)
                        obtain ⟨X, hX⟩ : ∃ X : Nat, t.x = X := ⟨t.x.toNat, by omega⟩
                        obtain ⟨Y, hY⟩ : ∃ Y : Nat, t.y = Y := ⟨t.y.toNat, by omega⟩
                        have e1 : stepD2 k1 t m = (k1.set X true).set Y true := by rw [stepD2, if_pos hn, hX, hY]; rfl
                        have HE := Lib.hid e1; clear e1 hn
                        have d2 : W1.cell? ⟨wr.heap.size, 2, none⟩ = some (.int .i64 t.x) := H1.out.1.box.cell 2
                        have mX := H1.out.1.mark (n := X) (by omega)
                        have zX := H1.out.1.has.frozen X
                        have HH := Lib.hid (H1.out.1.set X)
                        have d3 : (W1.setCell ⟨w.heap.size, X, none⟩ (.bool true)).cell? ⟨wr.heap.size, 3, none⟩ = some (.int .i64 t.y) := HH.out.box.cell 3
                        have mY := HH.out.mark (n := Y) (by simp; omega)
                        have zY := HH.out.has.frozen Y
                        rw [hX] at d2 hxx
                        rw [hY] at d3 hyy
                        have g1 : X < l.length := by omega
                        have g2 : Y < l.length := by omega
                        clear hX hY
                        go_wp2_with fail
                        go_meet
                        exact Lib.hid (by rw [HE.out]; exact ⟨HH.out.set Y, (H1.out.2.setCell (Nat.le_refl _) _).setCell (Nat.le_refl _) _⟩)
                    case rest =>
                      have hl2 : (stepD2 k1 t m).length = l.length := by rw [length_stepD2]; exact hl1
                      have HK2 := Lib.hid (show stepD2 k1 t m = stepD2 k1 t m from rfl)
                      generalize stepD2 k1 t m = k2 at *
                      generalize wc = W2 at *
                      have H2 := hcut; clear hcut
                      go_upto_region 19 with fail
                      obtain ⟨C3, hC3⟩ : ∃ C3 : Bool, C3 = decide (at_ k2 m = true ∧ t.k = 4 ∧ at_ k2 t.x.toNat = true) := ⟨_, rfl⟩
                      have HC3 := Lib.hid hC3; clear hC3
                      go_cut [124] (fun s wc => s = .bool C3 ∧ wc = W2)
                      case first =>
                        have d0 : W2.cell? ⟨wr.heap.size, 0, none⟩ = some (.int .i64 t.k) := H2.out.1.box.cell 0
                        have d2 : W2.cell? ⟨wr.heap.size, 2, none⟩ = some (.int .i64 t.x) := H2.out.1.box.cell 2
                        have d3 : W2.cell? ⟨wr.heap.size, 3, none⟩ = some (.int .i64 t.y) := H2.out.1.box.cell 3
                        have mm := H2.out.1.mark (n := m) (by omega)
                        obtain ⟨N, hN⟩ : ∃ N, at_ k2 m = N := ⟨_, rfl⟩
                        rw [hN] at mm
                        by_cases k4 : t.k = 4
                        · skip
                          have hxx := okT_x hok (by omega)
                          obtain ⟨X, hX⟩ : ∃ X : Nat, t.x = X := ⟨t.x.toNat, by omega⟩
                          have m0 := H2.out.1.mark (n := X) (by omega)
                          obtain ⟨K, hK⟩ : ∃ K, at_ k2 X = K := ⟨_, rfl⟩
                          rw [hK] at m0
                          have hyy := okT_y hok (by omega) (by omega)
                          obtain ⟨Y, hY⟩ : ∃ Y : Nat, t.y = Y := ⟨t.y.toNat, by omega⟩
                          have m1 := H2.out.1.mark (n := Y) (by omega)
                          obtain ⟨M, hM⟩ : ∃ M, at_ k2 Y = M := ⟨_, rfl⟩
                          rw [hM] at m1
                          have e1 : C3 = (N && K) := by rw [HC3.out]; simp only [hX, hK, hN, hY, hM, Int.toNat_natCast]; simp [k4]
                          rw [k4] at d0
                          rw [hX] at d2 hxx
                          rw [hY] at d3 hyy
                          have g1 : X < l.length := by omega
                          have g2 : Y < l.length := by omega
                          clear k4 hX hok hK hN hY hM
                          cases K <;> cases N <;> cases M
                          all_goals (subst e1; go_wp2_with fail; go_meet; exact ⟨by first | rfl | trivial, by first | rfl | trivial⟩)
                        · have k4b : ((t.k : Int) == 4) = false := by simpa using k4
                          have e1 : C3 = false := by rw [HC3.out]; simp [k4]
                          subst e1
                          clear hok k4
                          generalize t.k = tk at *
                          clear hN
                          cases N
                          all_goals (go_wp2_with fail; go_meet; exact ⟨by first | rfl | trivial, by first | rfl | trivial⟩)
                      case rest =>
                        obtain ⟨rfl, hw⟩ := hcut
                        obtain rfl := hw.symm
                        cases C3 with
                        | false =>
                          have hn : ¬ (at_ k2 m = true ∧ t.k = 4 ∧ at_ k2 t.x.toNat = true) := of_decide_eq_false HC3.out.symm
                          have HR9 : Hid (RcAt w W2 w.heap.size ((List.range (m + 1)).foldl (stepD l) (timesD l r (startD l.length gv)))) := Lib.hid (by rw [HN.out, stepD3, if_neg hn]; exact ⟨H2.out.1.has, H2.out.2⟩)
                          clear hn
                          go_wp2_with fail
                          go_roundw
                          case rel => first | exact ⟨m + 1, by go_num, by omega, HR9⟩ | ((repeat apply Exists.intro); exact ⟨⟨m + 1, by go_num, by omega, HR9⟩, rfl⟩)
                          case measure => simp [intOf]; omega
                        | true =>
                          have hn : (at_ k2 m = true ∧ t.k = 4 ∧ at_ k2 t.x.toNat = true) := of_decide_eq_true HC3.out.symm
                          have hyy := okT_y hok (by omega) (by omega)
                          obtain ⟨Y, hY⟩ : ∃ Y : Nat, t.y = Y := ⟨t.y.toNat, by omega⟩
                          have HR9 : Hid (RcAt w (W2.setCell ⟨w.heap.size, Y, none⟩ (.bool true)) w.heap.size ((List.range (m + 1)).foldl (stepD l) (timesD l r (startD l.length gv)))) := Lib.hid (by rw [HN.out, stepD3, if_pos hn, hY]; exact ⟨(H2.out.1.set Y).has, H2.out.2.setCell (Nat.le_refl _) _⟩)
                          have d3 : W2.cell? ⟨wr.heap.size, 3, none⟩ = some (.int .i64 t.y) := H2.out.1.box.cell 3
                          have mY := H2.out.1.mark (n := Y) (by omega)
                          have zY := H2.out.1.has.frozen Y
                          rw [hY] at d3 hyy
                          have g2 : Y < l.length := by omega
                          clear hY hn
                          go_wp2_with fail
                          go_roundw
                          case rel => first | exact ⟨m + 1, by go_num, by omega, HR9⟩ | ((repeat apply Exists.intro); exact ⟨⟨m + 1, by go_num, by omega, HR9⟩, rfl⟩)
                          case measure => simp [intOf]; omega
            · obtain rfl : m = l.length := by omega
              have HR2 : Hid (RcAt w wr w.heap.size (timesD l (r + 1) (startD l.length gv))) := hr'
              clear hr'
              go_wp2_with fail
              go_roundw
              case rel => exact ⟨r + 1, by go_num, by omega, HR2⟩
              case measure => simp [intOf]; omega
        · obtain rfl : r = l.length := by omega
          go_wp2_with fail
          go_ret
          exact ⟨rfl, hr.out⟩
end Go.Proofs.YtphhlfochapecaaDoor
