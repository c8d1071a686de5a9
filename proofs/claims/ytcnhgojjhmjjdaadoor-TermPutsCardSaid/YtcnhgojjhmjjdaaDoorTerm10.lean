/-
  TermTexts: texts and depths agree.
-/
import Derived.Test.YtcnhgojjhmjjdaaDoorTerm9
namespace Go.Proofs.YtcnhgojjhmjjdaaDoor
set_option maxRecDepth 4000
open Go.RowKit

theorem MadeAt.text {w W : World} {p : Nat} {v : Value} {l : List Tm} (h : MadeAt w W p v l) (hp : Pool l) (hT : Tab10 w) (hwf : ∀ t ∈ l, wfT t) : TextAt W w.heap.size p l := by
  obtain ⟨⟨G, h1, _⟩, _, h3⟩ := h
  exact ⟨h1.is, hp, hT.below (Nat.le_refl _) h3, hwf⟩
theorem wf_puts {ts : List Tm} (h : ∀ t ∈ ts, wfT t) : ∀ t ∈ putsT [] ts, wfT t := by
  suffices hh : ∀ (ts l : List Tm), (∀ t ∈ ts, wfT t) → (∀ t ∈ l, wfT t) → ∀ t ∈ putsT l ts, wfT t from hh ts [] h (by simp)
  clear h
  intro ts
  induction ts with
  | nil => intro l _ hl; exact hl
  | cons t ts ih =>
    intro l h hl
    refine ih (putT l t).1 (fun u hu => h u (List.mem_cons_of_mem _ hu)) (fun u hu => ?_)
    unfold putT at hu
    split at hu
    · split at hu
      · exact hl u hu
      · split at hu
        · exact hl u hu
        · rw [List.mem_append, List.mem_singleton] at hu
          rcases hu with hu | rfl
          · exact hl u hu
          · exact h u List.mem_cons_self
    · exact hl u hu

theorem texts_walk (A : Option Addr) (ts : List Tm) (len c : Nat) (n : Int) (W : World) (hT : Tab10 W) (hm : ts.length = len) (hI : InTerms W A ts c) (_wn : (Lit.int .i64 n).wf = true) :
    Calls Tryd.prog 3 #[.slice A len c, .int .i64 n] W fun e W' => e = .returned (.bool true) ∧ Below W.heap.size W W' := by
  subst hm
  have hemp : (str []).toList.isEmpty = true := by rw [str_toList]; rfl
  have HA := Lib.hid (fun w h => awake_any w h)
  have HT := Lib.hid hT; clear hT
  by_cases h60 : 60 < ts.length
  · go_enter Tryd.func3, Tryd.ntmps3
    go_wp2_with fail
    refine (HA.out W HT.out).mono ?_
    rintro e w1 ⟨rfl, b1⟩
    go_wp2_with fail
    refine (HA.out w1 (HT.out.below (Nat.le_refl _) b1)).mono ?_
    rintro e w2 ⟨rfl, b2⟩
    go_wp2_with fail
    go_ret
    exact ⟨rfl, b1.trans (b2.mono b1.size)⟩
  · obtain ⟨hpool, hlen⟩ := putsT_pool ts (fit_wf hI.wf)
    have hwf := wf_puts hI.wf
    have HI := Lib.hid hI; clear hI
    have HM := Lib.hid (fun w h1 h2 => made_any A ts c w h1 (by omega) h2)
    obtain ⟨l, hl⟩ : ∃ l, putsT [] ts = l := ⟨_, rfl⟩
    rw [hl] at HM hpool hlen hwf
    have HL := Lib.hid hl; clear hl
    go_enter Tryd.func3, Tryd.ntmps3
    go_wp2_with fail
    refine (HA.out W HT.out).mono ?_
    rintro e w1 ⟨rfl, b1⟩
    go_wp2_with fail
    have HT1 := Lib.hid (HT.out.below (Nat.le_refl _) b1)
    refine (HM.out w1 (HI.out.below b1) HT1.out).mono ?_
    rintro e w2 ⟨p, v, rfl, hm⟩
    have HM2 := Lib.hid hm; clear hm
    obtain ⟨vA, vc, rfl⟩ := own_shape HM2.out.list
    have hll : l.length ≤ 100 := by omega
    by_cases h0 : 0 ≤ n ∧ n < l.length
    · obtain ⟨X, rfl⟩ : ∃ X : Nat, n = X := ⟨n.toNat, by omega⟩
      have hX : X < l.length := by omega
      have hth : thereT l.length X = true := by simp [thereT, hX]
      have HD := Lib.hid (fun W h => depth_ok p X l w1.heap.size W h hX)
      have HRD := Lib.hid (fun W h => rdepth_any (.slice vA l.length vc) X l w1.heap.size W h hpool hX (by omega))
      have HRS := Lib.hid (fun W h => rsize_any (.slice vA l.length vc) X l w1.heap.size W h hpool hX (by omega))
      have HTX := Lib.hid (fun W h => Text_any l w1.heap.size p X W h)
      have HRT := Lib.hid (fun W h hs => rtext_any l w1.heap.size (.slice vA l.length vc) hpool X W h hX hs)
      have HTT : Hid (textT l X = if (sizs l).getD X 0 ≤ 10000 then (txts l).getD X [] else []) := Lib.hid (by unfold textT; rw [hth]; simp)
      have HPW := Lib.hid (And.intro hpool hwf); clear hpool hwf hth
      generalize (deps l).getD X 0 = D at *
      generalize (sizs l).getD X 0 = S at *
      generalize (txts l).getD X [] = T at *
      generalize textT l X = TT at *
      go_wp2_with fail
      refine (HD.out w2 HM2.out.pool.choose_spec.1.is).mono ?_
      rintro e w3 ⟨rfl, rfl⟩
      go_wp2_with fail
      refine (HRD.out w2 HM2.out.list).mono ?_
      rintro e w3 ⟨rfl, b3⟩
      have HM3 := Lib.hid (HM2.out.below b3)
      go_wp2_with fail
      refine (HRS.out w3 HM3.out.list).mono ?_
      rintro e w4 ⟨rfl, b4⟩
      have HM4 := Lib.hid (HM3.out.below b4)
      by_cases hS : 10000 < S
      · have hTT : TT = [] := by rw [HTT.out, if_neg (by omega)]
        subst hTT
        go_wp2_with fail
        refine (HTX.out w4 (HM4.out.text HPW.out.1 HT1.out HPW.out.2)).mono ?_
        rintro e w5 ⟨rfl, b5⟩
        go_wp2_with fail
        go_ret
        exact ⟨rfl, b1.trans ((HM4.out.bel.trans (b5.mono HM4.out.bel.size)).mono b1.size)⟩
      · have hTT : TT = T := by rw [HTT.out, if_pos (by omega)]
        subst hTT
        go_wp2_with fail
        refine (HTX.out w4 (HM4.out.text HPW.out.1 HT1.out HPW.out.2)).mono ?_
        rintro e w5 ⟨rfl, b5⟩
        have HM5 := Lib.hid (HM4.out.below b5)
        go_wp2_with fail
        refine (HRT.out w5 HM5.out.list (by omega)).mono ?_
        rintro e w6 ⟨rfl, b6⟩
        go_wp2_with fail
        go_ret
        exact ⟨ret_bool (by simp), b1.trans ((HM5.out.bel.trans (b6.mono HM5.out.bel.size)).mono b1.size)⟩
    · have hth : thereT l.length n = false := by
        rcases Decidable.em (0 ≤ n) with h | h
        · simp [thereT]; omega
        · simp [thereT]; omega
      have htt : textT l n = [] := by unfold textT; rw [hth]; simp
      have HD := Lib.hid (fun W h => depth_no p n l w1.heap.size W h hth)
      have HTX := Lib.hid (fun W h => Text_any l w1.heap.size p n W h)
      rw [htt] at HTX
      have HPW := Lib.hid (And.intro hpool hwf); clear hpool hwf hth htt
      have hor : n < 0 ∨ (l.length : Int) ≤ n := by omega
      rcases hor with h1 | h1
      all_goals
        go_wp2_with fail
        refine (HTX.out w2 (HM2.out.text HPW.out.1 HT1.out HPW.out.2)).mono ?_
        rintro e w3 ⟨rfl, b3⟩
        have HM3 := Lib.hid (HM2.out.below b3)
        go_wp2_with fail
        refine (HD.out w3 HM3.out.pool.choose_spec.1.is).mono ?_
        rintro e w4 ⟨rfl, rfl⟩
        go_wp2_with fail
        go_ret
        exact ⟨rfl, b1.trans (HM3.out.bel.mono b1.size)⟩
end Go.Proofs.YtcnhgojjhmjjdaaDoor
