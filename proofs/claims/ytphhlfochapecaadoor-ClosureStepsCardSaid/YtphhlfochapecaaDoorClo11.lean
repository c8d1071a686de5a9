/-
  What a step leans on: known marks in a map; whether a step comes as told.
-/
import Derived.Test.YtphhlfochapecaaDoorClo8
import Derived.Test.YtphhlfochapecaaDoorMaps
import Derived.Deep.DeepCutAuto
namespace Go.Proofs.YtphhlfochapecaaDoor
set_option maxRecDepth 4000
open Go.RowKit

/-- A map that marks just the numbers of a list. -/
def KMap (w : World) (b : Nat) (S : List Int) : Prop := ∃ D : List Int, IMap w b .i64 (D.map fun x => (x, Value.bool true)) ∧ ∀ x, x ∈ D ↔ x ∈ S
theorem KMap.lt {w : World} {b : Nat} {S : List Int} (h : KMap w b S) : b < w.heap.size := by
  obtain ⟨D, h, _⟩ := h
  exact h.lt
theorem KMap.keep {w w' : World} {b : Nat} {S : List Int} (h : KMap w b S) (hk : w'.heap[b]? = w.heap[b]?) : KMap w' b S := by
  obtain ⟨D, h, r⟩ := h
  exact ⟨D, h.keep hk, r⟩
theorem KMap.below {w w' : World} {b : Nat} {S : List Int} (h : KMap w b S) (hb : Below w.heap.size w w') : KMap w' b S := h.keep (hb.block _ h.lt)
theorem lookup_marks (D : List Int) (x : Int) : (D.map fun x => (x, Value.bool true)).lookup x = if x ∈ D then some (Value.bool true) else none := by
  induction D with
  | nil => simp
  | cons y D ih =>
    rw [List.map_cons, List.lookup_cons]
    by_cases h : x = y
    · subst h; simp
    · have hb : (x == y) = false := by simpa using h
      rw [hb]
      simp only [ih, List.mem_cons, h, false_or]
theorem run_marks {w : World} {b : Nat} {S : List Int} (h : KMap w b S) (x : Int) : (Instr.lookup 57 (.map (some b)) (.int .i64 x) false).run Tryd.prog w = .ok (.bool (decide (x ∈ S))) w := by
  obtain ⟨D, h, hD⟩ := h
  rw [run_lookup_imap Tryd.underlying57 Tryd.underlying3 (by kernel_rfl) h x, lookup_marks]
  by_cases hx : x ∈ S
  · rw [if_pos ((hD x).2 hx), decide_eq_true hx]; rfl
  · rw [if_neg (fun e => hx ((hD x).1 e)), decide_eq_false hx]; rfl

/-- A number's term, if there is one. -/
def tmAt (l : List Tm) (x : Int) : Tm := if thereT l.length x = true then l.getD x.toNat ⟨0, 0, 0, 0⟩ else ⟨0, 0, 0, 0⟩
theorem get_any (p : Nat) (x : Int) (l : List Tm) (base : Nat) (w : World) (hP : PoolIs w base p l) :
    Calls Tryd.prog 36 #[.pointer (some ⟨p, 0, none⟩), .int .i64 x] w fun e w' => e = .returned (.tuple #[tval (tmAt l x), .bool (thereT l.length x)]) ∧ Below w.heap.size w w' := by
  cases h : thereT l.length x with
  | false =>
    have e : tmAt l x = ⟨0, 0, 0, 0⟩ := by simp [tmAt, h]
    rw [e]
    exact get_no p x l base w hP h
  | true =>
    have hx : 0 ≤ x ∧ x < l.length := by simpa [thereT] using h
    obtain ⟨X, rfl⟩ : ∃ X : Nat, x = X := ⟨x.toNat, by omega⟩
    have hX : X < l.length := by omega
    have e : tmAt l X = l[X] := by simp [tmAt, h, List.getD_eq_getElem?_getD, hX]
    rw [e]
    exact get_ok p X _ l base w hP (List.getElem?_eq_getElem hX)
def wval (w : Wy) : Value := .agg #[.int .i64 w.t, .int .i64 w.h, .int .i64 w.o]

/-! ### rightW, case by case -/
theorem rightW_out {l : List Tm} {gv S : List Int} {w : Wy} (h : thereT l.length w.t = false) : rightW l gv S w = false := by
  unfold rightW
  cases ht : l[w.t.toNat]? with
  | none => rfl
  | some t =>
    have := (List.getElem?_eq_some_iff.1 ht).1
    have h0 : w.t < 0 := by
      rcases Int.lt_or_le w.t 0 with h1 | h1
      · exact h1
      · simp [thereT] at h; omega
    simp only
    rw [if_pos h0]
theorem there_get {l : List Tm} {x : Int} (h : thereT l.length x = true) : l[x.toNat]? = some (tmAt l x) ∧ 0 ≤ x := by
  have hx : 0 ≤ x ∧ x < l.length := by simpa [thereT] using h
  have hX : x.toNat < l.length := by omega
  refine ⟨?_, hx.1⟩
  rw [tmAt, if_pos h, List.getElem?_eq_getElem hX, List.getD_eq_getElem?_getD, List.getElem?_eq_getElem hX]
  rfl
theorem rightW_in {l : List Tm} {gv S : List Int} {w : Wy} (h : thereT l.length w.t = true) (hS : ∀ x ∈ S, thereT l.length x = true) : rightW l gv S w =
    if 1 ≤ w.h ∧ w.h ≤ 3 then (if w.o ∈ S then (decide (w.h = 1) && decide ((tmAt l w.o).k = 2) && decide ((tmAt l w.o).x = w.t)) || (decide (w.h = 2) && decide ((tmAt l w.o).k = 2) && decide ((tmAt l w.o).y = w.t)) || (decide (w.h = 3) && decide ((tmAt l w.o).k = 4) && decide ((tmAt l w.o).y = w.t) && decide ((tmAt l w.o).x ∈ S)) else false)
    else if w.o ≠ 0 then false
    else if w.h = 0 then decide (w.t ∈ gv)
    else if w.h = 4 then decide ((tmAt l w.t).k = 3) && decide ((tmAt l w.t).x ∈ S)
    else ((decide (w.h = 5) && decide ((tmAt l w.t).k = 2)) || (decide (w.h = 6) && decide ((tmAt l w.t).k = 4))) && decide ((tmAt l w.t).x ∈ S) && decide ((tmAt l w.t).y ∈ S) := by
  obtain ⟨h1, h2⟩ := there_get h
  unfold rightW
  rw [h1]
  simp only
  rw [if_neg (by omega)]
  by_cases hh : 1 ≤ w.h ∧ w.h ≤ 3
  · rw [if_pos hh, if_pos hh]
    by_cases ho : w.o ∈ S
    · rw [if_pos ho, if_pos ho, (there_get (hS _ ho)).1]
    · rw [if_neg ho, if_neg ho]
  · rw [if_neg hh, if_neg hh]

set_option maxHeartbeats 2000000 in
theorem comes_any (p mb : Nat) (l : List Tm) (S : List Int) (y : Wy) (A : Option Addr) (gv : List Int) (c pb : Nat) (w : World) (h : CloAt w pb p l A gv) (hK : KMap w mb S) (hS : ∀ x ∈ S, thereT l.length x = true) :
    Calls Tryd.prog 22 #[.pointer (some ⟨p, 0, none⟩), .map (some mb), wval y, .slice A gv.length c] w fun e w' => e = .returned (.bool (rightW l gv S y)) ∧ Below w.heap.size w w' := by
  obtain ⟨t, hh, o⟩ := y
  unfold wval
  have hb0 := (Below.refl w.heap.size w).alloc (Nat.le_refl _) (.cells #[.int .i64 t, .int .i64 hh, .int .i64 o] 40)
  have hx0 := Blk.new w 40 #[.int .i64 t, .int .i64 hh, .int .i64 o]
  have c0 : (w.alloc (.cells #[.int .i64 t, .int .i64 hh, .int .i64 o] 40)).cell? ⟨w.heap.size, 0, none⟩ = some (.int .i64 t) := hx0.cell 0
  have H0 := Lib.hid (And.intro (h.below hb0) (And.intro (hK.below hb0) (And.intro hx0 hb0)))
  have HG := Lib.hid (fun x w h => get_any p x l pb w h)
  have HW := Lib.hid (fun (hs : thereT l.length t = true) => rightW_in (gv := gv) (S := S) (w := ⟨t, hh, o⟩) hs hS)
  have HO := Lib.hid (fun (hs : thereT l.length t = false) => rightW_out (gv := gv) (S := S) (w := ⟨t, hh, o⟩) hs)
  have HS := Lib.hid hS
  have HC := Lib.hid (fun W h => contains_any A gv c t W h (by have := H0.out.1.glen; omega))
  clear hx0 hb0 h hK hS
  obtain ⟨T, hT⟩ : ∃ T, tmAt l t = T := ⟨_, rfl⟩
  obtain ⟨O, hO⟩ : ∃ O, tmAt l o = O := ⟨_, rfl⟩
  have hG1 := fun w h => HG.out t w h
  have hG2 := fun w h => HG.out o w h
  rw [hT] at hG1
  rw [hO] at hG2
  simp only [hT, hO] at HW
  obtain ⟨k, a, x, y⟩ := T
  obtain ⟨k', a', x', y'⟩ := O
  unfold tval at hG1 hG2
  have HG1 := Lib.hid hG1; have HG2 := Lib.hid hG2; clear hG1 hG2 HG
  go_enter Tryd.func22, Tryd.ntmps22
  go_wp2_with fail
  refine (HG1.out _ H0.out.1.pool).mono ?_
  rintro e w1 ⟨rfl, b1⟩
  have hb1 := b1.alloc b1.size (.cells #[.int .i64 k, .int .i64 a, .int .i64 x, .int .i64 y] 45)
  have H1 := Lib.hid (And.intro (H0.out.1.below hb1) (And.intro (H0.out.2.1.below hb1) (And.intro (H0.out.2.2.1.keep (hb1.block _ H0.out.2.2.1.lt)) (And.intro (Blk.new w1 45 #[.int .i64 k, .int .i64 a, .int .i64 x, .int .i64 y]) (H0.out.2.2.2.trans (hb1.mono H0.out.2.2.2.size))))))
  clear hb1 b1 c0
  have c2 : (w1.alloc (.cells #[.int .i64 k, .int .i64 a, .int .i64 x, .int .i64 y] 45)).cell? ⟨w.heap.size, 2, none⟩ = some (.int .i64 o) := H1.out.2.2.1.cell 2
  generalize thereT l.length t = OK at *
  go_wp2_with fail
  refine (HG2.out _ H1.out.1.pool).mono ?_
  rintro e w2 ⟨rfl, b2⟩
  have hb2 := b2.alloc b2.size (.cells #[.int .i64 k', .int .i64 a', .int .i64 x', .int .i64 y'] 45)
  have H2 := Lib.hid (And.intro (H1.out.1.below hb2) (And.intro (H1.out.2.1.below hb2) (And.intro (H1.out.2.2.1.keep (hb2.block _ H1.out.2.2.1.lt)) (And.intro (H1.out.2.2.2.1.keep (hb2.block _ H1.out.2.2.2.1.lt)) (And.intro (Blk.new w2 45 #[.int .i64 k', .int .i64 a', .int .i64 x', .int .i64 y']) (H1.out.2.2.2.2.trans (hb2.mono H1.out.2.2.2.2.size)))))))
  clear hb2 b2 c2
  have HHAS := Lib.hid (HS.out o)
  have HHAS := Lib.hid (HS.out o)
  generalize thereT l.length o = HAS at *
  go_upto_region 3 with fail
  have HB := Lib.hid H2.out.2.2.2.2.2
  have e0 := H2.out.2.2.1.cell 0
  have e1 := H2.out.2.2.1.cell 1
  have e2 := H2.out.2.2.1.cell 2
  have f0 := H2.out.2.2.2.1.cell 0
  have f2 := H2.out.2.2.2.1.cell 2
  have f3 := H2.out.2.2.2.1.cell 3
  have g0 := H2.out.2.2.2.2.1.cell 0
  have g2 := H2.out.2.2.2.2.1.cell 2
  have g3 := H2.out.2.2.2.2.1.cell 3
  simp only [List.getElem?_toArray, List.getElem?_cons_zero, List.getElem?_cons_succ] at e0 e1 e2 f0 f2 f3 g0 g2 g3
  have r1 := run_marks H2.out.2.1 o
  have r2 := run_marks H2.out.2.1 x
  have r3 := run_marks H2.out.2.1 y
  have r4 := run_marks H2.out.2.1 x'
  have HC3 := Lib.hid (HC.out _ H2.out.1.row)
  generalize w2.alloc (.cells #[.int .i64 k', .int .i64 a', .int .i64 x', .int .i64 y'] 45) = W3 at *
  obtain ⟨KO, hKO⟩ : ∃ KO, decide (o ∈ S) = KO := ⟨_, rfl⟩
  obtain ⟨KX, hKX⟩ : ∃ KX, decide (x ∈ S) = KX := ⟨_, rfl⟩
  obtain ⟨KY, hKY⟩ : ∃ KY, decide (y ∈ S) = KY := ⟨_, rfl⟩
  obtain ⟨KZ, hKZ⟩ : ∃ KZ, decide (x' ∈ S) = KZ := ⟨_, rfl⟩
  rw [hKO] at r1
  rw [hKX] at r2
  rw [hKY] at r3
  rw [hKZ] at r4
  have HK := Lib.hid (And.intro hKO (And.intro hKX (And.intro hKY hKZ))); clear hKO hKX hKY hKZ
  cases OK with
  | false =>
    go_wp2_with fail
    go_ret
    exact ⟨ret_bool ((HO.out (by trivial)).symm), HB.out⟩
  | true =>
    have HW2 := Lib.hid (HW.out rfl); clear HW HO
    by_cases hr : 1 ≤ hh ∧ hh ≤ 3
    · obtain ⟨hr1, hr2⟩ := hr
      have n1 : ¬ (hh < 1) := by omega
      have n2 : ¬ (3 < hh) := by omega
      cases KO with
      | false =>
        have hno : ¬ (o ∈ S) := of_decide_eq_false HK.out.1
        have HE : Hid (rightW l gv S ⟨t, hh, o⟩ = false) := Lib.hid (by rw [HW2.out, if_pos ⟨hr1, hr2⟩, if_neg hno])
        clear hno HW2
        cases HAS with
        | false =>
          go_wp2_with fail
          go_ret
          exact ⟨ret_bool (HE.out.symm), HB.out⟩
        | true =>
          go_wp2_with fail
          go_ret
          exact ⟨ret_bool (HE.out.symm), HB.out⟩
      | true =>
        have hyo : o ∈ S := of_decide_eq_true HK.out.1
        obtain rfl : HAS = true := HHAS.out hyo
        have HE := Lib.hid (HW2.out.trans (by rw [if_pos ⟨hr1, hr2⟩, if_pos hyo]))
        clear hyo HW2
        go_upto_region 5 with fail
        go_cut [13] (fun s w9 => s = .bool (KX && KY) ∧ w9 = W3)
        case first => cases KX <;> cases KY <;> (go_wp2_with fail; go_meet; exact ⟨by first | rfl | trivial, by first | rfl | trivial⟩)
        case rest =>
          obtain ⟨rfl, hw⟩ := hcut
          obtain rfl := hw.symm
          have hcs : hh = 1 ∨ hh = 2 ∨ hh = 3 := by omega
          clear hr1 hr2 n1 n2
          rcases hcs with rfl | rfl | rfl
          · by_cases hk : k' = 2
            · subst hk
              by_cases hv : x' = t
              · subst hv
                go_wp2_with fail
                go_ret
                exact ⟨ret_bool (by rw [HE.out]; simp), HB.out⟩
              · have hvb : ((x' : Int) == t) = false := by simpa using hv
                have HV := Lib.hid hv; clear hv
                go_wp2_with fail
                go_ret
                exact ⟨ret_bool (by rw [HE.out]; simp [HV.out]), HB.out⟩
            · have hkb : ((k' : Int) == 2) = false := by simpa using hk
              have HV := Lib.hid hk; clear hk
              go_wp2_with fail
              go_ret
              exact ⟨ret_bool (by rw [HE.out]; simp [HV.out]), HB.out⟩
          · by_cases hk : k' = 2
            · subst hk
              by_cases hv : y' = t
              · subst hv
                go_wp2_with fail
                go_ret
                exact ⟨ret_bool (by rw [HE.out]; simp), HB.out⟩
              · have hvb : ((y' : Int) == t) = false := by simpa using hv
                have HV := Lib.hid hv; clear hv
                go_wp2_with fail
                go_ret
                exact ⟨ret_bool (by rw [HE.out]; simp [HV.out]), HB.out⟩
            · have hkb : ((k' : Int) == 2) = false := by simpa using hk
              have HV := Lib.hid hk; clear hk
              go_wp2_with fail
              go_ret
              exact ⟨ret_bool (by rw [HE.out]; simp [HV.out]), HB.out⟩
          · by_cases hk : k' = 4
            · subst hk
              by_cases hv : y' = t
              · subst hv
                cases KZ with
                | true =>
                  have hz : x' ∈ S := of_decide_eq_true HK.out.2.2.2
                  have HZ := Lib.hid hz; clear hz
                  go_wp2_with fail
                  go_ret
                  exact ⟨ret_bool (by rw [HE.out]; simp [HZ.out]), HB.out⟩
                | false =>
                  have hz : ¬ (x' ∈ S) := of_decide_eq_false HK.out.2.2.2
                  have HZ := Lib.hid hz; clear hz
                  go_wp2_with fail
                  go_ret
                  exact ⟨ret_bool (by rw [HE.out]; simp [HZ.out]), HB.out⟩
              · have hvb : ((y' : Int) == t) = false := by simpa using hv
                have HV := Lib.hid hv; clear hv
                go_wp2_with fail
                go_ret
                exact ⟨ret_bool (by rw [HE.out]; simp [HV.out]), HB.out⟩
            · have hkb : ((k' : Int) == 4) = false := by simpa using hk
              have HV := Lib.hid hk; clear hk
              go_wp2_with fail
              go_ret
              exact ⟨ret_bool (by rw [HE.out]; simp [HV.out]), HB.out⟩
    · have hr' : hh < 1 ∨ 3 < hh := by omega
      by_cases ho : o = 0
      · subst ho
        have HE := Lib.hid (HW2.out.trans (by rw [if_neg hr, if_neg (by simp)]))
        clear HW2
        rcases hr' with hr' | hr'
        · have n2 : ¬ (1 ≤ hh) := by omega
          clear hr
          go_upto_region 5 with fail
          go_cut [13] (fun s w9 => s = .bool (KX && KY) ∧ w9 = W3)
          case first => cases KX <;> cases KY <;> (go_wp2_with fail; go_meet; exact ⟨by first | rfl | trivial, by first | rfl | trivial⟩)
          case rest =>
            obtain ⟨rfl, hw⟩ := hcut
            obtain rfl := hw.symm
            by_cases h0 : hh = 0
            · subst h0
              go_wp2_with fail
              refine HC3.out.mono ?_
              rintro e w9 ⟨rfl, rfl⟩
              go_wp2_with fail
              go_ret
              exact ⟨ret_bool (by rw [HE.out]; simp), HB.out⟩
            · have m0 : ((hh : Int) == 0) = false := by simpa using h0
              have m1 : ((hh : Int) == 1) = false := by simp; omega
              have m2 : ((hh : Int) == 2) = false := by simp; omega
              have m3 : ((hh : Int) == 3) = false := by simp; omega
              have m4 : ((hh : Int) == 4) = false := by simp; omega
              have m5 : ((hh : Int) == 5) = false := by simp; omega
              have m6 : ((hh : Int) == 6) = false := by simp; omega
              have HM := Lib.hid (show hh ≠ 0 ∧ hh ≠ 4 ∧ hh ≠ 5 ∧ hh ≠ 6 by omega)
              clear h0
              go_wp2_with fail
              go_ret
              exact ⟨ret_bool (by rw [HE.out]; simp [HM.out.1, HM.out.2.1, HM.out.2.2.1, HM.out.2.2.2]), HB.out⟩
        · have n1 : ¬ (hh < 1) := by omega
          have n2 : ¬ (hh ≤ 3) := by omega
          clear hr
          go_upto_region 5 with fail
          go_cut [13] (fun s w9 => s = .bool (KX && KY) ∧ w9 = W3)
          case first => cases KX <;> cases KY <;> (go_wp2_with fail; go_meet; exact ⟨by first | rfl | trivial, by first | rfl | trivial⟩)
          case rest =>
            obtain ⟨rfl, hw⟩ := hcut
            obtain rfl := hw.symm
            have m0 : ((hh : Int) == 0) = false := by simp; omega
            have m1 : ((hh : Int) == 1) = false := by simp; omega
            have m2 : ((hh : Int) == 2) = false := by simp; omega
            have m3 : ((hh : Int) == 3) = false := by simp; omega
            by_cases h4 : hh = 4
            · subst h4
              by_cases hk : k = 3
              · subst hk
                cases KX with
                | true =>
                  have HZ := Lib.hid (show x ∈ S from of_decide_eq_true HK.out.2.1)
                  go_wp2_with fail
                  go_ret
                  exact ⟨ret_bool (by rw [HE.out]; simp [HZ.out]), HB.out⟩
                | false =>
                  have HZ := Lib.hid (show ¬ (x ∈ S) from of_decide_eq_false HK.out.2.1)
                  go_wp2_with fail
                  go_ret
                  exact ⟨ret_bool (by rw [HE.out]; simp [HZ.out]), HB.out⟩
              · have hkb : ((k : Int) == 3) = false := by simpa using hk
                have HV := Lib.hid hk; clear hk
                go_wp2_with fail
                go_ret
                exact ⟨ret_bool (by rw [HE.out]; simp [HV.out]), HB.out⟩
            · have m4 : ((hh : Int) == 4) = false := by simpa using h4
              by_cases h5 : hh = 5
              · subst h5
                by_cases hk : k = 2
                · subst hk
                  have HZ := Lib.hid (And.intro HK.out.2.1 HK.out.2.2.1)
                  cases KX <;> cases KY
                  · have HX := Lib.hid (of_decide_eq_false HZ.out.1)
                    have HY := Lib.hid (of_decide_eq_false HZ.out.2)
                    go_wp2_with fail
                    go_ret
                    exact ⟨ret_bool (by rw [HE.out]; simp [HX.out, HY.out]), HB.out⟩
                  · have HX := Lib.hid (of_decide_eq_false HZ.out.1)
                    have HY := Lib.hid (of_decide_eq_true HZ.out.2)
                    go_wp2_with fail
                    go_ret
                    exact ⟨ret_bool (by rw [HE.out]; simp [HX.out, HY.out]), HB.out⟩
                  · have HX := Lib.hid (of_decide_eq_true HZ.out.1)
                    have HY := Lib.hid (of_decide_eq_false HZ.out.2)
                    go_wp2_with fail
                    go_ret
                    exact ⟨ret_bool (by rw [HE.out]; simp [HX.out, HY.out]), HB.out⟩
                  · have HX := Lib.hid (of_decide_eq_true HZ.out.1)
                    have HY := Lib.hid (of_decide_eq_true HZ.out.2)
                    go_wp2_with fail
                    go_ret
                    exact ⟨ret_bool (by rw [HE.out]; simp [HX.out, HY.out]), HB.out⟩
                · have hkb : ((k : Int) == 2) = false := by simpa using hk
                  have HV := Lib.hid hk; clear hk
                  go_wp2_with fail
                  go_ret
                  exact ⟨ret_bool (by rw [HE.out]; simp [HV.out]), HB.out⟩
              · have m5 : ((hh : Int) == 5) = false := by simpa using h5
                by_cases h6 : hh = 6
                · subst h6
                  by_cases hk : k = 4
                  · subst hk
                    have HZ := Lib.hid (And.intro HK.out.2.1 HK.out.2.2.1)
                    cases KX <;> cases KY
                    · have HX := Lib.hid (of_decide_eq_false HZ.out.1)
                      have HY := Lib.hid (of_decide_eq_false HZ.out.2)
                      go_wp2_with fail
                      go_ret
                      exact ⟨ret_bool (by rw [HE.out]; simp [HX.out, HY.out]), HB.out⟩
                    · have HX := Lib.hid (of_decide_eq_false HZ.out.1)
                      have HY := Lib.hid (of_decide_eq_true HZ.out.2)
                      go_wp2_with fail
                      go_ret
                      exact ⟨ret_bool (by rw [HE.out]; simp [HX.out, HY.out]), HB.out⟩
                    · have HX := Lib.hid (of_decide_eq_true HZ.out.1)
                      have HY := Lib.hid (of_decide_eq_false HZ.out.2)
                      go_wp2_with fail
                      go_ret
                      exact ⟨ret_bool (by rw [HE.out]; simp [HX.out, HY.out]), HB.out⟩
                    · have HX := Lib.hid (of_decide_eq_true HZ.out.1)
                      have HY := Lib.hid (of_decide_eq_true HZ.out.2)
                      go_wp2_with fail
                      go_ret
                      exact ⟨ret_bool (by rw [HE.out]; simp [HX.out, HY.out]), HB.out⟩
                  · have hkb : ((k : Int) == 4) = false := by simpa using hk
                    have HV := Lib.hid hk; clear hk
                    go_wp2_with fail
                    go_ret
                    exact ⟨ret_bool (by rw [HE.out]; simp [HV.out]), HB.out⟩
                · have m6 : ((hh : Int) == 6) = false := by simpa using h6
                  have HM := Lib.hid (show hh ≠ 0 ∧ hh ≠ 4 ∧ hh ≠ 5 ∧ hh ≠ 6 by omega)
                  clear h4 h5 h6
                  go_wp2_with fail
                  go_ret
                  exact ⟨ret_bool (by rw [HE.out]; simp [HM.out.1, HM.out.2.1, HM.out.2.2.1, HM.out.2.2.2]), HB.out⟩
      · have hob : ((o : Int) != 0) = true := by simpa using ho
        have HE : Hid (rightW l gv S ⟨t, hh, o⟩ = false) := Lib.hid (by rw [HW2.out, if_neg hr, if_pos ho])
        clear HW2 ho
        rcases hr' with hr' | hr'
        · clear hr
          go_wp2_with fail
          go_ret
          exact ⟨ret_bool (HE.out.symm), HB.out⟩
        · have n1 : ¬ (hh < 1) := by omega
          clear hr
          go_wp2_with fail
          go_ret
          exact ⟨ret_bool (HE.out.symm), HB.out⟩
end Go.Proofs.YtphhlfochapecaaDoor
