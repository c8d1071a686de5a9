/-
  Steps.
-/
import Derived.Test.YtphhlfochapecaaDoorClo15
namespace Go.Proofs.YtphhlfochapecaaDoor
set_option maxRecDepth 4000
open Go.RowKit

theorem steps1_any (y : Wy) (g : Nat) (x : Int) (w : World) (hc : w.cell? ⟨g, 0, none⟩ = some (.int .i64 x)) :
    Calls Tryd.prog 25 #[wval y, .pointer (some ⟨g, 0, none⟩)] w fun e w' => e = .returned (.bool (decide (y.t = x))) ∧ Below w.heap.size w w' := by
  obtain ⟨t, h, o⟩ := y
  unfold wval
  have hc' : (w.alloc (.cells #[.int .i64 t, .int .i64 h, .int .i64 o] 40)).cell? ⟨g, 0, none⟩ = some (.int .i64 x) := (World.cell?_of_block (a := ⟨g, 0, none⟩) (Below.heap_alloc w _ g (World.block_lt_of_cell? w _ hc))).trans hc
  go_enter Tryd.func25, Tryd.ntmps25
  go_wp2_with fail
  go_ret
  exact ⟨ret_bool (by first | rfl | (rw [Bool.eq_iff_iff]; simp)), (Below.refl _ _).alloc (Nat.le_refl _) _⟩

theorem indexw_any (A : Option Addr) (st : List Wy) (c g0 : Nat) (x : Int) (w : World) (hst : Sees w 3 A st.length (wcs st)) (hsl : st.length ≤ 100000) (hc : w.cell? ⟨g0, 0, none⟩ = some (.int .i64 x)) :
    Calls Tryd.prog 24 #[.slice A st.length c, .func (.func 25) #[] #[.pointer (some ⟨g0, 0, none⟩)]] w fun e w' =>
      (∃ r : Int, e = .returned (.int .i64 r) ∧ ((r = -1 ∧ ∀ y ∈ st, y.t ≠ x) ∨ ∃ (k : Nat) (y : Wy), r = k ∧ st[k]? = some y ∧ y.t = x)) ∧ Below w.heap.size w w' := by
  have H := Lib.hid (And.intro hst hc); clear hst hc
  go_enter Tryd.func24, Tryd.ntmps24
  go_wp2_with fail
  go_loopw [5, 8] (fun _ i wr => ∃ j : Nat, i = .int .i64 j ∧ j ≤ st.length ∧ Hid ((∀ i y, i < j → st[i]? = some y → y.t ≠ x) ∧ Below w.heap.size w wr)) (fun _ i _ => st.length - (intOf i).toNat)
  case atStart => exact ⟨0, rfl, Nat.zero_le _, Lib.hid ⟨fun i y hi => by omega, Below.refl _ _⟩⟩
  case round =>
    obtain ⟨j, rfl, hj, hr⟩ := hrel
    by_cases hlt : j < st.length
    · have hget : st[j]? = some (st[j]'hlt) := List.getElem?_eq_getElem hlt
      generalize st[j] = y at hget
      obtain ⟨g, o, rfl, q0, q1, q2⟩ := in_why (H.out.1.below hr.out.2) hget
      have hcw : wr.cell? ⟨g0, 0, none⟩ = some (.int .i64 x) := (World.cell?_of_block (a := ⟨g0, 0, none⟩) (hr.out.2.block g0 (World.block_lt_of_cell? _ _ H.out.2))).trans H.out.2
      have HS := Lib.hid (steps1_any y g0 x wr hcw)
      have HG := Lib.hid hget
      have HRR := Lib.hid hr.out
      obtain ⟨t, h, o'⟩ := y
      unfold wval at HS
      simp only at q0 q1 q2
      clear hget hcw hr
      by_cases he : t = x
      · have HD := Lib.hid (decide_eq_true he)
        have HE := Lib.hid he; clear he
        rw [HD.out] at HS
        go_wp2_with fail
        refine HS.out.mono ?_
        rintro e w3 ⟨rfl, b3⟩
        go_wp2_with fail
        go_ret
        exact ⟨⟨j, rfl, .inr ⟨j, _, rfl, HG.out, HE.out⟩⟩, HRR.out.2.trans (b3.mono HRR.out.2.size)⟩
      · have HD := Lib.hid (decide_eq_false he)
        have HE := Lib.hid he; clear he
        rw [HD.out] at HS
        go_wp2_with fail
        refine HS.out.mono ?_
        rintro e w3 ⟨rfl, b3⟩
        have HR3 : Hid ((∀ i y, i < j + 1 → st[i]? = some y → y.t ≠ x) ∧ Below w.heap.size w w3) := Lib.hid ⟨fun i z hi hz => by
          rcases Nat.lt_or_ge i j with h1 | h1
          · exact HRR.out.1 i z h1 hz
          · obtain rfl : i = j := by omega
            rw [HG.out] at hz
            injection hz with hz
            subst hz
            exact HE.out, HRR.out.2.trans (b3.mono HRR.out.2.size)⟩
        clear b3
        go_wp2_with fail
        go_roundw
        case rel => exact ⟨j + 1, by go_num, by omega, HR3⟩
        case measure => simp [intOf]; omega
    · obtain rfl : j = st.length := by omega
      go_wp2_with fail
      go_ret
      refine ⟨⟨-1, rfl, .inl ⟨rfl, fun y hy => ?_⟩⟩, hr.out.2⟩
      obtain ⟨i, hi, e⟩ := List.mem_iff_getElem.1 hy
      exact hr.out.1 i y hi (by rw [List.getElem?_eq_getElem hi, e])
/-- A row of steps of one's own. -/
def Whys (w : World) (base : Nat) (v : Value) (st : List Wy) : Prop := w.ownsRow base 40 3 v st.length (wcs st)
theorem wcs_ones (st : List Wy) : ∀ u ∈ wcs st, u.oneCell' = true := by
  intro u hu
  unfold wcs at hu
  rw [List.mem_flatMap] at hu
  obtain ⟨t, _, hu⟩ := hu
  simp only [wcells, List.mem_cons, List.not_mem_nil, or_false] at hu
  rcases hu with rfl | rfl | rfl <;> rfl
theorem clonew_any (ad : Addr) (st : List Wy) (n c : Nat) (hn : st.length = n) (w : World) (hr : Sees w 3 (some ad) n (wcs st)) (hl : n ≤ 100000) :
    Calls Tryd.prog 26 #[.slice (some ad) n c] w fun e w' => ∃ v, e = .returned v ∧ Whys w' w.heap.size v st ∧ Below w.heap.size w w' := by
  have q : ∀ (w : World) (a : Option Addr) (n c n' c' : Nat), (binOp .eql 36 (.slice a n c) (.slice none n' c')).run Tryd.prog w = .ok (.bool a.isNone) w := fun w a n c n' c' => Lib.run_eql_slice_nil w _ _ a n c n' c' Tryd.underlying36
  have hr1 : Sees (w.alloc (.cells #[] 40)) 3 (some ad) n (wcs st) := hr.below ((Below.refl _ _).alloc (Nat.le_refl _) _)
  have HO := Lib.hid (wcs_ones st)
  have HN := Lib.hid hn; clear hn
  go_enter Tryd.func26, Tryd.ntmps26
  go_wp2_with (at_builtin; refine wpList_app rfl (.tmp 5) (.tmp 6) _ rfl w.heap.size 40 _ 3 24 Tryd.underlying36 info_why rfl (by decide) (.slice (some ⟨w.heap.size, 0, none⟩) 0 0) 0 [] rfl (World.ownsRow_made w #[] 0 (Nat.le_refl _) (Nat.zero_le _) rfl) _ n c (wcs st) rfl hr1 HO.out (by unfold maxLen; omega) (by omega) (by simp) ?_; intro v' w1 hown hgrow hat hnil)
  go_ret
  refine ⟨v', rfl, ?_, ?_⟩
  · unfold Whys
    rw [HN.out]
    simpa using hown
  · exact ((Below.refl _ w).alloc (Nat.le_refl _) _).grown hgrow (by simp) (by intro k hk; simp [Value.ownBlock] at hk; omega)

/-- What Steps gives for a term that follows. -/
structure Proof_ (l : List Tm) (gv : List Int) (x : Int) (st : List Wy) : Prop where
  chk : checkW l gv st = true
  once : (termsW st).Nodup
  last : ∃ y, st[st.length - 1]? = some y ∧ y.t = x
  len : 0 < st.length ∧ st.length ≤ l.length
theorem Good.proof {l : List Tm} {gv : List Int} {s : Sr} (g : Good l gv s) {k : Nat} {y : Wy} {x : Int} (hk : s.st[k]? = some y) (hx : y.t = x) : Proof_ l gv x (s.st.take (k + 1)) := by
  have hkl := (List.getElem?_eq_some_iff.1 hk).1
  have hlen : (s.st.take (k + 1)).length = k + 1 := by rw [List.length_take]; omega
  refine ⟨checkW_true ?_, ?_, ⟨y, ?_, hx⟩, by omega, by have := g.le; omega⟩
  · intro i z hi hz
    rw [hlen] at hi
    rw [List.getElem?_take, if_pos hi] at hz
    rw [List.take_take, Nat.min_eq_left (by omega)]
    exact g.chk i z hz
  · have h1 := g.once
    unfold termsW at h1 ⊢
    rw [List.map_take]
    exact h1.sublist (List.take_sublist _ _)
  · rw [hlen, Nat.add_sub_cancel, List.getElem?_take, if_pos (by omega)]
    exact hk
theorem Good.has {l : List Tm} {gv : List Int} {s : Sr} (g : Good l gv s) (hk : s.kn = clo l gv) (x : Int) : x ∈ nums (clo l gv) ↔ x ∈ termsW s.st := by
  rw [mem_nums, ← hk]
  constructor
  · rintro ⟨h1, h2⟩
    exact g.knows h1 h2
  · intro h
    obtain ⟨y, hy, rfl⟩ := List.mem_map.1 h
    have hr := g.rng y hy
    refine ⟨hr.1, (g.know _).2 ?_⟩
    rw [Int.toNat_of_nonneg hr.1]
    exact h

set_option maxHeartbeats 1000000 in
theorem steps_any (p : Nat) (l : List Tm) (x : Int) (A : Option Addr) (gv : List Int) (c pb : Nat) (w : World) (h : CloAt w pb p l A gv) :
    Calls Tryd.prog 16 #[.pointer (some ⟨p, 0, none⟩), .int .i64 x, .slice A gv.length c] w fun e w' => Below w.heap.size w w' ∧
      ((e = .returned (.tuple #[.slice none 0 0, .bool false]) ∧ x ∉ nums (clo l gv)) ∨ ∃ v st, e = .returned (.tuple #[v, .bool true]) ∧ Whys w' w.heap.size v st ∧ Proof_ l gv x st ∧ x ∈ nums (clo l gv)) := by
  have HR := Lib.hid (fun W h => run_any p l A gv c pb W (CloAt.pool h) h.ok h.len h.glen h.row h.wf)
  have hb0 := (Below.refl w.heap.size w).alloc (Nat.le_refl _) (.cells #[.int .i64 x] 3)
  have H0 := Lib.hid (And.intro (h.below hb0) (And.intro hb0 ((Blk.new w 3 #[.int .i64 x]).cell 0))); clear hb0
  have hll := h.len
  clear h
  go_enter Tryd.func16, Tryd.ntmps16
  go_wp2_with fail
  refine (HR.out _ H0.out.1).mono ?_
  rintro e w1 ⟨b, kb, s, rfl, hr, hk⟩
  obtain ⟨sA, sc, hpa⟩ := hr.srch
  have c2 : w1.cell? ⟨b, 2, none⟩ = some (.slice sA s.st.length sc) := hpa.cell2
  have hsl := hr.good.le
  have hcg : w1.cell? ⟨w.heap.size, 0, none⟩ = some (.int .i64 x) := (World.cell?_of_block (a := ⟨w.heap.size, 0, none⟩) (hr.bel.block w.heap.size (by simp))).trans H0.out.2.2
  have HI := Lib.hid (indexw_any sA s.st sc w.heap.size x w1 (Sees.of_own hpa.st) (by omega) hcg)
  have H1 := Lib.hid (And.intro hpa (And.intro hr.good (And.intro hk (H0.out.2.1.trans (hr.bel.mono H0.out.2.1.size))))); clear hpa hr hk hcg
  go_wp2_with fail
  refine HI.out.mono ?_
  rintro e w2 ⟨⟨r, rfl, hcs⟩, b2⟩
  have H2 := Lib.hid (And.intro (H1.out.1.below b2) (H1.out.2.2.2.trans (b2.mono H1.out.2.2.2.size)))
  have c3 : w2.cell? ⟨b, 2, none⟩ = some (.slice sA s.st.length sc) := H2.out.1.cell2
  clear c2 b2
  rcases hcs with ⟨rfl, hno⟩ | ⟨k, y, rfl, hky, hyx⟩
  · have HN : Hid (x ∉ nums (clo l gv)) := Lib.hid fun hx => by
      obtain ⟨y, hy, e⟩ := List.mem_map.1 ((H1.out.2.1.has H1.out.2.2.1 x).1 hx)
      exact hno y hy e
    clear hno
    go_wp2_with fail
    go_ret2
    exact ⟨H2.out.2, .inl ⟨rfl, HN.out⟩⟩
  · have hkl := (List.getElem?_eq_some_iff.1 hky).1
    obtain ⟨g, cap, cur, e1, _, _, hcap, hmax, _, _⟩ := own_open H2.out.1.st (by omega)
    injection e1 with e1 _ e3
    subst e1
    subst e3
    have hsee : Sees w2 3 (some ⟨g, 0, none⟩) (k + 1) (wcs (s.st.take (k + 1))) := by
      obtain ⟨s1, s2⟩ := Sees.of_own H2.out.1.st
      refine ⟨by simp; omega, fun _ => ?_⟩
      obtain ⟨g', o', e', hc⟩ := s2 (by omega)
      refine ⟨g', o', e', fun j u hu => hc j u ?_⟩
      have hsplit : wcs s.st = wcs (s.st.take (k + 1)) ++ wcs (s.st.drop (k + 1)) := by rw [← wcs_append, List.take_append_drop]
      rw [hsplit, List.getElem?_append_left (List.getElem?_eq_some_iff.1 hu).1]
      exact hu
    have HC := Lib.hid (clonew_any ⟨g, 0, none⟩ (s.st.take (k + 1)) (k + 1) sc (by rw [List.length_take]; omega) w2 hsee (by omega))
    have HP := Lib.hid (And.intro (H1.out.2.1.proof hky hyx) ((H1.out.2.1.has H1.out.2.2.1 x).2 (List.mem_map.2 ⟨y, List.mem_of_getElem? hky, hyx⟩)))
    unfold maxLen at hmax
    clear hsee hky hyx
    go_wp2_with fail
    refine HC.out.mono ?_
    rintro e w3 ⟨v3, rfl, hw3, b3⟩
    have H3 := Lib.hid (And.intro hw3 (H2.out.2.trans (b3.mono H2.out.2.size))); clear hw3 b3
    go_wp2_with fail
    go_ret2
    exact ⟨H3.out.2, .inr ⟨v3, _, rfl, own_base H3.out.1 H2.out.2.size, HP.out.1, HP.out.2⟩⟩
end Go.Proofs.YtphhlfochapecaaDoor
