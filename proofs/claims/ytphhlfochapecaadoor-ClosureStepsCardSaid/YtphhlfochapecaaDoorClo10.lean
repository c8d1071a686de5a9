/-
  ClosureGrows: more follows from more; from what follows nothing else.
-/
import Derived.Test.YtphhlfochapecaaDoorClo9
namespace Go.Proofs.YtphhlfochapecaaDoor
set_option maxRecDepth 4000
open Go.RowKit

theorem nums_sorted (k : List Bool) : (nums k).Pairwise (· < ·) := by
  unfold nums numsTo
  rw [List.pairwise_map]
  refine (List.pairwise_lt_range.filter _).imp ?_
  intro a b h
  omega
/-- The scan: none of what is still sought was met. -/
def Sought (a b : List Int) (at_ i : Nat) : Prop := ∀ v ∈ a.drop at_, v ∉ b.take i
theorem sought_no {a b : List Int} (ha : a.Pairwise (· < ·)) (hb : b.Pairwise (· < ·)) (hs : ∀ v ∈ a, v ∈ b) {p i : Nat} (hp : p < a.length) (hi : i < b.length) (h : Sought a b p i) (hne : b.getD i 0 ≠ a.getD p 0) : Sought a b p (i + 1) := by
  intro v hv hm
  rw [List.take_add_one, List.getElem?_eq_getElem hi] at hm
  simp only [Option.toList_some, List.mem_append, List.mem_singleton] at hm
  rcases hm with hm | hm
  · exact h v hv hm
  · have e1 : a.getD p 0 = a[p] := by simp [List.getD_eq_getElem?_getD, hp]
    have e2 : b.getD i 0 = b[i] := by simp [List.getD_eq_getElem?_getD, hi]
    rw [e1, e2] at hne
    rw [List.drop_eq_getElem_cons hp, List.mem_cons] at hv
    rcases hv with hv | hv
    · exact hne (by rw [← hm, hv])
    · obtain ⟨q, hq, e⟩ := List.mem_iff_getElem.1 hv
      have hlt : a[p] < v := by
        rw [← e, List.getElem_drop]
        exact List.pairwise_iff_getElem.1 ha p (p + 1 + q) hp (by simp at hq; omega) (by omega)
      obtain ⟨r, hr, er⟩ := List.mem_iff_getElem.1 (hs a[p] (List.getElem_mem hp))
      have hri : i ≤ r := by
        rcases Nat.lt_or_ge r i with hri | hri
        · exact absurd (List.mem_iff_getElem.2 ⟨r, by rw [List.length_take]; omega, by rw [List.getElem_take, er]⟩) (h a[p] (by rw [List.drop_eq_getElem_cons hp]; exact List.mem_cons_self))
        · exact hri
      have : b[i] ≤ b[r] := by
        rcases Nat.lt_or_ge i r with h1 | h1
        · exact Int.le_of_lt (List.pairwise_iff_getElem.1 hb i r hi hr h1)
        · have : i = r := by omega
          subst this
          exact Int.le_refl _
      omega
theorem sought_yes {a b : List Int} (ha : a.Pairwise (· < ·)) {p i : Nat} (hp : p < a.length) (hi : i < b.length) (h : Sought a b p i) (he : b.getD i 0 = a.getD p 0) : Sought a b (p + 1) (i + 1) := by
  intro v hv hm
  have hv' : v ∈ a.drop p := by rw [List.drop_eq_getElem_cons hp]; exact List.mem_cons_of_mem _ hv
  rw [List.take_add_one, List.getElem?_eq_getElem hi] at hm
  simp only [Option.toList_some, List.mem_append, List.mem_singleton] at hm
  rcases hm with hm | hm
  · exact h v hv' hm
  · have e1 : a.getD p 0 = a[p] := by simp [List.getD_eq_getElem?_getD, hp]
    have e2 : b.getD i 0 = b[i] := by simp [List.getD_eq_getElem?_getD, hi]
    rw [e1, e2] at he
    obtain ⟨q, hq, e⟩ := List.mem_iff_getElem.1 hv
    have hlt : a[p] < v := by
      rw [← e, List.getElem_drop]
      exact List.pairwise_iff_getElem.1 ha p (p + 1 + q) hp (by simp at hq; omega) (by omega)
    omega
theorem sought_end {a b : List Int} (hs : ∀ v ∈ a, v ∈ b) {p : Nat} (h : Sought a b p b.length) (hp : p ≤ a.length) : p = a.length := by
  rcases Nat.lt_or_ge p a.length with h1 | h1
  · have := h a[p] (by rw [List.drop_eq_getElem_cons h1]; exact List.mem_cons_self)
    rw [List.take_length] at this
    exact absurd (hs _ (List.getElem_mem h1)) this
  · omega
theorem clo_mono {l : List Tm} (hp : Pool l) (g1 g2 : List Int) (hs : ∀ x ∈ g1, x ∈ g2) : ∀ v ∈ nums (clo l g1), v ∈ nums (clo l g2) := by
  intro v hv
  rw [mem_nums] at hv ⊢
  exact ⟨hv.1, (clo_iff hp g2 _).2 (fol_mono hs ((clo_iff hp g1 _).1 hv.2))⟩
theorem clo_again {l : List Tm} (hp : Pool l) (gv : List Int) : clo l (nums (clo l gv)) = clo l gv := by
  refine bools_ext (by rw [length_clo, length_clo]) fun n => ?_
  rw [clo_iff hp, clo_iff hp]
  constructor
  · exact fun h => fol_again (fun x hx _ => by
      have := (mem_nums.1 hx).2
      rw [Int.toNat_natCast] at this
      exact (clo_iff hp gv x).1 this) h
  · intro h
    have hn := fol_lt hp h
    exact .given n (mem_nums.2 ⟨by omega, by rw [Int.toNat_natCast]; exact (clo_iff hp gv n).2 h⟩) hn
theorem nums_wf {k : List Bool} (h : k.length ≤ 100000) : ∀ x ∈ nums k, (Lit.int .i64 x).wf = true := by
  intro x hx
  obtain ⟨h1, h2⟩ := mem_nums.1 hx
  have := at_lt h2
  simp [Lit.wf, IntKind.min, IntKind.max, IntKind.bits, IntKind.signed]
  omega
theorem nums_len (k : List Bool) : (nums k).length ≤ k.length := length_numsTo k k.length

set_option maxHeartbeats 1000000 in
theorem grows_walk (A : Option Addr) (ts : List Tm) (len c : Nat) (ga : Option Addr) (glen gcap : Nat) (gz : List Int) (ma : Option Addr) (mlen mcap : Nat) (mz : List Int) (W : World) (hT : Tab10 W) (hm : ts.length = len) (hI : InTerms W A ts c) (hg : IsRow .i64 W ga glen gcap gz) (hmo : IsRow .i64 W ma mlen mcap mz) :
    Calls Tryd.prog 4 #[.slice A len c, .slice ga glen gcap, .slice ma mlen mcap] W fun e W' => e = .returned (.bool true) ∧ Below W.heap.size W W' := by
  subst hm
  obtain ⟨gv, rfl, hgs, hgw⟩ := row_ints hg
  obtain ⟨mv, rfl, hms, hmw⟩ := row_ints hmo
  clear hg hmo
  have HA := Lib.hid (fun w h => awake_any w h)
  have HT := Lib.hid hT; clear hT
  have HGV := Lib.hid (And.intro hgs (And.intro hgw (And.intro hms hmw))); clear hgs hgw hms hmw
  by_cases hbig : 60 < ts.length ∨ 20 < gv.length ∨ 20 < mv.length
  · by_cases h60 : 60 < ts.length
    · clear hbig
      go_enter Tryd.func4, Tryd.ntmps4
      go_wp2_with fail
      refine (HA.out W HT.out).mono ?_
      rintro e w1 ⟨rfl, b1⟩
      go_wp2_with fail
      refine (HA.out w1 (HT.out.below (Nat.le_refl _) b1)).mono ?_
      rintro e w2 ⟨rfl, b2⟩
      go_wp2_with fail
      go_ret
      exact ⟨rfl, b1.trans (b2.mono b1.size)⟩
    · by_cases h20 : 20 < gv.length
      · clear hbig
        go_enter Tryd.func4, Tryd.ntmps4
        go_wp2_with fail
        refine (HA.out W HT.out).mono ?_
        rintro e w1 ⟨rfl, b1⟩
        go_wp2_with fail
        refine (HA.out w1 (HT.out.below (Nat.le_refl _) b1)).mono ?_
        rintro e w2 ⟨rfl, b2⟩
        go_wp2_with fail
        go_ret
        exact ⟨rfl, b1.trans (b2.mono b1.size)⟩
      · have h20' : 20 < mv.length := by omega
        clear hbig
        go_enter Tryd.func4, Tryd.ntmps4
        go_wp2_with fail
        refine (HA.out W HT.out).mono ?_
        rintro e w1 ⟨rfl, b1⟩
        go_wp2_with fail
        refine (HA.out w1 (HT.out.below (Nat.le_refl _) b1)).mono ?_
        rintro e w2 ⟨rfl, b2⟩
        go_wp2_with fail
        go_ret
        exact ⟨rfl, b1.trans (b2.mono b1.size)⟩
  · have h60 : ¬ (60 < ts.length) := fun h => hbig (.inl h)
    have h20 : ¬ (20 < gv.length) := fun h => hbig (.inr (.inl h))
    have h21 : ¬ (20 < mv.length) := fun h => hbig (.inr (.inr h))
    clear hbig
    obtain ⟨hpool, hlen⟩ := putsT_pool ts (fit_wf hI.wf)
    have HI := Lib.hid hI; clear hI
    have HM := Lib.hid (fun w h1 h2 => made_any A ts c w h1 (by omega) h2)
    obtain ⟨l, hl⟩ : ∃ l, putsT [] ts = l := ⟨_, rfl⟩
    rw [hl] at HM hpool hlen
    clear hl
    have hll : l.length ≤ 60 := by omega
    have hcl := length_clo l gv
    have hcl2 := length_clo l (gv ++ mv)
    have hnl := nums_len (clo l gv)
    have hnl2 := nums_len (clo l (gv ++ mv))
    have HQ := Lib.hid (And.intro (nums_sorted (clo l gv)) (And.intro (nums_sorted (clo l (gv ++ mv))) (And.intro (clo_mono hpool gv (gv ++ mv) (fun x hx => List.mem_append_left _ hx)) (And.intro (show nums (clo l (nums (clo l gv))) = nums (clo l gv) by rw [clo_again hpool gv]) (nums_wf (k := clo l gv) (by omega))))))
    have HP := Lib.hid hpool; clear hpool
    go_enter Tryd.func4, Tryd.ntmps4
    go_wp2_with fail
    refine (HA.out W HT.out).mono ?_
    rintro e w1 ⟨rfl, b1⟩
    have HB1 := Lib.hid b1; clear b1
    go_wp2_with fail
    refine (HM.out w1 (HI.out.below HB1.out) (HT.out.below (Nat.le_refl _) HB1.out)).mono ?_
    rintro e w2 ⟨p, v, rfl, hm⟩
    have HM2 := Lib.hid hm; clear hm
    have HG2 := Lib.hid (And.intro (HGV.out.1.below (HB1.out.trans (HM2.out.bel.mono HB1.out.size))) (HGV.out.2.2.1.below (HB1.out.trans (HM2.out.bel.mono HB1.out.size))))
    go_wp2_with fail
    refine (close_any p l ga gv gcap w1.heap.size w2 (HM2.out.clo HP.out (by omega) (by omega) HG2.out.1 HGV.out.2.1)).mono ?_
    rintro e w3 ⟨v3, rfl, hn3, b3⟩
    obtain ⟨aA, ac, rfl⟩ := own_shape hn3
    have HM3 := Lib.hid (HM2.out.below b3)
    have HG3 := Lib.hid (And.intro (HG2.out.1.below b3) (HG2.out.2.below b3))
    have HN3 := Lib.hid hn3.sees; clear hn3 b3
    have HE3 := Lib.hid ((Below.refl w3.heap.size w3).alloc (Nat.le_refl _) (.cells #[] 3))
    have HG4 := Lib.hid (HG3.out.1.below HE3.out)
    go_wp2_with (first
      | (at_builtin; refine wpList_app rfl (.tmp 42) (.tmp 43) 23 rfl w3.heap.size 3 _ 1 8 Tryd.underlying23 info_i64 rfl (by decide) (.slice (some ⟨w3.heap.size, 0, none⟩) 0 0) 0 [] rfl (World.ownsRow_made w3 #[] 0 (Nat.le_refl _) (Nat.zero_le _) rfl) ga gv.length gcap (i64s gv) rfl HG4.out (by simp [i64s, Value.oneCell']) (by unfold maxLen; omega) (by omega) (by simp) ?_; intro v4 w4 hown4 hgr4 hat4 hnil4; rw [Nat.zero_add, List.nil_append] at hown4; have H4 := Lib.hid (And.intro hown4 (HE3.out.grown hgr4 HE3.out.size (fun g hg => by simp [Value.ownBlock] at hg; omega))); have HG5 := Lib.hid (HG3.out.2.below H4.out.2); clear hown4 hgr4 hat4 hnil4)
      | (at_builtin; refine wpList_app rfl (.tmp 44) (.tmp 45) 23 rfl w3.heap.size 3 _ 1 8 Tryd.underlying23 info_i64 rfl (by decide) v4 gv.length (i64s gv) rfl H4.out.1 ma mv.length mcap (i64s mv) rfl HG5.out (by simp [i64s, Value.oneCell']) (by unfold maxLen; omega) (by omega) H4.out.2.size ?_; intro v5 w5 hown5 hgr5 hat5 hnil5; obtain ⟨bA, bc, rfl⟩ := own_shape hown5; have H5 := Lib.hid (And.intro hown5 (H4.out.2.grown hgr5 H4.out.2.size (fun g hg => (H4.out.1.lt g hg).1))); clear hown5 hgr5 hat5 hnil5))
    have HM5 := Lib.hid (HM3.out.below H5.out.2)
    have HS5 : Hid (Sees w5 1 bA (gv ++ mv).length (i64s (gv ++ mv))) := Lib.hid (by
      have := Sees.of_own H5.out.1
      rwa [List.length_append, i64s_append])
    have hwf2 : ∀ x ∈ gv ++ mv, (Lit.int .i64 x).wf = true := fun x hx => by
      rw [List.mem_append] at hx
      exact hx.elim (HGV.out.2.1 x) (HGV.out.2.2.2 x)
    have hlb : (gv ++ mv).length ≤ 10000 := by simp; omega
    have HC5 := Lib.hid (close_any p l bA (gv ++ mv) bc w1.heap.size w5 (HM5.out.clo HP.out (by omega) hlb HS5.out hwf2))
    rw [List.length_append] at HC5
    clear hwf2 hlb
    refine HC5.out.mono ?_
    rintro e w6 ⟨v6, rfl, hn6, b6⟩
    obtain ⟨yA, yc, rfl⟩ := own_shape hn6
    have HM6 := Lib.hid (HM5.out.below b6)
    have HN6 := Lib.hid (And.intro ((HN3.out.below H5.out.2).below b6) hn6.sees); clear hn6 b6
    clear HC5 HS5
    generalize nums (clo l gv) = Z at *
    generalize nums (clo l (gv ++ mv)) = Y at *
    go_wp2_with fail
    go_loopw [11, 12] (fun p i wr => ∃ a j : Nat, p = .int .i64 a ∧ i = .int .i64 j ∧ a ≤ Z.length ∧ j ≤ Y.length ∧ Hid (Sought Z Y a j ∧ Below w6.heap.size w6 wr)) (fun _ i _ => Y.length - (intOf i).toNat)
    case atStart => exact ⟨0, 0, rfl, rfl, Nat.zero_le _, Nat.zero_le _, Lib.hid ⟨fun v _ hm => by simp at hm, Below.refl _ _⟩⟩
    case round =>
      obtain ⟨a, j, rfl, rfl, ha, hj, hr⟩ := hrel
      by_cases hlt : j < Y.length ∧ a < Z.length
      · obtain ⟨hj1, ha1⟩ := hlt
        obtain ⟨g, o, rfl, q0⟩ := sees_int (HN6.out.1.below hr.out.2) ha1
        obtain ⟨g2, o2, rfl, q1⟩ := sees_int (HN6.out.2.below hr.out.2) hj1
        obtain ⟨x, hx⟩ : ∃ x, Z.getD a 0 = x := ⟨_, rfl⟩
        obtain ⟨y, hy⟩ : ∃ y, Y.getD j 0 = y := ⟨_, rfl⟩
        rw [hx] at q0
        rw [hy] at q1
        have HS := Lib.hid (And.intro q0 q1); clear q0 q1
        have HXY := Lib.hid (And.intro hx hy); clear hx hy
        go_wp2_with fail
        refine region_fast [(0, true), (1, true), (2, true), (3, true), (4, true), (5, true), (6, true), (7, true), (8, true)] [1, 4, 5, 6, 7] 242 [(1152921504606846976, 1024, 0, 0), (2305843009213693952, 4096, 0, 0), (4611686018427387904, 3458764513820540928, 3, 3), (9223372036854775808, 4611686018427387904, 4, 7), (18446744073709551616, 512, 0, 0), (36893488147419103232, 2048, 0, 0), (73786976294838206464, 55340232221128654848, 48, 48), (147573952589676412928, 73786976294838206464, 64, 112), (295147905179352825856, 156797324626531188736, 136, 255)] (fun W => W.cell? ⟨g, o + a, none⟩ = some (.int .i64 x) ∧ W.cell? ⟨g2, o2 + j, none⟩ = some (.int .i64 y)) (by kernel_rfl) (by kernel_rfl) (by kernel_rfl) rfl (by kernel_rfl) (by kernel_rfl) HS.out (fun hS => ?_)
        repeat (first
          | (refine plan_read (v := ?_) rfl (fun _ _ _ h => h) rfl hS ?_ ?_; rotate_left 1; (focus (intro w' hS'; obtain ⟨s1, s2⟩ := hS'; go_simp; try rfl)); (simp only [Act.put, List.setIfInBounds_toArray]; dsimp only [List.set_cons_zero, List.set_cons_succ]))
          | (refine plan_skip rfl (fun _ _ _ h => h) rfl hS ?_; (simp only [Act.put, List.setIfInBounds_toArray]; dsimp only [List.set_cons_zero, List.set_cons_succ])))
        refine plan_nil ?_
        clear hS HS
        by_cases hxy : y = x
        · subst hxy
          have HR : Hid (Sought Z Y (a + 1) (j + 1) ∧ Below w6.heap.size w6 wr.drew) := Lib.hid ⟨sought_yes HQ.out.1 ha1 hj1 hr.out.1 (by rw [HXY.out.1, HXY.out.2]), hr.out.2.drew⟩
          go_wp2_with fail
          go_roundw
          case rel => exact ⟨a + 1, j + 1, by go_num, by go_num, by omega, by omega, HR⟩
          case measure => simp [intOf]; omega
        · have hb1 : ((y : Int) == x) = false := by simpa using hxy
          have HR : Hid (Sought Z Y a (j + 1) ∧ Below w6.heap.size w6 wr.drew) := Lib.hid ⟨sought_no HQ.out.1 HQ.out.2.1 HQ.out.2.2.1 ha1 hj1 hr.out.1 (by rw [HXY.out.1, HXY.out.2]; exact hxy), hr.out.2.drew⟩
          clear hxy
          go_wp2_with fail
          go_roundw
          case rel => exact ⟨a, j + 1, rfl, by go_num, by omega, by omega, HR⟩
          case measure => simp [intOf]; omega
      · have hae : a = Z.length := by
          rcases Nat.lt_or_ge j Y.length with h | h
          · omega
          · obtain rfl : j = Y.length := by omega
            exact sought_end HQ.out.2.2.1 hr.out.1 ha
        subst hae
        have HM7 := Lib.hid (HM6.out.below hr.out.2)
        have HN7 := Lib.hid (HN6.out.1.below hr.out.2)
        have HB7 := Lib.hid hr.out.2
        clear hr
        have HC7 := Lib.hid (close_any p l aA Z ac w1.heap.size wr (HM7.out.clo HP.out (by omega) (by omega) HN7.out HQ.out.2.2.2.2))
        rw [HQ.out.2.2.2.1] at HC7
        have HIN := Lib.hid (fun (A B : Option Addr) c d w h1 h2 => ints_any A B Z Z c d w h1 h2 (by omega) (by omega))
        by_cases hj1 : j < Y.length
        · clear hlt
          go_wp2_with fail
          refine HC7.out.mono ?_
          rintro e w8 ⟨v8, rfl, hn8, b8⟩
          obtain ⟨zA, zc, rfl⟩ := own_shape hn8
          have HM8 := Lib.hid (HM7.out.below b8)
          have HN8 := Lib.hid (And.intro hn8.sees (HN7.out.below b8)); clear hn8 b8
          go_wp2_with fail
          refine (HIN.out zA aA zc ac w8 HN8.out.1 HN8.out.2).mono ?_
          rintro e w9 ⟨rfl, b9⟩
          have HM9 := Lib.hid (HM8.out.below b9); clear b9
          go_wp2_with fail
          go_ret
          exact ⟨ret_bool (by simp), HB1.out.trans (HM9.out.bel.mono HB1.out.size)⟩
        · obtain rfl : j = Y.length := by omega
          clear hlt
          go_wp2_with fail
          refine HC7.out.mono ?_
          rintro e w8 ⟨v8, rfl, hn8, b8⟩
          obtain ⟨zA, zc, rfl⟩ := own_shape hn8
          have HM8 := Lib.hid (HM7.out.below b8)
          have HN8 := Lib.hid (And.intro hn8.sees (HN7.out.below b8)); clear hn8 b8
          go_wp2_with fail
          refine (HIN.out zA aA zc ac w8 HN8.out.1 HN8.out.2).mono ?_
          rintro e w9 ⟨rfl, b9⟩
          have HM9 := Lib.hid (HM8.out.below b9); clear b9
          go_wp2_with fail
          go_ret
          exact ⟨ret_bool (by simp), HB1.out.trans (HM9.out.bel.mono HB1.out.size)⟩
end Go.Proofs.YtphhlfochapecaaDoor
