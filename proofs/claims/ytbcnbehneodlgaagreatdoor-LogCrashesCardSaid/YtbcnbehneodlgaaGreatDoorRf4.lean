/-
  The document's disk: Write.
-/
import Derived.Test.YtbcnbehneodlgaaGreatDoorRf1
import Derived.Test.YtbcnbehneodlgaaGreatDoorGD
import Derived.Test.YtbcnbehneodlgaaGreatDoorRes
import Derived.Test.YtbcnbehneodlgaaGreatDoorLog3
namespace Go.Proofs.YtbcnbehneodlgaaGreatDoor
set_option maxRecDepth 4000
open Go.RowKit

theorem str_extract (l : List UInt8) (a b : Nat) : (str l).extract a b = str ((l.drop a).take (b - a)) := by
  apply ByteArray.ext
  simp [str]

theorem wp_mid6 {P : Program} {c : Code} {Q' : Exit → Act → World → Prop} {a : Act} {w : World} (F : Nat → Option Addr → Nat → Nat → Option Addr → Nat → Act) (R : Nat → Option Addr → Nat → Nat → Option Addr → Nat → World → Prop)
    (h : c.wp P (fun e a' w' => e = .normal ∧ ∃ p A m q C k, a' = F p A m q C k ∧ R p A m q C k w') a w) (hq : ∀ p A m q C k w', R p A m q C k w' → Q' .normal (F p A m q C k) w') : c.wp P Q' a w :=
  wp_mono h (by rintro _ _ _ ⟨rfl, p, A, m, q, C, k, rfl, hR⟩; exact hq p A m q C k _ hR)

set_option maxHeartbeats 4000000 in
theorem rwrite_any (base d : Nat) (S : List (List UInt8)) (A B0 C0 : Option Addr) (cA cB0 cC0 : Nat) (a m : Nat) (X : List UInt8) (w : World) (h : RD w base d S [] [] A cA B0 cB0 C0 cC0) (hX : X.length = m * 128) (hfit : a + m ≤ S.length) (hS : S.length ≤ 100000) (hb : base ≤ w.heap.size) :
    Calls Tryz.prog 46 #[.pointer (some ⟨d, 0, none⟩), .int .i64 a, .string (str X)] w fun e w' => e = .returned (.int .i64 0) ∧ (∃ T W B cB C cC, T.length = m ∧ RD w' base d S T W A cA B cB C cC) ∧ Below base w w' ∧ Fr (fun k => k = d) w w' := by
  have HT := Lib.hid (rthere_any d A S.length cA _ _ a m w h.top (by omega) hfit)
  have HO := Lib.hid (ron_any d (_, _, _) w h.top)
  have hs : (str X).size = m * 128 := by rw [size_str, hX]
  have hx : ∀ i : Nat, (str X).extract (i * 128) (i * 128 + 128) = str ((X.drop (i * 128)).take 128) := fun i => by rw [str_extract, Nat.add_sub_cancel_left]
  obtain ⟨Z, hZ⟩ : ∃ Z, Z = str X := ⟨_, rfl⟩
  rw [← hZ] at hs hx ⊢
  have HX := Lib.hid hx
  have HS := Lib.hid (And.intro hS hfit)
  have H := Lib.hid (And.intro h hb)
  have ha : a ≤ 100000 := by omega
  have hm : m ≤ 100000 := by omega
  have hm0 : ((m * 128 : Nat) : Int).tmod 128 = 0 := by rw [Int.tmod_eq_emod_of_nonneg (by omega)]; omega
  have hmd : ((m * 128 : Nat) : Int).tdiv 128 = (m : Int) := by rw [Int.tdiv_eq_ediv_of_nonneg (by omega)]; omega
  obtain ⟨N, hN⟩ : ∃ N, N = m * 128 := ⟨_, rfl⟩
  rw [← hN] at hs hm0 hmd
  have hN0 : N % 128 = 0 := by omega
  have hNd : N / 128 = m := by omega
  have hNi : (N : Int) / 128 = (m : Int) := by omega
  have hNm : (N : Int) % 128 = 0 := by omega
  have HN := Lib.hid hN
  clear h hX hfit hS hb hZ hx hN
  go_enter Tryz.func46, Tryz.ntmps46
  go_wp2_with fail
  refine HT.out.mono ?_
  rintro e w1 ⟨rfl, rfl⟩
  go_wp2_with fail
  refine HO.out.mono ?_
  rintro e w1 ⟨rfl, rfl⟩
  go_wp2_with fail
  go_loopw [7] (fun i wr => ∃ j : Nat, i = .int .i64 (j * 128 : Nat) ∧ j ≤ m ∧ Hid (∃ T W B cB C cC, T.length = j ∧ RD wr base d S T W A cA B cB C cC ∧ Below base w wr ∧ Fr (fun k => k = d) w wr)) (fun i _ => N - (intOf i).toNat)
  case atStart => exact ⟨0, rfl, Nat.zero_le _, Lib.hid ⟨[], [], B0, cB0, C0, cC0, rfl, H.out.1, Below.refl _ _, Fr.refl _ _⟩⟩
  case round =>
    obtain ⟨j, rfl, hj, hr⟩ := hrel
    obtain ⟨T, W, B, cB, C, cC, hTj, hR, bel, fr0⟩ := hr.out
    obtain ⟨M, hM⟩ : ∃ M, M = j * 128 := ⟨_, rfl⟩
    rw [← hM]
    by_cases hlt : j < m
    · have hlt1 : ((M : Int) + 128 ≤ (N : Int)) := by have := HN.out; omega
      have hlt2 : M + 128 ≤ N := by omega
      have hw1 : IntKind.i64.wrap ((M : Int) + 128) = (M : Int) + 128 := IntWalk.i64_in _ (by have := HN.out; omega)
      have hp0 : (0 : Int) ≤ (M : Int) + 128 := by omega
      have hp1 : (M : Int) ≤ (M : Int) + 128 := by omega
      have hp2 : ((M : Int) + 128).toNat = M + 128 := by omega
      have hMd : (M : Int) / 128 = (j : Int) := by omega
      have hMt : (M : Int).tdiv 128 = (j : Int) := by rw [Int.tdiv_eq_ediv_of_nonneg (by omega)]; omega
      have hw2 : IntKind.i64.wrap ((a : Int) + (j : Int)) = (a : Int) + (j : Int) := IntWalk.i64_in _ (by omega)
      have hw3 : IntKind.i64.wrap (j : Int) = (j : Int) := IntWalk.i64_in _ (by omega)
      have hx1 : Z.extract M (M + 128) = str ((X.drop M).take 128) := by rw [hM]; exact HX.out j
      obtain ⟨y, hy⟩ : ∃ y, y = (X.drop M).take 128 := ⟨_, rfl⟩
      rw [← hy] at hx1
      obtain ⟨Y, hY⟩ : ∃ Y, Y = str y := ⟨_, rfl⟩
      rw [← hY] at hx1
      have HY := Lib.hid hY
      have hWj : W.length = j := by rw [hR.same, hTj]
      have hdl := hR.top.lt
      have c1 : wr.cell? ⟨d, 1, none⟩ = some (.slice B j cB) := by rw [← hTj]; exact hR.top.cell 1
      have f1 : wr.frozen? ⟨d, 1, none⟩ = false := hR.top.frozen 1
      have HR := Lib.hid (And.intro hR (And.intro bel (And.intro hTj (And.intro hWj fr0))))
      have HM := Lib.hid hM
      have hbw : base ≤ wr.heap.size := Nat.le_trans H.out.2 bel.size
      have hjb : j ≤ 100000 := by omega
      have HST : Hid (∀ (W1 : World), Below wr.heap.size wr W1 → Sees W1 1 B j (intsR T)) := Lib.hid (fun W1 hb => by
        have := Sees.of_own (own_below hR.t hb)
        rw [hTj] at this
        exact this)
      clear hR bel hr hY hy hTj hWj hM fr0
      have hwz : wr.heap.size < wr.heap.size + 1 := Nat.lt_succ_self _
      go_wp2_with (at_builtin; first
        | (refine wpList_app rfl (.tmp 30) (.tmp 34) 23 rfl wr.heap.size 3 _ 1 8 Tryz.underlying23 info_intR rfl (by decide) (.slice (some ⟨wr.heap.size, 0, none⟩) 0 0) 0 [] rfl (own_mk (Nat.le_refl _) (Blk.new _ _ _) (Nat.le_refl _) (Nat.zero_le _) rfl rfl) B j cB (intsR T) rfl (HST.out _ ((Below.refl _ _).alloc (Nat.le_refl _) _)) (intsR_one T) (by unfold maxLen; omega) (by omega) (by simp) ?_; intro v1 u1 n1 n2 n3 n4; have f2 : Below wr.heap.size wr u1 := ((Below.refl _ _).alloc (Nat.le_refl wr.heap.size) _).grown n2 (by simp) (fun k hk => by have : wr.heap.size = k := (by simpa [Value.ownBlock] using hk); omega); rw [Nat.zero_add, List.nil_append] at n1; obtain ⟨B1, c1', rfl⟩ := own_shape n1; have c1u : u1.cell? ⟨d, 1, none⟩ = some (.slice B j cB) := (f2.cell hdl).trans c1; have f1u : u1.frozen? ⟨d, 1, none⟩ = false := (World.frozen?_of_block (a := ⟨d, 1, none⟩) (f2.block d hdl)).trans f1; have HN1 := Lib.hid (And.intro n1 f2); clear n1 n2 n3 n4 f2)
        | (refine wpList_app rfl (.tmp 35) (.tmp 40) 23 rfl wr.heap.size 3 _ 1 8 Tryz.underlying23 info_intR rfl (by decide) (.slice B1 j c1') j (intsR T) rfl (own_below HN1.out.1 ((Below.refl _ _).alloc (Nat.le_refl _) _)) (some ⟨u1.heap.size, 0, none⟩) 1 1 (intsR [(a : Int) + (j : Int)]) rfl (sees_new u1 3 (intsR [(a : Int) + (j : Int)]) 1 1 rfl) (intsR_one _) (by unfold maxLen; omega) (by omega) (by have := HN1.out.2.size; simp; omega) ?_; intro v2 u2 n1 n2 n3 n4; have f3 : Below wr.heap.size wr u2 := (HN1.out.2.alloc HN1.out.2.size _).grown n2 (by have := HN1.out.2.size; simp; omega) (fun k hk => (HN1.out.1.lt k hk).1); obtain ⟨B2, c2', rfl⟩ := own_shape n1; have c2u : u2.cell? ⟨d, 1, none⟩ = some (.slice B j cB) := (f3.cell hdl).trans c1; have f2u : u2.frozen? ⟨d, 1, none⟩ = false := (World.frozen?_of_block (a := ⟨d, 1, none⟩) (f3.block d hdl)).trans f1; have HN2 := Lib.hid (And.intro n1 f3); clear n1 n2 n3 n4 f3))
      have g5 : Fr (fun k => k = d) u2 (u2.setCell ⟨d, 1, none⟩ (.slice B2 (j + 1) c2')) := Fr.setCell _ _ _ rfl
      have top5 := (HR.out.1.top.below HN2.out.2 hdl).set_ 1 (.slice B2 (j + 1) c2')
      have bel5 : Below base w (u2.setCell ⟨d, 1, none⟩ (.slice B2 (j + 1) c2')) := (HR.out.2.1.trans (HN2.out.2.mono hbw)).setCell HR.out.1.lo _
      have hT5 : (intsR T ++ intsR [(a : Int) + (j : Int)]) = intsR (T ++ [(a : Int) + (j : Int)]) := by simp [intsR]
      have hn1 := HN2.out.1
      rw [hT5] at hn1
      have t5 := own_fr hn1 g5 (own_ne hn1 (HR.out.1.top.below HN2.out.2 hdl) (by decide))
      have ws5 := own_fr (own_below HR.out.1.w_ HN2.out.2) g5 (own_ne (own_below HR.out.1.w_ HN2.out.2) (HR.out.1.top.below HN2.out.2 hdl) (by decide))
      have s5 := own_fr (own_below HR.out.1.s HN2.out.2) g5 (own_ne (own_below HR.out.1.s HN2.out.2) (HR.out.1.top.below HN2.out.2 hdl) (by decide))
      have t5 := own_base t5 hbw
      have fr5 := (HR.out.2.2.2.2.trans (Fr.of_below HN2.out.2 (fun k => k = d)) (fun _ _ h => h)).trans g5 (fun _ _ h => h)
      generalize u2.setCell ⟨d, 1, none⟩ (.slice B2 (j + 1) c2') = w5 at *
      have hdl5 := top5.lt
      have c2 : w5.cell? ⟨d, 2, none⟩ = some (.slice C j cC) := by rw [← HR.out.2.2.2.1]; exact top5.cell 2
      have f2 : w5.frozen? ⟨d, 2, none⟩ = false := top5.frozen 2
      have HW5 : Hid (Sees w5 1 C j (strs W)) := Lib.hid (by rw [← HR.out.2.2.2.1]; exact Sees.of_own ws5)
      have HONE : Hid (∀ u ∈ strs W, u.oneCell' = true) := Lib.hid (by
        intro u hu
        obtain ⟨x, _, rfl⟩ := List.mem_map.1 hu
        rfl)
      have HLEAF : Hid (∀ (L : World) (B4 : Option Addr) (c4 : Nat), Below w5.heap.size w5 L → L.ownsRow w5.heap.size 9 1 (.slice B4 (j + 1) c4) (j + 1) (strs W ++ [.string Y]) →
          RD (L.setCell ⟨d, 2, none⟩ (.slice B4 (j + 1) c4)) base d S (T ++ [(a : Int) + (j : Int)]) (W ++ [y]) A cA B2 c2' B4 c4 ∧ Below base w (L.setCell ⟨d, 2, none⟩ (.slice B4 (j + 1) c4)) ∧ Fr (fun k => k = d) w (L.setCell ⟨d, 2, none⟩ (.slice B4 (j + 1) c4))) := Lib.hid (by
        intro L B4 c4 hL hown
        have g6 : Fr (fun k => k = d) L (L.setCell ⟨d, 2, none⟩ (.slice B4 (j + 1) c4)) := Fr.setCell _ _ _ rfl
        have topL := top5.below hL hdl5
        have top6 := topL.set_ 2 (.slice B4 (j + 1) c4)
        have hbs : base ≤ w5.heap.size := Nat.le_trans H.out.2 bel5.size
        have hown := own_base hown hbs
        have e1 : (W ++ [y]).length = j + 1 := by rw [List.length_append, HR.out.2.2.2.1]; rfl
        have e2 : strs (W ++ [y]) = strs W ++ [.string Y] := by rw [HY.out]; simp [strs]
        have e3 : (T ++ [(a : Int) + (j : Int)]).length = j + 1 := by rw [List.length_append, HR.out.2.2.1]; rfl
        refine ⟨⟨?_, HR.out.1.lo, own_fr (own_below s5 hL) g6 (own_ne (own_below s5 hL) topL (by decide)), ?_, ?_, by rw [e1, e3]⟩, (bel5.trans (hL.mono hbs)).setCell HR.out.1.lo _, (fr5.trans (Fr.of_below hL (fun k => k = d)) (fun _ _ h => h)).trans g6 (fun _ _ h => h)⟩
        · rw [e1, e3]
          exact top6
        · rw [e3]
          exact own_fr (own_below t5 hL) g6 (own_ne (own_below t5 hL) topL (by decide))
        · rw [e1, e2]
          exact own_fr hown g6 (own_ne hown topL (by decide)))
      clear top5 t5 ws5 s5 bel5 g5 hn1 hT5 fr5
      refine wp_mid6 ?F (fun _ _ _ _ B4 c4 W' => RD W' base d S (T ++ [(a : Int) + (j : Int)]) (W ++ [y]) A cA B2 c2' B4 c4 ∧ Below base w W' ∧ Fr (fun k => k = d) w W') ?reg ?go
      case reg =>
        refine region_tree (.read 0 (.read 2 (.read 3 (.read 4 (.read 5 (.read 7 (.read 8 (.read 9 (.read 10 (.read 11 (.two 1 (.two 6 (.one 12 (.one 13 (.read 14 (.read 15 (.one 16 .leaf))))) 12 (.one 6 (.one 13 (.read 14 (.read 15 (.one 16 .leaf)))))) 12 (.one 1 (.one 6 (.one 13 (.read 14 (.read 15 (.one 16 .leaf))))))))))))))))) [1, 2, 3, 4, 5, 6, 7, 8, 9, 10, 11, 12, 13] 16382 [(17592186044416, 1, 0, 0), (35184372088832, 0, 0, 0), (70368744177664, 1, 0, 0), (140737488355328, 70368744177664, 4, 4), (281474976710656, 140737488355328, 8, 12), (562949953421312, 281474976710656, 16, 28), (1125899906842624, 598134325510144, 34, 62), (2251799813685248, 4, 0, 0), (4503599627370496, 128, 0, 0), (9007199254740992, 128, 0, 0), (18014398509481984, 9007199254740992, 512, 512), (36028797018963968, 24769797950537728, 1408, 1920), (72057594037927936, 36028797018963968, 2048, 3968), (144115188075855872, 73183493944770560, 4160, 8190), (288230376151711744, 17592186044416, 16383, 16383), (576460752303423488, 288230376151711744, 32767, 32767), (0, 720575940379279360, 49151, 65535)] (fun L => Below w5.heap.size w5 L) (by kernel_rfl) (by kernel_rfl) (by kernel_rfl) rfl (by kernel_rfl) (by kernel_rfl) (Below.refl _ _).drew (fun hS => ?_)
        repeat (first
          | (refine tree_read (v := ?_) rfl (fun _ _ _ h => by first | exact h | cases h.1) rfl hS ?_ ?_; rotate_left 1; (focus (intro w' hS'; have e2 := (hS'.cell hdl5).trans c2; go_simp; try rfl)); (simp only [Act.put, List.setIfInBounds_toArray]; dsimp only [List.set_cons_zero, List.set_cons_succ]))
          | (refine tree_skip rfl (fun _ _ _ h => by first | exact h | cases h.1) rfl hS ?_; (simp only [Act.put, List.setIfInBounds_toArray]; dsimp only [List.set_cons_zero, List.set_cons_succ])))
        refine tree_two ?_ ?_
        · skip
          refine tree_do (by rfl) (by rfl) (fun K hK => ?_)
          go_simp
          have bel := (Below.refl _ _).alloc (Nat.le_refl w5.drew.heap.size) (.cells #[] 9)
          obtain ⟨p1, hp⟩ : ∃ p, w5.heap.size = p := ⟨_, rfl⟩
          have n1 : (w5.drew.alloc (.cells #[] 9)).ownsRow w5.heap.size 9 1 (.slice (some ⟨p1, 0, none⟩) 0 0) 0 [] := (by rw [← hp]; exact own_mk hS.size (Blk.new _ _ _) (Nat.le_refl _) (Nat.zero_le _) rfl rfl)
          rw [hp]
          obtain ⟨w10, hw⟩ : ∃ w2, w5.drew.alloc (.cells #[] 9) = w2 := ⟨_, rfl⟩
          rw [hw] at bel n1
          rw [show (w5.alloc (.cells #[] 9)).drew = w10 from hw]
          clear hw hp
          refine hK.out _ _ (fun _ => hS.trans (bel.mono hS.size)) (fun hS => ?_); clear hK K; replace hS := hS rfl; try (simp only [Act.put, List.setIfInBounds_toArray]; dsimp only [List.set_cons_zero, List.set_cons_succ])
          repeat (first
            | (refine tree_read (v := ?_) rfl (fun _ _ _ h => by first | exact h | cases h.1) rfl hS ?_ ?_; rotate_left 1; (focus (intro w' hS'; have e2 := (hS'.cell hdl5).trans c2; go_simp; try rfl)); (simp only [Act.put, List.setIfInBounds_toArray]; dsimp only [List.set_cons_zero, List.set_cons_succ]))
            | (refine tree_skip rfl (fun _ _ _ h => by first | exact h | cases h.1) rfl hS ?_; (simp only [Act.put, List.setIfInBounds_toArray]; dsimp only [List.set_cons_zero, List.set_cons_succ])))
          refine tree_two ?_ ?_
          · skip
            refine tree_do (by rfl) (by rfl) (fun K hK => ?_)
            refine wp_app (.tmp 45) (.tmp 49) 28 rfl w5.heap.size 9 _ 1 16 Tryz.underlying28 info_string rfl (by decide) (.slice (some ⟨p1, 0, none⟩) 0 0) 0 [] rfl n1 C j cC (strs W) rfl (HW5.out.below hS) HONE.out (by unfold maxLen; omega) (by omega) hS.size ?_
            intro v5 w11 o1 o2 o3 o4
            have hS := hS.grown o2 hS.size (fun j hj => (n1.lt j hj).1)
            rw [Nat.zero_add, List.nil_append] at o1
            obtain ⟨B3, c3, rfl⟩ := own_shape o1
            have n2 := o1
            clear o1 o2 o3 o4
            refine hK.out _ _ (fun _ => hS) (fun hS => ?_); clear hK K; replace hS := hS rfl; try (simp only [Act.put, List.setIfInBounds_toArray]; dsimp only [List.set_cons_zero, List.set_cons_succ])
            repeat (first
              | (refine tree_read (v := ?_) rfl (fun _ _ _ h => by first | exact h | cases h.1) rfl hS ?_ ?_; rotate_left 1; (focus (intro w' hS'; have e2 := (hS'.cell hdl5).trans c2; go_simp; try rfl)); (simp only [Act.put, List.setIfInBounds_toArray]; dsimp only [List.set_cons_zero, List.set_cons_succ]))
              | (refine tree_skip rfl (fun _ _ _ h => by first | exact h | cases h.1) rfl hS ?_; (simp only [Act.put, List.setIfInBounds_toArray]; dsimp only [List.set_cons_zero, List.set_cons_succ])))
            refine tree_do (by rfl) (by rfl) (fun K hK => ?_)
            go_simp
            have bel := (Below.refl _ _).alloc (Nat.le_refl w11.heap.size) (.cells #[.string Y] 9)
            obtain ⟨p3, hp⟩ : ∃ p, w11.heap.size = p := ⟨_, rfl⟩
            have b3 : Blk (w11.alloc (.cells #[.string Y] 9)) p3 9 #[.string Y] := (by rw [← hp]; exact Blk.new _ _ _)
            rw [hp]
            obtain ⟨w12, hw⟩ : ∃ w2, w11.alloc (.cells #[.string Y] 9) = w2 := ⟨_, rfl⟩
            rw [hw] at bel b3
            rw [show w11.alloc (.cells #[.string Y] 9) = w12 from hw]
            have n2 := own_below n2 bel
            clear hw hp
            refine hK.out _ _ (fun _ => hS.trans (bel.mono hS.size)) (fun hS => ?_); clear hK K; replace hS := hS rfl; try (simp only [Act.put, List.setIfInBounds_toArray]; dsimp only [List.set_cons_zero, List.set_cons_succ])
            repeat (first
              | (refine tree_read (v := ?_) rfl (fun _ _ _ h => by first | exact h | cases h.1) rfl hS ?_ ?_; rotate_left 1; (focus (intro w' hS'; have e2 := (hS'.cell hdl5).trans c2; go_simp; try rfl)); (simp only [Act.put, List.setIfInBounds_toArray]; dsimp only [List.set_cons_zero, List.set_cons_succ]))
              | (refine tree_skip rfl (fun _ _ _ h => by first | exact h | cases h.1) rfl hS ?_; (simp only [Act.put, List.setIfInBounds_toArray]; dsimp only [List.set_cons_zero, List.set_cons_succ])))
            refine tree_do (by rfl) (by rfl) (fun K hK => ?_)
            refine wp_app (.tmp 50) (.tmp 56) 28 rfl w5.heap.size 9 _ 1 16 Tryz.underlying28 info_string rfl (by decide) (.slice B3 j c3) j (strs W) rfl n2 (some ⟨p3, 0, none⟩) 1 1 [.string Y] rfl (Sees.of_own (own_mk (base := 0) (Nat.zero_le _) b3 (Nat.le_refl _) (by decide) rfl rfl)) (by simp [Value.oneCell']) (by unfold maxLen; omega) (by omega) hS.size ?_
            intro v5 w13 o1 o2 o3 o4
            have hS := hS.grown o2 hS.size (fun j hj => (n2.lt j hj).1)
            obtain ⟨B4, c4, rfl⟩ := own_shape o1
            have n4 := o1
            clear o1 o2 o3 o4
            refine hK.out _ _ (fun _ => hS) (fun hS => ?_); clear hK K; replace hS := hS rfl; try (simp only [Act.put, List.setIfInBounds_toArray]; dsimp only [List.set_cons_zero, List.set_cons_succ])
            repeat (first
              | (refine tree_read (v := ?_) rfl (fun _ _ _ h => by first | exact h | cases h.1) rfl hS ?_ ?_; rotate_left 1; (focus (intro w' hS'; have e2 := (hS'.cell hdl5).trans c2; go_simp; try rfl)); (simp only [Act.put, List.setIfInBounds_toArray]; dsimp only [List.set_cons_zero, List.set_cons_succ]))
              | (refine tree_skip rfl (fun _ _ _ h => by first | exact h | cases h.1) rfl hS ?_; (simp only [Act.put, List.setIfInBounds_toArray]; dsimp only [List.set_cons_zero, List.set_cons_succ])))
            have c2L := (hS.cell hdl5).trans c2
            have f2L : w13.frozen? ⟨d, 2, none⟩ = false := (World.frozen?_of_block (a := ⟨d, 2, none⟩) (hS.block d hdl5)).trans f2
            have hR := HLEAF.out _ B4 c4 hS n4
            refine tree_do (by rfl) (by rfl) (fun K hK => ?_)
            go_simp
            refine hK.out _ _ (fun h => by cases h) (fun _ => ?_); clear hK K; try (simp only [Act.put, List.setIfInBounds_toArray]; dsimp only [List.set_cons_zero, List.set_cons_succ])
            refine tree_leaf ?_
            refine ⟨rfl, p1, B3, c3, p3, B4, c4, ?_, hR⟩
            rfl
          · skip
            refine tree_do (by rfl) (by rfl) (fun K hK => ?_)
            go_simp
            have bel := (Below.refl _ _).alloc (Nat.le_refl w10.heap.size) (.cells #[.string Y] 9)
            obtain ⟨p3, hp⟩ : ∃ p, w10.heap.size = p := ⟨_, rfl⟩
            have b3 : Blk (w10.alloc (.cells #[.string Y] 9)) p3 9 #[.string Y] := (by rw [← hp]; exact Blk.new _ _ _)
            have hne : p1 ≠ p3 := by have := (n1.lt p1 rfl).2; omega
            rw [hp]
            obtain ⟨w11, hw⟩ : ∃ w2, w10.alloc (.cells #[.string Y] 9) = w2 := ⟨_, rfl⟩
            rw [hw] at bel b3
            rw [show w10.alloc (.cells #[.string Y] 9) = w11 from hw]
            have n1 := own_below n1 bel
            clear hw hp
            refine hK.out _ _ (fun _ => hS.trans (bel.mono hS.size)) (fun hS => ?_); clear hK K; replace hS := hS rfl; try (simp only [Act.put, List.setIfInBounds_toArray]; dsimp only [List.set_cons_zero, List.set_cons_succ])
            repeat (first
              | (refine tree_read (v := ?_) rfl (fun _ _ _ h => by first | exact h | cases h.1) rfl hS ?_ ?_; rotate_left 1; (focus (intro w' hS'; have e2 := (hS'.cell hdl5).trans c2; go_simp; try rfl)); (simp only [Act.put, List.setIfInBounds_toArray]; dsimp only [List.set_cons_zero, List.set_cons_succ]))
              | (refine tree_skip rfl (fun _ _ _ h => by first | exact h | cases h.1) rfl hS ?_; (simp only [Act.put, List.setIfInBounds_toArray]; dsimp only [List.set_cons_zero, List.set_cons_succ])))
            refine tree_do (by rfl) (by rfl) (fun K hK => ?_)
            refine wp_app (.tmp 45) (.tmp 49) 28 rfl w5.heap.size 9 _ 1 16 Tryz.underlying28 info_string rfl (by decide) (.slice (some ⟨p1, 0, none⟩) 0 0) 0 [] rfl n1 C j cC (strs W) rfl (HW5.out.below hS) HONE.out (by unfold maxLen; omega) (by omega) hS.size ?_
            intro v5 w12 o1 o2 o3 o4
            have hS := hS.grown o2 hS.size (fun j hj => (n1.lt j hj).1)
            rw [Nat.zero_add, List.nil_append] at o1
            obtain ⟨B3, c3, rfl⟩ := own_shape o1
            have n2 := o1
            have b3 := b3.fr (Fr.of_grown o2 (F := fun k => k = p1) (fun k h => (Option.some.inj h).symm)) (fun e => hne e.symm)
            clear o1 o2 o3 o4
            refine hK.out _ _ (fun _ => hS) (fun hS => ?_); clear hK K; replace hS := hS rfl; try (simp only [Act.put, List.setIfInBounds_toArray]; dsimp only [List.set_cons_zero, List.set_cons_succ])
            repeat (first
              | (refine tree_read (v := ?_) rfl (fun _ _ _ h => by first | exact h | cases h.1) rfl hS ?_ ?_; rotate_left 1; (focus (intro w' hS'; have e2 := (hS'.cell hdl5).trans c2; go_simp; try rfl)); (simp only [Act.put, List.setIfInBounds_toArray]; dsimp only [List.set_cons_zero, List.set_cons_succ]))
              | (refine tree_skip rfl (fun _ _ _ h => by first | exact h | cases h.1) rfl hS ?_; (simp only [Act.put, List.setIfInBounds_toArray]; dsimp only [List.set_cons_zero, List.set_cons_succ])))
            refine tree_do (by rfl) (by rfl) (fun K hK => ?_)
            refine wp_app (.tmp 50) (.tmp 56) 28 rfl w5.heap.size 9 _ 1 16 Tryz.underlying28 info_string rfl (by decide) (.slice B3 j c3) j (strs W) rfl n2 (some ⟨p3, 0, none⟩) 1 1 [.string Y] rfl (Sees.of_own (own_mk (base := 0) (Nat.zero_le _) b3 (Nat.le_refl _) (by decide) rfl rfl)) (by simp [Value.oneCell']) (by unfold maxLen; omega) (by omega) hS.size ?_
            intro v5 w13 o1 o2 o3 o4
            have hS := hS.grown o2 hS.size (fun j hj => (n2.lt j hj).1)
            obtain ⟨B4, c4, rfl⟩ := own_shape o1
            have n4 := o1
            clear o1 o2 o3 o4
            refine hK.out _ _ (fun _ => hS) (fun hS => ?_); clear hK K; replace hS := hS rfl; try (simp only [Act.put, List.setIfInBounds_toArray]; dsimp only [List.set_cons_zero, List.set_cons_succ])
            repeat (first
              | (refine tree_read (v := ?_) rfl (fun _ _ _ h => by first | exact h | cases h.1) rfl hS ?_ ?_; rotate_left 1; (focus (intro w' hS'; have e2 := (hS'.cell hdl5).trans c2; go_simp; try rfl)); (simp only [Act.put, List.setIfInBounds_toArray]; dsimp only [List.set_cons_zero, List.set_cons_succ]))
              | (refine tree_skip rfl (fun _ _ _ h => by first | exact h | cases h.1) rfl hS ?_; (simp only [Act.put, List.setIfInBounds_toArray]; dsimp only [List.set_cons_zero, List.set_cons_succ])))
            have c2L := (hS.cell hdl5).trans c2
            have f2L : w13.frozen? ⟨d, 2, none⟩ = false := (World.frozen?_of_block (a := ⟨d, 2, none⟩) (hS.block d hdl5)).trans f2
            have hR := HLEAF.out _ B4 c4 hS n4
            refine tree_do (by rfl) (by rfl) (fun K hK => ?_)
            go_simp
            refine hK.out _ _ (fun h => by cases h) (fun _ => ?_); clear hK K; try (simp only [Act.put, List.setIfInBounds_toArray]; dsimp only [List.set_cons_zero, List.set_cons_succ])
            refine tree_leaf ?_
            refine ⟨rfl, p1, B3, c3, p3, B4, c4, ?_, hR⟩
            rfl
        · skip
          refine tree_do (by rfl) (by rfl) (fun K hK => ?_)
          go_simp
          have bel := (Below.refl _ _).alloc (Nat.le_refl w5.drew.heap.size) (.cells #[.string Y] 9)
          obtain ⟨p3, hp⟩ : ∃ p, w5.heap.size = p := ⟨_, rfl⟩
          have b3 : Blk (w5.drew.alloc (.cells #[.string Y] 9)) p3 9 #[.string Y] := (by rw [← hp]; exact Blk.new _ _ _)
          rw [hp]
          obtain ⟨w10, hw⟩ : ∃ w2, w5.drew.alloc (.cells #[.string Y] 9) = w2 := ⟨_, rfl⟩
          rw [hw] at bel b3
          rw [show (w5.alloc (.cells #[.string Y] 9)).drew = w10 from hw]
          clear hw hp
          refine hK.out _ _ (fun _ => hS.trans (bel.mono hS.size)) (fun hS => ?_); clear hK K; replace hS := hS rfl; try (simp only [Act.put, List.setIfInBounds_toArray]; dsimp only [List.set_cons_zero, List.set_cons_succ])
          repeat (first
            | (refine tree_read (v := ?_) rfl (fun _ _ _ h => by first | exact h | cases h.1) rfl hS ?_ ?_; rotate_left 1; (focus (intro w' hS'; have e2 := (hS'.cell hdl5).trans c2; go_simp; try rfl)); (simp only [Act.put, List.setIfInBounds_toArray]; dsimp only [List.set_cons_zero, List.set_cons_succ]))
            | (refine tree_skip rfl (fun _ _ _ h => by first | exact h | cases h.1) rfl hS ?_; (simp only [Act.put, List.setIfInBounds_toArray]; dsimp only [List.set_cons_zero, List.set_cons_succ])))
          refine tree_do (by rfl) (by rfl) (fun K hK => ?_)
          go_simp
          have bel := (Below.refl _ _).alloc (Nat.le_refl w10.heap.size) (.cells #[] 9)
          obtain ⟨p1, hp⟩ : ∃ p, w10.heap.size = p := ⟨_, rfl⟩
          have n1 : (w10.alloc (.cells #[] 9)).ownsRow w5.heap.size 9 1 (.slice (some ⟨p1, 0, none⟩) 0 0) 0 [] := (by rw [← hp]; exact own_mk hS.size (Blk.new _ _ _) (Nat.le_refl _) (Nat.zero_le _) rfl rfl)
          have hne : p1 ≠ p3 := by have := b3.lt; omega
          rw [hp]
          obtain ⟨w11, hw⟩ : ∃ w2, w10.alloc (.cells #[] 9) = w2 := ⟨_, rfl⟩
          rw [hw] at bel n1
          rw [show w10.alloc (.cells #[] 9) = w11 from hw]
          have b3 := b3.below bel b3.lt
          clear hw hp
          refine hK.out _ _ (fun _ => hS.trans (bel.mono hS.size)) (fun hS => ?_); clear hK K; replace hS := hS rfl; try (simp only [Act.put, List.setIfInBounds_toArray]; dsimp only [List.set_cons_zero, List.set_cons_succ])
          repeat (first
            | (refine tree_read (v := ?_) rfl (fun _ _ _ h => by first | exact h | cases h.1) rfl hS ?_ ?_; rotate_left 1; (focus (intro w' hS'; have e2 := (hS'.cell hdl5).trans c2; go_simp; try rfl)); (simp only [Act.put, List.setIfInBounds_toArray]; dsimp only [List.set_cons_zero, List.set_cons_succ]))
            | (refine tree_skip rfl (fun _ _ _ h => by first | exact h | cases h.1) rfl hS ?_; (simp only [Act.put, List.setIfInBounds_toArray]; dsimp only [List.set_cons_zero, List.set_cons_succ])))
          refine tree_do (by rfl) (by rfl) (fun K hK => ?_)
          refine wp_app (.tmp 45) (.tmp 49) 28 rfl w5.heap.size 9 _ 1 16 Tryz.underlying28 info_string rfl (by decide) (.slice (some ⟨p1, 0, none⟩) 0 0) 0 [] rfl n1 C j cC (strs W) rfl (HW5.out.below hS) HONE.out (by unfold maxLen; omega) (by omega) hS.size ?_
          intro v5 w12 o1 o2 o3 o4
          have hS := hS.grown o2 hS.size (fun j hj => (n1.lt j hj).1)
          rw [Nat.zero_add, List.nil_append] at o1
          obtain ⟨B3, c3, rfl⟩ := own_shape o1
          have n2 := o1
          have b3 := b3.fr (Fr.of_grown o2 (F := fun k => k = p1) (fun k h => (Option.some.inj h).symm)) (fun e => hne e.symm)
          clear o1 o2 o3 o4
          refine hK.out _ _ (fun _ => hS) (fun hS => ?_); clear hK K; replace hS := hS rfl; try (simp only [Act.put, List.setIfInBounds_toArray]; dsimp only [List.set_cons_zero, List.set_cons_succ])
          repeat (first
            | (refine tree_read (v := ?_) rfl (fun _ _ _ h => by first | exact h | cases h.1) rfl hS ?_ ?_; rotate_left 1; (focus (intro w' hS'; have e2 := (hS'.cell hdl5).trans c2; go_simp; try rfl)); (simp only [Act.put, List.setIfInBounds_toArray]; dsimp only [List.set_cons_zero, List.set_cons_succ]))
            | (refine tree_skip rfl (fun _ _ _ h => by first | exact h | cases h.1) rfl hS ?_; (simp only [Act.put, List.setIfInBounds_toArray]; dsimp only [List.set_cons_zero, List.set_cons_succ])))
          refine tree_do (by rfl) (by rfl) (fun K hK => ?_)
          refine wp_app (.tmp 50) (.tmp 56) 28 rfl w5.heap.size 9 _ 1 16 Tryz.underlying28 info_string rfl (by decide) (.slice B3 j c3) j (strs W) rfl n2 (some ⟨p3, 0, none⟩) 1 1 [.string Y] rfl (Sees.of_own (own_mk (base := 0) (Nat.zero_le _) b3 (Nat.le_refl _) (by decide) rfl rfl)) (by simp [Value.oneCell']) (by unfold maxLen; omega) (by omega) hS.size ?_
          intro v5 w13 o1 o2 o3 o4
          have hS := hS.grown o2 hS.size (fun j hj => (n2.lt j hj).1)
          obtain ⟨B4, c4, rfl⟩ := own_shape o1
          have n4 := o1
          clear o1 o2 o3 o4
          refine hK.out _ _ (fun _ => hS) (fun hS => ?_); clear hK K; replace hS := hS rfl; try (simp only [Act.put, List.setIfInBounds_toArray]; dsimp only [List.set_cons_zero, List.set_cons_succ])
          repeat (first
            | (refine tree_read (v := ?_) rfl (fun _ _ _ h => by first | exact h | cases h.1) rfl hS ?_ ?_; rotate_left 1; (focus (intro w' hS'; have e2 := (hS'.cell hdl5).trans c2; go_simp; try rfl)); (simp only [Act.put, List.setIfInBounds_toArray]; dsimp only [List.set_cons_zero, List.set_cons_succ]))
            | (refine tree_skip rfl (fun _ _ _ h => by first | exact h | cases h.1) rfl hS ?_; (simp only [Act.put, List.setIfInBounds_toArray]; dsimp only [List.set_cons_zero, List.set_cons_succ])))
          have c2L := (hS.cell hdl5).trans c2
          have f2L : w13.frozen? ⟨d, 2, none⟩ = false := (World.frozen?_of_block (a := ⟨d, 2, none⟩) (hS.block d hdl5)).trans f2
          have hR := HLEAF.out _ B4 c4 hS n4
          refine tree_do (by rfl) (by rfl) (fun K hK => ?_)
          go_simp
          refine hK.out _ _ (fun h => by cases h) (fun _ => ?_); clear hK K; try (simp only [Act.put, List.setIfInBounds_toArray]; dsimp only [List.set_cons_zero, List.set_cons_succ])
          refine tree_leaf ?_
          refine ⟨rfl, p1, B3, c3, p3, B4, c4, ?_, hR⟩
          rfl
      case go =>
        intro _ _ _ _ B4 c4 w6 hR6
        have HR6 := Lib.hid hR6
        clear hR6
        go_wp2_with fail
        go_roundw
        case rel => exact ⟨j + 1, by have := HM.out; first | go_num | (congr 1; omega) | (simp; omega), by omega, Lib.hid ⟨_, _, _, _, _, _, by rw [List.length_append, HR.out.2.2.1]; rfl, HR6.out.1, HR6.out.2⟩⟩
        case measure => have := HN.out; simp [intOf]; omega
    · obtain rfl : j = m := by omega
      have hge : ¬ ((M : Int) + 128 ≤ (N : Int)) := by have := HN.out; omega
      have hw1 : IntKind.i64.wrap ((M : Int) + 128) = (M : Int) + 128 := IntWalk.i64_in _ (by have := HN.out; omega)
      have HRR := Lib.hid (And.intro hR (And.intro (And.intro bel fr0) hTj))
      clear hr hR bel hTj fr0
      go_wp2_with fail
      go_ret
      exact ⟨rfl, ⟨T, HRR.out.2.2, W, B, cB, C, cC, HRR.out.1⟩, HRR.out.2.1⟩
end Go.Proofs.YtbcnbehneodlgaaGreatDoor
