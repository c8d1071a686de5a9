/-
  Rest.
  The document's disk of octets; lists of texts that begin with another one; the law's acts: whether they are few, and their texts.
-/
import Derived.Test.YtldgnckchlbadaaDoorProg
import Derived.Test.YtldgnckchlbadaaDoorGA
import Derived.Test.YtldgnckchlbadaaDoorRf4
namespace Go.Proofs.YtldgnckchlbadaaDoor
set_option maxRecDepth 4000
open Go.RowKit

def restN (a : Int) (n : Nat) : Nat := (a % n).toNat
theorem restN_lt (a : Int) (n : Nat) (h : 0 < n) : restN a n < n := by
  have b4 : a % (n : Int) < n := Int.emod_lt_of_pos _ (by omega)
  have b3 : 0 ≤ a % (n : Int) := Int.emod_nonneg _ (by omega)
  unfold restN
  omega
theorem rest_at (a : Int) (n : Nat) (w : World) (h1 : -9223372036854775808 ≤ a) (h2 : a ≤ 9223372036854775807) (hn : 0 < n) (hn2 : n ≤ 100000000) :
    Calls Tryd.prog 12 #[.int .i64 a, .int .i64 n] w fun e w' => e = .returned (.int .i64 (restN a n : Nat)) ∧ w = w' := by
  have hnz : (n : Int) ≠ 0 := by omega
  have hn1 : (n : Int) ≠ -1 := by omega
  have b1 : -(n : Int) < a.tmod n := by have := Int.lt_tmod_of_pos a (show (0 : Int) < n by omega); omega
  have b2 : a.tmod n < n := Int.tmod_lt_of_pos a (by omega)
  have e1 : IntKind.i64.wrap (a.tmod n) = a.tmod n := IntWalk.i64_in _ (by omega)
  have e2 : IntKind.i64.wrap (a.tmod n + n) = a.tmod n + n := IntWalk.i64_in _ (by omega)
  have b5 : (a.tmod n + n).tmod n = (a.tmod n) % n := by rw [Int.tmod_eq_emod_of_nonneg (by omega), Int.add_emod_right]
  have b6 : (a.tmod n) % n = a % n := by rw [Int.tmod_def, Int.sub_mul_emod_self_left]
  have b3 : 0 ≤ (a.tmod n) % n := Int.emod_nonneg _ (by omega)
  have b4 : (a.tmod n) % n < n := Int.emod_lt_of_pos _ (by omega)
  have e3 : IntKind.i64.wrap ((a.tmod n) % n) = (a.tmod n) % n := IntWalk.i64_in _ (by omega)
  have hr : (restN a n : Int) = (a.tmod n) % n := by unfold restN; rw [← b6, Int.toNat_of_nonneg b3]
  generalize restN a n = r at *
  replace hr := Lib.hid hr
  replace b6 := Lib.hid b6
  go_enter Tryd.func12, Tryd.ntmps12
  go_wp2_with fail
  go_ret
  exact ⟨by rw [hr.out]; rfl, rfl⟩
end Go.Proofs.YtldgnckchlbadaaDoor

namespace Go.Proofs.YtldgnckchlbadaaDoor
set_option maxRecDepth 4000
open Go.RowKit

set_option maxHeartbeats 1000000 in
theorem rload_any (X : List UInt8) (m : Nat) (w : World) (hX : X.length = m * 128) (hm : m ≤ 70000) : Calls Tryd.prog 17 #[.string (str X)] w fun e w' => e = .returned (.pointer (some ⟨w.heap.size, 0, none⟩)) ∧ (∃ A cA, RD w' w.heap.size w.heap.size ((List.range m).map (sect X)) [] [] A cA none 0 none 0) ∧ Below w.heap.size w w' := by
  have hs : (str X).size = m * 128 := by rw [size_str, hX]
  have hx : ∀ i : Nat, (str X).extract (i * 128) (i * 128 + 128) = str (sect X i) := fun i => by rw [str_extract, Nat.add_sub_cancel_left]; rfl
  obtain ⟨Z, hZ⟩ : ∃ Z, Z = str X := ⟨_, rfl⟩
  rw [← hZ] at hs hx ⊢
  obtain ⟨N, hN⟩ : ∃ N, N = m * 128 := ⟨_, rfl⟩
  rw [← hN] at hs
  have HX := Lib.hid hx
  have HN := Lib.hid hN
  clear hx hZ hN hX
  go_enter Tryd.func17, Tryd.ntmps17
  go_wp2_with fail
  have top0 : Blk (w.alloc (.cells #[.slice none 0 0, .slice none 0 0, .slice none 0 0, .int .i64 (-1)] 92)) w.heap.size 92 #[.slice none 0 0, .slice none 0 0, .slice none 0 0, .int .i64 (-1)] := Blk.new _ _ _
  have bel0 := (Below.refl w.heap.size w).alloc (Nat.le_refl _) (.cells #[.slice none 0 0, .slice none 0 0, .slice none 0 0, .int .i64 (-1)] 92)
  generalize w.alloc (.cells #[.slice none 0 0, .slice none 0 0, .slice none 0 0, .int .i64 (-1)] 92) = w1 at *
  have H0 := Lib.hid (And.intro top0 bel0)
  clear top0 bel0
  obtain ⟨d, hd⟩ : ∃ d, w.heap.size = d := ⟨_, rfl⟩
  rw [hd] at H0 ⊢
  go_loopw [4] (fun i wr => ∃ j : Nat, i = .int .i64 (j * 128 : Nat) ∧ j ≤ m ∧ Hid (∃ A c, Blk wr d 92 #[.slice A j c, .slice none 0 0, .slice none 0 0, .int .i64 (-1)] ∧ wr.ownsRow d 9 1 (.slice A j c) j (strs ((List.range j).map (sect X))) ∧ Below d w wr)) (fun i _ => N - (intOf i).toNat)
  case atStart => exact ⟨0, rfl, Nat.zero_le _, Lib.hid ⟨none, 0, H0.out.1, World.ownsRow_nil _ _ _ _, H0.out.2⟩⟩
  case round =>
    obtain ⟨j, rfl, hj, hr⟩ := hrel
    obtain ⟨A, c, top, own, bel⟩ := hr.out
    have hne := own_ne own top (by decide)
    have hdl := top.lt
    obtain ⟨M, hM⟩ : ∃ M, M = j * 128 := ⟨_, rfl⟩
    rw [← hM]
    have hjb : j ≤ 70000 := by omega
    have hw1 : IntKind.i64.wrap ((M : Int) + 128) = (M : Int) + 128 := IntWalk.i64_in _ (by omega)
    by_cases hlt : j < m
    · have hlt1 : ((M : Int) + 128 ≤ (N : Int)) := by have := HN.out; omega
      have hlt2 : M + 128 ≤ N := by omega
      have hp0 : (0 : Int) ≤ (M : Int) + 128 := by omega
      have hp1 : (M : Int) ≤ (M : Int) + 128 := by omega
      have hp2 : ((M : Int) + 128).toNat = M + 128 := by omega
      have hx1 : Z.extract M (M + 128) = str (sect X j) := by rw [hM]; exact HX.out j
      obtain ⟨Y, hY⟩ : ∃ Y, Y = str (sect X j) := ⟨_, rfl⟩
      rw [← hY] at hx1
      have HY := Lib.hid hY
      have HM := Lib.hid hM
      have H := Lib.hid (And.intro top (And.intro own (And.intro bel hne)))
      have c0 : wr.drew.cell? ⟨d, 0, none⟩ = some (.slice A j c) := top.cell 0
      clear hr top own bel hne hY hM
      go_wp2_with fail
      refine region_fast [(0, true), (1, true), (2, true), (3, true), (4, true), (5, true), (6, true), (7, true), (8, true), (9, true), (10, false), (11, false), (12, true), (13, true), (14, false)] [1, 2, 3, 4, 5, 6, 7, 8, 9, 10, 11] 4094 [(16384, 8, 0, 0), (32768, 8, 0, 0), (65536, 32768, 2, 2), (131072, 65536, 4, 6), (262144, 131072, 8, 14), (524288, 1, 0, 0), (1048576, 16, 0, 0), (2097152, 16, 0, 0), (4194304, 2097152, 128, 128), (8388608, 5767168, 352, 480), (16777216, 8388608, 512, 992), (33554432, 17039360, 1040, 2046), (67108864, 16384, 4095, 4095), (134217728, 67108864, 8191, 8191), (0, 167772160, 12287, 16383)] (fun W => W.cell? ⟨d, 0, none⟩ = some (.slice A j c)) (by kernel_rfl) (by kernel_rfl) (by kernel_rfl) rfl (by kernel_rfl) (by kernel_rfl) c0 (fun hS => ?_)
      repeat (first
        | (refine plan_read (v := ?_) rfl (fun _ _ _ h => h) rfl hS ?_ ?_; rotate_left 1; (focus (intro w' hS'; have e0 := hS'; go_simp; try rfl)); (simp only [Act.put, List.setIfInBounds_toArray]; dsimp only [List.set_cons_zero, List.set_cons_succ]))
        | (refine plan_skip rfl (fun _ _ _ h => h) rfl hS ?_; (simp only [Act.put, List.setIfInBounds_toArray]; dsimp only [List.set_cons_zero, List.set_cons_succ])))
      refine plan_do (by rfl) (by rfl) (fun K hK => ?_)
      go_simp
      obtain ⟨w2, hw2⟩ : ∃ w2, (wr.alloc (.cells #[.string Y] 9)).drew = w2 := ⟨_, rfl⟩
      have b2 : Below wr.heap.size wr w2 := hw2 ▸ ((Below.refl wr.heap.size wr).alloc (Nat.le_refl _) (.cells #[.string Y] 9)).drew
      have hse : Sees w2 1 (some ⟨wr.heap.size, 0, none⟩) 1 [.string Y] := by
        have := sees_new wr 9 [.string Y] 1 1 rfl
        rw [← hw2]
        exact this.below (Below.refl _ _).drew
      rw [hw2]
      have hz2 := b2.size
      have c02 : w2.cell? ⟨d, 0, none⟩ = some (.slice A j c) := (b2.cell hdl).trans (H.out.1.cell 0)
      clear hS
      refine hK.out _ _ (fun _ => c02) (fun hS => ?_); clear hK K; replace hS := hS rfl; try (simp only [Act.put, List.setIfInBounds_toArray]; dsimp only [List.set_cons_zero, List.set_cons_succ])
      repeat (first
        | (refine plan_read (v := ?_) rfl (fun _ _ _ h => h) rfl hS ?_ ?_; rotate_left 1; (focus (intro w' hS'; have e0 := hS'; go_simp; try rfl)); (simp only [Act.put, List.setIfInBounds_toArray]; dsimp only [List.set_cons_zero, List.set_cons_succ]))
        | (refine plan_skip rfl (fun _ _ _ h => h) rfl hS ?_; (simp only [Act.put, List.setIfInBounds_toArray]; dsimp only [List.set_cons_zero, List.set_cons_succ])))
      refine plan_do (by rfl) (by rfl) (fun K hK => ?_)
      refine wp_app (.tmp 18) (.tmp 24) 47 rfl d 9 _ 1 16 Tryd.underlying47 info_string rfl (by decide) (.slice A j c) j _ rfl (own_below H.out.2.1 b2) (some ⟨wr.heap.size, 0, none⟩) 1 1 [.string Y] rfl hse (by simp [Value.oneCell']) (by unfold maxLen; omega) (by omega) (by omega) ?_
      intro v5 w5 o1 o2 o3 o4
      obtain ⟨A5, c5, rfl⟩ := own_shape o1
      have hf5 : Fr (fun k => (Value.slice A j c).ownBlock = some k) w2 w5 := Fr.of_grown o2 (fun k h => h)
      have top2 : Blk w2 d 92 _ := H.out.1.below b2 hdl
      have top5 := Blk.fr (F := fun k => (Value.slice A j c).ownBlock = some k) top2 hf5 (fun e => H.out.2.2.2 d e rfl)
      have hb5 : Below d w w5 := (H.out.2.2.1.trans (b2.mono (by have := H.out.2.2.1.size; omega))).grown o2 (by have := H.out.2.2.1.size; omega) (fun k hk => (H.out.2.1.lt k hk).1)
      have c05 : w5.cell? ⟨d, 0, none⟩ = some (.slice A j c) := top5.cell 0
      have f05 : w5.frozen? ⟨d, 0, none⟩ = false := top5.frozen 0
      clear hS
      refine hK.out _ _ (fun _ => c05) (fun hS => ?_); clear hK K; replace hS := hS rfl; try (simp only [Act.put, List.setIfInBounds_toArray]; dsimp only [List.set_cons_zero, List.set_cons_succ])
      repeat (first
        | (refine plan_read (v := ?_) rfl (fun _ _ _ h => h) rfl hS ?_ ?_; rotate_left 1; (focus (intro w' hS'; go_simp; try rfl)); (simp only [Act.put, List.setIfInBounds_toArray]; dsimp only [List.set_cons_zero, List.set_cons_succ]))
        | (refine plan_skip rfl (fun _ _ _ h => h) rfl hS ?_; (simp only [Act.put, List.setIfInBounds_toArray]; dsimp only [List.set_cons_zero, List.set_cons_succ])))
      refine plan_do (by rfl) (by rfl) (fun K hK => ?_)
      go_simp
      refine hK.out _ _ (fun h => by cases h) (fun _ => ?_); clear hK K; try (simp only [Act.put, List.setIfInBounds_toArray]; dsimp only [List.set_cons_zero, List.set_cons_succ])
      refine plan_nil ?_
      have top6 := top5.set_ 0 (.slice A5 (j + 1) c5)
      have hb6 : Below d w (w5.setCell ⟨d, 0, none⟩ (.slice A5 (j + 1) c5)) := hb5.setCell (Nat.le_refl _) _
      have own6 := own_fr o1 (Fr.setCell (F := fun k => k = d) w5 ⟨d, 0, none⟩ (.slice A5 (j + 1) c5) rfl) (own_ne o1 top5 (by decide))
      have H6 := Lib.hid (And.intro top6 (And.intro own6 hb6))
      clear top6 own6 hb6 c05 f05 hb5 top5 top2
      go_wp2_with fail
      go_roundw
      case rel => exact ⟨j + 1, by have := HM.out; first | go_num | (congr 1; omega) | (simp; omega), by omega, Lib.hid ⟨A5, c5, H6.out.1, by rw [List.range_succ, List.map_append, show strs ((List.range j).map (sect X) ++ [j].map (sect X)) = strs ((List.range j).map (sect X)) ++ [.string Y] by rw [HY.out]; simp [strs]]; exact H6.out.2.1, H6.out.2.2⟩⟩
      case measure => have := HN.out; simp [intOf]; omega
    · obtain rfl : j = m := by omega
      have hge : ¬ ((M : Int) + 128 ≤ (N : Int)) := by have := HN.out; omega
      have H := Lib.hid (And.intro top (And.intro own bel))
      clear hr top own bel hne
      go_wp2_with fail
      go_ret
      refine ⟨rfl, ⟨A, c, ?_, Nat.le_refl _, ?_, World.ownsRow_nil _ _ _ _, World.ownsRow_nil _ _ _ _, rfl⟩, H.out.2.2⟩
      · rw [List.length_map, List.length_range]; exact H.out.1
      · rw [List.length_map, List.length_range]; exact H.out.2.1

theorem begins_texts (L W : List (List UInt8)) (A B : Option Addr) (k m c c' : Nat) (w : World) (hk : L.length = k) (hm : W.length = m) (hkb : k ≤ 100000) (hmb : m ≤ 100000) (hA : Sees w 1 A k (strs L)) (hB : Sees w 1 B m (strs W)) :
    Calls Tryd.prog 19 #[.slice A k c, .slice B m c'] w fun e w' => e = .returned (.bool (decide (W = L.take W.length))) ∧ Below w.heap.size w w' := by
  by_cases hmk : m ≤ k
  · have hmki : ¬ (k : Int) < (m : Int) := by omega
    have HA := Lib.hid hA; have HB := Lib.hid hB; have HK := Lib.hid (And.intro hk hm)
    clear hA hB hk hm
    go_enter Tryd.func19, Tryd.ntmps19
    go_wp2_with fail
    go_loopw [5] (fun i wr => ∃ j : Nat, j ≤ m ∧ i = .int .i64 j ∧ Hid (W.take j = L.take j) ∧ Below w.heap.size w wr) (fun i _ => m - (intOf i).toNat)
    case atStart => exact ⟨0, by omega, rfl, Lib.hid rfl, Below.refl _ _⟩
    case round =>
      obtain ⟨j, hj, rfl, hr, hbr⟩ := hrel
      by_cases hlt : j < m
      · have hlti : (j : Int) < (m : Int) := by omega
        have hltk : (j : Int) < (k : Int) := by omega
        have hp := List.getElem?_eq_getElem (l := L) (i := j) (by rw [HK.out.1]; omega)
        obtain ⟨t, ht⟩ : ∃ p, p = L[j]'(by rw [HK.out.1]; omega) := ⟨_, rfl⟩
        rw [← ht] at hp
        have hq := List.getElem?_eq_getElem (l := W) (i := j) (by rw [HK.out.2]; exact hlt)
        obtain ⟨u, hu⟩ : ∃ p, p = W[j]'(by rw [HK.out.2]; exact hlt) := ⟨_, rfl⟩
        rw [← hu] at hq
        obtain ⟨g, off, rfl, hcs⟩ := HA.out.2 (by omega)
        obtain ⟨g2, off2, rfl, hcs2⟩ := HB.out.2 (by omega)
        have hc0 : w.cell? ⟨g, off + j, none⟩ = some (.string (str t)) := hcs j _ (by simp [strs, hp])
        have hc1 : wr.drew.cell? _ = _ := (hbr.cell (World.block_lt_of_cell? w _ hc0)).trans hc0
        have hd0 : w.cell? ⟨g2, off2 + j, none⟩ = some (.string (str u)) := hcs2 j _ (by simp [strs, hq])
        have hd1 : wr.drew.cell? _ = _ := (hbr.cell (World.block_lt_of_cell? w _ hd0)).trans hd0
        have HBR := Lib.hid hbr
        have heq : ((str t).toList == (str u).toList) = decide (t = u) := by rw [str_toList, str_toList, beq_dec]
        have HPQ := Lib.hid (And.intro hp hq)
        clear hcs hcs2 hp hq ht hu hc0 hd0 hbr
        obtain ⟨XT, hXT⟩ : ∃ x, x = str t := ⟨_, rfl⟩
        obtain ⟨XU, hXU⟩ : ∃ x, x = str u := ⟨_, rfl⟩
        rw [← hXT] at hc1 heq
        rw [← hXU] at hd1 heq
        clear hXT hXU
        by_cases htu : t = u
        · rw [decide_eq_true htu] at heq
          have HTU := Lib.hid htu
          clear htu
          go_wp2_with fail
          refine region_fast [(0, true), (1, true), (2, true), (3, true), (4, true), (5, true), (6, true), (7, true), (8, true)] [1, 4, 5, 6, 7] 242 [(131072, 1, 0, 0), (262144, 32, 0, 0), (524288, 393216, 3, 3), (1048576, 524288, 4, 7), (2097152, 2, 0, 0), (4194304, 32, 0, 0), (8388608, 6291456, 48, 48), (16777216, 8388608, 64, 112), (33554432, 17825792, 136, 255)] (fun w' => w'.cell? ⟨g, off + j, none⟩ = some (.string XT) ∧ w'.cell? ⟨g2, off2 + j, none⟩ = some (.string XU)) (by kernel_rfl) (by kernel_rfl) (by kernel_rfl) rfl (by kernel_rfl) (by kernel_rfl) ⟨hc1, hd1⟩ (fun hS => ?_)
          repeat (first
            | (refine plan_read (v := ?_) rfl (fun _ _ _ h => h) rfl hS ?_ ?_; rotate_left 1; (focus (intro w' hS'; obtain ⟨z1, z2⟩ := hS'; go_simp; try rfl)); (simp only [Act.put, List.setIfInBounds_toArray]; dsimp only [List.set_cons_zero, List.set_cons_succ]))
            | (refine plan_skip rfl (fun _ _ _ h => h) rfl hS ?_; (simp only [Act.put, List.setIfInBounds_toArray]; dsimp only [List.set_cons_zero, List.set_cons_succ])))
          refine plan_nil ?_
          go_wp2_with fail
          go_roundw
          case rel => exact ⟨j + 1, by omega, by go_num, Lib.hid (by rw [List.take_add_one, List.take_add_one, hr.out, HPQ.out.1, HPQ.out.2, HTU.out]), HBR.out.drew⟩
          case measure => simp [intOf]; omega
        · rw [decide_eq_false htu] at heq
          have HTU := Lib.hid htu
          clear htu
          go_wp2_with fail
          refine region_fast [(0, true), (1, true), (2, true), (3, true), (4, true), (5, true), (6, true), (7, true), (8, true)] [1, 4, 5, 6, 7] 242 [(131072, 1, 0, 0), (262144, 32, 0, 0), (524288, 393216, 3, 3), (1048576, 524288, 4, 7), (2097152, 2, 0, 0), (4194304, 32, 0, 0), (8388608, 6291456, 48, 48), (16777216, 8388608, 64, 112), (33554432, 17825792, 136, 255)] (fun w' => w'.cell? ⟨g, off + j, none⟩ = some (.string XT) ∧ w'.cell? ⟨g2, off2 + j, none⟩ = some (.string XU)) (by kernel_rfl) (by kernel_rfl) (by kernel_rfl) rfl (by kernel_rfl) (by kernel_rfl) ⟨hc1, hd1⟩ (fun hS => ?_)
          repeat (first
            | (refine plan_read (v := ?_) rfl (fun _ _ _ h => h) rfl hS ?_ ?_; rotate_left 1; (focus (intro w' hS'; obtain ⟨z1, z2⟩ := hS'; go_simp; try rfl)); (simp only [Act.put, List.setIfInBounds_toArray]; dsimp only [List.set_cons_zero, List.set_cons_succ]))
            | (refine plan_skip rfl (fun _ _ _ h => h) rfl hS ?_; (simp only [Act.put, List.setIfInBounds_toArray]; dsimp only [List.set_cons_zero, List.set_cons_succ])))
          refine plan_nil ?_
          go_wp2_with fail
          go_ret
          refine ⟨ret_bool (decide_eq_false fun e => HTU.out ?_).symm, HBR.out.drew⟩
          have h1 := HPQ.out.2
          rw [e, List.getElem?_take, if_pos (by rw [HK.out.2]; exact hlt), HPQ.out.1] at h1
          exact Option.some.inj h1
      · obtain rfl : j = m := by omega
        have hge : ¬ ((j : Int) < (j : Int)) := by omega
        go_wp2_with fail
        go_ret
        refine ⟨ret_bool (decide_eq_true ?_).symm, hbr⟩
        have := hr.out
        rw [List.take_of_length_le (by rw [HK.out.2]; exact Nat.le_refl _)] at this
        rw [HK.out.2]
        exact this
  · have hmki : (k : Int) < (m : Int) := by omega
    have hd : decide (W = L.take W.length) = false := decide_eq_false fun e => by
      have := congrArg List.length e
      rw [List.length_take] at this
      omega
    rw [hd]
    clear hA hB hk hm hd
    go_enter Tryd.func19, Tryd.ntmps19
    go_wp2_with fail
    go_ret
    exact ⟨rfl, Below.refl _ _⟩
end Go.Proofs.YtldgnckchlbadaaDoor
