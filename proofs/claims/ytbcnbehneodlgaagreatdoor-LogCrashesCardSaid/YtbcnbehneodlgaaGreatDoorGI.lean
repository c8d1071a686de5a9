/-
  Rest.
  The document's disk of octets; lists of texts that begin with another one; the law's acts: whether they are few, and their texts.
  The law's acts: whether they are few, and their texts.
  An argument of acts (Kind, N: ints; B: an octet; Keep: ints), read.
-/
import Derived.Test.YtbcnbehneodlgaaGreatDoorProg
import Derived.Test.YtbcnbehneodlgaaGreatDoorGA
import Derived.Test.YtbcnbehneodlgaaGreatDoorRf7
import Derived.Deep.Slices
namespace Go.Proofs.YtbcnbehneodlgaaGreatDoor
set_option maxRecDepth 4000
open Go.RowKit

def restN (a : Int) (n : Nat) : Nat := (a % n).toNat
theorem restN_lt (a : Int) (n : Nat) (h : 0 < n) : restN a n < n := by
  have b4 : a % (n : Int) < n := Int.emod_lt_of_pos _ (by omega)
  have b3 : 0 ≤ a % (n : Int) := Int.emod_nonneg _ (by omega)
  unfold restN
  omega
theorem rest_at (a : Int) (n : Nat) (w : World) (h1 : -9223372036854775808 ≤ a) (h2 : a ≤ 9223372036854775807) (hn : 0 < n) (hn2 : n ≤ 1000000) :
    Calls Tryz.prog 8 #[.int .i64 a, .int .i64 n] w fun e w' => e = .returned (.int .i64 (restN a n : Nat)) ∧ w = w' := by
  have hnz : (n : Int) ≠ 0 := by omega
  have hn1 : (n : Int) ≠ -1 := by omega
  have b1 : -(n : Int) < a.tmod n := by have := Int.lt_tmod_of_pos a (show (0 : Int) < n by omega); omega
  have b2 : a.tmod n < n := Int.tmod_lt_of_pos a (by omega)
  have e1 : IntKind.i64.wrap (a.tmod n) = a.tmod n := IntWalk.i64_in _ (by omega)
  have e2 : IntKind.i64.wrap (a.tmod n + n) = a.tmod n + n := IntWalk.i64_in _ (by omega)
  have b5 : (a.tmod n + n).tmod n = (a.tmod n) % n := by rw [Int.tmod_eq_emod_of_nonneg (by omega), Int.add_emod_right]
  have b6 : (a.tmod n) % n = a % n := by rw [Int.tmod_def, Int.sub_mul_emod_self_left]
  have b3 : 0 ≤ (a.tmod n) % n := Int.emod_nonneg _ (by omega)
  have b4 : (a.tmod n) % n < n := Int.emod_lt_of_pos _ (by omega)
  have e3 : IntKind.i64.wrap ((a.tmod n) % n) = (a.tmod n) % n := IntWalk.i64_in _ (by omega)
  have hr : (restN a n : Int) = (a.tmod n) % n := by unfold restN; rw [← b6, Int.toNat_of_nonneg b3]
  generalize restN a n = r at *
  replace hr := Lib.hid hr
  replace b6 := Lib.hid b6
  go_enter Tryz.func8, Tryz.ntmps8
  go_wp2_with fail
  go_ret
  exact ⟨by rw [hr.out]; rfl, rfl⟩
end Go.Proofs.YtbcnbehneodlgaaGreatDoor

namespace Go.Proofs.YtbcnbehneodlgaaGreatDoor
set_option maxRecDepth 4000
open Go.RowKit

set_option maxHeartbeats 1000000 in
theorem rload_any (X : List UInt8) (m : Nat) (w : World) (hX : X.length = m * 128) (hm : m ≤ 70000) : Calls Tryz.prog 14 #[.string (str X)] w fun e w' => e = .returned (.pointer (some ⟨w.heap.size, 0, none⟩)) ∧ (∃ A cA, RD w' w.heap.size w.heap.size ((List.range m).map (sect X)) [] [] A cA none 0 none 0) ∧ Below w.heap.size w w' := by
  have hs : (str X).size = m * 128 := by rw [size_str, hX]
  have hx : ∀ i : Nat, (str X).extract (i * 128) (i * 128 + 128) = str (sect X i) := fun i => by rw [str_extract, Nat.add_sub_cancel_left]; rfl
  obtain ⟨Z, hZ⟩ : ∃ Z, Z = str X := ⟨_, rfl⟩
  rw [← hZ] at hs hx ⊢
  obtain ⟨N, hN⟩ : ∃ N, N = m * 128 := ⟨_, rfl⟩
  rw [← hN] at hs
  have HX := Lib.hid hx
  have HN := Lib.hid hN
  clear hx hZ hN hX
  go_enter Tryz.func14, Tryz.ntmps14
  go_wp2_with fail
  have top0 : Blk (w.alloc (.cells #[.slice none 0 0, .slice none 0 0, .slice none 0 0, .int .i64 (-1)] 85)) w.heap.size 85 #[.slice none 0 0, .slice none 0 0, .slice none 0 0, .int .i64 (-1)] := Blk.new _ _ _
  have bel0 := (Below.refl w.heap.size w).alloc (Nat.le_refl _) (.cells #[.slice none 0 0, .slice none 0 0, .slice none 0 0, .int .i64 (-1)] 85)
  generalize w.alloc (.cells #[.slice none 0 0, .slice none 0 0, .slice none 0 0, .int .i64 (-1)] 85) = w1 at *
  have H0 := Lib.hid (And.intro top0 bel0)
  clear top0 bel0
  obtain ⟨d, hd⟩ : ∃ d, w.heap.size = d := ⟨_, rfl⟩
  rw [hd] at H0 ⊢
  go_loopw [4] (fun i wr => ∃ j : Nat, i = .int .i64 (j * 128 : Nat) ∧ j ≤ m ∧ Hid (∃ A c, Blk wr d 85 #[.slice A j c, .slice none 0 0, .slice none 0 0, .int .i64 (-1)] ∧ wr.ownsRow d 9 1 (.slice A j c) j (strs ((List.range j).map (sect X))) ∧ Below d w wr)) (fun i _ => N - (intOf i).toNat)
  case atStart => exact ⟨0, rfl, Nat.zero_le _, Lib.hid ⟨none, 0, H0.out.1, World.ownsRow_nil _ _ _ _, H0.out.2⟩⟩
  case round =>
    obtain ⟨j, rfl, hj, hr⟩ := hrel
    obtain ⟨A, c, top, own, bel⟩ := hr.out
    have hne := own_ne own top (by decide)
    have hdl := top.lt
    obtain ⟨M, hM⟩ : ∃ M, M = j * 128 := ⟨_, rfl⟩
    rw [← hM]
    have hjb : j ≤ 70000 := by omega
    have hw1 : IntKind.i64.wrap ((M : Int) + 128) = (M : Int) + 128 := IntWalk.i64_in _ (by omega)
    by_cases hlt : j < m
    · have hlt1 : ((M : Int) + 128 ≤ (N : Int)) := by have := HN.out; omega
      have hlt2 : M + 128 ≤ N := by omega
      have hp0 : (0 : Int) ≤ (M : Int) + 128 := by omega
      have hp1 : (M : Int) ≤ (M : Int) + 128 := by omega
      have hp2 : ((M : Int) + 128).toNat = M + 128 := by omega
      have hx1 : Z.extract M (M + 128) = str (sect X j) := by rw [hM]; exact HX.out j
      obtain ⟨Y, hY⟩ : ∃ Y, Y = str (sect X j) := ⟨_, rfl⟩
      rw [← hY] at hx1
      have HY := Lib.hid hY
      have HM := Lib.hid hM
      have H := Lib.hid (And.intro top (And.intro own (And.intro bel hne)))
      have c0 : wr.drew.cell? ⟨d, 0, none⟩ = some (.slice A j c) := top.cell 0
      clear hr top own bel hne hY hM
      go_wp2_with fail
      refine region_fast [(0, true), (1, true), (2, true), (3, true), (4, true), (5, true), (6, true), (7, true), (8, true), (9, true), (10, false), (11, false), (12, true), (13, true), (14, false)] [1, 2, 3, 4, 5, 6, 7, 8, 9, 10, 11] 4094 [(16384, 8, 0, 0), (32768, 8, 0, 0), (65536, 32768, 2, 2), (131072, 65536, 4, 6), (262144, 131072, 8, 14), (524288, 1, 0, 0), (1048576, 16, 0, 0), (2097152, 16, 0, 0), (4194304, 2097152, 128, 128), (8388608, 5767168, 352, 480), (16777216, 8388608, 512, 992), (33554432, 17039360, 1040, 2046), (67108864, 16384, 4095, 4095), (134217728, 67108864, 8191, 8191), (0, 167772160, 12287, 16383)] (fun W => W.cell? ⟨d, 0, none⟩ = some (.slice A j c)) (by kernel_rfl) (by kernel_rfl) (by kernel_rfl) rfl (by kernel_rfl) (by kernel_rfl) c0 (fun hS => ?_)
      repeat (first
        | (refine plan_read (v := ?_) rfl (fun _ _ _ h => h) rfl hS ?_ ?_; rotate_left 1; (focus (intro w' hS'; have e0 := hS'; go_simp; try rfl)); (simp only [Act.put, List.setIfInBounds_toArray]; dsimp only [List.set_cons_zero, List.set_cons_succ]))
        | (refine plan_skip rfl (fun _ _ _ h => h) rfl hS ?_; (simp only [Act.put, List.setIfInBounds_toArray]; dsimp only [List.set_cons_zero, List.set_cons_succ])))
      refine plan_do (by rfl) (by rfl) (fun K hK => ?_)
      go_simp
      obtain ⟨w2, hw2⟩ : ∃ w2, (wr.alloc (.cells #[.string Y] 9)).drew = w2 := ⟨_, rfl⟩
      have b2 : Below wr.heap.size wr w2 := hw2 ▸ ((Below.refl wr.heap.size wr).alloc (Nat.le_refl _) (.cells #[.string Y] 9)).drew
      have hse : Sees w2 1 (some ⟨wr.heap.size, 0, none⟩) 1 [.string Y] := by
        have := sees_new wr 9 [.string Y] 1 1 rfl
        rw [← hw2]
        exact this.below (Below.refl _ _).drew
      rw [hw2]
      have hz2 := b2.size
      have c02 : w2.cell? ⟨d, 0, none⟩ = some (.slice A j c) := (b2.cell hdl).trans (H.out.1.cell 0)
      clear hS
      refine hK.out _ _ (fun _ => c02) (fun hS => ?_); clear hK K; replace hS := hS rfl; try (simp only [Act.put, List.setIfInBounds_toArray]; dsimp only [List.set_cons_zero, List.set_cons_succ])
      repeat (first
        | (refine plan_read (v := ?_) rfl (fun _ _ _ h => h) rfl hS ?_ ?_; rotate_left 1; (focus (intro w' hS'; have e0 := hS'; go_simp; try rfl)); (simp only [Act.put, List.setIfInBounds_toArray]; dsimp only [List.set_cons_zero, List.set_cons_succ]))
        | (refine plan_skip rfl (fun _ _ _ h => h) rfl hS ?_; (simp only [Act.put, List.setIfInBounds_toArray]; dsimp only [List.set_cons_zero, List.set_cons_succ])))
      refine plan_do (by rfl) (by rfl) (fun K hK => ?_)
      refine wp_app (.tmp 18) (.tmp 24) 28 rfl d 9 _ 1 16 Tryz.underlying28 info_string rfl (by decide) (.slice A j c) j _ rfl (own_below H.out.2.1 b2) (some ⟨wr.heap.size, 0, none⟩) 1 1 [.string Y] rfl hse (by simp [Value.oneCell']) (by unfold maxLen; omega) (by omega) (by omega) ?_
      intro v5 w5 o1 o2 o3 o4
      obtain ⟨A5, c5, rfl⟩ := own_shape o1
      have hf5 : Fr (fun k => (Value.slice A j c).ownBlock = some k) w2 w5 := Fr.of_grown o2 (fun k h => h)
      have top2 : Blk w2 d 85 _ := H.out.1.below b2 hdl
      have top5 := Blk.fr (F := fun k => (Value.slice A j c).ownBlock = some k) top2 hf5 (fun e => H.out.2.2.2 d e rfl)
      have hb5 : Below d w w5 := (H.out.2.2.1.trans (b2.mono (by have := H.out.2.2.1.size; omega))).grown o2 (by have := H.out.2.2.1.size; omega) (fun k hk => (H.out.2.1.lt k hk).1)
      have c05 : w5.cell? ⟨d, 0, none⟩ = some (.slice A j c) := top5.cell 0
      have f05 : w5.frozen? ⟨d, 0, none⟩ = false := top5.frozen 0
      clear hS
      refine hK.out _ _ (fun _ => c05) (fun hS => ?_); clear hK K; replace hS := hS rfl; try (simp only [Act.put, List.setIfInBounds_toArray]; dsimp only [List.set_cons_zero, List.set_cons_succ])
      repeat (first
        | (refine plan_read (v := ?_) rfl (fun _ _ _ h => h) rfl hS ?_ ?_; rotate_left 1; (focus (intro w' hS'; go_simp; try rfl)); (simp only [Act.put, List.setIfInBounds_toArray]; dsimp only [List.set_cons_zero, List.set_cons_succ]))
        | (refine plan_skip rfl (fun _ _ _ h => h) rfl hS ?_; (simp only [Act.put, List.setIfInBounds_toArray]; dsimp only [List.set_cons_zero, List.set_cons_succ])))
      refine plan_do (by rfl) (by rfl) (fun K hK => ?_)
      go_simp
      refine hK.out _ _ (fun h => by cases h) (fun _ => ?_); clear hK K; try (simp only [Act.put, List.setIfInBounds_toArray]; dsimp only [List.set_cons_zero, List.set_cons_succ])
      refine plan_nil ?_
      have top6 := top5.set_ 0 (.slice A5 (j + 1) c5)
      have hb6 : Below d w (w5.setCell ⟨d, 0, none⟩ (.slice A5 (j + 1) c5)) := hb5.setCell (Nat.le_refl _) _
      have own6 := own_fr o1 (Fr.setCell (F := fun k => k = d) w5 ⟨d, 0, none⟩ (.slice A5 (j + 1) c5) rfl) (own_ne o1 top5 (by decide))
      have H6 := Lib.hid (And.intro top6 (And.intro own6 hb6))
      clear top6 own6 hb6 c05 f05 hb5 top5 top2
      go_wp2_with fail
      go_roundw
      case rel => exact ⟨j + 1, by have := HM.out; first | go_num | (congr 1; omega) | (simp; omega), by omega, Lib.hid ⟨A5, c5, H6.out.1, by rw [List.range_succ, List.map_append, show strs ((List.range j).map (sect X) ++ [j].map (sect X)) = strs ((List.range j).map (sect X)) ++ [.string Y] by rw [HY.out]; simp [strs]]; exact H6.out.2.1, H6.out.2.2⟩⟩
      case measure => have := HN.out; simp [intOf]; omega
    · obtain rfl : j = m := by omega
      have hge : ¬ ((M : Int) + 128 ≤ (N : Int)) := by have := HN.out; omega
      have H := Lib.hid (And.intro top (And.intro own bel))
      clear hr top own bel hne
      go_wp2_with fail
      go_ret
      refine ⟨rfl, ⟨A, c, ?_, Nat.le_refl _, ?_, World.ownsRow_nil _ _ _ _, World.ownsRow_nil _ _ _ _, rfl⟩, H.out.2.2⟩
      · rw [List.length_map, List.length_range]; exact H.out.1
      · rw [List.length_map, List.length_range]; exact H.out.2.1

theorem begins_texts (L W : List (List UInt8)) (A B : Option Addr) (k m c c' : Nat) (w : World) (hk : L.length = k) (hm : W.length = m) (hkb : k ≤ 100000) (hmb : m ≤ 100000) (hA : Sees w 1 A k (strs L)) (hB : Sees w 1 B m (strs W)) :
    Calls Tryz.prog 22 #[.slice A k c, .slice B m c'] w fun e w' => e = .returned (.bool (decide (W = L.take W.length))) ∧ Below w.heap.size w w' := by
  by_cases hmk : m ≤ k
  · have hmki : ¬ (k : Int) < (m : Int) := by omega
    have HA := Lib.hid hA; have HB := Lib.hid hB; have HK := Lib.hid (And.intro hk hm)
    clear hA hB hk hm
    go_enter Tryz.func22, Tryz.ntmps22
    go_wp2_with fail
    go_loopw [5] (fun i wr => ∃ j : Nat, j ≤ m ∧ i = .int .i64 j ∧ Hid (W.take j = L.take j) ∧ Below w.heap.size w wr) (fun i _ => m - (intOf i).toNat)
    case atStart => exact ⟨0, by omega, rfl, Lib.hid rfl, Below.refl _ _⟩
    case round =>
      obtain ⟨j, hj, rfl, hr, hbr⟩ := hrel
      by_cases hlt : j < m
      · have hlti : (j : Int) < (m : Int) := by omega
        have hltk : (j : Int) < (k : Int) := by omega
        have hp := List.getElem?_eq_getElem (l := L) (i := j) (by rw [HK.out.1]; omega)
        obtain ⟨t, ht⟩ : ∃ p, p = L[j]'(by rw [HK.out.1]; omega) := ⟨_, rfl⟩
        rw [← ht] at hp
        have hq := List.getElem?_eq_getElem (l := W) (i := j) (by rw [HK.out.2]; exact hlt)
        obtain ⟨u, hu⟩ : ∃ p, p = W[j]'(by rw [HK.out.2]; exact hlt) := ⟨_, rfl⟩
        rw [← hu] at hq
        obtain ⟨g, off, rfl, hcs⟩ := HA.out.2 (by omega)
        obtain ⟨g2, off2, rfl, hcs2⟩ := HB.out.2 (by omega)
        have hc0 : w.cell? ⟨g, off + j, none⟩ = some (.string (str t)) := hcs j _ (by simp [strs, hp])
        have hc1 : wr.drew.cell? _ = _ := (hbr.cell (World.block_lt_of_cell? w _ hc0)).trans hc0
        have hd0 : w.cell? ⟨g2, off2 + j, none⟩ = some (.string (str u)) := hcs2 j _ (by simp [strs, hq])
        have hd1 : wr.drew.cell? _ = _ := (hbr.cell (World.block_lt_of_cell? w _ hd0)).trans hd0
        have HBR := Lib.hid hbr
        have heq : ((str t).toList == (str u).toList) = decide (t = u) := by rw [str_toList, str_toList, beq_dec]
        have HPQ := Lib.hid (And.intro hp hq)
        clear hcs hcs2 hp hq ht hu hc0 hd0 hbr
        obtain ⟨XT, hXT⟩ : ∃ x, x = str t := ⟨_, rfl⟩
        obtain ⟨XU, hXU⟩ : ∃ x, x = str u := ⟨_, rfl⟩
        rw [← hXT] at hc1 heq
        rw [← hXU] at hd1 heq
        clear hXT hXU
        by_cases htu : t = u
        · rw [decide_eq_true htu] at heq
          have HTU := Lib.hid htu
          clear htu
          go_wp2_with fail
          refine region_fast [(0, true), (1, true), (2, true), (3, true), (4, true), (5, true), (6, true), (7, true), (8, true)] [1, 4, 5, 6, 7] 242 [(131072, 1, 0, 0), (262144, 32, 0, 0), (524288, 393216, 3, 3), (1048576, 524288, 4, 7), (2097152, 2, 0, 0), (4194304, 32, 0, 0), (8388608, 6291456, 48, 48), (16777216, 8388608, 64, 112), (33554432, 17825792, 136, 255)] (fun w' => w'.cell? ⟨g, off + j, none⟩ = some (.string XT) ∧ w'.cell? ⟨g2, off2 + j, none⟩ = some (.string XU)) (by kernel_rfl) (by kernel_rfl) (by kernel_rfl) rfl (by kernel_rfl) (by kernel_rfl) ⟨hc1, hd1⟩ (fun hS => ?_)
          repeat (first
            | (refine plan_read (v := ?_) rfl (fun _ _ _ h => h) rfl hS ?_ ?_; rotate_left 1; (focus (intro w' hS'; obtain ⟨z1, z2⟩ := hS'; go_simp; try rfl)); (simp only [Act.put, List.setIfInBounds_toArray]; dsimp only [List.set_cons_zero, List.set_cons_succ]))
            | (refine plan_skip rfl (fun _ _ _ h => h) rfl hS ?_; (simp only [Act.put, List.setIfInBounds_toArray]; dsimp only [List.set_cons_zero, List.set_cons_succ])))
          refine plan_nil ?_
          go_wp2_with fail
          go_roundw
          case rel => exact ⟨j + 1, by omega, by go_num, Lib.hid (by rw [List.take_add_one, List.take_add_one, hr.out, HPQ.out.1, HPQ.out.2, HTU.out]), HBR.out.drew⟩
          case measure => simp [intOf]; omega
        · rw [decide_eq_false htu] at heq
          have HTU := Lib.hid htu
          clear htu
          go_wp2_with fail
          refine region_fast [(0, true), (1, true), (2, true), (3, true), (4, true), (5, true), (6, true), (7, true), (8, true)] [1, 4, 5, 6, 7] 242 [(131072, 1, 0, 0), (262144, 32, 0, 0), (524288, 393216, 3, 3), (1048576, 524288, 4, 7), (2097152, 2, 0, 0), (4194304, 32, 0, 0), (8388608, 6291456, 48, 48), (16777216, 8388608, 64, 112), (33554432, 17825792, 136, 255)] (fun w' => w'.cell? ⟨g, off + j, none⟩ = some (.string XT) ∧ w'.cell? ⟨g2, off2 + j, none⟩ = some (.string XU)) (by kernel_rfl) (by kernel_rfl) (by kernel_rfl) rfl (by kernel_rfl) (by kernel_rfl) ⟨hc1, hd1⟩ (fun hS => ?_)
          repeat (first
            | (refine plan_read (v := ?_) rfl (fun _ _ _ h => h) rfl hS ?_ ?_; rotate_left 1; (focus (intro w' hS'; obtain ⟨z1, z2⟩ := hS'; go_simp; try rfl)); (simp only [Act.put, List.setIfInBounds_toArray]; dsimp only [List.set_cons_zero, List.set_cons_succ]))
            | (refine plan_skip rfl (fun _ _ _ h => h) rfl hS ?_; (simp only [Act.put, List.setIfInBounds_toArray]; dsimp only [List.set_cons_zero, List.set_cons_succ])))
          refine plan_nil ?_
          go_wp2_with fail
          go_ret
          refine ⟨ret_bool (decide_eq_false fun e => HTU.out ?_).symm, HBR.out.drew⟩
          have h1 := HPQ.out.2
          rw [e, List.getElem?_take, if_pos (by rw [HK.out.2]; exact hlt), HPQ.out.1] at h1
          exact Option.some.inj h1
      · obtain rfl : j = m := by omega
        have hge : ¬ ((j : Int) < (j : Int)) := by omega
        go_wp2_with fail
        go_ret
        refine ⟨ret_bool (decide_eq_true ?_).symm, hbr⟩
        have := hr.out
        rw [List.take_of_length_le (by rw [HK.out.2]; exact Nat.le_refl _)] at this
        rw [HK.out.2]
        exact this
  · have hmki : (k : Int) < (m : Int) := by omega
    have hd : decide (W = L.take W.length) = false := decide_eq_false fun e => by
      have := congrArg List.length e
      rw [List.length_take] at this
      omega
    rw [hd]
    clear hA hB hk hm hd
    go_enter Tryz.func22, Tryz.ntmps22
    go_wp2_with fail
    go_ret
    exact ⟨rfl, Below.refl _ _⟩
end Go.Proofs.YtbcnbehneodlgaaGreatDoor

namespace Go.Proofs.YtbcnbehneodlgaaGreatDoor
set_option maxRecDepth 4000
open Go.RowKit Go.ChangeShapes Go.WideShapes Go.Deep

structure La where
  kd : Int
  n : Int
  b : UInt8
  pA : Option Addr
  pl : Nat
  pc : Nat
def lcells (y : La) : List Value := [.int .i64 y.kd, .int .i64 y.n, .int .u8 (y.b.toNat : Nat), .slice y.pA y.pl y.pc]
@[simp] theorem lcells_length (y : La) : (lcells y).length = 4 := rfl
def las (l : List La) : List Value := l.flatMap lcells
@[simp] theorem las_length (l : List La) : (las l).length = l.length * 4 := by unfold las; rw [length_flatMap_const _ 4 lcells_length]
theorem las_get : ∀ {l : List La} {k : Nat} {e : La}, l[k]? = some e → ∀ j, j < 4 → (las l)[k * 4 + j]? = (lcells e)[j]?
  | [], k, e, h, j, hj => by simp at h
  | x :: l, 0, e, h, j, hj => by
      injection h with h; subst h
      show (lcells x ++ las l)[0 * 4 + j]? = _
      rw [Nat.zero_mul, Nat.zero_add, List.getElem?_append_left (by rw [lcells_length]; exact hj)]
  | x :: l, k + 1, e, h, j, hj => by
      show (lcells x ++ las l)[(k + 1) * 4 + j]? = _
      rw [List.getElem?_append_right (by rw [lcells_length]; omega), lcells_length, show (k + 1) * 4 + j - 4 = k * 4 + j by omega]
      exact las_get (by simpa using h) j hj
def LaOk (y : La) : Prop := (-9223372036854775808 ≤ y.kd ∧ y.kd ≤ 9223372036854775807) ∧ (-9223372036854775808 ≤ y.n ∧ y.n ≤ 9223372036854775807) ∧ y.pl ≤ maxLen
theorem in_la {w : World} {A : Option Addr} {l : List La} (h : Sees w 4 A l.length (las l)) {k : Nat} {y : La} (hk : l[k]? = some y) :
    ∃ g o, A = some ⟨g, o, none⟩ ∧ w.cell? ⟨g, o + k * 4, none⟩ = some (.int .i64 y.kd) ∧ w.cell? ⟨g, o + k * 4 + 1, none⟩ = some (.int .i64 y.n) ∧ w.cell? ⟨g, o + k * 4 + 2, none⟩ = some (.int .u8 (y.b.toNat : Nat)) ∧
      w.cell? ⟨g, o + k * 4 + 3, none⟩ = some (.slice y.pA y.pl y.pc) := by
  have hkl := (List.getElem?_eq_some_iff.1 hk).1
  obtain ⟨g, o, e', hc⟩ := h.2 (by omega)
  have hg : ∀ j u, j < 4 → (lcells y)[j]? = some u → w.cell? ⟨g, o + k * 4 + j, none⟩ = some u := fun j u hj hu => by
    have := hc (k * 4 + j) u (by rw [las_get hk j hj]; exact hu)
    rwa [← Nat.add_assoc] at this
  exact ⟨g, o, e', hg 0 _ (by omega) rfl, hg 1 _ (by omega) rfl, hg 2 _ (by omega) rfl, hg 3 _ (by omega) rfl⟩

def SmallE (e : Ending) (k : Nat) (w w' : World) : Prop := ∃ B, e = .returned (.bool B) ∧ (B = true → k ≤ 25) ∧ Below w.heap.size w w'
theorem small_acts (ys : List La) (A : Option Addr) (k c : Nat) (w : World) (hk : ys.length = k) (hS : Sees w 4 A k (las ys)) :
    Calls Tryz.prog 5 #[.slice A k c, .int .i64 25] w fun e w' => SmallE e k w w' := by
  by_cases h25 : k ≤ 25
  · have hki : ¬ (25 : Int) < (k : Int) := by omega
    have HS := Lib.hid hS
    have HK := Lib.hid hk
    clear hS hk
    go_enter Tryz.func5, Tryz.ntmps5
    go_wp2_with fail
    go_loopw [5] (fun i wr => ∃ j : Nat, i = .int .i64 j ∧ j ≤ k ∧ wr = w) (fun i _ => k - (intOf i).toNat)
    case atStart => exact ⟨0, rfl, Nat.zero_le _, rfl⟩
    case round =>
      obtain ⟨j, rfl, hj, rfl⟩ := hrel
      by_cases hlt : j < k
      · have hji : (j : Int) < (k : Int) := by omega
        have hjl : j < ys.length := by rw [HK.out]; exact hlt
        obtain ⟨y, hy⟩ : ∃ y, y = ys[j] := ⟨_, rfl⟩
        have hyj : ys[j]? = some y := by rw [List.getElem?_eq_getElem hjl, hy]
        obtain ⟨g, o, rfl, x0, x1, x2, x3⟩ := in_la (by rw [HK.out]; exact HS.out) hyj
        clear hy hyj hjl x0 x1 x2
        obtain ⟨kd, n, b, pA, pl, pc⟩ := y
        by_cases h30 : 30 < pl
        · have h30i : (30 : Int) < (pl : Int) := by omega
          go_wp2_with fail
          go_ret
          exact ⟨false, rfl, (fun h => by cases h), Below.refl _ _⟩
        · have h30i : ¬ (30 : Int) < (pl : Int) := by omega
          go_wp2_with fail
          go_roundw
          case rel => exact ⟨j + 1, by go_num, by omega, by first | rfl | trivial⟩
          case measure => simp [intOf]; omega
      · obtain rfl : j = k := by omega
        have hge : ¬ ((j : Int) < (j : Int)) := by omega
        go_wp2_with fail
        go_ret
        exact ⟨true, rfl, fun _ => h25, Below.refl _ _⟩
  · have hki : (25 : Int) < (k : Int) := by omega
    clear hS hk
    go_enter Tryz.func5, Tryz.ntmps5
    go_wp2_with fail
    go_ret
    exact ⟨false, rfl, (fun h => by cases h), Below.refl _ _⟩

theorem u8s_set (t : List UInt8) (i : Nat) (u : UInt8) : (u8s t).toArray.setIfInBounds i (.int .u8 (u.toNat : Nat)) = (u8s (t.set i u)).toArray := by
  rw [List.setIfInBounds_toArray]
  unfold u8s
  rw [List.map_set]
theorem u8_some (x : Int) : ∃ u : UInt8, IntKind.u8.wrap x = ((u.toNat : Nat) : Int) := by
  refine ⟨UInt8.ofNat (x % 256).toNat, ?_⟩
  rw [IntKind.wrap_u8]
  have h1 : 0 ≤ x % 256 := Int.emod_nonneg _ (by decide)
  have h2 : x % 256 < 256 := Int.emod_lt_of_pos _ (by decide)
  rw [UInt8.toNat_ofNat']
  omega

theorem text_any (y : La) (hy : LaOk y) (w : World) :
    Calls Tryz.prog 10 #[.agg #[.int .i64 y.kd, .int .i64 y.n, .int .u8 (y.b.toNat : Nat), .slice y.pA y.pl y.pc]] w fun e w' => ∃ g t, e = .returned (.slice (some ⟨g, 0, none⟩) (List.length t) (List.length t)) ∧ w.heap.size ≤ g ∧ t.length < 400 ∧ Blk w' g 5 (u8s t).toArray ∧ Below w.heap.size w w' := by
  obtain ⟨kd, n, b, pA, pl, pc⟩ := y
  have HR := Lib.hid (fun W => rest_at n 400 W hy.2.1.1 hy.2.1.2 (by omega) (by omega))
  have hm := restN_lt n 400 (by omega)
  obtain ⟨m, hmd⟩ : ∃ m, m = restN n 400 := ⟨_, rfl⟩
  rw [← hmd] at HR hm
  have hmk := make_bytesL m (by omega)
  obtain ⟨Z, hZ⟩ : ∃ z : Array Value, z = (u8s (List.replicate m 0)).toArray := ⟨_, rfl⟩
  rw [← hZ] at hmk
  replace hmk : ∀ W : World, (Instr.makeSlice 42 (.int .i64 (m : Int)) (.int .i64 (m : Int))).run Tryz.prog W = .ok (.slice (some ⟨W.heap.size, 0, none⟩) m m) (W.alloc (.cells Z 5)) := hmk
  have HZ := Lib.hid hZ
  have hb256 : b.toNat < 256 := UInt8.toNat_lt _
  obtain ⟨bn, hbn⟩ : ∃ x, x = b.toNat := ⟨_, rfl⟩
  simp only at *
  rw [← hbn]
  clear hmd hZ hy hbn hb256
  go_enter Tryz.func10, Tryz.ntmps10
  go_wp2_with fail
  refine (HR.out _).mono ?_
  rintro e w1 ⟨rfl, rfl⟩
  go_wp2_with (simp only [hmk])
  obtain ⟨w2, hw2⟩ : ∃ w2, (w.alloc (.cells #[.int .i64 kd, .int .i64 n, .int .u8 (bn : Nat), .slice pA pl pc] 38)).alloc (.cells Z 5) = w2 := ⟨_, rfl⟩
  have hab : Blk w2 w.heap.size 38 #[.int .i64 kd, .int .i64 n, .int .u8 (bn : Nat), .slice pA pl pc] := by rw [← hw2]; exact (Blk.new w 38 _).alloc _
  have hbb : Blk w2 (w.heap.size + 1) 5 (u8s (List.replicate m 0)).toArray := by rw [← hw2, ← HZ.out]; exact Blk.newAt (by simp) rfl
  have hbel : Below w.heap.size w w2 := by rw [← hw2]; exact ((Below.refl _ _).alloc (Nat.le_refl _) _).alloc (by simp) _
  rw [hw2]
  clear hw2
  have hgp : w.heap.size ≠ w.heap.size + 1 := by omega
  have HB := Lib.hid (And.intro hab (And.intro hbb hbel))
  clear hab hbb hbel
  go_loopw [4] (fun i wr => ∃ j : Nat, i = .int .i64 j ∧ j ≤ m ∧ Hid (∃ t : List UInt8, t.length = m ∧ Blk wr w.heap.size 38 #[.int .i64 kd, .int .i64 n, .int .u8 (bn : Nat), .slice pA pl pc] ∧ Blk wr (w.heap.size + 1) 5 (u8s t).toArray ∧ Below w.heap.size w wr)) (fun i _ => m - (intOf i).toNat)
  case atStart => exact ⟨0, rfl, Nat.zero_le _, Lib.hid ⟨List.replicate m 0, List.length_replicate, HB.out.1, HB.out.2.1, HB.out.2.2⟩⟩
  case round =>
    obtain ⟨j, rfl, hj, hr⟩ := hrel
    obtain ⟨t, ht, ha, hb, bel⟩ := hr.out
    by_cases hlt : j < m
    · have hji : (j : Int) < (m : Int) := by omega
      have c2 : wr.cell? ⟨w.heap.size, 2, none⟩ = some (.int .u8 (bn : Nat)) := ha.cell 2
      obtain ⟨v, hv⟩ : ∃ v, (u8s t).toArray[j]? = some v := ⟨_, Array.getElem?_eq_getElem (by simp [u8s]; omega)⟩
      have cj := (hb.cell j).trans hv
      clear hv
      have fj : wr.frozen? ⟨w.heap.size + 1, j, none⟩ = false := hb.frozen j
      obtain ⟨u1, hu1⟩ := u8_some (j : Int)
      obtain ⟨u2, hu2⟩ := u8_some ((bn : Int) + (u1.toNat : Int))
      obtain ⟨x1, hx1⟩ : ∃ x, x = u1.toNat := ⟨_, rfl⟩
      obtain ⟨x2, hx2⟩ : ∃ x, x = u2.toNat := ⟨_, rfl⟩
      rw [← hx1] at hu1 hu2
      rw [← hx2] at hu2
      have HX := Lib.hid (And.intro ht (And.intro ha (And.intro hb (And.intro bel hx2))))
      clear hr ht ha hb bel hx1 hx2
      go_wp2_with fail
      go_roundw
      case rel =>
        refine ⟨j + 1, by go_num, by omega, Lib.hid ⟨t.set j u2, by rw [List.length_set]; exact HX.out.1, HX.out.2.1.far hgp _, ?_, HX.out.2.2.2.1.setCell (by show w.heap.size ≤ w.heap.size + 1; omega) _⟩⟩
        rw [HX.out.2.2.2.2, ← u8s_set]
        exact HX.out.2.2.1.set_ j _
      case measure => simp [intOf]; omega
    · obtain rfl : j = m := by omega
      have hge : ¬ ((j : Int) < (j : Int)) := by omega
      have HX := Lib.hid (And.intro ht (And.intro hb bel))
      clear hr ht ha hb bel
      go_wp2_with fail
      go_ret
      exact ⟨w.heap.size + 1, t, by rw [HX.out.1]; rfl, by omega, by rw [HX.out.1]; exact hm, HX.out.2.1, HX.out.2.2⟩
end Go.Proofs.YtbcnbehneodlgaaGreatDoor

namespace Go.Proofs.YtbcnbehneodlgaaGreatDoor
set_option maxRecDepth 4000
open Go.RowKit Go.ChangeShapes Go.WideShapes Go.Deep

section
variable {H : Type} {enc : TypeId × Value → H} {P : Program} {w : World} {base : Nat} {spare : Nat → Bool} {held : Bool}
theorem open_len {t e : TypeId} {fuel : Nat} {cs : List Value} {x : DataW H × List MemPlace} (ht : P.underlying t = some (.slice e)) (h : DataW.trod enc P w base spare held fuel t cs = some x) : ∃ A n c, cs = [.slice A n c] ∧ n ≤ maxLen := by
  rcases open_slice ht h with ⟨rfl, _⟩ | ⟨a, len, cap, m, n, D, Pl, rfl, hb, hl, hm, _⟩
  · exact ⟨none, 0, 0, rfl, Nat.zero_le _⟩
  · exact ⟨some a, len, cap, rfl, Nat.le_trans hl hm⟩
theorem open_la {T I B S2 I2 : TypeId} {f0 f1 f2 f3 : Field} (st : P.underlying T = some (.struct #[f0, f1, f2, f3])) (int : P.underlying I = some (.int .i64)) (oct : P.underlying B = some (.int .u8)) (s2 : P.underlying S2 = some (.slice I2))
    (t0 : f0.type = I) (t1 : f1.type = I) (t2 : f2.type = B) (t3 : f3.type = S2) (o0 : f0.offset = 0) (o1 : f1.offset = 1) (o2 : f2.offset = 2) (o3 : f3.offset = 3)
    (hI : P.cellsOf I = 1) (hB : P.cellsOf B = 1) (h2 : P.cellsOf S2 = 1) {fuel : Nat} {cs : List Value} {x : DataW H × List MemPlace} (hl : cs.length = 4) (h : DataW.trod enc P w base spare held fuel T cs = some x) : ∃ y : La, cs = lcells y ∧ LaOk y := by
  match cs, hl with
  | [c0, c1, c2, c3], _ =>
    obtain ⟨xs, n, _, rfl, hl, hlen, hf⟩ := DataW.trod_struct st h
    match xs, hlen with
    | [y0, y1, y2, y3], _ =>
      have g0 := hf 0 f0 rfl
      have g1 := hf 1 f1 rfl
      have g2 := hf 2 f2 rfl
      have g3 := hf 3 f3 rfl
      rw [t0, o0, hI] at g0
      rw [t1, o1, hI] at g1
      rw [t2, o2, hB] at g2
      rw [t3, o3, h2] at g3
      obtain ⟨z0, a0, -, b0⟩ := DataW.trod_int int g0
      obtain ⟨z1, a1, -, b1⟩ := DataW.trod_int int g1
      obtain ⟨z2, a2, -, b2⟩ := DataW.trod_int oct g2
      obtain ⟨A3, n3, c3', a3, m3⟩ := open_len s2 g3
      simp at a0 a1 a2 a3
      have w0 := wf_i64 b0
      have w1 := wf_i64 b1
      have w2 := wf_u8 b2
      refine ⟨⟨z0, z1, UInt8.ofNat z2.toNat, A3, n3, c3'⟩, ?_, w0, w1, m3⟩
      have hz : ((UInt8.ofNat z2.toNat).toNat : Int) = z2 := by rw [UInt8.toNat_ofNat']; omega
      rw [a0, a1, a2, a3]
      show [Value.int .i64 z0, .int .i64 z1, .int .u8 z2, .slice A3 n3 c3'] = [Value.int .i64 z0, .int .i64 z1, .int .u8 ((UInt8.ofNat z2.toNat).toNat : Nat), .slice A3 n3 c3']
      rw [hz]
theorem open_las {t T I B S2 I2 : TypeId} {f0 f1 f2 f3 : Field} (st : P.underlying T = some (.struct #[f0, f1, f2, f3])) (int : P.underlying I = some (.int .i64)) (oct : P.underlying B = some (.int .u8)) (s2 : P.underlying S2 = some (.slice I2))
    (t0 : f0.type = I) (t1 : f1.type = I) (t2 : f2.type = B) (t3 : f3.type = S2) (o0 : f0.offset = 0) (o1 : f1.offset = 1) (o2 : f2.offset = 2) (o3 : f3.offset = 3)
    (hI : P.cellsOf I = 1) (hB : P.cellsOf B = 1) (h2 : P.cellsOf S2 = 1) (hT : P.cellsOf T = 4) (ht : P.underlying t = some (.slice T)) {fuel : Nat} {cs : List Value} {x : DataW H × List MemPlace}
    (h : DataW.trod enc P w base (fun _ => true) held fuel t cs = some x) : ∃ A ys c, cs = [.slice A (List.length ys) c] ∧ Sees w 4 A (List.length ys) (las ys) ∧ (∀ y ∈ ys, LaOk y) ∧ List.length ys ≤ maxLen := by
  rcases open_slice ht h with ⟨rfl, _⟩ | ⟨a, len, cap, m, n, D, Pl, rfl, hb, hl, hm, hmm, rfl, hx⟩
  · exact ⟨none, [], 0, rfl, Sees.none_ _ _ _, fun y hy => by simp at hy, Nat.zero_le _⟩
  · simp only [if_true] at hmm
    subst hmm
    rw [hT] at hx
    have hb : ∀ r, ∃ y : La, (LaOk y) ∧ (r < m → ∀ j, j < 4 → w.cell? ((a.add (r * 4)).add j) = (lcells y)[j]?) := fun r => by
      by_cases hr : r < m
      · obtain ⟨cs', h1', h2'⟩ := hx r hr
        obtain ⟨_, hlen, hcell⟩ := World.cells?_some h1'
        obtain ⟨y, rfl, hok⟩ := open_la st int oct s2 t0 t1 t2 t3 o0 o1 o2 o3 hI hB h2 (by rw [hlen]) h2'
        exact ⟨y, hok, fun _ j hj => hcell j (by omega)⟩
      · exact ⟨⟨0, 0, 0, none, 0, 0⟩, ⟨by decide, by decide, Nat.zero_le _⟩, fun h => absurd h hr⟩
    obtain ⟨f, hf⟩ : ∃ f : Nat → La, ∀ r, LaOk (f r) ∧ (r < m → ∀ j, j < 4 → w.cell? ((a.add (r * 4)).add j) = (lcells (f r))[j]?) := ⟨fun r => (hb r).choose, fun r => (hb r).choose_spec⟩
    refine ⟨some a, (List.range len).map f, m, by simp, ⟨by simp, fun h0 => ?_⟩, fun y hy => ?_, by simpa using Nat.le_trans hl hm⟩
    · simp only [List.length_map, List.length_range] at h0
      obtain ⟨g, off, spot⟩ := a
      have hc0 := (hf 0).2 (by omega) 0 (by omega)
      have hspot : spot = none := by
        have : ∃ v, w.cell? (((⟨g, off, spot⟩ : Addr).add (0 * 4)).add 0) = some v := ⟨_, hc0⟩
        obtain ⟨v, hv⟩ := this
        simpa [Addr.add] using World.cell?_spot hv
      subst hspot
      refine ⟨g, off, rfl, fun j u hj => ?_⟩
      have hjl : j < len * 4 := by have := (List.getElem?_eq_some_iff.1 hj).1; simpa using this
      have hd : j / 4 < len := by omega
      have hk : ((List.range len).map f)[j / 4]? = some (f (j / 4)) := by rw [List.getElem?_map, List.getElem?_range hd]; rfl
      have hg := las_get hk (j % 4) (by omega)
      rw [show j / 4 * 4 + j % 4 = j by omega, hj] at hg
      have hc := (hf (j / 4)).2 (by omega) (j % 4) (by omega)
      rw [← hg] at hc
      have ea : ∀ (o n : Nat), (⟨g, o, none⟩ : Addr).add n = ⟨g, o + n, none⟩ := fun o n => by
        unfold Addr.add
        split
        · subst n; rfl
        · rfl
      have e : ((⟨g, off, none⟩ : Addr).add (j / 4 * 4)).add (j % 4) = ⟨g, off + j, none⟩ := by
        rw [ea, ea, show off + j / 4 * 4 + j % 4 = off + j by omega]
      rwa [e] at hc
    · obtain ⟨r, -, rfl⟩ := List.mem_map.1 hy
      exact (hf r).1
end
end Go.Proofs.YtbcnbehneodlgaaGreatDoor
