/-
  The document's Push.
-/
import Derived.Test.YtaapdkeipknilaaDue17
namespace Go.Proofs.Ytaapdkeipknilaa
set_option maxRecDepth 4000
open Go.RowKit

theorem sorted_le {S : List (Int × Int)} (h : Sorted S) {i j : Nat} (hij : i ≤ j) (hj : j < S.length) : LE (gg S i) (gg S j) := by
  by_cases e : i = j
  · subst e; exact LE.refl _
  · have := (List.pairwise_iff_getElem.1 h) i j (by omega) hj (by omega)
    rw [gg_eq hj, gg_eq (by omega : i < S.length)]
    exact this
theorem ins_at {S : List (Int × Int)} {d : Int × Int} {k : Nat} (h : Sorted S) (hk : k ≤ S.length) (h1 : ∀ j, j < k → LE (gg S j) d) (h2 : ∀ j, k ≤ j → j < S.length → LE d (gg S j)) : S.take k ++ ([d] ++ S.drop k) = ins d S := by
  show S.take k ++ (d :: S.drop k) = ins d S
  refine sorted_unique ?_ (ins_sorted h) ?_
  · unfold Sorted
    rw [List.pairwise_append]
    refine ⟨h.sublist (List.take_sublist _ _), ?_, ?_⟩
    · refine List.Pairwise.cons ?_ (h.sublist (List.drop_sublist _ _))
      intro y hy
      obtain ⟨j, hj, rfl⟩ := List.mem_iff_getElem.1 hy
      rw [List.length_drop] at hj
      have := h2 (k + j) (by omega) (by omega)
      rw [gg_eq (by omega)] at this
      rw [List.getElem_drop]
      exact this
    · intro x hx y hy
      obtain ⟨i, hi, rfl⟩ := List.mem_iff_getElem.1 hx
      rw [List.length_take] at hi
      have h3 := h1 i (by omega)
      rw [gg_eq (by omega)] at h3
      rw [List.getElem_take]
      rcases List.mem_cons.1 hy with rfl | hy
      · exact h3
      · obtain ⟨j, hj, rfl⟩ := List.mem_iff_getElem.1 hy
        rw [List.length_drop] at hj
        have := h2 (k + j) (by omega) (by omega)
        rw [gg_eq (by omega)] at this
        rw [List.getElem_drop]
        exact h3.trans this
  · have h3 : (S.take k ++ (d :: S.drop k)).Perm (d :: (S.take k ++ S.drop k)) := List.perm_middle
    rw [List.take_append_drop] at h3
    exact h3.trans (ins_perm d S).symm
theorem dcs_take (S : List (Int × Int)) (k : Nat) (hk : k ≤ S.length) : dcs (S.take k) = (dcs S).take (k * 2) := by
  have h := congrArg dcs (List.take_append_drop k S)
  rw [dcs_append] at h
  have hl : (dcs (S.take k)).length = k * 2 := by rw [dcs_length, List.length_take, Nat.min_eq_left hk]
  rw [← h, List.take_left' hl]
theorem dcs_drop (S : List (Int × Int)) (k : Nat) (hk : k ≤ S.length) : dcs (S.drop k) = (dcs S).drop (k * 2) := by
  have h := congrArg dcs (List.take_append_drop k S)
  rw [dcs_append] at h
  have hl : (dcs (S.take k)).length = k * 2 := by rw [dcs_length, List.length_take, Nat.min_eq_left hk]
  rw [← h, ← hl, List.drop_left]
theorem sees_take {w : World} {A : Option Addr} {S : List (Int × Int)} (h : Sees w 2 A S.length (dcs S)) (k : Nat) (hk : k ≤ S.length) : Sees w 2 A k (dcs (S.take k)) := by
  refine ⟨by rw [dcs_length, List.length_take, Nat.min_eq_left hk], fun h0 => ?_⟩
  obtain ⟨g, o, e, hc⟩ := h.2 (by omega)
  refine ⟨g, o, e, fun j u hj => hc j u ?_⟩
  rw [dcs_take S k hk, List.getElem?_take] at hj
  split at hj
  · exact hj
  · cases hj
theorem sees_drop {w : World} {g o : Nat} {S : List (Int × Int)} (h : Sees w 2 (some ⟨g, o, none⟩) S.length (dcs S)) (k : Nat) (hk : k ≤ S.length) : Sees w 2 (some ⟨g, o + k * 2, none⟩) (S.length - k) (dcs (S.drop k)) := by
  refine ⟨by rw [dcs_length, List.length_drop], fun h0 => ?_⟩
  obtain ⟨g', o', e, hc⟩ := h.2 (by omega)
  injection e with e
  injection e with e1 e2 _
  subst e1 e2
  refine ⟨g, o + k * 2, rfl, fun j u hj => ?_⟩
  rw [dcs_drop S k hk, List.getElem?_drop] at hj
  rw [Nat.add_assoc]
  exact hc _ u hj
theorem sees_drop' {w : World} {g o c : Nat} {S : List (Int × Int)} (h : Sees w 2 (some ⟨g, o, none⟩) S.length (dcs S)) (k : Nat) (hk : k ≤ S.length) (hc : S.length ≤ c) : Sees w 2 (if c = k then some ⟨g, o, none⟩ else some ⟨g, o + k * 2, none⟩) (S.length - k) (dcs (S.drop k)) := by
  by_cases e : c = k
  · rw [if_pos e, List.drop_eq_nil_of_le (by omega), show S.length - k = 0 by omega]
    exact Sees.none_ _ _ _
  · rw [if_neg e]
    exact sees_drop h k hk
/-- What a list of the document's is in memory. -/
def RAt (w : World) (A : Option Addr) (c : Nat) (S : List (Int × Int)) : Prop := Sees w 2 A S.length (dcs S) ∧ S.length ≤ c ∧ ((A = none ∧ c = 0) ∨ ∃ g o, A = some ⟨g, o, none⟩)
set_option maxHeartbeats 2000000 in
theorem rpush_any (A : Option Addr) (c : Nat) (S : List (Int × Int)) (d : Int × Int) (w : World) (hA : RAt w A c S) (hs : Sorted S) (hl : S.length ≤ 900) :
    Calls Try.prog 15 #[.slice A S.length c, .agg #[.int .i64 d.1, .int .i64 d.2]] w fun e w' => ∃ B c', e = .returned (.tuple #[.slice B (pushS S d).length c', .bool (!hasB S d.2)]) ∧ RAt w' B c' (pushS S d) ∧ Below w.heap.size w w' ∧ (∀ a, B = some a → (hasB S d.2 = true ∧ A = some a) ∨ w.heap.size ≤ a.block) := by
  obtain ⟨p, q⟩ := d
  obtain ⟨w1, hw1⟩ : ∃ w1, w.alloc (.cells #[.int .i64 p, .int .i64 q] 28) = w1 := ⟨_, rfl⟩
  have hb1 : Below w.heap.size w w1 := hw1 ▸ (Below.refl _ _).alloc (Nat.le_refl _) _
  have k1 : Blk w1 w.heap.size 28 #[.int .i64 p, .int .i64 q] := hw1 ▸ Blk.new w _ _
  have H := Lib.hid (And.intro hA (And.intro hs (And.intro hb1 k1)))
  have hl2 : (S.length : Int) ≤ 900 := by omega
  clear hA hs hb1 k1
  go_enter Try.func15, Try.ntmps15
  go_wp2_with fail
  clear hw1
  go_loopw [6, 7] (fun kk ii wr => ∃ i k : Nat, kk = .int .i64 k ∧ ii = .int .i64 i ∧ k ≤ i ∧ i ≤ S.length ∧ Hid (Below w1.heap.size w1 wr ∧ (∀ j, j < i → (gg S j).2 ≠ q) ∧ (∀ j, j < k → LE (gg S j) (p, q)) ∧ (∀ j, k ≤ j → j < i → LE (p, q) (gg S j)))) (fun _ ii _ => S.length - (intOf ii).toNat)
  case atStart => exact ⟨0, 0, rfl, rfl, Nat.le_refl _, Nat.zero_le _, Lib.hid ⟨Below.refl _ _, fun j h => by omega, fun j h => by omega, fun j _ h => by omega⟩⟩
  case round =>
    obtain ⟨i, k, rfl, rfl, hki, hi, hr⟩ := hrel
    have hbw : Below w.heap.size w wr := H.out.2.2.1.trans (hr.out.1.mono H.out.2.2.1.size)
    have kd := H.out.2.2.2.below hr.out.1 H.out.2.2.2.lt
    have d0 : wr.cell? ⟨w.heap.size, 0, none⟩ = some (.int .i64 p) := kd.cell 0
    have d1 : wr.cell? ⟨w.heap.size, 1, none⟩ = some (.int .i64 q) := kd.cell 1
    have hkd := kd.lt
    have HBW := Lib.hid hbw
    clear kd hbw
    by_cases hlt : i < S.length
    · have hlti : (i : Int) < (S.length : Int) := by omega
      obtain ⟨g, o, rfl, x0, x1⟩ := in_due (H.out.1.1.below HBW.out) (gg_get hlt)
      have HLT := Lib.hid hlt
      have hgl := World.block_lt_of_cell? _ _ x0
      obtain ⟨y, hy⟩ : ∃ y, gg S i = y := ⟨_, rfl⟩
      rw [hy] at x0 x1
      have HY := Lib.hid hy
      obtain ⟨p1, q1⟩ := y
      simp only at x0 x1
      clear hy hlt
      go_wp2_with fail
      by_cases hq : q1 = q
      · have hqb : (q1 == q) = true := by simpa using hq
        have HQ := Lib.hid hq
        clear hq
        refine region_fast [(0, true), (1, true), (2, true), (3, true), (4, true), (5, true), (6, true), (7, true)] [1, 5, 6] 98 [(32768, 1, 0, 0), (65536, 128, 0, 0), (131072, 98304, 3, 3), (262144, 131072, 4, 7), (524288, 262144, 8, 15), (1048576, 8, 0, 0), (2097152, 1048576, 32, 32), (4194304, 2621440, 80, 127)] (fun W => W.cell? ⟨g, o + i * 2 + 1, none⟩ = some (.int .i64 q1) ∧ W.cell? ⟨w.heap.size, 1, none⟩ = some (.int .i64 q)) (by kernel_rfl) (by kernel_rfl) (by kernel_rfl) rfl (by kernel_rfl) (by kernel_rfl) ⟨x1, d1⟩ (fun hS => ?_)
        repeat (first
          | (refine plan_read (v := ?_) rfl (fun _ _ _ h => h) rfl hS ?_ ?_; rotate_left 1; (focus (intro w' hS'; have e0 := hS'.1; have e1 := hS'.2; go_simp; try rfl)); (simp only [Act.put, List.setIfInBounds_toArray]; dsimp only [List.set_cons_zero, List.set_cons_succ]))
          | (refine plan_skip rfl (fun _ _ _ h => h) rfl hS ?_; (simp only [Act.put, List.setIfInBounds_toArray]; dsimp only [List.set_cons_zero, List.set_cons_succ])))
        refine plan_nil ?_
        have hhas : hasB S q = true := hasB_iff.2 ⟨gg S i, by rw [gg_eq HLT.out]; exact List.getElem_mem HLT.out, by rw [HY.out]; exact HQ.out⟩
        have HH := Lib.hid hhas
        clear hhas
        go_wp2_with fail
        go_ret2
        have hps : pushS S (p, q) = S := by simp [pushS, HH.out]
        rw [hps]
        exact ⟨_, c, by rw [HH.out]; rfl, ⟨(H.out.1.1.below (HBW.out.trans ((below_of_drew (Below.refl _ _)).mono HBW.out.size))), H.out.1.2⟩, HBW.out.trans ((below_of_drew (Below.refl _ _)).mono HBW.out.size), fun a ha => .inl ⟨HH.out, ha⟩⟩
      · have hqb : (q1 == q) = false := by simpa using hq
        have HQ := Lib.hid hq
        clear hq
        refine region_fast [(0, true), (1, true), (2, true), (3, true), (4, true), (5, true), (6, true), (7, true)] [1, 5, 6] 98 [(32768, 1, 0, 0), (65536, 128, 0, 0), (131072, 98304, 3, 3), (262144, 131072, 4, 7), (524288, 262144, 8, 15), (1048576, 8, 0, 0), (2097152, 1048576, 32, 32), (4194304, 2621440, 80, 127)] (fun W => W.cell? ⟨g, o + i * 2 + 1, none⟩ = some (.int .i64 q1) ∧ W.cell? ⟨w.heap.size, 1, none⟩ = some (.int .i64 q)) (by kernel_rfl) (by kernel_rfl) (by kernel_rfl) rfl (by kernel_rfl) (by kernel_rfl) ⟨x1, d1⟩ (fun hS => ?_)
        repeat (first
          | (refine plan_read (v := ?_) rfl (fun _ _ _ h => h) rfl hS ?_ ?_; rotate_left 1; (focus (intro w' hS'; have e0 := hS'.1; have e1 := hS'.2; go_simp; try rfl)); (simp only [Act.put, List.setIfInBounds_toArray]; dsimp only [List.set_cons_zero, List.set_cons_succ]))
          | (refine plan_skip rfl (fun _ _ _ h => h) rfl hS ?_; (simp only [Act.put, List.setIfInBounds_toArray]; dsimp only [List.set_cons_zero, List.set_cons_succ])))
        refine plan_nil ?_
        have HAH := Lib.hid (fun w => ahead_any (p1, q1) (p, q) w)
        go_wp2_with fail
        refine region_fast [(0, true), (1, true), (2, true), (3, true), (4, true), (5, false)] [1, 4] 18 [(16777216, 1, 0, 0), (33554432, 128, 0, 0), (67108864, 50331648, 3, 3), (134217728, 67108864, 4, 7), (268435456, 8, 0, 0), (536870912, 402653184, 24, 31)] (fun W => W.cell? ⟨g, o + i * 2, none⟩ = some (.int .i64 p1) ∧ W.cell? ⟨g, o + i * 2 + 1, none⟩ = some (.int .i64 q1) ∧ W.cell? ⟨w.heap.size, 0, none⟩ = some (.int .i64 p) ∧ W.cell? ⟨w.heap.size, 1, none⟩ = some (.int .i64 q)) (by kernel_rfl) (by kernel_rfl) (by kernel_rfl) rfl (by kernel_rfl) (by kernel_rfl) ⟨x0, x1, d0, d1⟩ (fun hS => ?_)
        repeat (first
          | (refine plan_read (v := ?_) rfl (fun _ _ _ h => h) rfl hS ?_ ?_; rotate_left 1; (focus (intro w' hS'; have e0 := hS'.1; have e1 := hS'.2.1; have e2 := hS'.2.2.1; have e3 := hS'.2.2.2; go_simp; try rfl)); (simp only [Act.put, List.setIfInBounds_toArray]; dsimp only [List.set_cons_zero, List.set_cons_succ]))
          | (refine plan_skip rfl (fun _ _ _ h => h) rfl hS ?_; (simp only [Act.put, List.setIfInBounds_toArray]; dsimp only [List.set_cons_zero, List.set_cons_succ])))
        refine plan_do (by rfl) (by rfl) (fun K hK => ?_)
        go_simp
        refine (HAH.out _).mono ?_
        rintro e w3 ⟨rfl, hb3⟩
        have hb4 : Below wr.heap.size wr w3 := below_of_drew (below_of_drew hb3)
        have HB4 := Lib.hid (hr.out.1.trans (hb4.mono hr.out.1.size))
        clear hb3 hb4
        refine hK.out _ _ (fun h => by cases h) (fun _ => ?_); clear hK K; try (simp only [Act.put, List.setIfInBounds_toArray]; dsimp only [List.set_cons_zero, List.set_cons_succ])
        refine plan_nil ?_
        by_cases hle : LE (p, q) (p1, q1)
        · have hd : decide (¬ LE (p, q) (p1, q1)) = false := by simpa using hle
          have HLE := Lib.hid hle
          clear hle
          go_wp2_with fail
          refine ⟨⟨i + 1, k, rfl, by go_num, by omega, HLT.out, Lib.hid ⟨HB4.out, fun j hj => ?_, hr.out.2.2.1, fun j h1 h2 => ?_⟩⟩, by have := HLT.out; simp [intOf]; omega⟩
          · rcases Nat.lt_succ_iff_lt_or_eq.1 hj with h | rfl
            · exact hr.out.2.1 j h
            · rw [HY.out]; exact HQ.out
          · rcases Nat.lt_succ_iff_lt_or_eq.1 h2 with h | rfl
            · exact hr.out.2.2.2 j h1 h
            · rw [HY.out]; exact HLE.out
        · have hd : decide (¬ LE (p, q) (p1, q1)) = true := by simpa using hle
          have HLE := Lib.hid hle
          clear hle
          have hi900 : (i : Int) ≤ 900 := by omega
          go_wp2_with fail
          refine ⟨⟨i + 1, i + 1, by go_num, by go_num, Nat.le_refl _, HLT.out, Lib.hid ⟨HB4.out, fun j hj => ?_, fun j hj => ?_, fun j h1 h2 => by omega⟩⟩, by have := HLT.out; simp [intOf]; omega⟩
          · rcases Nat.lt_succ_iff_lt_or_eq.1 hj with h | rfl
            · exact hr.out.2.1 j h
            · rw [HY.out]; exact HQ.out
          · have h9 := sorted_le H.out.2.1 (Nat.le_of_lt_succ hj) HLT.out
            rw [HY.out] at h9
            exact h9.trans (LE.of_not HLE.out)
    · obtain rfl : i = S.length := by omega
      have hno : hasB S q = false := hasB_no.2 fun e he => by
        obtain ⟨j, hj, rfl⟩ := List.mem_iff_getElem.1 he
        have := hr.out.2.1 j hj
        rwa [gg_eq hj] at this
      have hins := ins_at (d := (p, q)) H.out.2.1 hki hr.out.2.2.1 hr.out.2.2.2
      have HI := Lib.hid (And.intro hno hins)
      have hkc : k ≤ c := Nat.le_trans hki H.out.1.2.1
      have hkl : (k : Int) ≤ (S.length : Int) := by omega
      have hlc : (S.length : Int) ≤ (c : Int) := by have := H.out.1.2.1; omega
      clear hno hins
      have hsw : Sees wr 2 A S.length (dcs S) := H.out.1.1.below HBW.out
      have HSW := Lib.hid hsw
      have hA := H.out.1.2.2
      clear hsw
      rcases hA with ⟨rfl, rfl⟩ | ⟨g, o, rfl⟩
      · obtain rfl : S = [] := List.eq_nil_of_length_eq_zero (by have := H.out.1.2.1; omega)
        obtain rfl : k = 0 := by simpa using hkc
        have hbs : w.heap.size ≤ wr.heap.size := HBW.out.size
        go_wp2_with (at_builtin; first
          | (refine wpList_app rfl (.tmp 32) (.tmp 35) 22 rfl w.heap.size 28 _ 2 16 Try.underlying22 info_due rfl (by decide) (.slice none 0 0) 0 [] rfl (World.ownsRow_nil _ _ _ _) none 0 0 [] rfl (Sees.none_ _ _ _) (by simp) (by unfold maxLen; omega) (by omega) hbs ?_; intro v1 u1 n1 n2 n3 n4; rw [Nat.zero_add, List.nil_append] at n1; have f1 : Below wr.heap.size wr u1 := (Below.refl wr.heap.size wr).grown n2 (Nat.le_refl _) (fun k hk => by cases hk); have e0 := (World.cell?_of_block (a := ⟨w.heap.size, 0, none⟩) (f1.block w.heap.size hkd)).trans d0; have e1 := (World.cell?_of_block (a := ⟨w.heap.size, 1, none⟩) (f1.block w.heap.size hkd)).trans d1; obtain ⟨B1, c1, rfl⟩ := own_shape n1; have HN1 := Lib.hid (And.intro n1 (And.intro f1 (Nat.le_trans hbs f1.size))); clear n1 n2 n3 n4 f1)
          | (refine wpList_app rfl (.tmp 37) (.tmp 39) 22 rfl w.heap.size 28 _ 2 16 Try.underlying22 info_due rfl (by decide) (.slice B1 0 c1) 0 [] rfl (own_below HN1.out.1 ((Below.refl _ _).alloc (Nat.le_refl _) _)) (some ⟨u1.heap.size, 0, none⟩) 1 1 (dcells (p, q)) rfl (sees_new u1 28 (dcells (p, q)) 2 1 rfl) (dcs_one [(p, q)]) (by unfold maxLen; omega) (by omega) (by have := HN1.out.2.2; simp; omega) ?_; intro v2 u2 n1 n2 n3 n4; have f2 : Below w.heap.size w u2 := ((HBW.out.trans (HN1.out.2.1.mono hbs)).alloc HN1.out.2.2 _).grown n2 (by have := HN1.out.2.2; simp; omega) (fun j hj => (HN1.out.1.lt j hj).1); obtain ⟨B2, c2, rfl⟩ := own_shape n1; have HN2 := Lib.hid (And.intro n1 f2); clear n1 n2 n3 n4 f2)
          | (refine wpList_app rfl (.tmp 41) (.tmp 44) 22 rfl w.heap.size 28 _ 2 16 Try.underlying22 info_due rfl (by decide) (.slice B2 (0 + 1) c2) (0 + 1) ([] ++ dcells (p, q)) rfl HN2.out.1 none 0 0 [] rfl (Sees.none_ _ _ _) (by simp) (by unfold maxLen; omega) (by omega) HN2.out.2.size ?_; intro v3 u3 n1 n2 n3 n4; have f3 : Below w.heap.size w u3 := HN2.out.2.grown n2 HN2.out.2.size (fun j hj => (HN2.out.1.lt j hj).1); obtain ⟨B3, c3, rfl⟩ := own_shape n1; have HN3 := Lib.hid (And.intro n1 f3); clear n1 n2 n3 n4 f3))
        go_ret2
        have hps : pushS [] (p, q) = ins (p, q) [] := by simp [pushS, HI.out.1]
        have hdc : [] ++ dcells (p, q) ++ [] = dcs (ins (p, q) []) := rfl
        have hln : 0 + 1 + 0 = (ins (p, q) []).length := rfl
        have ho := HN3.out.1
        rw [hdc] at ho
        rw [hps]
        refine ⟨B3, c3, by rw [HI.out.1, ← hln]; first | rfl | simp, ?_, HN3.out.2, fun a ha => .inr ?_⟩
        · obtain ⟨g9, c9, _, e9, _, _, h9, _⟩ := own_open ho (by omega)
          injection e9 with e9 _ e8
          subst e8
          refine ⟨?_, by omega, .inr ⟨g9, 0, e9⟩⟩
          have h8 := Sees.of_own (c := c3) (A := B3) (n := (ins (p, q) []).length) (xs := dcs (ins (p, q) [])) (by first | exact ho | (rw [hln] at ho; exact ho) | (simp only [← hln]; exact ho))
          exact h8
        · obtain ⟨g9, c9, _, e9, _⟩ := own_open ho (by omega)
          injection e9 with e9 _ _
          subst ha
          injection e9 with e9
          subst e9
          exact (ho.lt g9 rfl).1
      · skip
        have hbs : w.heap.size ≤ wr.heap.size := HBW.out.size
        go_wp2_with (at_builtin; first
          | (refine wpList_app rfl (.tmp 32) (.tmp 35) 22 rfl w.heap.size 28 _ 2 16 Try.underlying22 info_due rfl (by decide) (.slice none 0 0) 0 [] rfl (World.ownsRow_nil _ _ _ _) (some ⟨g, o, none⟩) (k) (c) (dcs (S.take k)) rfl (sees_take HSW.out k hki) (dcs_one _) (by unfold maxLen; omega) (by omega) hbs ?_; intro v1 u1 n1 n2 n3 n4; rw [Nat.zero_add, List.nil_append] at n1; have f1 : Below wr.heap.size wr u1 := (Below.refl wr.heap.size wr).grown n2 (Nat.le_refl _) (fun k hk => by cases hk); have e0 := (World.cell?_of_block (a := ⟨w.heap.size, 0, none⟩) (f1.block w.heap.size hkd)).trans d0; have e1 := (World.cell?_of_block (a := ⟨w.heap.size, 1, none⟩) (f1.block w.heap.size hkd)).trans d1; obtain ⟨B1, c1, rfl⟩ := own_shape n1; have HN1 := Lib.hid (And.intro n1 (And.intro f1 (Nat.le_trans hbs f1.size))); clear n1 n2 n3 n4 f1)
          | (refine wpList_app rfl (.tmp 37) (.tmp 39) 22 rfl w.heap.size 28 _ 2 16 Try.underlying22 info_due rfl (by decide) (.slice B1 k c1) k (dcs (S.take k)) rfl (own_below HN1.out.1 ((Below.refl _ _).alloc (Nat.le_refl _) _)) (some ⟨u1.heap.size, 0, none⟩) 1 1 (dcells (p, q)) rfl (sees_new u1 28 (dcells (p, q)) 2 1 rfl) (dcs_one [(p, q)]) (by unfold maxLen; omega) (by omega) (by have := HN1.out.2.2; simp; omega) ?_; intro v2 u2 n1 n2 n3 n4; have f2 : Below w.heap.size w u2 := ((HBW.out.trans (HN1.out.2.1.mono hbs)).alloc HN1.out.2.2 _).grown n2 (by have := HN1.out.2.2; simp; omega) (fun j hj => (HN1.out.1.lt j hj).1); obtain ⟨B2, c2, rfl⟩ := own_shape n1; have HN2 := Lib.hid (And.intro n1 f2); clear n1 n2 n3 n4 f2)
          | (refine wpList_app rfl (.tmp 41) (.tmp 44) 22 rfl w.heap.size 28 _ 2 16 Try.underlying22 info_due rfl (by decide) (.slice B2 (k + 1) c2) (k + 1) (dcs (S.take k) ++ dcells (p, q)) rfl HN2.out.1 (if c = k then some ⟨g, o, none⟩ else some ⟨g, o + k * 2, none⟩) (S.length - k) (c - k) (dcs (S.drop k)) rfl (sees_drop' (H.out.1.1.below HN2.out.2) k hki H.out.1.2.1) (dcs_one _) (by unfold maxLen; omega) (by omega) HN2.out.2.size ?_; intro v3 u3 n1 n2 n3 n4; have f3 : Below w.heap.size w u3 := HN2.out.2.grown n2 HN2.out.2.size (fun j hj => (HN2.out.1.lt j hj).1); obtain ⟨B3, c3, rfl⟩ := own_shape n1; have HN3 := Lib.hid (And.intro n1 f3); clear n1 n2 n3 n4 f3))
        all_goals
          go_ret2
          have hps : pushS S (p, q) = ins (p, q) S := by simp [pushS, HI.out.1]
          have hdc : dcs (S.take k) ++ dcells (p, q) ++ dcs (S.drop k) = dcs (ins (p, q) S) := by
            rw [← HI.out.2, dcs_append, dcs_append, List.append_assoc]
            rfl
          have hln : k + 1 + (S.length - k) = (ins (p, q) S).length := by
            rw [(ins_perm _ _).length_eq, List.length_cons]
            omega
          have ho := HN3.out.1
          rw [hdc] at ho
          rw [hps]
          refine ⟨B3, c3, by rw [HI.out.1, ← hln]; first | rfl | simp, ?_, HN3.out.2, fun a ha => .inr ?_⟩
          · obtain ⟨g9, c9, _, e9, _, _, h9, _⟩ := own_open ho (by omega)
            injection e9 with e9 _ e8
            subst e8
            refine ⟨?_, by omega, .inr ⟨g9, 0, e9⟩⟩
            have h8 := Sees.of_own (c := c3) (A := B3) (n := (ins (p, q) S).length) (xs := dcs (ins (p, q) S)) (by first | exact ho | (rw [hln] at ho; exact ho) | (simp only [← hln]; exact ho))
            exact h8
          · obtain ⟨g9, c9, _, e9, _⟩ := own_open ho (by omega)
            injection e9 with e9 _ _
            subst ha
            injection e9 with e9
            subst e9
            exact (ho.lt g9 rfl).1
end Go.Proofs.Ytaapdkeipknilaa
