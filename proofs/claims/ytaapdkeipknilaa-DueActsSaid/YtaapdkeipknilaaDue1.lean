/-
  Two dues, compared.
-/
import Derived.Test.YtaapdkeipknilaaProg
import Derived.Test.YtaapdkeipknilaaWords
import Derived.Test.YtaapdkeipknilaaRegion
import Derived.Sort.Grow
namespace Go.Proofs.Ytaapdkeipknilaa
set_option maxRecDepth 4000
open Go.RowKit

def cmpI (a b : Int) : Int := if a < b then -1 else if b < a then 1 else 0
def cmpD (x y : Int × Int) : Int := if x.1 < y.1 then -1 else if y.1 < x.1 then 1 else cmpI x.2 y.2
theorem isNaN_any (a : Int) (w : World) : Calls Try.prog 38 #[.int .i64 a] w fun e w' => e = .returned (.bool false) ∧ w = w' := by
  go_enter Try.func38, Try.ntmps38
  go_wp2_with fail
  go_ret
  exact ⟨by simp, rfl⟩
theorem cmp_any (a b : Int) (w : World) : Calls Try.prog 33 #[.int .i64 a, .int .i64 b] w fun e w' => e = .returned (.int .i64 (cmpI a b)) ∧ w = w' := by
  have HN := Lib.hid isNaN_any
  obtain ⟨R, hR⟩ : ∃ R, cmpI a b = R := ⟨_, rfl⟩
  rw [hR]
  unfold cmpI at hR
  by_cases h1 : a < b
  · rw [if_pos h1] at hR
    have HR := Lib.hid hR
    clear hR
    go_enter Try.func33, Try.ntmps33
    go_wp2_with fail
    refine (HN.out _ _).mono ?_
    rintro r w2 ⟨rfl, rfl⟩
    go_wp2_with fail
    refine (HN.out _ _).mono ?_
    rintro r w2 ⟨rfl, rfl⟩
    go_wp2_with fail
    go_ret
    exact ⟨by rw [← HR.out]; rfl, rfl⟩
  · rw [if_neg h1] at hR
    by_cases h2 : b < a
    · rw [if_pos h2] at hR
      have HR := Lib.hid hR
      clear hR
      go_enter Try.func33, Try.ntmps33
      go_wp2_with fail
      refine (HN.out _ _).mono ?_
      rintro r w2 ⟨rfl, rfl⟩
      go_wp2_with fail
      refine (HN.out _ _).mono ?_
      rintro r w2 ⟨rfl, rfl⟩
      go_wp2_with fail
      go_ret
      exact ⟨by rw [← HR.out]; rfl, rfl⟩
    · rw [if_neg h2] at hR
      have HR := Lib.hid hR
      clear hR
      go_enter Try.func33, Try.ntmps33
      go_wp2_with fail
      refine (HN.out _ _).mono ?_
      rintro r w2 ⟨rfl, rfl⟩
      go_wp2_with fail
      refine (HN.out _ _).mono ?_
      rintro r w2 ⟨rfl, rfl⟩
      go_wp2_with fail
      go_ret
      exact ⟨by rw [← HR.out]; rfl, rfl⟩
/-- The first that is not zero, of two. -/
theorem or_two (a b : Int) (g : Nat) (w : World) (h0 : w.cell? ⟨g, 0, none⟩ = some (.int .i64 a)) (h1 : w.cell? ⟨g, 1, none⟩ = some (.int .i64 b)) :
    Calls Try.prog 32 #[.slice (some ⟨g, 0, none⟩) 2 2] w fun e w' => e = .returned (.int .i64 (if a = 0 then b else a)) ∧ w = w' := by
  by_cases ha : a = 0
  · subst ha
    rw [if_pos rfl]
    by_cases hb : b = 0
    · subst hb
      go_enter Try.func32, Try.ntmps32
      go_wp2_with fail
      refine wp_loop_rounds 3 ?_
      rw [rounds_succ]
      go_wp2_with fail
      rw [rounds_succ]
      go_wp2_with fail
      rw [rounds_succ]
      go_wp2_with fail
      go_ret
      exact ⟨rfl, rfl⟩
    · have hb' : (b != 0) = true := by simpa using hb
      have HH := Lib.hid hb
      clear hb
      go_enter Try.func32, Try.ntmps32
      go_wp2_with fail
      refine wp_loop_rounds 2 ?_
      rw [rounds_succ]
      go_wp2_with fail
      rw [rounds_succ]
      go_wp2_with fail
      go_ret
      exact ⟨rfl, rfl⟩
  · rw [if_neg ha]
    have ha' : (a != 0) = true := by simpa using ha
    have HH := Lib.hid ha
    clear ha
    go_enter Try.func32, Try.ntmps32
    go_wp2_with fail
    refine wp_loop_rounds 2 ?_
    rw [rounds_succ]
    go_wp2_with fail
    go_ret
    exact ⟨rfl, rfl⟩
theorem cmpD_or (x y : Int × Int) : (if cmpI x.1 y.1 = 0 then cmpI x.2 y.2 else cmpI x.1 y.1) = cmpD x y := by
  unfold cmpD cmpI
  by_cases h1 : x.1 < y.1
  · rw [if_pos h1, if_pos h1, if_neg (by decide)]
  · by_cases h2 : y.1 < x.1
    · rw [if_neg h1, if_pos h2, if_neg h1, if_pos h2, if_neg (by decide)]
    · rw [if_neg h1, if_neg h2, if_neg h1, if_neg h2, if_pos rfl]
set_option maxHeartbeats 1000000 in
theorem compare_grow (x y : Int × Int) (w : World) : Calls Try.prog 23 #[.agg #[.int .i64 x.1, .int .i64 x.2], .agg #[.int .i64 y.1, .int .i64 y.2]] w fun e w' => e = .returned (.int .i64 (cmpD x y)) ∧ ∃ q os, w' = Go.Sort.grow (w.drewN q) os := by
  obtain ⟨a, b⟩ := x
  obtain ⟨c, d⟩ := y
  have HR := Lib.hid (cmpD_or (a, b) (c, d))
  have HC := Lib.hid cmp_any
  have HO := Lib.hid (fun a b g w R (h : (if a = 0 then b else a) = R) h0 h1 => h ▸ or_two a b g w h0 h1)
  have hb1 : Below w.heap.size w (w.alloc (.cells #[.int .i64 a, .int .i64 b] 28)) := (Below.refl _ _).alloc (Nat.le_refl _) _
  have hk1 := Blk.new w 28 #[.int .i64 a, .int .i64 b]
  have hb2 : Below w.heap.size w ((w.alloc (.cells #[.int .i64 a, .int .i64 b] 28)).alloc (.cells #[.int .i64 c, .int .i64 d] 28)) := hb1.alloc hb1.size _
  have hk2 := Blk.new (w.alloc (.cells #[.int .i64 a, .int .i64 b] 28)) 28 #[.int .i64 c, .int .i64 d]
  have hk1' := hk1.below ((Below.refl _ _).alloc (Nat.le_refl _) (.cells #[.int .i64 c, .int .i64 d] 28)) hk1.lt
  have hsz : (w.alloc (.cells #[.int .i64 a, .int .i64 b] 28)).heap.size = w.heap.size + 1 := by simp
  rw [hsz] at hk2
  obtain ⟨w2, hw2⟩ : ∃ w2, (w.alloc (.cells #[.int .i64 a, .int .i64 b] 28)).alloc (.cells #[.int .i64 c, .int .i64 d] 28) = w2 := ⟨_, rfl⟩
  have HW := Lib.hid hw2
  rw [hw2] at hk1' hk2 hb2
  have c0 : w2.cell? ⟨w.heap.size, 0, none⟩ = some (.int .i64 a) := hk1'.cell 0
  have c1 : w2.cell? ⟨w.heap.size, 1, none⟩ = some (.int .i64 b) := hk1'.cell 1
  have c2 : w2.cell? ⟨w.heap.size + 1, 0, none⟩ = some (.int .i64 c) := hk2.cell 0
  have c3 : w2.cell? ⟨w.heap.size + 1, 1, none⟩ = some (.int .i64 d) := hk2.cell 1
  have HB := Lib.hid hb2
  have HK := Lib.hid (And.intro hk1' hk2)
  clear hb1 hk1 hb2 hk2 hk1'
  go_enter Try.func23, Try.ntmps23
  go_wp2_with fail
  clear hw2 hsz
  refine region_fast [(0, true), (1, true), (2, true), (3, true), (5, true), (6, true), (7, true), (8, true), (4, false), (9, false), (10, false), (11, false), (12, true)] [2, 3, 4, 5, 6, 7, 8] 508 [(32, 4, 0, 0), (64, 32, 1, 1), (128, 8, 0, 0), (256, 128, 4, 4), (512, 320, 10, 15), (1024, 4, 0, 0), (2048, 1024, 32, 32), (4096, 8, 0, 0), (8192, 4096, 128, 128), (16384, 10240, 336, 511), (32768, 16896, 528, 1023), (65536, 32768, 1536, 2047), (16, 65536, 4095, 4095)] (fun W => W.cell? ⟨w.heap.size, 0, none⟩ = some (.int .i64 a) ∧ W.cell? ⟨w.heap.size, 1, none⟩ = some (.int .i64 b) ∧ W.cell? ⟨w.heap.size + 1, 0, none⟩ = some (.int .i64 c) ∧ W.cell? ⟨w.heap.size + 1, 1, none⟩ = some (.int .i64 d)) (by kernel_rfl) (by kernel_rfl) (by kernel_rfl) rfl (by kernel_rfl) (by kernel_rfl) ⟨c0, c1, c2, c3⟩ (fun hS => ?_)
  repeat (first
    | (refine plan_read (v := ?_) rfl (fun _ _ _ h => h) rfl hS ?_ ?_; rotate_left 1; (focus (intro w' hS'; have e0 := hS'.1; have e1 := hS'.2.1; have e2 := hS'.2.2.1; have e3 := hS'.2.2.2; go_simp; try rfl)); (simp only [Act.put, List.setIfInBounds_toArray]; dsimp only [List.set_cons_zero, List.set_cons_succ]))
    | (refine plan_skip rfl (fun _ _ _ h => h) rfl hS ?_; (simp only [Act.put, List.setIfInBounds_toArray]; dsimp only [List.set_cons_zero, List.set_cons_succ])))
  refine plan_do (by rfl) (by rfl) (fun K hK => ?_)
  go_simp
  refine (HC.out _ _ _).mono ?_
  rintro r w4 ⟨rfl, rfl⟩
  refine hK.out _ _ (fun _ => ⟨c0, c1, c2, c3⟩) (fun hS => ?_); clear hK K; replace hS := hS rfl; try (simp only [Act.put, List.setIfInBounds_toArray]; dsimp only [List.set_cons_zero, List.set_cons_succ])
  refine plan_do (by rfl) (by rfl) (fun K hK => ?_)
  go_simp
  refine (HC.out _ _ _).mono ?_
  rintro r w4 ⟨rfl, rfl⟩
  refine hK.out _ _ (fun h => by cases h) (fun _ => ?_); clear hK K; try (simp only [Act.put, List.setIfInBounds_toArray]; dsimp only [List.set_cons_zero, List.set_cons_succ])
  refine plan_do (by rfl) (by rfl) (fun K hK => ?_)
  go_simp
  refine hK.out _ _ (fun h => by cases h) (fun _ => ?_); clear hK K; try (simp only [Act.put, List.setIfInBounds_toArray]; dsimp only [List.set_cons_zero, List.set_cons_succ])
  refine plan_do (by rfl) (by rfl) (fun K hK => ?_)
  go_simp
  have hk4 := Blk.new w2 3 #[.int .i64 (cmpI a c), .int .i64 (cmpI b d)]
  have h40 : (w2.alloc (.cells #[.int .i64 (cmpI a c), .int .i64 (cmpI b d)] 3)).drew.cell? ⟨w2.heap.size, 0, none⟩ = some (.int .i64 (cmpI a c)) := hk4.cell 0
  have h41 : (w2.alloc (.cells #[.int .i64 (cmpI a c), .int .i64 (cmpI b d)] 3)).drew.cell? ⟨w2.heap.size, 1, none⟩ = some (.int .i64 (cmpI b d)) := hk4.cell 1
  refine (HO.out _ _ _ _ _ HR.out h40 h41).mono ?_
  rintro r w5 ⟨rfl, rfl⟩
  have h25 : Below w2.heap.size w2 (w2.alloc (.cells #[.int .i64 (cmpI a c), .int .i64 (cmpI b d)] 3)).drew := ((Below.refl w2.heap.size w2).alloc (Nat.le_refl _) _).trans (below_of_drew (Below.refl _ _))
  have z1 := HK.out.1.below h25 HK.out.1.lt
  have z2 := HK.out.2.below h25 HK.out.2.lt
  clear hk4 h25 h40 h41
  refine hK.out _ _ (fun h => by cases h) (fun _ => ?_); clear hK K; try (simp only [Act.put, List.setIfInBounds_toArray]; dsimp only [List.set_cons_zero, List.set_cons_succ])
  clear hS
  have hS := And.intro (z1.cell 0) (And.intro (z1.cell 1) (And.intro (z2.cell 0) (z2.cell 1)))
  repeat (first
    | (refine plan_read (v := ?_) rfl (fun _ _ _ h => h) rfl hS ?_ ?_; rotate_left 1; (focus (intro w' hS'; skip; go_simp; try rfl)); (simp only [Act.put, List.setIfInBounds_toArray]; dsimp only [List.set_cons_zero, List.set_cons_succ]))
    | (refine plan_skip rfl (fun _ _ _ h => h) rfl hS ?_; (simp only [Act.put, List.setIfInBounds_toArray]; dsimp only [List.set_cons_zero, List.set_cons_succ])))
  refine plan_nil ?_
  go_wp2_with fail
  go_ret
  refine ⟨rfl, ?_⟩
  refine ⟨1, #[.cells #[.int .i64 a, .int .i64 b] 28, .cells #[.int .i64 c, .int .i64 d] 28, .cells #[.int .i64 (cmpI a c), .int .i64 (cmpI b d)] 3], ?_⟩
  rw [← HW.out]
  unfold Go.Sort.grow World.drewN World.drew World.alloc
  simp
  apply Array.ext'
  simp
theorem below_grow (w : World) (q : Nat) (os : Array Obj) : Below w.heap.size w (Go.Sort.grow (w.drewN q) os) :=
  ⟨rfl, rfl, rfl, by simp [Go.Sort.grow, World.drewN], fun k hk => by simp only [Go.Sort.grow, World.drewN]; rw [Array.getElem?_append_left hk]⟩
theorem compare_any (x y : Int × Int) (w : World) : Calls Try.prog 23 #[.agg #[.int .i64 x.1, .int .i64 x.2], .agg #[.int .i64 y.1, .int .i64 y.2]] w fun e w' => e = .returned (.int .i64 (cmpD x y)) ∧ Below w.heap.size w w' :=
  (compare_grow x y w).mono fun e w' ⟨he, q, os, hw⟩ => ⟨he, by rw [hw]; exact below_grow w q os⟩
end Go.Proofs.Ytaapdkeipknilaa
