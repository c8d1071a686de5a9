/-
  A row of dues: Swap.
-/
import Derived.Test.YtaapdkeipknilaaDue2
import Derived.Test.YtaapdkeipknilaaFree
import Derived.Deep.MidRow
namespace Go.Proofs.Ytaapdkeipknilaa
set_option maxRecDepth 4000
open Go.RowKit

theorem dcs_set : ∀ (E : List (Int × Int)) (k : Nat) (e : Int × Int), k < E.length → (((dcs E).set (k * 2) (.int .i64 e.1)).set (k * 2 + 1) (.int .i64 e.2)) = dcs (E.set k e)
  | [], k, e, h => by simp at h
  | x :: E, 0, e, h => rfl
  | x :: E, k + 1, e, h => by
      have ih := dcs_set E k e (by simpa using h)
      show (((dcells x ++ dcs E).set ((k + 1) * 2) _).set ((k + 1) * 2 + 1) _) = dcells x ++ dcs (E.set k e)
      rw [← ih, show (k + 1) * 2 = k * 2 + 1 + 1 by omega]
      rfl
/-- A due of an owned row is set. -/
theorem own_set {w : World} {g n cap : Nat} {l : List (Int × Int)} (hn : n = l.length) (h : w.ownsRow 0 28 2 (.slice (some ⟨g, 0, none⟩) n cap) n (dcs l)) (k : Nat) (hk : k < l.length) (e : Int × Int) :
    (w.setCells g (k * 2) (dcells e)).ownsRow 0 28 2 (.slice (some ⟨g, 0, none⟩) n cap) n (dcs (l.set k e)) ∧ Fr (· = g) w (w.setCells g (k * 2) (dcells e)) ∧ w.there g (k * 2) 2 := by
  obtain ⟨g', cap', cur, hv, hb, hg, h1, h2, h3, h4⟩ := own_open h (by omega)
  injection hv with hv _ hc
  injection hv with hv
  injection hv with hv _ _
  subst hv hc
  refine ⟨?_, ?_, ?_⟩
  · refine own_mk (Nat.zero_le _) ((hg.set_ (k * 2) (.int .i64 e.1)).set_ (k * 2 + 1) (.int .i64 e.2)) h1 h2 (by simp [h3]) ?_
    simp only [Array.toList_setIfInBounds]
    rw [List.take_set, List.take_set, h4, dcs_set l k e hk]
  · exact (Fr.setCell (F := (· = g)) _ ⟨g, k * 2, none⟩ (.int .i64 e.1) rfl).trans (Fr.setCell (F := (· = g)) _ ⟨g, k * 2 + 1, none⟩ (.int .i64 e.2) rfl) (fun _ _ h => h)
  · intro j hj
    refine ⟨?_, hg.frozen _⟩
    rw [hg.cell]
    have : k * 2 + j < cur.size := by rw [h3]; omega
    rw [Array.getElem?_eq_getElem this]
    rfl
def swp (l : List (Int × Int)) (i j : Nat) (x y : Int × Int) : List (Int × Int) := (l.set i y).set j x
theorem swap_any (l : List (Int × Int)) (g n c i j : Nat) (x y : Int × Int) (w : World) (hn : n = l.length) (hown : w.ownsRow 0 28 2 (.slice (some ⟨g, 0, none⟩) n c) n (dcs l)) (hi : l[i]? = some x) (hj : l[j]? = some y) (hl : l.length ≤ 1000000) :
    Calls Try.prog 73 #[.slice (some ⟨g, 0, none⟩) n c, .int .i64 i, .int .i64 j] w fun e w' => e = .returned (.tuple #[]) ∧ w'.ownsRow 0 28 2 (.slice (some ⟨g, 0, none⟩) n c) n (dcs (swp l i j x y)) ∧ Fr (· = g) w w' := by
  have hS : Sees w 2 (some ⟨g, 0, none⟩) l.length (dcs l) := by subst hn; exact Sees.of_own hown
  obtain ⟨g1, o1, e1, c0, c1⟩ := in_due hS hi
  obtain ⟨g2, o2, e2, c2, c3⟩ := in_due hS hj
  injection e1 with e1
  injection e1 with e1 e1' _
  injection e2 with e2
  injection e2 with e2 e2' _
  subst e1 e1' e2 e2'
  rw [Nat.zero_add] at c0 c1 c2 c3
  have hil : (i : Int) < (n : Int) := by have := (List.getElem?_eq_some_iff.1 hi).1; omega
  have hjl : (j : Int) < (n : Int) := by have := (List.getElem?_eq_some_iff.1 hj).1; omega
  obtain ⟨o1, f1, t1⟩ := own_set hn hown.drew i (by omega) y
  obtain ⟨o2, f2, t2⟩ := own_set (by rw [List.length_set]; exact hn) o1 j (by rw [List.length_set]; omega) x
  have HT := Lib.hid (And.intro t1 t2)
  have HSZ := Lib.hid (show (Try.prog.info? 28).map (·.size) = some 2 by kernel_rfl)
  have HE := Lib.hid (show (w.drew.setCells g (i * 2) (dcells y)).setCells g (j * 2) (dcells x) |>.ownsRow 0 28 2 (.slice (some ⟨g, 0, none⟩) n c) n (dcs (swp l i j x y)) from o2)
  have HF := Lib.hid (show Fr (· = g) w ((w.drew.setCells g (i * 2) (dcells y)).setCells g (j * 2) (dcells x)) from (Fr.drew (Fr.refl _ _)).trans (f1.trans f2 (fun _ _ h => h)) (fun _ _ h => h))
  obtain ⟨a, b⟩ := x
  obtain ⟨d, f⟩ := y
  simp only at c0 c1 c2 c3
  have HN := Lib.hid hn
  clear hS hi hj hown o1 o2 f1 f2 t1 t2 hl hn
  go_enter Try.func73, Try.ntmps73
  go_wp2_with fail
  refine region_free [0, 1, 2, 3, 4, 5, 6, 8, 9, 10] [(7, true), (11, true), (12, true), (13, false), (14, false), (15, false)] [11] 2048 [(64, 1, 0, 0), (128, 2, 0, 0), (256, 1, 0, 0), (512, 4, 0, 0), (1024, 1, 0, 0), (2048, 4, 0, 0), (4096, 3072, 48, 48), (8192, 4096, 64, 112), (16384, 1, 0, 0), (32768, 2, 0, 0), (65536, 49152, 768, 768), (131072, 65536, 1024, 1792), (262144, 192, 2291, 4083), (0, 270336, 6387, 8179), (524288, 768, 16383, 16383), (0, 655360, 32767, 32767)] (fun W => W.cell? ⟨g, i * 2, none⟩ = some (.int .i64 a) ∧ W.cell? ⟨g, i * 2 + 1, none⟩ = some (.int .i64 b) ∧ W.cell? ⟨g, j * 2, none⟩ = some (.int .i64 d) ∧ W.cell? ⟨g, j * 2 + 1, none⟩ = some (.int .i64 f)) (by kernel_rfl) (by kernel_rfl) (by kernel_rfl) rfl (by kernel_rfl) (by kernel_rfl) ⟨c0, c1, c2, c3⟩ (fun hS => ?_)
  repeat (refine free_read (v := ?_) rfl (fun _ _ _ h => h) rfl ?_ ?_; rotate_left 1; (focus (intro w'; go_simp; try rfl)); (simp only [Act.put, List.setIfInBounds_toArray]; dsimp only [List.set_cons_zero, List.set_cons_succ]))
  refine free_nil ?_
  intro _
  repeat (first
    | (refine plan_read (v := ?_) rfl (fun _ _ _ h => h) rfl hS ?_ ?_; rotate_left 1; (focus (intro w' hS'; have e0 := hS'.1; have e1 := hS'.2.1; have e2 := hS'.2.2.1; have e3 := hS'.2.2.2; go_simp; try rfl)); (simp only [Act.put, List.setIfInBounds_toArray]; dsimp only [List.set_cons_zero, List.set_cons_succ]))
    | (refine plan_skip rfl (fun _ _ _ h => h) rfl hS ?_; (simp only [Act.put, List.setIfInBounds_toArray]; dsimp only [List.set_cons_zero, List.set_cons_succ])))
  refine plan_do (by rfl) (by rfl) (fun K hK => ?_)
  refine wp_store_mid 28 (.tmp 18) (.tmp 13) rfl g (i * 2) #[.int .i64 d, .int .i64 f] rfl rfl HT.out.1 HSZ.out (by simp [Value.oneCell']) ?_
  refine hK.out _ _ (fun h => by cases h) (fun _ => ?_); clear hK K; try (simp only [Act.put, List.setIfInBounds_toArray]; dsimp only [List.set_cons_zero, List.set_cons_succ])
  refine plan_do (by rfl) (by rfl) (fun K hK => ?_)
  go_simp
  refine hK.out _ _ (fun h => by cases h) (fun _ => ?_); clear hK K; try (simp only [Act.put, List.setIfInBounds_toArray]; dsimp only [List.set_cons_zero, List.set_cons_succ])
  refine plan_do (by rfl) (by rfl) (fun K hK => ?_)
  refine wp_store_mid 28 (.tmp 19) (.tmp 17) rfl g (j * 2) #[.int .i64 a, .int .i64 b] rfl rfl HT.out.2 HSZ.out (by simp [Value.oneCell']) ?_
  refine hK.out _ _ (fun h => by cases h) (fun _ => ?_); clear hK K; try (simp only [Act.put, List.setIfInBounds_toArray]; dsimp only [List.set_cons_zero, List.set_cons_succ])
  refine plan_nil ?_
  obtain ⟨w2, hw2⟩ : ∃ w2, (w.drew.setCells g (i * 2) (dcells (d, f))).setCells g (j * 2) (dcells (a, b)) = w2 := ⟨_, rfl⟩
  rw [hw2] at HE HF
  have hw3 : (w.drew.setCells g (i * 2) #[Value.int .i64 d, .int .i64 f].toList).setCells g (j * 2) #[Value.int .i64 a, .int .i64 b].toList = w2 := hw2
  rw [hw3]
  go_wp2_with fail
  refine bodyPost_end (results_none rfl _ _ _) rfl ?_
  exact ⟨rfl, HE.out, HF.out⟩
end Go.Proofs.Ytaapdkeipknilaa
