/-
  The heap in memory; its methods by name; Push and Pop of the row.
-/
import Derived.Test.YtaapdkeipknilaaDue3
namespace Go.Proofs.Ytaapdkeipknilaa
set_option maxRecDepth 4000
open Go.RowKit

theorem info_due : (Try.prog.info? 28).map (fun i => (i.zero, i.size, i.bytes)) = some (some (.agg #[.int .i64 0, .int .i64 0]), 2, 16) := by kernel_rfl
theorem dcs_append (a b : List (Int × Int)) : dcs (a ++ b) = dcs a ++ dcs b := by simp [dcs]
theorem dcs_one (l : List (Int × Int)) : ∀ u ∈ dcs l, u.oneCell' = true := by
  intro u hu
  simp only [dcs, dcells, List.mem_flatMap, List.mem_cons, List.not_mem_nil, or_false] at hu
  obtain ⟨y, _, rfl | rfl⟩ := hu <;> rfl
/-- The heap in memory: the queue's block and its row. -/
structure HAt (w : World) (q : Nat) (v : Value) (l : List (Int × Int)) : Prop where
  top : Blk w q 48 #[v]
  row : w.ownsRow 0 28 2 v l.length (dcs l)
def QF (q : Nat) (v : Value) : Nat → Prop := fun k => k = q ∨ v.ownBlock = some k
def Nx (w : World) (v v' : Value) : Prop := ∀ g, v'.ownBlock = some g → v.ownBlock = some g ∨ w.heap.size ≤ g
theorem Nx.refl (w : World) (v : Value) : Nx w v v := fun _ h => .inl h
theorem Nx.trans {w w' : World} {v v' v'' : Value} (h : Nx w v v') (k : Nx w' v' v'') (hs : w.heap.size ≤ w'.heap.size) : Nx w v v'' := fun g hg => by
  rcases k g hg with h1 | h1
  · exact h g h1
  · exact .inr (Nat.le_trans hs h1)
theorem QF.trans {w w' w'' : World} {q : Nat} {v v' : Value} (h : Fr (QF q v) w w') (k : Fr (QF q v') w' w'') (hn : Nx w v v') : Fr (QF q v) w w'' :=
  h.trans k (fun j hj hq => by
    rcases hq with rfl | hq
    · exact .inl rfl
    · rcases hn j hq with h1 | h1
      · exact .inr h1
      · omega)
/-- What a step of the queue does. -/
def Stp (w w' : World) (q : Nat) (v : Value) (l' : List (Int × Int)) : Prop := ∃ v', HAt w' q v' l' ∧ Fr (QF q v) w w' ∧ Nx w v v'
theorem HAt.apart {w : World} {q : Nat} {v : Value} {l : List (Int × Int)} (h : HAt w q v l) : v.ownBlock ≠ some q := fun e => own_ne h.row h.top (by decide) q e rfl
theorem HAt.fr {w w' : World} {q : Nat} {v : Value} {l : List (Int × Int)} (h : HAt w q v l) {F : Nat → Prop} (hf : Fr F w w') (hn : ∀ k, QF q v k → ¬ F k) : HAt w' q v l :=
  ⟨h.top.fr hf (hn q (.inl rfl)), own_fr h.row hf fun g hg => hn g (.inr hg)⟩
theorem HAt.below {w w' : World} {q : Nat} {v : Value} {l : List (Int × Int)} (h : HAt w q v l) (hb : Below w.heap.size w w') : HAt w' q v l :=
  ⟨h.top.below hb h.top.lt, own_below h.row hb⟩
theorem Stp.of_below {w w' w'' : World} {q : Nat} {v : Value} {l' : List (Int × Int)} (h : Stp w w' q v l') (hb : Below w'.heap.size w' w'') : Stp w w'' q v l' := by
  obtain ⟨v', h1, h2, h3⟩ := h
  exact ⟨v', h1.below hb, h2.trans (Fr.of_below hb (QF q v)) (fun _ _ h => h), h3⟩
theorem Stp.trans {w w' w'' : World} {q : Nat} {v v' : Value} {l'' : List (Int × Int)} (hf : Fr (QF q v) w w') (hn : Nx w v v') (k : Stp w' w'' q v' l'') : Stp w w'' q v l'' := by
  obtain ⟨v'', h1, h2, h3⟩ := k
  exact ⟨v'', h1, QF.trans hf h2 hn, hn.trans h3 hf.size⟩
theorem HAt.cell {w : World} {q : Nat} {v : Value} {l : List (Int × Int)} (h : HAt w q v l) : w.cell? ⟨q, 0, none⟩ = some v := by rw [h.top.cell]; rfl
theorem HAt.shape {w : World} {q : Nat} {v : Value} {l : List (Int × Int)} (h : HAt w q v l) : ∃ A c, v = .slice A l.length c := own_shape h.row

/-! ### The methods of *dues, by name -/
theorem mLess (q : Nat) (v : Value) (w : World) (h : w.cell? ⟨q, 0, none⟩ = some v) : (Go.method 212 51 (.pointer (some ⟨q, 0, none⟩)) "Less").run Try.prog w = .ok (72, v) w := by
  rw [show (Go.method 212 51 (.pointer (some ⟨q, 0, none⟩)) "Less").run Try.prog w = (match w.cell? ⟨q, 0, none⟩ with | some v => .ok (72, v) w | none => (match w.farLoad Try.prog ⟨q, 0, none⟩ false with | .ok (v, _) => .ok (72, v) w | .error h => .halt h w)) by kernel_rfl, h]
theorem mSwap (q : Nat) (v : Value) (w : World) (h : w.cell? ⟨q, 0, none⟩ = some v) : (Go.method 212 51 (.pointer (some ⟨q, 0, none⟩)) "Swap").run Try.prog w = .ok (73, v) w := by
  rw [show (Go.method 212 51 (.pointer (some ⟨q, 0, none⟩)) "Swap").run Try.prog w = (match w.cell? ⟨q, 0, none⟩ with | some v => .ok (73, v) w | none => (match w.farLoad Try.prog ⟨q, 0, none⟩ false with | .ok (v, _) => .ok (73, v) w | .error h => .halt h w)) by kernel_rfl, h]
theorem mLen (q : Nat) (v : Value) (w : World) (h : w.cell? ⟨q, 0, none⟩ = some v) : (Go.method 212 51 (.pointer (some ⟨q, 0, none⟩)) "Len").run Try.prog w = .ok (71, v) w := by
  rw [show (Go.method 212 51 (.pointer (some ⟨q, 0, none⟩)) "Len").run Try.prog w = (match w.cell? ⟨q, 0, none⟩ with | some v => .ok (71, v) w | none => (match w.farLoad Try.prog ⟨q, 0, none⟩ false with | .ok (v, _) => .ok (71, v) w | .error h => .halt h w)) by kernel_rfl, h]
theorem mPush (v : Value) (w : World) : (Go.method 212 51 v "Push").run Try.prog w = .ok (75, v) w := by kernel_rfl
theorem mPop (v : Value) (w : World) : (Go.method 212 51 v "Pop").run Try.prog w = .ok (74, v) w := by kernel_rfl

theorem asDue (v : Value) (w : World) : (Instr.typeAssert (.iface 28 v) 20 28 true).run Try.prog w = .ok (.tuple #[v, .bool true]) w := by kernel_rfl

theorem dpush_any (l : List (Int × Int)) (q : Nat) (v : Value) (d : Int × Int) (w : World) (h : HAt w q v l) (hl : l.length ≤ 1000) :
    Calls Try.prog 75 #[.pointer (some ⟨q, 0, none⟩), .iface 28 (.agg #[.int .i64 d.1, .int .i64 d.2])] w fun e w' => e = .returned (.tuple #[]) ∧ Stp w w' q v (l ++ [d]) := by
  obtain ⟨a, b⟩ := d
  obtain ⟨A, c, rfl⟩ := h.shape
  obtain ⟨w1, hw1⟩ : ∃ w1, w.alloc (.cells #[.int .i64 a, .int .i64 b] 28) = w1 := ⟨_, rfl⟩
  have hb1 : Below w.heap.size w w1 := hw1 ▸ (Below.refl _ _).alloc (Nat.le_refl _) _
  have k1 : Blk w1 w.heap.size 28 #[.int .i64 a, .int .i64 b] := hw1 ▸ Blk.new w _ _
  have h1 := h.below hb1
  have hs1 : w1.heap.size = w.heap.size + 1 := by rw [← hw1]; simp
  have c0 : w1.cell? ⟨q, 0, none⟩ = some (.slice A l.length c) := h1.cell
  have d0 : w1.cell? ⟨w.heap.size, 0, none⟩ = some (.int .i64 a) := k1.cell 0
  have d1 : w1.cell? ⟨w.heap.size, 1, none⟩ = some (.int .i64 b) := k1.cell 1
  have H1 := Lib.hid (And.intro h1 (And.intro hb1 hs1))
  have K1 := Lib.hid k1
  have HL := Lib.hid hl
  clear h h1 hb1 k1 hs1 hl
  go_enter Try.func75, Try.ntmps75
  have hA := asDue
  go_wp2_with fail
  clear hw1 hA
  refine region_free [0, 1, 2] [(3, true), (4, true), (5, false), (6, false), (7, false), (8, false)] [4, 5] 48 [(4096, 1, 0, 0), (8192, 1, 0, 0), (16384, 8192, 2, 2), (32768, 16384, 4, 6), (65536, 16, 0, 0), (131072, 65536, 16, 16), (262144, 163840, 40, 62), (524288, 4096, 127, 127), (0, 786432, 255, 255)] (fun W => W.cell? ⟨q, 0, none⟩ = some (.slice A l.length c) ∧ W.cell? ⟨w.heap.size, 0, none⟩ = some (.int .i64 a) ∧ W.cell? ⟨w.heap.size, 1, none⟩ = some (.int .i64 b)) (by kernel_rfl) (by kernel_rfl) (by kernel_rfl) rfl (by kernel_rfl) (by kernel_rfl) ⟨c0, d0, d1⟩ (fun hS => ?_)
  repeat (refine free_read (v := ?_) rfl (fun _ _ _ h => h) rfl ?_ ?_; rotate_left 1; (focus (intro w'; go_simp; try rfl)); (simp only [Act.put, List.setIfInBounds_toArray]; dsimp only [List.set_cons_zero, List.set_cons_succ]))
  refine free_nil ?_
  intro _
  repeat (first
    | (refine plan_read (v := ?_) rfl (fun _ _ _ h => h) rfl hS ?_ ?_; rotate_left 1; (focus (intro w' hS'; have e0 := hS'.1; have e1 := hS'.2.1; have e2 := hS'.2.2; go_simp; try rfl)); (simp only [Act.put, List.setIfInBounds_toArray]; dsimp only [List.set_cons_zero, List.set_cons_succ]))
    | (refine plan_skip rfl (fun _ _ _ h => h) rfl hS ?_; (simp only [Act.put, List.setIfInBounds_toArray]; dsimp only [List.set_cons_zero, List.set_cons_succ])))
  refine plan_do (by rfl) (by rfl) (fun K hK => ?_)
  go_simp
  have hb2 : Below w1.heap.size w1 (w1.alloc (.cells #[.int .i64 a, .int .i64 b] 28)) := (Below.refl _ _).alloc (Nat.le_refl _) _
  have H2 := Lib.hid (H1.out.1.below hb2)
  have SE := Lib.hid (sees_new w1 28 (dcells (a, b)) 2 1 rfl)
  have k2 := K1.out.below hb2 K1.out.lt
  have B2 := Lib.hid hb2
  have c0' := H2.out.cell
  have d0' : (w1.alloc (.cells #[.int .i64 a, .int .i64 b] 28)).cell? ⟨w.heap.size, 0, none⟩ = some (.int .i64 a) := k2.cell 0
  have d1' : (w1.alloc (.cells #[.int .i64 a, .int .i64 b] 28)).cell? ⟨w.heap.size, 1, none⟩ = some (.int .i64 b) := k2.cell 1
  clear hb2 k2
  refine hK.out _ _ (fun _ => ⟨c0', d0', d1'⟩) (fun hS => ?_); clear hK K; replace hS := hS rfl; try (simp only [Act.put, List.setIfInBounds_toArray]; dsimp only [List.set_cons_zero, List.set_cons_succ])
  obtain ⟨w2, hw2⟩ : ∃ w2, (w1.alloc (.cells #[.int .i64 a, .int .i64 b] 28)) = w2 := ⟨_, rfl⟩
  have SE' : Hid (Sees w2 2 (some ⟨w1.heap.size, 0, none⟩) 1 (dcells (a, b))) := hw2 ▸ SE
  rw [hw2] at H2 B2 hS ⊢
  clear SE c0' d0' d1' c0 d0 d1 hw2
  repeat (first
    | (refine plan_read (v := ?_) rfl (fun _ _ _ h => h) rfl hS ?_ ?_; rotate_left 1; (focus (intro w' hS'; have e0 := hS'.1; have e1 := hS'.2.1; have e2 := hS'.2.2; go_simp; try rfl)); (simp only [Act.put, List.setIfInBounds_toArray]; dsimp only [List.set_cons_zero, List.set_cons_succ]))
    | (refine plan_skip rfl (fun _ _ _ h => h) rfl hS ?_; (simp only [Act.put, List.setIfInBounds_toArray]; dsimp only [List.set_cons_zero, List.set_cons_succ])))
  refine plan_do (by rfl) (by rfl) (fun K hK => ?_)
  have hl' := HL.out
  refine wp_app (.tmp 15) (.tmp 17) 46 rfl 0 28 _ 2 16 Try.underlying46 info_due rfl (by decide) (.slice A l.length c) l.length (dcs l) rfl H2.out.row.drew (some ⟨w1.heap.size, 0, none⟩) 1 1 (dcells (a, b)) rfl SE'.out (dcs_one [(a, b)]) ?_ ?_ (Nat.zero_le _) (fun v' w' n1 n2 n3 n4 => ?_)
  · show l.length + 1 ≤ maxLen
    unfold maxLen
    omega
  · show (l.length + 1) * 16 ≤ 140737488355328
    omega
  have hF : Fr (fun k => (Value.slice A l.length c).ownBlock = some k) w2.drew w' := Fr.of_grown n2 (fun k hk => hk)
  have hap := H2.out.apart
  have ht : Blk w' q 48 #[.slice A l.length c] := H2.out.top.drew.fr hF (fun h => hap h)
  have x0 : w'.cell? ⟨q, 0, none⟩ = some (.slice A l.length c) := by rw [ht.cell]; rfl
  have x1 : w'.frozen? ⟨q, 0, none⟩ = false := ht.frozen 0
  obtain ⟨A', c', rfl⟩ := own_shape n1
  have HZ := Lib.hid (And.intro n1 (And.intro hF (And.intro n3 ht)))
  clear n1 n2 n3 n4 hF hap ht hl'
  refine hK.out _ _ (fun h => by cases h) (fun _ => ?_); clear hK K; try (simp only [Act.put, List.setIfInBounds_toArray]; dsimp only [List.set_cons_zero, List.set_cons_succ])
  refine plan_do (by rfl) (by rfl) (fun K hK => ?_)
  go_simp
  refine hK.out _ _ (fun h => by cases h) (fun _ => ?_); clear hK K; try (simp only [Act.put, List.setIfInBounds_toArray]; dsimp only [List.set_cons_zero, List.set_cons_succ])
  refine plan_do (by rfl) (by rfl) (fun K hK => ?_)
  go_simp
  refine hK.out _ _ (fun h => by cases h) (fun _ => ?_); clear hK K; try (simp only [Act.put, List.setIfInBounds_toArray]; dsimp only [List.set_cons_zero, List.set_cons_succ])
  refine plan_nil ?_
  go_wp2_with fail
  refine bodyPost_end (results_none rfl _ _ _) rfl ?_
  refine ⟨rfl, .slice A' (l.length + 1) c', ⟨?_, ?_⟩, ?_, ?_⟩
  · have := HZ.out.2.2.2.set_ 0 (.slice A' (l.length + 1) c')
    simpa using this
  · have h6 := own_fr HZ.out.1 (Fr.setCell (F := (· = q)) w' ⟨q, 0, none⟩ (.slice A' (l.length + 1) c') rfl) (fun g hg h => own_ne HZ.out.1 HZ.out.2.2.2 (by decide) g hg h)
    have e1 : l.length + 1 = (l ++ [(a, b)]).length := by simp
    have e2 : dcs l ++ dcells (a, b) = dcs (l ++ [(a, b)]) := by rw [dcs_append]; rfl
    rw [e2, e1] at h6
    rw [e1]
    exact h6
  · have f1 : Fr (QF q (.slice A l.length c)) w w2 := (Fr.of_below H1.out.2.1 _).trans (Fr.of_below B2.out _) (fun _ _ h => h)
    have f2 := f1.drew.trans (HZ.out.2.1.mono (G := QF q (.slice A l.length c)) (fun _ _ h => .inr h)) (fun _ _ h => h)
    exact f2.trans (Fr.setCell (F := QF q (.slice A l.length c)) w' ⟨q, 0, none⟩ (.slice A' (l.length + 1) c') (.inl rfl)) (fun _ _ h => h)
  · intro g hg
    rcases HZ.out.2.2.1 with h | h
    · exact .inl (h ▸ hg)
    · refine .inr ?_
      have hg' : (Value.slice A' (l.length + 1) c').ownBlock = some g := hg
      rw [h] at hg'
      injection hg' with hg'
      rw [← hg']
      show w.heap.size ≤ w2.heap.size
      have := H1.out.2.1.size
      have := B2.out.size
      omega
end Go.Proofs.Ytaapdkeipknilaa
