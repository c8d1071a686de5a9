/-
  The queue: Push, Pop, Drop.
-/
import Derived.Test.YtaapdkeipknilaaDue9
import Derived.Test.YtaapdkeipknilaaDueS
namespace Go.Proofs.Ytaapdkeipknilaa
set_option maxRecDepth 4000
open Go.RowKit

/-- A queue in memory: what it has, in order. -/
def QAt (w : World) (q : Nat) (v : Value) (S : List (Int × Int)) : Prop := ∃ l, HAt w q v l ∧ Hp l l.length ∧ l.Perm S ∧ Sorted S ∧ Apart S
/-- What an operation leaves. -/
def Qs (w w' : World) (q : Nat) (v : Value) (S' : List (Int × Int)) : Prop := ∃ v', QAt w' q v' S' ∧ Fr (QF q v) w w' ∧ Nx w v v'
theorem QAt.below {w w' : World} {q : Nat} {v : Value} {S : List (Int × Int)} (h : QAt w q v S) (hb : Below w.heap.size w w') : QAt w' q v S := by
  obtain ⟨l, h1, h2⟩ := h
  exact ⟨l, h1.below hb, h2⟩
theorem QAt.fr {w w' : World} {q : Nat} {v : Value} {S : List (Int × Int)} (h : QAt w q v S) {F : Nat → Prop} (hf : Fr F w w') (hn : ∀ k, QF q v k → ¬ F k) : QAt w' q v S := by
  obtain ⟨l, h1, h2⟩ := h
  exact ⟨l, h1.fr hf hn, h2⟩
theorem Qs.below {w w' : World} {q : Nat} {v : Value} {S : List (Int × Int)} (h : QAt w q v S) (hb : Below w.heap.size w w') : Qs w w' q v S := ⟨v, h.below hb, Fr.of_below hb _, Nx.refl _ _⟩
theorem Qs.ahead {w w1 w2 : World} {q : Nat} {v : Value} {S' : List (Int × Int)} (hb : Below w.heap.size w w1) (h : Qs w1 w2 q v S') : Qs w w2 q v S' := by
  obtain ⟨v', h1, h2, h3⟩ := h
  exact ⟨v', h1, (Fr.of_below hb (QF q v)).trans h2 (fun _ _ h => h), (Nx.refl w v).trans h3 hb.size⟩
theorem Qs.behind {w w1 w2 : World} {q : Nat} {v : Value} {S' : List (Int × Int)} (h : Qs w w1 q v S') (hb : Below w1.heap.size w1 w2) : Qs w w2 q v S' := by
  obtain ⟨v', h1, h2, h3⟩ := h
  exact ⟨v', h1.below hb, h2.trans (Fr.of_below hb (QF q v)) (fun _ _ h => h), h3⟩
theorem Found.neg {l S : List (Int × Int)} {x r : Int} (h : Found l x r) (hp : l.Perm S) (hr : r < 0) : hasB S x = false := by
  rcases h with ⟨_, h⟩ | ⟨k, rfl, _⟩
  · exact hasB_no.2 fun e he => h e (hp.mem_iff.2 he)
  · omega
theorem Found.pos {l S : List (Int × Int)} {x r : Int} (h : Found l x r) (hp : l.Perm S) (hr : ¬ r < 0) : hasB S x = true ∧ ∃ k : Nat, r = k ∧ k < l.length ∧ (gg l k).2 = x := by
  rcases h with ⟨rfl, h⟩ | ⟨k, rfl, hk, hx⟩
  · omega
  · exact ⟨hasB_iff.2 ⟨gg l k, hp.mem_iff.1 (by rw [gg_eq hk]; exact List.getElem_mem hk), hx⟩, k, rfl, hk, hx⟩

theorem HAt.drew {w : World} {q : Nat} {v : Value} {l : List (Int × Int)} (h : HAt w q v l) : HAt w.drew q v l := ⟨h.top.drew, h.row.drew⟩
set_option maxHeartbeats 1000000 in
theorem qpush_any (q : Nat) (v : Value) (S : List (Int × Int)) (d : Int × Int) (w : World) (h : QAt w q v S) (hl : S.length ≤ 900) :
    Calls Try.prog 8 #[.pointer (some ⟨q, 0, none⟩), .agg #[.int .i64 d.1, .int .i64 d.2]] w fun e w' => e = .returned (.bool (!hasB S d.2)) ∧ Qs w w' q v (if hasB S d.2 then S else ins d S) := by
  have HQ := Lib.hid h
  obtain ⟨l, h1, h2, h3, h4, h5⟩ := h
  have hlen := h3.length_eq
  obtain ⟨a, b⟩ := d
  have hb := (Below.refl w.heap.size w).alloc (Nat.le_refl _) (.cells #[.int .i64 a, .int .i64 b] 28)
  have k1 := Blk.new w 28 #[.int .i64 a, .int .i64 b]
  obtain ⟨w1, hw1⟩ : ∃ w1, w.alloc (.cells #[.int .i64 a, .int .i64 b] 28) = w1 := ⟨_, rfl⟩
  rw [hw1] at hb k1
  have H := Lib.hid (And.intro (h1.below hb) (And.intro hb (And.intro h2 (And.intro h3 (And.intro h4 (And.intro h5 k1))))))
  have HF := Lib.hid (find_any q v l b w1 H.out.1 (by omega))
  have x0 : w1.cell? ⟨w.heap.size, 0, none⟩ = some (.int .i64 a) := k1.cell 0
  have x1 : w1.cell? ⟨w.heap.size, 1, none⟩ = some (.int .i64 b) := k1.cell 1
  have HL := Lib.hid (And.intro hl hlen)
  obtain ⟨S', hS'⟩ : ∃ S', (if hasB S b = true then S else ins (a, b) S) = S' := ⟨_, rfl⟩
  obtain ⟨R', hR'⟩ : ∃ R', (!hasB S b) = R' := ⟨_, rfl⟩
  have HE := Lib.hid (And.intro hS' hR')
  show Calls _ _ _ _ fun e w' => e = .returned (.bool (!hasB S b)) ∧ Qs w w' q v (if hasB S b = true then S else ins (a, b) S)
  rw [hS', hR']
  clear h1 h2 h3 h4 h5 hb k1 hl hlen hS' hR'
  go_enter Try.func8, Try.ntmps8
  go_wp2_with fail
  refine HF.out.mono ?_
  rintro e w2 ⟨⟨r, rfl, hr⟩, hb2⟩
  have H2 := Lib.hid (And.intro (H.out.1.below hb2) (And.intro (H.out.2.1.trans (hb2.mono H.out.2.1.size)) (And.intro hr (H.out.2.2.2.2.2.2.below hb2 H.out.2.2.2.2.2.2.lt))))
  clear hr hb2
  by_cases hneg : r < 0
  · have hno := H2.out.2.2.1.neg H.out.2.2.2.1 hneg
    have hr0 : ¬ (0 ≤ r) := by omega
    have y0 : w2.cell? ⟨w.heap.size, 0, none⟩ = some (.int .i64 a) := H2.out.2.2.2.cell 0
    have y1 : w2.cell? ⟨w.heap.size, 1, none⟩ = some (.int .i64 b) := H2.out.2.2.2.cell 1
    have HN := Lib.hid hno
    clear x0 x1 hneg hno hw1
    go_wp2_with fail
    refine region_fast [(0, true), (1, true), (2, true), (3, true), (4, true), (5, true), (6, false)] [4, 5] 48 [(1024, 1, 0, 0), (2048, 1024, 1, 1), (4096, 2048, 2, 3), (8192, 4096, 4, 7), (16384, 8, 0, 0), (32768, 16384, 16, 16), (65536, 40960, 40, 63)] (fun W => W.cell? ⟨w.heap.size, 0, none⟩ = some (.int .i64 a) ∧ W.cell? ⟨w.heap.size, 1, none⟩ = some (.int .i64 b)) (by kernel_rfl) (by kernel_rfl) (by kernel_rfl) rfl (by kernel_rfl) (by kernel_rfl) ⟨y0, y1⟩ (fun hS => ?_)
    repeat (first
      | (refine plan_read (v := ?_) rfl (fun _ _ _ h => h) rfl hS ?_ ?_; rotate_left 1; (focus (intro w' hS'; have e0 := hS'.1; have e1 := hS'.2; go_simp; try rfl)); (simp only [Act.put, List.setIfInBounds_toArray]; dsimp only [List.set_cons_zero, List.set_cons_succ]))
      | (refine plan_skip rfl (fun _ _ _ h => h) rfl hS ?_; (simp only [Act.put, List.setIfInBounds_toArray]; dsimp only [List.set_cons_zero, List.set_cons_succ])))
    refine plan_do (by rfl) (by rfl) (fun K hK => ?_)
    go_simp
    refine (hpush_any q v l (a, b) w2.drew (HAt.drew H2.out.1) H.out.2.2.1 (by have := HL.out; omega)).mono ?_
    rintro e w3 ⟨rfl, l', v', hp, hh, ha, hf, hn⟩
    refine hK.out _ _ (fun h => by cases h) (fun _ => ?_); clear hK K; try (simp only [Act.put, List.setIfInBounds_toArray]; dsimp only [List.set_cons_zero, List.set_cons_succ])
    refine plan_nil ?_
    go_wp2_with fail
    go_ret
    have hE := HE.out
    rw [HN.out] at hE
    obtain ⟨e1, e2⟩ := hE
    refine ⟨ret_bool e2, ?_⟩
    rw [← e1]
    exact (Qs.ahead H2.out.2.1 ⟨v', ⟨l', ha, hh, hp.trans ((List.Perm.cons _ H.out.2.2.2.1).trans (ins_perm _ _).symm), ins_sorted H.out.2.2.2.2.1, apart_ins (d := (a, b)) H.out.2.2.2.2.2.1 HN.out⟩, (Fr.drew (Fr.refl _ _)).trans hf (fun _ _ h => h), hn⟩)
  · have hyes := H2.out.2.2.1.pos H.out.2.2.2.1 hneg
    have hr0 : 0 ≤ r := by omega
    have HY := Lib.hid hyes.1
    clear x0 x1 hneg hyes
    go_wp2_with fail
    go_ret
    have hE := HE.out
    rw [HY.out] at hE
    obtain ⟨e1, e2⟩ := hE
    refine ⟨ret_bool e2, ?_⟩
    rw [← e1]
    exact Qs.below HQ.out H2.out.2.1

set_option maxHeartbeats 1000000 in
theorem qdrop_any (q : Nat) (v : Value) (S : List (Int × Int)) (x : Int) (w : World) (h : QAt w q v S) (hl : S.length ≤ 900) :
    Calls Try.prog 17 #[.pointer (some ⟨q, 0, none⟩), .int .i64 x] w fun e w' => e = .returned (.bool (hasB S x)) ∧ Qs w w' q v (drp S x) := by
  have HQ := Lib.hid h
  obtain ⟨l, h1, h2, h3, h4, h5⟩ := h
  have hlen := h3.length_eq
  have H := Lib.hid (And.intro h1 (And.intro h2 (And.intro h3 (And.intro h4 h5))))
  have HF := Lib.hid (find_any q v l x w h1 (by omega))
  have HL := Lib.hid (And.intro hl hlen)
  clear h1 h2 h3 h4 h5 hl hlen
  go_enter Try.func17, Try.ntmps17
  go_wp2_with fail
  refine HF.out.mono ?_
  rintro e w2 ⟨⟨r, rfl, hr⟩, hb2⟩
  have H2 := Lib.hid (And.intro (H.out.1.below hb2) (And.intro hb2 hr))
  clear hr hb2
  by_cases hneg : r < 0
  · have hno := H2.out.2.2.neg H.out.2.2.1 hneg
    have HN := Lib.hid hno
    clear hno
    go_wp2_with fail
    go_ret
    rw [HN.out, drp_none HN.out]
    exact ⟨rfl, Qs.below HQ.out H2.out.2.1⟩
  · obtain ⟨hy, k, rfl, hk, hx⟩ := H2.out.2.2.pos H.out.2.2.1 hneg
    have HY := Lib.hid (And.intro hy (And.intro hk hx))
    clear hy hk hx
    go_wp2_with fail
    refine (hremove_any q v l k w2 H2.out.1 H.out.2.1 HY.out.2.1 (by have := HL.out; omega)).mono ?_
    rintro e w3 ⟨⟨r', rfl⟩, l', v', hp, hh, ha, hf, hn⟩
    go_wp2_with fail
    go_ret
    rw [HY.out.1]
    have hp2 := drp_perm H.out.2.2.2.2 (hp.trans H.out.2.2.1)
    rw [HY.out.2.2] at hp2
    exact ⟨rfl, Qs.ahead H2.out.2.1 ⟨v', ⟨l', ha, hh, hp2, drp_sorted H.out.2.2.2.1, drp_apart H.out.2.2.2.2⟩, hf, hn⟩⟩
theorem qpop_none (q : Nat) (v : Value) (now : Int) (w : World) (h : QAt w q v []) :
    Calls Try.prog 12 #[.pointer (some ⟨q, 0, none⟩), .int .i64 now] w fun e w' => e = .returned (.tuple #[.agg #[.int .i64 0, .int .i64 0], .bool false]) ∧ Below w.heap.size w w' := by
  obtain ⟨l, h1, h2, h3, h4, h5⟩ := h
  obtain rfl := h3.eq_nil
  obtain ⟨w1, hw1⟩ : ∃ w1, w.alloc (.cells #[.int .i64 0, .int .i64 0] 28) = w1 := ⟨_, rfl⟩
  have hb : Below w.heap.size w w1 := hw1 ▸ (Below.refl w.heap.size w).alloc (Nat.le_refl _) _
  have k1 : Blk w1 w.heap.size 28 #[.int .i64 0, .int .i64 0] := hw1 ▸ Blk.new w _ _
  have HN := Lib.hid (qnext_none q v w1 (h1.below hb))
  have HB := Lib.hid (And.intro hb k1)
  clear h1 h2 h3 h4 h5 hb k1
  go_enter Try.func12, Try.ntmps12
  go_wp2_with fail
  refine HN.out.mono ?_
  rintro e w2 ⟨rfl, hb2⟩
  have H2 := Lib.hid (And.intro (HB.out.1.trans (hb2.mono HB.out.1.size)) (HB.out.2.below hb2 HB.out.2.lt))
  have x0 : w2.cell? ⟨w.heap.size, 0, none⟩ = some (.int .i64 0) := H2.out.2.cell 0
  have x1 : w2.cell? ⟨w.heap.size, 1, none⟩ = some (.int .i64 0) := H2.out.2.cell 1
  have z0 : w2.frozen? ⟨w.heap.size, 0, none⟩ = false := H2.out.2.frozen 0
  have z1 : w2.frozen? ⟨w.heap.size, 1, none⟩ = false := H2.out.2.frozen 1
  have hlt := H2.out.2.lt
  clear hb2 hw1
  go_wp2_with fail
  obtain ⟨w5, hw5⟩ : ∃ w5, (((w2.setCell ⟨w.heap.size, 0, none⟩ (.int .i64 0)).setCell ⟨w.heap.size, 1, none⟩ (.int .i64 0)).alloc (.cells #[.int .i64 0, .int .i64 0] 28)) = w5 := ⟨_, rfl⟩
  have hb5 : Below w.heap.size w w5 := hw5 ▸ ((H2.out.1.setCell (Nat.le_refl _) _).setCell (Nat.le_refl _) _).alloc ((H2.out.1.setCell (Nat.le_refl _) _).setCell (Nat.le_refl _) _).size _
  have k5 : Blk w5 w.heap.size 28 #[.int .i64 0, .int .i64 0] := hw5 ▸ ((H2.out.2.set_ 0 (.int .i64 0)).set_ 1 (.int .i64 0)).alloc _
  have y0 : w5.cell? ⟨w.heap.size, 0, none⟩ = some (.int .i64 0) := k5.cell 0
  have y1 : w5.cell? ⟨w.heap.size, 1, none⟩ = some (.int .i64 0) := k5.cell 1
  rw [hw5]
  refine bodyPost_ret (by simp [results, Try.results12, go_sem, y0, y1]; try rfl) rfl ?_
  exact ⟨rfl, hb5⟩
theorem qpop_wait (q : Nat) (v : Value) (d : Int × Int) (S : List (Int × Int)) (now : Int) (w : World) (h : QAt w q v (d :: S)) (hl : (d :: S).length ≤ 1000) (hn : now < d.1) :
    Calls Try.prog 12 #[.pointer (some ⟨q, 0, none⟩), .int .i64 now] w fun e w' => e = .returned (.tuple #[.agg #[.int .i64 0, .int .i64 0], .bool false]) ∧ Below w.heap.size w w' := by
  obtain ⟨l, h1, h2, h3, h4, h5⟩ := h
  obtain ⟨w1, hw1⟩ : ∃ w1, w.alloc (.cells #[.int .i64 0, .int .i64 0] 28) = w1 := ⟨_, rfl⟩
  have hb : Below w.heap.size w w1 := hw1 ▸ (Below.refl w.heap.size w).alloc (Nat.le_refl _) _
  have k1 : Blk w1 w.heap.size 28 #[.int .i64 0, .int .i64 0] := hw1 ▸ Blk.new w _ _
  have hN := qnext_some q v l w1 (h1.below hb) (by rw [h3.length_eq]; simp) (by rw [h3.length_eq]; exact hl)
  rw [heap_head h2 h3 h4] at hN
  have HN := Lib.hid hN
  have HB := Lib.hid (And.intro hb k1)
  clear h1 h2 h3 h4 h5 hb k1 hN
  obtain ⟨a, b⟩ := d
  simp only at hn
  go_enter Try.func12, Try.ntmps12
  go_wp2_with fail
  refine HN.out.mono ?_
  rintro e w2 ⟨rfl, hb2⟩
  have H2 := Lib.hid (And.intro (HB.out.1.trans (hb2.mono HB.out.1.size)) (HB.out.2.below hb2 HB.out.2.lt))
  have x0 : w2.cell? ⟨w.heap.size, 0, none⟩ = some (.int .i64 0) := H2.out.2.cell 0
  have x1 : w2.cell? ⟨w.heap.size, 1, none⟩ = some (.int .i64 0) := H2.out.2.cell 1
  have z0 : w2.frozen? ⟨w.heap.size, 0, none⟩ = false := H2.out.2.frozen 0
  have z1 : w2.frozen? ⟨w.heap.size, 1, none⟩ = false := H2.out.2.frozen 1
  have hlt := H2.out.2.lt
  clear hb2 hw1
  go_wp2_with fail
  obtain ⟨w5, hw5⟩ : ∃ w5, (((w2.setCell ⟨w.heap.size, 0, none⟩ (.int .i64 0)).setCell ⟨w.heap.size, 1, none⟩ (.int .i64 0)).alloc (.cells #[.int .i64 a, .int .i64 b] 28)) = w5 := ⟨_, rfl⟩
  have hb5 : Below w.heap.size w w5 := hw5 ▸ ((H2.out.1.setCell (Nat.le_refl _) _).setCell (Nat.le_refl _) _).alloc ((H2.out.1.setCell (Nat.le_refl _) _).setCell (Nat.le_refl _) _).size _
  have k5 : Blk w5 w.heap.size 28 #[.int .i64 0, .int .i64 0] := hw5 ▸ ((H2.out.2.set_ 0 (.int .i64 0)).set_ 1 (.int .i64 0)).alloc _
  have y0 : w5.cell? ⟨w.heap.size, 0, none⟩ = some (.int .i64 0) := k5.cell 0
  have y1 : w5.cell? ⟨w.heap.size, 1, none⟩ = some (.int .i64 0) := k5.cell 1
  rw [hw5]
  refine bodyPost_ret (by simp [results, Try.results12, go_sem, y0, y1]; try rfl) rfl ?_
  exact ⟨rfl, hb5⟩

set_option maxHeartbeats 1000000 in
theorem qpop_some (q : Nat) (v : Value) (d : Int × Int) (S : List (Int × Int)) (now : Int) (w : World) (h : QAt w q v (d :: S)) (hl : (d :: S).length ≤ 1000) (hn : ¬ now < d.1) :
    Calls Try.prog 12 #[.pointer (some ⟨q, 0, none⟩), .int .i64 now] w fun e w' => e = .returned (.tuple #[.agg #[.int .i64 d.1, .int .i64 d.2], .bool true]) ∧ Qs w w' q v S := by
  obtain ⟨l, h1, h2, h3, h4, h5⟩ := h
  obtain ⟨w1, hw1⟩ : ∃ w1, w.alloc (.cells #[.int .i64 0, .int .i64 0] 28) = w1 := ⟨_, rfl⟩
  have hb : Below w.heap.size w w1 := hw1 ▸ (Below.refl w.heap.size w).alloc (Nat.le_refl _) _
  have k1 : Blk w1 w.heap.size 28 #[.int .i64 0, .int .i64 0] := hw1 ▸ Blk.new w _ _
  have h0 : 0 < l.length := by rw [h3.length_eq]; simp
  have hll : l.length ≤ 1000 := by rw [h3.length_eq]; exact hl
  have hN := qnext_some q v l w1 (h1.below hb) h0 hll
  have hhd := heap_head h2 h3 h4
  rw [hhd] at hN
  have HN := Lib.hid hN
  have HB := Lib.hid (And.intro hb (And.intro k1 (And.intro (h1.below hb) (And.intro h2 (And.intro h3 (And.intro h4 (And.intro h5 (And.intro hhd (And.intro h0 hll)))))))))
  have hltw := h1.top.lt
  have hapq : ∀ k, QF q v k → k ≠ w.heap.size := fun k hk e => by
    subst e
    rcases hk with hk | hk
    · have := h1.top.lt; omega
    · have := (h1.row.lt _ hk).2; omega
  have HX := Lib.hid (And.intro hapq hltw)
  clear h1 h2 h3 h4 h5 hb k1 hN h0 hll hhd hapq hltw
  obtain ⟨a, b⟩ := d
  simp only at hn
  go_enter Try.func12, Try.ntmps12
  go_wp2_with fail
  refine HN.out.mono ?_
  rintro e w2 ⟨rfl, hb2⟩
  obtain ⟨w3, hw3⟩ : ∃ w3, w2.alloc (.cells #[.int .i64 a, .int .i64 b] 28) = w3 := ⟨_, rfl⟩
  have hb3 : Below w2.heap.size w2 w3 := hw3 ▸ (Below.refl _ w2).alloc (Nat.le_refl _) _
  have k3 : Blk w3 w2.heap.size 28 #[.int .i64 a, .int .i64 b] := hw3 ▸ Blk.new w2 _ _
  have hb13 := hb2.trans (hb3.mono hb2.size)
  have HP := Lib.hid (hpop_any q v l w3 (HB.out.2.2.1.below hb13) HB.out.2.2.2.1 HB.out.2.2.2.2.2.2.2.2.1 HB.out.2.2.2.2.2.2.2.2.2)
  have H3 := Lib.hid (And.intro (HB.out.1.trans (hb13.mono HB.out.1.size)) (And.intro (HB.out.2.1.below hb13 HB.out.2.1.lt) (And.intro k3 hb2.size)))
  have y0 : w3.cell? ⟨w2.heap.size, 0, none⟩ = some (.int .i64 a) := k3.cell 0
  have y1 : w3.cell? ⟨w2.heap.size, 1, none⟩ = some (.int .i64 b) := k3.cell 1
  clear hb2 hb3 k3 hb13 hw1
  go_wp2_with fail
  refine HP.out.mono ?_
  rintro e w4 ⟨rfl, l', v', hp, hh, ha, hf, hnx⟩
  have hne1 : ¬ QF q v w.heap.size := fun h => HX.out.1 _ h rfl
  have hs12 : w.heap.size < w2.heap.size := Nat.lt_of_lt_of_le HB.out.2.1.lt H3.out.2.2.2
  have hne2 : ¬ QF q v w2.heap.size := fun h => by
    rcases h with h | h
    · have := HX.out.2; omega
    · have h9 := (HB.out.2.2.1.row.lt _ h).2
      have := H3.out.2.2.2
      omega
  have k4 := H3.out.2.1.fr hf hne1
  have k5 := H3.out.2.2.1.fr hf hne2
  have u0 : w4.cell? ⟨w2.heap.size, 0, none⟩ = some (.int .i64 a) := k5.cell 0
  have u1 : w4.cell? ⟨w2.heap.size, 1, none⟩ = some (.int .i64 b) := k5.cell 1
  have x0 : w4.cell? ⟨w.heap.size, 0, none⟩ = some (.int .i64 0) := k4.cell 0
  have x1 : w4.cell? ⟨w.heap.size, 1, none⟩ = some (.int .i64 0) := k4.cell 1
  have z0 : w4.frozen? ⟨w.heap.size, 0, none⟩ = false := k4.frozen 0
  have z1 : w4.frozen? ⟨w.heap.size, 1, none⟩ = false := k4.frozen 1
  obtain ⟨w6, hw6⟩ : ∃ w6, (w4.setCell ⟨w.heap.size, 0, none⟩ (.int .i64 a)).setCell ⟨w.heap.size, 1, none⟩ (.int .i64 b) = w6 := ⟨_, rfl⟩
  have k6 : Blk w6 w.heap.size 28 #[.int .i64 a, .int .i64 b] := hw6 ▸ ((k4.set_ 0 (.int .i64 a)).set_ 1 (.int .i64 b))
  have f6 : Fr (· = w.heap.size) w4 w6 := hw6 ▸ (Fr.setCell (F := (· = w.heap.size)) _ ⟨w.heap.size, 0, none⟩ (.int .i64 a) rfl).trans (Fr.setCell (F := (· = w.heap.size)) _ ⟨w.heap.size, 1, none⟩ (.int .i64 b) rfl) (fun _ _ h => h)
  have t0 : w6.cell? ⟨w.heap.size, 0, none⟩ = some (.int .i64 a) := k6.cell 0
  have t1 : w6.cell? ⟨w.heap.size, 1, none⟩ = some (.int .i64 b) := k6.cell 1
  have hq' : QAt w4 q v' S := ⟨l', ha, hh, by
    have h9 := hp.trans HB.out.2.2.2.2.1
    rw [HB.out.2.2.2.2.2.2.2.1] at h9
    exact h9.cons_inv, List.Pairwise.of_cons HB.out.2.2.2.2.2.1, List.Pairwise.of_cons HB.out.2.2.2.2.2.2.1⟩
  have hs13 := H3.out.1.size
  have hz : ∀ k, QF q v' k → ¬ k = w.heap.size := fun k hk e => by
    subst e
    rcases hk with hk | hk
    · have := HX.out.2; omega
    · rcases hnx _ hk with h | h
      · exact hne1 (.inr h)
      · have := H3.out.2.1.lt
        omega
  have HR : Hid (Qs w w6 q v S) := Lib.hid ⟨v', hq'.fr f6 hz, ((Fr.of_below H3.out.1 (QF q v)).trans hf (fun _ _ h => h)).trans f6 (fun k hk e => by omega), fun g hg => by
    rcases hnx g hg with h | h
    · exact .inl h
    · exact .inr (Nat.le_trans hs13 h)⟩
  clear k4 k5 k6 f6 hq' hz hp hh ha hf hnx hne1 hne2 hs12 hs13 y0 y1 hw3
  go_wp2_with fail
  try rw [hw6]
  refine bodyPost_ret (by simp [results, Try.results12, go_sem, t0, t1]; try rfl) rfl ?_
  exact ⟨rfl, HR.out⟩
end Go.Proofs.Ytaapdkeipknilaa
