/-
  The dues of a queue, one by one; collected.
-/
import Derived.Test.YtaapdkeipknilaaDue10
import Derived.RangeFuncNested
import Derived.RangeFuncLeaves
import Derived.Shelf.Abstract
import Derived.WalkKit
import Derived.OwnWalkIn
import Derived.TacticsInMore
import Derived.LoopNIn
import Derived.LoopIn
import Derived.Maps.AppendAt
namespace Go.Proofs.Ytaapdkeipknilaa
set_option maxRecDepth 4000
open Go.RowKit Go.Shelf

attribute [local go_sem] Oper.semAt_some

theorem take_gg {l : List (Int × Int)} {k : Nat} (h : k < l.length) : l.take (k + 1) = l.take k ++ [gg l k] := by
  rw [List.take_add_one, List.getElem?_eq_getElem h, gg_eq h]
  rfl
theorem snoc_drew {J : List (Int × Int) → World → Prop} {B : Nat} (hJ : AbidesFrom B J) {pre : List (Int × Int)} {W : World} (h : J pre W) (o : Obj) : J pre (W.alloc o) :=
  hJ pre W _ none h (World.grownBy_alloc W o none) (fun r e => by cases e)

set_option maxRecDepth 100000 in
set_option maxHeartbeats 2000000 in
theorem values1_in (F : Fence) (n : Nat) (h7 : F.fn 31) (hro : F.round = none) (hn : 1 ≤ n) (l Bs n₀ b cap : Nat) (zs : List (Int × Int)) (hlen : zs.length ≤ 1000) (hb : b < n₀) (J Jx : List (Int × Int) → World → Prop) (W : World) (hJ : AbidesFrom W.heap.size J) (hn₀ : n₀ ≤ W.heap.size)
    (hY : ∀ pre x W, J pre W → pre.length < zs.length → YieldAt F (n - 1) Try.prog l #[.agg #[.int .i64 x.1, .int .i64 x.2]] W fun e W' =>
      (e = .returned (.bool true) ∧ J (pre ++ [x]) W' ∧ Below n₀ W W') ∨ (e = .returned (.bool false) ∧ Jx (pre ++ [x]) W'))
    (hBs : W.cell? ⟨Bs, 0, none⟩ = some (.slice (some ⟨b, 0, none⟩) zs.length cap)) (hc : ∀ j, j < zs.length → W.cell? ⟨b, j * 2, none⟩ = some (.int .i64 (gg zs j).1) ∧ W.cell? ⟨b, j * 2 + 1, none⟩ = some (.int .i64 (gg zs j).2)) (h0 : J [] W) :
    CallsIn F n Try.prog 31 #[.func (.yield l) #[] #[], .pointer (some ⟨Bs, 0, none⟩)] W fun e W' => (∃ v, e = .returned v) ∧
      ((∃ ys, ys = zs ∧ J ys W') ∨ (∃ pre, pre <+: zs ∧ Jx pre W')) := by
  refine callsIn_of_wp Try.func31 rfl h7 ?_ hro
  simp only [Try.ntmps31, List.size_toArray, List.length_cons, List.length_nil, Nat.reduceAdd, Nat.reduceSub, Array.replicate_succ, Array.replicate_zero, List.push_toArray, List.append_toArray, List.nil_append, List.cons_append]
  gi_wp2
  gi_loopw [7] (fun i wr => ∃ k : Nat, k ≤ zs.length ∧ i = .int .i64 k ∧ J (zs.take k) wr ∧ Below n₀ W wr ∧ W.heap.size ≤ wr.heap.size)
    (fun i _ => zs.length - (intOf i).toNat)
  case atStart => exact ⟨0, Nat.zero_le _, rfl, h0, Below.refl _ _, Nat.le_refl _⟩
  case round =>
    obtain ⟨k, hk, rfl, hJs, hnx, hsz⟩ := hrel
    by_cases hlt : k < zs.length
    · obtain ⟨hc0, hc1⟩ := hc k hlt
      have hc0' := (hnx.cell (p := ⟨b, k * 2, none⟩) hb).trans hc0
      have hc1' := (hnx.cell (p := ⟨b, k * 2 + 1, none⟩) hb).trans hc1
      have htk := take_gg hlt
      generalize gg zs k = y at *
      obtain ⟨p, q⟩ := y
      simp only at hc0' hc1'
      have hJ2 := snoc_drew hJ hJs (.cells #[.int .i64 p, .int .i64 q] 28)
      obtain ⟨fn, tmps, assign, body, hy, hR⟩ := hY _ (p, q) _ hJ2 (by rw [List.length_take]; omega)
      dsimp only at hy
      clear hc0 hc1
      gi_wp2
      refine hR.mono ?_
      rintro e W3 (⟨rfl, hJ3, hk3⟩ | ⟨rfl, hJx3⟩)
      · gi_wp2
        go_roundw
        case rel => exact ⟨k + 1, by omega, by simp, by rw [htk]; exact hJ3, (hnx.trans ((Below.refl _ _).alloc (Nat.le_trans hn₀ hsz) _)).trans hk3, by have := hk3.size; simp at this; omega⟩
        case measure => simp [intOf]; omega
      · gi_wp2
        refine bodyPost_ret (results_none rfl _ _ _) rfl ?_
        exact ⟨⟨_, rfl⟩, .inr ⟨zs.take k ++ [(p, q)], by rw [← htk]; exact List.take_prefix _ _, hJx3⟩⟩
    · obtain rfl : k = zs.length := by omega
      rw [List.take_length] at hJs
      gi_wp2
      go_end0
      exact ⟨⟨_, rfl⟩, .inl ⟨_, rfl, hJs⟩⟩

set_option maxRecDepth 100000 in
set_option maxHeartbeats 1000000 in
theorem values1_nil_in (F : Fence) (n : Nat) (h7 : F.fn 31) (hro : F.round = none) (l Bs cap : Nat) (A : Option Addr) (J : List (Int × Int) → World → Prop) (W : World) (hBs : W.cell? ⟨Bs, 0, none⟩ = some (.slice A 0 cap)) (h0 : J [] W) :
    CallsIn F n Try.prog 31 #[.func (.yield l) #[] #[], .pointer (some ⟨Bs, 0, none⟩)] W fun e W' => (∃ v, e = .returned v) ∧ J [] W' := by
  refine callsIn_of_wp Try.func31 rfl h7 ?_ hro
  simp only [Try.ntmps31, List.size_toArray, List.length_cons, List.length_nil, Nat.reduceAdd, Nat.reduceSub, Array.replicate_succ, Array.replicate_zero, List.push_toArray, List.append_toArray, List.nil_append, List.cons_append]
  gi_wp2
  gi_loopw [7] (fun i wr => i = .int .i64 0 ∧ J [] wr) (fun _ _ => 0)
  case atStart => exact ⟨rfl, h0⟩
  case round =>
    obtain ⟨rfl, hJs⟩ := hrel
    gi_wp2
    go_end0
    exact ⟨⟨_, rfl⟩, hJs⟩
theorem values_any (v : Value) (A : Option Addr) (n c : Nat) (w : World) :
    Calls Try.prog 22 #[.slice A n c] w fun e w' => e = .returned (.func (.func 31) #[] #[.pointer (some ⟨w.heap.size, 0, none⟩)]) ∧ w' = w.alloc (.cells #[.slice A n c] 46) := by
  go_enter Try.func22, Try.ntmps22
  go_wp2_with fail
  go_ret
  exact ⟨rfl, rfl⟩
theorem values_stops (F : Fence) (n : Nat) (h7 : F.fn 31) (hro : F.round = none) (hn : 1 ≤ n) (Bs n₀ : Nat) (v : Value) (zs : List (Int × Int)) (hlen : zs.length ≤ 1000) (w : World) (hBs : Bs < w.heap.size) (hn₀ : n₀ ≤ w.heap.size)
    (hc : w.cell? ⟨Bs, 0, none⟩ = some v) (ho : w.ownsRow 0 28 2 v zs.length (dcs zs)) (hv : ∀ g, v.ownBlock = some g → g < n₀) :
    SeqStopsK F n Try.prog 31 #[.pointer (some ⟨Bs, 0, none⟩)] (fun x : Int × Int => #[.agg #[.int .i64 x.1, .int .i64 x.2]]) (Below n₀) (fun ys => ys = zs) (fun pre => pre <+: zs) zs.length w := fun l J Jx W hW hJ _ hY h0 => by
  have hc' := (hW.cell (p := ⟨Bs, 0, none⟩) hBs).trans hc
  have ho' := own_below ho hW
  obtain ⟨A, c, rfl⟩ := own_shape ho
  by_cases hz : zs.length = 0
  · obtain rfl := List.eq_nil_of_length_eq_zero hz
    exact (values1_nil_in F n h7 hro l Bs _ A J W hc' h0).mono fun e W' ⟨he, hj⟩ => ⟨he, .inl ⟨_, rfl, hj⟩⟩
  · obtain ⟨g, c', e⟩ := own_first ho (by omega)
    injection e with e _ _
    subst e
    refine (values1_in F n h7 hro hn l Bs n₀ g c zs hlen (hv g rfl) J Jx W hJ (Nat.le_trans hn₀ hW.size) hY hc' (fun j hj => ?_) h0).mono ?_
    · obtain ⟨g', o', e', x0, x1⟩ := in_due (Sees.of_own ho') (gg_get hj)
      injection e' with e'
      injection e' with e1 e2 _
      subst e1 e2
      rw [Nat.zero_add] at x0 x1
      exact ⟨x0, x1⟩
    · rintro e W' ⟨he, h⟩
      exact ⟨he, h⟩

theorem cell_new2 (W : World) (p q : Int) : ∀ j u, [Value.int .i64 p, .int .i64 q][j]? = some u → (W.alloc (.cells #[.int .i64 p, .int .i64 q] 28)).cell? ((⟨W.heap.size, 0, none⟩ : Addr).add j) = some u := by
  intro j u hj
  have hk := Blk.new W 28 #[.int .i64 p, .int .i64 q]
  match j, hj with
  | 0, hj => injection hj with hj; subst hj; exact hk.cell 0
  | 1, hj => injection hj with hj; subst hj; exact hk.cell 1
  | j + 2, hj => simp at hj
set_option maxRecDepth 100000 in
set_option maxHeartbeats 2000000 in
theorem appendSeq_in (F : Fence) (n : Nat) (h3 : F.fn 35) (h7 : F.fn 31) (hro : F.round = none) (hn : 3 ≤ n) (Bs : Nat) (v : Value) (zs : List (Int × Int)) (hlen : zs.length ≤ 1000) (w : World) (hBs : Bs < w.heap.size)
    (hc : w.cell? ⟨Bs, 0, none⟩ = some v) (ho : w.ownsRow 0 28 2 v zs.length (dcs zs)) :
    CallsIn F n Try.prog 35 #[.slice none 0 0, .func (.func 31) #[] #[.pointer (some ⟨Bs, 0, none⟩)]] w fun e W' => ∃ u, e = .returned u ∧ W'.ownsRow w.heap.size 28 2 u zs.length (dcs zs) ∧ Below w.heap.size w W' := by
  have h1 : 1 ≤ n := by omega
  obtain ⟨i0, hi, hz0, hz1, hz2⟩ := info_parts info_due
  refine callsIn_of_wp_marks Try.func35 rfl h3 ?_ hro
  simp only [Try.ntmps35, List.size_toArray, List.length_cons, List.length_nil, Nat.reduceAdd, Nat.reduceSub, Array.replicate_succ, Array.replicate_zero, List.push_toArray, List.append_toArray, List.nil_append, List.cons_append]
  gi_wp2
  have bS := Boxed.new w 22 (.slice none 0 0)
  have hB0 : Below w.heap.size w (w.alloc (.cells #[.slice none 0 0] 22)) := (Below.refl _ w).alloc (Nat.le_refl _) _
  have hsz : (w.alloc (.cells #[.slice none 0 0] 22)).heap.size = w.heap.size + 1 := by simp
  have hlt := ho.lt
  obtain ⟨W0, hW0⟩ : ∃ W0, w.alloc (.cells #[.slice none 0 0] 22) = W0 := ⟨_, rfl⟩
  rw [hW0] at bS hB0 hsz ⊢
  clear hW0
  refine wpIn_rangeFunc_ownH hro h1 (gf := 31) (lb := #[.pointer (some ⟨Bs, 0, none⟩)]) rfl h7 (enters_of Try.func31 (by kernel_rfl) rfl)
    (values_stops F (n - 1) h7 hro (by omega) Bs w.heap.size v zs hlen W0 (by omega) (by omega) ((hB0.cell (p := ⟨Bs, 0, none⟩) hBs).trans hc) (own_below ho hB0) (fun g hg => (hlt g hg).2)) belowK_t (belowK_b (by omega)) (Below.refl _ _) (fun _ => rfl)
    (fun pre W => (∃ u, Boxed W w.heap.size 22 u ∧ W.ownsRow w.heap.size 28 2 u pre.length (dcs pre) ∧ True) ∧ Below w.heap.size w W)
    (fun _ _ _ => False)
    (OwnFrom.and (Own.from (holdsRow_own w.heap.size w.heap.size 22 28 2 (fun pre => pre.length) (fun pre => dcs pre) (fun _ _ => True)) _) (ownFrom_below (Nat.le_refl _) (by omega)))
    (fun _ _ _ _ _ hs _ _ => hs)
    ⟨⟨_, bS, World.ownsRow_nil _ _ _ _, trivial⟩, hB0⟩
    (fun x a' W => ∃ Bx, Blk W Bx 28 #[.int .i64 x.1, .int .i64 x.2] ∧ a' = { tmps := #[.slice none 0 0, .func (.func 31) #[] #[.pointer (some ⟨Bs, 0, none⟩)], .pointer (some ⟨w.heap.size, 0, none⟩), undef, .slice none 0 0, .pointer (some ⟨Bx, 0, none⟩), .func (.func 31) #[] #[.pointer (some ⟨Bs, 0, none⟩)], .agg #[.int .i64 x.1, .int .i64 x.2], undef, undef, undef, undef, undef], defers := [] })
    (fun x a' _ X Y row hs hg hr => by
      obtain ⟨Bx, h1, h2⟩ := hs
      refine ⟨Bx, h1.keep (hg.block Bx h1.lt (fun e' => ?_)), h2⟩
      obtain ⟨o, ho, hc⟩ := (hr Bx e'.symm).2
      rw [show X.heap[Bx]? = _ from h1] at ho; cases ho; cases hc)
    ?assign ?body ?done ?stop
  case assign =>
    rintro l pre ⟨p, q⟩ W K ⟨⟨u, hu, hrow, _⟩, hB⟩ hK
    gi_wp2
    exact hK _ _ ((KeepsOthers.alloc _ _).from _) ((Below.refl _ W).alloc hB.size _) ⟨⟨u, hu.alloc _, hrow.alloc _, trivial⟩, hB.alloc hB.size _⟩ ⟨W.heap.size, Blk.new W _ _, rfl⟩
  case body =>
    rintro l pre ⟨p, q⟩ a' W hl ⟨r, hr⟩ ⟨⟨u, hu, hrow, _⟩, hB⟩ ⟨Bx, bX, rfl⟩ hpl
    have cu := hu.cell
    have x0 : W.cell? ⟨Bx, 0, none⟩ = some (.int .i64 p) := bX.cell 0
    have x1 : W.cell? ⟨Bx, 1, none⟩ = some (.int .i64 q) := bX.cell 1
    have hcn := cell_new2 W p q
    gi_wp2_with (gi_at_builtin; refine wpListIn_append_own _ rfl _ _ 22 rfl w.heap.size 28 i0 (.agg #[.int .i64 0, .int .i64 0]) 2 16 Try.underlying22 hi hz0 hz1 hz2 rfl (by decide) u pre.length (dcs pre) rfl (hrow.alloc _) ⟨W.heap.size, 0, none⟩ 1 1 [.int .i64 p, .int .i64 q] rfl rfl hcn (by simp [Value.oneCell']) (by unfold maxLen; omega) (by omega) (by have := hB.size; simp; omega) ?_; intro v' w1 hown' hgrow _; obtain ⟨g', cap', rfl⟩ := ownsRow_succ hown'; obtain ⟨hv1, hv2, hr2, hk2, hb2⟩ := hu.appended (by decide) hrow hB.size (Nat.le_refl _) hown' hgrow; have hc1 := hv1.cell; have hf1 := hv1.frozen)
    have e1 : (pre ++ [(p, q)]).length = pre.length + 1 := by simp
    have e2 : dcs (pre ++ [(p, q)]) = dcs pre ++ [Value.int .i64 p, .int .i64 q] := by rw [dcs_append]; rfl
    rw [← e2, ← e1] at hr2
    rw [← e1] at hk2 hv2 hb2 ⊢
    exact ⟨hk2.from _, hb2, ⟨_, hv2, hr2⟩, hB.trans hb2⟩
  case done =>
    rintro D ys W hD rfl ⟨⟨u, hu, hrow, _⟩, hB⟩ hK
    have hc := hu.cell
    gi_wp2
    refine ⟨by simp, .inl ⟨_, _, rfl, run_takeDeferred hK, ?_⟩⟩
    exact ⟨_, results_tmp rfl _ _ _, u, rfl, ownsRow_putObj hrow _ hK rfl, hB.trans (belowK_b (w := w) (Nat.le_refl _) W D _ _ (by omega) hK rfl rfl)⟩
  case stop =>
    rintro D c pre W _ _ h _
    exact h.elim
end Go.Proofs.Ytaapdkeipknilaa
