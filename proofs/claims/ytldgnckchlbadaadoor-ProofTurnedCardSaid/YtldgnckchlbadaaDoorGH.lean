/-
  A row that '[]byte(s)' made: the run-time's mark stands behind its last cell; append onto it. No program in sight.
  The document's padding, walked.
  Words for the document's digest.
-/
import Derived.Test.YtldgnckchlbadaaDoorGA
import Derived.Laws.IdiomStrings
import Derived.Test.YtldgnckchlbadaaDoorSha4
import Derived.Laws.MakeOwn
namespace Go.Proofs.YtldgnckchlbadaaDoor
set_option maxRecDepth 4000
open Go.RowKit

/-- The value v owns the cells xs (one cell each); whatever mark its block bears stands behind all its cells. -/
def OwnT (w : World) (base : Nat) (e : TypeId) (v : Value) (n : Nat) (xs : List Value) : Prop :=
  xs.length = n ∧ ∃ g cap cur fz, v = .slice (some ⟨g, 0, none⟩) n cap ∧ base ≤ g ∧ w.heap[g]? = some (.cells cur e fz) ∧ (cur.size ≤ fz.1 ∨ fz.2 = 0) ∧ n ≤ cap ∧ cap ≤ maxLen ∧ cur.size = cap ∧ cur.toList.take n = xs
section
variable {w w' : World} {base n : Nat} {e : TypeId} {v : Value} {xs : List Value}
theorem OwnT.shape (h : OwnT w base e v n xs) : ∃ g c, v = .slice (some ⟨g, 0, none⟩) n c := by
  obtain ⟨_, g, cap, cur, fz, rfl, _⟩ := h
  exact ⟨_, _, rfl⟩
theorem OwnT.lt (h : OwnT w base e v n xs) : ∀ k, v.ownBlock = some k → base ≤ k ∧ k < w.heap.size := by
  intro k hk
  obtain ⟨_, g, cap, cur, fz, rfl, hb, hg, _⟩ := h
  simp [Value.ownBlock] at hk
  subst hk
  exact ⟨hb, (Array.getElem?_eq_some_iff.1 hg).1⟩
theorem OwnT.keep (h : OwnT w base e v n xs) (hb : Below w.heap.size w w') : OwnT w' base e v n xs := by
  obtain ⟨h1, g, cap, cur, fz, rfl, h2, hg, h3⟩ := h
  exact ⟨h1, g, cap, cur, fz, rfl, h2, (hb.block g (Array.getElem?_eq_some_iff.1 hg).1).trans hg, h3⟩
theorem OwnT.cells {g c : Nat} (h : OwnT w base e (.slice (some ⟨g, 0, none⟩) n c) n xs) : ∀ j u, xs[j]? = some u → w.cell? ⟨g, j, none⟩ = some u := by
  intro j u hu
  obtain ⟨_, g', cap, cur, fz, hv, _, hg, _, _, _, _, ht⟩ := h
  injection hv with hv1 _ _
  injection hv1 with hv1
  injection hv1 with hv1
  subst hv1
  rw [cell_of_row w g j cur e fz hg]
  rw [← ht, List.getElem?_take] at hu
  split at hu
  · simpa using hu
  · cases hu
theorem OwnT.sees (h : OwnT w base e v n xs) : ∃ g c, v = .slice (some ⟨g, 0, none⟩) n c ∧ Sees w 1 (some ⟨g, 0, none⟩) n xs := by
  obtain ⟨g, c, rfl⟩ := h.shape
  exact ⟨g, c, rfl, by rw [h.1, Nat.mul_one], fun _ => ⟨g, 0, rfl, fun j u hu => by rw [Nat.zero_add]; exact h.cells j u hu⟩⟩

theorem run_store_tail (P : Program) (g o : Nat) (t : TypeId) (fz : Nat × Nat) : ∀ (vs : List Value) (i : Nat) (cur : Array Value) (w : World), w.heap[g]? = some (.cells cur t fz) → (cur.size ≤ fz.1 ∨ fz.2 = 0) → o + i + vs.length ≤ cur.size → (∀ v ∈ vs, v.oneCell' = true) →
    (storeCells ⟨g, o, none⟩ vs i).run P w = .ok () (w.setRow g (cur.toList.take (o + i) ++ vs ++ cur.toList.drop (o + i + vs.length)).toArray)
  | [], i, cur, w, hg, _, _, _ => by
    simp only [storeCells, List.append_nil, List.length_nil, Nat.add_zero, List.take_append_drop, Array.toArray_toList]
    rw [setRow_self w g cur t fz hg]
    rfl
  | v :: rest, i, cur, w, hg, hfz, hl, h1 => by
    have hi : o + i < cur.size := by simp at hl; omega
    have hadd : (⟨g, o, none⟩ : Addr).add i = ⟨g, o + i, none⟩ := by unfold Addr.add; split <;> simp_all
    have hcell : w.cell? ⟨g, o + i, none⟩ = some cur[o + i] := by simp [World.cell?, hg, hi]
    have hfro : w.frozen? ⟨g, o + i, none⟩ = false := by
      obtain ⟨lo, hi'⟩ := fz
      simp only [World.frozen?, hg, Bool.and_eq_false_iff, decide_eq_false_iff_not]
      simp only at hfz
      rcases hfz with h | h
      · left; omega
      · right; omega
    have hst : (store ((⟨g, o, none⟩ : Addr).add i) v).run P w = .ok () (w.setRow g (cur.setIfInBounds (o + i) v)) := by
      rw [hadd, run_store P w _ v _ (h1 v (by simp)), hcell]
      simp [hfro, setCell_eq_setRow w g (o + i) cur t fz v hg]
    have ih := run_store_tail P g o t fz rest (i + 1) (cur.setIfInBounds (o + i) v) (w.setRow g (cur.setIfInBounds (o + i) v)) (setRow_heap w g cur _ t _ hg) (by simpa using hfz) (by simp at hl ⊢; omega) (fun x hx => h1 x (by simp [hx]))
    simp only [storeCells, Sem.run_bind, hst, Result.andThen_ok, ih, setRow_setRow]
    congr 3
    have e := list_seg_step cur.toList (o + i) v rest (by simp at hl ⊢; omega)
    simpa [Array.toList_setIfInBounds, Nat.add_assoc] using e
end

section
variable {P : Program} {w : World}
theorem run_appT (base : Nat) (t ty e : TypeId) (z : Value) (bytes : Nat) (ht : P.underlying t = some (.slice e))
    (hi : (P.info? e).map (fun i => (i.zero, i.size, i.bytes)) = some (some z, 1, bytes)) (hzs : z.cells.size = 1)
    (v : Value) (n : Nat) (xs : List Value) (hown : OwnT w base e v n xs)
    (a : Addr) (m c : Nat) (news : List Value) (hl : news.length = m) (hnews : ∀ j u, news[j]? = some u → w.cell? (a.add j) = some u) (h1 : ∀ u ∈ news, u.oneCell' = true)
    (h63 : n + m ≤ maxLen) (hbytes : (n + m) * bytes ≤ 140737488355328) (hbase : base ≤ w.heap.size) :
    ∃ v' w', (Builtin.append_ #[t, t] ty #[v, .slice (some a) m c]).run P w = .ok v' w' ∧ OwnT w' base e v' (n + m) (xs ++ news) ∧ w.grownBy w' v.ownBlock := by
  obtain ⟨i, hi, hz, hs, hb⟩ := info_parts hi
  have hle : (xs ++ news).length = n + m := by rw [List.length_append, hown.1, hl]
  have hcl := fun (g c : Nat) (hv : v = .slice (some ⟨g, 0, none⟩) n c) => (hv ▸ hown : OwnT w base e (.slice (some ⟨g, 0, none⟩) n c) n xs).cells
  obtain ⟨hx, g, cap, cur, fz, rfl, hbg, hg, hfz, hnc, hcm, hcs, htake⟩ := hown
  have hsmall : n + m ≤ 9223372036854775807 := by simp only [maxLen] at h63; omega
  by_cases hroom : n + m ≤ cap
  · have hf := run_firstCells_some (P := P) w i.size m a m c news (by rw [hl, hs, Nat.mul_one]) hnews
    have hst := run_store_tail P g n e fz news 0 cur w hg hfz (by omega) h1
    simp only [Nat.add_zero] at hst
    refine ⟨.slice (some ⟨g, 0, none⟩) (n + m) cap, w.setRow g (cur.toList.take n ++ news ++ cur.toList.drop (n + news.length)).toArray, ?_, ⟨hle, g, cap, _, fz, rfl, hbg, setRow_heap w g cur _ e _ hg, ?_, hroom, hcm, ?_, ?_⟩, ⟨rfl, rfl, rfl, by simp, fun k _ hk => setRow_other w g k _ (fun e => hk (by simp [Value.ownBlock, e]))⟩⟩
    · rw [hs] at hf
      simp [Builtin.append_, run_underlying ht, sizeOf, typeInfo, hi, hs, Builtin.lenOf, hroom, hf, Addr.add_lit, hst]
    · have : (cur.toList.take n ++ news ++ cur.toList.drop (n + news.length)).toArray.size = cur.size := by
        simp only [List.size_toArray, List.length_append, List.length_take, List.length_drop, Array.length_toList]; omega
      rw [this]; exact hfz
    · simp only [List.size_toArray, List.length_append, List.length_take, List.length_drop, Array.length_toList]; omega
    · rw [htake, ← hle]; exact List.take_left
  · have holds : ∀ j u, xs[j]? = some u → w.cell? ((⟨g, 0, none⟩ : Addr).add j) = some u := fun j u hu => by
      have hadd : (⟨g, 0, none⟩ : Addr).add j = ⟨g, j, none⟩ := by unfold Addr.add; split <;> simp_all
      rw [hadd]; exact hcl g cap rfl j u hu
    have hr := run_append_grow (P := P) w t ty e i z ht hi hz ⟨g, 0, none⟩ n cap xs (by rw [hs, hx, Nat.mul_one]) holds a m c news (by rw [hs, hl, Nat.mul_one]) hnews (by omega) (by omega) (growslice_fits (by omega) (by rw [hb]; exact hbytes))
    have hge := grownCap_ge w (n + m) cap e
    have hcm2 : grownCap w (n + m) cap e ≤ maxLen := grownCap_le_maxLen w (n + m) cap e h63
    refine ⟨_, _, hr, ⟨hle, w.heap.size, _, _, (0, 0), rfl, hbase, heap_alloc_new w.drew _, .inr rfl, hge, hcm2, ?_, ?_⟩, ⟨rfl, rfl, rfl, by simp, fun k hk _ => Below.heap_alloc w.drew _ k hk⟩⟩
    · simp only [Array.size_append, List.size_toArray, size_zeroCells, hzs, hx, hl]; omega
    · simp only [Array.toList_append]
      rw [← hle]
      exact List.take_left

theorem wpList_appT {ops : Array Oper} {rest : List Oper} {o : Oper} {a : Act} {Q : Exit → Act → World → Prop} (hgd : o.guard = none) (s x : Operand) (t : TypeId)
    (ho : o.op = .call { callee := .builtin .append, args := #[s, x], argTypes := #[t, t] })
    (base : Nat) (e : TypeId) (z : Value) (bytes : Nat) (ht : P.underlying t = some (.slice e))
    (hi : (P.info? e).map (fun i => (i.zero, i.size, i.bytes)) = some (some z, 1, bytes)) (hzs : z.cells.size = 1)
    (v : Value) (n : Nat) (xs : List Value) (hs : a.eval s = v) (hown : OwnT w base e v n xs)
    (ad : Addr) (m c : Nat) (news : List Value) (hx : a.eval x = .slice (some ad) m c) (hr : Sees w 1 (some ad) m news) (hm : 0 < m) (h1 : ∀ u ∈ news, u.oneCell' = true)
    (h63 : n + m ≤ maxLen) (hbytes : (n + m) * bytes ≤ 140737488355328) (hbase : base ≤ w.heap.size)
    (h : ∀ v' w', OwnT w' base e v' (n + m) (xs ++ news) → w.grownBy w' v.ownBlock → wpList P ops Q rest (a.put o.dst v') w') : wpList P ops Q (o :: rest) a w := by
  have hnews : ∀ j u, news[j]? = some u → w.cell? (ad.add j) = some u := fun j u hu => by
    obtain ⟨g, off, e, hc⟩ := hr.2 hm
    injection e with e
    subst e
    have := hc j u hu
    unfold Addr.add
    by_cases hj : j = 0
    · subst hj; simpa using this
    · simpa [hj] using this
  obtain ⟨v', w', hrun, h2, h3⟩ := run_appT (P := P) base t o.type e z bytes ht hi hzs v n xs hown ad m c news (by simpa using hr.1) hnews h1 h63 hbytes hbase
  refine wpList_plain hgd fun K hK => ?_
  unfold Oper.wp execOp
  simp only [ho, resolve, invoke, builtin, Sem.run_bind, Sem.run_pure, Result.andThen_ok, List.map_toArray, List.map_cons, List.map_nil, hs, hx, hrun]
  exact hK _ _ (h v' w' h2 h3)

/-- '[]byte(s)'. -/
theorem run_bytes_of (src dst e : TypeId) (l : List UInt8) (hs : P.underlying src = some .string) (hd : P.underlying dst = some (.slice e)) (he : P.underlying e = some (.int .u8)) (hl : l.length ≤ 1000000000) :
    ∃ v w', (convert src dst (.string (str l))).run P w = .ok v w' ∧ OwnT w' w.heap.size e v l.length (u8s l) ∧ Below w.heap.size w w' := by
  refine ⟨_, _, run_bytes_of_string w src dst e (str l) hs hd he, ?_, (Below.refl _ w).drew.alloc (Nat.le_refl _) _⟩
  have hsz : (str l).size = l.length := size_str l
  have hC : (bytesRow (str l) (grownCap w (str l).size 0 e)).size = grownCap w (str l).size 0 e := by
    have := grownCap_ge w (str l).size 0 e
    have h2 : (str l).data.size = l.length := by simp [str]
    simp only [bytesRow, Array.size_append, Array.size_map, Array.size_replicate, h2]
    omega
  refine ⟨by simp, w.heap.size, _, _, _, by rw [hsz], Nat.le_refl _, heap_alloc_new w.drew _, .inl (Nat.le_refl _), ?_, grownCap_le_maxLen w _ 0 e (by rw [hsz]; unfold maxLen; omega), hC, ?_⟩
  · rw [hsz]; exact grownCap_ge w _ 0 e
  · simp [bytesRow, str, u8s]

theorem wpList_bytes_of {ops : Array Oper} {rest : List Oper} {o : Oper} {a : Act} {Q : Exit → Act → World → Prop} (hgd : o.guard = none) (x : Operand) (src dst e : TypeId)
    (ho : o.op = .convert src dst x) (l : List UInt8) (hx : a.eval x = .string (str l)) (hs : P.underlying src = some .string) (hd : P.underlying dst = some (.slice e)) (he : P.underlying e = some (.int .u8)) (hl : l.length ≤ 1000000000)
    (h : ∀ v w', OwnT w' w.heap.size e v l.length (u8s l) → Below w.heap.size w w' → wpList P ops Q rest (a.put o.dst v) w') : wpList P ops Q (o :: rest) a w := by
  obtain ⟨v, w', hrun, h2, h3⟩ := run_bytes_of (P := P) (w := w) src dst e l hs hd he hl
  refine wpList_plain hgd fun K hK => ?_
  unfold Oper.wp execOp
  simp only [ho, hx, hrun, Sem.run_bind, Sem.run_pure, Result.andThen_ok]
  exact hK _ _ (h v w' h2 h3)
end
end Go.Proofs.YtldgnckchlbadaaDoor

namespace Go.Proofs.YtldgnckchlbadaaDoor
set_option maxRecDepth 4000
open Go.RowKit

theorem shl_digit (x j : Nat) (h : j ≤ 7) : (x * 256 ^ j % 18446744073709551616) / 72057594037927936 = x / 256 ^ (7 - j) % 256 := by
  have e1 : (18446744073709551616 : Nat) = 256 ^ j * 256 ^ (8 - j) := by rw [← Nat.pow_add, show j + (8 - j) = 8 by omega]
  have e2 : (72057594037927936 : Nat) = 256 ^ j * 256 ^ (7 - j) := by rw [← Nat.pow_add, show j + (7 - j) = 7 by omega]
  have e3 : (256 : Nat) ^ (8 - j) = 256 ^ (7 - j) * 256 := by rw [← Nat.pow_succ, show 8 - j = (7 - j) + 1 by omega]
  rw [e1, e2, Nat.mul_comm x, Nat.mul_mod_mul_left, Nat.mul_div_mul_left _ _ (Nat.pow_pos (by decide)), e3, Nat.mod_mul_right_div_self]
theorem shl_next (x j : Nat) : (x * 256 ^ j % 18446744073709551616) * 256 % 18446744073709551616 = x * 256 ^ (j + 1) % 18446744073709551616 := by
  rw [Nat.pow_succ, ← Nat.mul_assoc]
  omega

set_option maxRecDepth 4000 in
set_option maxHeartbeats 1000000 in
theorem woctets_any (l : List UInt8) (hl : l.length ≤ 1000000) (w : World) :
    Calls Tryd.prog 77 #[.string (str l)] w fun e w' => ∃ v', e = .returned v' ∧ OwnT w' w.heap.size 5 v' (padd l).length (u8s (padd l)) ∧ Below w.heap.size w w' := by
  obtain ⟨n, hn⟩ : ∃ n, n = l.length := ⟨_, rfl⟩
  rw [← hn] at hl
  have hz : padz l.length = (119 - n % 64) % 64 := by rw [hn]; rfl
  have hpd : padd l = (l ++ (128 :: List.replicate (padz l.length) 0)) ++ be (8 * n) 8 := by rw [padd, ← hn]; simp
  obtain ⟨z, hzz⟩ : ∃ z, z = padz l.length := ⟨_, rfl⟩
  rw [← hzz] at hz hpd
  obtain ⟨M, hM⟩ : ∃ M : Nat → List UInt8, M = fun j => l ++ (128 :: List.replicate j 0) := ⟨_, rfl⟩
  have hMl : ∀ j, (M j).length = n + 1 + j := fun j => by rw [hM, hn]; simp; omega
  have hM0 : u8s (M 0) = u8s l ++ [.int .u8 128] := by rw [hM]; show u8s (l ++ [128]) = _; rw [u8s_append]; rfl
  have hMs : ∀ j, u8s (M (j + 1)) = u8s (M j) ++ [.int .u8 0] := fun j => by
    rw [hM]
    show u8s (l ++ (128 :: List.replicate (j + 1) 0)) = u8s (l ++ (128 :: List.replicate j 0)) ++ u8s [0]
    rw [← u8s_append, List.replicate_succ', ← List.cons_append, ← List.append_assoc]
  have hMz : padd l = M z ++ be (8 * n) 8 := by rw [hpd, hM]
  have hsl : (str l).size = n := by rw [size_str, hn]
  have HM0 := Lib.hid hM0; have HMS := Lib.hid hMs; have HML := Lib.hid hMl; have HMZ := Lib.hid hMz; have HN := Lib.hid hn
  clear hM0 hMs hMl hMz hM hpd hzz
  obtain ⟨S, hS⟩ : ∃ S, S = str l := ⟨_, rfl⟩
  rw [← hS] at hsl ⊢
  have HS := Lib.hid hS; clear hS hn
  go_enter Tryd.func77, Tryd.ntmps77
  go_wp2_with (first
    | (refine wpList_bytes_of rfl (.tmp 6) 9 35 5 rfl l (by rw [← HS.out]; rfl) Tryd.underlying9 Tryd.underlying35 Tryd.underlying5 (by rw [← HN.out]; omega) ?_; intro v0 w0 hown0 hb0; rw [← HN.out] at hown0; obtain ⟨g0, c0, rfl⟩ := hown0.shape; have HOWN0 := Lib.hid hown0; have HB0 := Lib.hid hb0; have hbz0 := hb0.size; clear hown0 hb0)
    | (at_builtin; refine wpList_appT rfl (.tmp 7) (.tmp 8) _ rfl w.heap.size 5 _ 1 Tryd.underlying35 info_byte rfl _ n _ rfl (HOWN0.out.keep ((Below.refl _ _).alloc (Nat.le_refl _) _)) ⟨w0.heap.size, 0, none⟩ 1 _ [.int .u8 128] rfl (sees_new w0 _ [.int .u8 128] 1 1 rfl) (by omega) (by simp [Value.oneCell']) (by unfold maxLen; omega) (by omega) (by simp; omega) ?_; intro v1 w1 hown1 hgr1; rw [← HM0.out] at hown1; have hb1 := (HB0.out.alloc hbz0 _).grown hgr1 (by simp; omega) (fun k hk => (HOWN0.out.lt k hk).1); have HOWN1 := Lib.hid hown1; have HB1 := Lib.hid hb1; clear hown1 hgr1 hb1))
  go_loopw [3] (fun v wr => ∃ (j : Nat) (g : Nat) (c : Nat), j ≤ z ∧ v = .slice (some ⟨g, 0, none⟩) (n + 1 + j) c ∧ OwnT wr w.heap.size 5 v (n + 1 + j) (u8s (M j)) ∧ Below w.heap.size w wr) (fun v _ => z + n + 1 - lenV v)
  case atStart =>
    obtain ⟨A1, c1, rfl⟩ := HOWN1.out.shape
    exact ⟨0, A1, c1, by omega, rfl, HOWN1.out, HB1.out⟩
  case round =>
    clear HOWN1 HB1 HM0
    obtain ⟨j, A1, c1, hj, rfl, hown, hbr⟩ := hrel
    have hbz := hbr.size
    by_cases hlt : j < z
    · have htm : ((n + 1 + j : Nat) : Int).tmod 64 = (((n + 1 + j) % 64 : Nat) : Int) := by rw [Int.tmod_eq_emod_of_nonneg (by omega)]; omega
      obtain ⟨q, hq⟩ : ∃ q, q = (n + 1 + j) % 64 := ⟨_, rfl⟩
      rw [← hq] at htm
      have hq56 : ¬ q = 56 := by omega
      have hqq : ((q : Int) == 56) = false := by rw [beq_eq_false_iff_ne]; omega
      obtain ⟨m, hm⟩ : ∃ m, m = n + 1 + j := ⟨_, rfl⟩
      have hM1 := HMS.out j
      have hmr : n + 1 + (j + 1) = m + 1 := by omega
      rw [← hm] at hown htm ⊢
      have hml : m ≤ 1000100 := by omega
      have HOWN := Lib.hid hown; have HB := Lib.hid hbr; have HM1 := Lib.hid hM1; have HMR := Lib.hid hmr
      clear hown hbr hM1 hq hm hmr
      go_wp2_with (at_builtin; refine wpList_appT rfl (.tmp 14) (.tmp 15) _ rfl w.heap.size 5 _ 1 Tryd.underlying35 info_byte rfl _ m _ rfl (HOWN.out.keep ((Below.refl _ _).alloc (Nat.le_refl _) _)) ⟨wr.heap.size, 0, none⟩ 1 _ [.int .u8 0] rfl (sees_new wr _ [.int .u8 0] 1 1 rfl) (by omega) (by simp [Value.oneCell']) (by unfold maxLen; omega) (by omega) (by simp; omega) ?_; intro v1 w1 hown1 hgr1; rw [← HM1.out] at hown1; have hb1 := (HB.out.alloc (by omega) _).grown hgr1 (by simp; omega) (fun k hk => (HOWN.out.lt k hk).1); obtain ⟨A2, c2, rfl⟩ := hown1.shape; have HOWN1 := Lib.hid hown1; have HB1 := Lib.hid hb1; clear hown1 hgr1 hb1)
      go_roundw
      case rel => exact ⟨j + 1, A2, c2, by omega, by rw [HMR.out], by rw [HMR.out]; exact HOWN1.out, HB1.out⟩
      case measure => simp [lenV]; have := HMR.out; omega
    · obtain rfl : j = z := by omega
      have htm : ((n + 1 + j : Nat) : Int).tmod 64 = 56 := by rw [Int.tmod_eq_emod_of_nonneg (by omega)]; omega
      obtain ⟨m, hm⟩ : ∃ m, m = n + 1 + j := ⟨_, rfl⟩
      have hMz := HMZ.out
      have hMl := HML.out j
      obtain ⟨L, hL⟩ : ∃ L, L = M j := ⟨_, rfl⟩
      rw [← hL] at hown hMz hMl
      rw [← hm] at hown htm hMl ⊢
      have hml : m ≤ 1000100 := by omega
      have hnm : n ≤ m := by omega
      have HOWN := Lib.hid hown; have HB := Lib.hid hbr; have HMZ := Lib.hid hMz; have HMl := Lib.hid hMl
      clear hown hbr hm hMz hMl hL HMS HML hz
      have hx0 : IntKind.u64.wrap (n : Int) = (n : Int) := by rw [IntKind.wrap_u64]; omega
      go_wp2_with fail
      go_loopw [3, 4, 5] (fun v y i wr => ∃ (k : Nat) (g : Nat) (c : Nat), k ≤ 8 ∧ i = .int .i64 k ∧ y = .int .u64 ((8 * n) * 256 ^ k % 18446744073709551616 : Nat) ∧ v = .slice (some ⟨g, 0, none⟩) (m + k) c ∧ OwnT wr w.heap.size 5 v (m + k) (u8s (L ++ (be (8 * n) 8).take k)) ∧ Below w.heap.size w wr) (fun _ _ i _ => 8 - (intOf i).toNat)
      case atStart => exact ⟨0, A1, c1, by omega, by simp, by go_num, by simp, by simpa using HOWN.out, HB.out⟩
      case round =>
        clear HOWN HB
        obtain ⟨k, A3, c3, hk, rfl, rfl, rfl, hown, hbr⟩ := hrel
        have hbz := hbr.size
        by_cases hlt : k < 8
        · have hki : (k : Int) < 8 := by omega
          obtain ⟨y, hy⟩ : ∃ y, y = (8 * n) * 256 ^ k % 18446744073709551616 := ⟨_, rfl⟩
          have hyl : y < 18446744073709551616 := by rw [hy]; exact Nat.mod_lt _ (by decide)
          have hdg := shl_digit (8 * n) k (by omega)
          have hnx := shl_next (8 * n) k
          rw [← hy] at hdg hnx ⊢
          obtain ⟨b, hbb⟩ : ∃ b, b = y / 72057594037927936 := ⟨_, rfl⟩
          have hb256 : b < 256 := by omega
          have hyb : (y : Int) / 72057594037927936 = (b : Int) := by omega
          have hbw : IntKind.u8.wrap (b : Int) = (b : Int) := by rw [IntKind.wrap_u8']; omega
          have hbm : (b : Int) % 256 = (b : Int) := by omega
          obtain ⟨y2, hy2⟩ : ∃ y2, y2 = y * 256 % 18446744073709551616 := ⟨_, rfl⟩
          have hyy : (y : Int) * 256 % 18446744073709551616 = (y2 : Int) := by omega
          rw [← hy2] at hnx
          have hLn : u8s (L ++ (be (8 * n) 8).take (k + 1)) = u8s (L ++ (be (8 * n) 8).take k) ++ [.int .u8 (b : Nat)] := by
            rw [be_get (8 * n) 8 k hlt, ← List.append_assoc, u8s_append (L ++ _), ← byte_cell b hb256, hbb, hdg, show 8 - 1 - k = 7 - k by omega]
          obtain ⟨x, hx⟩ : ∃ x, x = m + k := ⟨_, rfl⟩
          have hxx : m + (k + 1) = x + 1 := by omega
          rw [← hx] at hown ⊢
          have hxl : x ≤ 1000200 := by omega
          have hxw : ¬ 9223372036854775807 < x := by omega
          have HOWN := Lib.hid hown; have HB := Lib.hid hbr; have HLN := Lib.hid hLn; have HX := Lib.hid hxx; have HNX := Lib.hid hnx
          clear hown hbr hLn hxx hx hbb hy hdg hnx hy2
          go_wp2_with (at_builtin; refine wpList_appT rfl (.tmp 25) (.tmp 29) _ rfl w.heap.size 5 _ 1 Tryd.underlying35 info_byte rfl _ x _ rfl (HOWN.out.keep ((Below.refl _ _).alloc (Nat.le_refl _) _)) ⟨wr.heap.size, 0, none⟩ 1 _ [.int .u8 (b : Nat)] rfl (sees_new wr _ [.int .u8 (b : Nat)] 1 1 rfl) (by omega) (by simp [Value.oneCell']) (by unfold maxLen; omega) (by omega) (by simp; omega) ?_; intro v1 w1 hown1 hgr1; rw [← HLN.out] at hown1; have hb1 := (HB.out.alloc (by omega) _).grown hgr1 (by simp; omega) (fun k hk => (HOWN.out.lt k hk).1); obtain ⟨A4, c4, rfl⟩ := hown1.shape; have HOWN1 := Lib.hid hown1; have HB1 := Lib.hid hb1; clear hown1 hgr1 hb1)
          go_roundw
          case rel => exact ⟨k + 1, A4, c4, by omega, by go_num, by rw [← HNX.out, IntKind.wrap_u64, hyy], by rw [HX.out], by rw [HX.out]; exact HOWN1.out, HB1.out⟩
          case measure => simp [intOf]; omega
        · obtain rfl : k = 8 := by omega
          rw [List.take_of_length_le (by rw [length_be]; exact Nat.le_refl _), ← HMZ.out] at hown
          have hlen : m + 8 = (padd l).length := by rw [HMZ.out, List.length_append, HMl.out, length_be]
          have HLEN := Lib.hid hlen; have HOWN := Lib.hid hown; clear hlen hown
          rw [show ((8 : Nat) : Int) = 8 from rfl]
          go_wp2_with fail
          go_ret
          exact ⟨_, rfl, by rw [← HLEN.out]; exact HOWN.out, hbr⟩
end Go.Proofs.YtldgnckchlbadaaDoor

namespace Go.Proofs.YtldgnckchlbadaaDoor
set_option maxRecDepth 4000
open Go.RowKit

theorem info_word : (Tryd.prog.info? 123).map (fun i => (i.zero, i.size, i.bytes)) = some (some (.int .u32 0), 1, 4) := by kernel_rfl
theorem enter_lit {P : Program} {f : FuncId} {fn : Func} {c : Code} {args : Array Value} {w : World} {R : Ending → World → Prop}
    (hf : P.funcs[f]? = some fn) (hb : fn.body = some c) (tm : Array Value) (ht : args ++ Array.replicate (fn.ntmps - args.size) undef = tm)
    (h : c.wp P (bodyPost P fn R) { tmps := tm, defers := [] } w) : Calls P f args w R := by
  subst ht
  exact calls_of_wp hf hb h
theorem K_any (w : World) : Calls Tryd.prog 76 #[] w fun e w' => e = .returned (.slice (some ⟨w.heap.size, 0, none⟩) 64 64) ∧ w' = w.alloc (.cells (wds shK).toArray 123) := by
  go_enter Tryd.func76, Tryd.ntmps76
  go_wp2_with fail
  go_ret
  exact ⟨rfl, rfl⟩
theorem sees_wd {w : World} {g n : Nat} {l : List Nat} {i : Nat} (h : Sees w 1 (some ⟨g, 0, none⟩) n (wds l)) (hl : l.length = n) (hi : i < n) : w.cell? ⟨g, i, none⟩ = some (.int .u32 (l.getD i 0 : Nat)) := by
  obtain ⟨g', off', e, hc⟩ := h.2 (by omega)
  injection e with e
  injection e with e1 e2
  subst e1 e2
  have := hc i _ (wds_get (by omega))
  rwa [Nat.zero_add] at this
theorem make_words (n : Nat) (hn : n ≤ 1000) (W : World) : (Instr.makeSlice 136 (.int .i64 (n : Int)) (.int .i64 (n : Int))).run Tryd.prog W = .ok (.slice (some ⟨W.heap.size, 0, none⟩) n n) (W.alloc (.cells (wds (tabn n fun _ => 0)).toArray 123)) := by
  obtain ⟨i, hi, hz, hs, hb⟩ := info_parts info_word
  have h := run_make (P := Tryd.prog) W 136 123 i (.int .u32 0) Tryd.underlying136 hi hz .i64 .i64 (n : Int) (n : Int) (by omega) (by omega) (by rw [hb]; omega) (by omega)
  have e0 : wds (tabn n fun _ => 0) = List.replicate n (Value.int .u32 0) := by
    refine List.ext_getElem? fun j => ?_
    by_cases h : j < n
    · simp [wds, tabn, h]
    · simp [wds, tabn, h]
  have e1 : madeCells (Value.int .u32 0).cells ((n : Int).toNat * i.size) = (wds (tabn n fun _ => 0)).toArray := by
    rw [hs, Int.toNat_natCast, Nat.mul_one, e0, ← toList_madeCells_one (.int .u32 0) n]
    rfl
  rw [e1, Int.toNat_natCast] at h
  exact h
theorem or_sh {x y : Nat} (i : Nat) (hy : y < 2 ^ i) : x * 2 ^ i ||| y = x * 2 ^ i + y := by
  have := Nat.shiftLeft_add_eq_or_of_lt hy x
  rw [Nat.shiftLeft_eq] at this
  exact this.symm
theorem or4 (d0 d1 d2 d3 : Nat) (h1 : d1 < 256) (h2 : d2 < 256) (h3 : d3 < 256) : ((d0 * 16777216 ||| d1 * 65536) ||| d2 * 256) ||| d3 = d0 * 16777216 + d1 * 65536 + d2 * 256 + d3 := by
  have e1 := or_sh (x := d0) (y := d1 * 65536) 24 (by omega)
  have e2 := or_sh (x := d0 * 256 + d1) (y := d2 * 256) 16 (by omega)
  have e3 := or_sh (x := (d0 * 256 + d1) * 256 + d2) (y := d3) 8 (by omega)
  rw [show (2 : Nat) ^ 24 = 16777216 from rfl] at e1
  rw [show (2 : Nat) ^ 16 = 65536 from rfl] at e2
  rw [show (2 : Nat) ^ 8 = 256 from rfl] at e3
  rw [e1, show d0 * 16777216 + d1 * 65536 = (d0 * 256 + d1) * 65536 by omega, e2, show (d0 * 256 + d1) * 65536 + d2 * 256 = ((d0 * 256 + d1) * 256 + d2) * 256 by omega, e3]
theorem sees_by {w : World} {g n : Nat} {l : List UInt8} {i : Nat} (h : Sees w 1 (some ⟨g, 0, none⟩) n (u8s l)) (hl : l.length = n) (hi : i < n) : w.cell? ⟨g, i, none⟩ = some (.int .u8 ((l.getD i 0).toNat : Nat)) := by
  obtain ⟨g', off', e, hc⟩ := sees_u8 h (show i < n from hi) (by omega)
  injection e with e
  injection e with e1 e2
  subst e1 e2
  rw [Nat.zero_add] at hc
  rw [hc, List.getD_eq_getElem?_getD, List.getElem?_eq_getElem (by omega)]
  rfl

end Go.Proofs.YtldgnckchlbadaaDoor
