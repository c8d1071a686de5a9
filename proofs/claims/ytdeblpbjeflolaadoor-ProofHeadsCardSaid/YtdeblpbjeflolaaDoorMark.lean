/-
  A row that '[]byte(s)' made: the run-time's mark stands behind its last cell; append onto it. No program in sight.
-/
import Derived.Test.YtdeblpbjeflolaaDoorWords
import Derived.Laws.IdiomStrings
namespace Go.Proofs.YtdeblpbjeflolaaDoor
open Go.RowKit

/-- The value v owns the cells xs (one cell each); whatever mark its block bears stands behind all its cells. -/
def OwnT (w : World) (base : Nat) (e : TypeId) (v : Value) (n : Nat) (xs : List Value) : Prop :=
  xs.length = n ∧ ∃ g cap cur fz, v = .slice (some ⟨g, 0, none⟩) n cap ∧ base ≤ g ∧ w.heap[g]? = some (.cells cur e fz) ∧ (cur.size ≤ fz.1 ∨ fz.2 = 0) ∧ n ≤ cap ∧ cap ≤ maxLen ∧ cur.size = cap ∧ cur.toList.take n = xs
section
variable {w w' : World} {base n : Nat} {e : TypeId} {v : Value} {xs : List Value}
theorem OwnT.shape (h : OwnT w base e v n xs) : ∃ g c, v = .slice (some ⟨g, 0, none⟩) n c := by
  obtain ⟨_, g, cap, cur, fz, rfl, _⟩ := h
  exact ⟨_, _, rfl⟩
theorem OwnT.lt (h : OwnT w base e v n xs) : ∀ k, v.ownBlock = some k → base ≤ k ∧ k < w.heap.size := by
  intro k hk
  obtain ⟨_, g, cap, cur, fz, rfl, hb, hg, _⟩ := h
  simp [Value.ownBlock] at hk
  subst hk
  exact ⟨hb, (Array.getElem?_eq_some_iff.1 hg).1⟩
theorem OwnT.keep (h : OwnT w base e v n xs) (hb : Below w.heap.size w w') : OwnT w' base e v n xs := by
  obtain ⟨h1, g, cap, cur, fz, rfl, h2, hg, h3⟩ := h
  exact ⟨h1, g, cap, cur, fz, rfl, h2, (hb.block g (Array.getElem?_eq_some_iff.1 hg).1).trans hg, h3⟩
theorem OwnT.cells {g c : Nat} (h : OwnT w base e (.slice (some ⟨g, 0, none⟩) n c) n xs) : ∀ j u, xs[j]? = some u → w.cell? ⟨g, j, none⟩ = some u := by
  intro j u hu
  obtain ⟨_, g', cap, cur, fz, hv, _, hg, _, _, _, _, ht⟩ := h
  injection hv with hv1 _ _
  injection hv1 with hv1
  injection hv1 with hv1
  subst hv1
  rw [cell_of_row w g j cur e fz hg]
  rw [← ht, List.getElem?_take] at hu
  split at hu
  · simpa using hu
  · cases hu
theorem OwnT.sees (h : OwnT w base e v n xs) : ∃ g c, v = .slice (some ⟨g, 0, none⟩) n c ∧ Sees w 1 (some ⟨g, 0, none⟩) n xs := by
  obtain ⟨g, c, rfl⟩ := h.shape
  exact ⟨g, c, rfl, by rw [h.1, Nat.mul_one], fun _ => ⟨g, 0, rfl, fun j u hu => by rw [Nat.zero_add]; exact h.cells j u hu⟩⟩

theorem run_store_tail (P : Program) (g o : Nat) (t : TypeId) (fz : Nat × Nat) : ∀ (vs : List Value) (i : Nat) (cur : Array Value) (w : World), w.heap[g]? = some (.cells cur t fz) → (cur.size ≤ fz.1 ∨ fz.2 = 0) → o + i + vs.length ≤ cur.size → (∀ v ∈ vs, v.oneCell' = true) →
    (storeCells ⟨g, o, none⟩ vs i).run P w = .ok () (w.setRow g (cur.toList.take (o + i) ++ vs ++ cur.toList.drop (o + i + vs.length)).toArray)
  | [], i, cur, w, hg, _, _, _ => by
    simp only [storeCells, List.append_nil, List.length_nil, Nat.add_zero, List.take_append_drop, Array.toArray_toList]
    rw [setRow_self w g cur t fz hg]
    rfl
  | v :: rest, i, cur, w, hg, hfz, hl, h1 => by
    have hi : o + i < cur.size := by simp at hl; omega
    have hadd : (⟨g, o, none⟩ : Addr).add i = ⟨g, o + i, none⟩ := by unfold Addr.add; split <;> simp_all
    have hcell : w.cell? ⟨g, o + i, none⟩ = some cur[o + i] := by simp [World.cell?, hg, hi]
    have hfro : w.frozen? ⟨g, o + i, none⟩ = false := by
      obtain ⟨lo, hi'⟩ := fz
      simp only [World.frozen?, hg, Bool.and_eq_false_iff, decide_eq_false_iff_not]
      simp only at hfz
      rcases hfz with h | h
      · left; omega
      · right; omega
    have hst : (store ((⟨g, o, none⟩ : Addr).add i) v).run P w = .ok () (w.setRow g (cur.setIfInBounds (o + i) v)) := by
      rw [hadd, run_store P w _ v _ (h1 v (by simp)), hcell]
      simp [hfro, setCell_eq_setRow w g (o + i) cur t fz v hg]
    have ih := run_store_tail P g o t fz rest (i + 1) (cur.setIfInBounds (o + i) v) (w.setRow g (cur.setIfInBounds (o + i) v)) (setRow_heap w g cur _ t _ hg) (by simpa using hfz) (by simp at hl ⊢; omega) (fun x hx => h1 x (by simp [hx]))
    simp only [storeCells, Sem.run_bind, hst, Result.andThen_ok, ih, setRow_setRow]
    congr 3
    have e := list_seg_step cur.toList (o + i) v rest (by simp at hl ⊢; omega)
    simpa [Array.toList_setIfInBounds, Nat.add_assoc] using e
end

section
variable {P : Program} {w : World}
theorem run_appT (base : Nat) (t ty e : TypeId) (z : Value) (bytes : Nat) (ht : P.underlying t = some (.slice e))
    (hi : (P.info? e).map (fun i => (i.zero, i.size, i.bytes)) = some (some z, 1, bytes)) (hzs : z.cells.size = 1)
    (v : Value) (n : Nat) (xs : List Value) (hown : OwnT w base e v n xs)
    (a : Addr) (m c : Nat) (news : List Value) (hl : news.length = m) (hnews : ∀ j u, news[j]? = some u → w.cell? (a.add j) = some u) (h1 : ∀ u ∈ news, u.oneCell' = true)
    (h63 : n + m ≤ maxLen) (hbytes : (n + m) * bytes ≤ 140737488355328) (hbase : base ≤ w.heap.size) :
    ∃ v' w', (Builtin.append_ #[t, t] ty #[v, .slice (some a) m c]).run P w = .ok v' w' ∧ OwnT w' base e v' (n + m) (xs ++ news) ∧ w.grownBy w' v.ownBlock := by
  obtain ⟨i, hi, hz, hs, hb⟩ := info_parts hi
  have hle : (xs ++ news).length = n + m := by rw [List.length_append, hown.1, hl]
  have hcl := fun (g c : Nat) (hv : v = .slice (some ⟨g, 0, none⟩) n c) => (hv ▸ hown : OwnT w base e (.slice (some ⟨g, 0, none⟩) n c) n xs).cells
  obtain ⟨hx, g, cap, cur, fz, rfl, hbg, hg, hfz, hnc, hcm, hcs, htake⟩ := hown
  have hsmall : n + m ≤ 9223372036854775807 := by simp only [maxLen] at h63; omega
  by_cases hroom : n + m ≤ cap
  · have hf := run_firstCells_some (P := P) w i.size m a m c news (by rw [hl, hs, Nat.mul_one]) hnews
    have hst := run_store_tail P g n e fz news 0 cur w hg hfz (by omega) h1
    simp only [Nat.add_zero] at hst
    refine ⟨.slice (some ⟨g, 0, none⟩) (n + m) cap, w.setRow g (cur.toList.take n ++ news ++ cur.toList.drop (n + news.length)).toArray, ?_, ⟨hle, g, cap, _, fz, rfl, hbg, setRow_heap w g cur _ e _ hg, ?_, hroom, hcm, ?_, ?_⟩, ⟨rfl, rfl, rfl, by simp, fun k _ hk => setRow_other w g k _ (fun e => hk (by simp [Value.ownBlock, e]))⟩⟩
    · rw [hs] at hf
      simp [Builtin.append_, run_underlying ht, sizeOf, typeInfo, hi, hs, Builtin.lenOf, hroom, hf, Addr.add_lit, hst]
    · have : (cur.toList.take n ++ news ++ cur.toList.drop (n + news.length)).toArray.size = cur.size := by
        simp only [List.size_toArray, List.length_append, List.length_take, List.length_drop, Array.length_toList]; omega
      rw [this]; exact hfz
    · simp only [List.size_toArray, List.length_append, List.length_take, List.length_drop, Array.length_toList]; omega
    · rw [htake, ← hle]; exact List.take_left
  · have holds : ∀ j u, xs[j]? = some u → w.cell? ((⟨g, 0, none⟩ : Addr).add j) = some u := fun j u hu => by
      have hadd : (⟨g, 0, none⟩ : Addr).add j = ⟨g, j, none⟩ := by unfold Addr.add; split <;> simp_all
      rw [hadd]; exact hcl g cap rfl j u hu
    have hr := run_append_grow (P := P) w t ty e i z ht hi hz ⟨g, 0, none⟩ n cap xs (by rw [hs, hx, Nat.mul_one]) holds a m c news (by rw [hs, hl, Nat.mul_one]) hnews (by omega) (by omega) (growslice_fits (by omega) (by rw [hb]; exact hbytes))
    have hge := grownCap_ge w (n + m) cap e
    have hcm2 : grownCap w (n + m) cap e ≤ maxLen := grownCap_le_maxLen w (n + m) cap e h63
    refine ⟨_, _, hr, ⟨hle, w.heap.size, _, _, (0, 0), rfl, hbase, heap_alloc_new w.drew _, .inr rfl, hge, hcm2, ?_, ?_⟩, ⟨rfl, rfl, rfl, by simp, fun k hk _ => Below.heap_alloc w.drew _ k hk⟩⟩
    · simp only [Array.size_append, List.size_toArray, size_zeroCells, hzs, hx, hl]; omega
    · simp only [Array.toList_append]
      rw [← hle]
      exact List.take_left

theorem wpList_appT {ops : Array Oper} {rest : List Oper} {o : Oper} {a : Act} {Q : Exit → Act → World → Prop} (hgd : o.guard = none) (s x : Operand) (t : TypeId)
    (ho : o.op = .call { callee := .builtin .append, args := #[s, x], argTypes := #[t, t] })
    (base : Nat) (e : TypeId) (z : Value) (bytes : Nat) (ht : P.underlying t = some (.slice e))
    (hi : (P.info? e).map (fun i => (i.zero, i.size, i.bytes)) = some (some z, 1, bytes)) (hzs : z.cells.size = 1)
    (v : Value) (n : Nat) (xs : List Value) (hs : a.eval s = v) (hown : OwnT w base e v n xs)
    (ad : Addr) (m c : Nat) (news : List Value) (hx : a.eval x = .slice (some ad) m c) (hr : Sees w 1 (some ad) m news) (hm : 0 < m) (h1 : ∀ u ∈ news, u.oneCell' = true)
    (h63 : n + m ≤ maxLen) (hbytes : (n + m) * bytes ≤ 140737488355328) (hbase : base ≤ w.heap.size)
    (h : ∀ v' w', OwnT w' base e v' (n + m) (xs ++ news) → w.grownBy w' v.ownBlock → wpList P ops Q rest (a.put o.dst v') w') : wpList P ops Q (o :: rest) a w := by
  have hnews : ∀ j u, news[j]? = some u → w.cell? (ad.add j) = some u := fun j u hu => by
    obtain ⟨g, off, e, hc⟩ := hr.2 hm
    injection e with e
    subst e
    have := hc j u hu
    unfold Addr.add
    by_cases hj : j = 0
    · subst hj; simpa using this
    · simpa [hj] using this
  obtain ⟨v', w', hrun, h2, h3⟩ := run_appT (P := P) base t o.type e z bytes ht hi hzs v n xs hown ad m c news (by simpa using hr.1) hnews h1 h63 hbytes hbase
  refine wpList_plain hgd fun K hK => ?_
  unfold Oper.wp execOp
  simp only [ho, resolve, invoke, builtin, Sem.run_bind, Sem.run_pure, Result.andThen_ok, List.map_toArray, List.map_cons, List.map_nil, hs, hx, hrun]
  exact hK _ _ (h v' w' h2 h3)

/-- '[]byte(s)'. -/
theorem run_bytes_of (src dst e : TypeId) (l : List UInt8) (hs : P.underlying src = some .string) (hd : P.underlying dst = some (.slice e)) (he : P.underlying e = some (.int .u8)) (hl : l.length ≤ 1000000000) :
    ∃ v w', (convert src dst (.string (str l))).run P w = .ok v w' ∧ OwnT w' w.heap.size e v l.length (u8s l) ∧ Below w.heap.size w w' := by
  refine ⟨_, _, run_bytes_of_string w src dst e (str l) hs hd he, ?_, (Below.refl _ w).drew.alloc (Nat.le_refl _) _⟩
  have hsz : (str l).size = l.length := size_str l
  have hC : (bytesRow (str l) (grownCap w (str l).size 0 e)).size = grownCap w (str l).size 0 e := by
    have := grownCap_ge w (str l).size 0 e
    have h2 : (str l).data.size = l.length := by simp [str]
    simp only [bytesRow, Array.size_append, Array.size_map, Array.size_replicate, h2]
    omega
  refine ⟨by simp, w.heap.size, _, _, _, by rw [hsz], Nat.le_refl _, heap_alloc_new w.drew _, .inl (Nat.le_refl _), ?_, grownCap_le_maxLen w _ 0 e (by rw [hsz]; unfold maxLen; omega), hC, ?_⟩
  · rw [hsz]; exact grownCap_ge w _ 0 e
  · simp [bytesRow, str, u8s]

theorem wpList_bytes_of {ops : Array Oper} {rest : List Oper} {o : Oper} {a : Act} {Q : Exit → Act → World → Prop} (hgd : o.guard = none) (x : Operand) (src dst e : TypeId)
    (ho : o.op = .convert src dst x) (l : List UInt8) (hx : a.eval x = .string (str l)) (hs : P.underlying src = some .string) (hd : P.underlying dst = some (.slice e)) (he : P.underlying e = some (.int .u8)) (hl : l.length ≤ 1000000000)
    (h : ∀ v w', OwnT w' w.heap.size e v l.length (u8s l) → Below w.heap.size w w' → wpList P ops Q rest (a.put o.dst v) w') : wpList P ops Q (o :: rest) a w := by
  obtain ⟨v, w', hrun, h2, h3⟩ := run_bytes_of (P := P) (w := w) src dst e l hs hd he hl
  refine wpList_plain hgd fun K hK => ?_
  unfold Oper.wp execOp
  simp only [ho, hx, hrun, Sem.run_bind, Sem.run_pure, Result.andThen_ok]
  exact hK _ _ (h v w' h2 h3)
end
end Go.Proofs.YtdeblpbjeflolaaDoor
