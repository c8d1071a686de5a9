/-
  Words for memory: what a call leaves alone (Fr), rows of bytes, owned rows under a frame. No program in sight.
  Parts: slices of octets, and what they have.
  The disk, as plain data: what it has, what waits, and what its calls do. No program in sight.
  A map with integer keys, as a list of its entries in the order of their making. No program in sight.
-/
import Derived.WalkKit
import Derived.Lib.Hide
import Derived.Laws.CopyOwn
import Derived.Maps.AppendAt
import Derived.Deep.Draws
import Derived.WalkSpells
import Derived.Maps.Own
import Derived.Maps.OwnOps
namespace Go.Proofs.YtldgnckchlbadaaDoor
set_option maxRecDepth 4000
open Go.RowKit

/-- Outside the blocks F nothing that was there has turned. -/
structure Fr (F : Nat → Prop) (w w' : World) : Prop where
  os : w'.os = w.os
  tape : w'.tape = w.tape
  output : w'.output = w.output
  size : w.heap.size ≤ w'.heap.size
  block : ∀ k, k < w.heap.size → ¬ F k → w'.heap[k]? = w.heap[k]?

section
variable {F G : Nat → Prop} {w w' w1 w2 w3 : World}
theorem Fr.refl (F : Nat → Prop) (w : World) : Fr F w w := ⟨rfl, rfl, rfl, Nat.le_refl _, fun _ _ _ => rfl⟩
theorem Fr.mono (h : Fr F w w') (hs : ∀ k, k < w.heap.size → F k → G k) : Fr G w w' :=
  ⟨h.os, h.tape, h.output, h.size, fun k hk hn => h.block k hk (fun hf => hn (hs k hk hf))⟩
theorem Fr.trans (h : Fr F w1 w2) (k : Fr G w2 w3) (hs : ∀ k, k < w1.heap.size → G k → F k) : Fr F w1 w3 :=
  ⟨k.os.trans h.os, k.tape.trans h.tape, k.output.trans h.output, Nat.le_trans h.size k.size,
    fun i hi hn => (k.block i (Nat.lt_of_lt_of_le hi h.size) (fun hg => hn (hs i hi hg))).trans (h.block i hi hn)⟩
theorem Fr.of_below (h : Below w.heap.size w w') (F : Nat → Prop) : Fr F w w' := ⟨h.os, h.tape, h.output, h.size, fun k hk _ => h.block k hk⟩
theorem Fr.of_below' {B : Nat} (h : Below B w w') : Fr (fun k => B ≤ k) w w' := ⟨h.os, h.tape, h.output, h.size, fun k _ hn => h.block k (by omega)⟩
theorem Fr.below {B : Nat} (h : Fr F w w') (hB : B ≤ w.heap.size) (hF : ∀ k, F k → B ≤ k) : Below B w w' :=
  ⟨h.os, h.tape, h.output, h.size, fun k hk => h.block k (by omega) (fun hf => by have := hF k hf; omega)⟩
theorem Fr.of_grown {row : Option Nat} (h : w.grownBy w' row) (hF : ∀ k, row = some k → F k) : Fr F w w' :=
  ⟨h.os, h.tape, h.output, h.size, fun k hk hn => h.block k hk (fun e => hn (hF k e.symm))⟩
theorem Fr.setCell (w : World) (p : Addr) (u : Value) (hp : F p.block) : Fr F w (w.setCell p u) :=
  ⟨rfl, rfl, rfl, by simp [World.setCell], fun k _ hn => Below.heap_setCell w p u k (fun e => hn (e ▸ hp))⟩
theorem Fr.setRow (w : World) (g : Nat) (cs : Array Value) (hp : F g) : Fr F w (w.setRow g cs) :=
  ⟨rfl, rfl, rfl, by simp [World.setRow], fun k _ hn => setRow_other w g k cs (fun e => hn (e ▸ hp))⟩
theorem Fr.alloc (w : World) (o : Obj) (F : Nat → Prop) : Fr F w (w.alloc o) := Fr.of_below ((Below.refl _ _).alloc (Nat.le_refl _) o) F
theorem Fr.drew (h : Fr F w w') : Fr F w w'.drew := ⟨h.os, h.tape, h.output, h.size, h.block⟩
theorem Fr.drewN (h : Fr F w w') (n : Nat) : Fr F w (w'.drewN n) := ⟨h.os, h.tape, h.output, h.size, h.block⟩
theorem Fr.cell (h : Fr F w w') {p : Addr} {v : Value} (hc : w.cell? p = some v) (hn : ¬ F p.block) : w'.cell? p = some v :=
  (World.cell?_of_block (w := w) (h.block _ (World.block_lt_of_cell? w p hc) hn)).trans hc
end

theorem below_of_drew {B : Nat} {w w' : World} (h : Below B w.drew w') : Below B w w' := ⟨h.os, h.tape, h.output, h.size, h.block⟩
theorem below_of_drewN {B n : Nat} {w w' : World} (h : Below B (w.drewN n) w') : Below B w w' := ⟨h.os, h.tape, h.output, h.size, h.block⟩
theorem ret_bool {a b : Bool} (h : a = b) : Ending.returned (.bool a) = .returned (.bool b) := by rw [h]
theorem ret_int {k : IntKind} {a b : Int} (h : a = b) : Ending.returned (.int k a) = .returned (.int k b) := by rw [h]
theorem ret_val {a b : Value} (h : a = b) : Ending.returned a = .returned b := by rw [h]
theorem ret_ints {k l : IntKind} {a b c d : Int} (h1 : a = c) (h2 : b = d) : Ending.returned (.tuple #[.int k a, .int l b]) = .returned (.tuple #[.int k c, .int l d]) := by rw [h1, h2]
theorem ret_int_bool {k : IntKind} {a c : Int} {b d : Bool} (h1 : a = c) (h2 : b = d) : Ending.returned (.tuple #[.int k a, .bool b]) = .returned (.tuple #[.int k c, .bool d]) := by rw [h1, h2]
theorem bool_iff {a b : Bool} (h : a = true ↔ b = true) : a = b := by cases a <;> cases b <;> simp_all

/-- A block that is known whole, nothing of it frozen. -/
def Blk (w : World) (g : Nat) (t : TypeId) (cs : Array Value) : Prop := w.heap[g]? = some (.cells cs t (0, 0))
section
variable {F : Nat → Prop} {w w' : World} {g : Nat} {t : TypeId} {cs : Array Value}
theorem Blk.lt (h : Blk w g t cs) : g < w.heap.size := by
  unfold Blk at h
  exact (Array.getElem?_eq_some_iff.1 h).1
theorem Blk.cell (h : Blk w g t cs) (i : Nat) : w.cell? ⟨g, i, none⟩ = cs[i]? := cell_of_row w g i cs t (0, 0) h
theorem Blk.frozen (h : Blk w g t cs) (i : Nat) : w.frozen? ⟨g, i, none⟩ = false := frozen_of_row w g i cs t h
theorem Blk.new (w : World) (t : TypeId) (cs : Array Value) : Blk (w.alloc (.cells cs t)) w.heap.size t cs := heap_alloc_new w _
theorem Blk.keep (h : Blk w g t cs) (hk : w'.heap[g]? = w.heap[g]?) : Blk w' g t cs := Eq.trans hk h
theorem Blk.fr (h : Blk w g t cs) (hf : Fr F w w') (hn : ¬ F g) : Blk w' g t cs := h.keep (hf.block g h.lt hn)
theorem Blk.below {B : Nat} (h : Blk w g t cs) (hb : Below B w w') (hg : g < B) : Blk w' g t cs := h.keep (hb.block g hg)
theorem Blk.alloc (h : Blk w g t cs) (o : Obj) : Blk (w.alloc o) g t cs := h.keep (Below.heap_alloc w o g h.lt)
theorem Blk.set_ (h : Blk w g t cs) (i : Nat) (u : Value) : Blk (w.setCell ⟨g, i, none⟩ u) g t (cs.setIfInBounds i u) := by
  unfold Blk at h ⊢
  simp [World.setCell, Array.getElem?_modify, h]
theorem Blk.far (h : Blk w g t cs) {p : Addr} (hp : g ≠ p.block) (u : Value) : Blk (w.setCell p u) g t cs := h.keep (Below.heap_setCell w p u g hp)
theorem Blk.same {g' : Nat} {t' : TypeId} {cs' : Array Value} (h : Blk w g t cs) (h' : Blk w g' t' cs') (hne : t ≠ t') : g ≠ g' := by
  rintro rfl
  unfold Blk at h h'
  rw [h] at h'
  injection h' with h'
  injection h' with _ ht
  exact hne ht
end

/-- The slice A of n elements (size cells each) shows the cells xs. -/
def Sees (w : World) (size : Nat) (A : Option Addr) (n : Nat) (xs : List Value) : Prop :=
  xs.length = n * size ∧ (0 < n → ∃ g off, A = some ⟨g, off, none⟩ ∧ ∀ j u, xs[j]? = some u → w.cell? ⟨g, off + j, none⟩ = some u)
section
variable {F : Nat → Prop} {w w' : World} {size n : Nat} {A : Option Addr} {xs : List Value}
theorem Sees.keep0 (h : Sees w size A n xs) (hk : 0 < n → ∀ g off, A = some ⟨g, off, none⟩ → g < w.heap.size → w'.heap[g]? = w.heap[g]?) : Sees w' size A n xs :=
  ⟨h.1, fun hn => by
    obtain ⟨g, off, e, hc⟩ := h.2 hn
    refine ⟨g, off, e, fun j u hu => ?_⟩
    have h1 := hc j u hu
    exact (World.cell?_of_block (w := w) (hk hn g off e (World.block_lt_of_cell? w _ h1))).trans h1⟩
theorem Sees.keep (h : Sees w size A n xs) (hk : ∀ g off, A = some ⟨g, off, none⟩ → g < w.heap.size → w'.heap[g]? = w.heap[g]?) : Sees w' size A n xs := h.keep0 fun _ => hk
theorem Sees.fr (h : Sees w size A n xs) (hf : Fr F w w') (hn : 0 < n → ∀ a, A = some a → ¬ F a.block) : Sees w' size A n xs :=
  h.keep0 fun h0 g off e hg => hf.block g hg (hn h0 _ e)
theorem Sees.lt (h : Sees w size A n xs) (hn : 0 < n) (hs : 0 < size) : ∀ a, A = some a → a.block < w.heap.size := by
  intro a ha
  obtain ⟨g, off, e, hc⟩ := h.2 hn
  rw [ha] at e
  injection e with e
  subst e
  have hl : 0 < xs.length := by rw [h.1]; exact Nat.mul_pos hn hs
  exact World.block_lt_of_cell? w _ (hc 0 xs[0] (List.getElem?_eq_getElem hl))
theorem Sees.below (h : Sees w size A n xs) (hb : Below w.heap.size w w') : Sees w' size A n xs :=
  h.keep fun g _ _ hg => hb.block g hg
theorem Sees.none_ (w : World) (size : Nat) (A : Option Addr) : Sees w size A 0 [] := ⟨by simp, fun h => absurd h (by omega)⟩
theorem Sees.of_own {base : Nat} {e : TypeId} {c : Nat} (h : w.ownsRow base e size (.slice A n c) n xs) : Sees w size A n xs := by
  refine ⟨h.1, fun hn => ?_⟩
  rcases h.2 with ⟨_, h0⟩ | ⟨g, cap, cur, hv, hb, hg, hnc, hcm, hcs, ht⟩
  · omega
  · have hA : A = some ⟨g, 0, none⟩ := by injection hv
    subst hA
    refine ⟨g, 0, rfl, fun j u hu => ?_⟩
    have := h.cells (g := g) rfl j u hu
    unfold Addr.add at this
    by_cases hj : j = 0
    · subst hj; simpa using this
    · simpa [hj] using this
/-- A piece of what is shown. -/
theorem Sees.piece {g off : Nat} (h : Sees w 1 (some ⟨g, off, none⟩) n xs) (i m : Nat) (hm : i + m ≤ n) : Sees w 1 (some ⟨g, off + i, none⟩) m ((xs.drop i).take m) := by
  refine ⟨by have := h.1; simp; omega, fun hm0 => ?_⟩
  obtain ⟨g', off', e, hc⟩ := h.2 (by omega)
  injection e with e
  injection e with e1 e2 _
  subst e1; subst e2
  refine ⟨g, off + i, rfl, fun j u hu => ?_⟩
  rw [List.getElem?_take] at hu
  split at hu
  · rw [List.getElem?_drop] at hu
    have := hc _ _ hu
    rwa [← Nat.add_assoc] at this
  · cases hu
end

/-- A new block shows what it holds. -/
theorem sees_new (w : World) (T : TypeId) (cs : List Value) (size n : Nat) (h : cs.length = n * size) : Sees (w.alloc (.cells cs.toArray T)) size (some ⟨w.heap.size, 0, none⟩) n cs :=
  ⟨h, fun _ => ⟨_, 0, rfl, fun j u hu => by rw [Nat.zero_add, (Blk.new w T cs.toArray).cell j, List.getElem?_toArray]; exact hu⟩⟩

/-- Bytes as cells. -/
def u8s (l : List UInt8) : List Value := l.map fun c => Value.int .u8 (c.toNat : Int)
@[simp] theorem length_u8s (l : List UInt8) : (u8s l).length = l.length := by simp [u8s]
theorem u8s_one (l : List UInt8) : ∀ u ∈ u8s l, u.oneCell' = true := by
  intro u hu
  obtain ⟨c, _, rfl⟩ := List.mem_map.1 hu
  rfl
theorem u8s_append (a b : List UInt8) : u8s (a ++ b) = u8s a ++ u8s b := by simp [u8s]
theorem u8s_take (l : List UInt8) (n : Nat) : u8s (l.take n) = (u8s l).take n := by simp [u8s]
theorem u8s_drop (l : List UInt8) (n : Nat) : u8s (l.drop n) = (u8s l).drop n := by simp [u8s]
theorem u8s_splice (l : List UInt8) (i : Nat) (m : List UInt8) : u8s (splice l i m) = splice (u8s l) i (u8s m) := by simp [splice, u8s_append, u8s_take, u8s_drop]
theorem u8s_get (l : List UInt8) (i : Nat) (h : i < l.length) : (u8s l)[i]? = some (.int .u8 ((l[i]'h).toNat : Int)) := by simp [u8s, h]

section
variable {F : Nat → Prop} {w w' : World} {base size n : Nat} {e : TypeId} {v : Value} {xs : List Value}
theorem own_keep (h : w.ownsRow base e size v n xs) (hk : ∀ g, v.ownBlock = some g → w'.heap[g]? = w.heap[g]?) : w'.ownsRow base e size v n xs := by
  refine ⟨h.1, ?_⟩
  rcases h.2 with h0 | ⟨g, cap, cur, hv, hb, hg, r⟩
  · exact .inl h0
  · exact .inr ⟨g, cap, cur, hv, hb, (hk g (by rw [hv]; rfl)).trans hg, r⟩
theorem own_fr (h : w.ownsRow base e size v n xs) (hf : Fr F w w') (hn : ∀ g, v.ownBlock = some g → ¬ F g) : w'.ownsRow base e size v n xs :=
  own_keep h fun g hg => hf.block g (h.lt g hg).2 (hn g hg)
theorem own_below (h : w.ownsRow base e size v n xs) (hf : Below w.heap.size w w') : w'.ownsRow base e size v n xs :=
  own_keep h fun g hg => hf.block g (h.lt g hg).2
theorem own_base {base' : Nat} (h : w.ownsRow base e size v n xs) (hb : base' ≤ base) : w.ownsRow base' e size v n xs := by
  refine ⟨h.1, ?_⟩
  rcases h.2 with h0 | ⟨g, cap, cur, hv, hg, r⟩
  · exact .inl h0
  · exact .inr ⟨g, cap, cur, hv, by omega, r⟩
/-- An owned row that is not empty, laid open. -/
theorem own_open (h : w.ownsRow base e size v n xs) (hn : 0 < n) : ∃ g cap cur, v = .slice (some ⟨g, 0, none⟩) n cap ∧ base ≤ g ∧ Blk w g e cur ∧ n ≤ cap ∧ cap ≤ maxLen ∧ cur.size = cap * size ∧ cur.toList.take (n * size) = xs := by
  rcases h.2 with ⟨_, h0⟩ | ⟨g, cap, cur, hv, hb, hg, r⟩
  · omega
  · exact ⟨g, cap, cur, hv, hb, hg, r⟩
theorem own_ne {g' : Nat} {t' : TypeId} {cs' : Array Value} (h : w.ownsRow base e size v n xs) (h' : Blk w g' t' cs') (hne : e ≠ t') : ∀ g, v.ownBlock = some g → g ≠ g' := by
  intro g hg
  rcases h.2 with ⟨rfl, h0⟩ | ⟨g1, cap, cur, rfl, hb, hg1, r⟩
  · cases hg
  · simp [Value.ownBlock] at hg
    subst hg
    exact Blk.same (t := e) hg1 h' hne
theorem own_ne2 {base' size' n' : Nat} {e' : TypeId} {v' : Value} {xs' : List Value} (h : w.ownsRow base e size v n xs) (h' : w.ownsRow base' e' size' v' n' xs') (hne : e ≠ e') : ∀ g, v.ownBlock = some g → v'.ownBlock ≠ some g := by
  intro g hg hg'
  rcases h'.2 with ⟨rfl, h0⟩ | ⟨g1, cap, cur, rfl, hb, hg1, r⟩
  · cases hg'
  · simp [Value.ownBlock] at hg'
    subst hg'
    exact own_ne h (t' := e') hg1 hne g1 hg rfl
theorem own_mk {g cap : Nat} {cur : Array Value} (hb : base ≤ g) (hg : Blk w g e cur) (h1 : n ≤ cap) (h2 : cap ≤ maxLen) (h3 : cur.size = cap * size) (h4 : cur.toList.take (n * size) = xs) :
    w.ownsRow base e size (.slice (some ⟨g, 0, none⟩) n cap) n xs :=
  ⟨by rw [← h4, List.length_take, Array.length_toList, h3]; exact Nat.min_eq_left (Nat.mul_le_mul_right _ h1), .inr ⟨g, cap, cur, rfl, hb, hg, h1, h2, h3, h4⟩⟩
end

theorem own_cell {w : World} {base size n cap g : Nat} {e : TypeId} {xs : List Value} (h : w.ownsRow base e size (.slice (some ⟨g, 0, none⟩) n cap) n xs) {j : Nat} {u : Value} (hu : xs[j]? = some u) : w.cell? ⟨g, j, none⟩ = some u := by
  have := h.cells (g := g) rfl j u hu
  unfold Addr.add at this
  by_cases hj : j = 0
  · subst hj; simpa using this
  · simpa [hj] using this

theorem flatMap_get {α β : Type} (f : α → List β) (m : Nat) (hf : ∀ x, (f x).length = m) (l : List α) (k j : Nat) (x : α) (hx : l[k]? = some x) (hj : j < m) : (l.flatMap f)[k * m + j]? = (f x)[j]? := by
  induction l generalizing k with
  | nil => simp at hx
  | cons y l ih =>
    cases k with
    | zero =>
      simp at hx
      subst hx
      rw [List.flatMap_cons, Nat.zero_mul, Nat.zero_add, List.getElem?_append_left (by rw [hf]; exact hj)]
    | succ k =>
      rw [List.flatMap_cons, List.getElem?_append_right (by rw [hf, Nat.succ_mul]; omega), hf]
      rw [show (k + 1) * m + j - m = k * m + j by rw [Nat.succ_mul]; omega]
      exact ih k (by simpa using hx)
theorem length_flatMap_const {α β : Type} (f : α → List β) (m : Nat) (hf : ∀ x, (f x).length = m) (l : List α) : (l.flatMap f).length = l.length * m := by
  induction l with
  | nil => simp
  | cons y l ih => rw [List.flatMap_cons, List.length_append, hf, ih, List.length_cons, Nat.succ_mul]; omega

theorem take_splice {α : Type} (L : List α) (off n : Nat) (cs : List α) (h : off + cs.length ≤ n) : (splice L off cs).take n = splice (L.take n) off cs := by
  by_cases hL : off ≤ L.length
  · unfold splice
    have h1 : (L.take off).length = off := by simp; omega
    rw [List.take_append, h1, List.take_append, List.take_take, List.take_take, List.drop_take]
    rw [Nat.min_eq_right (by omega : off ≤ n), Nat.min_eq_left (by omega : off ≤ n), List.take_of_length_le (by omega : cs.length ≤ n - off)]
    congr 3
    omega
  · have h2 : L.take off = L := List.take_of_length_le (by omega)
    have h3 : L.take n = L := List.take_of_length_le (by omega)
    unfold splice
    rw [h2, h3, List.drop_eq_nil_of_le (by omega), h2, List.append_nil, List.take_of_length_le]
    simp
    omega

/-! ### append onto an owned row, the source shown, nil or empty let in -/
section
variable {P : Program} {w : World}
theorem run_app (base : Nat) (t ty e : TypeId) (z : Value) (size bytes : Nat) (ht : P.underlying t = some (.slice e))
    (hi : (P.info? e).map (fun i => (i.zero, i.size, i.bytes)) = some (some z, size, bytes)) (hzs : z.cells.size = size) (hsz : 0 < size)
    (v : Value) (n : Nat) (xs : List Value) (hown : w.ownsRow base e size v n xs)
    (A : Option Addr) (m c : Nat) (news : List Value) (hr : Sees w size A m news) (h1 : ∀ u ∈ news, u.oneCell' = true)
    (h63 : n + m ≤ maxLen) (hbytes : (n + m) * bytes ≤ 140737488355328) (hbase : base ≤ w.heap.size) :
    ∃ v' w', (Builtin.append_ #[t, t] ty #[v, .slice A m c]).run P w = .ok v' w' ∧ w'.ownsRow base e size v' (n + m) (xs ++ news) ∧ w.grownBy w' v.ownBlock ∧
      (v'.ownBlock = v.ownBlock ∨ v'.ownBlock = some w.heap.size) ∧ (v = .slice none 0 0 ∧ m = 0 → v' = .slice none 0 0) := by
  obtain ⟨i, hi, hz, hs, hb⟩ := info_parts hi
  rcases A with _ | ad
  · have hm : m = 0 := by
      rcases Nat.eq_zero_or_pos m with h0 | h0
      · exact h0
      · obtain ⟨g, off, h, _⟩ := hr.2 h0
        cases h
    subst hm
    have hn : news = [] := List.eq_nil_of_length_eq_zero (by simpa using hr.1)
    subst hn
    refine ⟨v, w, ?_, by simpa using hown, World.grownBy.refl w _, .inl rfl, fun h => h.1⟩
    rcases hown.2 with ⟨rfl, rfl⟩ | ⟨g, cap, cur, rfl, _, _, hnc, _⟩
    · simp [Builtin.append_, run_underlying ht, sizeOf, typeInfo, hi, Builtin.lenOf, Builtin.firstCells]
    · simp [Builtin.append_, run_underlying ht, sizeOf, typeInfo, hi, Builtin.lenOf, Builtin.firstCells, hnc, storeCells]
  · have hcells : ∀ j u, news[j]? = some u → w.cell? (ad.add j) = some u := by
      intro j u hu
      rcases Nat.eq_zero_or_pos m with h0 | h0
      · subst h0
        have hn : news = [] := List.eq_nil_of_length_eq_zero (by simpa using hr.1)
        subst hn
        simp at hu
      · obtain ⟨g, off, h, hc⟩ := hr.2 h0
        injection h with h
        subst h
        have := hc j u hu
        unfold Addr.add
        by_cases hj : j = 0
        · subst hj; simpa using this
        · simpa [hj] using this
    obtain ⟨v', w', hrun, h2, h3, h4, h5⟩ := run_append_own_at (P := P) w base t ty e i z size bytes ht hi hz hs hb hzs hsz v n xs hown ad m c news hr.1 hcells h1 h63 hbytes hbase
    exact ⟨v', w', hrun, h2, h3, h5, h4.2⟩

theorem wp_app {o : Oper} {a : Act} {K : Act → World → Prop} {Q : Exit → Act → World → Prop} (s x : Operand) (t : TypeId)
    (ho : o.op = .call { callee := .builtin .append, args := #[s, x], argTypes := #[t, t] })
    (base : Nat) (e : TypeId) (z : Value) (size bytes : Nat) (ht : P.underlying t = some (.slice e))
    (hi : (P.info? e).map (fun i => (i.zero, i.size, i.bytes)) = some (some z, size, bytes)) (hzs : z.cells.size = size) (hsz : 0 < size)
    (v : Value) (n : Nat) (xs : List Value) (hs : a.eval s = v) (hown : w.ownsRow base e size v n xs)
    (A : Option Addr) (m c : Nat) (news : List Value) (hx : a.eval x = .slice A m c) (hr : Sees w size A m news) (h1 : ∀ u ∈ news, u.oneCell' = true)
    (h63 : n + m ≤ maxLen) (hbytes : (n + m) * bytes ≤ 140737488355328) (hbase : base ≤ w.heap.size)
    (h : ∀ v' w', w'.ownsRow base e size v' (n + m) (xs ++ news) → w.grownBy w' v.ownBlock → (v'.ownBlock = v.ownBlock ∨ v'.ownBlock = some w.heap.size) → (v = .slice none 0 0 ∧ m = 0 → v' = .slice none 0 0) → K (a.put o.dst v') w') : o.wp P a w K Q := by
  obtain ⟨v', w', hrun, h2, h3, h4, h5⟩ := run_app (P := P) base t o.type e z size bytes ht hi hzs hsz v n xs hown A m c news hr h1 h63 hbytes hbase
  unfold Oper.wp execOp
  simp only [ho, resolve, invoke, builtin, Sem.run_bind, Sem.run_pure, Result.andThen_ok, List.map_toArray, List.map_cons, List.map_nil, hs, hx, hrun]
  exact h v' w' h2 h3 h4 h5

/-- For the walk: behind at_builtin. -/
theorem wpList_app {ops : Array Oper} {rest : List Oper} {o : Oper} {a : Act} {Q : Exit → Act → World → Prop} (hgd : o.guard = none) (s x : Operand) (t : TypeId)
    (ho : o.op = .call { callee := .builtin .append, args := #[s, x], argTypes := #[t, t] })
    (base : Nat) (e : TypeId) (z : Value) (size bytes : Nat) (ht : P.underlying t = some (.slice e))
    (hi : (P.info? e).map (fun i => (i.zero, i.size, i.bytes)) = some (some z, size, bytes)) (hzs : z.cells.size = size) (hsz : 0 < size)
    (v : Value) (n : Nat) (xs : List Value) (hs : a.eval s = v) (hown : w.ownsRow base e size v n xs)
    (A : Option Addr) (m c : Nat) (news : List Value) (hx : a.eval x = .slice A m c) (hr : Sees w size A m news) (h1 : ∀ u ∈ news, u.oneCell' = true)
    (h63 : n + m ≤ maxLen) (hbytes : (n + m) * bytes ≤ 140737488355328) (hbase : base ≤ w.heap.size)
    (h : ∀ v' w', w'.ownsRow base e size v' (n + m) (xs ++ news) → w.grownBy w' v.ownBlock → (v'.ownBlock = v.ownBlock ∨ v'.ownBlock = some w.heap.size) → (v = .slice none 0 0 ∧ m = 0 → v' = .slice none 0 0) → wpList P ops Q rest (a.put o.dst v') w') : wpList P ops Q (o :: rest) a w :=
  wpList_plain hgd fun _ hK => wp_app s x t ho base e z size bytes ht hi hzs hsz v n xs hs hown A m c news hx hr h1 h63 hbytes hbase fun v' w' h2 h3 h4 h5 => hK _ _ (h v' w' h2 h3 h4 h5)

/-- For a region that draws. -/
theorem step_app {ops : Array Oper} {o : Oper} {a : Act} {K : Act → World → Prop} {Q : Exit → Act → World → Prop} {E : Prop} (hgd : o.guard = none) (s x : Operand) (t : TypeId)
    (ho : o.op = .call { callee := .builtin .append, args := #[s, x], argTypes := #[t, t] })
    (base : Nat) (e : TypeId) (z : Value) (size bytes : Nat) (ht : P.underlying t = some (.slice e))
    (hi : (P.info? e).map (fun i => (i.zero, i.size, i.bytes)) = some (some z, size, bytes)) (hzs : z.cells.size = size) (hsz : 0 < size)
    (v : Value) (n : Nat) (xs : List Value) (hs : a.eval s = v) (hown : w.ownsRow base e size v n xs)
    (A : Option Addr) (m c : Nat) (news : List Value) (hx : a.eval x = .slice A m c) (hr : Sees w size A m news) (h1 : ∀ u ∈ news, u.oneCell' = true)
    (h63 : n + m ≤ maxLen) (hbytes : (n + m) * bytes ≤ 140737488355328) (hbase : base ≤ w.heap.size)
    (h : ∀ v' w', w'.ownsRow base e size v' (n + m) (xs ++ news) → w.grownBy w' v.ownBlock → (v'.ownBlock = v.ownBlock ∨ v'.ownBlock = some w.heap.size) → (v = .slice none 0 0 ∧ m = 0 → v' = .slice none 0 0) → K (a.put o.dst v') w') :
    if Region.wanted o (yielded ops a.tmps) = true then Oper.wp P o a w K Q else E := by
  have hw : Region.wanted o (yielded ops a.tmps) = true := by simp [Region.wanted, hgd]
  rw [if_pos hw]
  exact wp_app s x t ho base e z size bytes ht hi hzs hsz v n xs hs hown A m c news hx hr h1 h63 hbytes hbase h
end

/-! ### copy of bytes into a block that is known whole -/
section
variable {P : Program} {w : World}
theorem wp_cpy {o : Oper} {a : Act} {K : Act → World → Prop} {Q : Exit → Act → World → Prop} (d s : Operand) (dT sT : TypeId)
    (ho : o.op = .call { callee := .builtin .copy, args := #[d, s], argTypes := #[dT, sT] }) (elem : TypeId) (hu : P.underlying dT = some (.slice elem)) (hsz : (P.info? elem).map (·.size) = some 1)
    (g off dLen dCap : Nat) (sp : Option Addr) (sLen sCap : Nat) (hd : a.eval d = .slice (some ⟨g, off, none⟩) dLen dCap) (hs : a.eval s = .slice sp sLen sCap)
    (cur : Array Value) (t : TypeId) (hg : Blk w g t cur) (cs : List Value) (hr : Sees w 1 sp sLen cs) (hfit : off + dLen ≤ cur.size) (h1 : ∀ v ∈ cs, v.oneCell' = true)
    (h : ∀ w', Blk w' g t (splice cur.toList off (cs.take dLen)).toArray → Fr (· = g) w w' → K (a.put o.dst (goInt (cs.take dLen).length)) w') : o.wp P a w K Q := by
  have hl : cs.length = sLen := by simpa using hr.1
  by_cases h0 : (cs.take dLen).length = 0
  · have e0 : cs.take dLen = [] := List.eq_nil_of_length_eq_zero h0
    have hrun := run_copy_none (P := P) w dT sT o.type elem (some ⟨g, off, none⟩) sp dLen dCap sLen sCap hu hsz (by rw [List.length_take, hl] at h0; show min _ _ = 0; omega)
    unfold Oper.wp
    simp [execOp, ho, resolve, invoke, builtin, hd, hs, hrun, Result.andThen]
    have := h w (by rw [e0]; simpa [splice] using hg) (Fr.refl _ _)
    rw [e0] at this
    exact this
  · have hpos : 0 < sLen := by rw [List.length_take, hl] at h0; omega
    obtain ⟨g', off', rfl, hc⟩ := hr.2 hpos
    have hsrc : ∀ j v, (cs.take dLen)[j]? = some v → w.cell? ((⟨g', off', none⟩ : Addr).add j) = some v := by
      intro j u hu
      rw [List.getElem?_take] at hu
      split at hu
      · have := hc j u hu
        unfold Addr.add
        by_cases hj : j = 0
        · subst hj; simpa using this
        · simpa [hj] using this
      · cases hu
    have hrun := run_copy_row (P := P) w dT sT o.type elem g off dLen dCap ⟨g', off', none⟩ sLen sCap cur t (cs.take dLen) hu hsz hg (by rw [List.length_take, hl]; exact Nat.min_comm _ _) hsrc (by simp; omega) (fun v hv => h1 v (List.mem_of_mem_take hv))
    unfold Oper.wp
    simp [execOp, ho, resolve, invoke, builtin, hd, hs, hrun, Result.andThen]
    have := h (w.setRow g (splice cur.toList off (cs.take dLen)).toArray) (setRow_heap w g _ _ t _ hg) (Fr.setRow _ _ _ rfl)
    simpa [splice, Oper.upon_value] using this

theorem wpList_cpy {ops : Array Oper} {rest : List Oper} {o : Oper} {a : Act} {Q : Exit → Act → World → Prop} (hgd : o.guard = none) (d s : Operand) (dT sT : TypeId)
    (ho : o.op = .call { callee := .builtin .copy, args := #[d, s], argTypes := #[dT, sT] }) (elem : TypeId) (hu : P.underlying dT = some (.slice elem)) (hsz : (P.info? elem).map (·.size) = some 1)
    (g off dLen dCap : Nat) (sp : Option Addr) (sLen sCap : Nat) (hd : a.eval d = .slice (some ⟨g, off, none⟩) dLen dCap) (hs : a.eval s = .slice sp sLen sCap)
    (cur : Array Value) (t : TypeId) (hg : Blk w g t cur) (cs : List Value) (hr : Sees w 1 sp sLen cs) (hfit : off + dLen ≤ cur.size) (h1 : ∀ v ∈ cs, v.oneCell' = true)
    (h : ∀ w', Blk w' g t (splice cur.toList off (cs.take dLen)).toArray → Fr (· = g) w w' → wpList P ops Q rest (a.put o.dst (goInt (cs.take dLen).length)) w') : wpList P ops Q (o :: rest) a w :=
  wpList_plain hgd fun _ hK => wp_cpy d s dT sT ho elem hu hsz g off dLen dCap sp sLen sCap hd hs cur t hg cs hr hfit h1 fun w' a1 a2 => hK _ _ (h w' a1 a2)

theorem step_cpy {ops : Array Oper} {o : Oper} {a : Act} {K : Act → World → Prop} {Q : Exit → Act → World → Prop} {E : Prop} (hgd : o.guard = none) (d s : Operand) (dT sT : TypeId)
    (ho : o.op = .call { callee := .builtin .copy, args := #[d, s], argTypes := #[dT, sT] }) (elem : TypeId) (hu : P.underlying dT = some (.slice elem)) (hsz : (P.info? elem).map (·.size) = some 1)
    (g off dLen dCap : Nat) (sp : Option Addr) (sLen sCap : Nat) (hd : a.eval d = .slice (some ⟨g, off, none⟩) dLen dCap) (hs : a.eval s = .slice sp sLen sCap)
    (cur : Array Value) (t : TypeId) (hg : Blk w g t cur) (cs : List Value) (hr : Sees w 1 sp sLen cs) (hfit : off + dLen ≤ cur.size) (h1 : ∀ v ∈ cs, v.oneCell' = true)
    (h : ∀ w', Blk w' g t (splice cur.toList off (cs.take dLen)).toArray → Fr (· = g) w w' → K (a.put o.dst (goInt (cs.take dLen).length)) w') :
    if Region.wanted o (yielded ops a.tmps) = true then Oper.wp P o a w K Q else E := by
  have hw : Region.wanted o (yielded ops a.tmps) = true := by simp [Region.wanted, hgd]
  rw [if_pos hw]
  exact wp_cpy d s dT sT ho elem hu hsz g off dLen dCap sp sLen sCap hd hs cur t hg cs hr hfit h1 h
end

/-! ### octets as a string -/
def str (l : List UInt8) : ByteArray := ⟨l.toArray⟩
@[simp] theorem str_data (l : List UInt8) : (str l).data.toList = l := by simp [str]
@[simp] theorem size_str (l : List UInt8) : (str l).size = l.length := by simp [str, ByteArray.size]
theorem str_inj {a b : List UInt8} (h : str a = str b) : a = b := by
  have := congrArg (fun s : ByteArray => s.data.toList) h
  simpa using this
theorem str_eq (a b : List UInt8) : (str a = str b) = (a = b) := propext ⟨str_inj, fun h => by rw [h]⟩
theorem str_beq (a b : List UInt8) : (str a == str b) = decide (a = b) := by
  show (a.toArray == b.toArray) = decide (a = b)
  rw [Bool.eq_iff_iff]
  simp
theorem str_toList (l : List UInt8) : (str l).toList = l := by rw [ByteArray.toList_eq, str_data]
theorem beq_dec (a b : List UInt8) : (a == b) = decide (a = b) := by by_cases h : a = b <;> simp [h]
theorem str_nil : str [] = ByteArray.empty := rfl
theorem str_of (s : ByteArray) : str s.data.toList = s := by cases s; simp [str]

theorem run_to_string {P : Program} {w : World} {src dst e : TypeId} (hs : P.underlying src = some (.slice e)) (he : P.underlying e = some (.int .u8)) (hd : P.underlying dst = some .string)
    {A : Option Addr} {n : Nat} (c : Nat) {l : List UInt8} (h : Sees w 1 A n (u8s l)) : (convert src dst (.slice A n c)).run P w = .ok (.string (str l)) w := by
  have hl : l.length = n := by simpa using h.1
  rcases A with _ | a
  · have h0 : n = 0 := by
      rcases Nat.eq_zero_or_pos n with h0 | h0
      · exact h0
      · obtain ⟨g, off, e, _⟩ := h.2 h0; cases e
    have : l = [] := List.eq_nil_of_length_eq_zero (by omega)
    subst this
    exact run_convert_bytes_nil w src e hs he _ _ dst hd
  · have hcells : (loadCells a n).run P w = .ok ((l.map fun c => (c.toNat : Int)).map (Value.int .u8)).toArray w := by
      have := run_loadCells_list (P := P) w a (u8s l) (fun j v hj => by
        have hjl := (List.getElem?_eq_some_iff.1 hj).1
        rw [length_u8s] at hjl
        obtain ⟨g, off, e, hc⟩ := h.2 (by omega)
        injection e with e
        subst e
        have := hc j v hj
        unfold Addr.add
        by_cases hj0 : j = 0
        · subst hj0; simpa using this
        · simpa [hj0] using this)
      have e : (u8s l).length = n := by simp [hl]
      rw [e] at this
      rw [this]
      simp [u8s]
    rw [run_convert_bytes_string w src dst e _ n c hs he hd, run_bytesToString w _ n c _ hcells, foldl_push_bytes]
    simp [str, ByteArray.empty, ByteArray.emptyWithCapacity, Function.comp_def]
    rfl

/-! ### slices of integers that came in -/
def IsRow (k : IntKind) (w : World) (a : Option Addr) (len cap : Nat) (zs : List Int) : Prop :=
  (a = none ∧ len = 0 ∧ cap = 0 ∧ zs = []) ∨
  ∃ x, a = some x ∧ len ≤ cap ∧ cap ≤ maxLen ∧ zs.length = cap ∧ (∀ i, i < zs.length → w.cell? (x.add i) = some (.int k (zs.getD i 0))) ∧ ∀ n ∈ zs, (Lit.int k n).wf = true

theorem IsRow.sees {k : IntKind} {w : World} {a : Option Addr} {len cap : Nat} {zs : List Int} (h : IsRow k w a len cap zs) :
    Sees w 1 a len ((zs.take len).map (Value.int k)) ∧ (zs.take len).length = len ∧ len ≤ cap ∧ cap ≤ maxLen ∧ ∀ n ∈ zs.take len, (Lit.int k n).wf = true := by
  rcases h with ⟨rfl, rfl, rfl, rfl⟩ | ⟨x, rfl, hl, hm, hz, hc, hw⟩
  · exact ⟨⟨rfl, fun h => absurd h (by omega)⟩, rfl, Nat.le_refl _, Nat.zero_le _, by simp⟩
  · refine ⟨⟨by simp; omega, fun hn => ?_⟩, by simp; omega, hl, hm, fun n hn => hw n (List.mem_of_mem_take hn)⟩
    obtain ⟨g, off, spot⟩ := x
    have h0 := hc 0 (by omega)
    have hspot : spot = none := by simpa [Addr.add] using World.cell?_spot h0
    subst hspot
    refine ⟨g, off, rfl, fun j u hu => ?_⟩
    rw [List.getElem?_map, List.getElem?_take] at hu
    split at hu
    · have hj : j < zs.length := by omega
      have := hc j hj
      rw [List.getElem?_eq_getElem hj] at hu
      simp at hu
      rw [← hu]
      have e : (⟨g, off, none⟩ : Addr).add j = ⟨g, off + j, none⟩ := by unfold Addr.add; split <;> simp_all
      rw [e] at this
      rw [this]
      simp [List.getD, List.getElem?_eq_getElem hj]
    · simp at hu

theorem wf_u8 {n : Int} (h : (Lit.int .u8 n).wf = true) : 0 ≤ n ∧ n ≤ 255 := by
  simp [Lit.wf, IntKind.min, IntKind.max, IntKind.bits, IntKind.signed] at h
  omega

/-- Bytes that came in. -/
theorem IsRow.bytes {w : World} {a : Option Addr} {len cap : Nat} {zs : List Int} (h : IsRow .u8 w a len cap zs) :
    ∃ l : List UInt8, l.length = len ∧ Sees w 1 a len (u8s l) ∧ len ≤ cap ∧ cap ≤ maxLen := by
  obtain ⟨h1, h2, h3, h4, h5⟩ := h.sees
  refine ⟨(zs.take len).map fun n => UInt8.ofNat n.toNat, by simpa using h2, ?_, h3, h4⟩
  have e : u8s ((zs.take len).map fun n => UInt8.ofNat n.toNat) = (zs.take len).map (Value.int .u8) := by
    unfold u8s
    rw [List.map_map]
    refine List.map_congr_left fun n hn => ?_
    have := wf_u8 (h5 n hn)
    simp
    omega
  rw [e]
  exact h1

theorem own_shape {w : World} {base e size n : Nat} {v : Value} {xs : List Value} (h : w.ownsRow base e size v n xs) : ∃ A c, v = .slice A n c := by
  rcases h.2 with ⟨rfl, h0⟩ | ⟨g, cap, cur, rfl, _⟩
  · exact ⟨none, 0, by rw [h0]⟩
  · exact ⟨_, _, rfl⟩
theorem or_add {x c : Nat} (hc : c < 256) : x * 256 ||| c = x * 256 + c := by
  have := Nat.shiftLeft_add_eq_or_of_lt (i := 8) hc x
  rw [Nat.shiftLeft_eq] at this
  exact this.symm
theorem Blk.drew {g : Nat} {t : TypeId} {cs : Array Value} {w : World} (h : Blk w g t cs) : Blk w.drew g t cs := h
theorem Blk.setRow {w : World} {g : Nat} {t : TypeId} {cs : Array Value} (h : Blk w g t cs) (cs' : Array Value) : Blk (w.setRow g cs') g t cs' := by
  unfold Blk at h ⊢
  simp [World.setRow, Array.getElem?_modify, h]
theorem below_setRow {B : Nat} {w w' : World} (h : Below B w w') {g : Nat} (hg : B ≤ g) (cs : Array Value) : Below B w (w'.setRow g cs) :=
  ⟨h.os, h.tape, h.output, by simpa using h.size, fun k hk => (setRow_other w' g k cs (by omega)).trans (h.block k hk)⟩
theorem wf_i64 {n : Int} (h : (Lit.int .i64 n).wf = true) : -9223372036854775808 ≤ n ∧ n ≤ 9223372036854775807 := by
  simp [Lit.wf, IntKind.min, IntKind.max, IntKind.bits, IntKind.signed] at h
  omega
theorem Blk.newAt {w : World} {g : Nat} {t : TypeId} {cs cs' : Array Value} (hg : g = w.heap.size) (e : cs = cs') : Blk (w.alloc (.cells cs t)) g t cs' := by rw [hg, ← e]; exact Blk.new _ _ _
end Go.Proofs.YtldgnckchlbadaaDoor

namespace Go.Proofs.YtldgnckchlbadaaDoor
set_option maxRecDepth 4000
open Go.RowKit

/-- A part that comes: its place, its octets. -/
structure Pt where
  A : Option Addr
  n : Nat
  c : Nat
  l : List UInt8
def Pt.val (p : Pt) : Value := .slice p.A p.n p.c
def Pts (w : World) (ps : List Pt) : Prop := ∀ p ∈ ps, Sees w 1 p.A p.n (u8s p.l) ∧ p.l.length = p.n
def cat (ps : List Pt) : List UInt8 := ps.flatMap (·.l)
theorem Pts.below {w w' : World} {ps : List Pt} (h : Pts w ps) (hb : Below w.heap.size w w') : Pts w' ps := fun p hp => ⟨(h p hp).1.below hb, (h p hp).2⟩
theorem cat_take (ps : List Pt) (j : Nat) (p : Pt) (h : ps[j]? = some p) : cat (ps.take (j + 1)) = cat (ps.take j) ++ p.l := by
  rw [List.take_add_one, h, cat, cat, List.flatMap_append]
  simp
theorem cat_le (ps : List Pt) (j : Nat) : (cat (ps.take j)).length ≤ (cat ps).length := by
  conv => rhs; rw [← List.take_append_drop j ps]
  rw [cat, cat, List.flatMap_append, List.length_append]
  omega

end Go.Proofs.YtldgnckchlbadaaDoor

namespace Go.Proofs.YtldgnckchlbadaaDoor
set_option maxRecDepth 4000

structure Dk where
  safe : List UInt8
  queue : List (Nat × List UInt8)
  calls : Int

def put (s : List UInt8) (q : Nat × List UInt8) : List UInt8 := splice s (q.1 * 128) q.2
def puts (s : List UInt8) (q : List (Nat × List UInt8)) : List UInt8 := q.foldl put s
def Dk.image (d : Dk) : List UInt8 := puts d.safe d.queue
/-- Whole sectors, not too many; what waits is a sector, and lies inside; the count is an int. -/
structure Dk.Ok (d : Dk) : Prop where
  whole : 128 ∣ d.safe.length
  pos : 128 ≤ d.safe.length
  most : d.safe.length ≤ 8388608
  fits : ∀ q ∈ d.queue, q.2.length = 128 ∧ (q.1 + 1) * 128 ≤ d.safe.length
  lo : -9223372036854775808 ≤ d.calls
  hi : d.calls ≤ 9223372036854775807

theorem length_put (s : List UInt8) (q : Nat × List UInt8) (h : q.2.length = 128) (h2 : (q.1 + 1) * 128 ≤ s.length) : (put s q).length = s.length :=
  length_splice _ _ _ (by omega)
theorem length_puts (s : List UInt8) (l : List (Nat × List UInt8)) (h : ∀ q ∈ l, q.2.length = 128 ∧ (q.1 + 1) * 128 ≤ s.length) : (puts s l).length = s.length := by
  induction l generalizing s with
  | nil => rfl
  | cons q l ih =>
    have h1 := h q (by simp)
    have hl := length_put s q h1.1 h1.2
    show (puts (put s q) l).length = _
    rw [ih (put s q) (fun q' hq' => by rw [hl]; exact h q' (by simp [hq'])), hl]
theorem puts_snoc (s : List UInt8) (l : List (Nat × List UInt8)) (q : Nat × List UInt8) : puts s (l ++ [q]) = put (puts s l) q := by simp [puts]
theorem Dk.Ok.image {d : Dk} (h : Dk.Ok d) : d.image.length = d.safe.length := length_puts _ _ h.fits

/-- Of a slice of whole sectors, the i-th. -/
def sect (l : List UInt8) (i : Nat) : List UInt8 := (l.drop (i * 128)).take 128
def parts (at_ : Nat) (l : List UInt8) (n : Nat) : List (Nat × List UInt8) := (List.range n).map fun i => (at_ + i, sect l i)
theorem parts_zero (at_ : Nat) (l : List UInt8) : parts at_ l 0 = [] := rfl
theorem parts_succ (at_ : Nat) (l : List UInt8) (n : Nat) : parts at_ l (n + 1) = parts at_ l n ++ [(at_ + n, sect l n)] := by simp [parts, List.range_succ]
theorem length_sect (l : List UInt8) (i : Nat) (h : (i + 1) * 128 ≤ l.length) : (sect l i).length = 128 := by simp [sect]; omega
def thereB (at_ n size : Int) : Bool := decide (0 ≤ at_ ∧ 0 ≤ n ∧ at_ ≤ size ∧ n ≤ size - at_)
/-- call: counts down where it is above 0. -/
def nextCalls (k : Int) : Int := if 0 < k then k - 1 else k
def Dk.size (d : Dk) : Nat := d.safe.length / 128
def thereN (at_ : Int) (n size : Nat) : Bool := thereB at_ n size
/-- What Write answers, and what it leaves. -/
def Dk.writeE (d : Dk) (at_ : Int) (l : List UInt8) : Int :=
  if l.length % 128 ≠ 0 then 2 else if thereN at_ (l.length / 128) d.size = false then 20 else if d.calls = 0 then 22 else 0
def Dk.push (d : Dk) (at_ : Nat) (l : List UInt8) (n : Nat) : Dk := { d with queue := d.queue ++ parts at_ l n, calls := nextCalls d.calls }
def Dk.write (d : Dk) (at_ : Int) (l : List UInt8) : Dk := if d.writeE at_ l = 0 then d.push at_.toNat l (l.length / 128) else d

theorem nextCalls_in (k : Int) (h : -9223372036854775808 ≤ k) (h2 : k ≤ 9223372036854775807) : -9223372036854775808 ≤ nextCalls k ∧ nextCalls k ≤ 9223372036854775807 := by
  unfold nextCalls; split <;> omega
theorem Dk.Ok.push {d : Dk} (h : d.Ok) (at_ : Nat) (l : List UInt8) (n : Nat) (hl : n * 128 ≤ l.length) (hs : (at_ + n) * 128 ≤ d.safe.length) : (d.push at_ l n).Ok := by
  refine ⟨h.whole, h.pos, h.most, ?_, (nextCalls_in _ h.lo h.hi).1, (nextCalls_in _ h.lo h.hi).2⟩
  intro q hq
  rcases List.mem_append.1 hq with hq | hq
  · exact h.fits q hq
  · obtain ⟨i, hi, rfl⟩ := List.mem_map.1 hq
    have := List.mem_range.1 hi
    exact ⟨length_sect l i (by omega), show (at_ + i + 1) * 128 ≤ d.safe.length by omega⟩
theorem Dk.Ok.write {d : Dk} (h : d.Ok) (at_ : Int) (l : List UInt8) : (d.write at_ l).Ok := by
  unfold Dk.write
  split
  · rename_i he
    unfold Dk.writeE at he
    split at he
    · cases he
    · split at he
      · cases he
      · rename_i h1 h2
        simp only [Bool.not_eq_false, thereN, thereB, Dk.size] at h2
        have h2 := of_decide_eq_true h2
        have := h.whole
        exact h.push _ _ _ (by omega) (by omega)
  · exact h
end Go.Proofs.YtldgnckchlbadaaDoor

namespace Go.Proofs.YtldgnckchlbadaaDoor
set_option maxRecDepth 4000
open Go.RowKit

def IMap (w : World) (b : Nat) (k : IntKind) (M : List (Int × Value)) : Prop :=
  ∃ es clock, w.heap[b]? = some (.map es clock) ∧ es.toList.map (fun e => (e.key, e.val)) = M.map (fun p => (Value.int k p.1, p.2))

section
variable {P : Program} {w w' : World} {b : Nat} {k : IntKind} {M : List (Int × Value)}
theorem IMap.lt (h : IMap w b k M) : b < w.heap.size := by
  obtain ⟨es, clock, hb, _⟩ := h
  exact (Array.getElem?_eq_some_iff.1 hb).1
theorem IMap.keep (h : IMap w b k M) (hk : w'.heap[b]? = w.heap[b]?) : IMap w' b k M := by
  obtain ⟨es, clock, hb, r⟩ := h
  exact ⟨es, clock, hk.trans hb, r⟩
theorem IMap.new (w : World) (k : IntKind) : IMap (w.alloc (.map #[] 0)) w.heap.size k [] := ⟨#[], 0, heap_alloc_new w _, rfl⟩

theorem findNow_int (n : Int) : ∀ (l : List MapEntry) (M : List (Int × Value)) (i : Nat), l.map (fun e => (e.key, e.val)) = M.map (fun p => (Value.int k p.1, p.2)) →
    ∃ r, Instr.findNow (.int k) (.int k n) l i = some r ∧ r.map (·.2) = M.lookup n := by
  intro l
  induction l with
  | nil =>
    intro M i h
    have : M = [] := by simpa using h.symm
    subst this
    exact ⟨none, rfl, rfl⟩
  | cons e l ih =>
    intro M i h
    cases M with
    | nil => simp at h
    | cons p M =>
      simp only [List.map_cons, List.cons.injEq, Prod.mk.injEq] at h
      obtain ⟨⟨h1, h2⟩, h3⟩ := h
      simp only [Instr.findNow, h1, Instr.sameNow, if_true]
      by_cases hn : n = p.1
      · subst hn
        simp only [beq_self_eq_true]
        exact ⟨_, rfl, by simp [List.lookup, h2]⟩
      · have hb : (n == p.1) = false := by simpa using hn
        obtain ⟨r, hr, hr2⟩ := ih M (i + 1) h3
        simp only [hb]
        exact ⟨r, hr, by rw [hr2]; obtain ⟨p1, p2⟩ := p; simp [List.lookup, hb]⟩

theorem run_checkKey_int' (P : Program) (w : World) (e : Bool) (kt : TypeId) (k : IntKind) (n : Int) (m : Nat) (hk : P.underlying kt = some (.int k)) : (Instr.checkKey e (m + 1) kt (.int k n)).run P w = .ok () w := by
  simp [Instr.checkKey, run_underlying hk]
theorem run_checkKey_int (P : Program) (w : World) (e : Bool) (kt : TypeId) (k : IntKind) (n : Int) (hk : P.underlying kt = some (.int k)) : (Instr.checkKey e 10000 kt (.int k n)).run P w = .ok () w :=
  run_checkKey_int' P w e kt k n 9999 hk

theorem run_lookup_imap {t kt et : TypeId} {z : Value} (ht : P.underlying t = some (.map kt et)) (hk : P.underlying kt = some (.int k)) (hz : (zeroValue et).run P w = .ok z w) (h : IMap w b k M) (n : Int) :
    (Instr.lookup t (.map (some b)) (.int k n) false).run P w = .ok ((M.lookup n).getD z) w := by
  obtain ⟨es, clock, hb, hm⟩ := h
  obtain ⟨r, hr, hr2⟩ := findNow_int n es.toList M 0 hm
  have hg : (getObj b).run P w = .ok (.map es clock) w := by simp [getObj, Sem.run, hb]
  cases r with
  | none =>
    simp only [Option.map_none] at hr2
    simp [Instr.lookup, run_underlying ht, hg, run_checkKey_int P w _ kt k n hk, Instr.findKey, run_underlying hk, hr, hz, ← hr2]
  | some x =>
    simp only [Option.map_some] at hr2
    simp [Instr.lookup, run_underlying ht, hg, run_checkKey_int P w _ kt k n hk, Instr.findKey, run_underlying hk, hr, ← hr2]

/-- A key that is not there yet. -/
theorem run_update_imap {t kt et : TypeId} (ht : P.underlying t = some (.map kt et)) (hk : P.underlying kt = some (.int k)) (h : IMap w b k M) (n : Int) (v : Value) (hn : M.lookup n = none) :
    ∃ w', (Instr.mapUpdate t (.map (some b)) (.int k n) v).run P w = .ok () w' ∧ IMap w' b k (M ++ [(n, v)]) ∧ Fr (· = b) w w' ∧ w'.heap.size = w.heap.size := by
  have hlt := h.lt
  obtain ⟨es, clock, hb, hm⟩ := h
  obtain ⟨r, hr, hr2⟩ := findNow_int n es.toList M 0 hm
  have hg : (getObj b).run P w = .ok (.map es clock) w := by simp [getObj, Sem.run, hb]
  rw [hn] at hr2
  have hr0 : r = none := by cases r <;> simp_all
  subst hr0
  refine ⟨{ w with heap := w.heap.setIfInBounds b (.map (es.push { key := .int k n, val := v, born := clock }) (clock + 1)) }, ?_, ⟨es.push { key := .int k n, val := v, born := clock }, clock + 1, ?_, ?_⟩, ⟨rfl, rfl, rfl, by simp, ?_⟩, by simp⟩
  · simp [Instr.mapUpdate, run_underlying ht, hg, run_checkKey_int P w _ kt k n hk, Instr.findKey, run_underlying hk, hr, setObj, Sem.run, hb]
  · simp [Array.getElem?_setIfInBounds, hlt]
  · simp [hm]
  · intro i hi hne
    simp [Array.getElem?_setIfInBounds, Ne.symm hne]

theorem run_len_imap {t kt et ty : TypeId} (ht : P.underlying t = some (.map kt et)) (h : IMap w b k M) : (Builtin.len_ #[t] ty #[.map (some b)]).run P w = .ok (goInt M.length) w := by
  obtain ⟨es, clock, hb, hm⟩ := h
  have hg : (getObj b).run P w = .ok (.map es clock) w := by simp [getObj, Sem.run, hb]
  have hl : es.size = M.length := by have := congrArg List.length hm; simpa using this
  simp [Builtin.len_, run_underlying ht, hg, hl]
end
end Go.Proofs.YtldgnckchlbadaaDoor
