/-
  Words for memory: what a call leaves alone (Fr), rows of bytes, owned rows under a frame. No program in sight.
  The checksum of octets: the document's and the code's.
  The document's numbers in octets, and a text with its checksum.
  A region that draws its order, walked in ONE order: a plan. What yields its value wherever S holds may come at any time; whatever else writes or calls comes in the plan's order;
  S is shown anew only behind an operation that some such reading may still follow.
  Bytes copied anew.
-/
import Derived.WalkKit
import Derived.Lib.Hide
import Derived.Laws.CopyOwn
import Derived.Maps.AppendAt
import Derived.Deep.Draws
import Derived.WalkSpells
import Derived.Test.YtkgaeoeibjoljaaGreatDoorProg
import Derived.Laws.BitsAllLaws
import Derived.OrdersHeld
import Derived.StillTail
import Derived.Deep.RegionHeld3
import Derived.BigQuiet
import Derived.Handy
namespace Go.Proofs.YtkgaeoeibjoljaaGreatDoor
theorem pu1 (l : List Value) (i : Nat) (a : Value) : l.toArray.setIfInBounds i a = (l.set i a).toArray := by simp only [List.setIfInBounds_toArray]
theorem pu2 (a b : Value) (l : List Value) : (a :: l).set 0 b = b :: l := rfl
theorem pu3 (a b : Value) (l : List Value) (n : Nat) : (a :: l).set (n + 1) b = a :: l.set n b := rfl
theorem Lh {p : Prop} (h : p) : RowKit.Hid p := h
theorem Ai {a b : Prop} (x : a) (y : b) : a /\ b := ⟨x, y⟩
section
set_option maxRecDepth 4000
open Go.RowKit
structure Fr (F : Nat -> Prop) (w w' : World) : Prop where
 os : w'.os = w.os
 tape : w'.tape = w.tape
 output : w'.output = w.output
 size : w.heap.size <= w'.heap.size
 block : ∀ k, k < w.heap.size -> ¬ F k -> w'.heap[k]? = w.heap[k]?
section
variable {F G : Nat -> Prop} {w w' w1 w2 w3 : World}
theorem Fr.refl (F : Nat -> Prop) (w : World) : Fr F w w := ⟨rfl, rfl, rfl, Nat.le_refl _, fun _ _ _ => rfl⟩
theorem Fr.mono (h : Fr F w w') (hs : ∀ k, k < w.heap.size -> F k -> G k) : Fr G w w' :=
 ⟨h.os, h.tape, h.output, h.size, fun k hk hn => h.block k hk (fun hf => hn (hs k hk hf))⟩
theorem Fr.trans (h : Fr F w1 w2) (k : Fr G w2 w3) (hs : ∀ k, k < w1.heap.size -> G k -> F k) : Fr F w1 w3 :=
 ⟨k.os.trans h.os, k.tape.trans h.tape, k.output.trans h.output, Nat.le_trans h.size k.size,
  fun i hi hn => (k.block i (Nat.lt_of_lt_of_le hi h.size) (fun hg => hn (hs i hi hg))).trans (h.block i hi hn)⟩
theorem Fr.of_below (h : Below w.heap.size w w') (F : Nat -> Prop) : Fr F w w' := ⟨h.os, h.tape, h.output, h.size, fun k hk _ => h.block k hk⟩
theorem Fr.below {B : Nat} (h : Fr F w w') (hB : B <= w.heap.size) (hF : ∀ k, F k -> B <= k) : Below B w w' :=
 ⟨h.os, h.tape, h.output, h.size, fun k hk => h.block k (by omega) (fun hf => by have := hF k hf; omega)⟩
theorem Fr.of_grown {row : Option Nat} (h : w.grownBy w' row) (hF : ∀ k, row = some k -> F k) : Fr F w w' :=
 ⟨h.os, h.tape, h.output, h.size, fun k hk hn => h.block k hk (fun e => hn (hF k e.symm))⟩
theorem Fr.setCell (w : World) (p : Addr) (u : Value) (hp : F p.block) : Fr F w (w.setCell p u) :=
 ⟨rfl, rfl, rfl, by simp [World.setCell], fun k _ hn => Below.heap_setCell w p u k (fun e => hn (e ▸ hp))⟩
theorem Fr.setRow (w : World) (g : Nat) (cs : Array Value) (hp : F g) : Fr F w (w.setRow g cs) :=
 ⟨rfl, rfl, rfl, by simp [World.setRow], fun k _ hn => setRow_other w g k cs (fun e => hn (e ▸ hp))⟩
theorem Fr.alloc (w : World) (o : Obj) (F : Nat -> Prop) : Fr F w (w.alloc o) := Fr.of_below ((Below.refl _ _).alloc (Nat.le_refl _) o) F
theorem Fr.drew (h : Fr F w w') : Fr F w w'.drew := ⟨h.os, h.tape, h.output, h.size, h.block⟩
theorem Fr.cell (h : Fr F w w') {p : Addr} {v : Value} (hc : w.cell? p = some v) (hn : ¬ F p.block) : w'.cell? p = some v :=
 (World.cell?_of_block (w := w) (h.block _ (World.block_lt_of_cell? w p hc) hn)).trans hc
end
theorem below_of_drew {B : Nat} {w w' : World} (h : Below B w.drew w') : Below B w w' := ⟨h.os, h.tape, h.output, h.size, h.block⟩
theorem ret_bool {a b : Bool} (h : a = b) : Ending.returned (.bool a) = .returned (.bool b) := by rw [h]
theorem ret_int {k : IntKind} {a b : Int} (h : a = b) : Ending.returned (.int k a) = .returned (.int k b) := by rw [h]
theorem ret_val {a b : Value} (h : a = b) : Ending.returned a = .returned b := by rw [h]
theorem ret_ints {k l : IntKind} {a b c d : Int} (h1 : a = c) (h2 : b = d) : Ending.returned (.tuple #[.int k a, .int l b]) = .returned (.tuple #[.int k c, .int l d]) := by rw [h1, h2]
theorem bool_iff {a b : Bool} (h : a = true ↔ b = true) : a = b := by cases a <;> cases b <;> simp_all
def Blk (w : World) (g : Nat) (t : TypeId) (cs : Array Value) : Prop := w.heap[g]? = some (.cells cs t (0, 0))
section
variable {F : Nat -> Prop} {w w' : World} {g : Nat} {t : TypeId} {cs : Array Value}
theorem Blk.lt (h : Blk w g t cs) : g < w.heap.size := by
 unfold Blk at h
 exact (Array.getElem?_eq_some_iff.1 h).1
theorem Blk.cell (h : Blk w g t cs) (i : Nat) : w.cell? ⟨g, i, none⟩ = cs[i]? := cell_of_row w g i cs t (0, 0) h
theorem Blk.frozen (h : Blk w g t cs) (i : Nat) : w.frozen? ⟨g, i, none⟩ = false := frozen_of_row w g i cs t h
theorem Blk.new (w : World) (t : TypeId) (cs : Array Value) : Blk (w.alloc (.cells cs t)) w.heap.size t cs := heap_alloc_new w _
theorem Blk.keep (h : Blk w g t cs) (hk : w'.heap[g]? = w.heap[g]?) : Blk w' g t cs := Eq.trans hk h
theorem Blk.fr (h : Blk w g t cs) (hf : Fr F w w') (hn : ¬ F g) : Blk w' g t cs := h.keep (hf.block g h.lt hn)
theorem Blk.below {B : Nat} (h : Blk w g t cs) (hb : Below B w w') (hg : g < B) : Blk w' g t cs := h.keep (hb.block g hg)
theorem Blk.alloc (h : Blk w g t cs) (o : Obj) : Blk (w.alloc o) g t cs := h.keep (Below.heap_alloc w o g h.lt)
theorem Blk.set_ (h : Blk w g t cs) (i : Nat) (u : Value) : Blk (w.setCell ⟨g, i, none⟩ u) g t (cs.setIfInBounds i u) := by
 unfold Blk at h ⊢
 simp [World.setCell, Array.getElem?_modify, h]
theorem Blk.far (h : Blk w g t cs) {p : Addr} (hp : g ≠ p.block) (u : Value) : Blk (w.setCell p u) g t cs := h.keep (Below.heap_setCell w p u g hp)
theorem Blk.same {g' : Nat} {t' : TypeId} {cs' : Array Value} (h : Blk w g t cs) (h' : Blk w g' t' cs') (hne : t ≠ t') : g ≠ g' := by
 rintro rfl
 unfold Blk at h h'
 rw [h] at h'
 injection h' with h'
 injection h' with _ ht
 exact hne ht
end
def Sees (w : World) (size : Nat) (A : Option Addr) (n : Nat) (xs : List Value) : Prop :=
 xs.length = n * size /\ (0 < n -> ∃ g off, A = some ⟨g, off, none⟩ /\ ∀ j u, xs[j]? = some u -> w.cell? ⟨g, off + j, none⟩ = some u)
section
variable {F : Nat -> Prop} {w w' : World} {size n : Nat} {A : Option Addr} {xs : List Value}
theorem Sees.keep0 (h : Sees w size A n xs) (hk : 0 < n -> ∀ g off, A = some ⟨g, off, none⟩ -> g < w.heap.size -> w'.heap[g]? = w.heap[g]?) : Sees w' size A n xs :=
 ⟨h.1, fun hn => by
  obtain ⟨g, off, e, hc⟩ := h.2 hn
  refine ⟨g, off, e, fun j u hu => ?_⟩
  have h1 := hc j u hu
  exact (World.cell?_of_block (w := w) (hk hn g off e (World.block_lt_of_cell? w _ h1))).trans h1⟩
theorem Sees.keep (h : Sees w size A n xs) (hk : ∀ g off, A = some ⟨g, off, none⟩ -> g < w.heap.size -> w'.heap[g]? = w.heap[g]?) : Sees w' size A n xs := h.keep0 fun _ => hk
theorem Sees.fr (h : Sees w size A n xs) (hf : Fr F w w') (hn : 0 < n -> ∀ a, A = some a -> ¬ F a.block) : Sees w' size A n xs :=
 h.keep0 fun h0 g off e hg => hf.block g hg (hn h0 _ e)
theorem Sees.lt (h : Sees w size A n xs) (hn : 0 < n) (hs : 0 < size) : ∀ a, A = some a -> a.block < w.heap.size := by
 intro a ha
 obtain ⟨g, off, e, hc⟩ := h.2 hn
 rw [ha] at e
 injection e with e
 subst e
 have hl : 0 < xs.length := by rw [h.1]; exact Nat.mul_pos hn hs
 exact World.block_lt_of_cell? w _ (hc 0 xs[0] (List.getElem?_eq_getElem hl))
theorem Sees.below (h : Sees w size A n xs) (hb : Below w.heap.size w w') : Sees w' size A n xs :=
 h.keep fun g _ _ hg => hb.block g hg
theorem Sees.none_ (w : World) (size : Nat) (A : Option Addr) : Sees w size A 0 [] := ⟨by simp, fun h => absurd h (by omega)⟩
theorem Sees.of_own {base : Nat} {e : TypeId} {c : Nat} (h : w.ownsRow base e size (.slice A n c) n xs) : Sees w size A n xs := by
 refine ⟨h.1, fun hn => ?_⟩
 rcases h.2 with ⟨_, h0⟩ | ⟨g, cap, cur, hv, hb, hg, hnc, hcm, hcs, ht⟩
 ·omega
 ·have hA : A = some ⟨g, 0, none⟩ := by injection hv
  subst hA
  refine ⟨g, 0, rfl, fun j u hu => ?_⟩
  have := h.cells (g := g) rfl j u hu
  unfold Addr.add at this
  by_cases hj : j = 0
  ·subst hj; simpa using this
  ·simpa [hj] using this
theorem Sees.piece {g off : Nat} (h : Sees w 1 (some ⟨g, off, none⟩) n xs) (i m : Nat) (hm : i + m <= n) : Sees w 1 (some ⟨g, off + i, none⟩) m ((xs.drop i).take m) := by
 refine ⟨by have := h.1; simp; omega, fun hm0 => ?_⟩
 obtain ⟨g', off', e, hc⟩ := h.2 (by omega)
 injection e with e
 injection e with e1 e2 _
 subst e1; subst e2
 refine ⟨g, off + i, rfl, fun j u hu => ?_⟩
 rw [List.getElem?_take] at hu
 split at hu
 ·rw [List.getElem?_drop] at hu
  have := hc _ _ hu
  rwa [<- Nat.add_assoc] at this
 ·cases hu
end
theorem sees_new (w : World) (T : TypeId) (cs : List Value) (size n : Nat) (h : cs.length = n * size) : Sees (w.alloc (.cells cs.toArray T)) size (some ⟨w.heap.size, 0, none⟩) n cs :=
 ⟨h, fun _ => ⟨_, 0, rfl, fun j u hu => by rw [Nat.zero_add, (Blk.new w T cs.toArray).cell j, List.getElem?_toArray]; exact hu⟩⟩
def u8s (l : List UInt8) : List Value := l.map fun c => Value.int .u8 (c.toNat : Int)
@[simp] theorem length_u8s (l : List UInt8) : (u8s l).length = l.length := by simp [u8s]
theorem u8s_one (l : List UInt8) : ∀ u ∈ u8s l, u.oneCell' = true := by
 intro u hu
 obtain ⟨c, _, rfl⟩ := List.mem_map.1 hu
 rfl
theorem u8s_append (a b : List UInt8) : u8s (a ++ b) = u8s a ++ u8s b := by simp [u8s]
theorem u8s_take (l : List UInt8) (n : Nat) : u8s (l.take n) = (u8s l).take n := by simp [u8s]
theorem u8s_drop (l : List UInt8) (n : Nat) : u8s (l.drop n) = (u8s l).drop n := by simp [u8s]
theorem u8s_splice (l : List UInt8) (i : Nat) (m : List UInt8) : u8s (splice l i m) = splice (u8s l) i (u8s m) := by simp [splice, u8s_append, u8s_take, u8s_drop]
section
variable {F : Nat -> Prop} {w w' : World} {base size n : Nat} {e : TypeId} {v : Value} {xs : List Value}
theorem own_keep (h : w.ownsRow base e size v n xs) (hk : ∀ g, v.ownBlock = some g -> w'.heap[g]? = w.heap[g]?) : w'.ownsRow base e size v n xs := by
 refine ⟨h.1, ?_⟩
 rcases h.2 with h0 | ⟨g, cap, cur, hv, hb, hg, r⟩
 ·exact .inl h0
 ·exact .inr ⟨g, cap, cur, hv, hb, (hk g (by rw [hv]; rfl)).trans hg, r⟩
theorem own_fr (h : w.ownsRow base e size v n xs) (hf : Fr F w w') (hn : ∀ g, v.ownBlock = some g -> ¬ F g) : w'.ownsRow base e size v n xs :=
 own_keep h fun g hg => hf.block g (h.lt g hg).2 (hn g hg)
theorem own_below (h : w.ownsRow base e size v n xs) (hf : Below w.heap.size w w') : w'.ownsRow base e size v n xs :=
 own_keep h fun g hg => hf.block g (h.lt g hg).2
theorem own_base {base' : Nat} (h : w.ownsRow base e size v n xs) (hb : base' <= base) : w.ownsRow base' e size v n xs := by
 refine ⟨h.1, ?_⟩
 rcases h.2 with h0 | ⟨g, cap, cur, hv, hg, r⟩
 ·exact .inl h0
 ·exact .inr ⟨g, cap, cur, hv, by omega, r⟩
theorem own_open (h : w.ownsRow base e size v n xs) (hn : 0 < n) : ∃ g cap cur, v = .slice (some ⟨g, 0, none⟩) n cap /\ base <= g /\ Blk w g e cur /\ n <= cap /\ cap <= maxLen /\ cur.size = cap * size /\ cur.toList.take (n * size) = xs := by
 rcases h.2 with ⟨_, h0⟩ | ⟨g, cap, cur, hv, hb, hg, r⟩
 ·omega
 ·exact ⟨g, cap, cur, hv, hb, hg, r⟩
theorem own_ne {g' : Nat} {t' : TypeId} {cs' : Array Value} (h : w.ownsRow base e size v n xs) (h' : Blk w g' t' cs') (hne : e ≠ t') : ∀ g, v.ownBlock = some g -> g ≠ g' := by
 intro g hg
 rcases h.2 with ⟨rfl, h0⟩ | ⟨g1, cap, cur, rfl, hb, hg1, r⟩
 ·cases hg
 ·simp [Value.ownBlock] at hg
  subst hg
  exact Blk.same (t := e) hg1 h' hne
theorem own_ne2 {base' size' n' : Nat} {e' : TypeId} {v' : Value} {xs' : List Value} (h : w.ownsRow base e size v n xs) (h' : w.ownsRow base' e' size' v' n' xs') (hne : e ≠ e') : ∀ g, v.ownBlock = some g -> v'.ownBlock ≠ some g := by
 intro g hg hg'
 rcases h'.2 with ⟨rfl, h0⟩ | ⟨g1, cap, cur, rfl, hb, hg1, r⟩
 ·cases hg'
 ·simp [Value.ownBlock] at hg'
  subst hg'
  exact own_ne h (t' := e') hg1 hne g1 hg rfl
theorem own_mk {g cap : Nat} {cur : Array Value} (hb : base <= g) (hg : Blk w g e cur) (h1 : n <= cap) (h2 : cap <= maxLen) (h3 : cur.size = cap * size) (h4 : cur.toList.take (n * size) = xs) :
  w.ownsRow base e size (.slice (some ⟨g, 0, none⟩) n cap) n xs :=
 ⟨by rw [<- h4, List.length_take, Array.length_toList, h3]; exact Nat.min_eq_left (Nat.mul_le_mul_right _ h1), .inr ⟨g, cap, cur, rfl, hb, hg, h1, h2, h3, h4⟩⟩
end
theorem own_cell {w : World} {base size n cap g : Nat} {e : TypeId} {xs : List Value} (h : w.ownsRow base e size (.slice (some ⟨g, 0, none⟩) n cap) n xs) {j : Nat} {u : Value} (hu : xs[j]? = some u) : w.cell? ⟨g, j, none⟩ = some u := by
 have := h.cells (g := g) rfl j u hu
 unfold Addr.add at this
 by_cases hj : j = 0
 ·subst hj; simpa using this
 ·simpa [hj] using this
theorem flatMap_get {α β : Type} (f : α -> List β) (m : Nat) (hf : ∀ x, (f x).length = m) (l : List α) (k j : Nat) (x : α) (hx : l[k]? = some x) (hj : j < m) : (l.flatMap f)[k * m + j]? = (f x)[j]? := by
 induction l generalizing k with
 | nil => simp at hx
 | cons y l ih =>
  cases k with
  | zero =>
   simp at hx
   subst hx
   rw [List.flatMap_cons, Nat.zero_mul, Nat.zero_add, List.getElem?_append_left (by rw [hf]; exact hj)]
  | succ k =>
   rw [List.flatMap_cons, List.getElem?_append_right (by rw [hf, Nat.succ_mul]; omega), hf]
   rw [show (k + 1) * m + j - m = k * m + j by rw [Nat.succ_mul]; omega]
   exact ih k (by simpa using hx)
theorem length_flatMap_const {α β : Type} (f : α -> List β) (m : Nat) (hf : ∀ x, (f x).length = m) (l : List α) : (l.flatMap f).length = l.length * m := by
 induction l with
 | nil => simp
 | cons y l ih => rw [List.flatMap_cons, List.length_append, hf, ih, List.length_cons, Nat.succ_mul]; omega
theorem take_splice {α : Type} (L : List α) (off n : Nat) (cs : List α) (h : off + cs.length <= n) : (splice L off cs).take n = splice (L.take n) off cs := by
 by_cases hL : off <= L.length
 ·unfold splice
  have h1 : (L.take off).length = off := by simp; omega
  rw [List.take_append, h1, List.take_append, List.take_take, List.take_take, List.drop_take]
  rw [Nat.min_eq_right (by omega : off <= n), Nat.min_eq_left (by omega : off <= n), List.take_of_length_le (by omega : cs.length <= n - off)]
  congr 3
  omega
 ·have h2 : L.take off = L := List.take_of_length_le (by omega)
  have h3 : L.take n = L := List.take_of_length_le (by omega)
  unfold splice
  rw [h2, h3, List.drop_eq_nil_of_le (by omega), h2, List.append_nil, List.take_of_length_le]
  simp
  omega
/-! ### append onto an owned row, the source shown, nil or empty let in -/
section
variable {P : Program} {w : World}
theorem run_app (base : Nat) (t ty e : TypeId) (z : Value) (size bytes : Nat) (ht : P.underlying t = some (.slice e))
  (hi : (P.info? e).map (fun i => (i.zero, i.size, i.bytes)) = some (some z, size, bytes)) (hzs : z.cells.size = size) (hsz : 0 < size)
  (v : Value) (n : Nat) (xs : List Value) (hown : w.ownsRow base e size v n xs)
  (A : Option Addr) (m c : Nat) (news : List Value) (hr : Sees w size A m news) (h1 : ∀ u ∈ news, u.oneCell' = true)
  (h63 : n + m <= maxLen) (hbytes : (n + m) * bytes <= 140737488355328) (hbase : base <= w.heap.size) :
  ∃ v' w', (Builtin.append_ #[t, t] ty #[v, .slice A m c]).run P w = .ok v' w' /\ w'.ownsRow base e size v' (n + m) (xs ++ news) /\ w.grownBy w' v.ownBlock /\
   (v'.ownBlock = v.ownBlock \/ v'.ownBlock = some w.heap.size) /\ (v = .slice none 0 0 /\ m = 0 -> v' = .slice none 0 0) := by
 obtain ⟨i, hi, hz, hs, hb⟩ := info_parts hi
 rcases A with _ | ad
 ·have hm : m = 0 := by
   rcases Nat.eq_zero_or_pos m with h0 | h0
   ·exact h0
   ·obtain ⟨g, off, h, _⟩ := hr.2 h0
    cases h
  subst hm
  have hn : news = [] := List.eq_nil_of_length_eq_zero (by simpa using hr.1)
  subst hn
  refine ⟨v, w, ?_, by simpa using hown, World.grownBy.refl w _, .inl rfl, fun h => h.1⟩
  rcases hown.2 with ⟨rfl, rfl⟩ | ⟨g, cap, cur, rfl, _, _, hnc, _⟩
  ·simp [Builtin.append_, run_underlying ht, sizeOf, typeInfo, hi, Builtin.lenOf, Builtin.firstCells]
  ·simp [Builtin.append_, run_underlying ht, sizeOf, typeInfo, hi, Builtin.lenOf, Builtin.firstCells, hnc, storeCells]
 ·have hcells : ∀ j u, news[j]? = some u -> w.cell? (ad.add j) = some u := by
   intro j u hu
   rcases Nat.eq_zero_or_pos m with h0 | h0
   ·subst h0
    have hn : news = [] := List.eq_nil_of_length_eq_zero (by simpa using hr.1)
    subst hn
    simp at hu
   ·obtain ⟨g, off, h, hc⟩ := hr.2 h0
    injection h with h
    subst h
    have := hc j u hu
    unfold Addr.add
    by_cases hj : j = 0
    ·subst hj; simpa using this
    ·simpa [hj] using this
  obtain ⟨v', w', hrun, h2, h3, h4, h5⟩ := run_append_own_at (P := P) w base t ty e i z size bytes ht hi hz hs hb hzs hsz v n xs hown ad m c news hr.1 hcells h1 h63 hbytes hbase
  exact ⟨v', w', hrun, h2, h3, h5, h4.2⟩
theorem wp_app {o : Oper} {a : Act} {K : Act -> World -> Prop} {Q : Exit -> Act -> World -> Prop} (s x : Operand) (t : TypeId)
  (ho : o.op = .call { callee := .builtin .append, args := #[s, x], argTypes := #[t, t] })
  (base : Nat) (e : TypeId) (z : Value) (size bytes : Nat) (ht : P.underlying t = some (.slice e))
  (hi : (P.info? e).map (fun i => (i.zero, i.size, i.bytes)) = some (some z, size, bytes)) (hzs : z.cells.size = size) (hsz : 0 < size)
  (v : Value) (n : Nat) (xs : List Value) (hs : a.eval s = v) (hown : w.ownsRow base e size v n xs)
  (A : Option Addr) (m c : Nat) (news : List Value) (hx : a.eval x = .slice A m c) (hr : Sees w size A m news) (h1 : ∀ u ∈ news, u.oneCell' = true)
  (h63 : n + m <= maxLen) (hbytes : (n + m) * bytes <= 140737488355328) (hbase : base <= w.heap.size)
  (h : ∀ v' w', w'.ownsRow base e size v' (n + m) (xs ++ news) -> w.grownBy w' v.ownBlock -> (v'.ownBlock = v.ownBlock \/ v'.ownBlock = some w.heap.size) -> (v = .slice none 0 0 /\ m = 0 -> v' = .slice none 0 0) -> K (a.put o.dst v') w') : o.wp P a w K Q := by
 obtain ⟨v', w', hrun, h2, h3, h4, h5⟩ := run_app (P := P) base t o.type e z size bytes ht hi hzs hsz v n xs hown A m c news hr h1 h63 hbytes hbase
 unfold Oper.wp execOp
 simp only [ho, resolve, invoke, builtin, Sem.run_bind, Sem.run_pure, Result.andThen_ok, List.map_toArray, List.map_cons, List.map_nil, hs, hx, hrun]
 exact h v' w' h2 h3 h4 h5
theorem wpList_app {ops : Array Oper} {rest : List Oper} {o : Oper} {a : Act} {Q : Exit -> Act -> World -> Prop} (hgd : o.guard = none) (s x : Operand) (t : TypeId)
  (ho : o.op = .call { callee := .builtin .append, args := #[s, x], argTypes := #[t, t] })
  (base : Nat) (e : TypeId) (z : Value) (size bytes : Nat) (ht : P.underlying t = some (.slice e))
  (hi : (P.info? e).map (fun i => (i.zero, i.size, i.bytes)) = some (some z, size, bytes)) (hzs : z.cells.size = size) (hsz : 0 < size)
  (v : Value) (n : Nat) (xs : List Value) (hs : a.eval s = v) (hown : w.ownsRow base e size v n xs)
  (A : Option Addr) (m c : Nat) (news : List Value) (hx : a.eval x = .slice A m c) (hr : Sees w size A m news) (h1 : ∀ u ∈ news, u.oneCell' = true)
  (h63 : n + m <= maxLen) (hbytes : (n + m) * bytes <= 140737488355328) (hbase : base <= w.heap.size)
  (h : ∀ v' w', w'.ownsRow base e size v' (n + m) (xs ++ news) -> w.grownBy w' v.ownBlock -> (v'.ownBlock = v.ownBlock \/ v'.ownBlock = some w.heap.size) -> (v = .slice none 0 0 /\ m = 0 -> v' = .slice none 0 0) -> wpList P ops Q rest (a.put o.dst v') w') : wpList P ops Q (o :: rest) a w :=
 wpList_plain hgd fun _ hK => wp_app s x t ho base e z size bytes ht hi hzs hsz v n xs hs hown A m c news hx hr h1 h63 hbytes hbase fun v' w' h2 h3 h4 h5 => hK _ _ (h v' w' h2 h3 h4 h5)
end
/-! ### copy of bytes into a block that is known whole -/
section
variable {P : Program} {w : World}
theorem wp_cpy {o : Oper} {a : Act} {K : Act -> World -> Prop} {Q : Exit -> Act -> World -> Prop} (d s : Operand) (dT sT : TypeId)
  (ho : o.op = .call { callee := .builtin .copy, args := #[d, s], argTypes := #[dT, sT] }) (elem : TypeId) (hu : P.underlying dT = some (.slice elem)) (hsz : (P.info? elem).map (·.size) = some 1)
  (g off dLen dCap : Nat) (sp : Option Addr) (sLen sCap : Nat) (hd : a.eval d = .slice (some ⟨g, off, none⟩) dLen dCap) (hs : a.eval s = .slice sp sLen sCap)
  (cur : Array Value) (t : TypeId) (hg : Blk w g t cur) (cs : List Value) (hr : Sees w 1 sp sLen cs) (hfit : off + dLen <= cur.size) (h1 : ∀ v ∈ cs, v.oneCell' = true)
  (h : ∀ w', Blk w' g t (splice cur.toList off (cs.take dLen)).toArray -> Fr (· = g) w w' -> K (a.put o.dst (goInt (cs.take dLen).length)) w') : o.wp P a w K Q := by
 have hl : cs.length = sLen := by simpa using hr.1
 by_cases h0 : (cs.take dLen).length = 0
 ·have e0 : cs.take dLen = [] := List.eq_nil_of_length_eq_zero h0
  have hrun := run_copy_none (P := P) w dT sT o.type elem (some ⟨g, off, none⟩) sp dLen dCap sLen sCap hu hsz (by rw [List.length_take, hl] at h0; show min _ _ = 0; omega)
  unfold Oper.wp
  simp [execOp, ho, resolve, invoke, builtin, hd, hs, hrun, Result.andThen]
  have := h w (by rw [e0]; simpa [splice] using hg) (Fr.refl _ _)
  rw [e0] at this
  exact this
 ·have hpos : 0 < sLen := by rw [List.length_take, hl] at h0; omega
  obtain ⟨g', off', rfl, hc⟩ := hr.2 hpos
  have hsrc : ∀ j v, (cs.take dLen)[j]? = some v -> w.cell? ((⟨g', off', none⟩ : Addr).add j) = some v := by
   intro j u hu
   rw [List.getElem?_take] at hu
   split at hu
   ·have := hc j u hu
    unfold Addr.add
    by_cases hj : j = 0
    ·subst hj; simpa using this
    ·simpa [hj] using this
   ·cases hu
  have hrun := run_copy_row (P := P) w dT sT o.type elem g off dLen dCap ⟨g', off', none⟩ sLen sCap cur t (cs.take dLen) hu hsz hg (by rw [List.length_take, hl]; exact Nat.min_comm _ _) hsrc (by simp; omega) (fun v hv => h1 v (List.mem_of_mem_take hv))
  unfold Oper.wp
  simp [execOp, ho, resolve, invoke, builtin, hd, hs, hrun, Result.andThen]
  have := h (w.setRow g (splice cur.toList off (cs.take dLen)).toArray) (setRow_heap w g _ _ t _ hg) (Fr.setRow _ _ _ rfl)
  simpa [splice, Oper.upon_value] using this
theorem wpList_cpy {ops : Array Oper} {rest : List Oper} {o : Oper} {a : Act} {Q : Exit -> Act -> World -> Prop} (hgd : o.guard = none) (d s : Operand) (dT sT : TypeId)
  (ho : o.op = .call { callee := .builtin .copy, args := #[d, s], argTypes := #[dT, sT] }) (elem : TypeId) (hu : P.underlying dT = some (.slice elem)) (hsz : (P.info? elem).map (·.size) = some 1)
  (g off dLen dCap : Nat) (sp : Option Addr) (sLen sCap : Nat) (hd : a.eval d = .slice (some ⟨g, off, none⟩) dLen dCap) (hs : a.eval s = .slice sp sLen sCap)
  (cur : Array Value) (t : TypeId) (hg : Blk w g t cur) (cs : List Value) (hr : Sees w 1 sp sLen cs) (hfit : off + dLen <= cur.size) (h1 : ∀ v ∈ cs, v.oneCell' = true)
  (h : ∀ w', Blk w' g t (splice cur.toList off (cs.take dLen)).toArray -> Fr (· = g) w w' -> wpList P ops Q rest (a.put o.dst (goInt (cs.take dLen).length)) w') : wpList P ops Q (o :: rest) a w :=
 wpList_plain hgd fun _ hK => wp_cpy d s dT sT ho elem hu hsz g off dLen dCap sp sLen sCap hd hs cur t hg cs hr hfit h1 fun w' a1 a2 => hK _ _ (h w' a1 a2)
theorem step_cpy {ops : Array Oper} {o : Oper} {a : Act} {K : Act -> World -> Prop} {Q : Exit -> Act -> World -> Prop} {E : Prop} (hgd : o.guard = none) (d s : Operand) (dT sT : TypeId)
  (ho : o.op = .call { callee := .builtin .copy, args := #[d, s], argTypes := #[dT, sT] }) (elem : TypeId) (hu : P.underlying dT = some (.slice elem)) (hsz : (P.info? elem).map (·.size) = some 1)
  (g off dLen dCap : Nat) (sp : Option Addr) (sLen sCap : Nat) (hd : a.eval d = .slice (some ⟨g, off, none⟩) dLen dCap) (hs : a.eval s = .slice sp sLen sCap)
  (cur : Array Value) (t : TypeId) (hg : Blk w g t cur) (cs : List Value) (hr : Sees w 1 sp sLen cs) (hfit : off + dLen <= cur.size) (h1 : ∀ v ∈ cs, v.oneCell' = true)
  (h : ∀ w', Blk w' g t (splice cur.toList off (cs.take dLen)).toArray -> Fr (· = g) w w' -> K (a.put o.dst (goInt (cs.take dLen).length)) w') :
  if Region.wanted o (yielded ops a.tmps) = true then Oper.wp P o a w K Q else E := by
 have hw : Region.wanted o (yielded ops a.tmps) = true := by simp [Region.wanted, hgd]
 rw [if_pos hw]
 exact wp_cpy d s dT sT ho elem hu hsz g off dLen dCap sp sLen sCap hd hs cur t hg cs hr hfit h1 h
end
/-! ### octets as a string -/
def str (l : List UInt8) : ByteArray := ⟨l.toArray⟩
@[simp] theorem str_data (l : List UInt8) : (str l).data.toList = l := by simp [str]
@[simp] theorem size_str (l : List UInt8) : (str l).size = l.length := by simp [str, ByteArray.size]
theorem str_toList (l : List UInt8) : (str l).toList = l := by rw [ByteArray.toList_eq, str_data]
theorem beq_dec (a b : List UInt8) : (a == b) = decide (a = b) := by by_cases h : a = b <;> simp [h]
theorem run_to_string {P : Program} {w : World} {src dst e : TypeId} (hs : P.underlying src = some (.slice e)) (he : P.underlying e = some (.int .u8)) (hd : P.underlying dst = some .string)
  {A : Option Addr} {n : Nat} (c : Nat) {l : List UInt8} (h : Sees w 1 A n (u8s l)) : (convert src dst (.slice A n c)).run P w = .ok (.string (str l)) w := by
 have hl : l.length = n := by simpa using h.1
 rcases A with _ | a
 ·have h0 : n = 0 := by
   rcases Nat.eq_zero_or_pos n with h0 | h0
   ·exact h0
   ·obtain ⟨g, off, e, _⟩ := h.2 h0; cases e
  have : l = [] := List.eq_nil_of_length_eq_zero (by omega)
  subst this
  exact run_convert_bytes_nil w src e hs he _ _ dst hd
 ·have hcells : (loadCells a n).run P w = .ok ((l.map fun c => (c.toNat : Int)).map (Value.int .u8)).toArray w := by
   have := run_loadCells_list (P := P) w a (u8s l) (fun j v hj => by
    have hjl := (List.getElem?_eq_some_iff.1 hj).1
    rw [length_u8s] at hjl
    obtain ⟨g, off, e, hc⟩ := h.2 (by omega)
    injection e with e
    subst e
    have := hc j v hj
    unfold Addr.add
    by_cases hj0 : j = 0
    ·subst hj0; simpa using this
    ·simpa [hj0] using this)
   have e : (u8s l).length = n := by simp [hl]
   rw [e] at this
   rw [this]
   simp [u8s]
  rw [run_convert_bytes_string w src dst e _ n c hs he hd, run_bytesToString w _ n c _ hcells, foldl_push_bytes]
  simp [str, ByteArray.empty, ByteArray.emptyWithCapacity, Function.comp_def]
  rfl
/-! ### slices of integers that came in -/
def IsRow (k : IntKind) (w : World) (a : Option Addr) (len cap : Nat) (zs : List Int) : Prop :=
 (a = none /\ len = 0 /\ cap = 0 /\ zs = []) \/
 ∃ x, a = some x /\ len <= cap /\ cap <= maxLen /\ zs.length = cap /\ (∀ i, i < zs.length -> w.cell? (x.add i) = some (.int k (zs.getD i 0))) /\ ∀ n ∈ zs, (Lit.int k n).wf = true
theorem IsRow.sees {k : IntKind} {w : World} {a : Option Addr} {len cap : Nat} {zs : List Int} (h : IsRow k w a len cap zs) :
  Sees w 1 a len ((zs.take len).map (Value.int k)) /\ (zs.take len).length = len /\ len <= cap /\ cap <= maxLen /\ ∀ n ∈ zs.take len, (Lit.int k n).wf = true := by
 rcases h with ⟨rfl, rfl, rfl, rfl⟩ | ⟨x, rfl, hl, hm, hz, hc, hw⟩
 ·exact ⟨⟨rfl, fun h => absurd h (by omega)⟩, rfl, Nat.le_refl _, Nat.zero_le _, by simp⟩
 ·refine ⟨⟨by simp; omega, fun hn => ?_⟩, by simp; omega, hl, hm, fun n hn => hw n (List.mem_of_mem_take hn)⟩
  obtain ⟨g, off, spot⟩ := x
  have h0 := hc 0 (by omega)
  have hspot : spot = none := by simpa [Addr.add] using World.cell?_spot h0
  subst hspot
  refine ⟨g, off, rfl, fun j u hu => ?_⟩
  rw [List.getElem?_map, List.getElem?_take] at hu
  split at hu
  ·have hj : j < zs.length := by omega
   have := hc j hj
   rw [List.getElem?_eq_getElem hj] at hu
   simp at hu
   rw [<- hu]
   have e : (⟨g, off, none⟩ : Addr).add j = ⟨g, off + j, none⟩ := by unfold Addr.add; split <;> simp_all
   rw [e] at this
   rw [this]
   simp [List.getD, List.getElem?_eq_getElem hj]
  ·simp at hu
theorem wf_u8 {n : Int} (h : (Lit.int .u8 n).wf = true) : 0 <= n /\ n <= 255 := by
 simp [Lit.wf, IntKind.min, IntKind.max, IntKind.bits, IntKind.signed] at h
 omega
theorem own_shape {w : World} {base e size n : Nat} {v : Value} {xs : List Value} (h : w.ownsRow base e size v n xs) : ∃ A c, v = .slice A n c := by
 rcases h.2 with ⟨rfl, h0⟩ | ⟨g, cap, cur, rfl, _⟩
 ·exact ⟨none, 0, by rw [h0]⟩
 ·exact ⟨_, _, rfl⟩
theorem or_add {x c : Nat} (hc : c < 256) : x * 256 ||| c = x * 256 + c := by
 have := Nat.shiftLeft_add_eq_or_of_lt (i := 8) hc x
 rw [Nat.shiftLeft_eq] at this
 exact this.symm
theorem Blk.drew {g : Nat} {t : TypeId} {cs : Array Value} {w : World} (h : Blk w g t cs) : Blk w.drew g t cs := h
theorem Blk.setRow {w : World} {g : Nat} {t : TypeId} {cs : Array Value} (h : Blk w g t cs) (cs' : Array Value) : Blk (w.setRow g cs') g t cs' := by
 unfold Blk at h ⊢
 simp [World.setRow, Array.getElem?_modify, h]
theorem below_setRow {B : Nat} {w w' : World} (h : Below B w w') {g : Nat} (hg : B <= g) (cs : Array Value) : Below B w (w'.setRow g cs) :=
 ⟨h.os, h.tape, h.output, by simpa using h.size, fun k hk => (setRow_other w' g k cs (by omega)).trans (h.block k hk)⟩
theorem wf_i64 {n : Int} (h : (Lit.int .i64 n).wf = true) : -9223372036854775808 <= n /\ n <= 9223372036854775807 := by
 simp [Lit.wf, IntKind.min, IntKind.max, IntKind.bits, IntKind.signed] at h
 omega
theorem Blk.newAt {w : World} {g : Nat} {t : TypeId} {cs cs' : Array Value} (hg : g = w.heap.size) (e : cs = cs') : Blk (w.alloc (.cells cs t)) g t cs' := by rw [hg, <- e]; exact Blk.new _ _ _
end
section
set_option maxRecDepth 4000
open Go.RowKit
def cst (x : Nat) : Nat := x / 2 ^^^ 3988292384 * (x % 2)
def cit (x : Nat) : Nat -> Nat
 | 0 => x
 | j + 1 => cst (cit x j)
def crs (l : List UInt8) (x : Nat) : Nat := l.foldl (fun x c => cit (x ^^^ c.toNat) 8) x
def crc (l : List UInt8) : Nat := crs l 4294967295 ^^^ 4294967295
theorem xor32 {a b : Nat} (ha : a < 4294967296) (hb : b < 4294967296) : a ^^^ b < 4294967296 := Nat.xor_lt_two_pow (n := 32) ha hb
theorem cst_lt {x : Nat} (h : x < 4294967296) : cst x < 4294967296 := xor32 (by omega) (by
 have : x % 2 = 0 \/ x % 2 = 1 := by omega
 rcases this with e | e <;> rw [e] <;> omega)
theorem cit_lt {x : Nat} (h : x < 4294967296) : ∀ j, cit x j < 4294967296
 | 0 => h
 | j + 1 => cst_lt (cit_lt h j)
theorem crs_next (l : List UInt8) (x : Nat) {k : Nat} (h : k < l.length) : crs (l.take (k + 1)) x = cit (crs (l.take k) x ^^^ (l[k]'h).toNat) 8 := by
 rw [List.take_succ_eq_append_getElem h, crs, List.foldl_append]; rfl
theorem crs_lt : ∀ (l : List UInt8) (x : Nat), x < 4294967296 -> crs l x < 4294967296
 | [], _, h => h
 | c :: l, x, h => crs_lt l _ (cit_lt (xor32 h (by have := c.toNat_lt; omega)) 8)
theorem sees_u8 {w : World} {A : Option Addr} {n i : Nat} {l : List UInt8} (h : Sees w 1 A n (u8s l)) (hi : i < n) (hl : i < l.length) : ∃ g off, A = some ⟨g, off, none⟩ /\ w.cell? ⟨g, off + i, none⟩ = some (.int .u8 ((l[i]'hl).toNat : Nat)) := by
 obtain ⟨g, off, e, hc⟩ := h.2 (by omega)
 exact ⟨g, off, e, hc i _ (by simp [u8s, hl])⟩
theorem ccrc_any (l : List UInt8) (gp cp : Nat) (A : Option Addr) (n c : Nat) (w : World) (hl : l.length = n) (hn : n <= 100000) (hp : w.cell? ⟨gp, 0, none⟩ = some (.slice A n c)) (hS : Sees w 1 A n (u8s l)) :
  Calls Tryz.prog 155 #[.slice (some ⟨gp, 0, none⟩) 1 cp] w fun e w' => e = .returned (.int .u32 (crc l : Nat)) /\ w = w' := by
 have HS := Lh hS; clear hS
 go_enter Tryz.func155, Tryz.ntmps155
 go_wp2_with fail
 go_loop [3, 10] (fun x i => (i = .int .i64 0 /\ x = .int .u32 4294967295) \/ (i = .int .i64 1 /\ x = .int .u32 (crs l 4294967295 : Nat))) (fun _ i => 1 - (intOf i).toNat)
 case atStart => exact .inl ⟨rfl, rfl⟩
 case round =>
  rcases hrel with ⟨rfl, rfl⟩ | ⟨rfl, rfl⟩
  ·go_wp2_with fail
   go_loop [3, 16] (fun x i => ∃ k : Nat, k <= n /\ i = .int .i64 k /\ x = .int .u32 (crs (l.take k) 4294967295 : Nat)) (fun _ i => n - (intOf i).toNat)
   case atStart => exact ⟨0, by omega, rfl, rfl⟩
   case round =>
    obtain ⟨k, hk, rfl, rfl⟩ := hrel
    by_cases hlt : k < n
    ·have hlti : (k : Int) < (n : Int) := by omega
     obtain ⟨g, off, rfl, hcell⟩ := sees_u8 HS.out hlt (by omega)
     have hnx0 := crs_next l 4294967295 (show k < l.length by omega)
     obtain ⟨d, hd⟩ : ∃ d, d = (l[k]'(by omega)).toNat := ⟨_, rfl⟩
     have hd256 : d < 256 := by rw [hd]; exact UInt8.toNat_lt _
     rw [<- hd] at hcell hnx0
     have hx := crs_lt (l.take k) 4294967295 (by omega)
     have HN := Lh hnx0; clear hnx0 hd
     generalize crs (l.take k) 4294967295 = x at *
     have HX := Lh (u32_xor_nat x d hx (by omega))
     have hs := xor32 hx (show d < 4294967296 by omega)
     go_wp2_with fail
     rw [HX.out]
     generalize x ^^^ d = y at *
     go_loop [3, 24] (fun x j => ∃ i : Nat, i <= 8 /\ j = .int .i64 i /\ x = .int .u32 (cit y i : Nat)) (fun _ j => 8 - (intOf j).toNat)
     case atStart => exact ⟨0, by omega, rfl, rfl⟩
     case round =>
      obtain ⟨i, hi, rfl, rfl⟩ := hrel
      by_cases hl8 : i < 8
      ·have hl8i : (i : Int) < 8 := by omega
       have hz := cit_lt hs i
       have hnx : cit y (i + 1) = cst (cit y i) := rfl
       generalize cit y i = z at *
       obtain ⟨q, hq⟩ : ∃ q, q = z / 2 := ⟨_, rfl⟩
       have hqi : (z : Int) / 2 = (q : Int) := by omega
       have hand : bits BinOp.and IntKind.u32 (z : Int) 1 = ((z % 2 : Nat) : Int) := by
        have := u32_and_nat z 1 hz (by omega)
        rwa [Nat.and_one_is_mod] at this
       have hall : bits BinOp.xor IntKind.u32 (q : Int) (bits BinOp.and IntKind.u32 3988292384 (-(bits BinOp.and IntKind.u32 (z : Int) 1) % 4294967296)) = ((cst z : Nat) : Int) := by
        rw [hand]
        rcases Nat.mod_two_eq_zero_or_one z with e | e <;> rw [e]
        ·have h0 : bits BinOp.and IntKind.u32 3988292384 (-((0 : Nat) : Int) % 4294967296) = ((0 : Nat) : Int) := by decide +kernel
         rw [h0, u32_xor_nat q 0 (by omega) (by omega), cst, e, <- hq, Nat.mul_zero]
        ·have h1 : bits BinOp.and IntKind.u32 3988292384 (-((1 : Nat) : Int) % 4294967296) = ((3988292384 : Nat) : Int) := by decide +kernel
         rw [h1, u32_xor_nat q 3988292384 (by omega) (by omega), cst, e, <- hq, Nat.mul_one]
       have HALL := Lh hall; have HNX := Lh hnx; clear hall hnx hand hq
       go_wp2_with fail
       go_round
       case rel => exact ⟨i + 1, by omega, by go_num, by rw [HNX.out, <- HALL.out]⟩
       case measure => simp [intOf]; omega
      ·obtain rfl : i = 8 := by omega
       go_wp2_with fail
       go_round
       case rel => exact ⟨k + 1, by omega, by go_num, by rw [HN.out]⟩
       case measure => simp [intOf]; omega
    ·obtain rfl : k = n := by omega
     have hge : ¬ ((k : Int) < (k : Int)) := by omega
     rw [List.take_of_length_le (by omega)]
     go_wp2_with fail
     go_round
     case rel => exact .inr ⟨rfl, rfl⟩
     case measure => simp [intOf]
  ·have HX := Lh (u32_xor_nat 4294967295 (crs l 4294967295) (by omega) (crs_lt _ _ (by omega)))
   go_wp2_with fail
   go_ret
   refine ⟨ret_int ?_, rfl⟩
   rw [show IntKind.u32.max = ((4294967295 : Nat) : Int) from rfl, HX.out, crc, Nat.xor_comm]
end
section
set_option maxRecDepth 4000
open Go.RowKit
def be (n : Nat) : Nat -> List UInt8
 | 0 => []
 | k + 1 => UInt8.ofNat (n / 256 ^ k % 256) :: be n k
theorem length_be (n : Nat) : ∀ k, (be n k).length = k
 | 0 => rfl
 | k + 1 => by rw [be, List.length_cons, length_be n k]
def crcw (l : List UInt8) : List UInt8 := l ++ be (crc l) 4
theorem crc_lt (l : List UInt8) : crc l < 4294967296 := xor32 (crs_lt _ _ (by omega)) (by omega)
end
section
set_option maxRecDepth 4000
section
variable {P : Program} {ops : Array Oper} {Q : Exit -> Act -> World -> Prop} {S : World -> Prop} {need : Nat -> Bool}
def wpN (P : Program) (ops : Array Oper) (Q : Exit -> Act -> World -> Prop) (S : World -> Prop) (need : Nat -> Bool) : Nat -> Array Bool -> Act -> World -> Prop
 | 0, listed, a, w => Region.ready .any ops listed = [] /\ Q .normal a w
 | fuel + 1, listed, a, w =>
  (Region.ready .any ops listed = [] -> Q .normal a w) /\
  ∀ i ∈ Region.ready .any ops listed, wpOp P ops Q i (fun a' w' => (need i = true -> S w') /\ wpN P ops Q S need fuel (listed.setIfInBounds i true) a' w') a w
theorem wpAny_of_N : ∀ (fuel : Nat) (listed : Array Bool) (a : Act) (w : World), wpN P ops Q S need fuel listed a w -> wpAny P .any ops Q fuel listed a w
 | 0, _, _, _, h => h
 | fuel + 1, _, _, _, h => ⟨h.1, fun i hi => wpOp_mono (fun a' w' h' => wpAny_of_N fuel _ a' w' h'.2) (h.2 i hi)⟩
def Closed (ops : Array Oper) (listed : Array Bool) : Prop :=
 listed.size = ops.size /\ ∀ j oj, ops[j]? = some oj -> listed.getD j false = true -> ∀ e ∈ oj.after, Region.binds .any e = true -> listed.getD e.on false = true
theorem Closed.start (ops : Array Oper) : Closed ops (Array.replicate ops.size false) :=
 ⟨by simp, fun j oj _ h => by rw [getD_replicate_false] at h; cases h⟩
theorem Closed.set {listed : Array Bool} {i : Nat} (h : Closed ops listed) (hi : i ∈ Region.ready .any ops listed) : Closed ops (listed.setIfInBounds i true) := by
 obtain ⟨_, oi, hoi, hall⟩ := mem_ready.1 hi
 refine ⟨by simp [h.1], fun j oj hj hl e he hb => ?_⟩
 by_cases hij : i = j
 ·subst hij
  have : oj = oi := Option.some.inj (hj.symm.trans hoi)
  subst this
  exact getD_set_true (hall e he hb)
 ·rw [getD_set_ne false hij] at hl
  exact getD_set_true (h.2 j oj hj hl e he hb)
theorem wpN_first {i : Nat} {oi : Oper} {v : Value} (hi : ops[i]? = some oi) (hsel : ∀ (j : Nat) (o : Oper) cs b, ops[j]? = some o -> o.op ≠ .select cs b)
  (hQ : ∀ c a w, Q (.panic c) (a.put oi.dst v) w -> Q (.panic c) a w) (wt : Nat -> Bool)
  (hwt : ∀ listed, Closed ops listed -> ∀ j oj, ops[j]? = some oj -> (∀ e ∈ oj.after, Region.binds .any e = true -> listed.getD e.on false = true) -> wt j = true -> listed.getD i false = true) :
  ∀ (fuel : Nat) (listed : Array Bool) (a : Act) (w : World), Closed ops listed ->
   (∀ j oj, ops[j]? = some oj -> j ≠ i -> listed.getD j true = false -> wt j = false -> oi.apart ops oj = true /\ need j = true) ->
   i ∈ Region.ready .any ops listed -> YieldsIf P ops S oi v a -> S w ->
   wpN P ops Q S need fuel (listed.setIfInBounds i true) (a.put oi.dst v) w -> wpN P ops Q S need (fuel + 1) listed a w := by
 intro fuel
 induction fuel with
 | zero =>
  intro listed a w _ _ hr hy hS H
  refine ⟨fun h => (by rw [h] at hr; cases hr), fun j hj => ?_⟩
  by_cases hji : j = i
  ·subst hji; exact hy.wpOp hi hS ⟨fun _ => hS, H⟩
  ·have := ready_mono hj hji
   rw [H.1] at this
   cases this
 | succ fuel ih =>
  intro listed a w hcl hfree hr hy hS H
  refine ⟨fun h => (by rw [h] at hr; cases hr), fun j hj => ?_⟩
  by_cases hji : j = i
  ·subst hji; exact hy.wpOp hi hS ⟨fun _ => hS, H⟩
  ·have h1 := H.2 j (ready_mono hj hji)
   obtain ⟨hjun, oj, hoj, hall⟩ := mem_ready.1 hj
   have hiun := getD_both (mem_ready.1 hr).1
   have hnot : wt j = false := by
    cases hw : wt j with
    | false => rfl
    | true =>
     have := hwt _ hcl j oj hoj hall hw
     rw [hiun] at this
     cases this
   obtain ⟨hap, hnd⟩ := hfree j oj hoj hji hjun hnot
   have h2 := wpOp_putIf hoj hap (fun cs b => hsel i oi cs b hi) (fun cs b => hsel j oj cs b hoj) hQ hy h1
   have hfree' : ∀ k ok, ops[k]? = some ok -> k ≠ i -> (listed.setIfInBounds j true).getD k true = false -> wt k = false -> oi.apart ops ok = true /\ need k = true := fun k ok hk hki hun hno => by
    refine hfree k ok hk hki ?_ hno
    by_cases hjk : j = k
    ·subst hjk; exact hjun
    ·rw [getD_set_ne true hjk] at hun; exact hun
   refine wpOp_mono (fun a' w' h3 => ⟨h3.2.1, ih (listed.setIfInBounds j true) a' w' (hcl.set hj) hfree' (ready_mono hr (Ne.symm hji)) h3.1 (h3.2.1 hnd) ?_⟩) h2
   rw [Array.setIfInBounds_comm _ _ hji]
   exact h3.2.2
def wpPlan (P : Program) (ops : Array Oper) (Q : Exit -> Act -> World -> Prop) (S : World -> Prop) (need : Nat -> Bool) : List (Nat × Bool) -> Act -> World -> Prop
 | [], a, w => Q .normal a w
 | (i, true) :: rest, a, w => ∃ o v, ops[i]? = some o /\ YieldsIf P ops S o v a /\ S w /\ (∀ c a w, Q (.panic c) (a.put o.dst v) w -> Q (.panic c) a w) /\ wpPlan P ops Q S need rest (a.put o.dst v) w
 | (i, false) :: rest, a, w => wpOp P ops Q i (fun a' w' => (need i = true -> S w') /\ wpPlan P ops Q S need rest a' w') a w
end
/-! ### The same check by masks: far faster for the kernel -/
section
variable {P : Program} {ops : Array Oper} {Q : Exit -> Act -> World -> Prop} {S : World -> Prop}
def bitsOf (l : List Nat) : Nat := l.foldr (fun i m => (1 <<< i) ||| m) 0
theorem bit_one (i k : Nat) : (1 <<< i).testBit k = decide (i = k) := by
 rw [Nat.one_shiftLeft, Nat.testBit_two_pow]
theorem bitsOf_test (l : List Nat) (k : Nat) : (bitsOf l).testBit k = true ↔ k ∈ l := by
 induction l with
 | nil => simp [bitsOf]
 | cons i l ih =>
  show ((1 <<< i) ||| bitsOf l).testBit k = true ↔ _
  rw [Nat.testBit_or, bit_one, Bool.or_eq_true, ih]
  simp [eq_comm]
def dMask (o : Oper) : Nat := match o.dst with | some d => 1 <<< d | none => 0
def aMask (o : Oper) : Nat := bitsOf ((o.after.toList.filter (Region.binds .any)).map (·.on))
def rowOf (ops : Array Oper) (o : Oper) : Nat × Nat × Nat := (dMask o, bitsOf (o.looksAt ops), aMask o)
abbrev Row := Nat × Nat × Nat × Nat
def Row.three (r : Row) : Nat × Nat × Nat := (r.1, r.2.1, r.2.2.1)
def within (a b : Nat) : Bool := (a &&& b) == a
theorem within_spec {a b : Nat} (h : within a b = true) {k : Nat} (hk : a.testBit k = true) : b.testBit k = true := by
 have e : a &&& b = a := by simpa [within] using h
 rw [<- e, Nat.testBit_and, Bool.and_eq_true] at hk
 exact hk.2
theorem within_of {a b : Nat} (h : ∀ k, a.testBit k = true -> b.testBit k = true) : within a b = true := by
 have e : a &&& b = a := by
  apply Nat.eq_of_testBit_eq
  intro k
  rw [Nat.testBit_and]
  by_cases hk : a.testBit k = true
  ·rw [hk, h k hk]; rfl
  ·simp [Bool.eq_false_iff.2 hk]
 simp [within, e]
def allIx (f : Nat -> Row -> Bool) : Nat -> List Row -> Bool
 | _, [] => true
 | k, r :: l => f k r && allIx f (k + 1) l
theorem allIx_spec (f : Nat -> Row -> Bool) : ∀ (l : List Row) (k : Nat), allIx f k l = true -> ∀ j r, l[j]? = some r -> f (k + j) r = true
 | [], _, _, j, r, h => by simp at h
 | x :: l, k, hf, j, r, h => by
  simp only [allIx, Bool.and_eq_true] at hf
  cases j with
  | zero => simp at h; subst h; exact hf.1
  | succ j =>
   have := allIx_spec f l (k + 1) hf.2 j r (by simpa using h)
   rwa [show k + 1 + j = k + (j + 1) by omega] at this
def orUp (a : Nat) : Nat -> List Nat -> Nat
 | _, [] => 0
 | k, m :: l => (if a.testBit k then (1 <<< k) ||| m else 0) ||| orUp a (k + 1) l
theorem orUp_spec (a i : Nat) : ∀ (l : List Nat) (k : Nat), (orUp a k l).testBit i = true -> ∃ t m, l[t]? = some m /\ a.testBit (k + t) = true /\ (k + t = i \/ m.testBit i = true)
 | [], k, h => by simp [orUp] at h
 | m :: l, k, h => by
  rw [orUp, Nat.testBit_or, Bool.or_eq_true] at h
  rcases h with h | h
  ·by_cases hk : a.testBit k = true
   ·rw [if_pos hk, Nat.testBit_or, bit_one, Bool.or_eq_true, decide_eq_true_eq] at h
    exact ⟨0, m, rfl, hk, h⟩
   ·rw [if_neg hk] at h
    simp at h
  ·obtain ⟨t, m', h1, h2, h3⟩ := orUp_spec a i l (k + 1) h
   exact ⟨t + 1, m', by simpa using h1, by rw [show k + (t + 1) = k + 1 + t by omega]; exact h2, by rw [show k + (t + 1) = k + 1 + t by omega]; exact h3⟩
def reachOk (rows : List Row) : Bool := allIx (fun j r => within r.2.2.2 (orUp r.2.2.1 0 ((rows.take j).map (·.2.2.2)))) 0 rows
theorem row_at {rows : List Row} (h : rows.map Row.three = ops.toList.map (rowOf ops)) {j : Nat} {oj : Oper} (hj : ops[j]? = some oj) : ∃ r, rows[j]? = some r /\ r.three = rowOf ops oj := by
 have h1 : (rows.map Row.three)[j]? = some (rowOf ops oj) := by rw [h, List.getElem?_map, Array.getElem?_toList, hj]; rfl
 rw [List.getElem?_map] at h1
 cases hr : rows[j]? with
 | none => rw [hr] at h1; cases h1
 | some r => rw [hr] at h1; exact ⟨r, rfl, Option.some.inj h1⟩
theorem at_row {rows : List Row} (h : rows.map Row.three = ops.toList.map (rowOf ops)) {j : Nat} {r : Row} (hj : rows[j]? = some r) : ∃ oj, ops[j]? = some oj /\ r.three = rowOf ops oj := by
 have h1 : (ops.toList.map (rowOf ops))[j]? = some r.three := by rw [<- h, List.getElem?_map, hj]; rfl
 rw [List.getElem?_map, Array.getElem?_toList] at h1
 cases ho : ops[j]? with
 | none => rw [ho] at h1; cases h1
 | some o => rw [ho] at h1; exact ⟨o, rfl, (Option.some.inj h1).symm⟩
theorem aMask_test {o : Oper} {k : Nat} : (aMask o).testBit k = true ↔ ∃ e ∈ o.after, Region.binds .any e = true /\ e.on = k := by
 rw [aMask, bitsOf_test, List.mem_map]
 constructor
 ·rintro ⟨e, he, rfl⟩
  rw [List.mem_filter] at he
  exact ⟨e, by simpa using he.1, he.2, rfl⟩
 ·rintro ⟨e, he, hb, rfl⟩
  exact ⟨e, List.mem_filter.2 ⟨by simpa using he, hb⟩, rfl⟩
theorem reach_listed {rows : List Row} (h : rows.map Row.three = ops.toList.map (rowOf ops)) (hR : reachOk rows = true) {listed : Array Bool} (hc : Closed ops listed) :
  ∀ (b j : Nat) (oj : Oper) (r : Row), j < b -> ops[j]? = some oj -> rows[j]? = some r -> (∀ e ∈ oj.after, Region.binds .any e = true -> listed.getD e.on false = true) -> ∀ i, r.2.2.2.testBit i = true -> listed.getD i false = true := by
 intro b
 induction b with
 | zero => intro j _ _ hb; omega
 | succ b ih =>
  intro j oj r hb hj hr hall i hi
  have h1 := allIx_spec _ rows 0 hR j r hr
  simp only [Nat.zero_add] at h1
  obtain ⟨t, m, h2, h3, h4⟩ := orUp_spec _ i _ 0 (within_spec h1 hi)
  rw [Nat.zero_add] at h3 h4
  obtain ⟨r', hr', e'⟩ := row_at h hj
  have : r' = r := Option.some.inj (hr'.symm.trans hr)
  subst this
  have ha : r'.2.2.1 = aMask oj := by have := congrArg (fun x => x.2.2) e'; exact this
  rw [ha, aMask_test] at h3
  obtain ⟨e, he, hbd, rfl⟩ := h3
  have hl := hall e he hbd
  rcases h4 with h4 | h4
  ·rw [<- h4]; exact hl
  ·rw [List.getElem?_map, List.getElem?_take] at h2
   split at h2
   ·rename_i hlt
    cases hre : rows[e.on]? with
    | none => rw [hre] at h2; cases h2
    | some re =>
     rw [hre] at h2
     obtain ⟨oe, hoe, -⟩ := at_row h hre
     have hm : re.2.2.2 = m := Option.some.inj h2
     exact ih e.on oe re (by omega) hoe hre (hc.2 e.on oe hoe hl) i (by rw [hm]; exact h4)
   ·cases h2
def apartB (x y : Row) : Bool := (x.1 &&& y.2.1 == 0) && (x.1 &&& y.1 == 0) && (y.1 &&& x.2.1 == 0)
theorem land_zero {a b k : Nat} (h : (a &&& b == 0) = true) (ha : a.testBit k = true) : b.testBit k = false := by
 have e : a &&& b = 0 := by simpa using h
 have := congrArg (·.testBit k) e
 simp only [Nat.testBit_and, ha, Bool.true_and, Nat.zero_testBit] at this
 exact this
theorem apart_of {x y : Row} {ox oy : Oper} (hx : x.three = rowOf ops ox) (hy : y.three = rowOf ops oy) (h : apartB x y = true) : ox.apart ops oy = true := by
 simp only [apartB, Bool.and_eq_true] at h
 have x1 : x.1 = dMask ox := congrArg (·.1) hx
 have x2 : x.2.1 = bitsOf (ox.looksAt ops) := congrArg (·.2.1) hx
 have y1 : y.1 = dMask oy := congrArg (·.1) hy
 have y2 : y.2.1 = bitsOf (oy.looksAt ops) := congrArg (·.2.1) hy
 rw [x1, x2, y1, y2] at h
 have test : ∀ {o : Oper} {d : Nat}, o.dst = some d -> (dMask o).testBit d = true := fun {o d} e => by rw [dMask, e]; show (1 <<< d).testBit d = true; rw [bit_one]; simp
 have out : ∀ {l : List Nat} {d : Nat}, (bitsOf l).testBit d = false -> l.contains d = false := fun {l d} e => by
  cases hc : l.contains d with
  | false => rfl
  | true => rw [(bitsOf_test l d).2 (by simpa using hc)] at e; cases e
 unfold Oper.apart
 rw [Bool.and_eq_true]
 constructor
 ·cases hd : ox.dst with
  | none => rfl
  | some d =>
   show (!(oy.looksAt ops).contains d && oy.dst != some d) = true
   rw [out (land_zero h.1.1 (test hd))]
   have h2 := land_zero h.1.2 (test hd)
   cases he : oy.dst with
   | none => rfl
   | some e =>
    by_cases hde : e = d
    ·subst hde; rw [test he] at h2; cases h2
    ·simp [hde]
 ·cases hd : oy.dst with
  | none => rfl
  | some d =>
   show (!(ox.looksAt ops).contains d) = true
   rw [out (land_zero h.2 (test hd))]; rfl
def readyB (rows : List Row) (i L : Nat) : Bool := !L.testBit i && (match rows[i]? with | some r => within r.2.2.1 L | none => false)
def fastOk (rows : List Row) (need : Nat) : List (Nat × Bool) -> Nat -> Bool
 | [], L => allIx (fun j r => L.testBit j || !within r.2.2.1 L) 0 rows
 | (i, true) :: rest, L => readyB rows i L && (match rows[i]? with
   | some ri => allIx (fun j r => j == i || L.testBit j || r.2.2.2.testBit i || (apartB ri r && need.testBit j)) 0 rows
   | none => false) && fastOk rows need rest (L ||| 1 <<< i)
 | (i, false) :: rest, L => readyB rows i L && allIx (fun j r => j == i || L.testBit j || !within r.2.2.1 L) 0 rows && fastOk rows need rest (L ||| 1 <<< i)
def Mirrors (ops : Array Oper) (listed : Array Bool) (L : Nat) : Prop := listed.size = ops.size /\ (∀ j, j < ops.size -> listed.getD j true = L.testBit j /\ listed.getD j false = L.testBit j) /\ ∀ j, L.testBit j = true -> j < ops.size
theorem Mirrors.start (ops : Array Oper) : Mirrors ops (Array.replicate ops.size false) 0 := ⟨by simp, fun j hj => by simp [Array.getD, hj], fun j h => by simp at h⟩
theorem Mirrors.set {listed : Array Bool} {L : Nat} (h : Mirrors ops listed L) {i : Nat} (hi : i < ops.size) : Mirrors ops (listed.setIfInBounds i true) (L ||| 1 <<< i) := by
 refine ⟨by simp [h.1], fun j hj => ?_, fun j hj => ?_⟩
 rotate_left
 ·rw [Nat.testBit_or, bit_one, Bool.or_eq_true, decide_eq_true_eq] at hj
  rcases hj with hj | rfl
  ·exact h.2.2 j hj
  ·exact hi
 rw [Nat.testBit_or, bit_one]
 by_cases hij : i = j
 ·subst hij
  have hl : i < listed.size := by rw [h.1]; exact hj
  simp [Array.getD, hl]
 ·rw [getD_set_ne true hij, getD_set_ne false hij, (h.2.1 j hj).1, (h.2.1 j hj).2]
  simp [hij]
theorem ready_iff {rows : List Row} (h : rows.map Row.three = ops.toList.map (rowOf ops)) {listed : Array Bool} {L : Nat} (hm : Mirrors ops listed L) {j : Nat} {r : Row} (hj : rows[j]? = some r) :
  j ∈ Region.ready .any ops listed ↔ L.testBit j = false /\ within r.2.2.1 L = true := by
 obtain ⟨oj, hoj, e⟩ := at_row h hj
 have hlt := (Array.getElem?_eq_some_iff.1 hoj).1
 have ha : r.2.2.1 = aMask oj := congrArg (fun x => x.2.2) e
 rw [mem_ready, (hm.2.1 j hlt).1, ha]
 constructor
 ·rintro ⟨h1, o, ho, hall⟩
  have : o = oj := Option.some.inj (ho.symm.trans hoj)
  subst this
  refine ⟨h1, within_of fun k hk => ?_⟩
  obtain ⟨x, hx, hb, rfl⟩ := aMask_test.1 hk
  have hl := hall x hx hb
  by_cases hlt2 : x.on < ops.size
  ·rw [<- (hm.2.1 x.on hlt2).2]; exact hl
  ·rw [Array.getD, dif_neg (by rw [hm.1]; exact hlt2)] at hl; cases hl
 ·rintro ⟨h1, h2⟩
  refine ⟨h1, oj, hoj, fun x hx hb => ?_⟩
  have hk := within_spec h2 (aMask_test.2 ⟨x, hx, hb, rfl⟩)
  rw [(hm.2.1 x.on (hm.2.2 _ hk)).2]; exact hk
theorem readyB_spec {rows : List Row} (h : rows.map Row.three = ops.toList.map (rowOf ops)) {listed : Array Bool} {L : Nat} (hm : Mirrors ops listed L) {i : Nat} (hi : readyB rows i L = true) : i ∈ Region.ready .any ops listed /\ i < ops.size := by
 simp only [readyB, Bool.and_eq_true] at hi
 cases hr : rows[i]? with
 | none => rw [hr] at hi; exact absurd hi.2 (by simp)
 | some r =>
  rw [hr] at hi
  obtain ⟨oj, hoj, -⟩ := at_row h hr
  exact ⟨(ready_iff h hm hr).2 ⟨by simpa using hi.1, hi.2⟩, (Array.getElem?_eq_some_iff.1 hoj).1⟩
theorem ready_row {rows : List Row} (h : rows.map Row.three = ops.toList.map (rowOf ops)) {listed : Array Bool} {j : Nat} (hj : j ∈ Region.ready .any ops listed) : ∃ r, rows[j]? = some r := by
 obtain ⟨_, o, ho, _⟩ := mem_ready.1 hj
 obtain ⟨r, hr, -⟩ := row_at h ho
 exact ⟨r, hr⟩
theorem wpN_of_fast (hs : Region.noSelect ops = true) {rows : List Row} (h : rows.map Row.three = ops.toList.map (rowOf ops)) (hR : reachOk rows = true) (need : Nat) : ∀ (plan : List (Nat × Bool)) (listed : Array Bool) (L : Nat) (a : Act) (w : World), Closed ops listed -> Mirrors ops listed L ->
  fastOk rows need plan L = true -> wpPlan P ops Q S need.testBit plan a w -> wpN P ops Q S need.testBit plan.length listed a w := by
 intro plan
 induction plan with
 | nil =>
  intro listed L a w _ hm hok hp
  refine ⟨List.eq_nil_iff_forall_not_mem.2 fun j hj => ?_, hp⟩
  obtain ⟨r, hr⟩ := ready_row h hj
  have h1 := allIx_spec _ rows 0 hok j r hr
  have h2 := (ready_iff h hm hr).1 hj
  rw [Nat.zero_add, h2.1, h2.2] at h1
  cases h1
 | cons x rest ih =>
  obtain ⟨i, y⟩ := x
  intro listed L a w hcl hm hok hp
  cases y with
  | true =>
   simp only [fastOk, Bool.and_eq_true] at hok
   obtain ⟨⟨hr, hf⟩, hrest⟩ := hok
   obtain ⟨hr', hlt⟩ := readyB_spec h hm hr
   obtain ⟨o, v, ho, hy, hS, hQ, hw⟩ := hp
   obtain ⟨ri, hri, ei⟩ := row_at h ho
   rw [hri] at hf
   refine wpN_first ho (Region.noSelect_spec hs) hQ (fun j => match rows[j]? with | some r => r.2.2.2.testBit i | none => false) ?_ rest.length listed a w hcl ?_ hr' hy hS (ih _ _ _ _ (hcl.set hr') (hm.set hlt) hrest hw)
   ·intro listed hc j oj hj hall hwt
    obtain ⟨r, hr, -⟩ := row_at h hj
    simp only [hr] at hwt
    exact reach_listed h hR hc (j + 1) j oj r (by omega) hj hr hall i hwt
   ·intro j oj hj hji hun hno
    obtain ⟨r, hr, ej⟩ := row_at h hj
    have h1 := allIx_spec _ rows 0 hf j r hr
    simp only [hr] at hno
    rw [Nat.zero_add, <- (hm.2.1 j (Array.getElem?_eq_some_iff.1 hj).1).1, hun, hno] at h1
    simp only [Bool.or_false, Bool.or_eq_true, beq_iff_eq, Bool.and_eq_true] at h1
    rcases h1 with h1 | h1
    ·exact absurd h1 hji
    ·exact ⟨apart_of ei ej h1.1, h1.2⟩
  | false =>
   simp only [fastOk, Bool.and_eq_true] at hok
   obtain ⟨⟨hr, hf⟩, hrest⟩ := hok
   obtain ⟨hr', hlt⟩ := readyB_spec h hm hr
   refine ⟨fun h0 => (by rw [h0] at hr'; cases hr'), fun j hj => ?_⟩
   obtain ⟨r, hrj⟩ := ready_row h hj
   have h1 := allIx_spec _ rows 0 hf j r hrj
   have h2 := (ready_iff h hm hrj).1 hj
   rw [Nat.zero_add, h2.1, h2.2] at h1
   have hji : j = i := by simpa using h1
   subst hji
   exact wpOp_mono (fun a' w' h' => ⟨h'.1, ih _ _ _ _ (hcl.set hr') (hm.set hlt) hrest h'.2⟩) hp
theorem region_fast {id : Nat} {a : Act} {w : World} (plan : List (Nat × Bool)) (needs : List Nat) (need : Nat) (rows : List Row) (S : World -> Prop) (hN : bitsOf needs = need) (hm : P.follows .mixedOrders = true) (hs : Region.noSelect ops = true) (hz : plan.length = ops.size)
  (hr : rows.map Row.three = ops.toList.map (rowOf ops)) (hok : (reachOk rows && fastOk rows need plan 0) = true) (hS : S w.drew) (h : S w.drew -> wpPlan P ops Q S (fun i => needs.contains i) plan a w.drew) : (Code.region id ops true).wp P Q a w := by
 rw [Bool.and_eq_true] at hok
 have e : (fun i => needs.contains i) = need.testBit := by
  funext i
  rw [<- hN, Bool.eq_iff_iff, bitsOf_test]
  simp
 rw [e] at h
 exact wp_region_any hm (wpAny_of_N _ _ _ _ (hz ▸ wpN_of_fast hs hr hok.1 need plan _ 0 a w.drew (Closed.start ops) (Mirrors.start ops) hok.2 (h hS)))
end
section
variable {P : Program} {ops : Array Oper} {Q : Exit -> Act -> World -> Prop} {S : World -> Prop} {need : Nat -> Bool}
/-! ### The moves -/
theorem at_list {i : Nat} {o : Oper} (h : ops.toList[i]? = some o) : ops[i]? = some o := by rw [<- Array.getElem?_toList]; exact h
theorem plan_nil {a : Act} {w : World} (h : Q .normal a w) : wpPlan P ops Q S need [] a w := h
theorem plan_read {i : Nat} {o : Oper} {v : Value} {rest : List (Nat × Bool)} {a : Act} {w : World} (ho : ops.toList[i]? = some o) (hQ : ∀ c a w, Q (.panic c) (a.put o.dst v) w -> Q (.panic c) a w)
  (hg : Region.wanted o (yielded ops a.tmps) = true) (hS : S w) (hy : ∀ w, S w -> (execOp a.eval o).run P w = .ok (.value v) w) (h : wpPlan P ops Q S need rest (a.put o.dst v) w) : wpPlan P ops Q S need ((i, true) :: rest) a w :=
 ⟨o, v, at_list ho, .inl ⟨hg, hy⟩, hS, hQ, h⟩
theorem plan_skip {i : Nat} {o : Oper} {rest : List (Nat × Bool)} {a : Act} {w : World} (ho : ops.toList[i]? = some o) (hQ : ∀ c a w, Q (.panic c) (a.put o.dst undef) w -> Q (.panic c) a w)
  (hg : Region.wanted o (yielded ops a.tmps) = false) (hS : S w) (h : wpPlan P ops Q S need rest (a.put o.dst undef) w) : wpPlan P ops Q S need ((i, true) :: rest) a w :=
 ⟨o, undef, at_list ho, .inr ⟨hg, rfl⟩, hS, hQ, h⟩
theorem plan_do {i : Nat} {o : Oper} {rest : List (Nat × Bool)} {a : Act} {w : World} (ho : ops.toList[i]? = some o) (hg : Region.wanted o (yielded ops a.tmps) = true)
  (h : ∀ K : Act -> World -> Prop, Shut (∀ a w, (need i = true -> S w) -> ((need i = true -> S w) -> wpPlan P ops Q S need rest a w) -> K a w) -> o.wp P a w K Q) : wpPlan P ops Q S need ((i, false) :: rest) a w := by
 refine wpOp_step (at_list ho) (fun K' hK => ?_)
 rw [if_pos hg]
 exact h K' (fun a w h1 h2 => hK a w ⟨h1, h2 h1⟩)
theorem plan_pass {i : Nat} {o : Oper} {rest : List (Nat × Bool)} {a : Act} {w : World} (ho : ops.toList[i]? = some o) (hg : Region.wanted o (yielded ops a.tmps) = false) (hS : need i = true -> S w)
  (h : wpPlan P ops Q S need rest (a.put o.dst undef) w) : wpPlan P ops Q S need ((i, false) :: rest) a w := by
 refine wpOp_step (at_list ho) (fun K' hK => ?_)
 rw [if_neg (by simp [hg])]
 exact hK _ _ ⟨hS, h⟩
end
end
section
set_option maxRecDepth 4000
open Go.RowKit
theorem info_byte : (Tryz.prog.info? 5).map (fun i => (i.zero, i.size, i.bytes)) = some (some (.int .u8 0), 1, 1) := by kernel_rfl
theorem clone_any (ad : Addr) (n c : Nat) (xs : List Value) (w : World) (hr : Sees w 1 (some ad) n xs) (h1 : ∀ u ∈ xs, u.oneCell' = true) (hn : n <= 140737488355328) :
  Calls Tryz.prog 67 #[.slice (some ad) n c] w fun e w' => ∃ v, e = .returned v /\ w'.ownsRow w.heap.size 5 1 v n xs /\ Below w.heap.size w w' := by
 have q : ∀ (w : World) (a : Option Addr) (n c n' c' : Nat), (binOp .eql 22 (.slice a n c) (.slice none n' c')).run Tryz.prog w = .ok (.bool a.isNone) w := fun w a n c n' c' => Lib.run_eql_slice_nil w _ _ a n c n' c' Tryz.underlying22
 have hr1 : Sees (w.alloc (.cells #[] 5)) 1 (some ad) n xs := hr.below ((Below.refl _ _).alloc (Nat.le_refl _) _)
 go_enter Tryz.func67, Tryz.ntmps67
 go_wp2_with (at_builtin; refine wpList_app rfl (.tmp 5) (.tmp 6) _ rfl w.heap.size 5 _ 1 1 Tryz.underlying22 info_byte rfl (by decide) (.slice (some ⟨w.heap.size, 0, none⟩) 0 0) 0 [] rfl (World.ownsRow_made w #[] 0 (Nat.le_refl _) (Nat.zero_le _) rfl) _ n c xs rfl hr1 h1 (by unfold maxLen; omega) (by omega) (by simp) ?_; intro v' w1 hown hgrow hat hnil)
 go_ret
 refine ⟨v', rfl, by simpa using hown, ?_⟩
 exact ((Below.refl _ w).alloc (Nat.le_refl _) _).grown hgrow (by simp) (by intro k hk; simp [Value.ownBlock] at hk; omega)
theorem clone_nil (n c : Nat) (w : World) :
  Calls Tryz.prog 67 #[.slice none n c] w fun e w' => e = .returned (.slice none 0 0) /\ w = w' := by
 have q : ∀ (w : World) (a : Option Addr) (n c n' c' : Nat), (binOp .eql 22 (.slice a n c) (.slice none n' c')).run Tryz.prog w = .ok (.bool a.isNone) w := fun w a n c n' c' => Lib.run_eql_slice_nil w _ _ a n c n' c' Tryz.underlying22
 go_enter Tryz.func67, Tryz.ntmps67
 go_wp2
 go_ret
 exact ⟨rfl, rfl⟩
end
end Go.Proofs.YtkgaeoeibjoljaaGreatDoor
