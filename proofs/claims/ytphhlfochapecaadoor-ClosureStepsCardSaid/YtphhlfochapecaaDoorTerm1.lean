/-
  A pool in memory; there, right, Len, New; the document's Right.
-/
import Derived.Test.YtphhlfochapecaaDoorProg
import Derived.Test.YtphhlfochapecaaDoorTermV
import Derived.BigQuiet
import Derived.Handy
import Derived.OwnWalk
import Derived.Deep.RegionHeld3
namespace Go.Proofs.YtphhlfochapecaaDoor
set_option maxRecDepth 4000
open Go.RowKit

def tmf (n : String) (o b : Nat) : Field := ⟨n, 3, o, false, "", "", b⟩
theorem termType : TermType Tryd.prog 45 3 (tmf "Kind" 0 0) (tmf "Atom" 1 8) (tmf "A" 2 16) (tmf "B" 3 24) :=
  ⟨Tryd.underlying45, Tryd.underlying3, rfl, rfl, rfl, rfl, rfl, rfl, rfl, rfl, by decide, by decide, by decide, by decide, by kernel_rfl⟩

def i64s (l : List Int) : List Value := l.map (Value.int .i64)
@[simp] theorem length_i64s (l : List Int) : (i64s l).length = l.length := by simp [i64s]
theorem i64s_append (a b : List Int) : i64s (a ++ b) = i64s a ++ i64s b := by simp [i64s]

structure PoolParts (w : World) (base p : Nat) (l : List Tm) (tA : Option Addr) (tc mb : Nat) (dA : Option Addr) (dc : Nat) (sA : Option Addr) (sc : Nat) : Prop where
  blk : Blk w p 65 #[.slice tA l.length tc, .map (some mb), .slice dA l.length dc, .slice sA l.length sc]
  ts : w.ownsRow base 45 4 (.slice tA l.length tc) l.length (tcs l)
  ds : w.ownsRow base 3 1 (.slice dA l.length dc) l.length (i64s (deps l))
  ss : w.ownsRow base 3 1 (.slice sA l.length sc) l.length (i64s (sizs l))
  mp : TMap w mb l
  ne : ∀ g, (Value.slice dA l.length dc).ownBlock = some g → (Value.slice sA l.length sc).ownBlock ≠ some g
  lo : base ≤ p ∧ base ≤ mb
/-- A pool in memory. -/
def PoolIs (w : World) (base p : Nat) (l : List Tm) : Prop := ∃ tA tc mb dA dc sA sc, PoolParts w base p l tA tc mb dA dc sA sc

/-- The blocks that a pool leans on lie in G. -/
structure InG (G : Nat → Prop) (p mb : Nat) (n : Nat) (tA : Option Addr) (tc : Nat) (dA : Option Addr) (dc : Nat) (sA : Option Addr) (sc : Nat) : Prop where
  hp : G p
  hm : G mb
  ht : ∀ g, (Value.slice tA n tc).ownBlock = some g → G g
  hd : ∀ g, (Value.slice dA n dc).ownBlock = some g → G g
  hs : ∀ g, (Value.slice sA n sc).ownBlock = some g → G g
/-- A pool in memory, its blocks in G. -/
def PoolIn (w : World) (base p : Nat) (l : List Tm) (G : Nat → Prop) : Prop := ∃ tA tc mb dA dc sA sc, PoolParts w base p l tA tc mb dA dc sA sc ∧ InG G p mb l.length tA tc dA dc sA sc
theorem PoolIn.is {w : World} {base p : Nat} {l : List Tm} {G : Nat → Prop} (h : PoolIn w base p l G) : PoolIs w base p l := by
  obtain ⟨a, b, c, d, e, f, g, h, _⟩ := h
  exact ⟨a, b, c, d, e, f, g, h⟩
section
variable {w w' : World} {base p : Nat} {l : List Tm} {tA : Option Addr} {tc mb : Nat} {dA : Option Addr} {dc : Nat} {sA : Option Addr} {sc : Nat}
theorem PoolParts.below (h : PoolParts w base p l tA tc mb dA dc sA sc) (hb : Below w.heap.size w w') : PoolParts w' base p l tA tc mb dA dc sA sc :=
  ⟨h.blk.keep (hb.block _ h.blk.lt), own_below h.ts hb, own_below h.ds hb, own_below h.ss hb, h.mp.keep (hb.block _ h.mp.lt), h.ne, h.lo⟩
theorem PoolIs.below (h : PoolIs w base p l) (hb : Below w.heap.size w w') : PoolIs w' base p l := by
  obtain ⟨a, b, c, d, e, f, g, h⟩ := h
  exact ⟨a, b, c, d, e, f, g, h.below hb⟩
theorem PoolParts.lt (h : PoolParts w base p l tA tc mb dA dc sA sc) : p < w.heap.size ∧ mb < w.heap.size := ⟨h.blk.lt, h.mp.lt⟩
theorem PoolIn.below {G : Nat → Prop} (h : PoolIn w base p l G) (hb : Below w.heap.size w w') : PoolIn w' base p l G := by
  obtain ⟨a, b, c, d, e, f, g, h, i⟩ := h
  exact ⟨a, b, c, d, e, f, g, h.below hb, i⟩
theorem PoolIn.mono {G G' : Nat → Prop} (h : PoolIn w base p l G) (hg : ∀ k, G k → G' k) : PoolIn w base p l G' := by
  obtain ⟨a, b, c, d, e, f, g, h, i⟩ := h
  exact ⟨a, b, c, d, e, f, g, h, ⟨hg _ i.hp, hg _ i.hm, fun g h => hg _ (i.ht g h), fun g h => hg _ (i.hd g h), fun g h => hg _ (i.hs g h)⟩⟩
theorem PoolParts.cell0 (h : PoolParts w base p l tA tc mb dA dc sA sc) : w.cell? ⟨p, 0, none⟩ = some (.slice tA l.length tc) := h.blk.cell 0
theorem PoolParts.cell1 (h : PoolParts w base p l tA tc mb dA dc sA sc) : w.cell? ⟨p, 1, none⟩ = some (.map (some mb)) := h.blk.cell 1
theorem PoolParts.cell2 (h : PoolParts w base p l tA tc mb dA dc sA sc) : w.cell? ⟨p, 2, none⟩ = some (.slice dA l.length dc) := h.blk.cell 2
theorem PoolParts.cell3 (h : PoolParts w base p l tA tc mb dA dc sA sc) : w.cell? ⟨p, 3, none⟩ = some (.slice sA l.length sc) := h.blk.cell 3
end

def thereT (n : Nat) (x : Int) : Bool := decide (0 ≤ x) && decide (x < n)
theorem pthere_any (p : Nat) (x : Int) (A : Option Addr) (n c : Nat) (w : World) (hn : n ≤ maxLen) (h0 : w.cell? ⟨p, 0, none⟩ = some (.slice A n c)) :
    Calls Tryd.prog 38 #[.pointer (some ⟨p, 0, none⟩), .int .i64 x] w fun e w' => e = .returned (.bool (thereT n x)) ∧ w = w' := by
  unfold maxLen at hn
  by_cases h1 : 0 ≤ x
  · by_cases h2 : x < n
    · have e := Lib.hid (show thereT n x = true by simp [thereT, h1, h2])
      go_enter Tryd.func38, Tryd.ntmps38
      go_wp2
      go_ret
      exact ⟨ret_bool e.out.symm, rfl⟩
    · have e := Lib.hid (show thereT n x = false by simp [thereT, h2])
      go_enter Tryd.func38, Tryd.ntmps38
      go_wp2
      go_ret
      exact ⟨ret_bool e.out.symm, rfl⟩
  · have e := Lib.hid (show thereT n x = false by simp [thereT, h1])
    go_enter Tryd.func38, Tryd.ntmps38
    go_wp2
    go_ret
    exact ⟨ret_bool e.out.symm, rfl⟩

theorem plen_any (p : Nat) (A : Option Addr) (n c : Nat) (w : World) (hn : n ≤ maxLen) (h0 : w.cell? ⟨p, 0, none⟩ = some (.slice A n c)) :
    Calls Tryd.prog 31 #[.pointer (some ⟨p, 0, none⟩)] w fun e w' => e = .returned (.int .i64 n) ∧ w = w' := by
  go_enter Tryd.func31, Tryd.ntmps31
  go_wp2
  go_ret
  exact ⟨rfl, rfl⟩

theorem okT_atomK {n : Nat} {t : Tm} (h : t.k = 1) : okT n t = (decide (t.x = 0) && decide (t.y = 0)) := by simp [okT, h]
theorem okT_hashK {n : Nat} {t : Tm} (h : t.k = 3) : okT n t = (decide (t.a = 0) && thereT n t.x && decide (t.y = 0)) := by simp [okT, h, thereT]
theorem okT_pairK {n : Nat} {t : Tm} (h : t.k = 2 ∨ t.k = 4) : okT n t = (decide (t.a = 0) && thereT n t.x && thereT n t.y) := by
  unfold okT thereT
  rw [if_neg (by omega), if_neg (by omega), if_pos h]
theorem okT_none {n : Nat} {t : Tm} (h1 : t.k ≠ 1) (h2 : t.k ≠ 2) (h3 : t.k ≠ 3) (h4 : t.k ≠ 4) : okT n t = false := by
  unfold okT
  rw [if_neg h1, if_neg h3, if_neg (by omega)]

theorem right_any (p : Nat) (t : Tm) (A : Option Addr) (n c : Nat) (w : World) (hn : n ≤ maxLen) (h0 : w.cell? ⟨p, 0, none⟩ = some (.slice A n c)) :
    Calls Tryd.prog 27 #[.pointer (some ⟨p, 0, none⟩), tval t] w fun e w' => e = .returned (.bool (okT n t)) ∧ Below w.heap.size w w' := by
  obtain ⟨k, a, x, y⟩ := t
  unfold tval
  have hw : ∀ o, (w.alloc o).cell? ⟨p, 0, none⟩ = some (.slice A n c) := fun o => (World.cell?_of_block (Below.heap_alloc w o p (World.block_lt_of_cell? w _ h0))).trans h0
  have hB : ∀ o, Below w.heap.size w (w.alloc o) := fun o => (Below.refl _ _).alloc (Nat.le_refl _) o
  have hth : ∀ x o, Calls Tryd.prog 38 #[.pointer (some ⟨p, 0, none⟩), .int .i64 x] (w.alloc o) fun e w' => e = .returned (.bool (thereT n x)) ∧ (w.alloc o) = w' := fun x o => pthere_any p x A n c _ hn (hw o)
  have HB := Lib.hid hB; clear hB
  have HT := Lib.hid hth; clear hth
  clear hw h0 hn
  by_cases k1 : k = 1
  · have e := Lib.hid (okT_atomK (n := n) (t := ⟨k, a, x, y⟩) k1)
    subst k1
    go_enter Tryd.func27, Tryd.ntmps27
    go_wp2_with fail
    all_goals (go_ret; exact ⟨ret_bool (by have e2 := e.out; clear e; rw [Bool.eq_iff_iff]; simp_all), HB.out _⟩)
  · have k1b : ((k : Int) == 1) = false := by simpa using k1
    by_cases k3 : k = 3
    · have e := Lib.hid (okT_hashK (n := n) (t := ⟨k, a, x, y⟩) k3)
      subst k3
      clear k1 k1b
      go_enter Tryd.func27, Tryd.ntmps27
      go_wp2_with (go_at_call 38; refine (HT.out _ _).mono ?_; rintro e' w' ⟨rfl, rfl⟩)
      all_goals (go_ret; exact ⟨ret_bool (by have e2 := e.out; clear e; rw [Bool.eq_iff_iff]; simp_all), HB.out _⟩)
    · have k3b : ((k : Int) == 3) = false := by simpa using k3
      by_cases k2 : k = 2
      · have e := Lib.hid (okT_pairK (n := n) (t := ⟨k, a, x, y⟩) (.inl k2))
        subst k2
        clear k1 k1b k3 k3b
        go_enter Tryd.func27, Tryd.ntmps27
        go_wp2_with (go_at_call 38; refine (HT.out _ _).mono ?_; rintro e' w' ⟨rfl, rfl⟩)
        all_goals (go_ret; exact ⟨ret_bool (by have e2 := e.out; clear e; rw [Bool.eq_iff_iff]; simp_all), HB.out _⟩)
      · have k2b : ((k : Int) == 2) = false := by simpa using k2
        by_cases k4 : k = 4
        · have e := Lib.hid (okT_pairK (n := n) (t := ⟨k, a, x, y⟩) (.inr k4))
          subst k4
          clear k1 k1b k3 k3b k2 k2b
          go_enter Tryd.func27, Tryd.ntmps27
          go_wp2_with (go_at_call 38; refine (HT.out _ _).mono ?_; rintro e' w' ⟨rfl, rfl⟩)
          all_goals (go_ret; exact ⟨ret_bool (by have e2 := e.out; clear e; rw [Bool.eq_iff_iff]; simp_all), HB.out _⟩)
        · have k4b : ((k : Int) == 4) = false := by simpa using k4
          have e := Lib.hid (okT_none (n := n) (t := ⟨k, a, x, y⟩) k1 k2 k3 k4)
          clear k1 k2 k3 k4
          go_enter Tryd.func27, Tryd.ntmps27
          go_wp2_with fail
          go_ret
          exact ⟨ret_bool e.out.symm, HB.out _⟩

theorem okT_iff (n : Nat) (t : Tm) : okT n t = true ↔ (t.k = 1 ∧ t.x = 0 ∧ t.y = 0) ∨ (t.k = 3 ∧ t.a = 0 ∧ 0 ≤ t.x ∧ t.x < n ∧ t.y = 0) ∨ ((t.k = 2 ∨ t.k = 4) ∧ t.a = 0 ∧ 0 ≤ t.x ∧ t.x < n ∧ 0 ≤ t.y ∧ t.y < n) := by
  unfold okT
  split
  · simp; omega
  · split
    · simp; omega
    · split
      · simp; omega
      · simp; omega
theorem rright_any (t : Tm) (n : Nat) (w : World) :
    Calls Tryd.prog 29 #[.int .i64 n, tval t] w fun e w' => e = .returned (.bool (okT n t)) ∧ Below w.heap.size w w' := by
  obtain ⟨k, a, x, y⟩ := t
  unfold tval
  have hB : ∀ o, Below w.heap.size w (w.alloc o) := fun o => (Below.refl _ _).alloc (Nat.le_refl _) o
  have HB := Lib.hid hB; clear hB
  have e := Lib.hid (okT_iff n ⟨k, a, x, y⟩)
  go_enter Tryd.func29, Tryd.ntmps29
  go_wp2_with fail
  all_goals (go_ret; exact ⟨ret_bool (by have e2 := e.out; clear e; rw [Bool.eq_iff_iff]; simp_all; try omega), HB.out _⟩)
end Go.Proofs.YtphhlfochapecaaDoor
