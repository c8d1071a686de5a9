/-
  The table of keys, as plain data and in memory.
-/
import Derived.Test.YtnlghpopjckhiaaKey2
import Derived.Test.YtnlghpopjckhiaaDisk4
import Derived.Test.YtnlghpopjckhiaaDisk5
import Derived.Test.YtnlghpopjckhiaaFault
namespace Go.Proofs.Ytnlghpopjckhiaa
set_option maxRecDepth 4000
open Go.RowKit

/-- A key as it lies in memory: its bucket, its octets' block and capacity, its octets. -/
structure Ke where
  buck : Int
  g : Nat
  cap : Nat
  key : List UInt8
def keCells : Option Ke → List Value
  | none => [.bool false, .int .i64 0, .slice none 0 0]
  | some e => [.bool true, .int .i64 e.buck, .slice (some ⟨e.g, 0, none⟩) 32 e.cap]
@[simp] theorem keCells_length (e : Option Ke) : (keCells e).length = 3 := by cases e <;> rfl
/-- As plain data. -/
def keData : Option Ke → Option (Int × List UInt8)
  | none => none
  | some e => some (e.buck, e.key)
def kcs (E : List (Option Ke)) : List Value := E.flatMap keCells
@[simp] theorem kcs_length (E : List (Option Ke)) : (kcs E).length = E.length * 3 := by unfold kcs; rw [length_flatMap_const _ 3 keCells_length]

/-- The table at block t of the disk at b: its slots' block sg; all its own blocks in K. -/
structure KAt (w : World) (t b sg : Nat) (from_ : Int) (E : List (Option Ke)) (dead : Bool) (K : Nat → Prop) : Prop where
  top : Blk w t 65 #[.pointer (some ⟨b, 0, none⟩), .int .i64 from_, .slice (some ⟨sg, 0, none⟩) E.length E.length, .bool dead]
  row : Blk w sg 68 (kcs E).toArray
  keys : ∀ e : Ke, some e ∈ E → w.ownsRow 0 5 1 (.slice (some ⟨e.g, 0, none⟩) 32 e.cap) 32 (u8s e.key) ∧ K e.g ∧ e.key.length = 32
  once : ∀ (i j : Nat) (e f : Ke), E[i]? = some (some e) → E[j]? = some (some f) → e.g = f.g → i = j
  tin : K t
  sin : K sg
theorem KAt.keep {w w' : World} {t b sg : Nat} {from_ : Int} {E : List (Option Ke)} {dead : Bool} {K : Nat → Prop} (h : KAt w t b sg from_ E dead K) (hk : ∀ k, K k → k < w.heap.size → w'.heap[k]? = w.heap[k]?) : KAt w' t b sg from_ E dead K := by
  refine ⟨h.top.keep (hk t h.tin h.top.lt), h.row.keep (hk sg h.sin h.row.lt), fun e he => ?_, h.once, h.tin, h.sin⟩
  obtain ⟨a1, a2, a3⟩ := h.keys e he
  refine ⟨own_keep a1 fun g hg => ?_, a2, a3⟩
  have hg' : e.g = g := by simpa [Value.ownBlock] using hg
  subst hg'
  exact hk e.g a2 (a1.lt e.g hg).2
theorem KAt.fr {w w' : World} {t b sg : Nat} {from_ : Int} {E : List (Option Ke)} {dead : Bool} {K G : Nat → Prop} (h : KAt w t b sg from_ E dead K) (hf : Fr G w w') (hn : ∀ k, K k → ¬ G k) : KAt w' t b sg from_ E dead K :=
  h.keep fun k hk hl => hf.block k hl (hn k hk)
theorem KAt.below {w w' : World} {t b sg : Nat} {from_ : Int} {E : List (Option Ke)} {dead : Bool} {K : Nat → Prop} (h : KAt w t b sg from_ E dead K) (hb : Below w.heap.size w w') : KAt w' t b sg from_ E dead K :=
  h.keep fun k _ hl => hb.block k hl

/-- Disk and table, apart, in the blocks G. -/
structure KSt (w : World) (t b sg : Nat) (from_ : Int) (E : List (Option Ke)) (dead : Bool) (D : Dk) (F K G : Nat → Prop) : Prop where
  disk : DiskAt w b F D
  tab : KAt w t b sg from_ E dead K
  apart : ∀ k, F k → ¬ K k
  fin : ∀ k, F k → G k ∧ k < w.heap.size
  kin : ∀ k, K k → G k ∧ k < w.heap.size
theorem KSt.below {w w' : World} {t b sg : Nat} {from_ : Int} {E : List (Option Ke)} {dead : Bool} {D : Dk} {F K G : Nat → Prop} (h : KSt w t b sg from_ E dead D F K G) (hb : Below w.heap.size w w') : KSt w' t b sg from_ E dead D F K G :=
  ⟨h.disk.below hb, h.tab.below hb, h.apart, fun k hk => ⟨(h.fin k hk).1, Nat.lt_of_lt_of_le (h.fin k hk).2 hb.size⟩, fun k hk => ⟨(h.kin k hk).1, Nat.lt_of_lt_of_le (h.kin k hk).2 hb.size⟩⟩
theorem KSt.drew {w : World} {t b sg : Nat} {from_ : Int} {E : List (Option Ke)} {dead : Bool} {D : Dk} {F K G : Nat → Prop} (h : KSt w t b sg from_ E dead D F K G) : KSt w.drew t b sg from_ E dead D F K G :=
  h.below ⟨rfl, rfl, rfl, Nat.le_refl _, fun _ _ => rfl⟩
/-- From w on they have become that, and nothing else that was there has turned. -/
def KTo (w : World) (G : Nat → Prop) (t b sg : Nat) (from_ : Int) (E : List (Option Ke)) (dead : Bool) (D : Dk) (w' : World) : Prop :=
  ∃ F' K' G', KSt w' t b sg from_ E dead D F' K' G' ∧ Fr G w w' ∧ ∀ k, k < w.heap.size → G' k → G k
theorem KTo.refl {w : World} {t b sg : Nat} {from_ : Int} {E : List (Option Ke)} {dead : Bool} {D : Dk} {F K G : Nat → Prop} (h : KSt w t b sg from_ E dead D F K G) : KTo w G t b sg from_ E dead D w := ⟨F, K, G, h, Fr.refl _ _, fun _ _ h => h⟩
theorem KTo.below {w w1 w2 : World} {t b sg : Nat} {from_ : Int} {E : List (Option Ke)} {dead : Bool} {D : Dk} {G : Nat → Prop} (h : KTo w G t b sg from_ E dead D w1) (hb : Below w1.heap.size w1 w2) : KTo w G t b sg from_ E dead D w2 := by
  obtain ⟨F', K', G', h1, h2, h3⟩ := h
  exact ⟨F', K', G', h1.below hb, h2.trans (Fr.of_below hb G) (fun _ _ h => h), h3⟩
theorem KTo.after {w w1 w2 : World} {t b sg : Nat} {from_ : Int} {E : List (Option Ke)} {dead : Bool} {D : Dk} {G G1 : Nat → Prop} (hf : Fr G w w1) (hs : ∀ k, k < w.heap.size → G1 k → G k) (h : KTo w1 G1 t b sg from_ E dead D w2) : KTo w G t b sg from_ E dead D w2 := by
  obtain ⟨F', K', G', h1, h2, h3⟩ := h
  exact ⟨F', K', G', h1, hf.trans h2 hs, fun k hk hg => hs k hk (h3 k (Nat.lt_of_lt_of_le hk hf.size) hg)⟩

theorem KTo.of_drew {w w1 : World} {t b sg : Nat} {from_ : Int} {E : List (Option Ke)} {dead : Bool} {D : Dk} {G : Nat → Prop} (h : KTo w.drew G t b sg from_ E dead D w1) : KTo w G t b sg from_ E dead D w1 := by
  obtain ⟨F', K', G', h1, h2, h3⟩ := h
  exact ⟨F', K', G', h1, ⟨h2.os, h2.tape, h2.output, h2.size, h2.block⟩, h3⟩

/-- The disk moved on, the table stays. -/
theorem KSt.diskTo {w w' : World} {t b sg : Nat} {from_ : Int} {E : List (Option Ke)} {dead : Bool} {D D' : Dk} {F K G : Nat → Prop} (h : KSt w t b sg from_ E dead D F K G) (hd : DiskTo w b F D' w') : KTo w G t b sg from_ E dead D' w' := by
  obtain ⟨F', h1, h2, h3⟩ := hd
  refine ⟨fun k => F' k ∧ k < w'.heap.size, K, fun k => G k ∨ w.heap.size ≤ k, ⟨h1.restrict, h.tab.fr h2 (fun k hk hf => h.apart k hf hk), ?_, ?_, ?_⟩, h2.mono (fun k _ hk => (h.fin k hk).1), ?_⟩
  · intro k hk hK
    have hl := (h.kin k hK).2
    exact h.apart k (h3 k hl hk.1) hK
  · intro k hk
    refine ⟨?_, hk.2⟩
    rcases Nat.lt_or_ge k w.heap.size with hl | hl
    · exact .inl (h.fin k (h3 k hl hk.1)).1
    · exact .inr hl
  · intro k hk
    exact ⟨.inl (h.kin k hk).1, Nat.lt_of_lt_of_le (h.kin k hk).2 h2.size⟩
  · intro k hk hg
    rcases hg with hg | hg
    · exact hg
    · omega
/-- The table's death is noted. -/
theorem KSt.die {w : World} {t b sg : Nat} {from_ : Int} {E : List (Option Ke)} {dead : Bool} {D : Dk} {F K G : Nat → Prop} (h : KSt w t b sg from_ E dead D F K G) (d : Bool) : KTo w G t b sg from_ E d D (w.setCell ⟨t, 3, none⟩ (.bool d)) := by
  have hf : Fr (· = t) w (w.setCell ⟨t, 3, none⟩ (.bool d)) := Fr.setCell _ _ _ rfl
  have htn : t ≠ sg := h.tab.top.same h.tab.row (by decide)
  refine ⟨F, K, G, ⟨h.disk.fr hf (fun k hk e => h.apart k hk (e ▸ h.tab.tin)), ⟨?_, h.tab.row.keep (hf.block sg h.tab.row.lt (fun e => htn e.symm)), fun e he => ?_, h.tab.once, h.tab.tin, h.tab.sin⟩, h.apart, fun k hk => ⟨(h.fin k hk).1, Nat.lt_of_lt_of_le (h.fin k hk).2 hf.size⟩, fun k hk => ⟨(h.kin k hk).1, Nat.lt_of_lt_of_le (h.kin k hk).2 hf.size⟩⟩, hf.mono (fun k _ e => by subst e; exact (h.kin _ h.tab.tin).1), fun _ _ h => h⟩
  · exact h.tab.top.set_ 3 (.bool d)
  · obtain ⟨a1, a2, a3⟩ := h.tab.keys e he
    exact ⟨own_fr a1 hf (own_ne a1 h.tab.top (by decide)), a2, a3⟩

/-! ### A copy is laid -/
def Dk.lay (D : Dk) (a : Nat) (l : List UInt8) : Dk := if D.calls = 0 then D else if D.calls = 1 then D.push a l 1 else (D.push a l 1).flushed
def Dk.layOk (D : Dk) : Bool := decide (D.calls ≠ 0 ∧ D.calls ≠ 1)
theorem Dk.Ok.lay {D : Dk} (h : D.Ok) (a : Nat) (l : List UInt8) (hl : 128 ≤ l.length) (ha : (a + 1) * 128 ≤ D.safe.length) : (D.lay a l).Ok := by
  unfold Dk.lay
  split
  · exact h
  · split
    · exact h.push a l 1 (by omega) ha
    · exact (h.push a l 1 (by omega) ha).flushed
/-- An error, or none. -/
def ErrIs (ok : Bool) (v : Value) : Prop := (ok = true ∧ v = Value.nilIface) ∨ (ok = false ∧ ∃ g, v = .iface 84 (.pointer (some ⟨g, 0, none⟩)))
end Go.Proofs.Ytnlghpopjckhiaa
