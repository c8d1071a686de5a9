/-
  A run in memory.
  A new atom of a run; the greatest of some numbers.
  The key of a run's bucket.
-/
import Derived.Test.YtkgaeoeibjoljaaGreatDoorKey12
import Derived.Test.YtkgaeoeibjoljaaGreatDoorLog9
import Derived.Test.YtkgaeoeibjoljaaGreatDoorGP
import Derived.Test.YtkgaeoeibjoljaaGreatDoorTerm7
import Derived.Test.YtkgaeoeibjoljaaGreatDoorSy6
import Derived.Test.YtkgaeoeibjoljaaGreatDoorGG
namespace Go.Proofs.YtkgaeoeibjoljaaGreatDoor
section
set_option maxRecDepth 4000
open Go.RowKit
structure St where
 slots : Nat
 segs : Nat
 size : Nat
 D : Dk
 E : List (Option Ke)
 dead : Bool
 s : Lg
 l : List Tm
 atoms : Nat
 eps : List (Int × Int)
 far : Nat -> Option Obj := fun _ => none
def ecell (x : Int × Int) : List Value := [.int .i64 x.1, .int .i64 x.2]
def ecs (l : List (Int × Int)) : List Value := l.flatMap ecell
@[simp] theorem ecell_length (x : Int × Int) : (ecell x).length = 2 := rfl
@[simp] theorem ecs_length (l : List (Int × Int)) : (ecs l).length = l.length * 2 := by unfold ecs; rw [length_flatMap_const _ 2 ecell_length]
theorem ecs_append (l m : List (Int × Int)) : ecs (l ++ m) = ecs l ++ ecs m := by simp [ecs]
structure Loc where
 r : Nat
 b : Nat
 t : Nat
 sg : Nat
 lb : Nat
 p : Nat
 eA : Option Addr
 eC : Nat
 bg : Nat
 cB : Nat
 A : Option Addr
 cT : Nat
 C : Option Addr
 cC : Nat
 vs : List Pt
def rcells (S : St) (a : Loc) : Array Value :=
 #[.pointer (some ⟨a.b, 0, none⟩), .int .i64 S.slots, .int .i64 S.segs, .int .i64 S.size, .pointer (some ⟨a.t, 0, none⟩), .pointer (some ⟨a.lb, 0, none⟩), .pointer (some ⟨a.p, 0, none⟩), .int .i64 S.atoms, .slice a.eA S.eps.length a.eC]
structure Rn (w : World) (base : Nat) (S : St) (a : Loc) (F K L P : Nat -> Prop) (T : Nat -> Nat) : Prop where
 top : Blk w a.r 91 (rcells S a)
 eps : w.ownsRow base 101 2 (.slice a.eA S.eps.length a.eC) S.eps.length (ecs S.eps)
 disk : DiskAt w a.b F S.D
 tab : KAt w a.t a.b a.sg (0 : Nat) S.E S.dead K
 log : LgP w a.lb a.b (2 * S.slots) S.s a.bg a.cB a.A a.cT a.C a.cC a.vs L
 pool : PoolIn w base a.p S.l P
 tF : ∀ k, F k -> T k = 1 /\ base <= k /\ k < w.heap.size
 tK : ∀ k, K k -> T k = 2 /\ base <= k /\ k < w.heap.size
 tL : ∀ k, L k -> T k = 3 /\ base <= k /\ k < w.heap.size
 tP : ∀ k, P k -> T k = 4 /\ base <= k /\ k < w.heap.size
 tR : ∀ k, (k = a.r \/ (Value.slice a.eA S.eps.length a.eC).ownBlock = some k) -> T k = 5 /\ base <= k /\ k < w.heap.size
 tZ : ∀ k o, S.far k = some o -> T k = 0 /\ w.heap[k]? = some o
section
variable {w w' : World} {base : Nat} {S : St} {a : Loc} {F K L P : Nat -> Prop} {T : Nat -> Nat}
theorem Rn.base_le (h : Rn w base S a F K L P T) : base <= w.heap.size := by
 have := h.tR a.r (.inl rfl)
 omega
theorem Rn.r_lt (h : Rn w base S a F K L P T) : a.r < w.heap.size := (h.tR a.r (.inl rfl)).2.2
theorem heap_lt {w : World} {k : Nat} {o : Obj} (h : w.heap[k]? = some o) : k < w.heap.size := (Array.getElem?_eq_some_iff.1 h).1
theorem Rn.farTo (h : Rn w base S a F K L P T) {G : Nat -> Prop} (hf : Fr G w w') (hG : ∀ k, G k -> T k ≠ 0) {T' : Nat -> Nat} (hT : ∀ k, k < w.heap.size -> T k = 0 -> T' k = 0) : ∀ k o, S.far k = some o -> T' k = 0 /\ w'.heap[k]? = some o := fun k o hk => by
 obtain ⟨h1, h2⟩ := h.tZ k o hk
 have h3 := heap_lt h2
 exact ⟨hT k h3 h1, (hf.block k h3 (fun e => hG k e h1)).trans h2⟩
theorem Rn.below (h : Rn w base S a F K L P T) (hb : Below w.heap.size w w') : Rn w' base S a F K L P T :=
 ⟨h.top.below hb h.r_lt, own_below h.eps hb, h.disk.below hb, h.tab.below hb, h.log.below hb, h.pool.below hb,
  fun k hk => ⟨(h.tF k hk).1, (h.tF k hk).2.1, Nat.lt_of_lt_of_le (h.tF k hk).2.2 hb.size⟩, fun k hk => ⟨(h.tK k hk).1, (h.tK k hk).2.1, Nat.lt_of_lt_of_le (h.tK k hk).2.2 hb.size⟩,
  fun k hk => ⟨(h.tL k hk).1, (h.tL k hk).2.1, Nat.lt_of_lt_of_le (h.tL k hk).2.2 hb.size⟩, fun k hk => ⟨(h.tP k hk).1, (h.tP k hk).2.1, Nat.lt_of_lt_of_le (h.tP k hk).2.2 hb.size⟩,
  fun k hk => ⟨(h.tR k hk).1, (h.tR k hk).2.1, Nat.lt_of_lt_of_le (h.tR k hk).2.2 hb.size⟩, h.farTo (Fr.of_below hb (fun _ => False)) (fun _ e => e.elim) (fun _ _ e => e)⟩
theorem Rn.drew (h : Rn w base S a F K L P T) : Rn w.drew base S a F K L P T := h.below ⟨rfl, rfl, rfl, Nat.le_refl _, fun _ _ => rfl⟩
theorem pool_fr {G H : Nat -> Prop} {p : Nat} {l : List Tm} (h : PoolIn w base p l G) (hf : Fr H w w') (hn : ∀ k, G k -> ¬ H k) : PoolIn w' base p l G := by
 obtain ⟨tA, tc, mb, dA, dc, sA, sc, hP, hG⟩ := h
 exact ⟨tA, tc, mb, dA, dc, sA, sc, ⟨hP.blk.fr hf (hn _ hG.hp), own_fr hP.ts hf (fun g hg => hn _ (hG.ht g hg)), own_fr hP.ds hf (fun g hg => hn _ (hG.hd g hg)), own_fr hP.ss hf (fun g hg => hn _ (hG.hs g hg)), hP.mp.keep (hf.block _ hP.mp.lt (hn _ hG.hm)), hP.ne, hP.lo⟩, hG⟩
theorem pool_restrict {G : Nat -> Prop} {p : Nat} {l : List Tm} (h : PoolIn w base p l G) : PoolIn w base p l (fun k => G k /\ k < w.heap.size) := by
 obtain ⟨tA, tc, mb, dA, dc, sA, sc, hP, hG⟩ := h
 exact ⟨tA, tc, mb, dA, dc, sA, sc, hP, ⟨⟨hG.hp, hP.blk.lt⟩, ⟨hG.hm, hP.mp.lt⟩, fun g hg => ⟨hG.ht g hg, (hP.ts.lt g hg).2⟩, fun g hg => ⟨hG.hd g hg, (hP.ds.lt g hg).2⟩, fun g hg => ⟨hG.hs g hg, (hP.ss.lt g hg).2⟩⟩⟩
theorem Rn.poolTo (h : Rn w base S a F K L P T) {l' : List Tm} (hp : PoolIn w' base a.p l' (fun k => P k \/ w.heap.size <= k)) (hf : Fr P w w') :
  ∃ P' T', Rn w' base { S with l := l' } a F K L P' T' /\ Below base w w' := by
 have hb := h.base_le
 have hz := hf.size
 refine ⟨fun k => (P k \/ w.heap.size <= k) /\ k < w'.heap.size, fun k => if k < w.heap.size then T k else 4, ⟨h.top.fr hf (fun e => ?_), own_fr h.eps hf (fun g hg e => ?_), h.disk.fr hf (fun k hk e => ?_), h.tab.fr hf (fun k hk e => ?_), h.log.fr hf (fun k hk e => ?_), pool_restrict hp, fun k hk => ?_, fun k hk => ?_, fun k hk => ?_, fun k hk => ?_, fun k hk => ?_, h.farTo hf (fun k hk => by have := (h.tP k hk).1; omega) (fun k hk h0 => by simp only [hk, if_true]; exact h0)⟩, hf.below hb (fun k hk => (h.tP k hk).2.1)⟩
 ·have h1 := (h.tR _ (.inl rfl)).1; have h2 := (h.tP _ e).1; omega
 ·have h1 := (h.tR _ (.inr hg)).1; have h2 := (h.tP _ e).1; omega
 ·have h1 := (h.tF _ hk).1; have h2 := (h.tP _ e).1; omega
 ·have h1 := (h.tK _ hk).1; have h2 := (h.tP _ e).1; omega
 ·have h1 := (h.tL _ hk).1; have h2 := (h.tP _ e).1; omega
 ·have h1 := h.tF k hk; rw [if_pos h1.2.2]; exact ⟨h1.1, h1.2.1, by omega⟩
 ·have h1 := h.tK k hk; rw [if_pos h1.2.2]; exact ⟨h1.1, h1.2.1, by omega⟩
 ·have h1 := h.tL k hk; rw [if_pos h1.2.2]; exact ⟨h1.1, h1.2.1, by omega⟩
 ·by_cases hk' : k < w.heap.size
  ·have h1 := h.tP k (hk.1.elim id (fun e => by omega)); simp only [hk', if_true]; exact ⟨h1.1, h1.2.1, hk.2⟩
  ·simp only [hk', if_false]; exact ⟨trivial, by omega, hk.2⟩
 ·have h1 := h.tR k hk; rw [if_pos h1.2.2]; exact ⟨h1.1, h1.2.1, by omega⟩
theorem Rn.logTo (h : Rn w base S a F K L P T) {s' : Lg} {A' : Option Addr} {cT' : Nat} {C' : Option Addr} {cC' : Nat} {vs' : List Pt} (hl : LgP w' a.lb a.b (2 * S.slots) s' a.bg a.cB A' cT' C' cC' vs' (fun k => L k \/ w.heap.size <= k)) (hf : Fr L w w') :
  ∃ L' T', Rn w' base { S with s := s' } { a with A := A', cT := cT', C := C', cC := cC', vs := vs' } F K L' P T' /\ Below base w w' := by
 have hb := h.base_le
 have hz := hf.size
 refine ⟨fun k => (L k \/ w.heap.size <= k) /\ k < w'.heap.size, fun k => if k < w.heap.size then T k else 3, ⟨h.top.fr hf (fun e => ?_), own_fr h.eps hf (fun g hg e => ?_), h.disk.fr hf (fun k hk e => ?_), h.tab.fr hf (fun k hk e => ?_), hl.restrict, pool_fr h.pool hf (fun k hk e => ?_), fun k hk => ?_, fun k hk => ?_, fun k hk => ?_, fun k hk => ?_, fun k hk => ?_, h.farTo hf (fun k hk => by have := (h.tL k hk).1; omega) (fun k hk h0 => by simp only [hk, if_true]; exact h0)⟩, hf.below hb (fun k hk => (h.tL k hk).2.1)⟩
 ·have h1 := (h.tR _ (.inl rfl)).1; have h2 := (h.tL _ e).1; omega
 ·have h1 := (h.tR _ (.inr hg)).1; have h2 := (h.tL _ e).1; omega
 ·have h1 := (h.tF _ hk).1; have h2 := (h.tL _ e).1; omega
 ·have h1 := (h.tK _ hk).1; have h2 := (h.tL _ e).1; omega
 ·have h1 := (h.tP _ hk).1; have h2 := (h.tL _ e).1; omega
 ·have h1 := h.tF k hk; rw [if_pos h1.2.2]; exact ⟨h1.1, h1.2.1, by omega⟩
 ·have h1 := h.tK k hk; rw [if_pos h1.2.2]; exact ⟨h1.1, h1.2.1, by omega⟩
 ·by_cases hk' : k < w.heap.size
  ·have h1 := h.tL k (hk.1.elim id (fun e => by omega)); simp only [hk', if_true]; exact ⟨h1.1, h1.2.1, hk.2⟩
  ·simp only [hk', if_false]; exact ⟨trivial, by omega, hk.2⟩
 ·have h1 := h.tP k hk; rw [if_pos h1.2.2]; exact ⟨h1.1, h1.2.1, by omega⟩
 ·have h1 := h.tR k hk; rw [if_pos h1.2.2]; exact ⟨h1.1, h1.2.1, by omega⟩
theorem Rn.flushTo (h : Rn w base S a F K L P T) {s' : Lg} {D' : Dk} {F' : Nat -> Prop} (hl : LD w' a.lb a.b (2 * S.slots) s' a.bg a.cB a.A a.cT a.C a.cC a.vs L D' F') (hf : Fr (fun k => F k \/ L k) w w') (hF : ∀ k, k < w.heap.size -> F' k -> F k) :
  ∃ T', Rn w' base { S with s := s', D := D' } a F' K L P T' /\ Below base w w' := by
 have hb := h.base_le
 have hz := hf.size
 refine ⟨fun k => if k < w.heap.size then T k else 1, ⟨h.top.fr hf (fun e => ?_), own_fr h.eps hf (fun g hg e => ?_), hl.disk, h.tab.fr hf (fun k hk e => ?_), hl.log, pool_fr h.pool hf (fun k hk e => ?_), fun k hk => ?_, fun k hk => ?_, fun k hk => ?_, fun k hk => ?_, fun k hk => ?_, h.farTo hf (fun k hk => hk.elim (fun e => by have := (h.tF k e).1; omega) (fun e => by have := (h.tL k e).1; omega)) (fun k hk h0 => by simp only [hk, if_true]; exact h0)⟩, hf.below hb (fun k hk => hk.elim (fun e => (h.tF k e).2.1) (fun e => (h.tL k e).2.1))⟩
 ·have h1 := (h.tR _ (.inl rfl)).1; exact e.elim (fun e => by have h2 := (h.tF _ e).1; omega) (fun e => by have h2 := (h.tL _ e).1; omega)
 ·have h1 := (h.tR _ (.inr hg)).1; exact e.elim (fun e => by have h2 := (h.tF _ e).1; omega) (fun e => by have h2 := (h.tL _ e).1; omega)
 ·have h1 := (h.tK _ hk).1; exact e.elim (fun e => by have h2 := (h.tF _ e).1; omega) (fun e => by have h2 := (h.tL _ e).1; omega)
 ·have h1 := (h.tP _ hk).1; exact e.elim (fun e => by have h2 := (h.tF _ e).1; omega) (fun e => by have h2 := (h.tL _ e).1; omega)
 ·by_cases hk' : k < w.heap.size
  ·have h1 := h.tF k (hF k hk' hk); simp only [hk', if_true]; exact ⟨h1.1, h1.2.1, by omega⟩
  ·simp only [hk', if_false]; exact ⟨trivial, by omega, hl.flt k hk⟩
 ·have h1 := h.tK k hk; rw [if_pos h1.2.2]; exact ⟨h1.1, h1.2.1, by omega⟩
 ·have h1 := h.tL k hk; rw [if_pos h1.2.2]; exact ⟨h1.1, h1.2.1, by omega⟩
 ·have h1 := h.tP k hk; rw [if_pos h1.2.2]; exact ⟨h1.1, h1.2.1, by omega⟩
 ·have h1 := h.tR k hk; rw [if_pos h1.2.2]; exact ⟨h1.1, h1.2.1, by omega⟩
open Classical in
theorem Rn.keysTo (h : Rn w base S a F K L P T) {E' : List (Option Ke)} {dead' : Bool} {D' : Dk} (hk : KTo w (fun k => F k \/ K k) a.t a.b a.sg (0 : Nat) E' dead' D' w') :
  ∃ F' K' T', Rn w' base { S with E := E', dead := dead', D := D' } a F' K' L P T' /\ Below base w w' := by
 obtain ⟨F', K', G', hst, hf, hG⟩ := hk
 have hb := h.base_le
 have hz := hf.size
 have hFo : ∀ k, F' k -> k < w.heap.size -> T k = 1 \/ T k = 2 := fun k hk hl => by
  rcases hG k hl (hst.fin k hk).1 with e | e
  ·exact .inl (h.tF k e).1
  ·exact .inr (h.tK k e).1
 have hKo : ∀ k, K' k -> k < w.heap.size -> T k = 1 \/ T k = 2 := fun k hk hl => by
  rcases hG k hl (hst.kin k hk).1 with e | e
  ·exact .inl (h.tF k e).1
  ·exact .inr (h.tK k e).1
 have hbF : ∀ k, F' k -> base <= k := fun k hk => by
  by_cases hl : k < w.heap.size
  ·rcases hG k hl (hst.fin k hk).1 with e | e
   ·exact (h.tF k e).2.1
   ·exact (h.tK k e).2.1
  ·omega
 have hbK : ∀ k, K' k -> base <= k := fun k hk => by
  by_cases hl : k < w.heap.size
  ·rcases hG k hl (hst.kin k hk).1 with e | e
   ·exact (h.tF k e).2.1
   ·exact (h.tK k e).2.1
  ·omega
 have hT : ∀ k, k < w.heap.size -> T k ≠ 1 -> T k ≠ 2 -> (if F' k then 1 else if K' k then 2 else T k) = T k := fun k hl h1 h2 => by
  rw [if_neg (fun e => by have := hFo k e hl; omega), if_neg (fun e => by have := hKo k e hl; omega)]
 refine ⟨F', K', fun k => if F' k then 1 else if K' k then 2 else T k, ⟨h.top.fr hf (fun e => ?_), own_fr h.eps hf (fun g hg e => ?_), hst.disk, hst.tab, h.log.fr hf (fun k hk e => ?_), pool_fr h.pool hf (fun k hk e => ?_), fun k hk => ?_, fun k hk => ?_, fun k hk => ?_, fun k hk => ?_, fun k hk => ?_, h.farTo hf (fun k hk => hk.elim (fun e => by have := (h.tF k e).1; omega) (fun e => by have := (h.tK k e).1; omega)) (fun k hk h0 => by show (if F' k then 1 else if K' k then 2 else T k) = 0; rw [hT k hk (by omega) (by omega)]; exact h0)⟩, hf.below hb (fun k hk => hk.elim (fun e => (h.tF k e).2.1) (fun e => (h.tK k e).2.1))⟩
 ·have h1 := (h.tR _ (.inl rfl)).1; exact e.elim (fun e => by have h2 := (h.tF _ e).1; omega) (fun e => by have h2 := (h.tK _ e).1; omega)
 ·have h1 := (h.tR _ (.inr hg)).1; exact e.elim (fun e => by have h2 := (h.tF _ e).1; omega) (fun e => by have h2 := (h.tK _ e).1; omega)
 ·have h1 := (h.tL _ hk).1; exact e.elim (fun e => by have h2 := (h.tF _ e).1; omega) (fun e => by have h2 := (h.tK _ e).1; omega)
 ·have h1 := (h.tP _ hk).1; exact e.elim (fun e => by have h2 := (h.tF _ e).1; omega) (fun e => by have h2 := (h.tK _ e).1; omega)
 ·simp only [hk, if_true]; exact ⟨trivial, hbF k hk, (hst.fin k hk).2⟩
 ·have hn : ¬ F' k := fun e => hst.apart k e hk
  simp only [hn, hk, if_true, if_false]; exact ⟨trivial, hbK k hk, (hst.kin k hk).2⟩
 ·have h1 := h.tL k hk; rw [hT k h1.2.2 (by omega) (by omega)]; exact ⟨h1.1, h1.2.1, by omega⟩
 ·have h1 := h.tP k hk; rw [hT k h1.2.2 (by omega) (by omega)]; exact ⟨h1.1, h1.2.1, by omega⟩
 ·have h1 := h.tR k hk; rw [hT k h1.2.2 (by omega) (by omega)]; exact ⟨h1.1, h1.2.1, by omega⟩
theorem Rn.kst (h : Rn w base S a F K L P T) : KSt w a.t a.b a.sg (0 : Nat) S.E S.dead S.D F K (fun k => F k \/ K k) :=
 ⟨h.disk, h.tab, fun k h1 h2 => by have := (h.tF k h1).1; have := (h.tK k h2).1; omega, fun k hk => ⟨.inl hk, (h.tF k hk).2.2⟩, fun k hk => ⟨.inr hk, (h.tK k hk).2.2⟩⟩
theorem Rn.ld (h : Rn w base S a F K L P T) : LD w a.lb a.b (2 * S.slots) S.s a.bg a.cB a.A a.cT a.C a.cC a.vs L S.D F :=
 ⟨h.log, h.disk, fun k h1 h2 => by have := (h.tF k h1).1; have := (h.tL k h2).1; omega, fun k hk => (h.tF k hk).2.2, fun k hk => (h.tL k hk).2.2⟩
end
end
section
set_option maxRecDepth 4000
open Go.RowKit
structure TabsS (w : World) : Prop where
 sha : Tab w
 ten : Tab10 w
 mx : ∃ m, w.cell? ⟨0, 0, none⟩ = some (.int .i64 m)
theorem TabsS.below {w w' : World} {B : Nat} (h : TabsS w) (hB : w.heap.size <= B) (hb : Below B w w') : TabsS w' :=
 ⟨h.sha.below (hb.mono hB), h.ten.below hB hb, by
  obtain ⟨m, hm⟩ := h.mx
  exact ⟨m, (hb.cell (Nat.lt_of_lt_of_le (World.block_lt_of_cell? w _ hm) hB)).trans hm⟩⟩
theorem Rn.setR {w : World} {base : Nat} {S S' : St} {a : Loc} {F K L P : Nat -> Prop} {T : Nat -> Nat} (h : Rn w base S a F K L P T) (j : Nat) (v : Value) (hc : (rcells S a).setIfInBounds j v = rcells S' a) (h1 : S'.eps = S.eps) (h2 : S'.D = S.D) (h3 : S'.E = S.E) (h4 : S'.dead = S.dead) (h5 : S'.s = S.s) (h6 : S'.l = S.l) (h7 : S'.slots = S.slots) (h8 : S'.far = S.far := by rfl) :
  Rn (w.setCell ⟨a.r, j, none⟩ v) base S' a F K L P T /\ Below base w (w.setCell ⟨a.r, j, none⟩ v) := by
 have hf : Fr (· = a.r) w (w.setCell ⟨a.r, j, none⟩ v) := Fr.setCell (F := (· = a.r)) w ⟨a.r, j, none⟩ v rfl
 have hr := h.tR a.r (.inl rfl)
 have hz : (w.setCell ⟨a.r, j, none⟩ v).heap.size = w.heap.size := by simp [World.setCell]
 refine ⟨⟨hc ▸ h.top.set_ j v, ?_, h2 ▸ h.disk.fr hf (fun k hk e => ?_), ?_, ?_, ?_, fun k hk => ?_, fun k hk => ?_, fun k hk => ?_, fun k hk => ?_, fun k hk => ?_, h8 ▸ h.farTo hf (fun k hk => by rw [hk, hr.1]; decide) (fun _ _ e => e)⟩, hf.below h.base_le (fun k e => e ▸ hr.2.1)⟩
 ·rw [h1]; exact own_fr h.eps hf (own_ne h.eps h.top (by decide))
 ·have := (h.tF k hk).1; subst e; omega
 ·rw [h3, h4]; exact h.tab.fr hf (fun k hk e => by have := (h.tK k hk).1; subst e; omega)
 ·rw [h5, h7]; exact h.log.fr hf (fun k hk e => by have := (h.tL k hk).1; subst e; omega)
 ·rw [h6]; exact pool_fr h.pool hf (fun k hk e => by have := (h.tP k hk).1; subst e; omega)
 ·rw [hz]; exact h.tF k hk
 ·rw [hz]; exact h.tK k hk
 ·rw [hz]; exact h.tL k hk
 ·rw [hz]; exact h.tP k hk
 ·rw [hz]; exact h.tR k (by rw [h1] at hk; exact hk)
def atm (n : Nat) : Tm := ⟨1, n, 0, 0⟩
theorem okT_atm (k n : Nat) : okT k (atm n) = true := by rw [okT_atomK rfl]; rfl
theorem wfT_atm (n : Nat) (h : n <= 1000000) : wfT (atm n) := ⟨show (Lit.int .i64 1).wf = true by decide, WalkArith.wf_i64 (by show -9223372036854775808 <= (n : Int) /\ (n : Int) <= 9223372036854775807; omega), show (Lit.int .i64 0).wf = true by decide, show (Lit.int .i64 0).wf = true by decide⟩
theorem atm_new {l : List Tm} {n : Nat} (h : ∀ t ∈ l, t.k = 1 -> t.a < n) : atm n ∉ l := fun hm => by
 have := h _ hm rfl
 simp only [atm] at this
 omega
set_option maxHeartbeats 2000000 in
theorem atom_any {w : World} {base : Nat} {S : St} {a : Loc} {F K L P : Nat -> Prop} {T : Nat -> Nat} (h : Rn w base S a F K L P T) (hp : Pool S.l) (hl : S.l.length <= 1000) (hn : atm S.atoms ∉ S.l) (hat : S.atoms <= 1000) (hT : Tab10 w) :
  Calls Tryz.prog 51 #[.pointer (some ⟨a.r, 0, none⟩)] w fun e w' => e = .returned (.int .i64 S.l.length) /\ (∃ P' T', Rn w' base { S with l := S.l ++ [atm S.atoms], atoms := S.atoms + 1 } a F K L P' T') /\ Below base w w' := by
 have HP := Lh (put_new a.p (atm S.atoms) S.l base w.drew P (pool_fr h.pool (Fr.refl (fun _ => False) w).drew (fun _ _ e => e)) hp (okT_atm _ _) hn (by omega) (wfT_atm _ (by omega)) (by exact hT))
 have c6 : w.cell? ⟨a.r, 6, none⟩ = some (.pointer (some ⟨a.p, 0, none⟩)) := h.top.cell 6
 have c7 : w.cell? ⟨a.r, 7, none⟩ = some (.int .i64 S.atoms) := h.top.cell 7
 have HH := Lh h
 have hai : IntKind.i64.wrap ((S.atoms : Int) + 1) = (S.atoms : Int) + 1 := IntWalk.i64_in _ (by omega)
 obtain ⟨N, hN⟩ : ∃ N, N = S.atoms := ⟨_, rfl⟩
 rw [<- hN] at c7 hai
 have HN := Lh hN
 clear h hp hn hT hN
 go_enter Tryz.func51, Tryz.ntmps51
 go_wp2_with fail
 refine region_fast [(0, true), (1, true), (2, true), (3, true), (4, true), (5, true), (6, true), (7, true), (8, true), (9, false), (10, true), (11, true), (12, true), (13, true), (14, true)] [4, 5, 6, 7, 8, 12, 13] 12784 [(64, 1, 0, 0), (128, 64, 1, 1), (256, 128, 2, 3), (512, 256, 4, 7), (1024, 1, 0, 0), (2048, 1024, 16, 16), (4096, 2048, 32, 48), (8192, 4096, 64, 112), (16384, 8192, 128, 240), (32768, 16896, 264, 511), (32, 32768, 512, 1023), (65536, 32, 1024, 2047), (131072, 32, 1024, 2047), (8, 65536, 4095, 4095), (16, 131072, 16383, 16383)] (fun W => W.cell? ⟨a.r, 6, none⟩ = some (.pointer (some ⟨a.p, 0, none⟩)) /\ W.cell? ⟨a.r, 7, none⟩ = some (.int .i64 N)) (by kernel_rfl) (by kernel_rfl) (by kernel_rfl) rfl (by kernel_rfl) (by kernel_rfl) ⟨c6, c7⟩ (fun hS => ?_)
 repeat (first
  | (refine plan_read (v := ?_) rfl (fun _ _ _ h => h) rfl hS ?_ ?_; rotate_left 1; (focus (intro w' hS'; have e0 := hS'.1; have e1 := hS'.2; go_simp; try rfl)); (simp only [Act.put, pu1]; dsimp only [pu2, pu3]))
  | (refine plan_skip rfl (fun _ _ _ h => h) rfl hS ?_; (simp only [Act.put, pu1]; dsimp only [pu2, pu3])))
 refine plan_do (by rfl) (by rfl) (fun K hK => ?_)
 go_simp
 have HPX := HP.out
 rw [<- HN.out] at HPX
 refine HPX.mono ?_
 rintro e w1 ⟨rfl, hpl, fr⟩
 obtain ⟨P', T', hR1, bel1⟩ := HH.out.drew.poolTo hpl fr
 have hb1 : Below base w w1 := below_of_drew bel1
 have d6 : w1.cell? ⟨a.r, 6, none⟩ = some (.pointer (some ⟨a.p, 0, none⟩)) := hR1.top.cell 6
 have d7 : w1.cell? ⟨a.r, 7, none⟩ = some (.int .i64 N) := by rw [HN.out]; exact hR1.top.cell 7
 have f7 := hR1.top.frozen 7
 rw [<- HN.out] at hR1
 obtain ⟨hR2, bel2⟩ := hR1.setR (S' := { S with l := S.l ++ [atm N], atoms := N + 1 }) 7 (.int .i64 ((N : Int) + 1)) (by unfold rcells; simp) rfl rfl rfl rfl rfl rfl rfl
 have H1 := Lh (Ai hR2 (hb1.trans bel2))
 clear hpl fr hR1 bel1 hb1 hR2 bel2 HPX HP
 have hS := Ai d6 d7
 refine hK.out _ _ (fun h => by cases h) (fun _ => ?_); clear hK K; try (simp only [Act.put, pu1]; dsimp only [pu2, pu3])
 repeat (first
  | (refine plan_read (v := ?_) rfl (fun _ _ _ h => h) rfl hS ?_ ?_; rotate_left 1; (focus (intro w' hS'; go_simp; try rfl)); (simp only [Act.put, pu1]; dsimp only [pu2, pu3]))
  | (refine plan_skip rfl (fun _ _ _ h => h) rfl hS ?_; (simp only [Act.put, pu1]; dsimp only [pu2, pu3])))
 refine plan_nil ?_
 go_wp2_with fail
 go_ret
 rw [<- HN.out]
 exact ⟨rfl, ⟨P', T', H1.out.1⟩, H1.out.2⟩
theorem max_zero (A : Option Addr) (zs : List Int) (c : Nat) (w : World) (hS : Sees w 1 A (zs.length + 1) (i64s (zs ++ [0]))) (hl : zs.length <= 10000) (n : Nat) (hn : zs = [(n : Int)]) :
  Calls Tryz.prog 79 #[.slice A (zs.length + 1) c] w fun e w' => e = .returned (.int .i64 n) /\ w = w' := by
 subst hn
 obtain ⟨g, off, rfl, hc⟩ := hS.2 (by simp)
 have c0 : w.cell? ⟨g, off, none⟩ = some (.int .i64 n) := hc 0 _ rfl
 have c1 : w.cell? ⟨g, off + 1, none⟩ = some (.int .i64 0) := hc 1 _ rfl
 have hmx : max (n : Int) 0 = (n : Int) := by omega
 clear hc hS hl
 show Calls Tryz.prog 79 #[.slice (some ⟨g, off, none⟩) 2 c] w _
 go_enter Tryz.func79, Tryz.ntmps79
 go_wp2_with fail
 refine wp_loop_rounds 2 ?_
 rw [rounds_succ]
 go_wp2_with fail
 rw [rounds_succ]
 go_wp2_with fail
 go_ret
 exact ⟨rfl, rfl⟩
end
section
set_option maxRecDepth 4000
open Go.RowKit
theorem kput_dead (t b sg : Nat) (f : Nat) (E : List (Option Ke)) (D : Dk) (F K G : Nat -> Prop) (x : Nat) (A : Option Addr) (c : Nat) (w : World)
  (h : KSt w t b sg f E true D F K G) (hE : E.length <= 1000) :
  Calls Tryz.prog 80 #[.pointer (some ⟨t, 0, none⟩), .int .i64 x, .slice A 32 c] w fun e w' => (∃ g, e = .returned (.iface 110 (.pointer (some ⟨g, 0, none⟩)))) /\ Below w.heap.size w w' := by
 have c2 : w.cell? ⟨t, 2, none⟩ = some (.slice (some ⟨sg, 0, none⟩) E.length E.length) := h.tab.top.cell 2
 have HI := Lh (index_free (some ⟨sg, 0, none⟩) E E.length w h.tab.sees (by omega))
 have HWR := Lh (fun k w => wrap_no { data := #[107, 101, 121, 115] } k 22 (by decide) w)
 have HH := Lh h
 clear h
 go_enter Tryz.func80, Tryz.ntmps80
 go_wp2_with fail
 refine HI.out.mono ?_
 rintro e w1 ⟨⟨r, rfl, -⟩, hb1⟩
 have H1 := Lh (Ai (HH.out.below hb1) hb1)
 have c3 : w1.cell? ⟨t, 3, none⟩ = some (.bool true) := H1.out.1.tab.top.cell 3
 clear hb1 HI HH c2
 go_wp2_with fail
 refine (HWR.out _ _).mono ?_
 rintro e w3 ⟨rfl, -, hb3⟩
 have HB2 := Lh (H1.out.2.trans (hb3.mono H1.out.2.size))
 clear hb3
 go_wp2_with fail
 go_ret
 exact ⟨⟨_, rfl⟩, HB2.out⟩
theorem kput_full (t b sg : Nat) (f : Nat) (E : List (Option Ke)) (D : Dk) (F K G : Nat -> Prop) (x : Nat) (A : Option Addr) (c : Nat) (w : World)
  (h : KSt w t b sg f E false D F K G) (hE : E.length <= 1000) (hx : x <= 1099511627776) (hno : ∀ e, some e ∈ E -> e.buck ≠ x) (hfr : none ∉ E) :
  Calls Tryz.prog 80 #[.pointer (some ⟨t, 0, none⟩), .int .i64 x, .slice A 32 c] w fun e w' => (∃ g, e = .returned (.iface 110 (.pointer (some ⟨g, 0, none⟩)))) /\ Below w.heap.size w w' := by
 have c2 : w.cell? ⟨t, 2, none⟩ = some (.slice (some ⟨sg, 0, none⟩) E.length E.length) := h.tab.top.cell 2
 have HI := Lh (index_free (some ⟨sg, 0, none⟩) E E.length w h.tab.sees (by omega))
 have HR := Lh (fun w => kright_any x A 32 c w)
 rw [decide_eq_true (show keyRight (x : Int) 32 from ⟨by omega, by omega, rfl⟩)] at HR
 have HFD := Lh (fun w h => kfind_any t b sg f E false K x w h hE)
 have HWR := Lh (fun k w => wrap_no { data := #[107, 101, 121, 115] } k 21 (by decide) w)
 have HH := Lh h
 have HN := Lh (Ai hno hfr)
 clear h hno hfr
 go_enter Tryz.func80, Tryz.ntmps80
 go_wp2_with fail
 refine HI.out.mono ?_
 rintro e w1 ⟨⟨r, rfl, hr⟩, hb1⟩
 have hr1 : r = -1 := by
  rcases hr with ⟨h1, -⟩ | ⟨k, e, rfl, hk, he⟩
  ·exact h1
  ·cases e with
   | none => exact absurd (List.mem_of_getElem? hk) HN.out.2
   | some e => cases he
 subst hr1
 have H1 := Lh (Ai (HH.out.below hb1) hb1)
 have c3 : w1.cell? ⟨t, 3, none⟩ = some (.bool false) := H1.out.1.tab.top.cell 3
 clear hr hb1 HI HH c2
 go_wp2_with fail
 refine (HR.out _).mono ?_
 rintro e w2 ⟨rfl, rfl⟩
 go_wp2_with fail
 refine (HFD.out _ H1.out.1.tab).mono ?_
 rintro e w2 ⟨⟨r2, rfl, hr⟩, hb2⟩
 have hr1 : r2 = -1 := by
  rcases hr with ⟨h1, -⟩ | ⟨j, e, rfl, hj, he⟩
  ·exact h1
  ·exact absurd he (HN.out.1 e (List.mem_of_getElem? hj))
 subst hr1
 have HB := Lh (H1.out.2.trans (hb2.mono H1.out.2.size))
 clear hr hb2 H1 c3 HFD HR
 go_wp2_with fail
 refine (HWR.out _ _).mono ?_
 rintro e w3 ⟨rfl, -, hb3⟩
 have HB2 := Lh (HB.out.trans (hb3.mono HB.out.size))
 clear hb3
 go_wp2_with fail
 go_ret
 exact ⟨⟨_, rfl⟩, HB2.out⟩
def PutRel (S : St) (bk : Nat) (l : List UInt8) (S' : St) (ok : Bool) : Prop :=
 (ok = false /\ S' = S /\ (S.dead = true \/ none ∉ S.E)) \/
 (S.dead = false /\ ∃ k, S.E[k]? = some none /\ S.D.twoOk (0 + 2 * k) (keyo bk l) = ok /\
  ((ok = true /\ ∃ e' : Ke, e'.buck = bk /\ e'.key = l /\ S' = { S with E := S.E.set k (some e'), dead := false, D := S.D.two (0 + 2 * k) (keyo bk l) }) \/
   (ok = false /\ S' = { S with E := S.E, dead := true, D := S.D.two (0 + 2 * k) (keyo bk l) })))
section
variable {w w' : World} {base : Nat} {S : St} {a : Loc} {F K L P : Nat -> Prop} {T : Nat -> Nat}
theorem rput_any (h : Rn w base S a F K L P T) (bk : Nat) (l : List UInt8) (ad : Addr) (c : Nat) (hDk : S.D.Ok) (hq : S.D.queue.length <= 900) (hE : S.E.length <= 1000) (hfit : (0 + 2 * S.E.length) * 128 <= S.D.safe.length) (hx : bk <= 1099511627776) (hl : l.length = 32) (hS : Sees w 1 (some ad) 32 (u8s l)) (hA : ¬ F ad.block /\ ¬ K ad.block) (hno : ∀ e, some e ∈ S.E -> e.buck ≠ bk) :
  Calls Tryz.prog 80 #[.pointer (some ⟨a.t, 0, none⟩), .int .i64 bk, .slice (some ad) 32 c] w fun e w' => (∃ v ok S' F' K' T', e = .returned v /\ ErrIs ok v /\ PutRel S bk l S' ok /\ Rn w' base S' a F' K' L P T') /\ Below base w w' := by
 cases hd : S.dead with
 | true =>
  have hk := h.kst
  rw [hd] at hk
  refine (kput_dead a.t a.b a.sg 0 S.E S.D F K _ bk (some ad) c w hk hE).mono ?_
  rintro e w' ⟨⟨g, rfl⟩, bel⟩
  exact ⟨⟨_, false, S, F, K, T, rfl, .inr ⟨rfl, g, rfl⟩, .inl ⟨rfl, rfl, .inl hd⟩, h.below bel⟩, bel.mono h.base_le⟩
 | false =>
  have hk := h.kst
  rw [hd] at hk
  by_cases hfr : none ∈ S.E
  ·refine (kput_any a.t a.b a.sg 0 S.E S.D F K _ bk l ad c w hk hDk hq (by omega) hE hfit hx hl hS hA hno hfr).mono ?_
   rintro e w' ⟨k, v, hk0, rfl, hv, ⟨h1, e', h2, h3, h4⟩ | ⟨h1, h4⟩⟩
   ·obtain ⟨F', K', T', hR, bel⟩ := h.keysTo h4
    exact ⟨⟨v, _, _, F', K', T', rfl, hv, .inr ⟨hd, k, hk0, rfl, .inl ⟨h1, e', h2, h3, rfl⟩⟩, hR⟩, bel⟩
   ·obtain ⟨F', K', T', hR, bel⟩ := h.keysTo h4
    exact ⟨⟨v, _, _, F', K', T', rfl, hv, .inr ⟨hd, k, hk0, rfl, .inr ⟨h1, rfl⟩⟩, hR⟩, bel⟩
  ·refine (kput_full a.t a.b a.sg 0 S.E S.D F K _ bk (some ad) c w hk hE hx hno hfr).mono ?_
   rintro e w' ⟨⟨g, rfl⟩, bel⟩
   exact ⟨⟨_, false, S, F, K, T, rfl, .inr ⟨rfl, g, rfl⟩, .inl ⟨rfl, rfl, .inr hfr⟩, h.below bel⟩, bel.mono h.base_le⟩
end
theorem at32_nm (n i m : Nat) (hn : n < 18446744073709551616) : at32 (nm n) i m ↔ i = 0 /\ m = n := by
 constructor
 ·rintro ⟨h1, h2, h3⟩
  rw [nm_length] at h2
  obtain rfl : i = 0 := by omega
  refine ⟨rfl, ?_⟩
  rw [<- h3, nm, Nat.zero_add, List.drop_left' mk24_length, List.take_of_length_le (by rw [length_be]; exact Nat.le_refl _), vl_be]
  exact Nat.mod_eq_of_lt hn
 ·rintro ⟨rfl, rfl⟩
  refine ⟨?_, by rw [nm_length]; exact Nat.le_refl _, ?_⟩
  ·unfold mkAt
   rw [List.drop_zero, nm, List.take_left' mk24_length]
  ·rw [nm, Nat.zero_add, List.drop_left' mk24_length, List.take_of_length_le (by rw [length_be]; exact Nat.le_refl _), vl_be]
   exact Nat.mod_eq_of_lt hn
theorem names_nm (n : Nat) (hn : n < 4096) (x : Int) : NamesOf (nm n) x ↔ x = n := by
 constructor
 ·rintro ⟨m, rfl, _, i, h⟩
  rw [((at32_nm n i m (by omega)).1 h).2]
 ·rintro rfl
  exact ⟨n, rfl, hn, 0, (at32_nm n 0 n (by omega)).2 ⟨rfl, rfl⟩⟩
theorem only_one {l : List Int} {x : Int} (h : l.Pairwise (· < ·)) (hm : ∀ y, y ∈ l ↔ y = x) : l = [x] := by
 match l, h with
 | [], _ => exact absurd ((hm x).2 rfl) List.not_mem_nil
 | [y], _ => rw [(hm y).1 List.mem_cons_self]
 | y :: z :: t, h =>
  have h1 := (hm y).1 List.mem_cons_self
  have h2 := (hm z).1 (List.mem_cons_of_mem _ List.mem_cons_self)
  have := (List.pairwise_cons.1 h).1 z List.mem_cons_self
  omega
end
end Go.Proofs.YtkgaeoeibjoljaaGreatDoor
