/-
  Rows of texts, and the document's texts of them.
  What a log tells: Texts, Chain, Count, Sure, Segment.
  Terms as plain lists: which may stand, where one is found, their depths, sizes and texts; that texts are told apart. No program in sight.
  Terms as values: four integers in a struct; equality; a map whose keys are such structs and whose values are the numbers of the keys in the order of their coming. No program in sight.
  A pool in memory; there, right, Len, New; the document's Right.
-/
import Derived.Test.YtkgaeoeibjoljaaGreatDoorGJ
import Derived.Test.YtkgaeoeibjoljaaGreatDoorGA
import Derived.Test.YtkgaeoeibjoljaaGreatDoorGL
import Derived.Test.YtkgaeoeibjoljaaGreatDoorSeg6
import Derived.Lib.ItoaNum
import Derived.Lib.ItoaLen
import Derived.WideKeyRuns
import Derived.Laws.StructEq
import Derived.Maps.Own
import Derived.Maps.OwnOps
import Derived.Deep.Slices
import Derived.Test.YtkgaeoeibjoljaaGreatDoorProg
import Derived.BigQuiet
import Derived.Handy
import Derived.OwnWalk
import Derived.Deep.RegionHeld3
namespace Go.Proofs.YtkgaeoeibjoljaaGreatDoor
section
set_option maxRecDepth 4000
open Go.RowKit
def Rws (w : World) (A : Option Addr) (ps : List Pt) : Prop := 0 < ps.length -> ∃ g off, A = some ⟨g, off, none⟩ /\ ∀ j p, ps[j]? = some p -> w.cell? ⟨g, off + j, none⟩ = some p.val
end
section
set_option maxRecDepth 4000
open Go.RowKit
section
variable {w : World} {lb b f : Nat} {s : Lg} {bg cB : Nat} {A : Option Addr} {cT : Nat} {C : Option Addr} {cC : Nat} {vs : List Pt} {Kl : Nat -> Prop}
end
end
section
set_option maxRecDepth 4000
open Go.Lib
structure Tm where
 k : Int
 a : Int
 x : Int
 y : Int
deriving DecidableEq
def okT (n : Nat) (t : Tm) : Bool :=
 if t.k = 1 then decide (t.x = 0) && decide (t.y = 0)
 else if t.k = 3 then decide (t.a = 0) && (decide (0 <= t.x) && decide (t.x < n)) && decide (t.y = 0)
 else if t.k = 2 \/ t.k = 4 then decide (t.a = 0) && (decide (0 <= t.x) && decide (t.x < n)) && (decide (0 <= t.y) && decide (t.y < n))
 else false
def depT (d : List Int) (t : Tm) : Int :=
 if t.k = 1 then 1
 else if t.k = 3 then 1 + d.getD t.x.toNat 0
 else 1 + max (d.getD t.x.toNat 0) (d.getD t.y.toNat 0)
def sizT (s : List Int) (t : Tm) : Int :=
 if t.k = 1 then 1 + (itoa t.a).length
 else if t.k = 3 then min 10001 (3 + s.getD t.x.toNat 0)
 else min 10001 (3 + s.getD t.x.toNat 0 + s.getD t.y.toNat 0)
def txtT (s : List (List UInt8)) (t : Tm) : List UInt8 :=
 if t.k = 1 then 97 :: itoa t.a
 else if t.k = 3 then [104, 40] ++ s.getD t.x.toNat [] ++ [41]
 else if t.k = 2 then [40] ++ s.getD t.x.toNat [] ++ [44] ++ s.getD t.y.toNat [] ++ [41]
 else [123] ++ s.getD t.y.toNat [] ++ [125, 95] ++ s.getD t.x.toNat []
def laidT {α : Type} (f : List α -> Tm -> α) (l : List Tm) : List α := l.foldl (fun s t => s ++ [f s t]) []
section
variable {α : Type} {f : List α -> Tm -> α}
@[simp] theorem laidT_nil : laidT f [] = [] := rfl
theorem laidT_snoc (l : List Tm) (t : Tm) : laidT f (l ++ [t]) = laidT f l ++ [f (laidT f l) t] := by simp [laidT]
@[simp] theorem length_laidT (l : List Tm) : (laidT f l).length = l.length := by
 suffices h : ∀ (l : List Tm) (s : List α), (l.foldl (fun s t => s ++ [f s t]) s).length = s.length + l.length by simpa [laidT] using h l []
 intro l
 induction l with
 | nil => simp
 | cons t l ih => intro s; rw [List.foldl_cons, ih]; simp; omega
theorem laidT_take (l : List Tm) (n : Nat) : laidT f (l.take n) = (laidT f l).take n := by
 suffices h : ∀ (l : List Tm) (s : List α) (n : Nat), (l.take n).foldl (fun s t => s ++ [f s t]) s = (l.foldl (fun s t => s ++ [f s t]) s).take (s.length + n) by simpa [laidT] using h l [] n
 intro l
 induction l with
 | nil => intro s n; simp only [List.take_nil, List.foldl_nil]; rw [List.take_of_length_le (by omega)]
 | cons t l ih =>
  intro s n
  cases n with
  | zero =>
   simp only [List.take_zero, List.foldl_nil, Nat.add_zero, List.foldl_cons]
   have := ih (s ++ [f s t]) 0
   simp only [List.take_zero, List.foldl_nil, Nat.add_zero, List.length_append, List.length_cons, List.length_nil, Nat.zero_add] at this
   have h2 := congrArg (List.take s.length) this
   rw [List.take_take, Nat.min_eq_left (by omega)] at h2
   rw [<- h2]
   simp
  | succ n =>
   simp only [List.take_succ_cons, List.foldl_cons]
   rw [ih]
   congr 1
   simp
   omega
theorem laidT_get (l : List Tm) (n : Nat) (t : Tm) (h : l[n]? = some t) : (laidT f l)[n]? = some (f ((laidT f l).take n) t) := by
 have hn : n < l.length := (List.getElem?_eq_some_iff.1 h).1
 have e : l.take (n + 1) = l.take n ++ [t] := by rw [List.take_add_one, h]; rfl
 have e2 := congrArg (laidT f) e
 rw [laidT_snoc, laidT_take, laidT_take] at e2
 have e3 := congrArg (fun z : List α => z[n]?) e2
 simpa [List.getElem?_take, Nat.min_eq_left (Nat.le_of_lt hn)] using e3
end
def deps (l : List Tm) : List Int := laidT depT l
def sizs (l : List Tm) : List Int := laidT sizT l
def txts (l : List Tm) : List (List UInt8) := laidT txtT l
@[simp] theorem length_deps (l : List Tm) : (deps l).length = l.length := length_laidT l
@[simp] theorem length_sizs (l : List Tm) : (sizs l).length = l.length := length_laidT l
@[simp] theorem length_txts (l : List Tm) : (txts l).length = l.length := length_laidT l
def fitT (t : Tm) : Prop := -9223372036854775808 <= t.a /\ t.a <= 9223372036854775807
structure Pool (l : List Tm) : Prop where
 apart : l.Nodup
 fits : ∀ t ∈ l, fitT t
 right : ∀ (i : Nat) (t : Tm), l[i]? = some t -> okT i t = true
theorem Pool.nil : Pool [] := ⟨List.nodup_nil, by simp, by simp⟩
theorem Pool.snoc {l : List Tm} {t : Tm} (h : Pool l) (hr : okT l.length t = true) (hn : t ∉ l) (hf : fitT t) : Pool (l ++ [t]) := by
 refine ⟨?_, fun u hu => ?_, fun i u hu => ?_⟩
 ·rw [List.nodup_append]
  exact ⟨h.apart, by simp, by simp; intro a ha e; exact hn (e ▸ ha)⟩
 ·rw [List.mem_append, List.mem_singleton] at hu
  rcases hu with hu | rfl
  ·exact h.fits u hu
  ·exact hf
 ·rw [List.getElem?_append] at hu
  split at hu
  ·exact h.right i u hu
  ·rename_i hi
   have : i - l.length = 0 := by
    have := (List.getElem?_eq_some_iff.1 hu).1
    simp at this
    omega
   rw [this] at hu
   simp at hu
   subst hu
   rw [show i = l.length by omega]
   exact hr
/-! ### Parts -/
theorem okT_x {n : Nat} {t : Tm} (h : okT n t = true) (hk : t.k ≠ 1) : 0 <= t.x /\ t.x < n := by
 unfold okT at h
 rw [if_neg hk] at h
 split at h
 ·simp at h; omega
 ·split at h
  ·simp at h; omega
  ·simp at h
theorem okT_y {n : Nat} {t : Tm} (h : okT n t = true) (hk : t.k ≠ 1) (h3 : t.k ≠ 3) : 0 <= t.y /\ t.y < n := by
 unfold okT at h
 rw [if_neg hk, if_neg h3] at h
 split at h
 ·simp at h; omega
 ·simp at h
section
variable {l : List Tm} (h : Pool l)
include h
omit h in
theorem getD_take {α : Type} (z : List α) (n i : Nat) (d : α) (hi : i < n) : (z.take n).getD i d = z.getD i d := by
 simp [List.getD_eq_getElem?_getD, List.getElem?_take, hi]
theorem deps_get {n : Nat} {t : Tm} (hn : l[n]? = some t) : (deps l)[n]? = some (depT (deps l) t) := by
 have hr := h.right n t hn
 rw [deps, laidT_get l n t hn]
 congr 1
 unfold depT
 split
 ·rfl
 ·rename_i h1
  have := okT_x hr h1
  split
  ·rw [getD_take _ _ _ _ (by omega)]
  ·rename_i h3
   have := okT_y hr h1 h3
   rw [getD_take _ _ _ _ (by omega), getD_take _ _ _ _ (by omega)]
theorem sizs_get {n : Nat} {t : Tm} (hn : l[n]? = some t) : (sizs l)[n]? = some (sizT (sizs l) t) := by
 have hr := h.right n t hn
 rw [sizs, laidT_get l n t hn]
 congr 1
 unfold sizT
 split
 ·rfl
 ·rename_i h1
  have := okT_x hr h1
  split
  ·rw [getD_take _ _ _ _ (by omega)]
  ·rename_i h3
   have := okT_y hr h1 h3
   rw [getD_take _ _ _ _ (by omega), getD_take _ _ _ _ (by omega)]
end
theorem decDigits_pos (u : Nat) : 1 <= (decDigits u).length := by rw [decDigits_length]; exact nDigits_pos u
theorem itoa_pos (n : Int) : 1 <= (itoa n).length := by
 unfold itoa
 split
 ·simp
 ·exact decDigits_pos _
section
variable {l : List Tm} (h : Pool l)
include h
theorem sizs_pos : ∀ (n : Nat), n < l.length -> 2 <= (sizs l).getD n 0 := by
 intro n
 induction n using Nat.strongRecOn with
 | _ n ih =>
  intro hn
  have hr := h.right n _ (List.getElem?_eq_getElem hn)
  have hs := sizs_get h (List.getElem?_eq_getElem hn)
  rw [List.getD_eq_getElem?_getD, hs]
  generalize l[n] = t at hr hs
  simp only [Option.getD_some]
  unfold sizT
  split
  ·have := itoa_pos t.a
   omega
  ·rename_i h1
   have hx := okT_x hr h1
   have ix := ih t.x.toNat (by omega) (by omega)
   split
   ·omega
   ·rename_i h3
    have hy := okT_y hr h1 h3
    have iy := ih t.y.toNat (by omega) (by omega)
    omega
theorem sizs_top {n : Nat} (hn : n < l.length) : (sizs l).getD n 0 <= 10001 := by
 have hs := sizs_get h (List.getElem?_eq_getElem hn)
 rw [List.getD_eq_getElem?_getD, hs]
 simp only [Option.getD_some]
 unfold sizT
 split
 ·have hf := h.fits _ (List.getElem_mem hn)
  have := itoa_length_le (l[n]).a hf.1 hf.2
  omega
 ·split <;> omega
theorem deps_pos : ∀ (n : Nat), n < l.length -> 1 <= (deps l).getD n 0 /\ (deps l).getD n 0 <= n + 1 := by
 intro n
 induction n using Nat.strongRecOn with
 | _ n ih =>
  intro hn
  have hr := h.right n _ (List.getElem?_eq_getElem hn)
  have hs := deps_get h (List.getElem?_eq_getElem hn)
  rw [List.getD_eq_getElem?_getD, hs]
  generalize l[n] = t at hr hs
  simp only [Option.getD_some]
  unfold depT
  split
  ·omega
  ·rename_i h1
   have hx := okT_x hr h1
   have ix := ih t.x.toNat (by omega) (by omega)
   split
   ·omega
   ·rename_i h3
    have hy := okT_y hr h1 h3
    have iy := ih t.y.toNat (by omega) (by omega)
    omega
end
/-! ### Numerals, told apart -/
theorem Tm.ext4 {t u : Tm} (h1 : t.k = u.k) (h2 : t.a = u.a) (h3 : t.x = u.x) (h4 : t.y = u.y) : t = u := by cases t; cases u; simp_all
end
section
set_option maxRecDepth 4000
open Go.RowKit Go.ChangeShapes Go.WideShapes Go.Deep
def tcells (t : Tm) : List Value := [.int .i64 t.k, .int .i64 t.a, .int .i64 t.x, .int .i64 t.y]
def tval (t : Tm) : Value := .agg #[.int .i64 t.k, .int .i64 t.a, .int .i64 t.x, .int .i64 t.y]
def tcs (l : List Tm) : List Value := l.flatMap tcells
@[simp] theorem length_tcells (t : Tm) : (tcells t).length = 4 := rfl
@[simp] theorem length_tcs (l : List Tm) : (tcs l).length = l.length * 4 := length_flatMap_const tcells 4 length_tcells l
theorem tcs_append (a b : List Tm) : tcs (a ++ b) = tcs a ++ tcs b := by simp [tcs]
theorem tcs_one (t : Tm) : tcs [t] = tcells t := by simp [tcs]
theorem tcs_get {l : List Tm} {k : Nat} {t : Tm} (h : l[k]? = some t) (j : Nat) (hj : j < 4) : (tcs l)[k * 4 + j]? = (tcells t)[j]? := flatMap_get tcells 4 length_tcells l k j t h hj
structure TermType (P : Program) (T I : TypeId) (f0 f1 f2 f3 : Field) : Prop where
 st : P.underlying T = some (.struct #[f0, f1, f2, f3])
 int : P.underlying I = some (.int .i64)
 t0 : f0.type = I
 t1 : f1.type = I
 t2 : f2.type = I
 t3 : f3.type = I
 o0 : f0.offset = 0
 o1 : f1.offset = 1
 o2 : f2.offset = 2
 o3 : f3.offset = 3
 n0 : f0.name ≠ "_"
 n1 : f1.name ≠ "_"
 n2 : f2.name ≠ "_"
 n3 : f3.name ≠ "_"
 held : P.stoodInHeld T = false
section
variable {P : Program} {T I : TypeId} {f0 f1 f2 f3 : Field} (H : TermType P T I f0 f1 f2 f3)
include H
theorem TermType.plain : P.plainKey I = true := by simp [Program.plainKey, H.int]
theorem run_equal_tm (w : World) (a b : Tm) (d : Nat) : (Op.equalIn (d + 2) T (tval a) (tval b)).run P w = .ok (decide (a = b)) w := by
 have hf : P.fieldsOf T = #[f0, f1, f2, f3] := by simp [Program.fieldsOf, H.st]
 have hp : ∀ (xs : Array Value) (i : Nat) (v : Value), xs[i]? = some v -> (part I xs i).run P w = .ok v w := fun xs i v hv => run_part_plain w H.plain hv
 rw [tval, tval, run_equalIn_agg w (d + 1) T _ _ (by rw [hf]; exact H.st) H.held, hf]
 simp only [Op.eqFields, H.t0, H.t1, H.t2, H.t3, H.o0, H.o1, H.o2, H.o3]
 by_cases h0 : a.k = b.k
 ·by_cases h1 : a.a = b.a
  ·by_cases h2 : a.x = b.x
   ·by_cases h3 : a.y = b.y
    ·have : a = b := Tm.ext4 h0 h1 h2 h3
     simp [Sem.run_bind, hp, H.n0, H.n1, H.n2, H.n3, run_equalIn_int w d I .i64 .i64 _ _ H.int, this]
    ·have : a ≠ b := fun e => h3 (by rw [e])
     simp [Sem.run_bind, hp, H.n0, H.n1, H.n2, H.n3, run_equalIn_int w d I .i64 .i64 _ _ H.int, h0, h1, h2, h3, this]
   ·have : a ≠ b := fun e => h2 (by rw [e])
    simp [Sem.run_bind, hp, H.n0, H.n1, H.n2, H.n3, run_equalIn_int w d I .i64 .i64 _ _ H.int, h0, h1, h2, this]
  ·have : a ≠ b := fun e => h1 (by rw [e])
   simp [Sem.run_bind, hp, H.n0, H.n1, H.n2, H.n3, run_equalIn_int w d I .i64 .i64 _ _ H.int, h0, h1, this]
 ·have : a ≠ b := fun e => h0 (by rw [e])
  simp [Sem.run_bind, hp, H.n0, H.n1, H.n2, H.n3, run_equalIn_int w d I .i64 .i64 _ _ H.int, h0, this]
theorem run_checkKey_tm (w : World) (e : Bool) (t : Tm) : (Instr.checkKey e 10000 T (tval t)).run P w = .ok () w := by
 have hp : ∀ (xs : Array Value) (i : Nat) (v : Value), xs[i]? = some v -> (part I xs i).run P w = .ok v w := fun xs i v hv => run_part_plain w H.plain hv
 have hi : ∀ (n : Int) (m : Nat), (Instr.checkKey e (m + 1) I (.int .i64 n)).run P w = .ok () w := fun n m => by simp [Instr.checkKey, run_underlying H.int]
 have hi' : ∀ (n : Int), (Instr.checkKey e 9999 I (.int .i64 n)).run P w = .ok () w := fun n => hi n 9998
 show (Instr.checkKey e (9999 + 1) T (tval t)).run P w = .ok () w
 unfold tval
 rw [Instr.checkKey]
 simp [Sem.run_bind, run_underlying H.st, H.t0, H.t1, H.t2, H.t3, H.o0, H.o1, H.o2, H.o3, H.n0, H.n1, H.n2, H.n3, hp, hi']
def TMap (w : World) (b : Nat) (l : List Tm) : Prop :=
 ∃ es clock, w.heap[b]? = some (.map es clock) /\ es.toList.map (fun e => (e.key, e.val)) = l.zipIdx.map (fun p => (tval p.1, Value.int .i64 p.2))
omit H in
theorem TMap.lt {w : World} {b : Nat} {l : List Tm} (h : TMap w b l) : b < w.heap.size := by
 obtain ⟨es, clock, hb, _⟩ := h
 exact (Array.getElem?_eq_some_iff.1 hb).1
omit H in
theorem TMap.keep {w w' : World} {b : Nat} {l : List Tm} (h : TMap w b l) (hk : w'.heap[b]? = w.heap[b]?) : TMap w' b l := by
 obtain ⟨es, clock, hb, r⟩ := h
 exact ⟨es, clock, hk.trans hb, r⟩
omit H in
theorem TMap.new (w : World) : TMap (w.alloc (.map #[] 0)) w.heap.size [] := ⟨#[], 0, heap_alloc_new w _, rfl⟩
theorem findAsking_tm (w : World) (x : Tm) : ∀ (es : List MapEntry) (l : List Tm) (q i : Nat), es.map (fun e => (e.key, e.val)) = (l.zipIdx q).map (fun p => (tval p.1, Value.int .i64 p.2)) ->
  (x ∈ l /\ ∃ j, (Instr.findAsking T (tval x) es i).run P w = .ok (some (j, .int .i64 ((q + l.idxOf x : Nat) : Int))) w) \/ (x ∉ l /\ (Instr.findAsking T (tval x) es i).run P w = .ok none w) := by
 intro es
 induction es with
 | nil =>
  intro l q i h
  have : l = [] := by cases l with
   | nil => rfl
   | cons t l => simp at h
  subst this
  exact .inr ⟨by simp, rfl⟩
 | cons e es ih =>
  intro l q i h
  cases l with
  | nil => simp at h
  | cons t l =>
   simp only [List.map_cons, List.zipIdx_cons, List.cons.injEq, Prod.mk.injEq] at h
   obtain ⟨⟨h1, h2⟩, h3⟩ := h
   have he : (Op.equal T (tval x) e.key).run P w = .ok (decide (x = t)) w := by rw [h1]; exact run_equal_tm H w x t 9998
   by_cases hx : x = t
   ·subst hx
    refine .inl ⟨List.mem_cons_self, i, ?_⟩
    simp [Instr.findAsking, Sem.run_bind, he, h2]
   ·rcases ih l (q + 1) (i + 1) h3 with ⟨m, j, hj⟩ | ⟨m, hj⟩
    ·refine .inl ⟨List.mem_cons_of_mem _ m, j, ?_⟩
     have hxt : (t == x) = false := by simpa using Ne.symm hx
     simp only [Instr.findAsking, Sem.run_bind, he, decide_eq_false hx, Result.andThen_ok, Bool.false_eq_true, if_false, hj, List.idxOf_cons, hxt, cond_false]
     rw [show q + (l.idxOf x + 1) = q + 1 + l.idxOf x by omega]
    ·refine .inr ⟨by simp [hx, m], ?_⟩
     simp only [Instr.findAsking, Sem.run_bind, he, decide_eq_false hx, Result.andThen_ok, Bool.false_eq_true, if_false, hj]
theorem run_lookup_tm {mt E : TypeId} {w : World} {b : Nat} {l : List Tm} (ht : P.underlying mt = some (.map T E)) (hz : (zeroValue E).run P w = .ok (.int .i64 0) w) (h : TMap w b l) (x : Tm) :
  (Instr.lookup mt (.map (some b)) (tval x) true).run P w = .ok (.tuple #[.int .i64 (if x ∈ l then (l.idxOf x : Int) else 0), .bool (decide (x ∈ l))]) w := by
 obtain ⟨es, clock, hb, hm⟩ := h
 have hg : (getObj b).run P w = .ok (.map es clock) w := by simp [getObj, Sem.run, hb]
 have hw : (match P.underlying T with | some (.array _ _) | some (.struct _) => true | _ => false) = true := by rw [H.st]
 rcases findAsking_tm H w x es.toList l 0 0 hm with ⟨m, j, hj⟩ | ⟨m, hj⟩
 ·rw [Nat.zero_add] at hj
  simp [Instr.lookup, Sem.run_bind, run_underlying ht, hg, run_checkKey_tm H w, run_findKey_eq w hw, hj, m]
 ·simp [Instr.lookup, Sem.run_bind, run_underlying ht, hg, run_checkKey_tm H w, run_findKey_eq w hw, hj, m, hz]
theorem run_update_tm {mt E : TypeId} {w : World} {b : Nat} {l : List Tm} (ht : P.underlying mt = some (.map T E)) (h : TMap w b l) (x : Tm) (hx : x ∉ l) :
  ∃ w', (Instr.mapUpdate mt (.map (some b)) (tval x) (.int .i64 (l.length : Int))).run P w = .ok () w' /\ TMap w' b (l ++ [x]) /\ Fr (· = b) w w' /\ w'.heap.size = w.heap.size := by
 have hlt := h.lt
 obtain ⟨es, clock, hb, hm⟩ := h
 have hg : (getObj b).run P w = .ok (.map es clock) w := by simp [getObj, Sem.run, hb]
 have hw : (match P.underlying T with | some (.array _ _) | some (.struct _) => true | _ => false) = true := by rw [H.st]
 rcases findAsking_tm H w x es.toList l 0 0 hm with ⟨m, _⟩ | ⟨_, hj⟩
 ·exact absurd m hx
 refine ⟨{ w with heap := w.heap.setIfInBounds b (.map (es.push { key := tval x, val := .int .i64 (l.length : Int), born := clock }) (clock + 1)) }, ?_, ⟨es.push { key := tval x, val := .int .i64 (l.length : Int), born := clock }, clock + 1, ?_, ?_⟩, ⟨rfl, rfl, rfl, by simp, ?_⟩, by simp⟩
 ·simp [Instr.mapUpdate, Sem.run_bind, run_underlying ht, hg, run_checkKey_tm H w, run_findKey_eq w hw, hj, setObj, Sem.run, hb]
 ·simp [Array.getElem?_setIfInBounds, hlt]
 ·simp [hm, List.zipIdx_append]
 ·intro i hi hne
  simp [Array.getElem?_setIfInBounds, Ne.symm hne]
end
/-! ### An argument of terms -/
def wfT (t : Tm) : Prop := (Lit.int .i64 t.k).wf = true /\ (Lit.int .i64 t.a).wf = true /\ (Lit.int .i64 t.x).wf = true /\ (Lit.int .i64 t.y).wf = true
section
variable {H : Type} {enc : TypeId × Value -> H} {P : Program} {w : World} {base : Nat} {spare : Nat -> Bool} {held : Bool}
end
end
section
set_option maxRecDepth 4000
open Go.RowKit
def tmf (n : String) (o b : Nat) : Field := ⟨n, 3, o, false, "", "", b⟩
theorem termType : TermType Tryz.prog 95 3 (tmf "Kind" 0 0) (tmf "Atom" 1 8) (tmf "A" 2 16) (tmf "B" 3 24) :=
 ⟨Tryz.underlying95, Tryz.underlying3, rfl, rfl, rfl, rfl, rfl, rfl, rfl, rfl, by decide, by decide, by decide, by decide, by kernel_rfl⟩
def i64s (l : List Int) : List Value := l.map (Value.int .i64)
@[simp] theorem length_i64s (l : List Int) : (i64s l).length = l.length := by simp [i64s]
theorem i64s_append (a b : List Int) : i64s (a ++ b) = i64s a ++ i64s b := by simp [i64s]
structure PoolParts (w : World) (base p : Nat) (l : List Tm) (tA : Option Addr) (tc mb : Nat) (dA : Option Addr) (dc : Nat) (sA : Option Addr) (sc : Nat) : Prop where
 blk : Blk w p 136 #[.slice tA l.length tc, .map (some mb), .slice dA l.length dc, .slice sA l.length sc]
 ts : w.ownsRow base 95 4 (.slice tA l.length tc) l.length (tcs l)
 ds : w.ownsRow base 3 1 (.slice dA l.length dc) l.length (i64s (deps l))
 ss : w.ownsRow base 3 1 (.slice sA l.length sc) l.length (i64s (sizs l))
 mp : TMap w mb l
 ne : ∀ g, (Value.slice dA l.length dc).ownBlock = some g -> (Value.slice sA l.length sc).ownBlock ≠ some g
 lo : base <= p /\ base <= mb
def PoolIs (w : World) (base p : Nat) (l : List Tm) : Prop := ∃ tA tc mb dA dc sA sc, PoolParts w base p l tA tc mb dA dc sA sc
structure InG (G : Nat -> Prop) (p mb : Nat) (n : Nat) (tA : Option Addr) (tc : Nat) (dA : Option Addr) (dc : Nat) (sA : Option Addr) (sc : Nat) : Prop where
 hp : G p
 hm : G mb
 ht : ∀ g, (Value.slice tA n tc).ownBlock = some g -> G g
 hd : ∀ g, (Value.slice dA n dc).ownBlock = some g -> G g
 hs : ∀ g, (Value.slice sA n sc).ownBlock = some g -> G g
def PoolIn (w : World) (base p : Nat) (l : List Tm) (G : Nat -> Prop) : Prop := ∃ tA tc mb dA dc sA sc, PoolParts w base p l tA tc mb dA dc sA sc /\ InG G p mb l.length tA tc dA dc sA sc
section
variable {w w' : World} {base p : Nat} {l : List Tm} {tA : Option Addr} {tc mb : Nat} {dA : Option Addr} {dc : Nat} {sA : Option Addr} {sc : Nat}
theorem PoolParts.below (h : PoolParts w base p l tA tc mb dA dc sA sc) (hb : Below w.heap.size w w') : PoolParts w' base p l tA tc mb dA dc sA sc :=
 ⟨h.blk.keep (hb.block _ h.blk.lt), own_below h.ts hb, own_below h.ds hb, own_below h.ss hb, h.mp.keep (hb.block _ h.mp.lt), h.ne, h.lo⟩
theorem PoolIs.below (h : PoolIs w base p l) (hb : Below w.heap.size w w') : PoolIs w' base p l := by
 obtain ⟨a, b, c, d, e, f, g, h⟩ := h
 exact ⟨a, b, c, d, e, f, g, h.below hb⟩
theorem PoolParts.lt (h : PoolParts w base p l tA tc mb dA dc sA sc) : p < w.heap.size /\ mb < w.heap.size := ⟨h.blk.lt, h.mp.lt⟩
theorem PoolIn.below {G : Nat -> Prop} (h : PoolIn w base p l G) (hb : Below w.heap.size w w') : PoolIn w' base p l G := by
 obtain ⟨a, b, c, d, e, f, g, h, i⟩ := h
 exact ⟨a, b, c, d, e, f, g, h.below hb, i⟩
theorem PoolIn.mono {G G' : Nat -> Prop} (h : PoolIn w base p l G) (hg : ∀ k, G k -> G' k) : PoolIn w base p l G' := by
 obtain ⟨a, b, c, d, e, f, g, h, i⟩ := h
 exact ⟨a, b, c, d, e, f, g, h, ⟨hg _ i.hp, hg _ i.hm, fun g h => hg _ (i.ht g h), fun g h => hg _ (i.hd g h), fun g h => hg _ (i.hs g h)⟩⟩
theorem PoolParts.cell0 (h : PoolParts w base p l tA tc mb dA dc sA sc) : w.cell? ⟨p, 0, none⟩ = some (.slice tA l.length tc) := h.blk.cell 0
theorem PoolParts.cell1 (h : PoolParts w base p l tA tc mb dA dc sA sc) : w.cell? ⟨p, 1, none⟩ = some (.map (some mb)) := h.blk.cell 1
theorem PoolParts.cell2 (h : PoolParts w base p l tA tc mb dA dc sA sc) : w.cell? ⟨p, 2, none⟩ = some (.slice dA l.length dc) := h.blk.cell 2
theorem PoolParts.cell3 (h : PoolParts w base p l tA tc mb dA dc sA sc) : w.cell? ⟨p, 3, none⟩ = some (.slice sA l.length sc) := h.blk.cell 3
end
def thereT (n : Nat) (x : Int) : Bool := decide (0 <= x) && decide (x < n)
theorem pthere_any (p : Nat) (x : Int) (A : Option Addr) (n c : Nat) (w : World) (hn : n <= maxLen) (h0 : w.cell? ⟨p, 0, none⟩ = some (.slice A n c)) :
  Calls Tryz.prog 129 #[.pointer (some ⟨p, 0, none⟩), .int .i64 x] w fun e w' => e = .returned (.bool (thereT n x)) /\ w = w' := by
 unfold maxLen at hn
 by_cases h1 : 0 <= x
 ·by_cases h2 : x < n
  ·have e := Lh (show thereT n x = true by simp [thereT, h1, h2])
   go_enter Tryz.func129, Tryz.ntmps129
   go_wp2
   go_ret
   exact ⟨ret_bool e.out.symm, rfl⟩
  ·have e := Lh (show thereT n x = false by simp [thereT, h2])
   go_enter Tryz.func129, Tryz.ntmps129
   go_wp2
   go_ret
   exact ⟨ret_bool e.out.symm, rfl⟩
 ·have e := Lh (show thereT n x = false by simp [thereT, h1])
  go_enter Tryz.func129, Tryz.ntmps129
  go_wp2
  go_ret
  exact ⟨ret_bool e.out.symm, rfl⟩
theorem plen_any (p : Nat) (A : Option Addr) (n c : Nat) (w : World) (hn : n <= maxLen) (h0 : w.cell? ⟨p, 0, none⟩ = some (.slice A n c)) :
  Calls Tryz.prog 49 #[.pointer (some ⟨p, 0, none⟩)] w fun e w' => e = .returned (.int .i64 n) /\ w = w' := by
 go_enter Tryz.func49, Tryz.ntmps49
 go_wp2
 go_ret
 exact ⟨rfl, rfl⟩
theorem okT_atomK {n : Nat} {t : Tm} (h : t.k = 1) : okT n t = (decide (t.x = 0) && decide (t.y = 0)) := by simp [okT, h]
theorem okT_hashK {n : Nat} {t : Tm} (h : t.k = 3) : okT n t = (decide (t.a = 0) && thereT n t.x && decide (t.y = 0)) := by simp [okT, h, thereT]
theorem okT_pairK {n : Nat} {t : Tm} (h : t.k = 2 \/ t.k = 4) : okT n t = (decide (t.a = 0) && thereT n t.x && thereT n t.y) := by
 unfold okT thereT
 rw [if_neg (by omega), if_neg (by omega), if_pos h]
theorem okT_none {n : Nat} {t : Tm} (h1 : t.k ≠ 1) (h2 : t.k ≠ 2) (h3 : t.k ≠ 3) (h4 : t.k ≠ 4) : okT n t = false := by
 unfold okT
 rw [if_neg h1, if_neg h3, if_neg (by omega)]
theorem tright_any (p : Nat) (t : Tm) (A : Option Addr) (n c : Nat) (w : World) (hn : n <= maxLen) (h0 : w.cell? ⟨p, 0, none⟩ = some (.slice A n c)) :
  Calls Tryz.prog 81 #[.pointer (some ⟨p, 0, none⟩), tval t] w fun e w' => e = .returned (.bool (okT n t)) /\ Below w.heap.size w w' := by
 obtain ⟨k, a, x, y⟩ := t
 unfold tval
 have hw : ∀ o, (w.alloc o).cell? ⟨p, 0, none⟩ = some (.slice A n c) := fun o => (World.cell?_of_block (Below.heap_alloc w o p (World.block_lt_of_cell? w _ h0))).trans h0
 have hB : ∀ o, Below w.heap.size w (w.alloc o) := fun o => (Below.refl _ _).alloc (Nat.le_refl _) o
 have hth : ∀ x o, Calls Tryz.prog 129 #[.pointer (some ⟨p, 0, none⟩), .int .i64 x] (w.alloc o) fun e w' => e = .returned (.bool (thereT n x)) /\ (w.alloc o) = w' := fun x o => pthere_any p x A n c _ hn (hw o)
 have HB := Lh hB; clear hB
 have HT := Lh hth; clear hth
 clear hw h0 hn
 by_cases k1 : k = 1
 ·have e := Lh (okT_atomK (n := n) (t := ⟨k, a, x, y⟩) k1)
  subst k1
  go_enter Tryz.func81, Tryz.ntmps81
  go_wp2_with fail
  all_goals (go_ret; exact ⟨ret_bool (by have e2 := e.out; clear e; rw [Bool.eq_iff_iff]; simp_all), HB.out _⟩)
 ·have k1b : ((k : Int) == 1) = false := by simpa using k1
  by_cases k3 : k = 3
  ·have e := Lh (okT_hashK (n := n) (t := ⟨k, a, x, y⟩) k3)
   subst k3
   clear k1 k1b
   go_enter Tryz.func81, Tryz.ntmps81
   go_wp2_with (go_at_call 129; refine (HT.out _ _).mono ?_; rintro e' w' ⟨rfl, rfl⟩)
   all_goals (go_ret; exact ⟨ret_bool (by have e2 := e.out; clear e; rw [Bool.eq_iff_iff]; simp_all), HB.out _⟩)
  ·have k3b : ((k : Int) == 3) = false := by simpa using k3
   by_cases k2 : k = 2
   ·have e := Lh (okT_pairK (n := n) (t := ⟨k, a, x, y⟩) (.inl k2))
    subst k2
    clear k1 k1b k3 k3b
    go_enter Tryz.func81, Tryz.ntmps81
    go_wp2_with (go_at_call 129; refine (HT.out _ _).mono ?_; rintro e' w' ⟨rfl, rfl⟩)
    all_goals (go_ret; exact ⟨ret_bool (by have e2 := e.out; clear e; rw [Bool.eq_iff_iff]; simp_all), HB.out _⟩)
   ·have k2b : ((k : Int) == 2) = false := by simpa using k2
    by_cases k4 : k = 4
    ·have e := Lh (okT_pairK (n := n) (t := ⟨k, a, x, y⟩) (.inr k4))
     subst k4
     clear k1 k1b k3 k3b k2 k2b
     go_enter Tryz.func81, Tryz.ntmps81
     go_wp2_with (go_at_call 129; refine (HT.out _ _).mono ?_; rintro e' w' ⟨rfl, rfl⟩)
     all_goals (go_ret; exact ⟨ret_bool (by have e2 := e.out; clear e; rw [Bool.eq_iff_iff]; simp_all), HB.out _⟩)
    ·have k4b : ((k : Int) == 4) = false := by simpa using k4
     have e := Lh (okT_none (n := n) (t := ⟨k, a, x, y⟩) k1 k2 k3 k4)
     clear k1 k2 k3 k4
     go_enter Tryz.func81, Tryz.ntmps81
     go_wp2_with fail
     go_ret
     exact ⟨ret_bool e.out.symm, HB.out _⟩
theorem okT_iff (n : Nat) (t : Tm) : okT n t = true ↔ (t.k = 1 /\ t.x = 0 /\ t.y = 0) \/ (t.k = 3 /\ t.a = 0 /\ 0 <= t.x /\ t.x < n /\ t.y = 0) \/ ((t.k = 2 \/ t.k = 4) /\ t.a = 0 /\ 0 <= t.x /\ t.x < n /\ 0 <= t.y /\ t.y < n) := by
 unfold okT
 split
 ·simp; omega
 ·split
  ·simp; omega
  ·split
   ·simp; omega
   ·simp; omega
end
end Go.Proofs.YtkgaeoeibjoljaaGreatDoor
