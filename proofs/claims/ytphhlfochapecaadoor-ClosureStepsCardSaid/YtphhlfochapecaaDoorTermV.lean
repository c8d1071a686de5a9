/-
  Terms as values: four integers in a struct; equality; a map whose keys are such structs and whose values are the numbers of the keys in the order of their coming. No program in sight.
-/
import Derived.Test.YtphhlfochapecaaDoorWords
import Derived.Test.YtphhlfochapecaaDoorTermP
import Derived.WideKeyRuns
import Derived.Laws.StructEq
import Derived.Maps.Own
import Derived.Maps.OwnOps
import Derived.Deep.Slices
namespace Go.Proofs.YtphhlfochapecaaDoor
set_option maxRecDepth 4000
open Go.RowKit Go.ChangeShapes Go.WideShapes Go.Deep

def tcells (t : Tm) : List Value := [.int .i64 t.k, .int .i64 t.a, .int .i64 t.x, .int .i64 t.y]
def tval (t : Tm) : Value := .agg #[.int .i64 t.k, .int .i64 t.a, .int .i64 t.x, .int .i64 t.y]
def tcs (l : List Tm) : List Value := l.flatMap tcells
@[simp] theorem length_tcells (t : Tm) : (tcells t).length = 4 := rfl
@[simp] theorem length_tcs (l : List Tm) : (tcs l).length = l.length * 4 := length_flatMap_const tcells 4 length_tcells l
theorem tcs_append (a b : List Tm) : tcs (a ++ b) = tcs a ++ tcs b := by simp [tcs]
theorem tcs_one (t : Tm) : tcs [t] = tcells t := by simp [tcs]
theorem tcs_get {l : List Tm} {k : Nat} {t : Tm} (h : l[k]? = some t) (j : Nat) (hj : j < 4) : (tcs l)[k * 4 + j]? = (tcells t)[j]? := flatMap_get tcells 4 length_tcells l k j t h hj

/-- What the program must say of the struct's type. -/
structure TermType (P : Program) (T I : TypeId) (f0 f1 f2 f3 : Field) : Prop where
  st : P.underlying T = some (.struct #[f0, f1, f2, f3])
  int : P.underlying I = some (.int .i64)
  t0 : f0.type = I
  t1 : f1.type = I
  t2 : f2.type = I
  t3 : f3.type = I
  o0 : f0.offset = 0
  o1 : f1.offset = 1
  o2 : f2.offset = 2
  o3 : f3.offset = 3
  n0 : f0.name ≠ "_"
  n1 : f1.name ≠ "_"
  n2 : f2.name ≠ "_"
  n3 : f3.name ≠ "_"
  held : P.stoodInHeld T = false

section
variable {P : Program} {T I : TypeId} {f0 f1 f2 f3 : Field} (H : TermType P T I f0 f1 f2 f3)
include H
theorem TermType.plain : P.plainKey I = true := by simp [Program.plainKey, H.int]
theorem run_equal_tm (w : World) (a b : Tm) (d : Nat) : (Op.equalIn (d + 2) T (tval a) (tval b)).run P w = .ok (decide (a = b)) w := by
  have hf : P.fieldsOf T = #[f0, f1, f2, f3] := by simp [Program.fieldsOf, H.st]
  have hp : ∀ (xs : Array Value) (i : Nat) (v : Value), xs[i]? = some v → (part I xs i).run P w = .ok v w := fun xs i v hv => run_part_plain w H.plain hv
  rw [tval, tval, run_equalIn_agg w (d + 1) T _ _ (by rw [hf]; exact H.st) H.held, hf]
  simp only [Op.eqFields, H.t0, H.t1, H.t2, H.t3, H.o0, H.o1, H.o2, H.o3]
  by_cases h0 : a.k = b.k
  · by_cases h1 : a.a = b.a
    · by_cases h2 : a.x = b.x
      · by_cases h3 : a.y = b.y
        · have : a = b := Tm.ext4 h0 h1 h2 h3
          simp [Sem.run_bind, hp, H.n0, H.n1, H.n2, H.n3, run_equalIn_int w d I .i64 .i64 _ _ H.int, this]
        · have : a ≠ b := fun e => h3 (by rw [e])
          simp [Sem.run_bind, hp, H.n0, H.n1, H.n2, H.n3, run_equalIn_int w d I .i64 .i64 _ _ H.int, h0, h1, h2, h3, this]
      · have : a ≠ b := fun e => h2 (by rw [e])
        simp [Sem.run_bind, hp, H.n0, H.n1, H.n2, H.n3, run_equalIn_int w d I .i64 .i64 _ _ H.int, h0, h1, h2, this]
    · have : a ≠ b := fun e => h1 (by rw [e])
      simp [Sem.run_bind, hp, H.n0, H.n1, H.n2, H.n3, run_equalIn_int w d I .i64 .i64 _ _ H.int, h0, h1, this]
  · have : a ≠ b := fun e => h0 (by rw [e])
    simp [Sem.run_bind, hp, H.n0, H.n1, H.n2, H.n3, run_equalIn_int w d I .i64 .i64 _ _ H.int, h0, this]
theorem run_eql_tm (w : World) (a b : Tm) : (binOp .eql T (tval a) (tval b)).run P w = .ok (.bool (decide (a = b))) w := by
  have h := run_equal_tm H w a b 9998
  unfold tval at h ⊢
  rw [run_eql_struct, h]
  rfl
theorem run_neq_tm (w : World) (a b : Tm) : (binOp .neq T (tval a) (tval b)).run P w = .ok (.bool (!decide (a = b))) w := by
  have h := run_equal_tm H w a b 9998
  unfold tval at h ⊢
  rw [run_neq_struct, h]
  rfl
theorem run_checkKey_tm (w : World) (e : Bool) (t : Tm) : (Instr.checkKey e 10000 T (tval t)).run P w = .ok () w := by
  have hp : ∀ (xs : Array Value) (i : Nat) (v : Value), xs[i]? = some v → (part I xs i).run P w = .ok v w := fun xs i v hv => run_part_plain w H.plain hv
  have hi : ∀ (n : Int) (m : Nat), (Instr.checkKey e (m + 1) I (.int .i64 n)).run P w = .ok () w := fun n m => by simp [Instr.checkKey, run_underlying H.int]
  have hi' : ∀ (n : Int), (Instr.checkKey e 9999 I (.int .i64 n)).run P w = .ok () w := fun n => hi n 9998
  show (Instr.checkKey e (9999 + 1) T (tval t)).run P w = .ok () w
  unfold tval
  rw [Instr.checkKey]
  simp [Sem.run_bind, run_underlying H.st, H.t0, H.t1, H.t2, H.t3, H.o0, H.o1, H.o2, H.o3, H.n0, H.n1, H.n2, H.n3, hp, hi']

/-- The map's entries: the terms in the order of their coming, each with its number. -/
def TMap (w : World) (b : Nat) (l : List Tm) : Prop :=
  ∃ es clock, w.heap[b]? = some (.map es clock) ∧ es.toList.map (fun e => (e.key, e.val)) = l.zipIdx.map (fun p => (tval p.1, Value.int .i64 p.2))
omit H in
theorem TMap.lt {w : World} {b : Nat} {l : List Tm} (h : TMap w b l) : b < w.heap.size := by
  obtain ⟨es, clock, hb, _⟩ := h
  exact (Array.getElem?_eq_some_iff.1 hb).1
omit H in
theorem TMap.keep {w w' : World} {b : Nat} {l : List Tm} (h : TMap w b l) (hk : w'.heap[b]? = w.heap[b]?) : TMap w' b l := by
  obtain ⟨es, clock, hb, r⟩ := h
  exact ⟨es, clock, hk.trans hb, r⟩
omit H in
theorem TMap.new (w : World) : TMap (w.alloc (.map #[] 0)) w.heap.size [] := ⟨#[], 0, heap_alloc_new w _, rfl⟩

theorem findAsking_tm (w : World) (x : Tm) : ∀ (es : List MapEntry) (l : List Tm) (q i : Nat), es.map (fun e => (e.key, e.val)) = (l.zipIdx q).map (fun p => (tval p.1, Value.int .i64 p.2)) →
    (x ∈ l ∧ ∃ j, (Instr.findAsking T (tval x) es i).run P w = .ok (some (j, .int .i64 ((q + l.idxOf x : Nat) : Int))) w) ∨ (x ∉ l ∧ (Instr.findAsking T (tval x) es i).run P w = .ok none w) := by
  intro es
  induction es with
  | nil =>
    intro l q i h
    have : l = [] := by cases l with
      | nil => rfl
      | cons t l => simp at h
    subst this
    exact .inr ⟨by simp, rfl⟩
  | cons e es ih =>
    intro l q i h
    cases l with
    | nil => simp at h
    | cons t l =>
      simp only [List.map_cons, List.zipIdx_cons, List.cons.injEq, Prod.mk.injEq] at h
      obtain ⟨⟨h1, h2⟩, h3⟩ := h
      have he : (Op.equal T (tval x) e.key).run P w = .ok (decide (x = t)) w := by rw [h1]; exact run_equal_tm H w x t 9998
      by_cases hx : x = t
      · subst hx
        refine .inl ⟨List.mem_cons_self, i, ?_⟩
        simp [Instr.findAsking, Sem.run_bind, he, h2]
      · rcases ih l (q + 1) (i + 1) h3 with ⟨m, j, hj⟩ | ⟨m, hj⟩
        · refine .inl ⟨List.mem_cons_of_mem _ m, j, ?_⟩
          have hxt : (t == x) = false := by simpa using Ne.symm hx
          simp only [Instr.findAsking, Sem.run_bind, he, decide_eq_false hx, Result.andThen_ok, Bool.false_eq_true, if_false, hj, List.idxOf_cons, hxt, cond_false]
          rw [show q + (l.idxOf x + 1) = q + 1 + l.idxOf x by omega]
        · refine .inr ⟨by simp [hx, m], ?_⟩
          simp only [Instr.findAsking, Sem.run_bind, he, decide_eq_false hx, Result.andThen_ok, Bool.false_eq_true, if_false, hj]

/-- 'n, ok := m[t]' -/
theorem run_lookup_tm {mt E : TypeId} {w : World} {b : Nat} {l : List Tm} (ht : P.underlying mt = some (.map T E)) (hz : (zeroValue E).run P w = .ok (.int .i64 0) w) (h : TMap w b l) (x : Tm) :
    (Instr.lookup mt (.map (some b)) (tval x) true).run P w = .ok (.tuple #[.int .i64 (if x ∈ l then (l.idxOf x : Int) else 0), .bool (decide (x ∈ l))]) w := by
  obtain ⟨es, clock, hb, hm⟩ := h
  have hg : (getObj b).run P w = .ok (.map es clock) w := by simp [getObj, Sem.run, hb]
  have hw : (match P.underlying T with | some (.array _ _) | some (.struct _) => true | _ => false) = true := by rw [H.st]
  rcases findAsking_tm H w x es.toList l 0 0 hm with ⟨m, j, hj⟩ | ⟨m, hj⟩
  · rw [Nat.zero_add] at hj
    simp [Instr.lookup, Sem.run_bind, run_underlying ht, hg, run_checkKey_tm H w, run_findKey_eq w hw, hj, m]
  · simp [Instr.lookup, Sem.run_bind, run_underlying ht, hg, run_checkKey_tm H w, run_findKey_eq w hw, hj, m, hz]

/-- 'm[t] = n' for a term that is not there. -/
theorem run_update_tm {mt E : TypeId} {w : World} {b : Nat} {l : List Tm} (ht : P.underlying mt = some (.map T E)) (h : TMap w b l) (x : Tm) (hx : x ∉ l) :
    ∃ w', (Instr.mapUpdate mt (.map (some b)) (tval x) (.int .i64 (l.length : Int))).run P w = .ok () w' ∧ TMap w' b (l ++ [x]) ∧ Fr (· = b) w w' ∧ w'.heap.size = w.heap.size := by
  have hlt := h.lt
  obtain ⟨es, clock, hb, hm⟩ := h
  have hg : (getObj b).run P w = .ok (.map es clock) w := by simp [getObj, Sem.run, hb]
  have hw : (match P.underlying T with | some (.array _ _) | some (.struct _) => true | _ => false) = true := by rw [H.st]
  rcases findAsking_tm H w x es.toList l 0 0 hm with ⟨m, _⟩ | ⟨_, hj⟩
  · exact absurd m hx
  refine ⟨{ w with heap := w.heap.setIfInBounds b (.map (es.push { key := tval x, val := .int .i64 (l.length : Int), born := clock }) (clock + 1)) }, ?_, ⟨es.push { key := tval x, val := .int .i64 (l.length : Int), born := clock }, clock + 1, ?_, ?_⟩, ⟨rfl, rfl, rfl, by simp, ?_⟩, by simp⟩
  · simp [Instr.mapUpdate, Sem.run_bind, run_underlying ht, hg, run_checkKey_tm H w, run_findKey_eq w hw, hj, setObj, Sem.run, hb]
  · simp [Array.getElem?_setIfInBounds, hlt]
  · simp [hm, List.zipIdx_append]
  · intro i hi hne
    simp [Array.getElem?_setIfInBounds, Ne.symm hne]
end

/-! ### An argument of terms -/
def wfT (t : Tm) : Prop := (Lit.int .i64 t.k).wf = true ∧ (Lit.int .i64 t.a).wf = true ∧ (Lit.int .i64 t.x).wf = true ∧ (Lit.int .i64 t.y).wf = true
/-- Terms that came in. -/
structure InTerms (w : World) (A : Option Addr) (ts : List Tm) (c : Nat) : Prop where
  le : ts.length ≤ c
  most : c ≤ maxLen
  row : Sees w 4 A ts.length (tcs ts)
  wf : ∀ t ∈ ts, wfT t

theorem array4 {α : Type} {cs : Array α} (h : cs.size = 4) : ∃ c0 c1 c2 c3, cs = #[c0, c1, c2, c3] := by
  obtain ⟨l⟩ := cs
  match l, h with
  | [c0, c1, c2, c3], _ => exact ⟨c0, c1, c2, c3, rfl⟩
section
variable {H : Type} {enc : TypeId × Value → H} {P : Program} {w : World} {base : Nat} {spare : Nat → Bool} {held : Bool}
theorem trod_struct4 {t : TypeId} {f0 f1 f2 f3 : Field} {fuel : Nat} {cs : List Value} {x : DataW H × List MemPlace} (ht : P.underlying t = some (.struct #[f0, f1, f2, f3])) (h : DataW.trod enc P w base spare held fuel t cs = some x) :
    ∃ y0 y1 y2 y3 n, DataW.trod enc P w base spare held n f0.type ((cs.drop f0.offset).take (P.cellsOf f0.type)) = some y0 ∧
      DataW.trod enc P w base spare held n f1.type ((cs.drop f1.offset).take (P.cellsOf f1.type)) = some y1 ∧ DataW.trod enc P w base spare held n f2.type ((cs.drop f2.offset).take (P.cellsOf f2.type)) = some y2 ∧
      DataW.trod enc P w base spare held n f3.type ((cs.drop f3.offset).take (P.cellsOf f3.type)) = some y3 := by
  obtain ⟨xs, n, _, rfl, hl, hlen, hf⟩ := DataW.trod_struct ht h
  match xs, hlen with
  | [y0, y1, y2, y3], _ => exact ⟨y0, y1, y2, y3, n, by simpa using hf 0 f0 rfl, by simpa using hf 1 f1 rfl, by simpa using hf 2 f2 rfl, by simpa using hf 3 f3 rfl⟩
theorem open_tm {T I : TypeId} {f0 f1 f2 f3 : Field} (K : TermType P T I f0 f1 f2 f3) (hI : P.cellsOf I = 1) {fuel : Nat} {cs : List Value} {x : DataW H × List MemPlace} (hl : cs.length = 4) (h : DataW.trod enc P w base spare held fuel T cs = some x) :
    ∃ t : Tm, cs = tcells t ∧ wfT t := by
  match cs, hl with
  | [c0, c1, c2, c3], _ =>
    obtain ⟨y0, y1, y2, y3, n, h0, h1, h2, h3⟩ := trod_struct4 K.st h
    rw [K.t0, K.o0, hI] at h0
    rw [K.t1, K.o1, hI] at h1
    rw [K.t2, K.o2, hI] at h2
    rw [K.t3, K.o3, hI] at h3
    obtain ⟨z0, a0, -, b0⟩ := DataW.trod_int K.int h0
    obtain ⟨z1, a1, -, b1⟩ := DataW.trod_int K.int h1
    obtain ⟨z2, a2, -, b2⟩ := DataW.trod_int K.int h2
    obtain ⟨z3, a3, -, b3⟩ := DataW.trod_int K.int h3
    simp at a0 a1 a2 a3
    exact ⟨⟨z0, z1, z2, z3⟩, by rw [a0, a1, a2, a3]; rfl, b0, b1, b2, b3⟩
theorem open_terms {t T I : TypeId} {f0 f1 f2 f3 : Field} (K : TermType P T I f0 f1 f2 f3) (hI : P.cellsOf I = 1) (hT : P.cellsOf T = 4) (ht : P.underlying t = some (.slice T)) {fuel : Nat} {cs : List Value} {x : DataW H × List MemPlace}
    (h : DataW.trod enc P w base (fun _ => true) held fuel t cs = some x) : ∃ A ts c, cs = [.slice A (List.length ts) c] ∧ InTerms w A ts c := by
  rcases open_slice ht h with ⟨rfl, _⟩ | ⟨a, len, cap, m, n, D, Pl, rfl, hb, hl, hm, hmm, rfl, hx⟩
  · exact ⟨none, [], 0, rfl, Nat.le_refl _, Nat.zero_le _, Sees.none_ _ _ _, by simp⟩
  · simp only [if_true] at hmm
    subst hmm
    rw [hT] at hx
    have hb : ∀ r, ∃ t : Tm, r < m → wfT t ∧ ∀ j, j < 4 → w.cell? ((a.add (r * 4)).add j) = (tcells t)[j]? := fun r => by
      by_cases hr : r < m
      · obtain ⟨cs', h1, h2⟩ := hx r hr
        obtain ⟨_, hlen, hcell⟩ := World.cells?_some h1
        obtain ⟨t, rfl, hwf⟩ := open_tm K hI (by rw [hlen]) h2
        exact ⟨t, fun _ => ⟨hwf, fun j hj => hcell j (by omega)⟩⟩
      · exact ⟨⟨0, 0, 0, 0⟩, fun h => absurd h hr⟩
    obtain ⟨f, hf⟩ : ∃ f : Nat → Tm, ∀ r, r < m → wfT (f r) ∧ ∀ j, j < 4 → w.cell? ((a.add (r * 4)).add j) = (tcells (f r))[j]? := ⟨fun r => (hb r).choose, fun r => (hb r).choose_spec⟩
    refine ⟨some a, (List.range len).map f, m, by simp, by simpa using hl, hm, ⟨by simp, fun h0 => ?_⟩, fun t ht => ?_⟩
    · simp only [List.length_map, List.length_range] at h0
      obtain ⟨g, off, spot⟩ := a
      have hc0 := (hf 0 (by omega)).2 0 (by omega)
      have hspot : spot = none := by
        have : ∃ v, w.cell? (((⟨g, off, spot⟩ : Addr).add (0 * 4)).add 0) = some v := ⟨_, hc0⟩
        obtain ⟨v, hv⟩ := this
        simpa [Addr.add] using World.cell?_spot hv
      subst hspot
      refine ⟨g, off, rfl, fun j u hj => ?_⟩
      have hjl : j < len * 4 := by have := (List.getElem?_eq_some_iff.1 hj).1; simpa using this
      have hd : j / 4 < len := by omega
      have hk : ((List.range len).map f)[j / 4]? = some (f (j / 4)) := by rw [List.getElem?_map, List.getElem?_range hd]; rfl
      have hg := tcs_get hk (j % 4) (by omega)
      rw [show j / 4 * 4 + j % 4 = j by omega, hj] at hg
      have hc := (hf (j / 4) (by omega)).2 (j % 4) (by omega)
      rw [← hg] at hc
      have ea : ∀ (o n : Nat), (⟨g, o, none⟩ : Addr).add n = ⟨g, o + n, none⟩ := fun o n => by
        unfold Addr.add
        split
        · subst n; rfl
        · rfl
      have e : ((⟨g, off, none⟩ : Addr).add (j / 4 * 4)).add (j % 4) = ⟨g, off + j, none⟩ := by
        rw [ea, ea, show off + j / 4 * 4 + j % 4 = off + j by omega]
      rwa [e] at hc
    · obtain ⟨r, hr, rfl⟩ := List.mem_map.1 ht
      exact (hf r (by have := List.mem_range.1 hr; omega)).1
theorem open_tmv {r : Reach} {b0 : Nat} {T I : TypeId} {f0 f1 f2 f3 : Field} (K : TermType P T I f0 f1 f2 f3) (hI : P.cellsOf I = 1) (hT : P.cellsOf T = 4) {v : Value} {d : DataW H} {p : List MemPlace}
    (hv : Value.okWide P w r b0 T v) (h : DataW.Trod enc P w base spare held T v d p) : ∃ t : Tm, v = tval t ∧ wfT t := by
  obtain ⟨cs, rfl, hsz⟩ := okWide_struct K.st hv
  obtain ⟨c0, c1, c2, c3, rfl⟩ := array4 (hsz.trans hT)
  obtain ⟨fuel, hf⟩ := h
  simp only [Value.cells] at hf
  obtain ⟨t, ht, hw⟩ := open_tm K hI rfl hf
  simp only [tcells, List.cons.injEq, and_true] at ht
  exact ⟨t, by rw [tval, ht.1, ht.2.1, ht.2.2.1, ht.2.2.2], hw⟩
end
end Go.Proofs.YtphhlfochapecaaDoor
