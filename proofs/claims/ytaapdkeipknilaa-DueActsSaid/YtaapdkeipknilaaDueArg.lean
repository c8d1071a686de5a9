/-
  Arguments of dues and of acts (Kind; a due), read.
-/
import Derived.Test.YtaapdkeipknilaaDue2
import Derived.Deep.Slices
namespace Go.Proofs.Ytaapdkeipknilaa
set_option maxRecDepth 4000
open Go.RowKit Go.ChangeShapes Go.WideShapes Go.Deep

abbrev Da := Int × (Int × Int)
def dacells (y : Da) : List Value := [.int .i64 y.1, .int .i64 y.2.1, .int .i64 y.2.2]
@[simp] theorem dacells_length (y : Da) : (dacells y).length = 3 := rfl
def dacs (l : List Da) : List Value := l.flatMap dacells
@[simp] theorem dacs_length (l : List Da) : (dacs l).length = l.length * 3 := by unfold dacs; rw [length_flatMap_const _ 3 dacells_length]
theorem dacs_get : ∀ {l : List Da} {k : Nat} {e : Da}, l[k]? = some e → ∀ j, j < 3 → (dacs l)[k * 3 + j]? = (dacells e)[j]?
  | [], k, e, h, j, hj => by simp at h
  | x :: l, 0, e, h, j, hj => by
      injection h with h; subst h
      show (dacells x ++ dacs l)[0 * 3 + j]? = _
      rw [Nat.zero_mul, Nat.zero_add, List.getElem?_append_left (by rw [dacells_length]; exact hj)]
  | x :: l, k + 1, e, h, j, hj => by
      show (dacells x ++ dacs l)[(k + 1) * 3 + j]? = _
      rw [List.getElem?_append_right (by rw [dacells_length]; omega), dacells_length, show (k + 1) * 3 + j - 3 = k * 3 + j by omega]
      exact dacs_get (by simpa using h) j hj
def DaOk (y : Da) : Prop := -9223372036854775808 ≤ y.1 ∧ y.1 ≤ 9223372036854775807
theorem in_dact {w : World} {A : Option Addr} {l : List Da} (h : Sees w 3 A l.length (dacs l)) {k : Nat} {y : Da} (hk : l[k]? = some y) :
    ∃ g o, A = some ⟨g, o, none⟩ ∧ w.cell? ⟨g, o + k * 3, none⟩ = some (.int .i64 y.1) ∧ w.cell? ⟨g, o + k * 3 + 1, none⟩ = some (.int .i64 y.2.1) ∧ w.cell? ⟨g, o + k * 3 + 2, none⟩ = some (.int .i64 y.2.2) := by
  have hkl := (List.getElem?_eq_some_iff.1 hk).1
  obtain ⟨g, o, e', hc⟩ := h.2 (by omega)
  have hg : ∀ j u, j < 3 → (dacells y)[j]? = some u → w.cell? ⟨g, o + k * 3 + j, none⟩ = some u := fun j u hj hu => by
    have := hc (k * 3 + j) u (by rw [dacs_get hk j hj]; exact hu)
    rwa [← Nat.add_assoc] at this
  exact ⟨g, o, e', hg 0 _ (by omega) rfl, hg 1 _ (by omega) rfl, hg 2 _ (by omega) rfl⟩

section
variable {H : Type} {enc : TypeId × Value → H} {P : Program} {w : World} {base : Nat} {spare : Nat → Bool} {held : Bool}
/-- A row of cells at every place. -/
theorem row_of {α : Type} (sz : Nat) (hsz : 0 < sz) (f : α → List Value) (fl : List α → List Value) (hlen : ∀ l, (fl l).length = l.length * sz)
    (hget : ∀ (l : List α) (k : Nat) (e : α), l[k]? = some e → ∀ j, j < sz → (fl l)[k * sz + j]? = (f e)[j]?) (F : Nat → α) (a : Addr) (len : Nat)
    (hc : ∀ r, r < len → ∀ j, j < sz → w.cell? ((a.add (r * sz)).add j) = (f (F r))[j]?) (hsome : ∀ r, 0 < len → (f (F r))[0]? ≠ none) : Sees w sz (some a) len (fl ((List.range len).map F)) := by
  refine ⟨by rw [hlen]; simp, fun h0 => ?_⟩
  obtain ⟨g, off, spot⟩ := a
  have hc0 := hc 0 h0 0 hsz
  have hspot : spot = none := by
    cases hv : (f (F 0))[0]? with
    | none => exact absurd hv (hsome 0 h0)
    | some v =>
      rw [hv] at hc0
      simpa [Addr.add] using World.cell?_spot hc0
  subst hspot
  refine ⟨g, off, rfl, fun j u hj => ?_⟩
  have hjl : j < len * sz := by have := (List.getElem?_eq_some_iff.1 hj).1; rw [hlen] at this; simpa using this
  have hd : j / sz < len := Nat.div_lt_of_lt_mul (by rw [Nat.mul_comm]; exact hjl)
  have hk : ((List.range len).map F)[j / sz]? = some (F (j / sz)) := by rw [List.getElem?_map, List.getElem?_range hd]; rfl
  have hm : j / sz * sz + j % sz = j := by rw [Nat.mul_comm]; exact Nat.div_add_mod j sz
  have hg := hget _ _ _ hk (j % sz) (Nat.mod_lt _ hsz)
  rw [hm, hj] at hg
  have hc1 := hc (j / sz) hd (j % sz) (Nat.mod_lt _ hsz)
  rw [← hg] at hc1
  have ea : ∀ (o n : Nat), (⟨g, o, none⟩ : Addr).add n = ⟨g, o + n, none⟩ := fun o n => by
    unfold Addr.add
    split
    · subst n; rfl
    · rfl
  have e : ((⟨g, off, none⟩ : Addr).add (j / sz * sz)).add (j % sz) = ⟨g, off + j, none⟩ := by
    rw [ea, ea, Nat.add_assoc, hm]
  rwa [e] at hc1
theorem open_due {T I : TypeId} {f0 f1 : Field} (st : P.underlying T = some (.struct #[f0, f1])) (int : P.underlying I = some (.int .i64)) (t0 : f0.type = I) (t1 : f1.type = I) (o0 : f0.offset = 0) (o1 : f1.offset = 1) (hI : P.cellsOf I = 1)
    {fuel : Nat} {cs : List Value} {x : DataW H × List MemPlace} (hl : cs.length = 2) (h : DataW.trod enc P w base spare held fuel T cs = some x) : ∃ y : Int × Int, cs = dcells y := by
  match cs, hl with
  | [c0, c1], _ =>
    obtain ⟨xs, n, _, rfl, hl, hlen, hf⟩ := DataW.trod_struct st h
    match xs, hlen with
    | [y0, y1], _ =>
      have g0 := hf 0 f0 rfl
      have g1 := hf 1 f1 rfl
      rw [t0, o0, hI] at g0
      rw [t1, o1, hI] at g1
      obtain ⟨z0, a0, -, b0⟩ := DataW.trod_int int g0
      obtain ⟨z1, a1, -, b1⟩ := DataW.trod_int int g1
      simp at a0 a1
      exact ⟨(z0, z1), by rw [a0, a1]; rfl⟩
theorem open_dues {t T I : TypeId} {f0 f1 : Field} (st : P.underlying T = some (.struct #[f0, f1])) (int : P.underlying I = some (.int .i64)) (t0 : f0.type = I) (t1 : f1.type = I) (o0 : f0.offset = 0) (o1 : f1.offset = 1) (hI : P.cellsOf I = 1) (hT : P.cellsOf T = 2)
    (ht : P.underlying t = some (.slice T)) {fuel : Nat} {cs : List Value} {x : DataW H × List MemPlace}
    (h : DataW.trod enc P w base (fun _ => true) held fuel t cs = some x) : ∃ A ys c, cs = [.slice A (List.length ys) c] ∧ Sees w 2 A (List.length ys) (dcs ys) := by
  rcases open_slice ht h with ⟨rfl, _⟩ | ⟨a, len, cap, m, n, D, Pl, rfl, hb, hl, hm, hmm, rfl, hx⟩
  · exact ⟨none, [], 0, rfl, Sees.none_ _ _ _⟩
  · simp only [if_true] at hmm
    subst hmm
    rw [hT] at hx
    have hb : ∀ r, ∃ y : Int × Int, (r < m → ∀ j, j < 2 → w.cell? ((a.add (r * 2)).add j) = (dcells y)[j]?) := fun r => by
      by_cases hr : r < m
      · obtain ⟨cs', h1', h2'⟩ := hx r hr
        obtain ⟨_, hlen, hcell⟩ := World.cells?_some h1'
        obtain ⟨y, rfl⟩ := open_due st int t0 t1 o0 o1 hI (by rw [hlen]) h2'
        exact ⟨y, fun _ j hj => hcell j (by omega)⟩
      · exact ⟨(0, 0), fun h => absurd h hr⟩
    obtain ⟨F, hF⟩ : ∃ F : Nat → Int × Int, ∀ r, r < m → ∀ j, j < 2 → w.cell? ((a.add (r * 2)).add j) = (dcells (F r))[j]? := ⟨fun r => (hb r).choose, fun r => (hb r).choose_spec⟩
    have hlen : ((List.range len).map F).length = len := by simp
    refine ⟨some a, (List.range len).map F, m, by simp, ?_⟩
    rw [hlen]
    exact row_of 2 (by decide) dcells dcs dcs_length (fun l k e h => dcs_get h) F a len (fun r hr => hF r (by omega)) (fun r _ => by simp [dcells])
theorem open_dact {T D I : TypeId} {f0 f1 d0 d1 : Field} (st : P.underlying T = some (.struct #[f0, f1])) (sd : P.underlying D = some (.struct #[d0, d1])) (int : P.underlying I = some (.int .i64)) (t0 : f0.type = I) (t1 : f1.type = D) (o0 : f0.offset = 0) (o1 : f1.offset = 1)
    (u0 : d0.type = I) (u1 : d1.type = I) (p0 : d0.offset = 0) (p1 : d1.offset = 1) (hI : P.cellsOf I = 1) (hD : P.cellsOf D = 2)
    {fuel : Nat} {cs : List Value} {x : DataW H × List MemPlace} (hl : cs.length = 3) (h : DataW.trod enc P w base spare held fuel T cs = some x) : ∃ y : Da, cs = dacells y ∧ DaOk y := by
  match cs, hl with
  | [c0, c1, c2], _ =>
    obtain ⟨xs, n, _, rfl, hl, hlen, hf⟩ := DataW.trod_struct st h
    match xs, hlen with
    | [y0, y1], _ =>
      have g0 := hf 0 f0 rfl
      have g1 := hf 1 f1 rfl
      rw [t0, o0, hI] at g0
      rw [t1, o1, hD] at g1
      obtain ⟨z0, a0, -, b0⟩ := DataW.trod_int int g0
      obtain ⟨⟨z1, z2⟩, a1⟩ := open_due sd int u0 u1 p0 p1 hI (by simp) g1
      simp [dcells] at a0 a1
      exact ⟨(z0, z1, z2), by rw [a0, a1.1, a1.2]; rfl, wf_i64 b0⟩
theorem open_dacts {t T D I : TypeId} {f0 f1 d0 d1 : Field} (st : P.underlying T = some (.struct #[f0, f1])) (sd : P.underlying D = some (.struct #[d0, d1])) (int : P.underlying I = some (.int .i64)) (t0 : f0.type = I) (t1 : f1.type = D) (o0 : f0.offset = 0) (o1 : f1.offset = 1)
    (u0 : d0.type = I) (u1 : d1.type = I) (p0 : d0.offset = 0) (p1 : d1.offset = 1) (hI : P.cellsOf I = 1) (hD : P.cellsOf D = 2) (hT : P.cellsOf T = 3)
    (ht : P.underlying t = some (.slice T)) {fuel : Nat} {cs : List Value} {x : DataW H × List MemPlace}
    (h : DataW.trod enc P w base (fun _ => true) held fuel t cs = some x) : ∃ A ys c, cs = [.slice A (List.length ys) c] ∧ Sees w 3 A (List.length ys) (dacs ys) ∧ ∀ y ∈ ys, DaOk y := by
  rcases open_slice ht h with ⟨rfl, _⟩ | ⟨a, len, cap, m, n, D, Pl, rfl, hb, hl, hm, hmm, rfl, hx⟩
  · exact ⟨none, [], 0, rfl, Sees.none_ _ _ _, fun y hy => by simp at hy⟩
  · simp only [if_true] at hmm
    subst hmm
    rw [hT] at hx
    have hb : ∀ r, ∃ y : Da, DaOk y ∧ (r < m → ∀ j, j < 3 → w.cell? ((a.add (r * 3)).add j) = (dacells y)[j]?) := fun r => by
      by_cases hr : r < m
      · obtain ⟨cs', h1', h2'⟩ := hx r hr
        obtain ⟨_, hlen, hcell⟩ := World.cells?_some h1'
        obtain ⟨y, rfl, hok⟩ := open_dact st sd int t0 t1 o0 o1 u0 u1 p0 p1 hI hD (by rw [hlen]) h2'
        exact ⟨y, hok, fun _ j hj => hcell j (by omega)⟩
      · exact ⟨(0, 0, 0), ⟨by decide, by decide⟩, fun h => absurd h hr⟩
    obtain ⟨F, hF⟩ : ∃ F : Nat → Da, ∀ r, DaOk (F r) ∧ (r < m → ∀ j, j < 3 → w.cell? ((a.add (r * 3)).add j) = (dacells (F r))[j]?) := ⟨fun r => (hb r).choose, fun r => (hb r).choose_spec⟩
    have hlen : ((List.range len).map F).length = len := by simp
    refine ⟨some a, (List.range len).map F, m, by simp, ?_, fun y hy => ?_⟩
    · rw [hlen]
      exact row_of 3 (by decide) dacells dacs dacs_length (fun l k e h => dacs_get h) F a len (fun r hr => (hF r).2 (by omega)) (fun r _ => by simp [dacells])
    · obtain ⟨r, -, rfl⟩ := List.mem_map.1 hy
      exact (hF r).1
end
end Go.Proofs.Ytaapdkeipknilaa
