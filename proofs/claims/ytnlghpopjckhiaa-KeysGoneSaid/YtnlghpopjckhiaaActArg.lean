/-
  An argument of acts (Kind, Bucket: ints; B: an octet; Key: octets; Keep: ints), read.
-/
import Derived.Test.YtnlghpopjckhiaaKey15
import Derived.Deep.Slices
namespace Go.Proofs.Ytnlghpopjckhiaa
set_option maxRecDepth 4000
open Go.RowKit Go.ChangeShapes Go.WideShapes Go.Deep

structure Ac where
  kd : Int
  bk : Int
  b : UInt8
  kA : Option Addr
  kl : Nat
  kc : Nat
  pA : Option Addr
  pl : Nat
  pc : Nat
def acells (y : Ac) : List Value := [.int .i64 y.kd, .int .i64 y.bk, .int .u8 (y.b.toNat : Nat), .slice y.kA y.kl y.kc, .slice y.pA y.pl y.pc]
@[simp] theorem acells_length (y : Ac) : (acells y).length = 5 := rfl
def acs (l : List Ac) : List Value := l.flatMap acells
@[simp] theorem acs_length (l : List Ac) : (acs l).length = l.length * 5 := by unfold acs; rw [length_flatMap_const _ 5 acells_length]
theorem acs_get : ∀ {l : List Ac} {k : Nat} {e : Ac}, l[k]? = some e → ∀ j, j < 5 → (acs l)[k * 5 + j]? = (acells e)[j]?
  | [], k, e, h, j, hj => by simp at h
  | x :: l, 0, e, h, j, hj => by
      injection h with h; subst h
      show (acells x ++ acs l)[0 * 5 + j]? = _
      rw [Nat.zero_mul, Nat.zero_add, List.getElem?_append_left (by rw [acells_length]; exact hj)]
  | x :: l, k + 1, e, h, j, hj => by
      show (acells x ++ acs l)[(k + 1) * 5 + j]? = _
      rw [List.getElem?_append_right (by rw [acells_length]; omega), acells_length, show (k + 1) * 5 + j - 5 = k * 5 + j by omega]
      exact acs_get (by simpa using h) j hj
def AcOk (y : Ac) : Prop := (-9223372036854775808 ≤ y.kd ∧ y.kd ≤ 9223372036854775807) ∧ (-9223372036854775808 ≤ y.bk ∧ y.bk ≤ 9223372036854775807) ∧ y.kl ≤ maxLen ∧ y.pl ≤ maxLen
theorem in_act {w : World} {A : Option Addr} {l : List Ac} (h : Sees w 5 A l.length (acs l)) {k : Nat} {y : Ac} (hk : l[k]? = some y) :
    ∃ g o, A = some ⟨g, o, none⟩ ∧ w.cell? ⟨g, o + k * 5, none⟩ = some (.int .i64 y.kd) ∧ w.cell? ⟨g, o + k * 5 + 1, none⟩ = some (.int .i64 y.bk) ∧ w.cell? ⟨g, o + k * 5 + 2, none⟩ = some (.int .u8 (y.b.toNat : Nat)) ∧
      w.cell? ⟨g, o + k * 5 + 3, none⟩ = some (.slice y.kA y.kl y.kc) ∧ w.cell? ⟨g, o + k * 5 + 4, none⟩ = some (.slice y.pA y.pl y.pc) := by
  have hkl := (List.getElem?_eq_some_iff.1 hk).1
  obtain ⟨g, o, e', hc⟩ := h.2 (by omega)
  have hg : ∀ j u, j < 5 → (acells y)[j]? = some u → w.cell? ⟨g, o + k * 5 + j, none⟩ = some u := fun j u hj hu => by
    have := hc (k * 5 + j) u (by rw [acs_get hk j hj]; exact hu)
    rwa [← Nat.add_assoc] at this
  exact ⟨g, o, e', hg 0 _ (by omega) rfl, hg 1 _ (by omega) rfl, hg 2 _ (by omega) rfl, hg 3 _ (by omega) rfl, hg 4 _ (by omega) rfl⟩

section
variable {H : Type} {enc : TypeId × Value → H} {P : Program} {w : World} {base : Nat} {spare : Nat → Bool} {held : Bool}
theorem open_len {t e : TypeId} {fuel : Nat} {cs : List Value} {x : DataW H × List MemPlace} (ht : P.underlying t = some (.slice e)) (h : DataW.trod enc P w base spare held fuel t cs = some x) : ∃ A n c, cs = [.slice A n c] ∧ n ≤ maxLen := by
  rcases open_slice ht h with ⟨rfl, _⟩ | ⟨a, len, cap, m, n, D, Pl, rfl, hb, hl, hm, _⟩
  · exact ⟨none, 0, 0, rfl, Nat.zero_le _⟩
  · exact ⟨some a, len, cap, rfl, Nat.le_trans hl hm⟩
theorem open_ac {T I B S1 S2 B2 I2 : TypeId} {f0 f1 f2 f3 f4 : Field} (st : P.underlying T = some (.struct #[f0, f1, f2, f3, f4])) (int : P.underlying I = some (.int .i64)) (oct : P.underlying B = some (.int .u8)) (s1 : P.underlying S1 = some (.slice B2)) (s2 : P.underlying S2 = some (.slice I2))
    (t0 : f0.type = I) (t1 : f1.type = I) (t2 : f2.type = B) (t3 : f3.type = S1) (t4 : f4.type = S2) (o0 : f0.offset = 0) (o1 : f1.offset = 1) (o2 : f2.offset = 2) (o3 : f3.offset = 3) (o4 : f4.offset = 4)
    (hI : P.cellsOf I = 1) (hB : P.cellsOf B = 1) (h1 : P.cellsOf S1 = 1) (h2 : P.cellsOf S2 = 1) {fuel : Nat} {cs : List Value} {x : DataW H × List MemPlace} (hl : cs.length = 5) (h : DataW.trod enc P w base spare held fuel T cs = some x) : ∃ y : Ac, cs = acells y ∧ AcOk y := by
  match cs, hl with
  | [c0, c1, c2, c3, c4], _ =>
    obtain ⟨xs, n, _, rfl, hl, hlen, hf⟩ := DataW.trod_struct st h
    match xs, hlen with
    | [y0, y1, y2, y3, y4], _ =>
      have g0 := hf 0 f0 rfl
      have g1 := hf 1 f1 rfl
      have g2 := hf 2 f2 rfl
      have g3 := hf 3 f3 rfl
      have g4 := hf 4 f4 rfl
      rw [t0, o0, hI] at g0
      rw [t1, o1, hI] at g1
      rw [t2, o2, hB] at g2
      rw [t3, o3, h1] at g3
      rw [t4, o4, h2] at g4
      obtain ⟨z0, a0, -, b0⟩ := DataW.trod_int int g0
      obtain ⟨z1, a1, -, b1⟩ := DataW.trod_int int g1
      obtain ⟨z2, a2, -, b2⟩ := DataW.trod_int oct g2
      obtain ⟨A3, n3, c3', a3, m3⟩ := open_len s1 g3
      obtain ⟨A4, n4, c4', a4, m4⟩ := open_len s2 g4
      simp at a0 a1 a2 a3 a4
      have w0 := wf_i64 b0
      have w1 := wf_i64 b1
      have w2 := wf_u8 b2
      refine ⟨⟨z0, z1, UInt8.ofNat z2.toNat, A3, n3, c3', A4, n4, c4'⟩, ?_, w0, w1, m3, m4⟩
      have hz : ((UInt8.ofNat z2.toNat).toNat : Int) = z2 := by rw [UInt8.toNat_ofNat']; omega
      rw [a0, a1, a2, a3, a4]
      show [Value.int .i64 z0, .int .i64 z1, .int .u8 z2, .slice A3 n3 c3', .slice A4 n4 c4'] = [Value.int .i64 z0, .int .i64 z1, .int .u8 ((UInt8.ofNat z2.toNat).toNat : Nat), .slice A3 n3 c3', .slice A4 n4 c4']
      rw [hz]
theorem open_acts {t T I B S1 S2 B2 I2 : TypeId} {f0 f1 f2 f3 f4 : Field} (st : P.underlying T = some (.struct #[f0, f1, f2, f3, f4])) (int : P.underlying I = some (.int .i64)) (oct : P.underlying B = some (.int .u8)) (s1 : P.underlying S1 = some (.slice B2)) (s2 : P.underlying S2 = some (.slice I2))
    (t0 : f0.type = I) (t1 : f1.type = I) (t2 : f2.type = B) (t3 : f3.type = S1) (t4 : f4.type = S2) (o0 : f0.offset = 0) (o1 : f1.offset = 1) (o2 : f2.offset = 2) (o3 : f3.offset = 3) (o4 : f4.offset = 4)
    (hI : P.cellsOf I = 1) (hB : P.cellsOf B = 1) (h1 : P.cellsOf S1 = 1) (h2 : P.cellsOf S2 = 1) (hT : P.cellsOf T = 5) (ht : P.underlying t = some (.slice T)) {fuel : Nat} {cs : List Value} {x : DataW H × List MemPlace}
    (h : DataW.trod enc P w base (fun _ => true) held fuel t cs = some x) : ∃ A ys c, cs = [.slice A (List.length ys) c] ∧ Sees w 5 A (List.length ys) (acs ys) ∧ (∀ y ∈ ys, AcOk y) ∧ List.length ys ≤ maxLen := by
  rcases open_slice ht h with ⟨rfl, _⟩ | ⟨a, len, cap, m, n, D, Pl, rfl, hb, hl, hm, hmm, rfl, hx⟩
  · exact ⟨none, [], 0, rfl, Sees.none_ _ _ _, fun y hy => by simp at hy, Nat.zero_le _⟩
  · simp only [if_true] at hmm
    subst hmm
    rw [hT] at hx
    have hb : ∀ r, ∃ y : Ac, (AcOk y) ∧ (r < m → ∀ j, j < 5 → w.cell? ((a.add (r * 5)).add j) = (acells y)[j]?) := fun r => by
      by_cases hr : r < m
      · obtain ⟨cs', h1', h2'⟩ := hx r hr
        obtain ⟨_, hlen, hcell⟩ := World.cells?_some h1'
        obtain ⟨y, rfl, hok⟩ := open_ac st int oct s1 s2 t0 t1 t2 t3 t4 o0 o1 o2 o3 o4 hI hB h1 h2 (by rw [hlen]) h2'
        exact ⟨y, hok, fun _ j hj => hcell j (by omega)⟩
      · exact ⟨⟨0, 0, 0, none, 0, 0, none, 0, 0⟩, ⟨by decide, by decide, Nat.zero_le _, Nat.zero_le _⟩, fun h => absurd h hr⟩
    obtain ⟨f, hf⟩ : ∃ f : Nat → Ac, ∀ r, AcOk (f r) ∧ (r < m → ∀ j, j < 5 → w.cell? ((a.add (r * 5)).add j) = (acells (f r))[j]?) := ⟨fun r => (hb r).choose, fun r => (hb r).choose_spec⟩
    refine ⟨some a, (List.range len).map f, m, by simp, ⟨by simp, fun h0 => ?_⟩, fun y hy => ?_, by simpa using Nat.le_trans hl hm⟩
    · simp only [List.length_map, List.length_range] at h0
      obtain ⟨g, off, spot⟩ := a
      have hc0 := (hf 0).2 (by omega) 0 (by omega)
      have hspot : spot = none := by
        have : ∃ v, w.cell? (((⟨g, off, spot⟩ : Addr).add (0 * 5)).add 0) = some v := ⟨_, hc0⟩
        obtain ⟨v, hv⟩ := this
        simpa [Addr.add] using World.cell?_spot hv
      subst hspot
      refine ⟨g, off, rfl, fun j u hj => ?_⟩
      have hjl : j < len * 5 := by have := (List.getElem?_eq_some_iff.1 hj).1; simpa using this
      have hd : j / 5 < len := by omega
      have hk : ((List.range len).map f)[j / 5]? = some (f (j / 5)) := by rw [List.getElem?_map, List.getElem?_range hd]; rfl
      have hg := acs_get hk (j % 5) (by omega)
      rw [show j / 5 * 5 + j % 5 = j by omega, hj] at hg
      have hc := (hf (j / 5)).2 (by omega) (j % 5) (by omega)
      rw [← hg] at hc
      have ea : ∀ (o n : Nat), (⟨g, o, none⟩ : Addr).add n = ⟨g, o + n, none⟩ := fun o n => by
        unfold Addr.add
        split
        · subst n; rfl
        · rfl
      have e : ((⟨g, off, none⟩ : Addr).add (j / 5 * 5)).add (j % 5) = ⟨g, off + j, none⟩ := by
        rw [ea, ea, show off + j / 5 * 5 + j % 5 = off + j by omega]
      rwa [e] at hc
    · obtain ⟨r, -, rfl⟩ := List.mem_map.1 hy
      exact (hf r).1
end
end Go.Proofs.Ytnlghpopjckhiaa
