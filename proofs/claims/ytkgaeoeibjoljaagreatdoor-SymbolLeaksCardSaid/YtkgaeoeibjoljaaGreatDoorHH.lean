/-
  Keys on a disk whose power may be off, plain.
  A run whose power may be off, plain: what holds of it, act by act; a flushed epoch leaks.
  A log is opened on a disk where sectors are old or new, plain.
-/
import Derived.Test.YtkgaeoeibjoljaaGreatDoorHG
import Derived.Test.YtkgaeoeibjoljaaGreatDoorGV
import Derived.Test.YtkgaeoeibjoljaaGreatDoorGH
import Derived.Test.YtkgaeoeibjoljaaGreatDoorHB
import Derived.Test.YtkgaeoeibjoljaaGreatDoorKey12
import Derived.Test.YtkgaeoeibjoljaaGreatDoorHA
import Derived.Test.YtkgaeoeibjoljaaGreatDoorHE
namespace Go.Proofs.YtkgaeoeibjoljaaGreatDoor
section
set_option maxRecDepth 4000
def encE : Option Ke -> List UInt8
 | none => zer
 | some e => keyo e.buck.toNat e.key
structure KInv (E : List (Option Ke)) (dead : Bool) (D : Dk) (B : Nat) : Prop where
 uniq : ∀ (i j : Nat) (e e' : Ke), E[i]? = some (some e) -> E[j]? = some (some e') -> e.buck = e'.buck -> i = j
 keys : ∀ e : Ke, some e ∈ E -> ∃ x n : Nat, e.buck = (x : Int) /\ x <= 1000 /\ e.key = nm n /\ n < B
 can : ∃ dy : Option (Nat × Nat × Nat), (dead = false -> dy = none) /\
  (∀ k x n, dy = some (k, x, n) -> E[k]? = some none /\ x <= 1000 /\ n < B /\ ∀ e : Ke, some e ∈ E -> e.buck ≠ (x : Int)) /\
  ∀ (k : Nat) (o : Option Ke) (b : List UInt8), E[k]? = some o -> Can D (2 * k) b -> b = encE o \/ ∃ x n, dy = some (k, x, n) /\ b = keyo x (nm n)
 fit : (2 * E.length) * 128 <= D.safe.length
 ok : D.Ok
theorem mem_set' {α : Type} {l : List α} {k : Nat} {x y : α} (h : y ∈ l.set k x) : y = x \/ ∃ j, j ≠ k /\ l[j]? = some y := by
 obtain ⟨j, hj⟩ := List.mem_iff_getElem?.1 h
 rw [List.getElem?_set] at hj
 split at hj
 ·split at hj
  ·injection hj with hj; exact .inl hj.symm
  ·cases hj
 ·rename_i hne
  exact .inr ⟨j, fun e => hne e.symm, hj⟩
theorem set_at {α : Type} {l : List α} {k j : Nat} {x y : α} (h : (l.set k x)[j]? = some y) : (j = k /\ y = x) \/ (j ≠ k /\ l[j]? = some y) := by
 rw [List.getElem?_set] at h
 split at h
 ·rename_i he
  split at h
  ·injection h with h; exact .inl ⟨he.symm, h.symm⟩
  ·cases h
 ·rename_i hne
  exact .inr ⟨fun e => hne e.symm, h⟩
section
variable {E : List (Option Ke)} {dead : Bool} {D D' : Dk} {B : Nat}
theorem KInv.disk (h : KInv E dead D B) (hok : D'.Ok) (hl : D'.safe.length = D.safe.length) (hc : ∀ k b, k < E.length -> Can D' (2 * k) b -> Can D (2 * k) b) : KInv E dead D' B := by
 obtain ⟨dy, h1, h2, h3⟩ := h.can
 exact ⟨h.uniq, h.keys, ⟨dy, h1, h2, fun k o b hk hb => h3 k o b hk (hc k b (List.getElem?_eq_some_iff.1 hk).1 hb)⟩, by rw [hl]; exact h.fit, hok⟩
theorem KInv.more (h : KInv E dead D B) {B' : Nat} (hB : B <= B') : KInv E dead D B' := by
 obtain ⟨dy, h1, h2, h3⟩ := h.can
 exact ⟨h.uniq, fun e he => by obtain ⟨x, n, a, b, c, d⟩ := h.keys e he; exact ⟨x, n, a, b, c, by omega⟩, ⟨dy, h1, fun k x n e => by obtain ⟨a, b, c, d⟩ := h2 k x n e; exact ⟨a, b, by omega, d⟩, h3⟩, h.fit, h.ok⟩
theorem slot_fit (h : KInv E dead D B) {k : Nat} (hk : k < E.length) : (0 + 2 * k + 2) * 128 <= D.safe.length := Nat.le_trans (Nat.mul_le_mul_right _ (by omega)) h.fit
theorem KInv.put (h : KInv E false D B) {k x n : Nat} (hk : E[k]? = some none) (hno : ∀ e : Ke, some e ∈ E -> e.buck ≠ (x : Int)) (hx : x <= 1000) (hn : n < B) :
  (D.twoOk (0 + 2 * k) (keyo x (nm n)) = true -> ∀ e' : Ke, e'.buck = (x : Int) -> e'.key = nm n -> KInv (E.set k (some e')) false (D.two (0 + 2 * k) (keyo x (nm n))) B) /\ KInv E true (D.two (0 + 2 * k) (keyo x (nm n))) B := by
 have hkl := (List.getElem?_eq_some_iff.1 hk).1
 have hl : (keyo x (nm n)).length = 128 := keyo_length _ _ (nm_length n)
 have hf := slot_fit h hkl
 obtain ⟨t1, t2, t3⟩ := two_len h.ok (0 + 2 * k) _ hl hf
 obtain ⟨dy, h1, h2, h3⟩ := h.can
 have hdy := h1 rfl
 subst hdy
 have hcan : ∀ (j : Nat) (o : Option Ke) (b : List UInt8), E[j]? = some o -> Can D (2 * j) b -> b = encE o := fun j o b ho hb => by
  rcases h3 j o b ho hb with e | ⟨x, n, e, -⟩
  ·exact e
  ·cases e
 have hj : ∀ j, j < E.length -> (2 * j + 1) * 128 <= D.safe.length := fun j hj => Nat.le_trans (Nat.mul_le_mul_right _ (by omega)) h.fit
 refine ⟨fun htw e' hb hke => ⟨?_, ?_, ⟨none, fun _ => rfl, (fun k x n e => by cases e), ?_⟩, by rw [List.length_set, t2]; exact h.fit, t1⟩, ⟨h.uniq, h.keys, ⟨some (k, x, n), (fun e => by cases e), ?_, ?_⟩, by rw [t2]; exact h.fit, t1⟩⟩
 ·intro i j e1 e2 hi hj' he
  rcases set_at hi with ⟨hi, e⟩ | ⟨hi, hi2⟩
  ·rcases set_at hj' with ⟨hj', -⟩ | ⟨hj', hj2⟩
   ·rw [hi, hj']
   ·injection e with e
    subst e
    exact absurd (he.symm.trans hb) (hno e2 (List.mem_of_getElem? hj2))
  ·rcases set_at hj' with ⟨hj', e⟩ | ⟨hj', hj2⟩
   ·injection e with e
    subst e
    exact absurd (he.trans hb) (hno e1 (List.mem_of_getElem? hi2))
   ·exact h.uniq i j e1 e2 hi2 hj2 he
 ·intro e he
  rcases mem_set' he with e1 | ⟨j, -, hj'⟩
  ·injection e1 with e1
   subst e1
   exact ⟨x, n, hb, hx, hke, hn⟩
  ·exact h.keys e (List.mem_of_getElem? hj')
 ·intro j o b ho hb'
  have hjl := (List.getElem?_eq_some_iff.1 ho).1
  rw [List.length_set] at hjl
  have hc := can_two h.ok hl hf (hj j hjl) hb'
  left
  rcases set_at ho with ⟨rfl, rfl⟩ | ⟨hne, ho2⟩
  ·rw [hc.2 htw (by omega)]
   show _ = keyo e'.buck.toNat e'.key
   rw [hb, hke, Int.toNat_natCast]
  ·rcases hc.1 with hc | ⟨hc, -⟩
   ·exact hcan j o b ho2 hc
   ·omega
 ·intro k' x' n' e
  injection e with e
  injection e with e1 e2
  injection e2 with e2 e3
  subst e1 e2 e3
  exact ⟨hk, hx, hn, hno⟩
 ·intro j o b ho hb'
  have hjl := (List.getElem?_eq_some_iff.1 ho).1
  rcases (can_two h.ok hl hf (hj j hjl) hb').1 with hc | ⟨hc, e⟩
  ·exact .inl (hcan j o b ho hc)
  ·have : j = k := by omega
   subst this
   exact .inr ⟨x, n, rfl, e⟩
theorem KInv.shred (h : KInv E false D B) {k : Nat} {e0 : Ke} (hk : E[k]? = some (some e0)) : KInv (E.set k none) (!(D.twoOk (0 + 2 * k) zer)) (D.two (0 + 2 * k) zer) B := by
 have hkl := (List.getElem?_eq_some_iff.1 hk).1
 have hf := slot_fit h hkl
 obtain ⟨t1, t2, t3⟩ := two_len h.ok (0 + 2 * k) _ zer_len hf
 obtain ⟨dy, h1, h2, h3⟩ := h.can
 have hdy := h1 rfl
 subst hdy
 have hcan : ∀ (j : Nat) (o : Option Ke) (b : List UInt8), E[j]? = some o -> Can D (2 * j) b -> b = encE o := fun j o b ho hb => by
  rcases h3 j o b ho hb with e | ⟨x, n, e, -⟩
  ·exact e
  ·cases e
 have hj : ∀ j, j < E.length -> (2 * j + 1) * 128 <= D.safe.length := fun j hj => Nat.le_trans (Nat.mul_le_mul_right _ (by omega)) h.fit
 obtain ⟨x, n, q1, q2, q3, q4⟩ := h.keys e0 (List.mem_of_getElem? hk)
 have hother : ∀ e : Ke, some e ∈ E.set k none -> e.buck ≠ (x : Int) := fun e he hx => by
  rcases mem_set' he with e1 | ⟨j, hne, hj'⟩
  ·cases e1
  ·exact hne (h.uniq j k e e0 hj' hk (hx.trans q1.symm))
 refine ⟨?_, ?_, ?_, by rw [List.length_set, t2]; exact h.fit, t1⟩
 ·intro i j e1 e2 hi hj' he
  rcases set_at hi with ⟨-, e⟩ | ⟨hi, hi2⟩
  ·cases e
  ·rcases set_at hj' with ⟨-, e⟩ | ⟨hj', hj2⟩
   ·cases e
   ·exact h.uniq i j e1 e2 hi2 hj2 he
 ·intro e he
  rcases mem_set' he with e1 | ⟨j, -, hj'⟩
  ·cases e1
  ·exact h.keys e (List.mem_of_getElem? hj')
 ·cases htw : D.twoOk (0 + 2 * k) zer with
  | true =>
   refine ⟨none, fun _ => rfl, (fun k x n e => by cases e), fun j o b ho hb => ?_⟩
   have hjl := (List.getElem?_eq_some_iff.1 ho).1
   rw [List.length_set] at hjl
   have hc := can_two h.ok zer_len hf (hj j hjl) hb
   left
   rcases set_at ho with ⟨rfl, rfl⟩ | ⟨hne, ho2⟩
   ·rw [hc.2 htw (by omega)]; rfl
   ·rcases hc.1 with hc | ⟨hc, -⟩
    ·exact hcan j o b ho2 hc
    ·omega
  | false =>
   refine ⟨some (k, x, n), (fun e => by cases e), fun k' x' n' e => ?_, fun j o b ho hb => ?_⟩
   ·injection e with e
    injection e with e1 e2
    injection e2 with e2 e3
    subst e1 e2 e3
    exact ⟨by rw [List.getElem?_set, if_pos rfl, if_pos hkl], q2, q4, hother⟩
   ·have hjl := (List.getElem?_eq_some_iff.1 ho).1
    rw [List.length_set] at hjl
    have hc := can_two h.ok zer_len hf (hj j hjl) hb
    rcases set_at ho with ⟨rfl, rfl⟩ | ⟨hne, ho2⟩
    ·rcases hc.1 with hc | ⟨-, e⟩
     ·right
      refine ⟨x, n, rfl, ?_⟩
      rw [hcan _ _ b hk hc]
      show keyo e0.buck.toNat e0.key = _
      rw [q1, q3, Int.toNat_natCast]
     ·exact .inl e
    ·left
     rcases hc.1 with hc | ⟨hc, -⟩
     ·exact hcan j o b ho2 hc
     ·omega
end
/-! ### A crash, and the table is opened again -/
theorem exists_list {β : Type} {R : Nat -> β -> Prop} : ∀ (N : Nat), (∀ k, k < N -> ∃ y, R k y) -> ∃ l : List β, l.length = N /\ ∀ k y, l[k]? = some y -> R k y
 | 0, _ => ⟨[], rfl, fun k y h => by cases h⟩
 | N + 1, h => by
  obtain ⟨l, h1, h2⟩ := exists_list N (fun k hk => h k (by omega))
  obtain ⟨y, hy⟩ := h N (by omega)
  refine ⟨l ++ [y], by simp [h1], fun k z hz => ?_⟩
  by_cases hk : k < N
  ·rw [List.getElem?_append_left (by omega)] at hz
   exact h2 k z hz
  ·rw [List.getElem?_append_right (by omega), h1] at hz
   by_cases hk2 : k = N
   ·subst hk2
    rw [Nat.sub_self] at hz
    injection hz with hz
    subst hz
    exact hy
   ·rw [List.getElem?_eq_none (by simp; omega)] at hz
    cases hz
theorem slos_eq : ∀ (P : List Sl) (X : List UInt8), (∀ (k : Nat) (s : Sl), P[k]? = some s -> slo s = (X.drop (k * 256)).take 256) -> P.length * 256 <= X.length -> slos P = X.take (P.length * 256)
 | [], X, _, _ => by simp [slos]
 | s :: P, X, h, hl => by
  have h0 := h 0 s rfl
  have ih := slos_eq P (X.drop 256) (fun k s hk => by
   have := h (k + 1) s (by simpa using hk)
   rw [this, List.drop_drop]
   congr 2
   omega) (by rw [List.length_cons] at hl; rw [List.length_drop]; omega)
  show slo s ++ slos P = _
  rw [ih, h0, Nat.zero_mul, List.drop_zero, List.length_cons, show (P.length + 1) * 256 = 256 + P.length * 256 by omega, List.take_add]
theorem two_sects (X : List UInt8) (k : Nat) : (X.drop (k * 256)).take 256 = sect X (2 * k) ++ sect X (2 * k + 1) := by
 have e1 : 2 * k * 128 = k * 256 := by omega
 have e2 : (2 * k + 1) * 128 = k * 256 + 128 := by omega
 unfold sect
 rw [e1, e2]
 show List.take (128 + 128) _ = _
 rw [List.take_add, List.drop_drop]
structure SlIn (E : List (Option Ke)) (X : List UInt8) (B : Nat) (P : List Sl) : Prop where
 len : P.length = E.length
 ok : ∀ s ∈ P, SlOk s
 slos : slos P = X.take (P.length * 256)
 uniq : ∀ (i j : Nat) (p q : Nat × List UInt8) (Y Z : List UInt8), P[i]? = some (some p, Y) -> P[j]? = some (some q, Z) -> p.1 = q.1 -> i = j
 keep : ∀ (k : Nat) (e : Ke) (s : Sl), E[k]? = some (some e) -> P[k]? = some s -> s.1 = some (e.buck.toNat, e.key)
 nums : ∀ (s : Sl) (p : Nat × List UInt8), s ∈ P -> s.1 = some p -> p.1 <= 1000 /\ ∃ n, p.2 = nm n /\ n < B
 first : ∀ (k : Nat) (s : Sl), P[k]? = some s -> enc s.1 = sect X (2 * k)
theorem KInv.slots {E : List (Option Ke)} {dead : Bool} {D : Dk} {B : Nat} (h : KInv E dead D B) (keep : List Int) : ∃ P, SlIn E (D.crashed keep).safe B P := by
 obtain ⟨dy, h1, h2, h3⟩ := h.can
 have hlen : (D.crashed keep).safe.length = D.safe.length := crash_length D h.ok keep
 have hfit := h.fit
 have hR : ∀ k, k < E.length -> ∃ s : Sl, SlOk s /\ slo s = ((D.crashed keep).safe.drop (k * 256)).take 256 /\ enc s.1 = sect (D.crashed keep).safe (2 * k) /\
   ∃ o, E[k]? = some o /\ ((∃ e, o = some e /\ s.1 = some (e.buck.toNat, e.key)) \/ (o = none /\ (s.1 = none \/ ∃ x n, dy = some (k, x, n) /\ s.1 = some (x, nm n)))) := fun k hk => by
  obtain ⟨o, ho⟩ : ∃ o, E[k]? = some o := ⟨_, List.getElem?_eq_getElem hk⟩
  have hb := h3 k o (sect (D.crashed keep).safe (2 * k)) ho (can_crash h.ok (Nat.le_trans (Nat.mul_le_mul_right _ (by omega)) hfit) (.inl rfl))
  have hs2 : (sect (D.crashed keep).safe (2 * k + 1)).length = 128 := length_sect _ _ (by rw [hlen]; exact Nat.le_trans (Nat.mul_le_mul_right _ (by omega)) hfit)
  have mk : ∀ q : Kd, KdOk q -> enc q = sect (D.crashed keep).safe (2 * k) -> SlOk (q, sect (D.crashed keep).safe (2 * k + 1)) /\ slo (q, sect (D.crashed keep).safe (2 * k + 1)) = ((D.crashed keep).safe.drop (k * 256)).take 256 := fun q hq he =>
   ⟨⟨hq, hs2⟩, by rw [two_sects, <- he]; rfl⟩
  have hkok : ∀ x n : Nat, x <= 1000 -> KdOk (some (x, nm n)) := fun x n hx p hp => by
   injection hp with hp
   subst hp
   exact ⟨by show x <= _; omega, nm_length n⟩
  rcases hb with hb | ⟨x, n, hdy, hb⟩
  ·cases o with
   | none =>
    obtain ⟨m1, m2⟩ := mk none (fun p hp => by cases hp) hb.symm
    exact ⟨_, m1, m2, hb.symm, none, ho, .inr ⟨rfl, .inl rfl⟩⟩
   | some e =>
    obtain ⟨x, n, q1, q2, q3, q4⟩ := h.keys e (List.mem_of_getElem? ho)
    have hx : e.buck.toNat = x := by rw [q1, Int.toNat_natCast]
    obtain ⟨m1, m2⟩ := mk (some (e.buck.toNat, e.key)) (by rw [hx, q3]; exact hkok x n q2) hb.symm
    exact ⟨_, m1, m2, hb.symm, some e, ho, .inl ⟨e, rfl, rfl⟩⟩
  ·obtain ⟨a1, a2, a3, a4⟩ := h2 k x n hdy
   rw [ho] at a1
   injection a1 with a1
   subst a1
   obtain ⟨m1, m2⟩ := mk (some (x, nm n)) (hkok x n a2) hb.symm
   exact ⟨_, m1, m2, hb.symm, none, ho, .inr ⟨rfl, .inr ⟨x, n, hdy, rfl⟩⟩⟩
 obtain ⟨P, hP1, hP2⟩ := exists_list E.length hR
 have hidx : ∀ s ∈ P, ∃ k, P[k]? = some s := fun s hs => List.mem_iff_getElem?.1 hs
 have hkind : ∀ (k : Nat) (s : Sl) (p : Nat × List UInt8), P[k]? = some s -> s.1 = some p -> (∃ e, E[k]? = some (some e) /\ p = (e.buck.toNat, e.key)) \/ (∃ x n, dy = some (k, x, n) /\ p = (x, nm n)) := fun k s p hs hp => by
  obtain ⟨-, -, -, o, ho, hh⟩ := hP2 k s hs
  rcases hh with ⟨e, rfl, he⟩ | ⟨rfl, he | ⟨x, n, hdy, he⟩⟩
  ·rw [hp] at he
   injection he with he
   exact .inl ⟨e, ho, he⟩
  ·rw [hp] at he; cases he
  ·rw [hp] at he
   injection he with he
   exact .inr ⟨x, n, hdy, he⟩
 refine ⟨P, hP1, fun s hs => ?_, slos_eq P _ (fun k s hs => (hP2 k s hs).2.1) (by rw [hP1, hlen]; omega), ?_, ?_, ?_, fun k s hs => (hP2 k s hs).2.2.1⟩
 ·obtain ⟨k, hk⟩ := hidx s hs
  exact (hP2 k s hk).1
 ·intro i j p q Y Z hi hj hpq
  have hb : ∀ {e : Ke} {k : Nat}, E[k]? = some (some e) -> ((e.buck.toNat : Nat) : Int) = e.buck := fun {e k} he => by
   obtain ⟨x, n, q1, -⟩ := h.keys e (List.mem_of_getElem? he)
   rw [q1]; rfl
  rcases hkind i _ p hi rfl with ⟨e, he, rfl⟩ | ⟨x, n, hx, rfl⟩
  ·rcases hkind j _ q hj rfl with ⟨e', he', rfl⟩ | ⟨x', n', hx', rfl⟩
   ·refine h.uniq i j e e' he he' ?_
    rw [<- hb he, <- hb he']
    exact congrArg Int.ofNat hpq
   ·have := (h2 j x' n' hx').2.2.2 e (List.mem_of_getElem? he)
    exact absurd (by rw [<- hb he]; exact congrArg Int.ofNat hpq) this
  ·rcases hkind j _ q hj rfl with ⟨e', he', rfl⟩ | ⟨x', n', hx', rfl⟩
   ·have := (h2 i x n hx).2.2.2 e' (List.mem_of_getElem? he')
    exact absurd (by rw [<- hb he']; exact congrArg Int.ofNat hpq.symm) this
   ·rw [hx] at hx'
    injection hx' with hx'
    injection hx' with hx'
 ·intro k e s he hs
  obtain ⟨-, -, -, o, ho, hh⟩ := hP2 k s hs
  rw [he] at ho
  injection ho with ho
  subst ho
  rcases hh with ⟨e', h5, h6⟩ | ⟨h5, -⟩
  ·injection h5 with h5
   subst h5
   exact h6
  ·cases h5
 ·intro s p hs hp
  obtain ⟨k, hk⟩ := hidx s hs
  rcases hkind k s p hk hp with ⟨e, he, rfl⟩ | ⟨x, n, hx, rfl⟩
  ·obtain ⟨x, n, q1, q2, q3, q4⟩ := h.keys e (List.mem_of_getElem? he)
   exact ⟨by show e.buck.toNat <= 1000; rw [q1, Int.toNat_natCast]; exact q2, n, q3, q4⟩
  ·obtain ⟨-, a2, a3, -⟩ := h2 k x n hx
   exact ⟨a2, n, rfl, a3⟩
theorem encE_keD {e : Option Ke} {q : Kd} (h : keD e = oD q) : encE e = enc q := by
 cases e with
 | none => cases q with
  | none => rfl
  | some p => cases h
 | some e => cases q with
  | none => cases h
  | some p =>
   have h : some (e.buck, e.key) = some ((p.1 : Int), p.2) := h
   injection h with h
   injection h with h1 h2
   show keyo e.buck.toNat e.key = keyo p.1 p.2
   rw [h1, h2, Int.toNat_natCast]
theorem SlIn.opened {E E' : List (Option Ke)} {X : List UInt8} {B : Nat} {P : List Sl} {D : Dk} (h : SlIn E X B P) (hl : E'.length = P.length) (hE : ∀ (k : Nat) (s : Sl), P[k]? = some s -> ∃ e, E'[k]? = some e /\ keD e = oD s.1)
  (hok : D.Ok) (hq : D.queue = []) (hfit : (2 * E.length) * 128 <= D.safe.length) (hs : ∀ k, k < P.length -> sect D.safe (2 * k) = sect X (2 * k)) :
  KInv E' false D B /\ E'.length = E.length /\ ∀ e : Ke, some e ∈ E -> ∃ e' : Ke, some e' ∈ E' /\ e'.buck = ((e.buck.toNat : Nat) : Int) /\ e'.key = e.key := by
 have hat : ∀ (k : Nat) (o : Option Ke), E'[k]? = some o -> ∃ s, P[k]? = some s /\ keD o = oD s.1 := fun k o ho => by
  have hk := (List.getElem?_eq_some_iff.1 ho).1
  obtain ⟨s, hs⟩ : ∃ s, P[k]? = some s := ⟨_, List.getElem?_eq_getElem (by omega)⟩
  obtain ⟨e, h1, h2⟩ := hE k s hs
  rw [ho] at h1
  injection h1 with h1
  subst h1
  exact ⟨s, hs, h2⟩
 have hsome : ∀ (k : Nat) (e : Ke), E'[k]? = some (some e) -> ∃ p Y, P[k]? = some (some p, Y) /\ e.buck = (p.1 : Int) /\ e.key = p.2 := fun k e he => by
  obtain ⟨⟨q, Y⟩, hs, h2⟩ := hat k _ he
  cases q with
  | none => cases h2
  | some p =>
   have h2 : some (e.buck, e.key) = some ((p.1 : Int), p.2) := h2
   injection h2 with h2
   injection h2 with h3 h4
   exact ⟨p, Y, hs, h3, h4⟩
 refine ⟨⟨?_, ?_, ⟨none, fun _ => rfl, (fun k x n e => by cases e), ?_⟩, by rw [hl, h.len]; exact hfit, hok⟩, hl.trans h.len, ?_⟩
 ·intro i j e e' hi hj hb
  obtain ⟨p, Y, h1, h2, -⟩ := hsome i e hi
  obtain ⟨q, Z, h3, h4, -⟩ := hsome j e' hj
  exact h.uniq i j p q Y Z h1 h3 (by rw [h2, h4] at hb; exact Int.ofNat.inj hb)
 ·intro e he
  obtain ⟨k, hk⟩ := List.mem_iff_getElem?.1 he
  obtain ⟨p, Y, h1, h2, h3⟩ := hsome k e hk
  obtain ⟨h4, n, h5, h6⟩ := h.nums (some p, Y) p (List.mem_of_getElem? h1) rfl
  exact ⟨p.1, n, h2, h4, h3.trans h5, h6⟩
 ·intro k o b ho hb
  left
  obtain ⟨s, hs1, h2⟩ := hat k o ho
  have hk := (List.getElem?_eq_some_iff.1 hs1).1
  rw [can_idle hq hb, hs k hk, <- h.first k s hs1, encE_keD h2]
 ·intro e he
  obtain ⟨k, hk⟩ := List.mem_iff_getElem?.1 he
  have hkl := (List.getElem?_eq_some_iff.1 hk).1
  obtain ⟨s, hs1⟩ : ∃ s, P[k]? = some s := ⟨_, List.getElem?_eq_getElem (by rw [h.len]; exact hkl)⟩
  have h1 := h.keep k e s hk hs1
  obtain ⟨e', h2, h3⟩ := hE k s hs1
  rw [h1] at h3
  cases e' with
  | none => cases h3
  | some e' =>
   have h3 : some (e'.buck, e'.key) = some (((e.buck.toNat : Nat) : Int), e.key) := h3
   injection h3 with h3
   injection h3 with h4 h5
   exact ⟨e', List.mem_of_getElem? h2, h4, h5⟩
end
section
set_option maxRecDepth 4000
structure Inv (S : St) (qm pm am : Nat) : Prop where
 log : LogInv S.s S.D (2 * S.slots)
 key : KInv S.E S.dead S.D S.l.length
 elen : S.E.length = S.slots
 few : 1 <= S.slots /\ S.slots <= 4
 segs : 1 <= S.segs /\ S.segs <= 3
 size : 3 <= S.size /\ S.size <= 10
 ssegs : S.s.segs = S.segs
 ssize : S.s.size = S.size
 len : S.D.safe.length = (2 * S.slots + S.segs * S.size) * 128
 pool : Pool S.l
 fresh : ∀ t ∈ S.l, t.k = 1 -> t.a < S.atoms
 dq : S.D.queue.length <= qm
 plen : S.l.length <= pm
 alen : S.atoms <= am
theorem Inv.area {S : St} {q p a : Nat} (h : Inv S q p a) : S.segs * S.size <= 30 := Nat.mul_le_mul h.segs.2 h.size.2
theorem Inv.txt {S : St} {q p a : Nat} (h : Inv S q p a) : S.s.texts.length <= 4000 := by
 have h1 := h.log.pl.few
 have h2 := h.log.pl.end_le h.log.sok.segs.1
 have h3 : S.s.all = S.segs * S.size * 128 := by
  show S.s.segs * (S.s.size * 128) = _
  rw [h.ssegs, h.ssize, Nat.mul_assoc]
 have h4 := h.area
 omega
theorem Inv.st {S : St} {q p a : Nat} (h : Inv S q p a) (hq : q <= 900) (hp : p <= 900) (ha : a <= 900) (he : S.eps.length <= 1000) : StOk S := by
 have h1 := h.area
 have h2 := h.few
 have h3 := h.segs
 have h4 := h.size
 refine ⟨h.log.ok, by have := h.dq; omega, h.elen, by omega, by omega, by omega, by rw [h.len]; exact Nat.le_refl _, ?_, h.pool, by have := h.plen; omega, h.fresh, by have := h.alen; omega, fun e he => ?_, h.ssegs, h.ssize, h.log.sok, h.log.gl.foot, by have := h.txt; omega, he⟩
 ·unfold Dk.size
  rw [h.len]
  omega
 ·obtain ⟨x, n, _, _, h5, h6⟩ := h.key.keys e he
  exact ⟨n, h6, h5⟩
def EpAt (S : St) (N k : Nat) : Prop := ∃ bk sec n m : Nat, S.eps[k]? = some ((bk : Int), (sec : Int)) /\ S.l[m]? = some (sel n sec) /\ m < 4096 /\ n < 4096 /\ (∃ e : Ke, some e ∈ S.E /\ e.buck = (bk : Int) /\ e.key = nm n) /\ recb k bk (wrp m) ∈ S.s.texts.take N
theorem mem_take_le {α : Type} {l : List α} {x : α} {n m : Nat} (h : x ∈ l.take n) (hm : n <= m) : x ∈ l.take m := by
 have : l.take n = (l.take m).take n := by rw [List.take_take, Nat.min_eq_left hm]
 rw [this] at h
 exact List.mem_of_mem_take h
theorem EpAt.more {S : St} {N M k : Nat} (h : EpAt S N k) (hM : N <= M) : EpAt S M k := by
 obtain ⟨bk, sec, n, m, h1, h2, h3, h4, h5, h6⟩ := h
 exact ⟨bk, sec, n, m, h1, h2, h3, h4, h5, mem_take_le h6 hM⟩
theorem EpAt.to {S S' : St} {N k : Nat} (h : EpAt S N k) (he : ∃ r, S'.eps = S.eps ++ r) (hl : ∃ r, S'.l = S.l ++ r) (hE : ∀ e : Ke, some e ∈ S.E -> some e ∈ S'.E) (ht : ∃ r, S'.s.texts = S.s.texts ++ r) : EpAt S' N k := by
 obtain ⟨bk, sec, n, m, h1, h2, h3, h4, ⟨e, h5, h6⟩, h7⟩ := h
 obtain ⟨r1, he⟩ := he
 obtain ⟨r2, hl⟩ := hl
 obtain ⟨r3, ht⟩ := ht
 have q1 := (List.getElem?_eq_some_iff.1 h1).1
 have q2 := (List.getElem?_eq_some_iff.1 h2).1
 refine ⟨bk, sec, n, m, by rw [he, List.getElem?_append_left q1]; exact h1, by rw [hl, List.getElem?_append_left q2]; exact h2, h3, h4, ⟨e, hE e h5, h6⟩, ?_⟩
 rw [ht, List.take_append]
 exact List.mem_append_left _ h7
/-! ### A key -/
theorem Inv.two {S : St} {q p a : Nat} (h : Inv S q p a) {k : Nat} (hk : k < S.E.length) {l : List UInt8} (hl : l.length = 128) : LogInv S.s (S.D.two (0 + 2 * k) l) (2 * S.slots) /\ (S.D.two (0 + 2 * k) l).safe.length = S.D.safe.length /\ (S.D.two (0 + 2 * k) l).queue.length <= q + 2 := by
 have hf := slot_fit h.key hk
 obtain ⟨t1, t2, t3⟩ := two_len h.log.ok (0 + 2 * k) l hl hf
 have he := h.elen
 refine ⟨h.log.disk t1 t2 fun i b hi hb => ?_, t2, by have := h.dq; omega⟩
 rcases (can_two h.log.ok hl hf (Nat.le_trans (Nat.mul_le_mul_right _ (by omega)) h.log.fit) hb).1 with hc | ⟨hc, -⟩
 ·exact hc
 ·omega
theorem Inv.atom {S : St} {q p a : Nat} (h : Inv S q p a) (ha : a <= 1000) : Inv { S with l := S.l ++ [atm S.atoms], atoms := S.atoms + 1 } q (p + 1) (a + 1) := by
 have hp := (show PlOk S (max p a) from ⟨h.pool, by have := h.plen; omega, h.fresh, by have := h.alen; omega⟩)
 refine ⟨h.log, h.key.more (by simp), h.elen, h.few, h.segs, h.size, h.ssegs, h.ssize, h.len, h.pool.snoc (okT_atm _ _) (atm_new h.fresh) (fit_atm _ (by have := h.alen; omega)), fresh_snoc h.fresh, h.dq, by have := h.plen; simp; omega, by have := h.alen; show S.atoms + 1 <= a + 1; omega⟩
theorem mem_set_keep {E : List (Option Ke)} {k : Nat} {y : Option Ke} (hk : E[k]? = some none) {e : Ke} (he : some e ∈ E) : some e ∈ E.set k y := by
 obtain ⟨j, hj⟩ := List.mem_iff_getElem?.1 he
 refine List.mem_of_getElem? (i := j) ?_
 rw [List.getElem?_set, if_neg (fun e => by subst e; rw [hk] at hj; cases hj)]
 exact hj
theorem Inv.keyTo {S S1 : St} {q p a bk n : Nat} {ok : Bool} (h : Inv S q p a) (ha : a <= 900) (hp : p <= 900) (hx : bk <= 1000) (hr : KeyRel S bk n S1 ok) :
  Inv S1 (q + 2) (p + 1) (a + 1) /\ n < S1.l.length /\ (ok = true -> ∃ e : Ke, some e ∈ S1.E /\ e.buck = (bk : Int) /\ e.key = nm n) /\ (∃ r, S1.l = S.l ++ r) /\ (∀ e : Ke, some e ∈ S.E -> some e ∈ S1.E) /\ S1.s = S.s /\ S1.eps = S.eps := by
 rcases hr with ⟨e0, h1, h2, h3, h4, rfl, rfl⟩ | ⟨h1, rfl, h3⟩
 ·obtain ⟨x, m, -, -, h5, h6⟩ := h.key.keys e0 h1
  have hpl := h.plen
  have hnm : n = m := nm_inj (by omega) (by omega) (h3.symm.trans h5)
  refine ⟨⟨h.log, h.key, h.elen, h.few, h.segs, h.size, h.ssegs, h.ssize, h.len, h.pool, h.fresh, by have := h.dq; omega, by omega, by have := h.alen; omega⟩, by omega, fun _ => ⟨e0, h1, h2, h3⟩, ⟨[], by simp⟩, fun e he => he, rfl, rfl⟩
 ·have hA := h.atom (by omega)
  have hlen : S.l.length < (S.l ++ [atm S.atoms]).length := by simp
  have up : ∀ {q' : Nat} {S' : St}, Inv S' q' (p + 1) (a + 1) -> q' <= q + 2 -> Inv S' (q + 2) (p + 1) (a + 1) := fun {q' S'} i hq => ⟨i.log, i.key, i.elen, i.few, i.segs, i.size, i.ssegs, i.ssize, i.len, i.pool, i.fresh, by have := i.dq; omega, i.plen, i.alen⟩
  rcases h3 with ⟨rfl, rfl, -⟩ | ⟨hd, k, hk, htw, h4⟩
  ·exact ⟨up hA (by omega), hlen, (fun e => by cases e), ⟨_, rfl⟩, fun e he => he, rfl, rfl⟩
  ·have hd' : S.dead = false := hd
   have hk' : S.E[k]? = some none := hk
   have hkl : k < S.E.length := (List.getElem?_eq_some_iff.1 hk').1
   have hkey := hA.key
   have hkey : KInv S.E false S.D (S.l ++ [atm S.atoms]).length := by have e : ({ S with l := S.l ++ [atm S.atoms], atoms := S.atoms + 1 } : St).dead = false := hd; rw [e] at hkey; exact hkey
   obtain ⟨p1, p2⟩ := hkey.put hk' h1 hx hlen
   obtain ⟨t1, t2, t3⟩ := h.two hkl (keyo_length bk (nm S.l.length) (nm_length _))
   rcases h4 with ⟨rfl, e', h5, h6, rfl⟩ | ⟨rfl, rfl⟩
   ·refine ⟨⟨t1, p1 htw e' h5 h6, by show (S.E.set k _).length = _; rw [List.length_set]; exact h.elen, h.few, h.segs, h.size, h.ssegs, h.ssize, t2.trans h.len, hA.pool, hA.fresh, t3, hA.plen, hA.alen⟩, hlen, fun _ => ⟨e', ?_, h5, h6⟩, ⟨_, rfl⟩, fun e he => mem_set_keep hk' he, rfl, rfl⟩
    exact List.mem_of_getElem? (i := k) (by show (S.E.set k _)[k]? = _; rw [List.getElem?_set, if_pos rfl, if_pos hkl])
   ·exact ⟨⟨t1, p2, h.elen, h.few, h.segs, h.size, h.ssegs, h.ssize, t2.trans h.len, hA.pool, hA.fresh, t3, hA.plen, hA.alen⟩, hlen, (fun e => by cases e), ⟨_, rfl⟩, fun e he => he, rfl, rfl⟩
/-! ### An epoch -/
theorem Inv.terms {S : St} {q p a n : Nat} (h : Inv S q p a) (ha : a <= 1000) (hp : p <= 1000) (hn : n < S.l.length) : Inv { S with l := S.l ++ [atm S.atoms] ++ [sel n S.l.length], atoms := S.atoms + 1 } q (p + 2) (a + 1) := by
 have hA := h.atom ha
 have hpl := h.plen
 refine ⟨hA.log, hA.key.more (by simp), hA.elen, hA.few, hA.segs, hA.size, hA.ssegs, hA.ssize, hA.len, hA.pool.snoc (okT_sel (by simp; omega) (by simp)) (sel_new hA.pool (by simp)) (fit_sel _ _), fun t ht hk => ?_, hA.dq, by simp; omega, hA.alen⟩
 rcases List.mem_append.1 ht with ht | ht
 ·exact hA.fresh t ht hk
 ·obtain rfl := List.mem_singleton.1 ht
  exact absurd hk (by show ¬ (4 : Int) = 1; decide)
theorem Inv.epochTo {S S' : St} {q p a bk res : Nat} {ok : Bool} (h : Inv S q p a) (ha : a <= 800) (hp : p <= 800) (hx : bk <= 1000) (hr : EpRel S bk res S' ok) :
  Inv S' (q + 2) (p + 3) (a + 2) /\ (∀ N k, EpAt S N k -> EpAt S' N k) /\ (ok = true -> EpAt S' S'.s.texts.length res) /\ S'.s.sure = S.s.sure /\ S.s.texts.length <= S'.s.texts.length /\ S'.eps.length <= S.eps.length + 1 := by
 have up : ∀ {p' a' : Nat} {S' : St}, Inv S' (q + 2) p' a' -> p' <= p + 3 -> a' <= a + 2 -> Inv S' (q + 2) (p + 3) (a + 2) := fun {p' a' S'} i h1 h2 => ⟨i.log, i.key, i.elen, i.few, i.segs, i.size, i.ssegs, i.ssize, i.len, i.pool, i.fresh, i.dq, by have := i.plen; omega, by have := i.alen; omega⟩
 rcases hr with ⟨rfl, rfl, n, hk⟩ | ⟨n, S1, hk, h2⟩
 ·obtain ⟨i1, i2, -, i4, i5, i6, i7⟩ := h.keyTo (by omega) (by omega) hx hk
  exact ⟨up i1 (by omega) (by omega), fun N k he => he.to ⟨[], by rw [i7]; simp⟩ i4 i5 ⟨[], by rw [i6]; simp⟩, (fun e => by cases e), by rw [i6], by rw [i6]; exact Nat.le_refl _, by rw [i7]; omega⟩
 ·obtain ⟨i1, i2, i3, ⟨r, i4⟩, i5, i6, i7⟩ := h.keyTo (by omega) (by omega) hx hk
  have hT := i1.terms (by omega) (by omega) i2
  rcases h2 with ⟨rfl, rfl, h3, rfl⟩ | ⟨rfl, rfl, h3, rfl⟩
  ·exact ⟨up hT (by omega) (by omega), fun N k he => he.to ⟨[], by show S1.eps = _; rw [i7]; simp⟩ ⟨r ++ [atm S1.atoms] ++ [sel n S1.l.length], by show S1.l ++ [atm S1.atoms] ++ [sel n S1.l.length] = _; rw [i4]; simp only [List.append_assoc]⟩ i5 ⟨[], by show S1.s.texts = _; rw [i6]; simp⟩, (fun e => by cases e), by show S1.s.sure = _; rw [i6], by show _ <= S1.s.texts.length; rw [i6]; exact Nat.le_refl _, by show S1.eps.length <= _; rw [i7]; omega⟩
  ·have hlen : (recb S1.eps.length bk (wrp (S1.l.length + 1))).length = 144 := recb_length _ _ _ (wrp_length _)
   have hfix := append_fix S1.s (recb S1.eps.length bk (wrp (S1.l.length + 1)))
   have htx : (S1.s.append (recb S1.eps.length bk (wrp (S1.l.length + 1)))).texts = S.s.texts ++ [recb S1.eps.length bk (wrp (S1.l.length + 1))] := by rw [hfix.2.2.2.2.2, i6]
   have hlg := hT.log.append hlen h3 (by have := i1.txt; show S1.s.texts.length + 1 <= _; omega)
   have hll : ∃ r', S1.l ++ [atm S1.atoms] ++ [sel n S1.l.length] = S.l ++ r' := ⟨r ++ [atm S1.atoms] ++ [sel n S1.l.length], by rw [i4]; simp only [List.append_assoc]⟩
   have hpl := i1.plen
   refine ⟨up (p' := p + 1 + 2) (a' := a + 1 + 1) ⟨hlg, hT.key, hT.elen, hT.few, hT.segs, hT.size, hfix.1.trans hT.ssegs, hfix.2.1.trans hT.ssize, hT.len, hT.pool, hT.fresh, hT.dq, hT.plen, hT.alen⟩ (by omega) (by omega), fun N k he => he.to ⟨_, by show S1.eps ++ _ = _; rw [i7]⟩ hll i5 ⟨_, htx⟩, fun _ => ?_, by show (S1.s.append _).sure = _; rw [hfix.2.2.1, i6], by show _ <= (S1.s.append _).texts.length; rw [htx]; simp, by show (S1.eps ++ _).length <= _; rw [i7]; simp⟩
   refine ⟨bk, S1.l.length, n, S1.l.length + 1, ?_, ?_, by omega, by omega, i3 rfl, ?_⟩
   ·show (S1.eps ++ [((bk : Int), (S1.l.length : Int))])[S1.eps.length]? = _
    rw [List.getElem?_append_right (Nat.le_refl _), Nat.sub_self]
    rfl
   ·show (S1.l ++ [atm S1.atoms] ++ [sel n S1.l.length])[S1.l.length + 1]? = _
    rw [List.getElem?_append_right (by simp)]
    simp
   ·show _ ∈ (S1.s.append _).texts.take (S1.s.append _).texts.length
    rw [List.take_length, htx]
    simp
/-! ### Flush -/
def FlRel (S S' : St) (ok : Bool) : Prop :=
 (ok = true /\ ((S.s.sure = S.s.texts.length /\ S' = S) \/ S' = { S with s := S.s.flushed, D := (S.D.pushed (2 * S.slots) S.s).flushed })) \/
 (ok = false /\ (S' = S \/ S' = { S with s := { S.s with dead := true } } \/ S' = { S with s := { S.s with dead := true }, D := S.D.pushed (2 * S.slots) S.s }))
theorem pushed_low {S : St} {q p a : Nat} (h : Inv S q p a) {k : Nat} (hk : k < S.E.length) {b : List UInt8} : (Can (S.D.pushed (2 * S.slots) S.s) (2 * k) b -> Can S.D (2 * k) b) /\ (Can (S.D.pushed (2 * S.slots) S.s).flushed (2 * k) b -> Can S.D (2 * k) b) := by
 obtain ⟨n1, n2, n3, n4⟩ := new_sects h.log
 have he := h.elen
 have hfit := h.log.fit
 constructor
 ·intro hb
  rcases can_push hb with hb | ⟨i, hi, e, -⟩
  ·exact hb
  ·omega
 ·intro hb
  rcases can_laid h.log.ok (by rw [n3]; exact Nat.le_refl _) (Nat.le_trans (Nat.mul_le_mul_right _ (by omega)) hfit) (Nat.le_trans (Nat.mul_le_mul_right _ (by omega)) hfit) hb with ⟨e1, -, -⟩ | ⟨-, e⟩
  ·omega
  ·exact e
theorem Inv.flushTo {S S' : St} {q p a : Nat} {ok : Bool} (h : Inv S q p a) (hr : FlRel S S' ok) :
  Inv S' (q + 30) p a /\ (∀ N k, EpAt S N k -> EpAt S' N k) /\ S.s.sure <= S'.s.sure /\ S'.s.texts = S.s.texts /\ (ok = true -> S'.s.sure = S'.s.texts.length) /\ S'.eps = S.eps /\ S'.E = S.E /\ S'.dead = S.dead /\ S'.slots = S.slots := by
 obtain ⟨p1, p2, p3⟩ := h.log.push_ok
 have har := h.area
 rw [h.ssegs, h.ssize] at p3
 have hq := h.dq
 have keep : ∀ {S' : St} {N k : Nat}, S'.eps = S.eps -> S'.l = S.l -> S'.E = S.E -> S'.s.texts = S.s.texts -> EpAt S N k -> EpAt S' N k := fun {S' N k} h1 h2 h3 h4 he => he.to ⟨[], by rw [h1]; simp⟩ ⟨[], by rw [h2]; simp⟩ (fun e he => by rw [h3]; exact he) ⟨[], by rw [h4]; simp⟩
 rcases hr with ⟨rfl, ⟨h1, rfl⟩ | rfl⟩ | ⟨rfl, rfl | rfl | rfl⟩
 ·exact ⟨⟨h.log, h.key, h.elen, h.few, h.segs, h.size, h.ssegs, h.ssize, h.len, h.pool, h.fresh, by omega, h.plen, h.alen⟩, fun _ _ he => he, Nat.le_refl _, rfl, fun _ => h1, rfl, rfl, rfl, rfl⟩
 ·refine ⟨⟨h.log.flush, h.key.disk p1.flushed (p1.image.trans p2) (fun k b hk hb => (pushed_low h hk).2 hb), h.elen, h.few, h.segs, h.size, h.ssegs, h.ssize, (p1.image.trans p2).trans h.len, h.pool, h.fresh, Nat.zero_le _, h.plen, h.alen⟩, fun _ _ he => keep rfl rfl rfl rfl he, h.log.sle, rfl, fun _ => rfl, rfl, rfl, rfl, rfl⟩
 ·exact ⟨⟨h.log, h.key, h.elen, h.few, h.segs, h.size, h.ssegs, h.ssize, h.len, h.pool, h.fresh, by omega, h.plen, h.alen⟩, fun _ _ he => he, Nat.le_refl _, rfl, (fun e => by cases e), rfl, rfl, rfl, rfl⟩
 ·exact ⟨⟨h.log.dead, h.key, h.elen, h.few, h.segs, h.size, h.ssegs, h.ssize, h.len, h.pool, h.fresh, by show S.D.queue.length <= _; omega, h.plen, h.alen⟩, fun _ _ he => keep rfl rfl rfl rfl he, Nat.le_refl _, rfl, (fun e => by cases e), rfl, rfl, rfl, rfl⟩
 ·exact ⟨⟨h.log.half, h.key.disk p1 p2 (fun k b hk hb => (pushed_low h hk).1 hb), h.elen, h.few, h.segs, h.size, h.ssegs, h.ssize, p2.trans h.len, h.pool, h.fresh, by show (S.D.pushed _ _).queue.length <= _; omega, h.plen, h.alen⟩, fun _ _ he => keep rfl rfl rfl rfl he, Nat.le_refl _, rfl, (fun e => by cases e), rfl, rfl, rfl, rfl⟩
/-! ### Shred -/
def KShRel (S S' : St) (bk : Nat) : Prop := S' = S \/ (S.dead = false /\ ∃ k e0, S.E[k]? = some (some e0) /\ e0.buck = (bk : Int) /\ S' = { S with E := S.E.set k none, dead := !(S.D.twoOk (0 + 2 * k) zer), D := S.D.two (0 + 2 * k) zer })
def ShRel (S S' : St) (bk : Nat) : Prop := ∃ S1 ok, FlRel S S1 ok /\ (S' = S1 \/ KShRel S1 S' bk)
theorem Inv.shredTo {S S' : St} {q p a bk : Nat} (h : Inv S q p a) (hr : ShRel S S' bk) :
  Inv S' (q + 32) p a /\ (∀ N k x, EpAt S N k -> S.eps[k]? = some x -> x.1 ≠ (bk : Int) -> EpAt S' N k) /\ S.s.sure <= S'.s.sure /\ S'.s.texts = S.s.texts /\ S'.eps = S.eps := by
 obtain ⟨S1, ok, h1, h2⟩ := hr
 obtain ⟨i1, i2, i3, i4, -, i6, -, -, -⟩ := h.flushTo h1
 have same : Inv S1 (q + 32) p a := ⟨i1.log, i1.key, i1.elen, i1.few, i1.segs, i1.size, i1.ssegs, i1.ssize, i1.len, i1.pool, i1.fresh, by have := i1.dq; omega, i1.plen, i1.alen⟩
 rcases h2 with rfl | rfl | ⟨hd, k, e0, hk, hb, rfl⟩
 ·exact ⟨same, fun N k x he _ _ => i2 N k he, i3, i4, i6⟩
 ·exact ⟨same, fun N k x he _ _ => i2 N k he, i3, i4, i6⟩
 ·have hkl := (List.getElem?_eq_some_iff.1 hk).1
  obtain ⟨t1, t2, t3⟩ := i1.two hkl zer_len
  have hkey := i1.key
  rw [hd] at hkey
  refine ⟨⟨t1, hkey.shred hk, by show (S1.E.set k none).length = _; rw [List.length_set]; exact i1.elen, i1.few, i1.segs, i1.size, i1.ssegs, i1.ssize, t2.trans i1.len, i1.pool, i1.fresh, t3, i1.plen, i1.alen⟩, fun N j x he hx hne => ?_, i3, i4, i6⟩
  obtain ⟨bk', sec, n, m, h1, h2, h3, h4, ⟨e, h5, h6, h7⟩, h8⟩ := i2 N j he
  rw [i6, hx] at h1
  injection h1 with h1
  refine ⟨bk', sec, n, m, by show S1.eps[j]? = _; rw [i6, hx, h1], h2, h3, h4, ⟨e, ?_, h6, h7⟩, h8⟩
  obtain ⟨i, hi⟩ := List.mem_iff_getElem?.1 h5
  refine List.mem_of_getElem? (i := i) ?_
  show (S1.E.set k none)[i]? = _
  rw [List.getElem?_set, if_neg (fun e' => ?_)]
  ·exact hi
  ·subst e'
   rw [hk] at hi
   injection hi with hi
   injection hi with hi
   subst hi
   exact hne (by rw [h1]; exact h6.symm.trans hb)
theorem Inv.limit {S : St} {q p a : Nat} (h : Inv S q p a) (c : Int) (h1 : -9223372036854775808 <= c) (h2 : c <= 9223372036854775807) : Inv { S with D := { S.D with calls := c } } q p a := by
 have hok : ({ S.D with calls := c } : Dk).Ok := ⟨h.log.ok.whole, h.log.ok.pos, h.log.ok.most, h.log.ok.fits, h1, h2⟩
 exact ⟨h.log.disk hok rfl (fun _ _ _ hb => hb), h.key.disk hok rfl (fun _ _ _ hb => hb), h.elen, h.few, h.segs, h.size, h.ssegs, h.ssize, h.len, h.pool, h.fresh, h.dq, h.plen, h.alen⟩
/-! ### A flushed epoch leaks -/
theorem at32_of {l : List UInt8} {i m : Nat} (h : (l.drop i).take 32 = nm m) (hm : m < 4096) : at32 l i m := by
 have hl := congrArg List.length h
 rw [nm_length, List.length_take, List.length_drop] at hl
 refine ⟨?_, by omega, ?_⟩
 ·have := congrArg (List.take 24) h
  rw [List.take_take, show min 24 32 = 24 from rfl, nm, List.take_left' mk24_length] at this
  exact this
 ·have := congrArg (List.drop 24) h
  rw [List.drop_take, List.drop_drop, nm, List.drop_left' mk24_length] at this
  rw [this, vl_be]
  exact Nat.mod_eq_of_lt (by omega)
theorem recb_name (k bk m : Nat) : ((recb k bk (wrp m)).drop 96).take 32 = nm m := by
 have e : recb k bk (wrp m) = (be 1 1 ++ ((be 1 1 ++ [115]) ++ (be k 8 ++ (be 0 8 ++ (be bk 8 ++ (be 0 2 ++ ((be 32 1 ++ List.replicate 32 0) ++ ((be 32 1 ++ List.replicate 32 0) ++ be 48 1)))))))) ++ (nm m ++ List.replicate 16 0) := by
  unfold recb wrp
  simp only [List.append_assoc]
 rw [e, List.drop_left' (by simp [length_be]), List.take_left' (nm_length m)]
theorem keyo_name (x n : Nat) : ((keyo x (nm n)).drop 12).take 32 = nm n := by
 rw [keyo_cut, <- List.append_assoc, cut (i := 12) (by simp [length_be]) (nm_length n)]
theorem Inv.leaks {S : St} {q p a k : Nat} (h : Inv S q p a) (hp : p <= 900) (he : EpAt S S.s.sure k) : ∃ bk sec : Nat, S.eps[k]? = some ((bk : Int), (sec : Int)) /\ (∃ e : Ke, some e ∈ S.E /\ e.buck = (bk : Int)) /\ ∀ ss, SsIs S.D ss -> LeakB S (sec : Int) ss = true := by
 obtain ⟨bk, sec, n, m, h1, h2, h3, h4, ⟨e, h5, h6, h7⟩, h8⟩ := he
 refine ⟨bk, sec, h1, ⟨e, h5, h6⟩, fun ss hss => ?_⟩
 have hlen := h.len
 have hm : SeenOf S.D m := by
  obtain ⟨r, r1, r2, r3, r4, r5, r6⟩ := h.log.sure
  rw [<- r6] at h8
  obtain ⟨o, o1, o2⟩ := r1.at_ h8
  rw [recb_length _ _ _ (wrp_length m)] at o1 o2
  rw [r4] at o2
  rw [r5] at o1
  have hX : ((S.D.safe.drop (2 * S.slots * 128)).take (S.segs * S.size * 128)).length = S.segs * S.size * 128 := by
   rw [List.length_take, List.length_drop, hlen, Nat.add_mul]
   omega
  have hB := h.log.all_eq
  rw [h.ssegs, h.ssize] at hB
  have hag := agr_take (c := S.s.clean) hX hB (fun i hi => by
   have hc := (h.log.can i (sect S.D.safe (2 * S.slots + i)) (by rw [h.ssegs, h.ssize]; exact hi) (.inl rfl)).1
   intro u hu hlt
   have := hc u hu hlt
   rw [sectg, if_pos hu] at this
   rw [sectg, if_pos hu, List.getElem?_take, if_pos (by omega), List.getElem?_drop]
   rw [<- this]
   congr 1
   omega)
  refine seen_safe ⟨m, rfl, h3, 2 * S.slots * 128 + o + 96, at32_of ?_ h3⟩
  have hce : S.s.clean <= S.segs * S.size * 128 := by
   have q1 := h.log.cle
   have q2 := h.log.sok.end_le
   rw [<- h.log.sok.oct, hB] at q2
   omega
  have e1 : (S.D.safe.drop (2 * S.slots * 128 + o)).take 144 = recb k bk (wrp m) := by
   rw [<- o2]
   have q1 : (((S.D.safe.drop (2 * S.slots * 128)).take (S.segs * S.size * 128)).take S.s.clean).drop o = (S.s.B.take S.s.clean).drop o := by rw [hag]
   rw [List.take_take, Nat.min_eq_left hce, List.drop_take, List.drop_take, List.drop_drop] at q1
   have q2 := congrArg (List.take 144) q1
   rw [List.take_take, List.take_take, Nat.min_eq_left (by omega)] at q2
   exact q2
  have e2 := congrArg (fun l => (l.drop 96).take 32) e1
  simp only [recb_name, List.drop_take, List.take_take, List.drop_drop] at e2
  exact e2
 have hn : SeenOf S.D n := by
  obtain ⟨i, hi⟩ := List.mem_iff_getElem?.1 h5
  obtain ⟨dy, d1, d2, d3⟩ := h.key.can
  have hs : sect S.D.safe (2 * i) = keyo bk (nm n) := by
   rcases d3 i (some e) _ hi (.inl rfl) with hh | ⟨x, y, hdy, -⟩
   ·rw [hh]
    show keyo e.buck.toNat e.key = _
    rw [h6, h7, Int.toNat_natCast]
   ·have := (d2 i x y hdy).1
    rw [hi] at this
    cases this
  refine seen_safe ⟨n, rfl, h4, 2 * i * 128 + 12, at32_of ?_ h4⟩
  have e2 := congrArg (fun l => (l.drop 12).take 32) hs
  unfold sect at e2
  simp only [keyo_name, List.drop_take, List.take_take, List.drop_drop] at e2
  exact e2
 unfold LeakB
 rw [leakB_iff h.pool]
 have hml := (List.getElem?_eq_some_iff.1 h2).1
 have hpair := h.pool.right m _ h2
 have hok := okT_y hpair (show (4 : Int) ≠ 1 by decide) (show (4 : Int) ≠ 3 by decide)
 have hnl : n < S.l.length := by
  obtain ⟨x, y, -, -, g1, g2⟩ := h.key.keys e h5
  have hpl := h.plen
  have : n = y := nm_inj (by omega) (by omega) (h7.symm.trans g1)
  omega
 exact .open_ m (sel n sec) h2 rfl (.given m ((hss m).2 hm) hml) (.given n ((hss n).2 hn) hnl)
end
section
set_option maxRecDepth 4000
theorem opened_disk {D : Dk} {f segs size : Nat} (hD : D.Ok) (hc : D.calls = -1) (hq : D.queue = []) (h1 : 1 <= segs /\ segs <= 256) (h2 : 2 <= size /\ size <= 512) (hfit : (f + segs * size) * 128 <= D.safe.length) :
  (D.opened f segs size).Ok /\ (D.opened f segs size).calls = -1 /\ (D.opened f segs size).queue = [] /\ (D.opened f segs size).safe.length = D.safe.length /\ (D.opened f segs size).piece f (segs * size) = (Lg.opened segs size (D.piece f (segs * size))).B /\ ∀ j, j < f -> sect (D.opened f segs size).safe j = sect D.safe j := by
 obtain ⟨P, hP⟩ : ∃ P, P = segs * size := ⟨_, rfl⟩
 obtain ⟨X, hX⟩ : ∃ X, X = D.piece f (segs * size) := ⟨_, rfl⟩
 have hXl : X.length = P * 128 := by
  rw [hX, Dk.piece, List.length_take, List.length_drop, hD.image, <- hP]
  rw [<- hP, Nat.add_mul] at hfit
  omega
 have hok := Lg.init_ok h1 h2 (X := X) (by rw [hXl, hP])
 have hcut := scan_cut segs 0 (Lg.init segs size X) hok.chain hok.oct (by show 0 + segs <= segs; omega) hok.n_le.1 (by show 0 * _ + 0 <= _; omega)
 have hfx := Lg.scan_fix segs (Lg.init segs size X) 0
 obtain ⟨t, ht⟩ : ∃ t, t = Lg.told segs size X := ⟨_, rfl⟩
 rw [show (Lg.init segs size X).scan 0 segs = t from ht.symm] at hcut hfx
 have hall : t.all = P * 128 := by unfold Lg.all Lg.n; rw [hfx.1, hfx.2.1, hP]; exact seg_all segs size
 have hE : t.end_ <= P * 128 := by
  have := hcut.2.2
  rwa [show (Lg.init segs size X).all = P * 128 from (seg_all segs size).trans (by rw [hP])] at this
 have hB : t.cut.B = X.take t.end_ ++ zr (P * 128 - t.end_) := by
  show t.B.take t.end_ ++ zr (t.all - t.end_) = _
  rw [hfx.2.2.1, hall]
  rfl
 have hBl : t.cut.B.length = P * 128 := by rw [hB, List.length_append, List.length_take, zr_length, hXl]; omega
 have hop : (Lg.opened segs size X).B = t.cut.B := by unfold Lg.opened; rw [<- ht]; rfl
 rw [<- hP] at hfit
 unfold Dk.opened
 rw [<- hX, <- ht, <- hP, hop]
 unfold Dk.cut
 split
 ·rename_i hlt
  have hdl : (t.cut.B.drop (t.end_ / 128 * 128)).length = (P - t.end_ / 128) * 128 := by rw [List.length_drop, hBl, Nat.sub_mul]
  have hfit2 : (f + t.end_ / 128 + (P - t.end_ / 128)) * 128 <= D.safe.length := Nat.le_trans (Nat.mul_le_mul_right _ (by omega)) hfit
  have hpk : (D.push (f + t.end_ / 128) (t.cut.B.drop (t.end_ / 128 * 128)) (P - t.end_ / 128)).Ok := hD.push _ _ _ (by rw [hdl]; exact Nat.le_refl _) hfit2
  refine ⟨hpk.flushed, by show nextCalls (nextCalls D.calls) = -1; rw [hc]; rfl, rfl, hpk.image, ?_, fun j hj => ?_⟩
  ·rw [piece_push hD hq f (t.end_ / 128) (P - t.end_ / 128) P _ hdl (by omega) hfit, hP, <- hX]
   have e1 : X.take (t.end_ / 128 * 128) = t.cut.B.take (t.end_ / 128 * 128) := by
    rw [hB, List.take_append_of_le_length (by rw [List.length_take, hXl]; omega), List.take_take, Nat.min_eq_left (by omega)]
   have e2 : X.drop ((t.end_ / 128 + (segs * size - t.end_ / 128)) * 128) = [] := List.drop_eq_nil_of_le (by rw [hXl, <- hP]; omega)
   rw [e1, e2, List.append_nil, List.take_append_drop]
  ·rcases can_laid hD (by rw [hdl]; exact Nat.le_refl _) hfit2 (Nat.le_trans (Nat.mul_le_mul_right _ (by omega)) hfit) (.inl rfl : Can (D.push (f + t.end_ / 128) (t.cut.B.drop (t.end_ / 128 * 128)) (P - t.end_ / 128)).flushed j _) with ⟨e1, -, -⟩ | ⟨-, e⟩
   ·omega
   ·exact can_idle hq e
 ·rename_i hge
  have hEP : t.end_ = P * 128 := by omega
  refine ⟨hD.flushed, by show nextCalls D.calls = -1; rw [hc]; rfl, rfl, hD.image, ?_, fun j hj => ?_⟩
  ·rw [hB, hEP, Nat.sub_self, List.take_of_length_le (by rw [hXl]; exact Nat.le_refl _)]
   show (D.image.drop (f * 128)).take (P * 128) = X ++ zr 0
   rw [show zr 0 = [] from rfl, List.append_nil, hX, hP]
   rfl
  ·show sect D.image j = _
   rw [image_idle hq]
theorem sect_piece {D : Dk} (hq : D.queue = []) {f P i : Nat} (hi : i < P) : sect (D.piece f P) i = sect D.safe (f + i) := by
 refine List.ext_getElem? fun r => ?_
 rw [sectg, sectg]
 split
 ·unfold Dk.piece
  rw [image_idle hq, List.getElem?_take, if_pos (by omega), List.getElem?_drop]
  congr 1
  omega
 ·rfl
theorem opened_inv {D : Dk} {f segs size : Nat} (hD : D.Ok) (hc : D.calls = -1) (hq : D.queue = []) (h1 : 1 <= segs /\ segs <= 16) (h2 : 3 <= size /\ size <= 16) (hfit : (f + segs * size) * 128 <= D.safe.length)
  (hg : ∀ i, i < segs * size -> SGr segs (size * 128) i (sect D.safe (f + i))) : LogInv (Lg.opened segs size (D.piece f (segs * size))) (D.opened f segs size) f := by
 obtain ⟨d1, d2, d3, d4, d5, -⟩ := opened_disk hD hc hq (f := f) (segs := segs) (size := size) (by omega) (by omega) hfit
 obtain ⟨X, hX⟩ : ∃ X, X = D.piece f (segs * size) := ⟨_, rfl⟩
 have hXl : X.length = segs * size * 128 := by
  rw [hX, Dk.piece, List.length_take, List.length_drop, hD.image]
  rw [Nat.add_mul] at hfit
  omega
 have hXn : X.length = segs * (size * 128) := by rw [hXl, Nat.mul_assoc]
 have hgA : GridA segs (size * 128) X := grid_of_sects fun i hi => by rw [hX, sect_piece hq hi]; exact hg i hi
 rw [<- hX] at d5 ⊢
 obtain ⟨f1, f2, f3, f4, f5, f6, f7⟩ := opened_fix segs size X
 have hpl := opened_PL hXn h1.1 (by omega)
 have hok : (Lg.opened segs size X).Ok := (told_ok (X := X) h1 (by omega) hXl).cut.flushed
 have hgl := opened_grid ((grid_iff hXn).2 hgA) hXn (by omega)
 have hgd := opened_gridA hXn h1.1 (by omega) hgA
 generalize Lg.opened segs size X = s at *
 have hn : s.n = size * 128 := by unfold Lg.n; rw [f2]
 refine ⟨hpl, hgl, by rw [f1, hn]; exact hgd, hok, by rw [f2]; exact h2.1, by rw [f5]; exact Nat.le_refl _, fun _ hne => absurd f4 hne, by rw [f4]; exact Nat.le_refl _, ⟨s, hpl, rfl, rfl, rfl, f5.symm, by rw [f4, List.take_length]⟩, fun i b hi hb => ?_, d1, by rw [f1, f2, d4]; exact hfit⟩
 rw [f1, f2] at hi
 have e : b = sect s.B i := by
  rw [can_idle d3 hb, <- sect_piece d3 hi, d5]
 rw [e, f1, hn]
 exact ⟨agr_self _ _ _, sects_of_grid hgd⟩
theorem LogInv.again {s : Lg} {D : Dk} {f : Nat} (h : LogInv s D f) {X : List UInt8} (hX : X.length = s.segs * s.size * 128) (hx : ∀ i, i < s.segs * s.size -> Can D (f + i) (sect X i)) : ∃ more, (Lg.opened s.segs s.size X).texts = s.texts.take s.sure ++ more := by
 have ht := agr_take (c := s.clean) hX h.all_eq (fun i hi => (h.can i _ hi (hx i hi)).1)
 obtain ⟨q, q1, q2, q3, q4, q5, q6⟩ := h.sure
 rw [<- q6]
 rcases q1 with ⟨_, _, q7, _⟩ | ⟨done, cur, q7⟩
 ·rw [q7]
  exact ⟨_, rfl⟩
 ·have hr := (q7.reach (X := X) (by unfold Lg.all Lg.n; rw [q2, q3, hX, Nat.mul_assoc]) (by rw [q4, q5]; exact ht)).1
  rw [q2, q3] at hr
  exact hr
structure KOpened (S : St) (keep : List Int) (E : List (Option Ke)) (D : Dk) : Prop where
 key : KInv E false D S.l.length
 elen : E.length = S.E.length
 kept : ∀ e : Ke, some e ∈ S.E -> ∃ e' : Ke, some e' ∈ E /\ e'.buck = e.buck /\ e'.key = e.key
 ok : D.Ok
 on : D.calls = -1
 idle : D.queue = []
 len : D.safe.length = S.D.safe.length
 same : ∀ i, i < S.segs * S.size -> sect D.safe (2 * S.slots + i) = sect (S.D.crashed keep).safe (2 * S.slots + i)
def St.again (S : St) (E : List (Option Ke)) (D : Dk) : St := { S with E := E, dead := false, D := D.opened (2 * S.slots) S.segs S.size, s := Lg.opened S.segs S.size (D.piece (2 * S.slots) (S.segs * S.size)) }
theorem Inv.crashTo {S : St} {q p a : Nat} (h : Inv S q p a) {keep : List Int} {E : List (Option Ke)} {D : Dk} (hk : KOpened S keep E D) :
  Inv (S.again E D) 0 p a /\ (S.again E D).s.sure = (S.again E D).s.texts.length /\ ∀ k, EpAt S S.s.sure k -> EpAt (S.again E D) (S.again E D).s.sure k := by
 have hseg := h.segs
 have hsiz := h.size
 have hfit : (2 * S.slots + S.segs * S.size) * 128 <= D.safe.length := by rw [hk.len, h.len]; exact Nat.le_refl _
 have hcan : ∀ i, i < S.s.segs * S.s.size -> Can S.D (2 * S.slots + i) (sect D.safe (2 * S.slots + i)) := fun i hi => by
  rw [h.ssegs, h.ssize] at hi
  rw [hk.same i hi]
  refine can_crash h.log.ok ?_ (.inl rfl)
  rw [h.len]
  exact Nat.mul_le_mul_right _ (by omega)
 have hn : S.s.n = S.size * 128 := by unfold Lg.n; rw [h.ssize]
 have hlog := opened_inv (f := 2 * S.slots) (segs := S.segs) (size := S.size) hk.ok hk.on hk.idle (by omega) (by omega) hfit (fun i hi => by
  have := (h.log.can i _ (by rw [h.ssegs, h.ssize]; exact hi) (hcan i (by rw [h.ssegs, h.ssize]; exact hi))).2
  rw [h.ssegs, hn] at this
  exact this)
 obtain ⟨d1, d2, d3, d4, d5, d6⟩ := opened_disk hk.ok hk.on hk.idle (f := 2 * S.slots) (segs := S.segs) (size := S.size) (by omega) (by omega) hfit
 have hfx := opened_fix S.segs S.size (D.piece (2 * S.slots) (S.segs * S.size))
 have he := h.elen
 refine ⟨⟨hlog, hk.key.disk d1 d4 (fun k b hkl hb => .inl ?_), hk.elen.trans he, h.few, h.segs, h.size, hfx.1, hfx.2.1, d4.trans (hk.len.trans h.len), h.pool, h.fresh, by show (D.opened _ _ _).queue.length <= 0; rw [d3]; exact Nat.le_refl _, h.plen, h.alen⟩, hfx.2.2.2.1, fun k hep => ?_⟩
 ·rw [can_idle d3 hb]
  exact d6 (2 * k) (by rw [hk.elen] at hkl; omega)
 ·obtain ⟨bk, sec, n, m, h1, h2, h3, h4, ⟨e, h5, h6, h7⟩, h8⟩ := hep
  obtain ⟨e', k1, k2, k3⟩ := hk.kept e h5
  have hpl : (D.piece (2 * S.slots) (S.segs * S.size)).length = S.s.segs * S.s.size * 128 := by
   rw [h.ssegs, h.ssize, Dk.piece, List.length_take, List.length_drop, hk.ok.image]
   rw [Nat.add_mul] at hfit
   omega
  obtain ⟨more, hm⟩ := h.log.again hpl (fun i hi => by
   have := hcan i hi
   rw [h.ssegs, h.ssize] at hi
   rw [sect_piece hk.idle hi]
   exact this)
  rw [h.ssegs, h.ssize] at hm
  refine ⟨bk, sec, n, m, h1, h2, h3, h4, ⟨e', k1, k2.trans h6, k3.trans h7⟩, ?_⟩
  show _ ∈ (Lg.opened S.segs S.size _).texts.take (Lg.opened S.segs S.size _).sure
  rw [hfx.2.2.2.1, List.take_length, hm]
  exact List.mem_append_left _ h8
theorem inv_fresh {sl sg sz : Nat} (h1 : 1 <= sl /\ sl <= 4) (h2 : 1 <= sg /\ sg <= 3) (h3 : 3 <= sz /\ sz <= 10) : Inv (St.fresh sl sg sz) 0 0 0 := by
 have hP : sg * sz <= 30 := Nat.mul_le_mul h2.2 h3.2
 have hP1 : 1 * 3 <= sg * sz := Nat.mul_le_mul h2.1 h3.1
 obtain ⟨N, hN⟩ : ∃ N, N = 2 * sl + sg * sz := ⟨_, rfl⟩
 have hok : (Dk.new N).Ok := dknew_ok (by omega) (by omega)
 have hlen : (Dk.new N).safe.length = (2 * sl + sg * sz) * 128 := by rw [zsafe, zr_length, hN]
 have hz : ∀ j, (j + 1) * 128 <= N * 128 -> sect (Dk.new N).safe j = zr 128 := fun j hj => by
  rw [zsafe]
  unfold sect
  rw [zr_drop, zr_take]
  congr 1
  omega
 have hlog := opened_inv (D := Dk.new N) (f := 2 * sl) (segs := sg) (size := sz) hok rfl rfl (by omega) (by omega) (by rw [hlen]; exact Nat.le_refl _) (fun i hi => by
  rw [hz _ (by rw [hN]; exact Nat.mul_le_mul_right _ (by omega))]
  intro k q r _ _ _ _
  exact .inl (four_zeros _ _))
 rw [dknew_piece N (2 * sl) (sg * sz) (by omega), dknew_opened N (2 * sl) sg sz h2.1 (by omega) (by omega), hN] at hlog
 have hfx := opened_fix sg sz (zr (sg * sz * 128))
 have hno : ∀ e : Ke, some e ∉ List.replicate sl (none : Option Ke) := fun e he => by have := List.eq_of_mem_replicate he; cases this
 rw [hN] at hlen hok hz
 refine ⟨hlog, ⟨fun i j e e' hi => absurd (List.mem_of_getElem? hi) (hno e), fun e he => absurd he (hno e), ⟨none, fun _ => rfl, (fun k x n e => by cases e), fun k o b ho hb => .inl ?_⟩, ?_, hok⟩, List.length_replicate, h1, h2, h3, hfx.1, hfx.2.1, hlen, Pool.nil, (fun t ht => by cases ht), Nat.zero_le _, Nat.zero_le _, Nat.zero_le _⟩
 ·have hk := (List.getElem?_eq_some_iff.1 ho).1
  have hk : k < (List.replicate sl (none : Option Ke)).length := hk
  rw [List.length_replicate] at hk
  have ho2 : o = none := List.eq_of_mem_replicate (List.mem_of_getElem? ho)
  rw [can_idle rfl hb, ho2]
  show sect (Dk.new (2 * sl + sg * sz)).safe (2 * k) = zer
  rw [hz _ (Nat.mul_le_mul_right _ (by omega))]
  rfl
 ·show (2 * (List.replicate sl (none : Option Ke)).length) * 128 <= (Dk.new (2 * sl + sg * sz)).safe.length
  rw [List.length_replicate, hlen]
  exact Nat.mul_le_mul_right _ (by omega)
end
end Go.Proofs.YtkgaeoeibjoljaaGreatDoor
