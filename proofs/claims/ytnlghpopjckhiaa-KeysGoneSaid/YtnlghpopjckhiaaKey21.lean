/-
  The state of KeysGone.
-/
import Derived.Test.YtnlghpopjckhiaaKey18
import Derived.Test.YtnlghpopjckhiaaWithin
import Derived.Test.YtnlghpopjckhiaaAll
namespace Go.Proofs.Ytnlghpopjckhiaa
set_option maxRecDepth 4000
open Go.RowKit

/-- The slots of KeysGone: small buckets whose octets have no k; perhaps k, as bucket 100. -/
structure GoodG (k : List UInt8) (Q : List Kd) (laid : Bool) : Prop where
  len : Q.length = 8
  key : ∀ (m : Nat) (p : Nat × List UInt8), Q[m]? = some (some p) → (p.1 < 7 ∧ KOk p ∧ ¬ Stands k (keyo p.1 p.2)) ∨ p = (100, k)
  once : ∀ (i j : Nat) (p q : Nat × List UInt8), Q[i]? = some (some p) → Q[j]? = some (some q) → p.1 = q.1 → i = j
  iff : laid = true ↔ ∃ (m : Nat), Q[m]? = some (some (100, k))
theorem GoodG.ok {k : List UInt8} {Q : List Kd} {laid : Bool} (h : GoodG k Q laid) (hk : k.length = 32) : ∀ q ∈ Q, KdOk q := fun q hq p hp => by
  subst hp
  obtain ⟨m, hm⟩ := List.mem_iff_getElem?.1 hq
  rcases h.key m p hm with h1 | rfl
  · exact h1.2.1
  · exact ⟨by show (100 : Nat) ≤ _; omega, hk⟩
def slotNo (b : Nat) : Nat := if b = 100 then 7 else b
theorem GoodG.room {k : List UInt8} {Q : List Kd} {laid : Bool} (h : GoodG k Q laid) (b : Nat) (hb : b < 7 ∨ b = 100) (hno : ∀ (m : Nat) (p : Nat × List UInt8), Q[m]? = some (some p) → p.1 ≠ b) : none ∈ Q := by
  apply Classical.byContradiction
  intro hn
  have hsome : ∀ k, k < 8 → ∃ p : Nat × List UInt8, Q[k]? = some (some p) := fun k hk => by
    have hl : k < Q.length := by rw [h.len]; exact hk
    have he : Q[k]? = some Q[k] := List.getElem?_eq_getElem hl
    cases hq : Q[k] with
    | none => exact absurd (hq ▸ List.getElem_mem hl) hn
    | some p => exact ⟨p, by rw [he, hq]⟩
  obtain ⟨f, hf⟩ : ∃ f : Nat → Nat × List UInt8, ∀ k, k < 8 → Q[k]? = some (some (f k)) := ⟨fun k => if hk : k < 8 then (hsome k hk).choose else (0, []), fun k hk => by
    simp only [dif_pos hk]
    exact (hsome k hk).choose_spec⟩
  have hbk : ∀ j, j < 8 → (f j).1 < 7 ∨ (f j).1 = 100 := fun j hj => by
    rcases h.key j _ (hf j hj) with h1 | h1
    · exact .inl h1.1
    · exact .inr (by rw [h1])
  have hinj : ∀ a c, (a < 7 ∨ a = 100) → (c < 7 ∨ c = 100) → slotNo a = slotNo c → a = c := fun a c ha hc e => by
    unfold slotNo at e
    split at e <;> split at e <;> omega
  have hnd : (slotNo b :: (List.range 8).map fun j => slotNo (f j).1).Nodup := by
    refine List.nodup_cons.2 ⟨fun hm => ?_, ?_⟩
    · obtain ⟨j, hj1, hj2⟩ := List.mem_map.1 hm
      exact hno j _ (hf j (List.mem_range.1 hj1)) (hinj _ _ (hbk j (List.mem_range.1 hj1)) hb hj2)
    · refine List.Pairwise.map _ (R := fun i j => i < 8 ∧ j < 8 ∧ i ≠ j) (fun i j hij he => hij.2.2 (h.once i j _ _ (hf i hij.1) (hf j hij.2.1) (hinj _ _ (hbk i hij.1) (hbk j hij.2.1) he))) ?_
      refine List.Pairwise.imp_of_mem (R := fun i j => i < j) (fun hi hj hij => ⟨List.mem_range.1 hi, List.mem_range.1 hj, by omega⟩) List.pairwise_lt_range
  have hlt : ∀ a, (a < 7 ∨ a = 100) → slotNo a < 8 := fun a ha => by unfold slotNo; split <;> omega
  have := pig 8 _ hnd (fun x hx => by
    rcases List.mem_cons.1 hx with rfl | hx
    · exact hlt b hb
    · obtain ⟨j, hj1, rfl⟩ := List.mem_map.1 hx
      exact hlt _ (hbk j (List.mem_range.1 hj1)))
  simp at this

theorem GoodG.put {k : List UInt8} {Q : List Kd} {laid : Bool} (h : GoodG k Q laid) (b m : Nat) (l : List UInt8) (hm : Q[m]? = some none) (hno : ∀ (m : Nat) (p : Nat × List UInt8), Q[m]? = some (some p) → p.1 ≠ b)
    (hb : (b < 7 ∧ l.length = 32 ∧ ¬ Stands k (keyo b l)) ∨ (b = 100 ∧ l = k)) : GoodG k (Q.set m (some (b, l))) (laid || decide (b = 100)) := by
  have hkl := (List.getElem?_eq_some_iff.1 hm).1
  refine ⟨by rw [List.length_set, h.len], ?_, ?_, ?_⟩
  · intro i p hi
    rcases set_get hi with ⟨-, e⟩ | ⟨-, hi⟩
    · injection e with e
      subst e
      rcases hb with ⟨h1, h2, h3⟩ | ⟨h1, h2⟩
      · exact .inl ⟨h1, ⟨by show b ≤ _; omega, h2⟩, h3⟩
      · exact .inr (by rw [h1, h2])
    · exact h.key i p hi
  · intro i j p q hi hj e
    rcases set_get hi with ⟨rfl, e1⟩ | ⟨hi1, hi2⟩
    · rcases set_get hj with ⟨rfl, -⟩ | ⟨hj1, hj2⟩
      · rfl
      · injection e1 with e1
        subst e1
        exact absurd e.symm (hno j q hj2)
    · rcases set_get hj with ⟨rfl, e2⟩ | ⟨hj1, hj2⟩
      · injection e2 with e2
        subst e2
        exact absurd e (hno i p hi2)
      · exact h.once i j p q hi2 hj2 e
  · rw [Bool.or_eq_true, h.iff, decide_eq_true_eq]
    constructor
    · rintro (⟨i, hi⟩ | rfl)
      · refine ⟨i, get_set (fun e' => ?_) hi⟩
        subst e'
        rw [hm] at hi
        cases hi
      · rcases hb with ⟨h1, -⟩ | ⟨-, rfl⟩
        · omega
        · exact ⟨m, get_set_same hkl⟩
    · rintro ⟨i, hi⟩
      rcases set_get hi with ⟨-, e1⟩ | ⟨-, hi⟩
      · injection e1 with e1
        injection e1 with e1 e2
        exact .inr e1.symm
      · exact .inl ⟨i, hi⟩
theorem GoodG.shred {k : List UInt8} {Q : List Kd} {laid : Bool} (h : GoodG k Q laid) (b m : Nat) (p : Nat × List UInt8) (hm : Q[m]? = some (some p)) (hp : p.1 = b) : GoodG k (Q.set m none) (laid && decide (b ≠ 100)) := by
  have hkl := (List.getElem?_eq_some_iff.1 hm).1
  refine ⟨by rw [List.length_set, h.len], ?_, ?_, ?_⟩
  · intro i q hi
    rcases set_get hi with ⟨-, e⟩ | ⟨-, hi⟩
    · cases e
    · exact h.key i q hi
  · intro i j q r hi hj e
    rcases set_get hi with ⟨rfl, e1⟩ | ⟨hi1, hi2⟩
    · cases e1
    · rcases set_get hj with ⟨rfl, e2⟩ | ⟨hj1, hj2⟩
      · cases e2
      · exact h.once i j q r hi2 hj2 e
  · rw [Bool.and_eq_true, h.iff, decide_eq_true_eq]
    constructor
    · rintro ⟨⟨i, hi⟩, hb⟩
      refine ⟨i, get_set (fun e' => ?_) hi⟩
      subst e'
      rw [hm] at hi
      injection hi with hi
      injection hi with hi
      subst hi
      exact hb hp.symm
    · rintro ⟨i, hi⟩
      rcases set_get hi with ⟨-, e1⟩ | ⟨hne, hi⟩
      · cases e1
      · exact ⟨⟨i, hi⟩, fun e => hne (h.once i m _ p hi hm (by rw [hp, e]))⟩

structure Gon (w wr : World) (t b sg : Nat) (k : List UInt8) (Q : List Kd) (laid : Bool) : Prop where
  ex : ∃ E F K G, KSt wr t b sg (0 : Nat) E false (dk (cl Q) (-1)) F K G ∧ E.map keD = Q.map oD ∧ ∀ k, k < w.heap.size → ¬ G k
  bel : Below w.heap.size w wr
  good : GoodG k Q laid
theorem Gon.below {w wr w' : World} {t b sg : Nat} {k : List UInt8} {Q : List Kd} {laid : Bool} (h : Gon w wr t b sg k Q laid) (hb : Below wr.heap.size wr w') : Gon w w' t b sg k Q laid := by
  obtain ⟨E, F, K, G, h1, h2, h3⟩ := h.ex
  exact ⟨⟨E, F, K, G, h1.below hb, h2, h3⟩, h.bel.trans (hb.mono h.bel.size), h.good⟩

theorem dk_len {Q : List Kd} (h : ∀ q ∈ Q, KdOk q) (hl : Q.length = 8) : (dk (cl Q) (-1)).safe.length = 2048 := by
  rw [show (dk (cl Q) (-1)).safe.length = _ from slos_length (cl_ok h), cl_length, hl]
theorem dk_ok8 {Q : List Kd} (h : ∀ q ∈ Q, KdOk q) (hl : Q.length = 8) : (dk (cl Q) (-1)).Ok :=
  dk_ok (cl_ok h) (by rw [cl_length, hl]; omega) (by rw [cl_length, hl]; omega) (by omega) (by omega)

set_option maxHeartbeats 1000000 in
theorem put_gon {w wr : World} {t b sg : Nat} {k : List UInt8} {Q : List Kd} {laid : Bool} (h : Gon w wr t b sg k Q laid) (hk : k.length = 32) (x : Nat) (l : List UInt8) (hl : l.length = 32) (hx : (x < 7 ∧ ¬ Stands k (keyo x l)) ∨ (x = 100 ∧ l = k)) (w2 : World) (ad : Addr) (cp : Nat)
    (hb : Below wr.heap.size wr w2) (hS : Sees w2 1 (some ad) 32 (u8s l)) (hA : wr.heap.size ≤ ad.block ∨ ad.block < w.heap.size) :
    Calls Try.prog 12 #[.pointer (some ⟨t, 0, none⟩), .int .i64 x, .slice (some ad) 32 cp] w2 fun e w' => ∃ (v : Value) (Q' : List Kd) (laid' : Bool), e = .returned v ∧ Gon w w' t b sg k Q' laid' ∧ (x ≠ 100 → laid' = laid) ∧ (x = 100 → laid = false → v = Value.nilIface ∧ laid' = true) := by
  have h2 := h.below hb
  obtain ⟨E, F, K, G, st, hE, hG⟩ := h.ex
  have hQ := h.good.ok hk
  have hlen : E.length = 8 := by have := congrArg List.length hE; simpa [h.good.len] using this
  have hok := dk_ok8 hQ h.good.len
  have hdl := dk_len hQ h.good.len
  have hx4 : x ≤ 1099511627776 := by rcases hx with hx | hx <;> omega
  by_cases hin : ∃ (m : Nat) (p : Nat × List UInt8), Q[m]? = some (some p) ∧ p.1 = x
  · obtain ⟨m, p, hm, hp⟩ := hin
    obtain ⟨e0, he0, hb0, -⟩ := some_ent hE hm
    refine (put_taken t b sg 0 E _ F K G x (some ad) cp w2 (st.below hb) (by omega) hx4 ⟨e0, List.mem_of_getElem? he0, by omega⟩).mono ?_
    rintro e w' ⟨⟨g, he⟩, hbw⟩
    refine ⟨_, Q, laid, he, h2.below hbw, fun _ => rfl, fun hx1 hl1 => ?_⟩
    exfalso
    have hpk : p = (100, k) := by
      rcases h.good.key m p hm with h3 | h3
      · have := h3.1; omega
      · exact h3
    have := h.good.iff.2 ⟨m, by rw [hm, hpk]⟩
    rw [hl1] at this
    cases this
  · have hno : ∀ (m : Nat) (p : Nat × List UInt8), Q[m]? = some (some p) → p.1 ≠ x := fun m p hm e => hin ⟨m, p, hm, e⟩
    have hfr := none_ent hE (h.good.room x (hx.elim (fun h => .inl h.1) (fun h => .inr h.1)) hno)
    have hAF : ∀ j, (F j ∨ K j) → j ≠ ad.block := fun j hj e => by
      have h3 : j < wr.heap.size := hj.elim (fun h => (st.fin j h).2) (fun h => (st.kin j h).2)
      have h4 : G j := hj.elim (fun h => (st.fin j h).1) (fun h => (st.kin j h).1)
      rcases hA with hA | hA
      · omega
      · exact hG j (by omega) h4
    refine (put_any t b sg 0 E _ F K G x l ad cp w2 (st.below hb) hok (Nat.zero_le _) (by omega) (by omega) (by rw [hdl, hlen]; decide) hx4 hl hS ⟨fun hF => hAF _ (.inl hF) rfl, fun hK => hAF _ (.inr hK) rfl⟩
      (fun e he hb' => by
        obtain ⟨k, hk'⟩ := List.mem_iff_getElem?.1 he
        obtain ⟨p, hp, h1, -⟩ := ent_some hE hk'
        exact hno k p hp (by omega)) hfr).mono ?_
    rintro e w' ⟨m, v, hEm, he, hv, hto⟩
    have hQm := ent_none hE hEm
    have hq : KdOk (some (x, l)) := fun p hp => by
      injection hp with hp
      subst hp
      exact ⟨hx4, hl⟩
    obtain ⟨t1, t2⟩ := two_on hQ hQm (some (x, l)) hq (-1) (.inl rfl)
    rw [show enc (some (x, l)) = keyo x l from rfl] at t1 t2
    rw [if_neg (by decide)] at t1
    rw [t2] at hto hv
    have hv' : v = Value.nilIface := by
      rcases hv with ⟨-, h⟩ | ⟨h, -⟩
      · exact h
      · cases h
    rcases hto with ⟨-, e', h5, h6, F', K', G', st', fr', sub'⟩ | ⟨h, -⟩
    · rw [t1] at st'
      refine ⟨v, Q.set m (some (x, l)), laid || decide (x = 100), he, ⟨⟨_, F', K', G', st', map_set_keD hE m (by show some (e'.buck, e'.key) = some ((x : Int), l); rw [h5, h6]), fun k hk hg => hG k hk (sub' k (Nat.lt_of_lt_of_le hk (Nat.le_trans h.bel.size hb.size)) hg)⟩,
        (h.bel.trans (hb.mono h.bel.size)).trans (fr'.below (Nat.le_trans h.bel.size hb.size) (fun k hk => Nat.not_lt.1 (fun hl => hG k hl hk))), h.good.put x m l hQm hno (hx.elim (fun h => .inl ⟨h.1, hl, h.2⟩) .inr)⟩, fun hx1 => ?_, fun hx1 _ => ⟨hv', ?_⟩⟩
      · rw [decide_eq_false hx1, Bool.or_false]
      · rw [decide_eq_true hx1, Bool.or_true]
    · cases h

set_option maxHeartbeats 1000000 in
theorem shred_gon {w wr : World} {t b sg : Nat} {k : List UInt8} {Q : List Kd} {laid : Bool} (h : Gon w wr t b sg k Q laid) (hk : k.length = 32) (x : Nat) :
    Calls Try.prog 11 #[.pointer (some ⟨t, 0, none⟩), .int .i64 x] wr fun e w' => ∃ (v : Value) (Q' : List Kd) (laid' : Bool), e = .returned v ∧ Gon w w' t b sg k Q' laid' ∧ (x ≠ 100 → laid' = laid) ∧ (x = 100 → laid = true → v = Value.nilIface ∧ laid' = false) := by
  obtain ⟨E, F, K, G, st, hE, hG⟩ := h.ex
  have hQ := h.good.ok hk
  have hlen : E.length = 8 := by have := congrArg List.length hE; simpa [h.good.len] using this
  have hok := dk_ok8 hQ h.good.len
  have hdl := dk_len hQ h.good.len
  by_cases hin : ∃ (m : Nat) (p : Nat × List UInt8), Q[m]? = some (some p) ∧ p.1 = x
  · obtain ⟨m0, p0, hm0, hp0⟩ := hin
    obtain ⟨e0, he0, hb0, -⟩ := some_ent hE hm0
    refine (shred_key t b sg 0 E _ F K G x wr st hok (Nat.zero_le _) (by omega) (by omega) (by rw [hdl, hlen]; decide) ⟨e0, List.mem_of_getElem? he0, by omega⟩).mono ?_
    rintro e w' ⟨m, e1, hEm, hbm, ⟨v, he, hv⟩, F', K', G', st', fr', sub'⟩
    obtain ⟨p, hQm, hp1, -⟩ := ent_some hE hEm
    have hpx : p.1 = x := by omega
    obtain ⟨t1, t2⟩ := two_on hQ hQm none (fun p hp => by cases hp) (-1) (.inl rfl)
    rw [show enc none = zer from rfl] at t1 t2
    rw [if_neg (by decide)] at t1
    rw [t2] at st' hv
    rw [t1] at st'
    have hv' : v = Value.nilIface := by
      rcases hv with ⟨-, h⟩ | ⟨h, -⟩
      · exact h
      · cases h
    refine ⟨v, Q.set m none, laid && decide (x ≠ 100), he, ⟨⟨_, F', K', G', st', map_set_keD hE m rfl, fun k hk hg => hG k hk (sub' k (Nat.lt_of_lt_of_le hk h.bel.size) hg)⟩, h.bel.trans (fr'.below h.bel.size (fun k hk => Nat.not_lt.1 (fun hl => hG k hl hk))), h.good.shred x m p hQm hpx⟩, fun hx1 => ?_, fun hx1 _ => ⟨hv', ?_⟩⟩
    · rw [decide_eq_true hx1, Bool.and_true]
    · rw [decide_eq_false (fun h => h hx1), Bool.and_false]
  · refine (shred_none t b sg 0 E _ F K G x wr st (by omega) (fun e he hb' => by
        obtain ⟨k, hk'⟩ := List.mem_iff_getElem?.1 he
        obtain ⟨p, hp, h1, -⟩ := ent_some hE hk'
        exact hin ⟨k, p, hp, by omega⟩)).mono ?_
    rintro e w' ⟨⟨g, he⟩, hbw⟩
    refine ⟨_, Q, laid, he, h.below hbw, fun _ => rfl, fun hx1 hl1 => ?_⟩
    obtain ⟨m, hm⟩ := h.good.iff.1 hl1
    exact absurd ⟨m, _, hm, hx1.symm⟩ hin

theorem sect_append (A B : List UInt8) (n i : Nat) (hA : A.length = n * 128) : sect (A ++ B) i = if i < n then sect A i else sect B (i - n) := by
  unfold sect
  split
  · rename_i h
    rw [List.drop_append_of_le_length (by omega), List.take_append_of_le_length (by rw [List.length_drop]; omega)]
  · rename_i h
    rw [show i * 128 = A.length + (i - n) * 128 by omega, ← List.drop_drop, List.drop_left]
theorem sect_cl : ∀ {Q : List Kd} (i : Nat), (∀ q ∈ Q, KdOk q) → i < 2 * Q.length → ∃ q ∈ Q, sect (slos (cl Q)) i = enc q
  | [], i, _, h => by simp at h
  | q :: Q, i, hQ, h => by
    have hq := enc_length q (hQ q (by simp))
    have e : slos (cl (q :: Q)) = enc q ++ (enc q ++ slos (cl Q)) := by
      show slo (q, enc q) ++ slos (cl Q) = _
      unfold slo
      rw [List.append_assoc]
    rw [e, sect_append _ _ 1 _ (by omega)]
    have hs0 : sect (enc q) 0 = enc q := by
      unfold sect
      rw [Nat.zero_mul, List.drop_zero, List.take_of_length_le (by omega)]
    split
    · rename_i h1
      obtain rfl : i = 0 := by omega
      exact ⟨q, by simp, hs0⟩
    · rename_i h1
      rw [sect_append _ _ 1 _ (by omega)]
      split
      · rename_i h2
        obtain h3 : i - 1 = 0 := by omega
        rw [h3]
        exact ⟨q, by simp, hs0⟩
      · rename_i h2
        obtain ⟨q', h3, h4⟩ := sect_cl (Q := Q) (i - 1 - 1) (fun q hq => hQ q (List.mem_cons_of_mem _ hq)) (by simp at h; omega)
        exact ⟨q', List.mem_cons_of_mem _ h3, h4⟩
/-- Nothing on the disk has k. -/
theorem GoodG.clean {k : List UInt8} {Q : List Kd} (h : GoodG k Q false) (hk : k.length = 32) (h0 : k ≠ List.replicate 32 0) : ∀ t ∈ (List.range 16).map (sect (slos (cl Q))), t.length = 128 ∧ ¬ Stands k t := by
  intro t ht
  obtain ⟨i, hi, rfl⟩ := List.mem_map.1 ht
  have hQ := h.ok hk
  obtain ⟨q, hq, e⟩ := sect_cl i hQ (by rw [h.len]; have := List.mem_range.1 hi; omega)
  rw [e]
  refine ⟨enc_length q (hQ q hq), ?_⟩
  cases q with
  | none => exact stands_zer k hk h0
  | some p =>
    obtain ⟨m, hm⟩ := List.mem_iff_getElem?.1 hq
    rcases h.key m p hm with h1 | rfl
    · exact h1.2.2
    · have := h.iff.2 ⟨m, hm⟩
      cases this
theorem all_gon {w wr : World} {t b sg : Nat} {k : List UInt8} {Q : List Kd} {laid : Bool} (h : Gon w wr t b sg k Q laid) (hk : k.length = 32) :
    Calls Try.prog 19 #[.pointer (some ⟨b, 0, none⟩)] wr fun e w' => ∃ v ps, e = .returned v ∧ RowsAt wr w' v ps ((List.range 16).map (sect (slos (cl Q)))) := by
  obtain ⟨E, F, K, G, st, hE, hG⟩ := h.ex
  have hQ := h.good.ok hk
  have hh := all_idle b F (dk (cl Q) (-1)) wr st.disk (dk_ok8 hQ h.good.len) rfl
  have hs : (dk (cl Q) (-1)).size = 16 := by unfold Dk.size; rw [dk_len hQ h.good.len]
  rw [hs] at hh
  exact hh
theorem crash_gon {w wr : World} {t b sg : Nat} {k : List UInt8} {Q : List Kd} {laid : Bool} (h : Gon w wr t b sg k Q laid) (hk : k.length = 32) (A : Option Addr) (n c : Nat) (keep : List Int) (hl : keep.length = n) (hn : n ≤ maxLen) (hS : Sees wr 1 A n (keep.map (Value.int .i64))) (w0 : World) (hw0 : Gon w w0 t b sg k Q laid) (h0w : Below w0.heap.size w0 wr) (hA : ∀ a, A = some a → w0.heap.size ≤ a.block) :
    Calls Try.prog 14 #[.pointer (some ⟨b, 0, none⟩), .slice A n c] wr fun e w' => (∃ z, e = .returned (.int .i64 z)) ∧ Gon w w' t b sg k Q laid ∧ (∀ g, w0.heap.size ≤ g → g < wr.heap.size → w'.heap[g]? = wr.heap[g]?) ∧ ∃ E K, KAt w' t b sg (0 : Nat) E false K ∧ (∀ k, K k → k < w0.heap.size) ∧ E.map keD = Q.map oD := by
  obtain ⟨E, F, K, G, st0, hE, hG⟩ := hw0.ex
  have hQ := h.good.ok hk
  have st := st0.below h0w
  refine (crash_any b F _ A n c keep wr st.disk (dk_ok8 hQ h.good.len) hl hn (Nat.zero_le _) hS (fun _ a ha hF => by
    have h1 := hA a ha
    have h2 := (st0.fin _ hF).2
    omega)).mono ?_
  rintro e w' ⟨rfl, hto⟩
  rw [crashed_dk (crash_none _ rfl keep)] at hto
  have hfr : ∀ g, w0.heap.size ≤ g → g < wr.heap.size → w'.heap[g]? = wr.heap[g]? := fun g h1 h2 => by
    obtain ⟨F', -, hf, -⟩ := hto
    exact hf.block g h2 (fun hF => Nat.not_le.2 (st0.fin _ hF).2 h1)
  have htab : KAt w' t b sg (0 : Nat) E false K := by
    obtain ⟨F', -, hf, -⟩ := hto
    exact st.tab.fr hf (fun k hk hF => st.apart k hF hk)
  obtain ⟨F', K', G', st', fr', sub'⟩ := st.diskTo hto
  exact ⟨⟨_, rfl⟩, ⟨⟨E, F', K', G', st', hE, fun k hk hg => hG k hk (sub' k (Nat.lt_of_lt_of_le hk h.bel.size) hg)⟩, h.bel.trans (fr'.below h.bel.size (fun k hk => Nat.not_lt.1 (fun hl => hG k hl hk))), h.good⟩, hfr, E, K, htab, fun k hk => (st0.kin k hk).2, hE⟩
theorem get_gon {wr : World} {t b sg : Nat} {k : List UInt8} {Q : List Kd} {E : List (Option Ke)} {K : Nat → Prop} (h : KAt wr t b sg (0 : Nat) E false K) (hE : E.map keD = Q.map oD) (hg : GoodG k Q false) :
    Calls Try.prog 15 #[.pointer (some ⟨t, 0, none⟩), .int .i64 100] wr fun e w' => Below wr.heap.size wr w' ∧ e = .returned (.tuple #[.slice none 0 0, .bool false]) := by
  have hlen : E.length = 8 := by have := congrArg List.length hE; simpa [hg.len] using this
  refine (get_any t b sg (0 : Nat) E false K 100 wr h (by omega)).mono ?_
  rintro e w' ⟨hb, hr⟩
  refine ⟨hb, ?_⟩
  rcases hr with ⟨he, -⟩ | ⟨v, m, e', he, hm, hbk, -⟩
  · exact he
  · obtain ⟨p, hp, h1, -⟩ := ent_some hE hm
    rcases hg.key m p hp with h2 | rfl
    · have := h2.1; omega
    · have := hg.iff.2 ⟨m, hp⟩
      cases this
end Go.Proofs.Ytnlghpopjckhiaa
