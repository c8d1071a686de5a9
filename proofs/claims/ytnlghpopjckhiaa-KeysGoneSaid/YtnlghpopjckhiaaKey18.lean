/-
  Put and Shred in the law, and what may follow.
-/
import Derived.Test.YtnlghpopjckhiaaKey17
namespace Go.Proofs.Ytnlghpopjckhiaa
set_option maxRecDepth 4000
open Go.RowKit

theorem KSt.fr {w w' : World} {t b sg : Nat} {from_ : Int} {E : List (Option Ke)} {dead : Bool} {D : Dk} {F K G X : Nat → Prop} (h : KSt w t b sg from_ E dead D F K G) (hf : Fr X w w') (h1 : ∀ k, F k → ¬ X k) (h2 : ∀ k, K k → ¬ X k) : KSt w' t b sg from_ E dead D F K G :=
  ⟨h.disk.fr hf h1, h.tab.fr hf h2, h.apart, fun k hk => ⟨(h.fin k hk).1, Nat.lt_of_lt_of_le (h.fin k hk).2 hf.size⟩, fun k hk => ⟨(h.kin k hk).1, Nat.lt_of_lt_of_le (h.kin k hk).2 hf.size⟩⟩
def bls (l : List Bool) : List Value := l.map .bool

/-- The table of the law, with so many calls left; kr: what its row of bools says. -/
structure Nrm (w wr : World) (t b sg kg : Nat) (Q : List Kd) (kept kr : List Bool) (c : Int) : Prop where
  ex : ∃ E F K G, KSt wr t b sg (0 : Nat) E false (dk (cl Q) c) F K G ∧ E.map keD = Q.map oD ∧ ¬ G kg ∧ ∀ k, k < w.heap.size → ¬ G k
  row : Blk wr kg 4 (bls kr).toArray
  bel : Below w.heap.size w wr
  good : Good Q kept
  kge : w.heap.size ≤ kg
/-- Only the disk matters: what is there behind the crash. -/
structure Fin (w wr : World) (b kg : Nat) (keep : List Int) (kept kr : List Bool) (u : Int) : Prop where
  ex : ∃ D F P, DiskAt wr b F D ∧ (∀ k, F k → w.heap.size ≤ k ∧ k < wr.heap.size) ∧ ¬ F kg ∧ D.Ok ∧ D.queue.length ≤ 1 ∧ D.crashed keep = dk P (-1) ∧ Final P kept u
  row : Blk wr kg 4 (bls kr).toArray
  bel : Below w.heap.size w wr
  kge : w.heap.size ≤ kg
theorem Nrm.below {w wr w' : World} {t b sg kg : Nat} {Q : List Kd} {kept kr : List Bool} {c : Int} (h : Nrm w wr t b sg kg Q kept kr c) (hb : Below wr.heap.size wr w') : Nrm w w' t b sg kg Q kept kr c := by
  obtain ⟨E, F, K, G, h1, h2, h3, h4⟩ := h.ex
  exact ⟨⟨E, F, K, G, h1.below hb, h2, h3, h4⟩, h.row.below hb h.row.lt, h.bel.trans (hb.mono h.bel.size), h.good, h.kge⟩
theorem Fin.below {w wr w' : World} {b kg : Nat} {keep : List Int} {kept kr : List Bool} {u : Int} (h : Fin w wr b kg keep kept kr u) (hb : Below wr.heap.size wr w') : Fin w w' b kg keep kept kr u := by
  obtain ⟨D, F, P, h1, h2, h3, h4⟩ := h.ex
  exact ⟨⟨D, F, P, h1.below hb, fun k hk => ⟨(h2 k hk).1, Nat.lt_of_lt_of_le (h2 k hk).2 hb.size⟩, h3, h4⟩, h.row.below hb h.row.lt, h.bel.trans (hb.mono h.bel.size), h.kge⟩
theorem bls_set (kr : List Bool) (x : Nat) (v : Bool) : (bls kr).toArray.setIfInBounds x (.bool v) = (bls (kr.set x v)).toArray := by
  rw [List.setIfInBounds_toArray]
  unfold bls
  rw [List.map_set]
theorem Nrm.store {w wr : World} {t b sg kg : Nat} {Q : List Kd} {kept kr : List Bool} {c : Int} (h : Nrm w wr t b sg kg Q kept kr c) (x : Nat) (v : Bool) : Nrm w (wr.setCell ⟨kg, x, none⟩ (.bool v)) t b sg kg Q kept (kr.set x v) c := by
  obtain ⟨E, F, K, G, h1, h2, h3, h4⟩ := h.ex
  have hf : Fr (· = kg) wr (wr.setCell ⟨kg, x, none⟩ (.bool v)) := Fr.setCell _ _ _ rfl
  refine ⟨⟨E, F, K, G, h1.fr hf (fun k hk e => h3 (e ▸ (h1.fin k hk).1)) (fun k hk e => h3 (e ▸ (h1.kin k hk).1)), h2, h3, h4⟩, ?_, h.bel.trans (hf.below h.bel.size (fun k hk => by have := h.kge; omega)), h.good, h.kge⟩
  have := h.row.set_ x (.bool v)
  rwa [bls_set] at this
theorem Fin.store {w wr : World} {b kg : Nat} {keep : List Int} {kept kr : List Bool} {u : Int} (h : Fin w wr b kg keep kept kr u) (x : Nat) (v : Bool) : Fin w (wr.setCell ⟨kg, x, none⟩ (.bool v)) b kg keep kept (kr.set x v) u := by
  obtain ⟨D, F, P, h1, h2, h3, h4⟩ := h.ex
  have hf : Fr (· = kg) wr (wr.setCell ⟨kg, x, none⟩ (.bool v)) := Fr.setCell _ _ _ rfl
  refine ⟨⟨D, F, P, h1.fr hf (fun k hk e => h3 (e ▸ hk)), fun k hk => ⟨(h2 k hk).1, Nat.lt_of_lt_of_le (h2 k hk).2 hf.size⟩, h3, h4⟩, ?_, h.bel.trans (hf.below h.bel.size (fun k hk => by have := h.kge; omega)), h.kge⟩
  have := h.row.set_ x (.bool v)
  rwa [bls_set] at this
theorem Nrm.fin {w wr : World} {t b sg kg : Nat} {Q : List Kd} {kept kr : List Bool} (h : Nrm w wr t b sg kg Q kept kr (-1)) (keep : List Int) : Fin w wr b kg keep kept kr (-1) := by
  obtain ⟨E, F, K, G, h1, h2, h3, h4⟩ := h.ex
  have hl := h.good.len
  exact ⟨⟨_, F, cl Q, h1.disk, fun k hk => ⟨Nat.not_lt.1 fun hl => h4 k hl (h1.fin k hk).1, (h1.fin k hk).2⟩, fun hk => h3 (h1.fin kg hk).1, dk_ok (cl_ok h.good.ok) (by rw [cl_length, hl]; omega) (by rw [cl_length, hl]; omega) (by omega) (by omega), Nat.zero_le _, crashed_dk (crash_none _ rfl keep), h.good.final _⟩, h.row, h.bel, h.kge⟩
theorem Nrm.bit {w wr : World} {t b sg kg : Nat} {Q : List Kd} {kept kr : List Bool} {c : Int} (h : Nrm w wr t b sg kg Q kept kr c) (x : Nat) (v : Bool) (hx : kr[x]? = some v) : wr.cell? ⟨kg, x, none⟩ = some (.bool v) := by
  rw [h.row.cell, List.getElem?_toArray]
  unfold bls
  rw [List.getElem?_map, hx]
  rfl

theorem map_keD {E : List (Option Ke)} {Q : List Kd} (h : E.map keD = Q.map oD) (k : Nat) : (E[k]?).map keD = (Q[k]?).map oD := by
  have := congrArg (·[k]?) h
  simpa using this
theorem ent_none {E : List (Option Ke)} {Q : List Kd} (h : E.map keD = Q.map oD) {k : Nat} (hk : E[k]? = some none) : Q[k]? = some none := by
  have := map_keD h k
  rw [hk] at this
  cases hq : Q[k]? with
  | none => rw [hq] at this; cases this
  | some o =>
    rw [hq] at this
    cases o with
    | none => rfl
    | some p => cases this
theorem ent_some {E : List (Option Ke)} {Q : List Kd} (h : E.map keD = Q.map oD) {k : Nat} {e : Ke} (hk : E[k]? = some (some e)) : ∃ p : Nat × List UInt8, Q[k]? = some (some p) ∧ e.buck = p.1 ∧ e.key = p.2 := by
  have := map_keD h k
  rw [hk] at this
  cases hq : Q[k]? with
  | none => rw [hq] at this; cases this
  | some o =>
    rw [hq] at this
    cases o with
    | none => cases this
    | some p =>
      have h2 : some (some (e.buck, e.key)) = some (some ((p.1 : Int), p.2)) := this
      injection h2 with h2
      injection h2 with h2
      injection h2 with h2 h3
      exact ⟨p, rfl, h2, h3⟩
theorem some_ent {E : List (Option Ke)} {Q : List Kd} (h : E.map keD = Q.map oD) {k : Nat} {p : Nat × List UInt8} (hk : Q[k]? = some (some p)) : ∃ e : Ke, E[k]? = some (some e) ∧ e.buck = p.1 ∧ e.key = p.2 := by
  have := map_keD h k
  rw [hk] at this
  cases hq : E[k]? with
  | none => rw [hq] at this; cases this
  | some o =>
    rw [hq] at this
    cases o with
    | none => cases this
    | some e =>
      have h2 : some (some (e.buck, e.key)) = some (some ((p.1 : Int), p.2)) := this
      injection h2 with h2
      injection h2 with h2
      injection h2 with h2 h3
      exact ⟨e, rfl, h2, h3⟩
theorem none_ent {E : List (Option Ke)} {Q : List Kd} (h : E.map keD = Q.map oD) (hn : none ∈ Q) : none ∈ E := by
  obtain ⟨k, hk⟩ := List.mem_iff_getElem?.1 hn
  have := map_keD h k
  rw [hk] at this
  cases hq : E[k]? with
  | none => rw [hq] at this; cases this
  | some o =>
    rw [hq] at this
    cases o with
    | none => exact List.mem_of_getElem? hq
    | some e => cases this
theorem map_set_keD {E : List (Option Ke)} {Q : List Kd} (h : E.map keD = Q.map oD) (k : Nat) {e : Option Ke} {q : Kd} (he : keD e = oD q) : (E.set k e).map keD = (Q.set k q).map oD := by
  rw [List.map_set, List.map_set, h, he]

/-- Calls left: no bound, or some. -/
def Lim (c : Int) : Prop := c = -1 ∨ (0 ≤ c ∧ c ≤ 4)

theorem two_fine {D : Dk} (hok : D.Ok) (hq : D.queue = []) (a : Nat) (l : List UInt8) (hl : l.length = 128) (hf : (a + 2) * 128 ≤ D.safe.length) : (D.two a l).Ok ∧ (D.two a l).queue.length ≤ 1 := by
  have hok1 := hok.lay a l (by omega) (by omega)
  have hln1 := D.lay_length hok a l (by omega) (by omega)
  have q1 := D.lay_queue a l
  have q0 : D.queue.length = 0 := by rw [hq]; rfl
  unfold Dk.two
  split
  · rename_i h
    refine ⟨hok1.lay _ _ (by omega) (by omega), ?_⟩
    have : (D.lay a l).queue = [] := by
      have hl' := of_decide_eq_true h
      unfold Dk.lay
      rw [if_neg hl'.1, if_neg hl'.2]
      rfl
    have q2 := (D.lay a l).lay_queue (a + 1) l
    rw [this] at q2
    simpa using q2
  · exact ⟨hok1, by omega⟩

set_option maxHeartbeats 1000000 in
theorem put_nrm {w wr : World} {t b sg kg : Nat} {Q : List Kd} {kept : List Bool} {c : Int} (h : Nrm w wr t b sg kg Q kept kept c) (hc : Lim c) (x : Nat) (hx : x < 8) (hk : kept[x]? = some false) (keep : List Int) (w2 : World) (ad : Addr) (cp : Nat)
    (hb : Below wr.heap.size wr w2) (hS : Sees w2 1 (some ad) 32 (u8s (kof x))) (hA : wr.heap.size ≤ ad.block) :
    Calls Try.prog 12 #[.pointer (some ⟨t, 0, none⟩), .int .i64 x, .slice (some ad) 32 cp] w2 fun e w' => ∃ (ok : Bool) (v : Value), e = .returned v ∧ ErrIs ok v ∧
      (c = -1 → ok = true ∧ ∃ Q', Nrm w w' t b sg kg Q' (kept.set x true) kept (-1)) ∧ (c ≠ -1 → if ok then Fin w w' b kg keep (kept.set x true) kept (-1) else Fin w w' b kg keep kept kept x) := by
  obtain ⟨E, F, K, G, st, hE, hkg, hG⟩ := h.ex
  have hQ := h.good.ok
  have hlen : E.length = 8 := by have := congrArg List.length hE; simpa [h.good.len] using this
  have hdl : (dk (cl Q) c).safe.length = 2048 := by rw [show (dk (cl Q) c).safe.length = _ from slos_length (cl_ok hQ), cl_length, h.good.len]
  have hok : (dk (cl Q) c).Ok := dk_ok (cl_ok hQ) (by rw [cl_length, h.good.len]; omega) (by rw [cl_length, h.good.len]; omega) (by unfold Lim at hc; omega) (by unfold Lim at hc; omega)
  have hno : ∀ (k : Nat) (p : Nat × List UInt8), Q[k]? = some (some p) → p.1 ≠ x := fun k p hk' e => by
    have := (h.good.iff x hx).2 ⟨k, p, hk', e⟩
    rw [hk] at this
    cases this
  refine (put_any t b sg 0 E (dk (cl Q) c) F K G x (kof x) ad cp w2 (st.below hb) hok (Nat.zero_le _) (by omega) (by omega) (by rw [hdl, hlen]; decide) (by omega) (keyc_length _) hS ⟨fun hF => absurd (st.fin _ hF).2 (by omega), fun hK => absurd (st.kin _ hK).2 (by omega)⟩
    (fun e he hb' => by
      obtain ⟨k, hk'⟩ := List.mem_iff_getElem?.1 he
      obtain ⟨p, hp, h1, -⟩ := ent_some hE hk'
      exact hno k p hp (by omega)) (none_ent hE (h.good.room x hx hk))).mono ?_
  rintro e w' ⟨k, v, hEk, he, hv, hto⟩
  have hQk := ent_none hE hEk
  have hq : KdOk (some (x, kof x)) := kd_ok x hx
  have hbel : Fr G w2 w' → Below w.heap.size w w' := fun hf => (h.bel.trans (hb.mono h.bel.size)).trans (hf.below (Nat.le_trans h.bel.size hb.size) (fun k hk => Nat.not_lt.1 (fun hl => hG k hl hk)))
  have hrow : Fr G w2 w' → Blk w' kg 4 (bls kept).toArray := fun hf => (h.row.below hb h.row.lt).keep (hf.block kg (Nat.lt_of_lt_of_le h.row.lt hb.size) hkg)
  refine ⟨_, v, he, hv, fun hc1 => ?_, fun hc1 => ?_⟩
  · obtain ⟨t1, t2⟩ := two_on hQ hQk (some (x, kof x)) hq c (.inl hc1)
    rw [show enc (some (x, kof x)) = keyo x (kof x) from rfl] at t1 t2
    rw [if_neg (show ¬ c = 4 by rw [hc1]; decide)] at t1
    rw [t2] at hto ⊢
    refine ⟨rfl, Q.set k (some (x, kof x)), ?_⟩
    rcases hto with ⟨-, e', h1, h2, F', K', G', st', fr', sub'⟩ | ⟨h, -⟩
    · rw [t1] at st'
      refine ⟨⟨_, F', K', G', st', map_set_keD hE k (by show some (e'.buck, e'.key) = some ((x : Int), kof x); rw [h1, h2]), fun hg => hkg (sub' kg (Nat.lt_of_lt_of_le h.row.lt hb.size) hg), fun k hk hg => hG k hk (sub' k (Nat.lt_of_lt_of_le hk (Nat.le_trans h.bel.size hb.size)) hg)⟩, hrow fr', hbel fr', h.good.put x k hx hQk hk, h.kge⟩
    · cases h
  · have hc4 : 0 ≤ c ∧ c ≤ 4 := hc.elim (fun h' => absurd h' hc1) id
    obtain ⟨m, rfl⟩ : ∃ m : Nat, c = m := ⟨c.toNat, (Int.toNat_of_nonneg hc4.1).symm⟩
    obtain ⟨P, p1, p2, p3⟩ := two_off hQ hQk (some (x, kof x)) hq m (by omega) keep
    rw [show enc (some (x, kof x)) = keyo x (kof x) from rfl] at p1 p3
    have hD : ∃ F' K' G' E' d', KSt w' t b sg (0 : Nat) E' d' ((dk (cl Q) (m : Int)).two (0 + 2 * k) (keyo x (kof x))) F' K' G' ∧ Fr G w2 w' ∧ ∀ k, k < w2.heap.size → G' k → G k := by
      rcases hto with ⟨-, e', -, -, F', K', G', hh⟩ | ⟨-, F', K', G', hh⟩
      · exact ⟨F', K', G', _, _, hh⟩
      · exact ⟨F', K', G', _, _, hh⟩
    obtain ⟨F', K', G', E', d', st', fr', sub'⟩ := hD
    have hF' : ∀ k, F' k → w.heap.size ≤ k ∧ k < w'.heap.size := fun k hk => ⟨Nat.not_lt.1 fun hl => hG k hl (sub' k (Nat.lt_of_lt_of_le hl (Nat.le_trans h.bel.size hb.size)) (st'.fin k hk).1), (st'.fin k hk).2⟩
    have hkg' : ¬ F' kg := fun hk => hkg (sub' kg (Nat.lt_of_lt_of_le h.row.lt hb.size) (st'.fin kg hk).1)
    have hkl := (List.getElem?_eq_some_iff.1 hEk).1
    obtain ⟨hokT, hqT⟩ := two_fine hok rfl (0 + 2 * k) (keyo x (kof x)) (keyo_length _ _ (keyc_length _)) (by rw [hdl]; omega)
    have hfin : ∀ kp u, Final P kp u → Fin w w' b kg keep kp kept u := fun kp u hf => ⟨⟨_, F', P, st'.disk, hF', hkg', hokT, hqT, p1, hf⟩, hrow fr', hbel fr', h.kge⟩
    cases hb2 : (dk (cl Q) (m : Int)).twoOk (0 + 2 * k) (keyo x (kof x)) with
    | true =>
      rw [if_pos rfl]
      refine hfin _ _ ?_
      rw [p3 hb2]
      exact (h.good.put x k hx hQk hk).final _
    | false =>
      rw [if_neg (by decide)]
      refine hfin _ _ ?_
      have hmid : ∀ Y : List UInt8, Y.length = 128 → Final ((cl Q).set k (some (x, kof x), Y)) kept x := fun Y hY => h.good.mid x k none (some (x, kof x)) Y hx hQk (fun p hp => by cases hp) (fun p hp => by injection hp with hp; exact hp.symm) (fun _ m p hm _ => hno m p hm) hY
      rcases p2 with rfl | rfl | rfl
      · exact h.good.final _
      · exact hmid _ (enc_length none (fun p hp => by cases hp))
      · rw [← cl_set]
        exact hmid _ (enc_length _ hq)

set_option maxHeartbeats 1000000 in
theorem shred_nrm {w wr : World} {t b sg kg : Nat} {Q : List Kd} {kept : List Bool} {c : Int} (h : Nrm w wr t b sg kg Q kept kept c) (hc : Lim c) (x : Nat) (hx : x < 8) (hk : kept[x]? = some true) (keep : List Int) :
    Calls Try.prog 11 #[.pointer (some ⟨t, 0, none⟩), .int .i64 x] wr fun e w' => ∃ (ok : Bool) (v : Value), e = .returned v ∧ ErrIs ok v ∧
      (c = -1 → ok = true ∧ ∃ Q', Nrm w w' t b sg kg Q' (kept.set x false) kept (-1)) ∧ (c ≠ -1 → if ok then Fin w w' b kg keep (kept.set x false) kept (-1) else Fin w w' b kg keep kept kept x) := by
  obtain ⟨E, F, K, G, st, hE, hkg, hG⟩ := h.ex
  have hQ := h.good.ok
  have hlen : E.length = 8 := by have := congrArg List.length hE; simpa [h.good.len] using this
  have hdl : (dk (cl Q) c).safe.length = 2048 := by rw [show (dk (cl Q) c).safe.length = _ from slos_length (cl_ok hQ), cl_length, h.good.len]
  have hok : (dk (cl Q) c).Ok := dk_ok (cl_ok hQ) (by rw [cl_length, h.good.len]; omega) (by rw [cl_length, h.good.len]; omega) (by unfold Lim at hc; omega) (by unfold Lim at hc; omega)
  obtain ⟨k0, p0, hk0, hp0⟩ := (h.good.iff x hx).1 hk
  obtain ⟨e0, he0, hb0, -⟩ := some_ent hE hk0
  refine (shred_key t b sg 0 E (dk (cl Q) c) F K G x wr st hok (Nat.zero_le _) (by omega) (by omega) (by rw [hdl, hlen]; decide) ⟨e0, List.mem_of_getElem? he0, by omega⟩).mono ?_
  rintro e w' ⟨k, e1, hEk, hbk, ⟨v, he, hv⟩, hto⟩
  obtain ⟨p, hQk, hp1, -⟩ := ent_some hE hEk
  have hpx : p.1 = x := by omega
  have hq : KdOk none := fun p hp => by cases hp
  have hrow : Fr G wr w' → Blk w' kg 4 (bls kept).toArray := fun hf => h.row.keep (hf.block kg h.row.lt hkg)
  obtain ⟨F', K', G', st', fr', sub'⟩ := hto
  have hbel : Below w.heap.size w w' := h.bel.trans (fr'.below h.bel.size (fun k hk => Nat.not_lt.1 (fun hl => hG k hl hk)))
  refine ⟨_, v, he, hv, fun hc1 => ?_, fun hc1 => ?_⟩
  · obtain ⟨t1, t2⟩ := two_on hQ hQk none hq c (.inl hc1)
    rw [show enc none = zer from rfl] at t1 t2
    rw [if_neg (show ¬ c = 4 by rw [hc1]; decide)] at t1
    rw [t2] at st' ⊢
    rw [t1] at st'
    exact ⟨rfl, Q.set k none, ⟨_, F', K', G', st', map_set_keD hE k rfl, fun hg => hkg (sub' kg h.row.lt hg), fun k hk hg => hG k hk (sub' k (Nat.lt_of_lt_of_le hk h.bel.size) hg)⟩, hrow fr', hbel, h.good.shred x k p hx hQk hpx, h.kge⟩
  · have hc4 : 0 ≤ c ∧ c ≤ 4 := hc.elim (fun h' => absurd h' hc1) id
    obtain ⟨m, rfl⟩ : ∃ m : Nat, c = m := ⟨c.toNat, (Int.toNat_of_nonneg hc4.1).symm⟩
    obtain ⟨P, p1, p2, p3⟩ := two_off hQ hQk none hq m (by omega) keep
    rw [show enc none = zer from rfl] at p1 p3
    have hF' : ∀ k, F' k → w.heap.size ≤ k ∧ k < w'.heap.size := fun k hk => ⟨Nat.not_lt.1 fun hl => hG k hl (sub' k (Nat.lt_of_lt_of_le hl h.bel.size) (st'.fin k hk).1), (st'.fin k hk).2⟩
    have hkg' : ¬ F' kg := fun hk => hkg (sub' kg h.row.lt (st'.fin kg hk).1)
    have hkl := (List.getElem?_eq_some_iff.1 hEk).1
    obtain ⟨hokT, hqT⟩ := two_fine hok rfl (0 + 2 * k) zer (zer_len) (by rw [hdl]; omega)
    have hfin : ∀ kp u, Final P kp u → Fin w w' b kg keep kp kept u := fun kp u hf => ⟨⟨_, F', P, st'.disk, hF', hkg', hokT, hqT, p1, hf⟩, hrow fr', hbel, h.kge⟩
    cases hb2 : (dk (cl Q) (m : Int)).twoOk (0 + 2 * k) zer with
    | true =>
      rw [if_pos rfl]
      refine hfin _ _ ?_
      rw [p3 hb2]
      exact (h.good.shred x k p hx hQk hpx).final _
    | false =>
      rw [if_neg (by decide)]
      refine hfin _ _ ?_
      have hmid : ∀ Y : List UInt8, Y.length = 128 → Final ((cl Q).set k (none, Y)) kept x := fun Y hY => h.good.mid x k (some p) none Y hx hQk (fun p' hp' => by injection hp' with hp'; rw [← hp']; exact hpx) (fun p hp => by cases hp) (fun h => absurd rfl h) hY
      rcases p2 with rfl | rfl | rfl
      · exact h.good.final _
      · exact hmid _ (enc_length (some p) (hQ _ (List.mem_of_getElem? hQk)))
      · rw [← cl_set]
        exact hmid _ (enc_length _ hq)
end Go.Proofs.Ytnlghpopjckhiaa
