/-
  Behind the crash: the table is opened, and asked.
-/
import Derived.Test.YtnlghpopjckhiaaKey18
import Derived.Test.YtnlghpopjckhiaaDisk6
namespace Go.Proofs.Ytnlghpopjckhiaa
set_option maxRecDepth 4000
open Go.RowKit

theorem crash_fin {w wr : World} {b kg : Nat} {keep : List Int} {kept : List Bool} {u : Int} (h : Fin w wr b kg keep kept kept u) (KA : Option Addr) (kc : Nat) (hk : Sees w 1 KA keep.length (keep.map (Value.int .i64))) (hn : keep.length ≤ 1000) :
    Calls Try.prog 14 #[.pointer (some ⟨b, 0, none⟩), .slice KA keep.length kc] wr fun e w' => (∃ z, e = .returned (.int .i64 z)) ∧ ∃ P F, DiskAt w' b F (dk P (-1)) ∧ (∀ k, F k → w.heap.size ≤ k ∧ k < w'.heap.size) ∧ ¬ F kg ∧ Final P kept u ∧ Blk w' kg 4 (bls kept).toArray ∧ Below w.heap.size w w' := by
  obtain ⟨D, F, P, h1, h2, h3, h4, h5, h6, h7⟩ := h.ex
  refine (crash_any b F D KA keep.length kc keep wr h1 h4 rfl (by unfold maxLen; omega) (by omega) (hk.below h.bel) (fun h0 a ha hF => by
    have := hk.lt h0 (by omega) a ha
    have := (h2 _ hF).1
    omega)).mono ?_
  rintro e w' ⟨rfl, F', d1, d2, d3⟩
  rw [h6] at d1
  refine ⟨⟨_, rfl⟩, P, fun k => F' k ∧ k < w'.heap.size, d1.restrict, fun k hk => ⟨?_, hk.2⟩, fun hk => h3 (d3 kg h.row.lt hk.1), h7, h.row.keep (d2.block kg h.row.lt h3), h.bel.trans (d2.below h.bel.size (fun k hk => (h2 k hk).1))⟩
  rcases Nat.lt_or_ge k wr.heap.size with hl | hl
  · exact (h2 k (d3 k hl hk.1)).1
  · have := h.bel.size; omega

/-- The table that was opened, and what it has. -/
structure Opn (w wr : World) (t b sg kg : Nat) (P : List Sl) (kept : List Bool) (u : Int) (E : List (Option Ke)) (K : Nat → Prop) : Prop where
  tab : KAt wr t b sg (0 : Nat) E false K
  row : Blk wr kg 4 (bls kept).toArray
  bel : Below w.heap.size w wr
  len : E.length = 8
  fin : Final P kept u
  has : ∀ e, some e ∈ E → ∃ (k : Nat) (p : Nat × List UInt8) (Y : List UInt8), P[k]? = some (some p, Y) ∧ e.buck = p.1 ∧ e.key = p.2
  all : ∀ (k : Nat) (p : Nat × List UInt8) (Y : List UInt8), P[k]? = some (some p, Y) → ∃ e, some e ∈ E ∧ e.buck = p.1
theorem Opn.below {w wr w' : World} {t b sg kg : Nat} {P : List Sl} {kept : List Bool} {u : Int} {E : List (Option Ke)} {K : Nat → Prop} (h : Opn w wr t b sg kg P kept u E K) (hb : Below wr.heap.size wr w') : Opn w w' t b sg kg P kept u E K :=
  ⟨h.tab.below hb, h.row.below hb h.row.lt, h.bel.trans (hb.mono h.bel.size), h.len, h.fin, h.has, h.all⟩

theorem open_final {w wr : World} {b kg : Nat} {kept : List Bool} {u : Int} {P : List Sl} {F : Nat → Prop} (hD : DiskAt wr b F (dk P (-1))) (hF : ∀ k, F k → w.heap.size ≤ k ∧ k < wr.heap.size) (hkg : ¬ F kg) (hf : Final P kept u) (hrow : Blk wr kg 4 (bls kept).toArray) (hb : Below w.heap.size w wr) :
    Calls Try.prog 8 #[.pointer (some ⟨b, 0, none⟩), .int .i64 (0 : Nat), .int .i64 (8 : Nat)] wr fun e w' => ∃ (t sg : Nat) (E : List (Option Ke)) (K : Nat → Prop), e = .returned (.tuple #[.pointer (some ⟨t, 0, none⟩), Value.nilIface]) ∧ Opn w w' t b sg kg P kept u E K := by
  have h := open_dk b P F wr hD (fun k hk => (hF k hk).2) (by rw [hf.len]; omega) (by rw [hf.len]; omega) hf.ok hf.once
  rw [hf.len] at h
  refine h.mono ?_
  rintro e w' ⟨t, sg, E, D', he, hl, hE, ⟨F', K', G', st, fr, sub⟩, -⟩
  refine ⟨t, sg, E, K', he, ⟨st.tab, hrow.keep (fr.block kg hrow.lt hkg), hb.trans (fr.below hb.size (fun k hk => (hF k hk).1)), hl, hf, ?_, ?_⟩⟩
  · intro e he
    obtain ⟨k, hk⟩ := List.mem_iff_getElem?.1 he
    have hkl : k < P.length := by rw [hf.len, ← hl]; exact (List.getElem?_eq_some_iff.1 hk).1
    obtain ⟨s, hs⟩ : ∃ s, P[k]? = some s := ⟨_, List.getElem?_eq_getElem hkl⟩
    obtain ⟨e2, h1, h2⟩ := hE k s hs
    rw [hk] at h1
    injection h1 with h1
    subst h1
    obtain ⟨o, Y⟩ := s
    match o, h2, hs with
    | some p, h2, hs =>
      have h3 : (e.buck, e.key) = ((p.1 : Int), p.2) := Option.some.inj h2
      injection h3 with h3 h4
      exact ⟨k, p, Y, hs, h3, h4⟩
  · intro k p Y hk
    obtain ⟨e, h1, h2⟩ := hE k _ hk
    cases e with
    | none => cases h2
    | some e =>
      have h3 : (e.buck, e.key) = ((p.1 : Int), p.2) := Option.some.inj h2
      injection h3 with h3 h4
      exact ⟨e, List.mem_of_getElem? h1, h3⟩

theorem get_final {w wr : World} {t b sg kg : Nat} {P : List Sl} {kept : List Bool} {u : Int} {E : List (Option Ke)} {K : Nat → Prop} (h : Opn w wr t b sg kg P kept u E K) (x : Nat) (hx : x < 8) :
    Calls Try.prog 15 #[.pointer (some ⟨t, 0, none⟩), .int .i64 x] wr fun e w' => Below wr.heap.size wr w' ∧
      ((e = .returned (.tuple #[.slice none 0 0, .bool false]) ∧ ((x : Int) ≠ u → kept[x]? = some false)) ∨
        ∃ (v : Value), e = .returned (.tuple #[v, .bool true]) ∧ ((x : Int) ≠ u → kept[x]? = some true) ∧ w'.ownsRow wr.heap.size 5 1 v 32 (u8s (kof x))) := by
  refine (get_any t b sg (0 : Nat) E false K x wr h.tab (by rw [h.len]; omega)).mono ?_
  rintro e w' ⟨hb, hr⟩
  refine ⟨hb, ?_⟩
  rcases hr with ⟨he, hno⟩ | ⟨v, k, e', he, hk, hbk, ho⟩
  · refine .inl ⟨he, fun hxu => ?_⟩
    have hl : x < kept.length := by rw [h.fin.klen]; exact hx
    cases hkx : kept[x]'hl with
    | false => rw [List.getElem?_eq_getElem hl, hkx]
    | true =>
      obtain ⟨m, p, Y, hm, hp⟩ := (h.fin.iff x hx hxu).1 (by rw [List.getElem?_eq_getElem hl, hkx])
      obtain ⟨e2, h1, h2⟩ := h.all m p Y hm
      exact absurd (by rw [h2, hp]) (hno e2 h1)
  · obtain ⟨m, p, Y, hm, h1, h2⟩ := h.has e' (List.mem_of_getElem? hk)
    have hpx : p.1 = x := by omega
    have := (h.fin.key m p Y hm).2
    rw [hpx] at this
    rw [h2, this] at ho
    exact .inr ⟨v, he, fun hxu => (h.fin.iff x hx hxu).2 ⟨m, p, Y, hm, hpx⟩, ho⟩
end Go.Proofs.Ytnlghpopjckhiaa
