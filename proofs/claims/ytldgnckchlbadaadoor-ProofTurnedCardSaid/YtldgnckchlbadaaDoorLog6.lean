/-
  What a log tells: Texts, Chain, Count, Sure, Segment.
-/
import Derived.Test.YtldgnckchlbadaaDoorLog2
import Derived.Test.YtldgnckchlbadaaDoorGB
import Derived.Test.YtldgnckchlbadaaDoorSeg6
namespace Go.Proofs.YtldgnckchlbadaaDoor
set_option maxRecDepth 4000
open Go.RowKit

section
variable {w : World} {lb b f : Nat} {s : Lg} {bg cB : Nat} {A : Option Addr} {cT : Nat} {C : Option Addr} {cC : Nat} {vs : List Pt} {Kl : Nat → Prop}
/-- Rows of texts that are owned. -/
def OwnRows (w : World) (base : Nat) (A : Option Addr) (c : Nat) (L : List (List UInt8)) : Prop :=
  ∃ vs : List Pt, w.ownsRow base 35 1 (.slice A L.length c) L.length (vs.map Pt.val) ∧ vs.map (·.l) = L ∧ ∀ p ∈ vs, p.l.length = p.n ∧ w.ownsRow base 5 1 p.val p.n (u8s p.l)
theorem OwnRows.below {w w' : World} {base c : Nat} {A : Option Addr} {L : List (List UInt8)} (h : OwnRows w base A c L) (hb : Below w.heap.size w w') : OwnRows w' base A c L := by
  obtain ⟨vs, h1, h2, h3⟩ := h
  exact ⟨vs, own_below h1 hb, h2, fun p hp => ⟨(h3 p hp).1, own_below (h3 p hp).2 hb⟩⟩
theorem OwnRows.use {w : World} {base c : Nat} {A : Option Addr} {L : List (List UInt8)} (h : OwnRows w base A c L) : ∃ ps : List Pt, ps.length = L.length ∧ ps.map (·.l) = L ∧ Rws w A ps ∧ Pts w ps := by
  obtain ⟨vs, h1, h2, h3⟩ := h
  have hl : vs.length = L.length := by rw [← h2, List.length_map]
  refine ⟨vs, hl, h2, fun h0 => ?_, fun p hp => ⟨Sees.of_own (h3 p hp).2, (h3 p hp).1⟩⟩
  obtain ⟨g, off, e, hc⟩ := (Sees.of_own h1).2 (by omega)
  exact ⟨g, off, e, fun j p hj => hc j _ (by rw [List.getElem?_map, hj]; rfl)⟩

set_option maxHeartbeats 1000000 in
theorem texts_log (h : LgP w lb b f s bg cB A cT C cC vs Kl) (hok : s.Ok) (hfine : Fine s.texts) : Calls Tryd.prog 10 #[.pointer (some ⟨lb, 0, none⟩)] w fun e w' => ∃ B c, e = .returned (.slice B s.texts.length c) ∧ OwnRows w' w.heap.size B c s.texts ∧ Below w.heap.size w w' := by
  obtain ⟨k, hk⟩ : ∃ k, k = s.texts.length := ⟨_, rfl⟩
  have c8 : w.cell? ⟨lb, 8, none⟩ = some (.slice A k cT) := by rw [hk]; exact h.top.cell 8
  have hk6 : k ≤ 100000000 := by rw [hk]; exact hok.many
  have hvl : vs.length = k := by rw [h.len, hk]
  have HH := Lib.hid h
  have HF := Lib.hid hfine
  rw [← hk]
  replace hk := Lib.hid hk
  replace hvl := Lib.hid hvl
  clear h hok hfine
  go_enter Tryd.func10, Tryd.ntmps10
  go_wp2_with fail
  go_loopw [3, 11] (fun v i wr => ∃ j : Nat, j ≤ k ∧ i = .int .i64 j ∧ Hid (∃ B c, v = .slice B j c ∧ OwnRows wr w.heap.size B c (s.texts.take j)) ∧ Below w.heap.size w wr) (fun _ i _ => k - (intOf i).toNat)
  case atStart => exact ⟨0, Nat.zero_le _, rfl, Lib.hid ⟨none, 0, rfl, [], World.ownsRow_nil _ _ _ _, rfl, fun p hp => (by cases hp)⟩, Below.refl _ _⟩
  case round =>
    obtain ⟨j, hj, rfl, hr, hbr⟩ := hrel
    by_cases hlt : j < k
    · obtain ⟨B, c, rfl, vs', o1, o2, o3⟩ := hr.out
      have hlt' : j < vs.length := by rw [hvl.out]; exact hlt
      have hp := List.getElem?_eq_getElem hlt'
      obtain ⟨p, hpe⟩ : ∃ p, p = vs[j] := ⟨_, rfl⟩
      rw [← hpe] at hp
      have hmem := List.mem_of_getElem? hp
      have hh := HH.out.below hbr
      obtain ⟨g, off, eA, hcs⟩ := (Sees.of_own hh.rows).2 (by rw [← hk.out]; omega)
      subst eA
      have hc0 := hcs j _ (by rw [List.getElem?_map, hp]; rfl)
      have hpl := hh.each p hmem
      have htx : p.l ∈ s.texts := by rw [← hh.vals]; exact List.mem_map_of_mem hmem
      have hp1 := HF.out _ htx
      have htk : s.texts.take (j + 1) = s.texts.take j ++ [p.l] := by
        rw [List.take_add_one, ← hh.vals, List.getElem?_map, hp]; rfl
      have hl1 : (s.texts.take j).length = j := by rw [List.length_take, ← hk.out]; omega
      obtain ⟨X, n, cp, l⟩ := p
      simp only at hp1 hpl htk
      have h5 : wr.ownsRow 0 5 1 (.slice X n cp) n (u8s l) := hpl.2
      have hln : l.length = n := hpl.1
      obtain ⟨g', off', rfl, -⟩ := (Sees.of_own h5).2 (by omega)
      have HC := Lib.hid (clone_any ⟨g', off', none⟩ n cp (u8s l) wr (Sees.of_own h5) (u8s_one _) (by omega))
      have HO := Lib.hid (And.intro o1 (And.intro o2 o3))
      have HP := Lib.hid (And.intro hln (And.intro htk hl1))
      simp only [Pt.val] at hc0
      rw [hl1] at o1
      have O1 := Lib.hid o1
      clear hr o1 o2 o3 hpe hp hmem hh hcs hpl htx hp1 htk h5 hln hl1
      have hjk : j ≤ 100000000 := by omega
      go_wp2_with fail
      refine HC.out.mono ?_
      rintro e w1 ⟨v, rfl, ho, bel⟩
      obtain ⟨Y, cy, rfl⟩ := own_shape ho
      have hb1 := hbr.trans (bel.mono hbr.size)
      have H1 := Lib.hid (And.intro ho (And.intro bel hb1))
      clear ho bel hb1
      have hz1 := hbr.size
      go_wp2_with (at_builtin; refine wpList_app rfl (.tmp 15) (.tmp 18) _ rfl w.heap.size 35 _ 1 24 Tryd.underlying22 info_bytesZ rfl (by decide) _ j _ rfl (own_below O1.out (H1.out.2.1.trans (((Below.refl _ w1).alloc (Nat.le_refl _) _).mono H1.out.2.1.size))) (some ⟨w1.heap.size, 0, none⟩) 1 _ [.slice Y n cy] rfl (sees_new w1 _ [.slice Y n cy] 1 1 rfl) (by simp [Value.oneCell']) (by unfold maxLen; omega) (by omega) (by have := H1.out.2.2.size; simp; omega) ?_; intro v5 w5 n1 n2 n3 n4)
      obtain ⟨B5, c5, rfl⟩ := own_shape n1
      have ba : Below w1.heap.size w1 (w1.alloc (.cells #[.slice Y n cy] 35)) := (Below.refl _ w1).alloc (Nat.le_refl _) _
      have f5 := Fr.of_grown n2 (F := fun k => (Value.slice B j c).ownBlock = some k) (fun k h => h)
      have hb5 : Below w.heap.size w w5 := (H1.out.2.2.trans (ba.mono H1.out.2.2.size)).grown n2 (by have := H1.out.2.2.size; simp; omega) (fun k hk => (O1.out.lt k hk).1)
      have HX : Hid (OwnRows w5 w.heap.size B5 c5 (s.texts.take (j + 1))) := Lib.hid (by
        have e1 : (s.texts.take (j + 1)).length = j + 1 := by rw [HP.out.2.1, List.length_append, HP.out.2.2]; rfl
        refine ⟨vs' ++ [⟨Y, n, cy, l⟩], ?_, ?_, ?_⟩
        · rw [e1, List.map_append]
          exact n1
        · rw [List.map_append, HO.out.2.1, HP.out.2.1]; rfl
        · intro p hp
          rcases List.mem_append.1 hp with hp | hp
          · have h3 := HO.out.2.2 p hp
            have h4 := own_below (own_below h3.2 H1.out.2.1) ba
            exact ⟨h3.1, own_fr h4 f5 (own_ne2 h4 (own_below (own_below O1.out H1.out.2.1) ba) (by decide))⟩
          · rw [List.mem_singleton.1 hp]
            have h4 := own_below H1.out.1 ba
            exact ⟨HP.out.1, own_base (own_fr h4 f5 (own_ne2 h4 (own_below (own_below O1.out H1.out.2.1) ba) (by decide))) hz1⟩)
      go_roundw
      case rel => exact ⟨j + 1, by omega, by go_num, Lib.hid ⟨B5, c5, rfl, HX.out⟩, hb5⟩
      case measure => simp [intOf]; omega
    · obtain rfl : j = k := by omega
      obtain ⟨B, c, rfl, hrow⟩ := hr.out
      rw [List.take_of_length_le (by rw [← hk.out]; exact Nat.le_refl _)] at hrow
      have H := Lib.hid hrow
      clear hr hrow
      go_wp2_with fail
      go_ret
      exact ⟨B, c, rfl, H.out, hbr⟩
end
end Go.Proofs.YtldgnckchlbadaaDoor
