/-
  A slot is set.
-/
import Derived.Test.YtnlghpopjckhiaaKey6
import Derived.Deep.MidRow
namespace Go.Proofs.Ytnlghpopjckhiaa
set_option maxRecDepth 4000
open Go.RowKit

theorem kcs_set : ∀ (E : List (Option Ke)) (k : Nat) (e : Option Ke), k < E.length → ((((kcs E).set (k * 3) (.bool e.isSome)).set (k * 3 + 1) (.int .i64 (kbk e))).set (k * 3 + 2) (kval e)) = kcs (E.set k e)
  | [], k, e, h => by simp at h
  | x :: E, 0, e, h => by
      show ((((keCells x ++ kcs E).set (0 * 3) _).set (0 * 3 + 1) _).set (0 * 3 + 2) _) = keCells e ++ kcs E
      rw [keCells_eq x, keCells_eq e]
      rfl
  | x :: E, k + 1, e, h => by
      have ih := kcs_set E k e (by simpa using h)
      show ((((keCells x ++ kcs E).set ((k + 1) * 3) _).set ((k + 1) * 3 + 1) _).set ((k + 1) * 3 + 2) _) = keCells x ++ kcs (E.set k e)
      rw [← ih, keCells_eq x, show (k + 1) * 3 = k * 3 + 1 + 1 + 1 by omega]
      rfl
theorem blk_slot {w : World} {sg : Nat} {E : List (Option Ke)} (h : Blk w sg 68 (kcs E).toArray) (k : Nat) (e : Option Ke) (hk : k < E.length) :
    Blk (w.setCells sg (k * 3) (keCells e)) sg 68 (kcs (E.set k e)).toArray ∧ Fr (· = sg) w (w.setCells sg (k * 3) (keCells e)) := by
  rw [keCells_eq e]
  refine ⟨?_, ?_⟩
  · have := ((h.set_ (k * 3) (.bool e.isSome)).set_ (k * 3 + 1) (.int .i64 (kbk e))).set_ (k * 3 + 2) (kval e)
    simp only [List.setIfInBounds_toArray, kcs_set E k e hk] at this
    exact this
  · have f1 : Fr (· = sg) w (w.setCell ⟨sg, k * 3, none⟩ (.bool e.isSome)) := Fr.setCell _ _ _ rfl
    have f2 := f1.trans (Fr.setCell (F := (· = sg)) _ ⟨sg, k * 3 + 1, none⟩ (.int .i64 (kbk e)) rfl) (fun _ _ h => h)
    exact f2.trans (Fr.setCell (F := (· = sg)) _ ⟨sg, k * 3 + 2, none⟩ (kval e) rfl) (fun _ _ h => h)
theorem KAt.there {w : World} {t b sg : Nat} {from_ : Int} {E : List (Option Ke)} {dead : Bool} {K : Nat → Prop} (h : KAt w t b sg from_ E dead K) (k : Nat) (hk : k < E.length) : w.there sg (k * 3) 3 := fun j hj => by
  refine ⟨?_, h.row.frozen _⟩
  rw [h.row.cell, List.getElem?_toArray, List.getElem?_eq_getElem (by rw [kcs_length]; omega)]
  rfl

/-- A slot gets a key of its own, or none. -/
def KeyIn (w : World) (K : Nat → Prop) : Option Ke → Prop
  | none => True
  | some e => w.ownsRow 0 5 1 (.slice (some ⟨e.g, 0, none⟩) 32 e.cap) 32 (u8s e.key) ∧ e.key.length = 32 ∧ ¬ K e.g
theorem KSt.slot {w : World} {t b sg : Nat} {from_ : Int} {E : List (Option Ke)} {dead : Bool} {D : Dk} {F K G : Nat → Prop} (h : KSt w t b sg from_ E dead D F K G) (k : Nat) (hk : k < E.length) (e : Option Ke) (he : KeyIn w K e) (hF : ∀ x, e = some x → ¬ F x.g) :
    ∃ K', KSt (w.setCells sg (k * 3) (keCells e)) t b sg from_ (E.set k e) dead D F K' (fun j => G j ∨ ∃ x, e = some x ∧ x.g = j) ∧ Fr G w (w.setCells sg (k * 3) (keCells e)) := by
  obtain ⟨hb, hf⟩ := blk_slot h.tab.row k e hk
  have htn : t ≠ sg := h.tab.top.same h.tab.row (by decide)
  have hz := hf.size
  refine ⟨fun j => K j ∨ ∃ x, e = some x ∧ x.g = j, ⟨h.disk.fr hf (fun k hk e => h.apart k hk (e ▸ h.tab.sin)), ⟨?_, hb, ?_, ?_, .inl h.tab.tin, .inl h.tab.sin⟩, ?_, ?_, ?_⟩, hf.mono (fun j _ e => by subst e; exact (h.kin _ h.tab.sin).1)⟩
  · rw [List.length_set]
    exact h.tab.top.keep (hf.block t h.tab.top.lt htn)
  · intro x hx
    rcases List.mem_or_eq_of_mem_set hx with hx | hx
    · obtain ⟨a1, a2, a3⟩ := h.tab.keys x hx
      exact ⟨own_fr a1 hf (own_ne a1 h.tab.row (by decide)), .inl a2, a3⟩
    · subst hx
      obtain ⟨a1, a2, a3⟩ := he
      exact ⟨own_fr a1 hf (own_ne a1 h.tab.row (by decide)), .inr ⟨x, rfl, rfl⟩, a2⟩
  · intro i j x y hi hj hg
    rw [List.getElem?_set] at hi hj
    split at hi
    · rename_i hki
      split at hj
      · rename_i hkj
        omega
      · injection hi with hi
        subst hi
        exact absurd (hg ▸ (h.tab.keys y (List.mem_of_getElem? hj)).2.1) he.2.2
    · split at hj
      · injection hj with hj
        subst hj
        exact absurd (hg ▸ (h.tab.keys x (List.mem_of_getElem? hi)).2.1) he.2.2
      · exact h.tab.once i j x y hi hj hg
  · rintro j hj (hK | ⟨x, rfl, rfl⟩)
    · exact h.apart j hj hK
    · exact hF x rfl hj
  · intro j hj
    exact ⟨.inl (h.fin j hj).1, Nat.lt_of_lt_of_le (h.fin j hj).2 hz⟩
  · rintro j (hK | ⟨x, rfl, rfl⟩)
    · exact ⟨.inl (h.kin j hK).1, Nat.lt_of_lt_of_le (h.kin j hK).2 hz⟩
    · exact ⟨.inr ⟨x, rfl, rfl⟩, Nat.lt_of_lt_of_le (he.1.lt x.g rfl).2 hz⟩
end Go.Proofs.Ytnlghpopjckhiaa
