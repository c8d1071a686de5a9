/-
  Pop of the row.
-/
import Derived.Test.YtaapdkeipknilaaDue4
import Derived.WalkSmall
namespace Go.Proofs.Ytaapdkeipknilaa
set_option maxRecDepth 4000
open Go.RowKit

theorem own_first {w : World} {v : Value} {n : Nat} {l : List (Int × Int)} (h : w.ownsRow 0 28 2 v n (dcs l)) (hn : 0 < n) : ∃ g c, v = .slice (some ⟨g, 0, none⟩) n c := by
  obtain ⟨g, cap, _, hv, _⟩ := own_open h hn
  exact ⟨g, cap, hv⟩
theorem dpop_any (l : List (Int × Int)) (d : Int × Int) (q : Nat) (v : Value) (w : World) (h : HAt w q v (l ++ [d])) (hl : l.length ≤ 1000) :
    Calls Try.prog 74 #[.pointer (some ⟨q, 0, none⟩)] w fun e w' => e = .returned (.iface 28 (.agg #[.int .i64 d.1, .int .i64 d.2])) ∧ Stp w w' q v l := by
  have hrow := h.row
  rw [List.length_append] at hrow
  simp only [List.length_cons, List.length_nil, Nat.zero_add] at hrow
  obtain ⟨g, c, rfl⟩ := own_first hrow (by omega)
  have hgq : g ≠ q := fun e => h.apart (by rw [e]; rfl)
  have hS : Sees w 2 (some ⟨g, 0, none⟩) (l ++ [d]).length (dcs (l ++ [d])) := by
    have := h.row
    rw [show l.length + 1 = (l ++ [d]).length by simp] at this
    exact Sees.of_own this
  obtain ⟨g', o', e', x0, x1⟩ := in_due (y := d) (k := l.length) hS (by simp)
  injection e' with e'
  injection e' with e1 e2 _
  subst e1 e2
  rw [Nat.zero_add] at x0 x1
  have c0 := h.cell
  have HP := Lib.hid (ownsRow_pop (xs := dcs l) (last := dcs [d]) (n := l.length) (dcs_length l) (by rw [dcs_append] at hrow; exact hrow))
  have hc : l.length ≤ c := by
    obtain ⟨_, c2, _, e, _, _, h1, _⟩ := own_open hrow (by omega)
    injection e with _ _ e
    subst e
    omega
  have z1 : w.frozen? ⟨q, 0, none⟩ = false := h.top.frozen 0
  have HT := Lib.hid h.top
  have HL := Lib.hid (And.intro hl hgq)
  obtain ⟨a, b⟩ := d
  simp only at x0 x1
  have hle : (l.length : Int) ≤ 1000 := by omega
  have hq := h.top.lt
  have hg := World.block_lt_of_cell? _ _ x0
  clear h hrow hl hS
  go_enter Try.func74, Try.ntmps74
  go_wp2_with fail
  go_ret
  have f1 : Fr (· = q) w (w.setCell ⟨q, 0, none⟩ (.slice (some ⟨g, 0, none⟩) l.length c)) := Fr.setCell (F := (· = q)) w ⟨q, 0, none⟩ _ rfl
  have ht := HT.out.set_ 0 (.slice (some ⟨g, 0, none⟩) l.length c)
  have hb : Below (w.setCell ⟨q, 0, none⟩ (.slice (some ⟨g, 0, none⟩) l.length c)).heap.size (w.setCell ⟨q, 0, none⟩ (.slice (some ⟨g, 0, none⟩) l.length c)) _ := (Below.refl _ _).alloc (Nat.le_refl _) (.cells #[.int .i64 a, .int .i64 b] 28)
  refine ⟨rfl, Stp.of_below (⟨_, ⟨by simpa using ht, own_fr HP.out f1 (fun g' hg' h => ?_)⟩, f1.mono (fun _ _ h => .inl h), fun g' hg' => .inl hg'⟩) hb⟩
  have : g = g' := by simpa [Value.ownBlock] using hg'
  exact HL.out.2 (this.trans h)
end Go.Proofs.Ytaapdkeipknilaa
