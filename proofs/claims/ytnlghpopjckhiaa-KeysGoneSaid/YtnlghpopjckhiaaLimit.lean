/-
  The disk's power is limited.
-/
import Derived.Test.YtnlghpopjckhiaaDisk3
namespace Go.Proofs.Ytnlghpopjckhiaa
set_option maxRecDepth 4000
open Go.RowKit

theorem limit_any (b : Nat) (k : Nat) (hk : k ≤ 1000) (F : Nat → Prop) (D : Dk) (w : World) (hD : DiskAt w b F D) :
    Calls Try.prog 10 #[.pointer (some ⟨b, 0, none⟩), .int .i64 k] w fun e w' => e = .returned (.tuple #[]) ∧ DiskTo w b F { D with calls := k } w' := by
  have hD' := hD
  obtain ⟨s, sc, cur, qA, qc, Q, ⟨h1, h2⟩, -⟩ := hD
  have hc : w.cell? ⟨b, 2, none⟩ = some (.int .i64 D.calls) := h1.cell 2
  have hf : w.frozen? ⟨b, 2, none⟩ = false := h1.frozen 2
  have hm : max (k : Int) (-1) = (k : Int) := by omega
  have hkl : ¬ ((k : Int) < -1) := by omega
  have H1 := Lib.hid h1; have H2 := Lib.hid h2; have HD := Lib.hid hD'
  clear h1 hD'
  go_enter Try.func10, Try.ntmps10
  go_wp2_with fail
  refine bodyPost_end (results_none rfl _ _ _) rfl ?_
  have hb := H1.out.set_ 2 (.int .i64 k)
  have hfr : Fr (· = b) w (w.setCell ⟨b, 2, none⟩ (.int .i64 k)) := Fr.setCell _ _ _ rfl
  exact ⟨rfl, F, HD.out.set2 (u := (_, _)) H1.out hb hfr, hfr.mono (fun j _ hj => by subst hj; exact H2.out), fun _ _ h => h⟩
end Go.Proofs.Ytnlghpopjckhiaa
