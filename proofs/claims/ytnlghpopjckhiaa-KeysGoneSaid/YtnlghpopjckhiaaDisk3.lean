/-
  Write.
-/
import Derived.Test.YtnlghpopjckhiaaDisk2
import Derived.Deep.AppendLies
namespace Go.Proofs.Ytnlghpopjckhiaa
set_option maxRecDepth 4000
open Go.RowKit

theorem info_write : (Try.prog.info? 79).map (fun i => (i.zero, i.size, i.bytes)) = some (some (.agg #[.int .i64 0, .slice none 0 0]), 2, 32) := by kernel_rfl

/-- From w on the disk at b has become D, and nothing else that was there has turned. -/
def DiskTo (w : World) (b : Nat) (F : Nat → Prop) (D : Dk) (w' : World) : Prop :=
  ∃ F', DiskAt w' b F' D ∧ Fr F w w' ∧ ∀ k, k < w.heap.size → F' k → F k

theorem DiskTo.refl {w : World} {b : Nat} {F : Nat → Prop} {D : Dk} (h : DiskAt w b F D) : DiskTo w b F D w := ⟨F, h, Fr.refl _ _, fun _ _ h => h⟩
theorem DiskTo.below {w w1 w2 : World} {b : Nat} {F : Nat → Prop} {D : Dk} (h : DiskTo w b F D w1) (hb : Below w1.heap.size w1 w2) : DiskTo w b F D w2 := by
  obtain ⟨F', h1, h2, h3⟩ := h
  exact ⟨F', h1.below hb, h2.trans (Fr.of_below hb F) (fun _ _ h => h), h3⟩

theorem DiskAt.restrict {w : World} {b : Nat} {F : Nat → Prop} {D : Dk} (h : DiskAt w b F D) : DiskAt w b (fun k => F k ∧ k < w.heap.size) D := by
  obtain ⟨s, sc, cur, qA, qc, Q, ⟨h1, h2⟩, ⟨h3, h4, h5⟩, ⟨h6, h7⟩, h8, h9⟩ := h
  refine ⟨s, sc, cur, qA, qc, Q, ⟨h1, h2, h1.lt⟩, ⟨h3, ⟨h4, h3.lt⟩, h5⟩, ⟨h6, fun a ha => ⟨h7 a ha, ?_⟩⟩, fun q hq => ⟨(h8 q hq).1, ⟨(h8 q hq).2.1, ((h8 q hq).1.lt q.g rfl).2⟩, (h8 q hq).2.2⟩, h9⟩
  subst ha
  exact (h6.lt a.block rfl).2

/-- What the next call may build on: the disk in blocks from B on that are there. -/
theorem DiskTo.next {w : World} {b B : Nat} {F : Nat → Prop} {D : Dk} {w' : World} (h : DiskTo w b F D w') (hF : ∀ k, F k → B ≤ k) (hB : B ≤ w.heap.size) :
    ∃ F', DiskAt w' b F' D ∧ (∀ k, F' k → B ≤ k ∧ k < w'.heap.size) ∧ (∀ k, k < w.heap.size → F' k → F k) ∧ Fr F w w' ∧ Below B w w' := by
  obtain ⟨F', h1, h2, h3⟩ := h
  refine ⟨_, h1.restrict, fun k hk => ⟨?_, hk.2⟩, fun k hk hF => h3 k hk hF.1, h2, h2.below hB hF⟩
  rcases Nat.lt_or_ge k w.heap.size with hl | hl
  · exact hF k (h3 k hl hk.1)
  · omega

/-- The count of calls goes on. -/
theorem DiskAt.set2 {w w' : World} {b : Nat} {F : Nat → Prop} {D : Dk} {u : Value × Value} {k : Int} (h : DiskAt w b F D) (hu : Blk w b 59 #[u.1, u.2, .int .i64 D.calls]) (hb : Blk w' b 59 #[u.1, u.2, .int .i64 k]) (hf : Fr (· = b) w w') :
    DiskAt w' b F { D with calls := k } := by
  obtain ⟨s, sc, cur, qA, qc, Q, ⟨h1, h2⟩, ⟨h3, h4, h5⟩, ⟨h6, h7⟩, h8, h9⟩ := h
  have e := hu.symm.trans h1
  simp at e
  obtain ⟨e1, e2⟩ := e
  refine ⟨s, sc, cur, qA, qc, Q, ⟨by rw [← e1, ← e2]; exact hb, h2⟩, ⟨h3.fr hf (h3.same h1 (by decide)), h4, h5⟩, ⟨own_fr h6 hf (own_ne h6 h1 (by decide)), h7⟩, fun q hq => ⟨own_fr (h8 q hq).1 hf (own_ne (h8 q hq).1 h1 (by decide)), (h8 q hq).2⟩, h9⟩

theorem call_disk (b : Nat) (F : Nat → Prop) (D : Dk) (w : World) (hD : DiskAt w b F D) (hhi : D.calls ≤ 9223372036854775807) :
    Calls Try.prog 37 #[.pointer (some ⟨b, 0, none⟩)] w fun e w' => e = .returned (.bool (decide (D.calls ≠ 0))) ∧ DiskAt w' b F { D with calls := nextCalls D.calls } ∧ Fr F w w' ∧ w'.heap.size = w.heap.size := by
  have hD' := hD
  obtain ⟨s, sc, cur, qA, qc, Q, ⟨h1, h2⟩, -⟩ := hD
  refine (call_any b D.calls (_, _) w h1 hhi).mono ?_
  rintro e w' ⟨rfl, hb, hf, hz⟩
  exact ⟨rfl, hD'.set2 (u := (_, _)) h1 hb hf, hf.mono (fun k _ hk => by subst hk; exact h2), hz⟩

theorem there_disk (b : Nat) (F : Nat → Prop) (D : Dk) (at_ k : Int) (w : World) (hD : DiskAt w b F D) (hok : D.Ok) :
    Calls Try.prog 36 #[.pointer (some ⟨b, 0, none⟩), .int .i64 at_, .int .i64 k] w fun e w' => e = .returned (.bool (thereB at_ k D.size)) ∧ w = w' := by
  obtain ⟨s, sc, cur, qA, qc, Q, ⟨h1, h2⟩, -⟩ := hD
  exact there_any b at_ k _ D.safe.length sc w (by have := hok.most; unfold maxLen; omega) (h1.cell 0)
end Go.Proofs.Ytnlghpopjckhiaa
