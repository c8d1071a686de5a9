/-
  New, Flush, Read.
-/
import Derived.Test.YtnlghpopjckhiaaDisk4
import Derived.OwnWalk
namespace Go.Proofs.Ytnlghpopjckhiaa
set_option maxRecDepth 4000
open Go.RowKit

theorem u8s_zero (n : Nat) : u8s (List.replicate n 0) = List.replicate n (.int .u8 0) := by simp [u8s]

def Dk.new (n : Nat) : Dk := { safe := List.replicate (n * 128) 0, queue := [], calls := -1 }
theorem Dk.ok_new {n : Nat} (h : 1 ≤ n) (h2 : n ≤ 65536) : (Dk.new n).Ok :=
  ⟨⟨n, by simp [Dk.new, Nat.mul_comm]⟩, by simp [Dk.new]; omega, by simp [Dk.new]; omega, (fun q hq => by cases hq), by simp [Dk.new], by simp [Dk.new]⟩

theorem new_bad (n : Int) (w : World) (h : n < 1 ∨ 65536 < n) :
    Calls Try.prog 7 #[.int .i64 n] w fun e w' => e = .returned (.tuple #[.pointer none, .int .i64 2]) ∧ w = w' := by
  by_cases h1 : n < 1
  · go_enter Try.func7, Try.ntmps7
    go_wp2
    go_ret2
    exact ⟨rfl, rfl⟩
  · have h2 : 65536 < n := by omega
    go_enter Try.func7, Try.ntmps7
    go_wp2
    go_ret2
    exact ⟨rfl, rfl⟩

theorem new_good (n : Nat) (w : World) (h1 : 1 ≤ n) (h2 : n ≤ 65536) :
    Calls Try.prog 7 #[.int .i64 n] w fun e w' => (∃ b F, e = .returned (.tuple #[.pointer (some ⟨b, 0, none⟩), .int .i64 0]) ∧ DiskAt w' b F (Dk.new n) ∧ ∀ k, F k → w.heap.size ≤ k ∧ k < w'.heap.size) ∧ Below w.heap.size w w' := by
  obtain ⟨i, hi, hz, hs, hb⟩ := info_parts info_byte
  go_enter Try.func7, Try.ntmps7
  go_wp2_with (refine wpList_make_full _ rfl (.tmp 11) (.tmp 11) 37 rfl w.heap.size 5 i (.int .u8 0) 1 Try.underlying37 hi hz hs .i64 .i64 ((n : Int) * 128) ((n : Int) * 128) (n * 128) rfl rfl (by simp) (by simp) (by rw [hb]; omega) (by unfold maxLen; omega) (Nat.le_refl _) ?_; intro w1 hown hgrow)
  go_ret2
  have hl : (Dk.new n).safe.length = n * 128 := by simp [Dk.new]
  obtain ⟨g, cap, cur, e, hg, hblk, hcap, hcm, hcs, htk⟩ := own_open hown (by omega)
  injection e with e1 e2 e3
  injection e1 with e1
  injection e1 with e1
  subst e1; subst e3
  have hb1 : Below w.heap.size w w1 := (Below.refl _ _).grown hgrow (Nat.le_refl _) (fun k h => by cases h)
  refine ⟨⟨_, fun k => w.heap.size ≤ k ∧ k < w1.heap.size + 1, rfl, ⟨w.heap.size, n * 128, cur, none, 0, [], ⟨?_, hb1.size, by omega⟩, ⟨hblk.alloc _, ⟨Nat.le_refl _, by have := hblk.lt; omega⟩, by omega, hcm, by omega, ?_⟩, ⟨World.ownsRow_nil _ _ _ _, fun a h => by cases h⟩, (fun q hq => by cases hq), rfl⟩, fun _ h => by simpa using h⟩, hb1.alloc hb1.size _⟩
  · rw [hl]; exact Blk.new _ _ _
  · rw [hl]
    rw [Nat.mul_one] at htk
    rw [htk]
    simp [Dk.new, u8s_zero, toList_madeCells_one, Value.cells]

def Dk.flushed (d : Dk) : Dk := { safe := d.image, queue := [], calls := nextCalls d.calls }
def Dk.flushE (d : Dk) : Int := if d.calls = 0 then 22 else 0
def Dk.flush (d : Dk) : Dk := if d.calls = 0 then d else d.flushed
theorem Dk.Ok.flushed {d : Dk} (h : d.Ok) : d.flushed.Ok := by
  have hl : d.flushed.safe.length = d.safe.length := h.image
  exact ⟨by rw [hl]; exact h.whole, by rw [hl]; exact h.pos, by rw [hl]; exact h.most, (fun q hq => by cases hq), (nextCalls_in _ h.lo h.hi).1, (nextCalls_in _ h.lo h.hi).2⟩

theorem calls_zero {D : Dk} (h : D.calls = 0) : ({ D with calls := nextCalls D.calls } : Dk) = D := by cases D; simp at h; simp [nextCalls, h]

theorem flush_bad (b : Nat) (F : Nat → Prop) (D : Dk) (w : World) (hD : DiskAt w b F D) (hok : D.Ok) (h0 : D.calls = 0) :
    Calls Try.prog 42 #[.pointer (some ⟨b, 0, none⟩)] w fun e w' => e = .returned (.int .i64 22) ∧ DiskTo w b F D w' := by
  have hc := call_disk b F D w hD hok.hi
  rw [show decide (D.calls ≠ 0) = false by simp [h0], calls_zero h0] at hc
  have HC := Lib.hid hc; clear hc
  clear h0
  go_enter Try.func42, Try.ntmps42
  go_wp2_with fail
  refine HC.out.mono ?_
  rintro e w' ⟨rfl, hD', hF, _⟩
  go_wp2_with fail
  go_ret
  exact ⟨rfl, F, hD', hF, fun _ _ h => h⟩

theorem flush_good (b : Nat) (F : Nat → Prop) (D : Dk) (w : World) (hD : DiskAt w b F D) (hok : D.Ok) (hq : D.queue.length ≤ 1099511627776) (h0 : D.calls ≠ 0) :
    Calls Try.prog 42 #[.pointer (some ⟨b, 0, none⟩)] w fun e w' => e = .returned (.int .i64 0) ∧ DiskTo w b F D.flushed w' := by
  have hc := call_disk b F D w hD hok.hi
  rw [show decide (D.calls ≠ 0) = true by simp [h0]] at hc
  have HC := Lib.hid hc; clear hc
  clear h0
  go_enter Try.func42, Try.ntmps42
  go_wp2_with fail
  refine HC.out.mono ?_
  rintro e w1 ⟨rfl, hD1, hF1, _⟩
  have hok1 : ({ D with calls := nextCalls D.calls } : Dk).Ok := ⟨hok.whole, hok.pos, hok.most, hok.fits, (nextCalls_in _ hok.lo hok.hi).1, (nextCalls_in _ hok.lo hok.hi).2⟩
  go_wp2_with fail
  refine (image_any b F _ w1 hD1 hok1 hq).mono ?_
  rintro e w2 ⟨⟨v, rfl, hown⟩, hb2⟩
  obtain ⟨g, cap, cur, rfl, hg, hblk, hcap, hcm, hcs, htk⟩ := own_open hown (by have := hok.pos; show 0 < D.safe.length; omega)
  obtain ⟨s, sc, cu, qA, qc, Q, ⟨h1, h2⟩, -⟩ := hD1
  have hB2 := h1.below hb2 h1.lt
  have c0 : w2.cell? ⟨b, 0, none⟩ = some (.slice (some ⟨s, 0, none⟩) D.safe.length sc) := hB2.cell 0
  have f0 := hB2.frozen 0
  have c1 : w2.cell? ⟨b, 1, none⟩ = some (.slice qA Q.length qc) := hB2.cell 1
  have f1 := hB2.frozen 1
  have HB2 := Lib.hid hB2; clear hB2
  have Hblk := Lib.hid hblk; clear hblk
  have Htk := Lib.hid htk; clear htk
  have Hcs := Lib.hid hcs; clear hcs
  have H1 := Lib.hid h1; clear h1
  go_wp2_with fail
  go_ret
  have hl : D.flushed.safe.length = D.safe.length := hok.image
  refine ⟨rfl, fun x => F x ∨ w1.heap.size ≤ x, ⟨g, cap, cur, none, 0, [], ⟨?_, .inl h2⟩, ⟨?_, .inr hg, ?_, hcm, by have := Hcs.out; omega, ?_⟩, ⟨World.ownsRow_nil _ _ _ _, fun a h => by cases h⟩, (fun q hq => by cases hq), rfl⟩, ?_, ?_⟩
  · rw [hl]
    exact (HB2.out.set_ 0 _).set_ 1 _
  · exact (Hblk.out.far (p := ⟨b, 0, none⟩) (show g ≠ b by have := H1.out.lt; omega) _).far (p := ⟨b, 1, none⟩) (show g ≠ b by have := H1.out.lt; omega) _
  · rw [hl]; exact hcap
  · rw [hl]
    have := Htk.out
    rw [Nat.mul_one] at this
    exact this
  · exact (hF1.trans (Fr.of_below hb2 F) (fun _ _ h => h)).trans ((Fr.setCell (F := F) w2 ⟨b, 0, none⟩ _ h2).trans (Fr.setCell (F := F) _ ⟨b, 1, none⟩ _ h2) (fun _ _ h => h)) (fun _ _ h => h)
  · intro k hk h
    rcases h with h | h
    · exact h
    · have := hF1.size; omega

/-- What Read gives. -/
def Dk.piece (d : Dk) (at_ n : Nat) : List UInt8 := (d.image.drop (at_ * 128)).take (n * 128)
def Dk.ticked (d : Dk) : Dk := { d with calls := nextCalls d.calls }
theorem Dk.Ok.ticked {d : Dk} (h : d.Ok) : d.ticked.Ok := ⟨h.whole, h.pos, h.most, h.fits, (nextCalls_in _ h.lo h.hi).1, (nextCalls_in _ h.lo h.hi).2⟩

theorem read_good (b : Nat) (F : Nat → Prop) (D : Dk) (a m : Nat) (w : World) (hD : DiskAt w b F D) (hok : D.Ok) (hq : D.queue.length ≤ 1099511627776) (h0 : D.calls ≠ 0) (hfit : (a + m) * 128 ≤ D.safe.length) :
    Calls Try.prog 22 #[.pointer (some ⟨b, 0, none⟩), .int .i64 a, .int .i64 m] w fun e w' => ∃ v, e = .returned (.tuple #[v, .int .i64 0]) ∧ w'.ownsRow w.heap.size 5 1 v (m * 128) (u8s (D.piece a m)) ∧ DiskAt w' b F D.ticked ∧ Fr F w w' := by
  have ht := there_disk b F D a m w hD hok
  have hth : thereB a m D.size = true := by
    simp only [thereB, Dk.size]
    exact decide_eq_true (by have := hok.whole; omega)
  rw [hth] at ht
  have hc := call_disk b F D w hD hok.hi
  rw [show decide (D.calls ≠ 0) = true by simp [h0]] at hc
  have HT := Lib.hid ht; clear ht
  have HC := Lib.hid hc; clear hc
  have hmost := hok.most
  have hpos := hok.pos
  clear h0 hth
  go_enter Try.func22, Try.ntmps22
  go_wp2_with fail
  refine HT.out.mono ?_
  rintro e w' ⟨rfl, rfl⟩
  go_wp2_with fail
  refine HC.out.mono ?_
  rintro e w1 ⟨rfl, hD1, hF1, hsz⟩
  go_wp2_with fail
  refine (image_any b F _ w1 hD1 hok.ticked hq).mono ?_
  rintro e w2 ⟨⟨v, rfl, hown⟩, hb2⟩
  obtain ⟨g, cap, cur, rfl, hg, hblk, hcap, hcm, hcs, htk⟩ := own_open hown (by show 0 < D.safe.length; omega)
  unfold maxLen at hcm
  go_wp2_with fail
  all_goals
    have hi : D.ticked.image.length = D.safe.length := hok.ticked.image
    have hsee0 : Sees w2 1 (some ⟨g, 0, none⟩) D.safe.length (u8s D.ticked.image) := Sees.of_own hown
    have hsee : ∀ off, m = 0 ∨ off = a * 128 → Sees w2 1 (some ⟨g, off, none⟩) (m * 128) (u8s (D.piece a m)) := by
      intro off h
      rcases h with rfl | rfl
      · have : D.piece a 0 = [] := by simp [Dk.piece]
        rw [this]; exact Sees.none_ _ _ _
      · have := hsee0.piece (a * 128) (m * 128) (by omega)
        rw [← u8s_drop, ← u8s_take, Nat.zero_add] at this
        exact this
    have hn : (a + m) * 128 - a * 128 = m * 128 := by omega
    have H2 := Lib.hid hi; clear hi
    have HN := Lib.hid hn; clear hn
    rw [HN.out]
    refine (clone_any _ (m * 128) _ (u8s (D.piece a m)) _ (hsee _ (by omega)) (u8s_one _) (by omega)).mono ?_
    rintro e w3 ⟨v, rfl, hown3, hb3⟩
    go_wp2_with fail
    go_ret2
    have hs : w.heap.size ≤ w2.heap.size := by have := hF1.size; have := hb2.size; omega
    exact ⟨v, rfl, own_base hown3 hs, (hD1.below hb2).below hb3, (hF1.trans (Fr.of_below hb2 F) (fun _ _ h => h)).trans (Fr.of_below hb3 F) (fun _ _ h => h)⟩
end Go.Proofs.Ytnlghpopjckhiaa
