/-
  filled, Load.
-/
import Derived.Test.YtfnmmfmndllahaaDisk6
namespace Go.Proofs.Ytfnmmfmndllahaa
open Go.RowKit

/-- k octets c, then noughts: n in all. -/
def fillRow (k n : Nat) (c : UInt8) : Array Value := (u8s (List.replicate k c ++ List.replicate (n - k) 0)).toArray
theorem size_fillRow (k n : Nat) (c : UInt8) (h : k ≤ n) : (fillRow k n c).size = n := by simp [fillRow]; omega
theorem fillRow_zero (n : Nat) (c : UInt8) : fillRow 0 n c = (List.replicate n (Value.int .u8 0)).toArray := by simp [fillRow, u8s]
theorem fillRow_set (k n : Nat) (c : UInt8) (h : k < n) : (fillRow k n c).setIfInBounds k (.int .u8 (c.toNat : Int)) = fillRow (k + 1) n c := by
  have e : n - k = (n - (k + 1)) + 1 := by omega
  simp only [fillRow, List.setIfInBounds_toArray]
  congr 1
  rw [e, List.replicate_succ, u8s_append]
  simp only [u8s, List.map_cons, List.map_replicate, List.map_append]
  simp [List.set_append, List.replicate_succ']
theorem fillRow_get (k n : Nat) (c : UInt8) (h : k < n) : ∃ u, (fillRow k n c)[k]? = some u := by
  have := size_fillRow k n c (by omega)
  exact ⟨_, Array.getElem?_eq_getElem (by omega)⟩

set_option maxHeartbeats 400000 in
theorem filled_any (n : Nat) (c : UInt8) (w : World) (hn : n ≤ 140737488355328) :
    Calls Try.prog 8 #[.int .i64 n, .int .u8 (c.toNat : Int)] w fun e w' => (e = .returned (.slice (some ⟨w.heap.size, 0, none⟩) n n) ∧ w'.ownsRow w.heap.size 5 1 (.slice (some ⟨w.heap.size, 0, none⟩) n n) n (u8s (List.replicate n c))) ∧ Below w.heap.size w w' := by
  obtain ⟨i, hi, hz, hs, hb⟩ := info_parts info_byte
  have hmk : ∀ W : World, (Instr.makeSlice 22 (.int .i64 (n : Int)) (.int .i64 (n : Int))).run Try.prog W = .ok (.slice (some ⟨W.heap.size, 0, none⟩) n n) (W.alloc (.cells (fillRow 0 n c) 5)) := fun W => by
    have h := run_make (P := Try.prog) W 22 5 i (.int .u8 0) Try.underlying22 hi hz .i64 .i64 (n : Int) (n : Int) (by omega) (by omega) (by rw [hb]; omega) (by omega)
    have e1 : madeCells (Value.int .u8 0).cells ((n : Int).toNat * i.size) = fillRow 0 n c := by
      rw [hs, Int.toNat_natCast, Nat.mul_one, fillRow_zero, ← toList_madeCells_one (.int .u8 0) n]
      rfl
    rw [e1, Int.toNat_natCast] at h
    exact h
  clear hi hz hs hb
  go_enter Try.func8, Try.ntmps8
  go_wp2_with fail
  go_loopw [6] (fun i wr => ∃ k : Nat, k ≤ n ∧ i = .int .i64 k ∧ Blk wr w.heap.size 5 (fillRow k n c) ∧ Below w.heap.size w wr) (fun i _ => n - (intOf i).toNat)
  case atStart => exact ⟨0, Nat.zero_le _, rfl, Blk.new _ _ _, (Below.refl _ _).alloc (Nat.le_refl _) _⟩
  case round =>
    obtain ⟨k, hk, rfl, hB, hbw⟩ := hrel
    clear hmk
    by_cases hlt : k < n
    · obtain ⟨u, hu⟩ := fillRow_get k n c hlt
      have hc : wr.cell? ⟨w.heap.size, k, none⟩ = some u := (hB.cell k).trans hu
      have hf := hB.frozen k
      have HB := Lib.hid hB; clear hB hu
      have hlti : (k : Int) < (n : Int) := by omega
      go_wp2_with fail
      go_roundw
      case rel => exact ⟨k + 1, by omega, by go_num, by rw [← fillRow_set k n c hlt]; exact HB.out.set_ k _, hbw.setCell (Nat.le_refl _) _⟩
      case measure => simp [intOf]; omega
    · obtain rfl : k = n := by omega
      have hge : ¬ ((k : Int) < (k : Int)) := by omega
      have HB := Lib.hid hB; clear hB
      go_wp2_with fail
      go_ret
      refine ⟨⟨rfl, own_mk (Nat.le_refl _) HB.out (Nat.le_refl _) (by unfold maxLen; omega) (by rw [size_fillRow k k c (Nat.le_refl _)]; omega) ?_⟩, hbw⟩
      simp [fillRow]
      exact List.take_of_length_le (by simp)

def Dk.load (l : List UInt8) : Dk := { safe := l, queue := [], calls := -1 }
theorem Dk.ok_load {l : List UInt8} (h : 128 ∣ l.length) (h1 : 128 ≤ l.length) (h2 : l.length ≤ 8388608) : (Dk.load l).Ok :=
  ⟨h, h1, h2, (fun q hq => by cases hq), by simp [Dk.load], by simp [Dk.load]⟩

theorem load_odd (A : Option Addr) (n c : Nat) (w : World) (hn : n ≤ maxLen) (h : n % 128 ≠ 0) :
    Calls Try.prog 12 #[.slice A n c] w fun e w' => e = .returned (.tuple #[.pointer none, .int .i64 2]) ∧ w = w' := by
  unfold maxLen at hn
  have h1 : (((n : Int) % 128) != 0) = true := by simp; omega
  go_enter Try.func12, Try.ntmps12
  go_wp2_with fail
  go_ret2
  exact ⟨rfl, rfl⟩

theorem load_size (A : Option Addr) (n c : Nat) (w : World) (hn : n ≤ maxLen) (h : n % 128 = 0) (h2 : n < 128 ∨ 8388608 < n) :
    Calls Try.prog 12 #[.slice A n c] w fun e w' => e = .returned (.tuple #[.pointer none, .int .i64 2]) ∧ w = w' := by
  unfold maxLen at hn
  have h1 : (((n : Int) % 128) != 0) = false := by simp; omega
  go_enter Try.func12, Try.ntmps12
  go_wp2_with fail
  refine (new_bad _ _ (by omega)).mono ?_
  rintro e w' ⟨rfl, rfl⟩
  go_wp2_with fail
  go_ret2
  exact ⟨rfl, rfl⟩

theorem load_good (A : Option Addr) (m c : Nat) (l : List UInt8) (w : World) (hl : l.length = m * 128) (h1 : 1 ≤ m) (h2 : m ≤ 65536) (hS : Sees w 1 A (m * 128) (u8s l)) :
    Calls Try.prog 12 #[.slice A (m * 128 : Nat) c] w fun e w' => (∃ b F, e = .returned (.tuple #[.pointer (some ⟨b, 0, none⟩), .int .i64 0]) ∧ DiskAt w' b F (Dk.load l) ∧ ∀ k, F k → w.heap.size ≤ k ∧ k < w'.heap.size) ∧ Below w.heap.size w w' := by
  have h0 : (((m * 128 : Nat) : Int) % 128 != 0) = false := by simp
  have HL := Lib.hid hl; clear hl
  go_enter Try.func12, Try.ntmps12
  go_wp2_with fail
  refine (new_good m w h1 h2).mono ?_
  rintro e w1 ⟨⟨b, F, rfl, hD, hF⟩, hb1⟩
  have hS1 : Sees w1 1 A (m * 128) (u8s l) := hS.below hb1
  obtain ⟨s, sc, cur, qA, qc, Q, hP⟩ := hD
  have hP2 := hP
  have hsl : (Dk.new m).safe.length = m * 128 := by simp [Dk.new]
  obtain ⟨⟨g1, g2⟩, ⟨g3, g4, g5, g5a, g5b, g5c⟩, ⟨g6, g7⟩, g8, g9⟩ := hP
  rw [hsl] at g1 g5
  have c0 : w1.cell? ⟨b, 0, none⟩ = some (.slice (some ⟨s, 0, none⟩) (m * 128) sc) := g1.cell 0
  have hsb : s ≠ b := g3.same g1 (by decide)
  have G1 := Lib.hid g1; clear g1
  have G3 := Lib.hid g3; clear g3
  have G5c := Lib.hid g5c; clear g5c
  have G5b := Lib.hid g5b; clear g5b
  have G9 := Lib.hid g9; clear g9
  have HSL := Lib.hid hsl; clear hsl
  go_wp2_with (with_reducible refine wpList_cpy rfl (.tmp 23) (.tmp 24) 22 22 rfl 5 Try.underlying22 ?_ s 0 (m * 128) sc A (m * 128) c rfl rfl cur 5 G3.out (u8s l) hS1 ?_ ?_ ?_)
  case refine_1 => kernel_rfl
  case refine_2 => rw [G5b.out]; omega
  case refine_3 => exact u8s_one _
  intro w2 hB2 hF2
  rw [List.take_of_length_le (by rw [length_u8s, HL.out]; exact Nat.le_refl _)] at hB2
  have hlen : (u8s l).length = m * 128 := by rw [length_u8s, HL.out]
  have HLEN := Lib.hid hlen; clear hlen
  have HB2 := Lib.hid hB2; clear hB2
  go_wp2_with fail
  go_ret2
  have hsz : (Dk.load l).safe.length = m * 128 := HL.out
  have hQ : Q = [] := by
    have := G9.out
    simp [Dk.new] at this
    exact this
  subst hQ
  refine ⟨⟨b, F, rfl, ⟨s, sc, _, qA, qc, [], ⟨by rw [hsz]; exact G1.out.fr hF2 (fun h => hsb h.symm), g2⟩, ⟨HB2.out, g4, by rw [hsz]; exact g5, g5a, ?_, ?_⟩, ⟨own_fr g6 hF2 (own_ne g6 G3.out (by decide)), g7⟩, (fun q hq => by cases hq), rfl⟩, fun k hk => ⟨(hF k hk).1, Nat.lt_of_lt_of_le (hF k hk).2 hF2.size⟩⟩, ?_⟩
  · have := length_splice cur.toList 0 (u8s l) (by have := G5b.out; have := HLEN.out; simp at this ⊢; omega)
    have h5 := G5b.out
    simp at this ⊢
    omega
  · rw [hsz, List.toList_toArray]
    unfold splice
    rw [List.take_zero, List.nil_append, List.take_append_of_le_length (by rw [HLEN.out]; exact Nat.le_refl _), List.take_of_length_le (by rw [HLEN.out]; exact Nat.le_refl _)]
    rfl
  · exact hb1.trans (hF2.below hb1.size (fun k hk => by rw [hk]; exact (hF s g4).1))
end Go.Proofs.Ytfnmmfmndllahaa
