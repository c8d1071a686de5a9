/-
  A pen that went bad; the chain behind a text.
-/
import Derived.Test.YtldgnckchlbadaaDoorGG
import Derived.Test.YtldgnckchlbadaaDoorSha7
namespace Go.Proofs.YtldgnckchlbadaaDoor
set_option maxRecDepth 4000
open Go.RowKit

/-- A pen that is bad. -/
def PenBad (w : World) (base p : Nat) : Prop := base ≤ p ∧ ∃ v, Blk w p 120 #[v, .bool true]
theorem PenBad.lt {w : World} {base p : Nat} (h : PenBad w base p) : p < w.heap.size := by obtain ⟨_, v, hb⟩ := h; exact hb.lt
theorem PenBad.keep {w w' : World} {base p : Nat} (h : PenBad w base p) (hb : Below w.heap.size w w') : PenBad w' base p := by
  obtain ⟨h1, v, h2⟩ := h
  exact ⟨h1, v, h2.below hb h2.lt⟩

theorem raw_bad (base p : Nat) (A : Option Addr) (n c : Nat) (w : World) (hP : PenBad w base p) :
    Calls Tryd.prog 51 #[.pointer (some ⟨p, 0, none⟩), .slice A n c] w fun e w' => e = .returned (.tuple #[]) ∧ w' = w := by
  obtain ⟨hbp, v, hb⟩ := hP
  have hc0 : w.cell? ⟨p, 0, none⟩ = some v := by rw [hb.cell]; rfl
  have hc1 : w.cell? ⟨p, 1, none⟩ = some (.bool true) := by rw [hb.cell]; rfl
  clear hb
  go_enter Tryd.func51, Tryd.ntmps51
  go_wp2_with fail
  refine bodyPost_end (results_none rfl _ _ _) rfl ?_
  exact ⟨rfl, rfl⟩

theorem num_bad (base p n k : Nat) (w : World) (hk : k ≤ 8) (hP : PenBad w base p) :
    Calls Tryd.prog 66 #[.pointer (some ⟨p, 0, none⟩), .int .u64 n, .int .i64 k] w fun e w' => e = .returned (.tuple #[]) ∧ w' = w := by
  obtain ⟨hbp, v, hb⟩ := hP
  have hc0 : w.cell? ⟨p, 0, none⟩ = some v := by rw [hb.cell]; rfl
  have hc1 : w.cell? ⟨p, 1, none⟩ = some (.bool true) := by rw [hb.cell]; rfl
  have hw1 : IntKind.i64.wrap ((k : Int) - 1) = (k : Int) - 1 := IntWalk.i64_in _ (by omega)
  have hkk : (k : Int) ≤ 8 := by omega
  clear hb
  go_enter Tryd.func66, Tryd.ntmps66
  go_wp2_with fail
  go_loop [6] (fun i => i = .int .i64 ((k : Int) - 1)) (fun _ => 0)
  case atStart => rfl
  case round =>
    obtain rfl := hrel
    by_cases h0 : k = 0
    · subst h0
      go_wp2_with fail
      refine bodyPost_end (results_none rfl _ _ _) rfl ?_
      exact ⟨rfl, rfl⟩
    · have hge : (0 : Int) ≤ (k : Int) - 1 := by omega
      have hge2 : (1 : Int) ≤ (k : Int) := by omega
      go_wp2_with fail
      refine bodyPost_end (results_none rfl _ _ _) rfl ?_
      exact ⟨rfl, rfl⟩

theorem u32_bad (base p : Nat) (l : List UInt8) (n : Int) (w : World) (hn : n < 0 ∨ 4294967296 ≤ n) (hw : n.natAbs ≤ 9223372036854775808) (hP : Pen w base p l) :
    Calls Tryd.prog 49 #[.pointer (some ⟨p, 0, none⟩), .int .i64 n] w fun e w' => e = .returned (.tuple #[]) ∧ PenBad w' base p ∧ Below base w w' := by
  obtain ⟨hbp, v, hb, hown⟩ := hP
  have hc0 : w.cell? ⟨p, 0, none⟩ = some v := by rw [hb.cell]; rfl
  have hc1 : w.cell? ⟨p, 1, none⟩ = some (.bool false) := by rw [hb.cell]; rfl
  have hfz : w.frozen? ⟨p, 1, none⟩ = false := hb.frozen 1
  have hb2 := hb.set_ 1 (.bool true)
  have HB2 := Lib.hid hb2; clear hb hb2 hown
  have hS : Calls Tryd.prog 65 #[.pointer (some ⟨p, 0, none⟩), .int .i64 n, .int .i64 4] w fun e w' => e = .returned (.tuple #[]) ∧ PenBad w' base p ∧ Below base w w' := by
    by_cases h0 : n < 0
    · go_enter Tryd.func65, Tryd.ntmps65
      go_wp2_with fail
      refine bodyPost_ret (results_none rfl _ _ _) rfl ?_
      exact ⟨rfl, ⟨hbp, v, HB2.out⟩, (Below.refl _ _).setCell hbp _⟩
    · have h1 : ¬ n < 0 := h0
      have h2 : 4294967296 ≤ n := by omega
      have h3 : (n / 4294967296 == 0) = false := by rw [beq_eq_false_iff_ne]; omega
      go_enter Tryd.func65, Tryd.ntmps65
      go_wp2_with fail
      refine bodyPost_ret (results_none rfl _ _ _) rfl ?_
      exact ⟨rfl, ⟨hbp, v, HB2.out⟩, (Below.refl _ _).setCell hbp _⟩
  have HS := Lib.hid hS; clear hS
  go_enter Tryd.func49, Tryd.ntmps49
  go_wp2_with fail
  refine HS.out.mono ?_
  rintro e w' ⟨rfl, h1, h2⟩
  go_wp2_with fail
  refine bodyPost_end (results_none rfl _ _ _) rfl ?_
  exact ⟨rfl, h1, h2⟩

theorem u64_bad (base p n : Nat) (w : World) (hP : PenBad w base p) :
    Calls Tryd.prog 50 #[.pointer (some ⟨p, 0, none⟩), .int .u64 n] w fun e w' => e = .returned (.tuple #[]) ∧ w' = w := by
  have HN := Lib.hid (num_bad base p n 8 w (by omega) hP)
  clear hP
  go_enter Tryd.func50, Tryd.ntmps50
  go_wp2_with fail
  refine HN.out.mono ?_
  rintro e w' ⟨rfl, rfl⟩
  go_wp2_with fail
  refine bodyPost_end (results_none rfl _ _ _) rfl ?_
  exact ⟨rfl, rfl⟩

theorem bytes_bad (base p : Nat) (w : World) (hP : PenBad w base p) :
    Calls Tryd.prog 52 #[.pointer (some ⟨p, 0, none⟩)] w fun e w' => e = .returned (.tuple #[.slice none 0 0, .bool false]) ∧ w' = w := by
  obtain ⟨hbp, v, hb⟩ := hP
  have hc0 : w.cell? ⟨p, 0, none⟩ = some v := by rw [hb.cell]; rfl
  have hc1 : w.cell? ⟨p, 1, none⟩ = some (.bool true) := by rw [hb.cell]; rfl
  clear hb
  go_enter Tryd.func52, Tryd.ntmps52
  go_wp2_with fail
  go_ret2
  exact ⟨rfl, rfl⟩

/-- The tables of the digest lie where they were laid. -/
structure Tab (w : World) : Prop where
  k : Kt w
  h : Ht w
  lt : 1 < w.heap.size
theorem Tab.hlt {w : World} (h : Tab w) : 0 < w.heap.size := by
  obtain ⟨t, fr, e⟩ := h.h
  exact (Array.getElem?_eq_some_iff.1 e).1
theorem Tab.below {w w' : World} (h : Tab w) (hb : Below w.heap.size w w') : Tab w' := by
  refine ⟨h.k.below hb h.lt, ?_, Nat.lt_of_lt_of_le h.lt hb.size⟩
  obtain ⟨t, fr, e⟩ := h.h
  exact ⟨t, fr, (hb.block _ (Array.getElem?_eq_some_iff.1 e).1).trans e⟩

theorem chain_any (l m : List UInt8) (A B : Option Addr) (n c n' c' : Nat) (w : World) (hA : Sees w 1 A n (u8s l)) (hB : Sees w 1 B n' (u8s m)) (hl : l.length = n) (hm : m.length = n') (hn : n + n' ≤ 1000000) (hT : Tab w) :
    Calls Tryd.prog 35 #[.slice A n c, .slice B n' c'] w fun e w' => ∃ v, e = .returned v ∧ w'.ownsRow w.heap.size 5 1 v 32 (u8s (sha (l ++ m))) ∧ Below w.heap.size w w' := by
  have hal : Below w.heap.size w (w.alloc (.cells #[.slice A n c, .slice B n' c'] 35)) := (Below.refl _ _).alloc (Nat.le_refl _) _
  have hT2 := hT.below hal
  have hS := sum_any [⟨A, n, c, l⟩, ⟨B, n', c', m⟩] w.heap.size 0 2 2 (w.alloc (.cells #[.slice A n c, .slice B n' c'] 35)) rfl
    (fun j p hj => by rw [Nat.zero_add, (Blk.new w 35 #[.slice A n c, .slice B n' c']).cell]; match j, hj with | 0, hj => (simp at hj; subst hj; rfl) | 1, hj => (simp at hj; subst hj; rfl) | j + 2, hj => (simp at hj))
    (fun p hp => by simp only [List.mem_cons, List.not_mem_nil, or_false] at hp; rcases hp with rfl | rfl; exact ⟨hA.below hal, hl⟩; exact ⟨hB.below hal, hm⟩)
    (by simp [cat]; omega) (by omega) hT2.k hT2.h hT2.lt (by simp)
  have hc : cat [⟨A, n, c, l⟩, ⟨B, n', c', m⟩] = l ++ m := by simp [cat]
  rw [hc] at hS
  have HS := Lib.hid hS; clear hS hA hB hT hT2 hc
  go_enter Tryd.func35, Tryd.ntmps35
  go_wp2_with fail
  refine HS.out.mono ?_
  rintro e w' ⟨v, rfl, h1, h2⟩
  go_wp2_with fail
  go_ret
  have h3 : w.heap.size ≤ (w.alloc (.cells #[.slice A n c, .slice B n' c'] 35)).heap.size := hal.size
  exact ⟨v, rfl, own_base h1 h3, hal.trans (h2.mono h3)⟩
end Go.Proofs.YtldgnckchlbadaaDoor
