/-
  shred.
-/
import Derived.Test.YtnlghpopjckhiaaKey3
namespace Go.Proofs.Ytnlghpopjckhiaa
set_option maxRecDepth 4000
open Go.RowKit

def zer : List UInt8 := List.replicate 128 0
theorem zer_len : zer.length = 128 := by decide
theorem Dk.lay_queue (D : Dk) (a : Nat) (l : List UInt8) : (D.lay a l).queue.length ≤ D.queue.length + 1 := by
  unfold Dk.lay
  split
  · omega
  · split
    · simp [Dk.push, parts]
    · simp [Dk.flushed]
theorem Dk.lay_length (D : Dk) (h : D.Ok) (a : Nat) (l : List UInt8) (hl : 128 ≤ l.length) (ha : (a + 1) * 128 ≤ D.safe.length) : (D.lay a l).safe.length = D.safe.length := by
  unfold Dk.lay
  split
  · rfl
  · split
    · rfl
    · have := (h.push a l 1 (by omega) ha).image
      exact this
/-- Both copies are laid. -/
def Dk.two (D : Dk) (a : Nat) (l : List UInt8) : Dk := if D.layOk then (D.lay a l).lay (a + 1) l else D.lay a l
def Dk.twoOk (D : Dk) (a : Nat) (l : List UInt8) : Bool := D.layOk && (D.lay a l).layOk

set_option maxHeartbeats 1000000 in
theorem shred_one (t b sg : Nat) (f : Nat) (E : List (Option Ke)) (dead : Bool) (D : Dk) (F K G : Nat → Prop) (i : Nat) (w : World)
    (h : KSt w t b sg f E dead D F K G) (hok : D.Ok) (hq : D.queue.length ≤ 900) (hf : f ≤ 1000000) (hi : i ≤ 1000000) (hfit : (f + 2 * i + 1 + 1) * 128 ≤ D.safe.length) :
    Calls Try.prog 25 #[.pointer (some ⟨t, 0, none⟩), .int .i64 i, .int .i64 1] w fun e w' => (∃ v, e = .returned v ∧ ErrIs D.layOk v) ∧ KTo w G t b sg f E (dead || !D.layOk) (D.lay (f + 2 * i + 1) zer) w' := by
  have hmk := make_bytes 128 (by omega)
  obtain ⟨Z, hZ⟩ : ∃ z : Array Value, z = (u8s (List.replicate 128 0)).toArray := ⟨_, rfl⟩
  rw [← hZ] at hmk
  replace hmk : ∀ W : World, (Instr.makeSlice 37 (.int .i64 128) (.int .i64 128)).run Try.prog W = .ok (.slice (some ⟨W.heap.size, 0, none⟩) 128 128) (W.alloc (.cells Z 5)) := hmk
  have hal : Below w.heap.size w (w.alloc (.cells Z 5)) := (Below.refl _ _).alloc (Nat.le_refl _) _
  have HL := Lib.hid (lay_any t b sg f E dead D F K G i 1 (some ⟨w.heap.size, 0, none⟩) 128 zer _ (h.below hal) hok (by omega) zer_len (by omega) (by decide)
    (by rw [hZ]; exact sees_mark w 5 (0, 0) (u8s zer) 128 (by rw [length_u8s, zer_len])) (fun a ha hF => by injection ha with ha; subst ha; exact Nat.lt_irrefl _ (h.fin _ hF).2) hf hi (by omega) hfit)
  have HB := Lib.hid hal
  clear h hok hq hfit hal hZ
  generalize D.layOk = ok at *
  generalize D.lay (f + 2 * i + 1) zer = D' at *
  go_enter Try.func25, Try.ntmps25
  go_wp2_with fail
  refine wp_loop_rounds 2 ?_
  rw [rounds_succ]
  go_wp2_with (simp only [hmk])
  refine HL.out.mono ?_
  rintro e w1 ⟨⟨v, rfl, hv⟩, hto⟩
  have HT := Lib.hid (KTo.after (Fr.of_below HB.out G) (fun _ _ h => h) hto)
  clear hto HL HB
  rcases hv with ⟨rfl, rfl⟩ | ⟨rfl, g, rfl⟩
  · go_wp2_with fail
    rw [rounds_succ]
    go_wp2_with fail
    go_ret
    exact ⟨⟨_, rfl, .inl ⟨rfl, rfl⟩⟩, HT.out⟩
  · go_wp2_with fail
    go_ret
    exact ⟨⟨_, rfl, .inr ⟨rfl, g, rfl⟩⟩, HT.out⟩

set_option maxHeartbeats 1000000 in
theorem shred_two (t b sg : Nat) (f : Nat) (E : List (Option Ke)) (dead : Bool) (D : Dk) (F K G : Nat → Prop) (i : Nat) (w : World)
    (h : KSt w t b sg f E dead D F K G) (hok : D.Ok) (hq : D.queue.length ≤ 900) (hf : f ≤ 1000000) (hi : i ≤ 1000000) (hfit : (f + 2 * i + 1 + 1) * 128 ≤ D.safe.length) :
    Calls Try.prog 25 #[.pointer (some ⟨t, 0, none⟩), .int .i64 i, .int .i64 0] w fun e w' => (∃ v, e = .returned v ∧ ErrIs (D.twoOk (f + 2 * i) zer) v) ∧ KTo w G t b sg f E (dead || !(D.twoOk (f + 2 * i) zer)) (D.two (f + 2 * i) zer) w' := by
  have q1 : D.queue.length ≤ 1000 := Nat.le_trans hq (by decide)
  have q2 : (f + 2 * i + 0 + 1) * 128 ≤ D.safe.length := Nat.le_trans (Nat.mul_le_mul_right _ (by omega)) hfit
  have q3 : (f + 2 * i + 1) * 128 ≤ D.safe.length := q2
  have hl1 := hok.lay (f + 2 * i) zer (Nat.le_of_eq zer_len.symm) q3
  have hl2 := D.lay_length hok (f + 2 * i) zer (Nat.le_of_eq zer_len.symm) q3
  have hl3 := D.lay_queue (f + 2 * i) zer
  obtain ⟨D', hD'⟩ : ∃ D', D' = D.lay (f + 2 * i) zer := ⟨_, rfl⟩
  unfold Dk.two Dk.twoOk
  rw [← hD'] at hl1 hl2 hl3 ⊢
  have q4 : D'.queue.length ≤ 1000 := Nat.le_trans hl3 (Nat.le_trans (Nat.succ_le_succ hq) (by decide))
  have q5 : (f + 2 * i + 1 + 1) * 128 ≤ D'.safe.length := hl2 ▸ hfit
  have hmk := make_bytes 128 (by omega)
  obtain ⟨Z, hZ⟩ : ∃ z : Array Value, z = (u8s (List.replicate 128 0)).toArray := ⟨_, rfl⟩
  rw [← hZ] at hmk
  replace hmk : ∀ W : World, (Instr.makeSlice 37 (.int .i64 128) (.int .i64 128)).run Try.prog W = .ok (.slice (some ⟨W.heap.size, 0, none⟩) 128 128) (W.alloc (.cells Z 5)) := hmk
  have hal : ∀ W : World, Below W.heap.size W (W.alloc (.cells Z 5)) := fun W => (Below.refl _ _).alloc (Nat.le_refl _) _
  have hLay : ∀ (D : Dk) (dead : Bool) (F K G : Nat → Prop) (wh : Nat) (w : World), KSt w t b sg f E dead D F K G → D.Ok → D.queue.length ≤ 1000 → wh ≤ 1 → (f + 2 * i + wh + 1) * 128 ≤ D.safe.length →
      Calls Try.prog 29 #[.pointer (some ⟨t, 0, none⟩), .int .i64 i, .int .i64 wh, .slice (some ⟨w.heap.size, 0, none⟩) 128 128] (w.alloc (.cells Z 5)) fun e w' => (∃ v, e = .returned v ∧ ErrIs D.layOk v) ∧ KTo (w.alloc (.cells Z 5)) G t b sg f E (dead || !D.layOk) (D.lay (f + 2 * i + wh) zer) w' :=
    fun D dead F K G wh w h hok hq hw hfit => lay_any t b sg f E dead D F K G i wh (some ⟨w.heap.size, 0, none⟩) 128 zer _ (h.below (hal w)) hok hq zer_len (by omega) (by decide)
      (by rw [hZ]; exact sees_mark w 5 (0, 0) (u8s zer) 128 (by rw [length_u8s, zer_len])) (fun a ha hF => by injection ha with ha; subst ha; exact Nat.lt_irrefl _ (h.fin _ hF).2) hf hi hw hfit
  have HAL := Lib.hid hal
  have hL0 := hLay D dead F K G 0 w h hok q1 (Nat.zero_le _) q2
  rw [Nat.add_zero, ← hD'] at hL0
  have HL := Lib.hid hL0
  have HL1 := Lib.hid (fun F K G w h => hLay D' dead F K G 1 w h hl1 q4 (Nat.le_refl _) q5)
  clear hL0 hD' q1 q2 q3 q4 q5 hl1 hl2 hl3
  clear h hok hq hfit hZ hLay hal
  generalize D.layOk = ok at *
  generalize D'.lay (f + 2 * i + 1) zer = D2 at *
  generalize D'.layOk = ok2 at *
  go_enter Try.func25, Try.ntmps25
  go_wp2_with fail
  refine wp_loop_rounds 3 ?_
  rw [rounds_succ]
  go_wp2_with (simp only [hmk])
  refine HL.out.mono ?_
  rintro e w1 ⟨⟨v, rfl, hv⟩, hto⟩
  have HT := Lib.hid (KTo.after (Fr.of_below (HAL.out _) G) (fun _ _ h => h) hto)
  clear hto HL
  rcases hv with ⟨rfl, rfl⟩ | ⟨rfl, g, rfl⟩
  · rw [Bool.not_true, Bool.or_false] at HT
    obtain ⟨F1, K1, G1, st1, fr1, sub1⟩ := HT.out
    have HX := Lib.hid (HL1.out F1 K1 G1 w1 st1)
    have H1 := Lib.hid (And.intro fr1 sub1)
    clear HT HL1 st1 fr1 sub1
    go_wp2_with fail
    rw [rounds_succ]
    go_wp2_with (simp only [hmk])
    refine HX.out.mono ?_
    rintro e w2 ⟨⟨v, rfl, hv⟩, hto⟩
    have HT := Lib.hid (KTo.after H1.out.1 H1.out.2 (KTo.after (Fr.of_below (HAL.out _) G1) (fun _ _ h => h) hto))
    clear hto HX H1
    rcases hv with ⟨rfl, rfl⟩ | ⟨rfl, g, rfl⟩
    · go_wp2_with fail
      rw [rounds_succ]
      go_wp2_with fail
      go_ret
      exact ⟨⟨_, rfl, .inl ⟨rfl, rfl⟩⟩, by simpa using HT.out⟩
    · go_wp2_with fail
      go_ret
      exact ⟨⟨_, rfl, .inr ⟨rfl, g, rfl⟩⟩, by simpa using HT.out⟩
  · go_wp2_with fail
    go_ret
    exact ⟨⟨_, rfl, .inr ⟨rfl, g, rfl⟩⟩, by simpa using HT.out⟩
end Go.Proofs.Ytnlghpopjckhiaa
