/-
  heap.up.
-/
import Derived.Test.YtaapdkeipknilaaDue5
import Derived.Test.YtaapdkeipknilaaDueP
namespace Go.Proofs.Ytaapdkeipknilaa
set_option maxRecDepth 4000
open Go.RowKit

theorem HAt.len {w : World} {q n : Nat} {A : Option Addr} {c : Nat} {l : List (Int × Int)} (h : HAt w q (.slice A n c) l) : n = l.length := by
  obtain ⟨_, _, e⟩ := h.shape
  injection e
theorem hless {w : World} {q g n c : Nat} {l : List (Int × Int)} (h : HAt w q (.slice (some ⟨g, 0, none⟩) n c) l) (i j : Nat) (hi : i < l.length) (hj : j < l.length) (hl : l.length ≤ 1000) :
    Calls Try.prog 72 #[.slice (some ⟨g, 0, none⟩) n c, .int .i64 i, .int .i64 j] w fun e w' => e = .returned (.bool (decide (¬ LE (gg l j) (gg l i)))) ∧ Below w.heap.size w w' := by
  have hn := h.len
  subst hn
  refine (less_any l _ c i j _ _ w (Sees.of_own h.row) (gg_get hi) (gg_get hj) (by omega)).mono ?_
  rintro e w' ⟨rfl, hb⟩
  exact ⟨by rw [decide_eq_decide.2 (cmpD_neg _ _)], hb⟩
theorem hswap {w : World} {q g n c : Nat} {l : List (Int × Int)} (h : HAt w q (.slice (some ⟨g, 0, none⟩) n c) l) (i j : Nat) (hi : i < l.length) (hj : j < l.length) (hl : l.length ≤ 1000) :
    Calls Try.prog 73 #[.slice (some ⟨g, 0, none⟩) n c, .int .i64 i, .int .i64 j] w fun e w' => e = .returned (.tuple #[]) ∧ HAt w' q (.slice (some ⟨g, 0, none⟩) n c) (sw l i j) ∧ Fr (QF q (.slice (some ⟨g, 0, none⟩) n c)) w w' := by
  have hn := h.len
  have hap := h.apart
  refine (swap_any l g n c i j _ _ w hn (by rw [hn]; have := h.row; rwa [hn] at this) (gg_get hi) (gg_get hj) (by omega)).mono ?_
  rintro e w' ⟨rfl, ho, hf⟩
  refine ⟨rfl, ⟨h.top.fr hf (fun e => hap (by rw [e]; rfl)), ?_⟩, hf.mono (fun k _ e => .inr (by rw [e]; rfl))⟩
  rw [sw_length]
  rw [← hn]
  exact ho
theorem hcell {w : World} {q : Nat} {v : Value} {l : List (Int × Int)} (h : HAt w q v l) : w.cell? ⟨q, 0, none⟩ = some v := h.cell
set_option maxHeartbeats 1000000 in
theorem up_any (q : Nat) (v : Value) (l : List (Int × Int)) (n j : Nat) (w : World) (h : HAt w q v l) (hu : Up l n j) (hj : j < n) (hn : n ≤ l.length) (hl : l.length ≤ 1000) :
    Calls Try.prog 28 #[.iface 51 (.pointer (some ⟨q, 0, none⟩)), .int .i64 j] w fun e w' => e = .returned (.tuple #[]) ∧
      ∃ l', l'.Perm l ∧ Hp l' n ∧ (∀ k, n ≤ k → gg l' k = gg l k) ∧ HAt w' q v l' ∧ Fr (QF q v) w w' := by
  obtain ⟨g, c, rfl⟩ := own_first h.row (by omega)
  have H := Lib.hid (And.intro h (And.intro hu (And.intro hj (And.intro hn hl))))
  obtain ⟨n0, hn0⟩ : ∃ n0, l.length = n0 := ⟨_, rfl⟩
  rw [hn0] at H ⊢
  clear h hu hj hn hl
  go_enter Try.func28, Try.ntmps28
  go_wp2_with fail
  go_loopw [1, 4] (fun jj _ wr => ∃ (j1 : Nat) (l1 : List (Int × Int)), jj = .int .i64 j1 ∧ l1.Perm l ∧ Up l1 n j1 ∧ j1 < n ∧ (∀ k, n ≤ k → gg l1 k = gg l k) ∧ HAt wr q (.slice (some ⟨g, 0, none⟩) n0 c) l1 ∧ Fr (QF q (.slice (some ⟨g, 0, none⟩) n0 c)) w wr) (fun jj _ _ => (intOf jj).toNat)
  case atStart => exact ⟨j, l, rfl, .refl _, H.out.2.1, H.out.2.2.1, fun _ _ => rfl, H.out.1, Fr.refl _ _⟩
  case round =>
    obtain ⟨j1, l1, rfl, hp, hu, hj, ho, ha, hf⟩ := hrel
    obtain ⟨j2, rfl⟩ | rfl : (∃ j2, j1 = j2 + 1) ∨ j1 = 0 := by cases j1 <;> simp
    · have hcell := ha.cell
      have hln : l1.length = n0 := hp.length_eq.trans hn0
      obtain ⟨p, hpp⟩ : ∃ p, j2 / 2 = p := ⟨_, rfl⟩
      have hdiv : Int.tdiv (j2 : Int) 2 = (p : Int) := by rw [← hpp]; rfl
      have hj2 : (j2 : Int) ≤ 1000 := by have := H.out; omega
      have hp2 : (p : Int) ≤ 1000 := by omega
      have hp3 : (p : Int) ≠ (j2 : Int) + 1 := by omega
      have hne : ((p : Int) == (j2 : Int) + 1) = false := by simpa using hp3
      have hm := mLess q _ wr hcell
      have hpar : (j2 + 1 - 1) / 2 = p := by omega
      have hst := hu.step (by have := H.out; omega) hj (by omega)
      have hsp := hu.stop
      rw [hpar] at hst hsp
      have HU := Lib.hid (And.intro hst (And.intro hsp (And.intro hp (And.intro ho (And.intro hf (And.intro hj hln))))))
      have HA := Lib.hid ha
      have hlp : p < l1.length := by have := H.out; omega
      have hlj : j2 + 1 < l1.length := by have := H.out; omega
      have HL := Lib.hid (And.intro hlp (And.intro hlj (show l1.length ≤ 1000 by have := H.out; omega)))
      have HW := Lib.hid (sw_perm hlp hlj)
      have HG := Lib.hid (fun k (hk : n ≤ k) => (sw_gg hlp hlj k).trans (by rw [if_neg (by have := H.out; omega), if_neg (by have := H.out; omega)]))
      clear hu hp ho hf hj hln hst hsp ha hp3 hlp hlj hpar
      go_wp2_with fail
      refine (hless HA.out (j2 + 1) p HL.out.2.1 HL.out.1 HL.out.2.2).mono ?_
      rintro e w1 ⟨rfl, hb1⟩
      have H1 := Lib.hid (And.intro (HA.out.below hb1) ((HU.out.2.2.2.2.1).trans (Fr.of_below hb1 _) (fun _ _ h => h)))
      have hm1 := mSwap q _ w1 H1.out.1.cell
      clear hb1 hm hcell
      by_cases hle : LE (gg l1 p) (gg l1 (j2 + 1))
      · have hd : decide (¬ LE (gg l1 p) (gg l1 (j2 + 1))) = false := by simpa using hle
        have HLE := Lib.hid hle
        clear hle
        go_wp2_with fail
        refine bodyPost_end (results_none rfl _ _ _) rfl ?_
        exact ⟨rfl, l1, HU.out.2.2.1, HU.out.2.1 HLE.out, HU.out.2.2.2.1, H1.out.1, H1.out.2⟩
      · have hd : decide (¬ LE (gg l1 p) (gg l1 (j2 + 1))) = true := by simpa using hle
        have HLE := Lib.hid hle
        clear hle
        go_wp2_with fail
        refine (hswap H1.out.1 p (j2 + 1) HL.out.1 HL.out.2.1 HL.out.2.2).mono ?_
        rintro e w2 ⟨rfl, ha2, hf2⟩
        have H2 := Lib.hid (And.intro ha2 (H1.out.2.trans hf2 (fun _ _ h => h)))
        clear ha2 hf2 hm1
        go_wp2_with fail
        refine ⟨⟨p, sw l1 p (j2 + 1), rfl, HW.out.trans HU.out.2.2.1, HU.out.1 HLE.out, ?_, fun k hk => (HG.out k hk).trans (HU.out.2.2.2.1 k hk), H2.out.1, H2.out.2⟩, ?_⟩
        · have := HU.out.2.2.2.2.2.1
          omega
        · simp [intOf]
          omega
    · go_wp2_with fail
      refine bodyPost_end (results_none rfl _ _ _) rfl ?_
      exact ⟨rfl, l1, hp, hu.root, ho, ha, hf⟩
end Go.Proofs.Ytaapdkeipknilaa
