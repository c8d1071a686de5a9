/-
  small; pigeons.
-/
import Derived.Test.YtnlghpopjckhiaaActArg
namespace Go.Proofs.Ytnlghpopjckhiaa
set_option maxRecDepth 4000
open Go.RowKit

theorem smalls_any (l : List Ac) (A : Option Addr) (c : Nat) (most : Nat) (w : World) (hS : Sees w 5 A l.length (acs l)) (hok : ∀ y ∈ l, AcOk y) (hm : most ≤ 1000) (hl : l.length ≤ maxLen) :
    Calls Try.prog 6 #[.slice A l.length c, .int .i64 most] w fun e w' => (e = .returned (.bool false) ∨ (e = .returned (.bool true) ∧ Hid (l.length ≤ most))) ∧ Below w.heap.size w w' := by
  unfold maxLen at hl
  have H := Lib.hid (And.intro hS hok)
  clear hS hok
  by_cases hlm : l.length ≤ most
  · have hi : ¬ ((most : Int) < (l.length : Int)) := by omega
    have HLM := Lib.hid hlm
    clear hlm
    go_enter Try.func6, Try.ntmps6
    go_wp2_with fail
    go_loopw [5] (fun i wr => ∃ j : Nat, i = .int .i64 j ∧ j ≤ l.length ∧ Hid (Below w.heap.size w wr)) (fun i _ => l.length - (intOf i).toNat)
    case atStart => exact ⟨0, rfl, Nat.zero_le _, Lib.hid (Below.refl _ _)⟩
    case round =>
      obtain ⟨j, rfl, hj, hr⟩ := hrel
      by_cases hlt : j < l.length
      · have hget : l[j]? = some (l[j]'hlt) := List.getElem?_eq_getElem hlt
        generalize l[j] = y at hget
        obtain ⟨g, o, rfl, q0, q1, q2, q3, q4⟩ := in_act (H.out.1.below hr.out) hget
        have hy := H.out.2 y (List.mem_of_getElem? hget)
        have m1 := hy.2.2.1
        have m2 := hy.2.2.2
        unfold maxLen at m1 m2
        clear hy hget q0 q1 q2
        by_cases h1 : y.pl ≤ 20
        · have h1' : ¬ ((20 : Int) < (y.pl : Int)) := by omega
          by_cases h2 : y.kl ≤ 50
          · have h2' : ¬ ((50 : Int) < (y.kl : Int)) := by omega
            go_wp2_with fail
            go_roundw
            case rel => exact ⟨j + 1, by go_num, by omega, hr⟩
            case measure => simp [intOf]; omega
          · have h2' : ((50 : Int) < (y.kl : Int)) := by omega
            go_wp2_with fail
            go_ret
            exact ⟨.inl rfl, hr.out⟩
        · have h1' : ((20 : Int) < (y.pl : Int)) := by omega
          go_wp2_with fail
          go_ret
          exact ⟨.inl rfl, hr.out⟩
      · obtain rfl : j = l.length := by omega
        go_wp2_with fail
        go_ret
        exact ⟨.inr ⟨rfl, HLM⟩, hr.out⟩
  · have hi : ((most : Int) < (l.length : Int)) := by omega
    go_enter Try.func6, Try.ntmps6
    go_wp2_with fail
    go_ret
    exact ⟨.inl rfl, Below.refl _ _⟩

theorem pig : ∀ (n : Nat) (l : List Nat), l.Nodup → (∀ x ∈ l, x < n) → l.length ≤ n
  | 0, l, _, h => by
    match l, h with
    | [], _ => exact Nat.le_refl _
    | x :: l, h => exact absurd (h x (by simp)) (Nat.not_lt_zero _)
  | n + 1, l, hn, h => by
    by_cases hm : n ∈ l
    · have h1 := pig n (l.erase n) (hn.erase n) (fun x hx => by
        have h2 := (hn.mem_erase_iff).1 hx
        have := h x h2.2
        have := h2.1
        omega)
      rw [List.length_erase_of_mem hm] at h1
      omega
    · have h1 := pig n l hn (fun x hx => by
        have := h x hx
        have : x ≠ n := fun e => hm (e ▸ hx)
        omega)
      omega

/-- The law's key of a bucket. -/
def kof (b : Nat) : List UInt8 := keyc (UInt8.ofNat (40 * b))
end Go.Proofs.Ytnlghpopjckhiaa
