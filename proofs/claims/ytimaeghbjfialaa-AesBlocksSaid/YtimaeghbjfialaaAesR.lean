/-
  The document's product and box, in plain numbers, and that they are the code's. No program in sight.
-/
import Derived.Test.YtimaeghbjfialaaAesN
namespace Go.Proofs.Ytimaeghbjfialaa

/-- i bits are multiplied. -/
def rm1 (a b : Nat) : Nat → Nat
  | 0 => 0
  | i + 1 => rm1 a b i ^^^ (a * 2 ^ i) * (b / 2 ^ i % 2)
/-- j bits are reduced. -/
def rm2 (p : Nat) : Nat → Nat
  | 0 => p
  | j + 1 => rm2 p j ^^^ (283 * 2 ^ (6 - j)) * (rm2 p j / 2 ^ (14 - j) % 2)
def rmul (a b : Nat) : Nat := rm2 (rm1 a b 8) 7

theorem bit_lt (x : Nat) : x % 2 < 2 := Nat.mod_lt _ (by decide)
theorem bit_xor (x y i : Nat) : (x ^^^ y) / 2 ^ i % 2 = (x / 2 ^ i % 2) ^^^ (y / 2 ^ i % 2) := by
  rw [Nat.xor_div_two_pow]; exact Nat.xor_mod_two_pow (n := 1)
theorem mul_bit_xor (x y b : Nat) : (x ^^^ y) * (b % 2) = x * (b % 2) ^^^ y * (b % 2) := by
  rcases Nat.mod_two_eq_zero_or_one b with e | e <;> rw [e] <;> simp
theorem rm1_xr (a b c : Nat) : ∀ i, rm1 a (b ^^^ c) i = rm1 a b i ^^^ rm1 a c i
  | 0 => by show 0 = 0 ^^^ 0; decide
  | i + 1 => by rw [rm1, rm1, rm1, rm1_xr a b c i, bit_xor, bits_xor _ (bit_lt _) (bit_lt _), xor_four]
theorem rm1_xl (a b c : Nat) : ∀ i, rm1 (a ^^^ b) c i = rm1 a c i ^^^ rm1 b c i
  | 0 => by show 0 = 0 ^^^ 0; decide
  | i + 1 => by
    have h : (a ^^^ b) * 2 ^ i = a * 2 ^ i ^^^ b * 2 ^ i := by
      have := Nat.shiftLeft_xor_distrib (i := i) (a := a) (b := b)
      simpa [Nat.shiftLeft_eq] using this
    rw [rm1, rm1, rm1, rm1_xl a b c i, h, mul_bit_xor, xor_four]
theorem rm2_x (p q : Nat) : ∀ j, rm2 (p ^^^ q) j = rm2 p j ^^^ rm2 q j
  | 0 => rfl
  | j + 1 => by rw [rm2, rm2, rm2, rm2_x p q j, bit_xor, bits_xor _ (bit_lt _) (bit_lt _), xor_four]
theorem rmul_basis : basis (fun i => basis (fun j => rmul (2 ^ i) (2 ^ j) == mul (2 ^ i) (2 ^ j))) = true := by decide +kernel
theorem rmul_eq {a b : Nat} (ha : a < 256) (hb : b < 256) : rmul a b = mul a b :=
  lin_ext (f := fun x => rmul x b) (g := fun x => mul x b) (fun x y _ _ => by show rm2 (rm1 (x ^^^ y) b 8) 7 = _; rw [rm1_xl, rm2_x]; rfl) (fun x y hx hy => mul_xl b hx hy)
    (fun i hi => lin_ext (f := fun y => rmul (2 ^ i) y) (g := fun y => mul (2 ^ i) y) (fun x y _ _ => by show rm2 (rm1 (2 ^ i) (x ^^^ y) 8) 7 = _; rw [rm1_xr, rm2_x]; rfl) (fun x y _ _ => mul_xr _ x y)
      (fun j hj => beq_iff_eq.1 (of_basis (of_basis rmul_basis i hi) j hj)) b hb) a ha

theorem bit_le (x b : Nat) : x * (b % 2) ≤ x := by
  rcases Nat.mod_two_eq_zero_or_one b with e | e <;> rw [e] <;> simp
theorem rm1_lt {a : Nat} (b : Nat) (ha : a < 256) : ∀ i, i ≤ 8 → rm1 a b i < 32768
  | 0, _ => by show 0 < 32768; decide
  | i + 1, h => by
    refine Nat.xor_lt_two_pow (n := 15) (rm1_lt b ha i (by omega)) (Nat.lt_of_le_of_lt (bit_le _ _) ?_)
    have : 2 ^ i ≤ 2 ^ 7 := Nat.pow_le_pow_right (by decide) (by omega)
    have := Nat.mul_le_mul (show a ≤ 255 by omega) this
    exact Nat.lt_of_le_of_lt this (by decide)
theorem rm2_lt {p : Nat} (hp : p < 32768) : ∀ j, rm2 p j < 32768
  | 0 => hp
  | j + 1 => by
    refine Nat.xor_lt_two_pow (n := 15) (rm2_lt hp j) (Nat.lt_of_le_of_lt (bit_le _ _) ?_)
    have : 2 ^ (6 - j) ≤ 2 ^ 6 := Nat.pow_le_pow_right (by decide) (by omega)
    have := Nat.mul_le_mul (show 283 ≤ 283 by omega) this
    exact Nat.lt_of_le_of_lt this (by decide)

/-! ### The document's box -/
/-- The inverse as far as i has been looked at. -/
def ivg (c i : Nat) : Nat := if c ≠ 0 ∧ inv c < i then inv c else 0
theorem ivg_start {c : Nat} (hc : c < 256) : ivg c 1 = 0 := if_neg fun h => by have := inv_pos hc h.1; omega
theorem ivg_end {c : Nat} (hc : c < 256) : ivg c 256 = inv c := by
  unfold ivg
  by_cases h : c = 0
  · rw [if_neg (fun h' => h'.1 h), h, inv_zero]
  · rw [if_pos ⟨h, inv_lt hc⟩]
theorem ivg_hit {c i : Nat} (hc : c < 256) (hi : i < 256) (h : mul c i = 1) : ivg c (i + 1) = i := by
  obtain ⟨h0, rfl⟩ := (inv_only hc hi).1 h
  exact if_pos ⟨h0, Nat.lt_succ_self _⟩
theorem ivg_miss {c i : Nat} (hc : c < 256) (hi : i < 256) (h : mul c i ≠ 1) : ivg c (i + 1) = ivg c i := by
  unfold ivg
  by_cases h0 : c ≠ 0
  · by_cases h2 : inv c < i
    · rw [if_pos ⟨h0, by omega⟩, if_pos ⟨h0, h2⟩]
    · rw [if_neg (fun h' => by
        have h3 : i = inv c := by omega
        exact h ((inv_only hc hi).2 ⟨h0, h3⟩)), if_neg (fun h' => h2 h'.2)]
  · rw [if_neg (fun h' => h0 h'.1), if_neg (fun h' => h0 h'.1)]
/-- k terms of bit i. -/
def btg (v i : Nat) : Nat → Nat
  | 0 => 99 / 2 ^ i % 2
  | k + 1 => if k = 0 ∨ 4 ≤ k then btg v i k ^^^ (v / 2 ^ ((i + k) % 8) % 2) else btg v i k
/-- i bits. -/
def otg (v : Nat) : Nat → Nat
  | 0 => 0
  | i + 1 => otg v i + btg v i 8 * 2 ^ i
theorem btg_lt (v i : Nat) : ∀ k, btg v i k < 2
  | 0 => bit_lt _
  | k + 1 => by
    rw [btg]
    split
    · exact Nat.xor_lt_two_pow (n := 1) (btg_lt v i k) (bit_lt _)
    · exact btg_lt v i k
theorem otg_lt (v : Nat) : ∀ i, otg v i < 2 ^ i
  | 0 => by show 0 < 1; decide
  | i + 1 => by
    have h1 := otg_lt v i
    have h2 := btg_lt v i 8
    have h3 : btg v i 8 * 2 ^ i ≤ 2 ^ i := by
      have : btg v i 8 = 0 ∨ btg v i 8 = 1 := by omega
      rcases this with e | e <;> rw [e] <;> omega
    rw [otg, Nat.pow_succ]
    omega
theorem otg_aff {v : Nat} (hv : v < 256) : otg v 8 = aff v := beq_iff_eq.1 (all256 (p := fun v => otg v 8 == aff v) (by decide +kernel) v hv)
theorem otg_box {c : Nat} (hc : c < 256) : otg (inv c) 8 = box c := otg_aff (inv_lt hc)

/-! ### All boxes, by powers of 3 -/
def ex3 : List Nat := [1, 3, 5, 15, 17, 51, 85, 255, 26, 46, 114, 150, 161, 248, 19, 53, 95, 225, 56, 72, 216, 115, 149, 164, 247, 2, 6, 10, 30, 34, 102, 170, 229, 52, 92, 228, 55, 89, 235, 38, 106, 190, 217, 112, 144, 171, 230, 49, 83, 245, 4, 12, 20, 60, 68, 204, 79, 209, 104, 184, 211, 110, 178, 205, 76, 212, 103, 169, 224, 59, 77, 215, 98, 166, 241, 8, 24, 40, 120, 136, 131, 158, 185, 208, 107, 189, 220, 127, 129, 152, 179, 206, 73, 219, 118, 154, 181, 196, 87, 249, 16, 48, 80, 240, 11, 29, 39, 105, 187, 214, 97, 163, 254, 25, 43, 125, 135, 146, 173, 236, 47, 113, 147, 174, 233, 32, 96, 160, 251, 22, 58, 78, 210, 109, 183, 194, 93, 231, 50, 86, 250, 21, 63, 65, 195, 94, 226, 61, 71, 201, 64, 192, 91, 237, 44, 116, 156, 191, 218, 117, 159, 186, 213, 100, 172, 239, 42, 126, 130, 157, 188, 223, 122, 142, 137, 128, 155, 182, 193, 88, 232, 35, 101, 175, 234, 37, 111, 177, 200, 67, 197, 84, 252, 31, 33, 99, 165, 244, 7, 9, 27, 45, 119, 153, 176, 203, 70, 202, 69, 207, 74, 222, 121, 139, 134, 145, 168, 227, 62, 66, 198, 81, 243, 14, 18, 54, 90, 238, 41, 123, 141, 140, 143, 138, 133, 148, 167, 242, 13, 23, 57, 75, 221, 124, 132, 151, 162, 253, 28, 36, 108, 180, 199, 82, 246, 1]
def lg3 : List Nat := [0, 0, 25, 1, 50, 2, 26, 198, 75, 199, 27, 104, 51, 238, 223, 3, 100, 4, 224, 14, 52, 141, 129, 239, 76, 113, 8, 200, 248, 105, 28, 193, 125, 194, 29, 181, 249, 185, 39, 106, 77, 228, 166, 114, 154, 201, 9, 120, 101, 47, 138, 5, 33, 15, 225, 36, 18, 240, 130, 69, 53, 147, 218, 142, 150, 143, 219, 189, 54, 208, 206, 148, 19, 92, 210, 241, 64, 70, 131, 56, 102, 221, 253, 48, 191, 6, 139, 98, 179, 37, 226, 152, 34, 136, 145, 16, 126, 110, 72, 195, 163, 182, 30, 66, 58, 107, 40, 84, 250, 133, 61, 186, 43, 121, 10, 21, 155, 159, 94, 202, 78, 212, 172, 229, 243, 115, 167, 87, 175, 88, 168, 80, 244, 234, 214, 116, 79, 174, 233, 213, 231, 230, 173, 232, 44, 215, 117, 122, 235, 22, 11, 245, 89, 203, 95, 176, 156, 169, 81, 160, 127, 12, 246, 111, 23, 196, 73, 236, 216, 67, 31, 45, 164, 118, 123, 183, 204, 187, 62, 90, 251, 96, 177, 134, 59, 82, 161, 108, 170, 85, 41, 157, 151, 178, 135, 144, 97, 190, 220, 252, 188, 149, 207, 205, 55, 63, 91, 209, 83, 57, 132, 60, 65, 162, 109, 71, 20, 42, 158, 93, 86, 242, 211, 171, 68, 17, 146, 217, 35, 32, 46, 137, 180, 124, 184, 38, 119, 153, 227, 165, 103, 74, 237, 222, 197, 49, 254, 24, 13, 99, 140, 128, 192, 247, 112, 7]
def ex (k : Nat) : Nat := ex3.getD k 0
def lg (v : Nat) : Nat := lg3.getD v 0
theorem ex_next : ∀ k, k < 255 → ex (k + 1) = mul (ex k) 3 ∧ ex k < 256 ∧ lg (ex k) = k ∧ ex k ≠ 0 := by
  have h : (List.range 255).all (fun k => ex (k + 1) == mul (ex k) 3 && decide (ex k < 256) && lg (ex k) == k && decide (ex k ≠ 0)) = true := by decide +kernel
  intro k hk
  have := List.all_eq_true.1 h k (List.mem_range.2 hk)
  simpa [and_assoc] using this
theorem lg_ok : ∀ v, v < 256 → v ≠ 0 → ex (lg v) = v ∧ lg v < 255 := by
  have h : (List.range 256).all (fun v => v == 0 || (ex (lg v) == v && decide (lg v < 255))) = true := by decide +kernel
  intro v hv h0
  have := List.all_eq_true.1 h v (List.mem_range.2 hv)
  simpa [h0] using this
/-- k powers are laid; and their logarithms. -/
def exg (k : Nat) : List Nat := tab 256 fun j => if j < k then ex j else 0
def lgg (k : Nat) : List Nat := tab 256 fun v => if v ≠ 0 ∧ lg v < k then lg v else 0
theorem exg_next (k : Nat) : (exg k).set k (ex k) = exg (k + 1) := by
  rw [exg, tab_set]
  refine tab_ext fun j _ => ?_
  by_cases e : j = k
  · subst e; simp
  · rw [if_neg e]
    by_cases h : j < k
    · rw [if_pos h, if_pos (by omega)]
    · rw [if_neg h, if_neg (by omega)]
theorem lgg_next {k : Nat} (hk : k < 255) : (lgg k).set (ex k) k = lgg (k + 1) := by
  obtain ⟨_, _, h3, h4⟩ := ex_next k hk
  rw [lgg, tab_set]
  refine tab_ext fun j hj => ?_
  by_cases e : j = ex k
  · subst e
    rw [if_pos rfl, if_pos ⟨h4, by omega⟩, h3]
  · rw [if_neg e]
    by_cases h0 : j = 0
    · rw [if_neg (fun h => h.1 h0), if_neg (fun h => h.1 h0)]
    · by_cases h : lg j < k
      · rw [if_pos ⟨h0, h⟩, if_pos ⟨h0, by omega⟩]
      · rw [if_neg (fun h' => h h'.2), if_neg (fun h' => e (by
          have h5 : lg j = k := by omega
          rw [← h5, (lg_ok j hj h0).1]))]
/-- The c-th inverse, by logarithms. -/
def iv3 (c : Nat) : Nat := if c = 0 then 0 else (exg 255).getD ((255 - (lgg 255).getD c 0) % 255) 0
theorem iv3_eq {c : Nat} (hc : c < 256) : iv3 c = inv c := by
  unfold iv3
  by_cases h0 : c = 0
  · rw [if_pos h0, h0, inv_zero]
  · have h : (List.range 256).all (fun c => c == 0 || (ex ((255 - lg c) % 255) == inv c)) = true := by decide +kernel
    have h2 := List.all_eq_true.1 h c (List.mem_range.2 hc)
    have h3 : ex ((255 - lg c) % 255) = inv c := by simpa [h0] using h2
    have h5 := (lg_ok c hc h0).2
    have h4 : (lgg 255).getD c 0 = lg c := by
      have e : (lgg 255).getD c 0 = _ := tab_get _ hc
      rw [e, if_pos ⟨h0, h5⟩]
    have h6 : (255 - lg c) % 255 < 255 := Nat.mod_lt _ (by decide)
    have e : (exg 255).getD ((255 - lg c) % 255) 0 = _ := tab_get _ (by omega)
    rw [if_neg h0, h4, e, if_pos h6, h3]
/-- Turned k times, and summed up. -/
def tu (v : Nat) : Nat → Nat
  | 0 => v
  | k + 1 => (tu v k * 2 + tu v k / 128) % 256
def ys (v : Nat) : Nat → Nat
  | 0 => 99 ^^^ v
  | k + 1 => ys v k ^^^ tu v (k + 1)
theorem tu_lt {v : Nat} (hv : v < 256) : ∀ k, tu v k < 256
  | 0 => hv
  | k + 1 => Nat.mod_lt _ (by decide)
theorem ys_lt {v : Nat} (hv : v < 256) : ∀ k, ys v k < 256
  | 0 => xor_lt (by omega) hv
  | k + 1 => xor_lt (ys_lt hv k) (tu_lt hv _)
theorem ys_aff {v : Nat} (hv : v < 256) : ys v 4 = aff v := beq_iff_eq.1 (all256 (p := fun v => ys v 4 == aff v) (by decide +kernel) v hv)
theorem ys_box {c : Nat} (hc : c < 256) : ys (inv c) 4 = sb c := by rw [ys_aff (inv_lt hc), sb_box hc]; rfl
end Go.Proofs.Ytimaeghbjfialaa
