/-
  The cipher's field, in plain numbers: doubling, product, inverse, box, and their laws. No program in sight.
-/
namespace Go.Proofs.Ytimaeghbjfialaa

theorem xor_lt {a b : Nat} (ha : a < 256) (hb : b < 256) : a ^^^ b < 256 := Nat.xor_lt_two_pow (n := 8) ha hb
theorem xor_lc (a b c : Nat) : a ^^^ (b ^^^ c) = b ^^^ (a ^^^ c) := by rw [← Nat.xor_assoc, Nat.xor_comm a b, Nat.xor_assoc]
theorem xor_four (a b c d : Nat) : (a ^^^ b) ^^^ (c ^^^ d) = (a ^^^ c) ^^^ (b ^^^ d) := by
  rw [Nat.xor_assoc, Nat.xor_assoc, xor_lc b c d]
theorem xor_can (a b : Nat) : a ^^^ (a ^^^ b) = b := by rw [← Nat.xor_assoc, Nat.xor_self, Nat.zero_xor]
theorem xor_inj {a b c : Nat} (h : a ^^^ b = a ^^^ c) : b = c := by rw [← xor_can a b, h, xor_can]
theorem xor_inj' {a b c : Nat} (h : b ^^^ a = c ^^^ a) : b = c := by rw [Nat.xor_comm b, Nat.xor_comm c] at h; exact xor_inj h

/-- An octet times x. -/
def dbl (a : Nat) : Nat := 2 * a % 256 ^^^ 27 * (a / 128)

theorem dbl_lt {a : Nat} (ha : a < 256) : dbl a < 256 := xor_lt (by omega) (by omega)

theorem bits_xor (k : Nat) {x y : Nat} (hx : x < 2) (hy : y < 2) : k * (x ^^^ y) = k * x ^^^ k * y := by
  have h : (x = 0 ∨ x = 1) ∧ (y = 0 ∨ y = 1) := by omega
  rcases h with ⟨rfl | rfl, rfl | rfl⟩ <;> simp

theorem dbl_xor {a b : Nat} (ha : a < 256) (hb : b < 256) : dbl (a ^^^ b) = dbl a ^^^ dbl b := by
  have h2 : (a ^^^ b) / 128 = a / 128 ^^^ b / 128 := Nat.xor_div_two_pow (n := 7)
  have hs : 2 * (a ^^^ b) = 2 * a ^^^ 2 * b := by
    have := Nat.shiftLeft_xor_distrib (i := 1) (a := a) (b := b)
    simpa [Nat.shiftLeft_eq, Nat.mul_comm] using this
  have h1 : 2 * (a ^^^ b) % 256 = 2 * a % 256 ^^^ 2 * b % 256 := by rw [hs]; exact Nat.xor_mod_two_pow (n := 8)
  unfold dbl
  rw [h1, h2, bits_xor 27 (by omega) (by omega), xor_four]

/-- The product's loop. -/
def mulg : Nat → Nat → Nat → Nat → Nat
  | 0, _, _, o => o
  | n + 1, a, b, o => mulg n (dbl a) (b / 2) (o ^^^ a * (b % 2))
def mul (a b : Nat) : Nat := mulg 8 a b 0

theorem mulg_lt : ∀ (n a b o : Nat), a < 256 → o < 256 → mulg n a b o < 256
  | 0, _, _, _, _, h => h
  | n + 1, a, b, o, ha, ho => mulg_lt n _ _ _ (dbl_lt ha) (xor_lt ho (by
      have : b % 2 = 0 ∨ b % 2 = 1 := by omega
      rcases this with h | h <;> rw [h] <;> omega))
theorem mul_lt {a : Nat} (b : Nat) (ha : a < 256) : mul a b < 256 := mulg_lt 8 a b 0 ha (by omega)

theorem mulg_zero : ∀ (n a o : Nat), mulg n a 0 o = o
  | 0, _, _ => rfl
  | n + 1, a, o => by rw [mulg]; simpa using mulg_zero n (dbl a) o

theorem mulg_xr : ∀ (n a b c o p : Nat), mulg n a (b ^^^ c) (o ^^^ p) = mulg n a b o ^^^ mulg n a c p
  | 0, _, _, _, _, _ => rfl
  | n + 1, a, b, c, o, p => by
      have h2 : (b ^^^ c) / 2 = b / 2 ^^^ c / 2 := Nat.xor_div_two_pow (n := 1)
      have h1 : (b ^^^ c) % 2 = b % 2 ^^^ c % 2 := Nat.xor_mod_two_pow (n := 1)
      rw [mulg, mulg, mulg, h2, h1, bits_xor a (by omega) (by omega), xor_four, mulg_xr n]
theorem mul_xr (a b c : Nat) : mul a (b ^^^ c) = mul a b ^^^ mul a c := mulg_xr 8 a b c 0 0

theorem mulg_xl : ∀ (n a b c o p : Nat), a < 256 → b < 256 → mulg n (a ^^^ b) c (o ^^^ p) = mulg n a c o ^^^ mulg n b c p
  | 0, _, _, _, _, _, _, _ => rfl
  | n + 1, a, b, c, o, p, ha, hb => by
      have h : (a ^^^ b) * (c % 2) = a * (c % 2) ^^^ b * (c % 2) := by
        have : c % 2 = 0 ∨ c % 2 = 1 := by omega
        rcases this with h | h <;> rw [h] <;> simp
      rw [mulg, mulg, mulg, dbl_xor ha hb, h, xor_four, mulg_xl n _ _ _ _ _ (dbl_lt ha) (dbl_lt hb)]
theorem mul_xl {a b : Nat} (c : Nat) (ha : a < 256) (hb : b < 256) : mul (a ^^^ b) c = mul a c ^^^ mul b c := mulg_xl 8 a b c 0 0 ha hb

/-- An octet is the sum of its bits. -/
def bitsum (f : Nat → Nat) (x : Nat) : Nat :=
  f (x % 2) ^^^ (f (x / 2 % 2 * 2) ^^^ (f (x / 4 % 2 * 4) ^^^ (f (x / 8 % 2 * 8) ^^^ (f (x / 16 % 2 * 16) ^^^ (f (x / 32 % 2 * 32) ^^^ (f (x / 64 % 2 * 64) ^^^ f (x / 128 % 2 * 128)))))))
theorem bitsum_id : ∀ x, x < 256 → bitsum (fun y => y) x = x := by
  have h : (List.range 256).all (fun x => bitsum (fun y => y) x == x) = true := by decide +kernel
  intro x hx
  exact beq_iff_eq.1 (List.all_eq_true.1 h x (List.mem_range.2 hx))

theorem lin_sum {f : Nat → Nat} (hf : ∀ x y, x < 256 → y < 256 → f (x ^^^ y) = f x ^^^ f y) {x : Nat} (hx : x < 256) : f x = bitsum f x := by
  have hb : ∀ k, x / k % 2 < 2 := fun k => Nat.mod_lt _ (by decide)
  have b0 := Nat.mod_lt x (by decide : 0 < 2)
  have b1 := hb 2; have b2 := hb 4; have b3 := hb 8; have b4 := hb 16; have b5 := hb 32; have b6 := hb 64; have b7 := hb 128
  have l7 : x / 128 % 2 * 128 < 256 := by omega
  have l6 := xor_lt (by omega : x / 64 % 2 * 64 < 256) l7
  have l5 := xor_lt (by omega : x / 32 % 2 * 32 < 256) l6
  have l4 := xor_lt (by omega : x / 16 % 2 * 16 < 256) l5
  have l3 := xor_lt (by omega : x / 8 % 2 * 8 < 256) l4
  have l2 := xor_lt (by omega : x / 4 % 2 * 4 < 256) l3
  have l1 := xor_lt (by omega : x / 2 % 2 * 2 < 256) l2
  rw [show f x = f (bitsum (fun y => y) x) by rw [bitsum_id x hx]]
  unfold bitsum
  have m0 : x % 2 < 256 := by omega
  have m1 : x / 2 % 2 * 2 < 256 := by omega
  have m2 : x / 4 % 2 * 4 < 256 := by omega
  have m3 : x / 8 % 2 * 8 < 256 := by omega
  have m4 : x / 16 % 2 * 16 < 256 := by omega
  have m5 : x / 32 % 2 * 32 < 256 := by omega
  have m6 : x / 64 % 2 * 64 < 256 := by omega
  rw [hf _ _ m0 l1, hf _ _ m1 l2, hf _ _ m2 l3, hf _ _ m3 l4, hf _ _ m4 l5, hf _ _ m5 l6, hf _ _ m6 l7]

theorem lin_zero {f : Nat → Nat} (hf : ∀ x y, x < 256 → y < 256 → f (x ^^^ y) = f x ^^^ f y) : f 0 = 0 := by
  have h := hf 0 0 (by omega) (by omega)
  rw [Nat.xor_self, Nat.xor_self] at h
  exact h

/-- Two that keep sums and agree at eight octets agree. -/
theorem lin_ext {f g : Nat → Nat} (hf : ∀ x y, x < 256 → y < 256 → f (x ^^^ y) = f x ^^^ f y) (hg : ∀ x y, x < 256 → y < 256 → g (x ^^^ y) = g x ^^^ g y)
    (h : ∀ i, i < 8 → f (2 ^ i) = g (2 ^ i)) : ∀ x, x < 256 → f x = g x := by
  intro x hx
  have key : ∀ k i, i < 8 → f (x / k % 2 * 2 ^ i) = g (x / k % 2 * 2 ^ i) := fun k i hi => by
    have : x / k % 2 = 0 ∨ x / k % 2 = 1 := Nat.mod_two_eq_zero_or_one _
    rcases this with e | e <;> rw [e]
    · rw [Nat.zero_mul, lin_zero hf, lin_zero hg]
    · rw [Nat.one_mul, h i hi]
  have k0 : f (x % 2) = g (x % 2) := by have := key 1 0 (by omega); simpa using this
  have k1 := key 2 1 (by omega); have k2 := key 4 2 (by omega); have k3 := key 8 3 (by omega); have k4 := key 16 4 (by omega)
  have k5 := key 32 5 (by omega); have k6 := key 64 6 (by omega); have k7 := key 128 7 (by omega)
  simp only [Nat.reducePow] at k1 k2 k3 k4 k5 k6 k7
  rw [lin_sum hf hx, lin_sum hg hx]
  unfold bitsum
  rw [k0, k1, k2, k3, k4, k5, k6, k7]

theorem pow_lt {i : Nat} (h : i < 8) : 2 ^ i < 256 := Nat.pow_lt_pow_right (by decide : 1 < 2) h
def basis (p : Nat → Bool) : Bool := (List.range 8).all p
theorem of_basis {p : Nat → Bool} (h : basis p = true) : ∀ i, i < 8 → p i = true := fun i hi => List.all_eq_true.1 h i (List.mem_range.2 hi)

theorem mul_basis : basis (fun i => basis (fun j => mul (2 ^ i) (2 ^ j) == mul (2 ^ j) (2 ^ i))) = true := by decide +kernel
theorem mul_comm {a b : Nat} (ha : a < 256) (hb : b < 256) : mul a b = mul b a :=
  lin_ext (f := fun x => mul x b) (g := fun x => mul b x) (fun x y hx hy => mul_xl b hx hy) (fun x y _ _ => mul_xr b x y)
    (fun i hi => lin_ext (f := fun y => mul (2 ^ i) y) (g := fun y => mul y (2 ^ i)) (fun x y _ _ => mul_xr _ x y) (fun x y hx hy => mul_xl _ hx hy)
      (fun j hj => beq_iff_eq.1 (of_basis (of_basis mul_basis i hi) j hj)) b hb) a ha

theorem mul_basis3 : basis (fun i => basis (fun j => basis (fun k => mul (2 ^ i) (mul (2 ^ j) (2 ^ k)) == mul (mul (2 ^ i) (2 ^ j)) (2 ^ k)))) = true := by decide +kernel
theorem mul_assoc {a b c : Nat} (ha : a < 256) (hb : b < 256) (hc : c < 256) : mul a (mul b c) = mul (mul a b) c :=
  lin_ext (f := fun x => mul x (mul b c)) (g := fun x => mul (mul x b) c) (fun x y hx hy => mul_xl _ hx hy) (fun x y hx hy => by simp only [mul_xl b hx hy]; exact mul_xl c (mul_lt b hx) (mul_lt b hy))
    (fun i hi => lin_ext (f := fun y => mul (2 ^ i) (mul y c)) (g := fun y => mul (mul (2 ^ i) y) c) (fun x y hx hy => by simp only [mul_xl c hx hy]; exact mul_xr _ _ _)
      (fun x y hx hy => by simp only [mul_xr]; exact mul_xl c (mul_lt _ (pow_lt hi)) (mul_lt _ (pow_lt hi)))
      (fun j hj => lin_ext (f := fun z => mul (2 ^ i) (mul (2 ^ j) z)) (g := fun z => mul (mul (2 ^ i) (2 ^ j)) z) (fun x y _ _ => by simp only [mul_xr]) (fun x y _ _ => by simp only [mul_xr])
        (fun k hk => beq_iff_eq.1 (of_basis (of_basis (of_basis mul_basis3 i hi) j hj) k hk)) c hc) b hb) a ha

theorem all256 {p : Nat → Bool} (h : (List.range 256).all p = true) : ∀ x, x < 256 → p x = true := fun x hx => List.all_eq_true.1 h x (List.mem_range.2 hx)
theorem mul_one {a : Nat} (ha : a < 256) : mul a 1 = a := beq_iff_eq.1 (all256 (p := fun a => mul a 1 == a) (by decide +kernel) a ha)
theorem mul_two {a : Nat} (ha : a < 256) : mul a 2 = dbl a := beq_iff_eq.1 (all256 (p := fun a => mul a 2 == dbl a) (by decide +kernel) a ha)
theorem mul_three {a : Nat} (ha : a < 256) : mul a 3 = dbl a ^^^ a := beq_iff_eq.1 (all256 (p := fun a => mul a 3 == dbl a ^^^ a) (by decide +kernel) a ha)
theorem one_mul {a : Nat} (ha : a < 256) : mul 1 a = a := by rw [mul_comm (by omega) ha, mul_one ha]
theorem zero_mul (b : Nat) : mul 0 b = 0 := by
  have h := mul_xl (a := 0) (b := 0) b (by omega) (by omega)
  rw [Nat.xor_self, Nat.xor_self] at h
  exact h

/-- The inverse's loop. -/
def invg : Nat → Nat → Nat → Nat → Nat
  | 0, _, _, o => o
  | k + 1, n, a, o => invg k (n / 2) (mul a a) (if n % 2 = 1 then mul o a else o)
def inv (a : Nat) : Nat := invg 8 254 a 1
theorem invg_zero : ∀ (k a o : Nat), invg k 0 a o = o
  | 0, _, _ => rfl
  | k + 1, a, o => by rw [invg]; simpa using invg_zero k (mul a a) o
theorem invg_lt : ∀ (k n a o : Nat), a < 256 → o < 256 → invg k n a o < 256
  | 0, _, _, _, _, h => h
  | k + 1, n, a, o, ha, ho => invg_lt k _ _ _ (mul_lt a ha) (by split; exact mul_lt a ho; exact ho)
theorem inv_lt {a : Nat} (ha : a < 256) : inv a < 256 := invg_lt 8 254 a 1 ha (by omega)
theorem inv_ok {a : Nat} (ha : a < 256) : (mul a (inv a) == (if a = 0 then 0 else 1)) = true := all256 (p := fun a => mul a (inv a) == (if a = 0 then 0 else 1)) (by decide +kernel) a ha
theorem inv_zero : inv 0 = 0 := by decide +kernel
theorem mul_inv {a : Nat} (ha : a < 256) (h0 : a ≠ 0) : mul a (inv a) = 1 := by have := beq_iff_eq.1 (inv_ok ha); rwa [if_neg h0] at this
/-- There is one inverse. -/
theorem inv_only {a i : Nat} (ha : a < 256) (hi : i < 256) : mul a i = 1 ↔ a ≠ 0 ∧ i = inv a := by
  constructor
  · intro h
    have h0 : a ≠ 0 := by rintro rfl; rw [zero_mul] at h; omega
    refine ⟨h0, ?_⟩
    have hc : mul (inv a) a = 1 := by rw [mul_comm (inv_lt ha) ha, mul_inv ha h0]
    rw [← one_mul hi, ← hc, ← mul_assoc (inv_lt ha) ha hi, h, mul_one (inv_lt ha)]
  · rintro ⟨h0, rfl⟩
    exact mul_inv ha h0
theorem inv_pos {a : Nat} (ha : a < 256) (h0 : a ≠ 0) : 0 < inv a := by
  have h := mul_inv ha h0
  rcases Nat.eq_zero_or_pos (inv a) with e | e
  · rw [e, show mul a 0 = mul 0 a from mul_comm ha (by omega), zero_mul] at h; omega
  · exact e

/-- Turned left. -/
def rotl (x k : Nat) : Nat := (x * 2 ^ k) % 256 ||| x / 2 ^ (8 - k)
def aff (x : Nat) : Nat := 99 ^^^ x ^^^ rotl x 1 ^^^ rotl x 2 ^^^ rotl x 3 ^^^ rotl x 4
def box (a : Nat) : Nat := aff (inv a)
theorem rotl_lt (x k : Nat) (hx : x < 256) : rotl x k < 256 := Nat.or_lt_two_pow (n := 8) (Nat.mod_lt _ (by decide)) (Nat.lt_of_le_of_lt (Nat.div_le_self _ _) hx)
theorem aff_lt {x : Nat} (hx : x < 256) : aff x < 256 :=
  xor_lt (xor_lt (xor_lt (xor_lt (xor_lt (by omega) hx) (rotl_lt _ _ hx)) (rotl_lt _ _ hx)) (rotl_lt _ _ hx)) (rotl_lt _ _ hx)
theorem box_lt {a : Nat} (ha : a < 256) : box a < 256 := aff_lt (inv_lt ha)

/-- The boxes, and what they are the boxes of. -/
def sbox : List Nat := [99, 124, 119, 123, 242, 107, 111, 197, 48, 1, 103, 43, 254, 215, 171, 118, 202, 130, 201, 125, 250, 89, 71, 240, 173, 212, 162, 175, 156, 164, 114, 192, 183, 253, 147, 38, 54, 63, 247, 204, 52, 165, 229, 241, 113, 216, 49, 21, 4, 199, 35, 195, 24, 150, 5, 154, 7, 18, 128, 226, 235, 39, 178, 117, 9, 131, 44, 26, 27, 110, 90, 160, 82, 59, 214, 179, 41, 227, 47, 132, 83, 209, 0, 237, 32, 252, 177, 91, 106, 203, 190, 57, 74, 76, 88, 207, 208, 239, 170, 251, 67, 77, 51, 133, 69, 249, 2, 127, 80, 60, 159, 168, 81, 163, 64, 143, 146, 157, 56, 245, 188, 182, 218, 33, 16, 255, 243, 210, 205, 12, 19, 236, 95, 151, 68, 23, 196, 167, 126, 61, 100, 93, 25, 115, 96, 129, 79, 220, 34, 42, 144, 136, 70, 238, 184, 20, 222, 94, 11, 219, 224, 50, 58, 10, 73, 6, 36, 92, 194, 211, 172, 98, 145, 149, 228, 121, 231, 200, 55, 109, 141, 213, 78, 169, 108, 86, 244, 234, 101, 122, 174, 8, 186, 120, 37, 46, 28, 166, 180, 198, 232, 221, 116, 31, 75, 189, 139, 138, 112, 62, 181, 102, 72, 3, 246, 14, 97, 53, 87, 185, 134, 193, 29, 158, 225, 248, 152, 17, 105, 217, 142, 148, 155, 30, 135, 233, 206, 85, 40, 223, 140, 161, 137, 13, 191, 230, 66, 104, 65, 153, 45, 15, 176, 84, 187, 22]
def isbox : List Nat := [82, 9, 106, 213, 48, 54, 165, 56, 191, 64, 163, 158, 129, 243, 215, 251, 124, 227, 57, 130, 155, 47, 255, 135, 52, 142, 67, 68, 196, 222, 233, 203, 84, 123, 148, 50, 166, 194, 35, 61, 238, 76, 149, 11, 66, 250, 195, 78, 8, 46, 161, 102, 40, 217, 36, 178, 118, 91, 162, 73, 109, 139, 209, 37, 114, 248, 246, 100, 134, 104, 152, 22, 212, 164, 92, 204, 93, 101, 182, 146, 108, 112, 72, 80, 253, 237, 185, 218, 94, 21, 70, 87, 167, 141, 157, 132, 144, 216, 171, 0, 140, 188, 211, 10, 247, 228, 88, 5, 184, 179, 69, 6, 208, 44, 30, 143, 202, 63, 15, 2, 193, 175, 189, 3, 1, 19, 138, 107, 58, 145, 17, 65, 79, 103, 220, 234, 151, 242, 207, 206, 240, 180, 230, 115, 150, 172, 116, 34, 231, 173, 53, 133, 226, 249, 55, 232, 28, 117, 223, 110, 71, 241, 26, 113, 29, 41, 197, 137, 111, 183, 98, 14, 170, 24, 190, 27, 252, 86, 62, 75, 198, 210, 121, 32, 154, 219, 192, 254, 120, 205, 90, 244, 31, 221, 168, 51, 136, 7, 199, 49, 177, 18, 16, 89, 39, 128, 236, 95, 96, 81, 127, 169, 25, 181, 74, 13, 45, 229, 122, 159, 147, 201, 156, 239, 160, 224, 59, 77, 174, 42, 245, 176, 200, 235, 187, 60, 131, 83, 153, 97, 23, 43, 4, 126, 186, 119, 214, 38, 225, 105, 20, 99, 85, 33, 12, 125]
theorem box_eq {a : Nat} (ha : a < 256) : box a = sbox.getD a 0 := beq_iff_eq.1 (all256 (p := fun a => box a == sbox.getD a 0) (by decide +kernel) a ha)
theorem sbox_all : (List.range 256).map box = sbox := by decide +kernel
theorem isbox_ok {a : Nat} (ha : a < 256) : isbox.getD (sbox.getD a 0) 0 = a := beq_iff_eq.1 (all256 (p := fun a => isbox.getD (sbox.getD a 0) 0 == a) (by decide +kernel) a ha)
theorem box_inj {a b : Nat} (ha : a < 256) (hb : b < 256) (h : box a = box b) : a = b := by
  rw [← isbox_ok ha, ← isbox_ok hb, ← box_eq ha, ← box_eq hb, h]
theorem length_sbox : sbox.length = 256 := by decide +kernel
theorem sbox_lt (a : Nat) : sbox.getD a 0 < 256 := by
  by_cases h : a < 256
  · rw [← box_eq h]; exact box_lt h
  · rw [List.getD_eq_getElem?_getD, List.getElem?_eq_none (by rw [length_sbox]; omega)]; decide
end Go.Proofs.Ytimaeghbjfialaa
