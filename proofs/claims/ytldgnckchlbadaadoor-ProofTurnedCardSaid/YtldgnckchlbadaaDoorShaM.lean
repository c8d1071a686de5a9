/-
  The digest, in plain numbers: padding, schedule, rounds. No program in sight.
-/
import Derived.Test.YtldgnckchlbadaaDoorSha1
namespace Go.Proofs.YtldgnckchlbadaaDoor
set_option maxRecDepth 4000

def tabn (m : Nat) (f : Nat → Nat) : List Nat := (List.range m).map f
theorem tabn_length (m : Nat) (f : Nat → Nat) : (tabn m f).length = m := by simp [tabn]
theorem tabn_get {m i : Nat} (f : Nat → Nat) (h : i < m) : (tabn m f).getD i 0 = f i := by simp [tabn, List.getD_eq_getElem?_getD, h]

/-- The i-th word of octets. -/
def wrd (b : List UInt8) (i : Nat) : Nat := (b.getD (4 * i) 0).toNat * 16777216 + (b.getD (4 * i + 1) 0).toNat * 65536 + (b.getD (4 * i + 2) 0).toNat * 256 + (b.getD (4 * i + 3) 0).toNat
theorem wrd_lt (b : List UInt8) (i : Nat) : wrd b i < 4294967296 := by
  have h := fun k => (b.getD k 0).toNat_lt
  have h0 := h (4 * i); have h1 := h (4 * i + 1); have h2 := h (4 * i + 2); have h3 := h (4 * i + 3)
  unfold wrd
  omega
/-- j octets of a word. -/
def wpart (b : List UInt8) (i : Nat) : Nat → Nat
  | 0 => 0
  | j + 1 => wpart b i j * 256 + (b.getD (4 * i + j) 0).toNat
theorem wpart_four (b : List UInt8) (i : Nat) : wpart b i 4 = wrd b i := by simp only [wpart, wrd, Nat.add_zero]; omega
theorem wpart_lt (b : List UInt8) (i : Nat) : ∀ j, wpart b i j < 256 ^ j
  | 0 => by show 0 < 1; decide
  | j + 1 => by
    have h1 := wpart_lt b i j
    have h2 := (b.getD (4 * i + j) 0).toNat_lt
    rw [wpart, Nat.pow_succ]
    omega

/-- The next word of the schedule. -/
def wnext (b : List UInt8) (l : List Nat) (n : Nat) : Nat :=
  if n < 16 then wrd b n else (sf3 (l.getD (n - 2) 0) 17 19 10 + l.getD (n - 7) 0 + sf3 (l.getD (n - 15) 0) 7 18 3 + l.getD (n - 16) 0) % 4294967296
def ws (b : List UInt8) : Nat → List Nat
  | 0 => []
  | n + 1 => ws b n ++ [wnext b (ws b n) n]
theorem ws_length (b : List UInt8) : ∀ n, (ws b n).length = n
  | 0 => rfl
  | n + 1 => by rw [ws, List.length_append, ws_length b n]; rfl
theorem ws_pre (b : List UInt8) (n : Nat) : ∀ m, n ≤ m → ∀ i, i < n → (ws b m).getD i 0 = (ws b n).getD i 0
  | 0, h, i, hi => by omega
  | m + 1, h, i, hi => by
    by_cases e : n = m + 1
    · rw [e]
    · rw [ws, List.getD_eq_getElem?_getD, List.getElem?_append_left (by rw [ws_length]; omega), ← List.getD_eq_getElem?_getD]
      exact ws_pre b n m (by omega) i hi
theorem wnext_lt (b : List UInt8) (l : List Nat) (n : Nat) : wnext b l n < 4294967296 := by
  unfold wnext
  split
  · exact wrd_lt b n
  · exact Nat.mod_lt _ (by decide)
theorem ws_get (b : List UInt8) {n m : Nat} (h : n < m) : (ws b m).getD n 0 = wnext b (ws b n) n := by
  rw [ws_pre b (n + 1) m (by omega) n (by omega), ws, List.getD_eq_getElem?_getD, List.getElem?_append_right (by rw [ws_length]; exact Nat.le_refl _), ws_length, Nat.sub_self]
  rfl
theorem ws_lt (b : List UInt8) (m i : Nat) : (ws b m).getD i 0 < 4294967296 := by
  by_cases h : i < m
  · rw [ws_get b h]; exact wnext_lt _ _ _
  · rw [List.getD_eq_getElem?_getD, List.getElem?_eq_none (by rw [ws_length]; omega)]; decide
/-- The next word, out of the schedule itself. -/
theorem ws_step (b : List UInt8) {n m : Nat} (h16 : 16 ≤ n) (h : n < m) :
    (ws b m).getD n 0 = (sf3 ((ws b m).getD (n - 2) 0) 17 19 10 + (ws b m).getD (n - 7) 0 + sf3 ((ws b m).getD (n - 15) 0) 7 18 3 + (ws b m).getD (n - 16) 0) % 4294967296 := by
  rw [ws_get b h, wnext, if_neg (by omega), ws_pre b n m (by omega) (n - 2) (by omega), ws_pre b n m (by omega) (n - 7) (by omega), ws_pre b n m (by omega) (n - 15) (by omega), ws_pre b n m (by omega) (n - 16) (by omega)]

/-! ### The rounds -/
def ch (e f g : Nat) : Nat := (e &&& f) ^^^ ((4294967295 ^^^ e) &&& g)
def mj (a b c : Nat) : Nat := (a &&& b) ^^^ (a &&& c) ^^^ (b &&& c)
def shK : List Nat := [0x428a2f98, 0x71374491, 0xb5c0fbcf, 0xe9b5dba5, 0x3956c25b, 0x59f111f1, 0x923f82a4, 0xab1c5ed5,
  0xd807aa98, 0x12835b01, 0x243185be, 0x550c7dc3, 0x72be5d74, 0x80deb1fe, 0x9bdc06a7, 0xc19bf174,
  0xe49b69c1, 0xefbe4786, 0x0fc19dc6, 0x240ca1cc, 0x2de92c6f, 0x4a7484aa, 0x5cb0a9dc, 0x76f988da,
  0x983e5152, 0xa831c66d, 0xb00327c8, 0xbf597fc7, 0xc6e00bf3, 0xd5a79147, 0x06ca6351, 0x14292967,
  0x27b70a85, 0x2e1b2138, 0x4d2c6dfc, 0x53380d13, 0x650a7354, 0x766a0abb, 0x81c2c92e, 0x92722c85,
  0xa2bfe8a1, 0xa81a664b, 0xc24b8b70, 0xc76c51a3, 0xd192e819, 0xd6990624, 0xf40e3585, 0x106aa070,
  0x19a4c116, 0x1e376c08, 0x2748774c, 0x34b0bcb5, 0x391c0cb3, 0x4ed8aa4a, 0x5b9cca4f, 0x682e6ff3,
  0x748f82ee, 0x78a5636f, 0x84c87814, 0x8cc70208, 0x90befffa, 0xa4506ceb, 0xbef9a3f7, 0xc67178f2]
def shH : List Nat := [0x6a09e667, 0xbb67ae85, 0x3c6ef372, 0xa54ff53a, 0x510e527f, 0x9b05688c, 0x1f83d9ab, 0x5be0cd19]
def t1 (s : List Nat) (k w : Nat) : Nat := (s.getD 7 0 + tu3 (s.getD 4 0) 6 11 25 + ch (s.getD 4 0) (s.getD 5 0) (s.getD 6 0) + k + w) % 4294967296
def t2 (s : List Nat) : Nat := (tu3 (s.getD 0 0) 2 13 22 + mj (s.getD 0 0) (s.getD 1 0) (s.getD 2 0)) % 4294967296
def stp (s : List Nat) (k w : Nat) : List Nat :=
  [(t1 s k w + t2 s) % 4294967296, s.getD 0 0, s.getD 1 0, s.getD 2 0, (s.getD 3 0 + t1 s k w) % 4294967296, s.getD 4 0, s.getD 5 0, s.getD 6 0]
def sto (h : List Nat) (b : List UInt8) : Nat → List Nat
  | 0 => h
  | n + 1 => stp (sto h b n) (shK.getD n 0) ((ws b 64).getD n 0)
def mixs (h : List Nat) (b : List UInt8) : List Nat := tabn 8 fun i => (h.getD i 0 + (sto h b 64).getD i 0) % 4294967296
/-- The digest's padding. -/
def padz (n : Nat) : Nat := (119 - n % 64) % 64
def padd (l : List UInt8) : List UInt8 := l ++ (128 :: (List.replicate (padz l.length) 0 ++ be (8 * l.length) 8))
theorem padd_length (l : List UInt8) : (padd l).length % 64 = 0 := by
  simp only [padd, padz, List.length_append, List.length_cons, List.length_replicate, length_be]
  omega
/-- Behind j blocks. -/
def hsj (l : List UInt8) : Nat → List Nat
  | 0 => shH
  | j + 1 => mixs (hsj l j) (((padd l).drop (64 * j)).take 64)
def sha (l : List UInt8) : List UInt8 := (hsj l ((padd l).length / 64)).flatMap fun x => be x 4

/-- 32-bit words, eight of them. -/
def w8 (s : List Nat) : Prop := s.length = 8 ∧ ∀ i, s.getD i 0 < 4294967296
theorem stp_w8 {s : List Nat} (h : w8 s) (k w : Nat) : w8 (stp s k w) := ⟨rfl, fun i => by
  have hm : ∀ x, x % 4294967296 < 4294967296 := fun x => Nat.mod_lt _ (by decide)
  match i with
  | 0 => exact hm _
  | 1 => exact h.2 0
  | 2 => exact h.2 1
  | 3 => exact h.2 2
  | 4 => exact hm _
  | 5 => exact h.2 4
  | 6 => exact h.2 5
  | 7 => exact h.2 6
  | n + 8 => show 0 < 4294967296; decide⟩
theorem sto_w8 {h : List Nat} (b : List UInt8) (hh : w8 h) : ∀ n, w8 (sto h b n)
  | 0 => hh
  | n + 1 => stp_w8 (sto_w8 b hh n) _ _
theorem mixs_w8 (h : List Nat) (b : List UInt8) : w8 (mixs h b) := ⟨tabn_length _ _, fun i => by
  by_cases hi : i < 8
  · rw [mixs, tabn_get _ hi]; exact Nat.mod_lt _ (by decide)
  · rw [List.getD_eq_getElem?_getD, List.getElem?_eq_none (by rw [mixs, tabn_length]; omega)]; decide⟩
theorem hsj_w8 (l : List UInt8) : ∀ j, w8 (hsj l j)
  | 0 => ⟨rfl, fun i => by
      by_cases hi : i < 8
      · have h : (List.range 8).all (fun i => decide (shH.getD i 0 < 4294967296)) = true := by decide +kernel
        exact of_decide_eq_true (List.all_eq_true.1 h i (List.mem_range.2 hi))
      · rw [show hsj l 0 = shH from rfl, List.getD_eq_getElem?_getD, List.getElem?_eq_none (by simp [shH]; omega)]; decide⟩
  | j + 1 => mixs_w8 _ _
end Go.Proofs.YtldgnckchlbadaaDoor
