/-
  The digest's words: turned, shifted.
  The digest, in plain numbers: padding, schedule, rounds. No program in sight.
  The digest's schedule, walked.
-/
import Derived.Test.YtkgaeoeibjoljaaGreatDoorGA
import Derived.Test.YtkgaeoeibjoljaaGreatDoorGB
import Derived.Deep.WholeRow
import Derived.Deep.MidRow
namespace Go.Proofs.YtkgaeoeibjoljaaGreatDoor
section
set_option maxRecDepth 4000
open Go.RowKit
def rr (x n : Nat) : Nat := x / 2 ^ n ||| (x * 2 ^ (32 - n)) % 4294967296
theorem rr_lt {x : Nat} (n : Nat) (h : x < 4294967296) : rr x n < 4294967296 :=
 Nat.or_lt_two_pow (n := 32) (Nat.lt_of_le_of_lt (Nat.div_le_self _ _) h) (Nat.mod_lt _ (by decide))
def tu3 (x a b c : Nat) : Nat := rr x a ^^^ rr x b ^^^ rr x c
def sf3 (x a b c : Nat) : Nat := rr x a ^^^ rr x b ^^^ x / 2 ^ c
theorem rot_any (x a : Nat) (hx : x < 4294967296) (ha1 : 1 <= a) (ha : a < 32) (w : World) : Calls Tryz.prog 182 #[.int .u32 x, .int .i64 (-(a : Int))] w fun e w' => e = .returned (.int .u32 (rr x a : Nat)) /\ w = w' := by
 have hxi : (x : Int) < 4294967296 := by omega
 have h1 : IntKind.u64.wrap (-(a : Int)) = 18446744073709551616 - (a : Int) := by rw [IntKind.wrap_u64]; omega
 have h31 : ∀ a : Nat, a < 32 -> 1 <= a -> bits BinOp.and IntKind.u64 (18446744073709551616 - (a : Int)) 31 = ((32 - a : Nat) : Int) := by decide +kernel
 replace h31 := h31 a ha ha1
 obtain ⟨s, hs⟩ : ∃ s, s = 32 - a := ⟨_, rfl⟩
 rw [<- hs] at h31
 have has : a = 32 - s := by omega
 have hs32 : s < 32 := by omega
 have hs0 : (s : Int) < 32 := by omega
 have h32 : (32 - (s : Int)).toNat = 32 - s := by omega
 have hr : bits BinOp.or IntKind.u32 ((x : Int) * 2 ^ s % 4294967296) ((x : Int) / 2 ^ (32 - s)) = (rr x a : Nat) := by
  have e1 : ((x : Int) * 2 ^ s % 4294967296) = ((x * 2 ^ s % 4294967296 : Nat) : Int) := by simp
  have e2 : ((x : Int) / 2 ^ (32 - s)) = ((x / 2 ^ (32 - s) : Nat) : Int) := by simp
  rw [e1, e2, u32_or_nat _ _ (Nat.mod_lt _ (by decide)) (Nat.lt_of_le_of_lt (Nat.div_le_self _ _) hx), Nat.or_comm, rr, has, show 32 - (32 - s) = s by omega]
 have HR := Lh hr; have HAS := Lh has; clear hr has hs
 go_enter Tryz.func182, Tryz.ntmps182
 go_wp2_with fail
 go_ret
 exact ⟨ret_int HR.out, rfl⟩
theorem turned_any (x a b c : Nat) (hx : x < 4294967296) (ha : 1 <= a /\ a < 32) (hb : 1 <= b /\ b < 32) (hc : 1 <= c /\ c < 32) (w : World) :
  Calls Tryz.prog 176 #[.int .u32 x, .int .i64 a, .int .i64 b, .int .i64 c] w fun e w' => e = .returned (.int .u32 (tu3 x a b c : Nat)) /\ w = w' := by
 have R1 := Lh (rot_any x a hx ha.1 ha.2)
 have R2 := Lh (rot_any x b hx hb.1 hb.2)
 have R3 := Lh (rot_any x c hx hc.1 hc.2)
 have l1 := rr_lt a hx; have l2 := rr_lt b hx; have l3 := rr_lt c hx
 have hr : bits BinOp.xor IntKind.u32 (bits BinOp.xor IntKind.u32 (rr x a : Nat) (rr x b : Nat)) (rr x c : Nat) = ((tu3 x a b c : Nat) : Int) := by
  rw [u32_xor_nat _ _ l1 l2, u32_xor_nat _ _ (xor32 l1 l2) l3]; rfl
 have HR := Lh hr; clear hr
 have b1 : (a : Int) < 32 := by omega
 have b2 : (b : Int) < 32 := by omega
 have b3 : (c : Int) < 32 := by omega
 generalize rr x a = p at *
 generalize rr x b = q at *
 generalize rr x c = r at *
 go_enter Tryz.func176, Tryz.ntmps176
 go_wp2_with fail
 refine (R1.out _).mono ?_
 rintro e w' ⟨rfl, rfl⟩
 go_wp2_with fail
 refine (R2.out _).mono ?_
 rintro e w' ⟨rfl, rfl⟩
 go_wp2_with fail
 refine (R3.out _).mono ?_
 rintro e w' ⟨rfl, rfl⟩
 go_wp2_with fail
 go_ret
 exact ⟨ret_int HR.out, rfl⟩
theorem shifted_any (x a b c : Nat) (hx : x < 4294967296) (ha : 1 <= a /\ a < 32) (hb : 1 <= b /\ b < 32) (hc : 1 <= c /\ c < 32) (w : World) :
  Calls Tryz.prog 181 #[.int .u32 x, .int .i64 a, .int .i64 b, .int .i64 c] w fun e w' => e = .returned (.int .u32 (sf3 x a b c : Nat)) /\ Below w.heap.size w w' := by
 have R1 := Lh (rot_any x a hx ha.1 ha.2)
 have R2 := Lh (rot_any x b hx hb.1 hb.2)
 have l1 := rr_lt a hx; have l2 := rr_lt b hx
 obtain ⟨q3, hq3⟩ : ∃ q, q = x / 2 ^ c := ⟨_, rfl⟩
 have l3 : q3 < 4294967296 := by rw [hq3]; exact Nat.lt_of_le_of_lt (Nat.div_le_self _ _) hx
 have hqi : (x : Int) / 2 ^ c = (q3 : Int) := by rw [hq3]; simp
 have hr : bits BinOp.xor IntKind.u32 (bits BinOp.xor IntKind.u32 (rr x a : Nat) (rr x b : Nat)) (q3 : Int) = ((sf3 x a b c : Nat) : Int) := by
  rw [u32_xor_nat _ _ l1 l2, u32_xor_nat _ _ (xor32 l1 l2) l3, hq3]; rfl
 have HR := Lh hr; clear hr hq3
 have b1 : (a : Int) < 32 := by omega
 have b2 : (b : Int) < 32 := by omega
 have b3 : (c : Int) < 32 := by omega
 have n1 : IntKind.i64.wrap (-(a : Int)) = -(a : Int) := IntWalk.i64_in _ (by omega)
 have n2 : IntKind.i64.wrap (-(b : Int)) = -(b : Int) := IntWalk.i64_in _ (by omega)
 have b4 : (0 : Int) <= (c : Int) := by omega
 have hm : min c 32 = c := by omega
 generalize rr x a = p at *
 generalize rr x b = q at *
 go_enter Tryz.func181, Tryz.ntmps181
 go_wp2_with fail
 refine region_fast [(0, true), (1, true), (2, true), (4, true), (5, true), (6, true), (9, true), (10, true), (11, true), (3, false), (7, false), (8, true), (12, true), (13, false)] [1, 2, 3, 4, 5, 6, 7, 8, 9, 10, 11] 4094 [(512, 1, 0, 0), (1024, 2, 0, 0), (2048, 1024, 2, 2), (4096, 2560, 5, 7), (8192, 1, 0, 0), (16384, 4, 0, 0), (32768, 16384, 32, 32), (65536, 40960, 88, 127), (131072, 69632, 136, 255), (262144, 1, 0, 0), (524288, 8, 0, 0), (1048576, 786432, 1536, 1536), (2097152, 1179648, 2304, 4095), (256, 2097152, 8191, 8191)] (fun w' => True) (by kernel_rfl) (by kernel_rfl) (by kernel_rfl) rfl (by kernel_rfl) (by kernel_rfl) trivial (fun hS => ?_)
 repeat (first
  | (refine plan_read (v := ?_) rfl (fun _ _ _ h => h) rfl hS ?_ ?_; rotate_left 1; (focus (intro w' hS'; go_simp; try rfl)); (simp only [Act.put, pu1]; dsimp only [pu2, pu3]))
  | (refine plan_skip rfl (fun _ _ _ h => h) rfl hS ?_; (simp only [Act.put, pu1]; dsimp only [pu2, pu3])))
 refine plan_do (by rfl) (by rfl) (fun K hK => ?_)
 go_simp
 refine (R1.out _).mono ?_
 rintro e w' ⟨rfl, rfl⟩
 refine hK.out _ _ (fun _ => trivial) (fun hS => ?_); clear hK K; replace hS := hS rfl; try (simp only [Act.put, pu1]; dsimp only [pu2, pu3])
 refine plan_do (by rfl) (by rfl) (fun K hK => ?_)
 go_simp
 refine (R2.out _).mono ?_
 rintro e w' ⟨rfl, rfl⟩
 refine hK.out _ _ (fun _ => trivial) (fun hS => ?_); clear hK K; replace hS := hS rfl; try (simp only [Act.put, pu1]; dsimp only [pu2, pu3])
 repeat (first
  | (refine plan_read (v := ?_) rfl (fun _ _ _ h => h) rfl hS ?_ ?_; rotate_left 1; (focus (intro w' hS'; go_simp; try rfl)); (simp only [Act.put, pu1]; dsimp only [pu2, pu3]))
  | (refine plan_skip rfl (fun _ _ _ h => h) rfl hS ?_; (simp only [Act.put, pu1]; dsimp only [pu2, pu3])))
 refine plan_do (by rfl) (by rfl) (fun K hK => ?_)
 go_simp
 refine hK.out _ _ (fun h => by cases h) (fun _ => ?_); clear hK K; try (simp only [Act.put, pu1]; dsimp only [pu2, pu3])
 refine plan_nil ?_
 go_wp2_with fail
 go_ret
 exact ⟨ret_int HR.out, (Below.refl _ _).drew⟩
end
section
set_option maxRecDepth 4000
def tabn (m : Nat) (f : Nat -> Nat) : List Nat := (List.range m).map f
theorem tabn_length (m : Nat) (f : Nat -> Nat) : (tabn m f).length = m := by simp [tabn]
theorem tabn_get {m i : Nat} (f : Nat -> Nat) (h : i < m) : (tabn m f).getD i 0 = f i := by simp [tabn, List.getD_eq_getElem?_getD, h]
def wrd (b : List UInt8) (i : Nat) : Nat := (b.getD (4 * i) 0).toNat * 16777216 + (b.getD (4 * i + 1) 0).toNat * 65536 + (b.getD (4 * i + 2) 0).toNat * 256 + (b.getD (4 * i + 3) 0).toNat
theorem wrd_lt (b : List UInt8) (i : Nat) : wrd b i < 4294967296 := by
 have h := fun k => (b.getD k 0).toNat_lt
 have h0 := h (4 * i); have h1 := h (4 * i + 1); have h2 := h (4 * i + 2); have h3 := h (4 * i + 3)
 unfold wrd
 omega
def wpart (b : List UInt8) (i : Nat) : Nat -> Nat
 | 0 => 0
 | j + 1 => wpart b i j * 256 + (b.getD (4 * i + j) 0).toNat
theorem wpart_four (b : List UInt8) (i : Nat) : wpart b i 4 = wrd b i := by simp only [wpart, wrd, Nat.add_zero]; omega
theorem wpart_lt (b : List UInt8) (i : Nat) : ∀ j, wpart b i j < 256 ^ j
 | 0 => by show 0 < 1; decide
 | j + 1 => by
  have h1 := wpart_lt b i j
  have h2 := (b.getD (4 * i + j) 0).toNat_lt
  rw [wpart, Nat.pow_succ]
  omega
def wnext (b : List UInt8) (l : List Nat) (n : Nat) : Nat :=
 if n < 16 then wrd b n else (sf3 (l.getD (n - 2) 0) 17 19 10 + l.getD (n - 7) 0 + sf3 (l.getD (n - 15) 0) 7 18 3 + l.getD (n - 16) 0) % 4294967296
def ws (b : List UInt8) : Nat -> List Nat
 | 0 => []
 | n + 1 => ws b n ++ [wnext b (ws b n) n]
theorem ws_length (b : List UInt8) : ∀ n, (ws b n).length = n
 | 0 => rfl
 | n + 1 => by rw [ws, List.length_append, ws_length b n]; rfl
theorem ws_pre (b : List UInt8) (n : Nat) : ∀ m, n <= m -> ∀ i, i < n -> (ws b m).getD i 0 = (ws b n).getD i 0
 | 0, h, i, hi => by omega
 | m + 1, h, i, hi => by
  by_cases e : n = m + 1
  ·rw [e]
  ·rw [ws, List.getD_eq_getElem?_getD, List.getElem?_append_left (by rw [ws_length]; omega), <- List.getD_eq_getElem?_getD]
   exact ws_pre b n m (by omega) i hi
theorem wnext_lt (b : List UInt8) (l : List Nat) (n : Nat) : wnext b l n < 4294967296 := by
 unfold wnext
 split
 ·exact wrd_lt b n
 ·exact Nat.mod_lt _ (by decide)
theorem ws_get (b : List UInt8) {n m : Nat} (h : n < m) : (ws b m).getD n 0 = wnext b (ws b n) n := by
 rw [ws_pre b (n + 1) m (by omega) n (by omega), ws, List.getD_eq_getElem?_getD, List.getElem?_append_right (by rw [ws_length]; exact Nat.le_refl _), ws_length, Nat.sub_self]
 rfl
theorem ws_lt (b : List UInt8) (m i : Nat) : (ws b m).getD i 0 < 4294967296 := by
 by_cases h : i < m
 ·rw [ws_get b h]; exact wnext_lt _ _ _
 ·rw [List.getD_eq_getElem?_getD, List.getElem?_eq_none (by rw [ws_length]; omega)]; decide
theorem ws_step (b : List UInt8) {n m : Nat} (h16 : 16 <= n) (h : n < m) :
  (ws b m).getD n 0 = (sf3 ((ws b m).getD (n - 2) 0) 17 19 10 + (ws b m).getD (n - 7) 0 + sf3 ((ws b m).getD (n - 15) 0) 7 18 3 + (ws b m).getD (n - 16) 0) % 4294967296 := by
 rw [ws_get b h, wnext, if_neg (by omega), ws_pre b n m (by omega) (n - 2) (by omega), ws_pre b n m (by omega) (n - 7) (by omega), ws_pre b n m (by omega) (n - 15) (by omega), ws_pre b n m (by omega) (n - 16) (by omega)]
/-! ### The rounds -/
def ch (e f g : Nat) : Nat := (e &&& f) ^^^ ((4294967295 ^^^ e) &&& g)
def mj (a b c : Nat) : Nat := (a &&& b) ^^^ (a &&& c) ^^^ (b &&& c)
def shK : List Nat := [0x428a2f98, 0x71374491, 0xb5c0fbcf, 0xe9b5dba5, 0x3956c25b, 0x59f111f1, 0x923f82a4, 0xab1c5ed5,
 0xd807aa98, 0x12835b01, 0x243185be, 0x550c7dc3, 0x72be5d74, 0x80deb1fe, 0x9bdc06a7, 0xc19bf174,
 0xe49b69c1, 0xefbe4786, 0x0fc19dc6, 0x240ca1cc, 0x2de92c6f, 0x4a7484aa, 0x5cb0a9dc, 0x76f988da,
 0x983e5152, 0xa831c66d, 0xb00327c8, 0xbf597fc7, 0xc6e00bf3, 0xd5a79147, 0x06ca6351, 0x14292967,
 0x27b70a85, 0x2e1b2138, 0x4d2c6dfc, 0x53380d13, 0x650a7354, 0x766a0abb, 0x81c2c92e, 0x92722c85,
 0xa2bfe8a1, 0xa81a664b, 0xc24b8b70, 0xc76c51a3, 0xd192e819, 0xd6990624, 0xf40e3585, 0x106aa070,
 0x19a4c116, 0x1e376c08, 0x2748774c, 0x34b0bcb5, 0x391c0cb3, 0x4ed8aa4a, 0x5b9cca4f, 0x682e6ff3,
 0x748f82ee, 0x78a5636f, 0x84c87814, 0x8cc70208, 0x90befffa, 0xa4506ceb, 0xbef9a3f7, 0xc67178f2]
def shH : List Nat := [0x6a09e667, 0xbb67ae85, 0x3c6ef372, 0xa54ff53a, 0x510e527f, 0x9b05688c, 0x1f83d9ab, 0x5be0cd19]
def t1 (s : List Nat) (k w : Nat) : Nat := (s.getD 7 0 + tu3 (s.getD 4 0) 6 11 25 + ch (s.getD 4 0) (s.getD 5 0) (s.getD 6 0) + k + w) % 4294967296
def t2 (s : List Nat) : Nat := (tu3 (s.getD 0 0) 2 13 22 + mj (s.getD 0 0) (s.getD 1 0) (s.getD 2 0)) % 4294967296
def stp (s : List Nat) (k w : Nat) : List Nat :=
 [(t1 s k w + t2 s) % 4294967296, s.getD 0 0, s.getD 1 0, s.getD 2 0, (s.getD 3 0 + t1 s k w) % 4294967296, s.getD 4 0, s.getD 5 0, s.getD 6 0]
def sto (h : List Nat) (b : List UInt8) : Nat -> List Nat
 | 0 => h
 | n + 1 => stp (sto h b n) (shK.getD n 0) ((ws b 64).getD n 0)
def mixs (h : List Nat) (b : List UInt8) : List Nat := tabn 8 fun i => (h.getD i 0 + (sto h b 64).getD i 0) % 4294967296
def padz (n : Nat) : Nat := (119 - n % 64) % 64
def padd (l : List UInt8) : List UInt8 := l ++ (128 :: (List.replicate (padz l.length) 0 ++ be (8 * l.length) 8))
theorem padd_length (l : List UInt8) : (padd l).length % 64 = 0 := by
 simp only [padd, padz, List.length_append, List.length_cons, List.length_replicate, length_be]
 omega
def hsj (l : List UInt8) : Nat -> List Nat
 | 0 => shH
 | j + 1 => mixs (hsj l j) (((padd l).drop (64 * j)).take 64)
def sha (l : List UInt8) : List UInt8 := (hsj l ((padd l).length / 64)).flatMap fun x => be x 4
def w8 (s : List Nat) : Prop := s.length = 8 /\ ∀ i, s.getD i 0 < 4294967296
theorem stp_w8 {s : List Nat} (h : w8 s) (k w : Nat) : w8 (stp s k w) := ⟨rfl, fun i => by
 have hm : ∀ x, x % 4294967296 < 4294967296 := fun x => Nat.mod_lt _ (by decide)
 match i with
 | 0 => exact hm _
 | 1 => exact h.2 0
 | 2 => exact h.2 1
 | 3 => exact h.2 2
 | 4 => exact hm _
 | 5 => exact h.2 4
 | 6 => exact h.2 5
 | 7 => exact h.2 6
 | n + 8 => show 0 < 4294967296; decide⟩
theorem sto_w8 {h : List Nat} (b : List UInt8) (hh : w8 h) : ∀ n, w8 (sto h b n)
 | 0 => hh
 | n + 1 => stp_w8 (sto_w8 b hh n) _ _
theorem mixs_w8 (h : List Nat) (b : List UInt8) : w8 (mixs h b) := ⟨tabn_length _ _, fun i => by
 by_cases hi : i < 8
 ·rw [mixs, tabn_get _ hi]; exact Nat.mod_lt _ (by decide)
 ·rw [List.getD_eq_getElem?_getD, List.getElem?_eq_none (by rw [mixs, tabn_length]; omega)]; decide⟩
theorem hsj_w8 (l : List UInt8) : ∀ j, w8 (hsj l j)
 | 0 => ⟨rfl, fun i => by
   by_cases hi : i < 8
   ·have h : (List.range 8).all (fun i => decide (shH.getD i 0 < 4294967296)) = true := by decide +kernel
    exact of_decide_eq_true (List.all_eq_true.1 h i (List.mem_range.2 hi))
   ·rw [show hsj l 0 = shH from rfl, List.getD_eq_getElem?_getD, List.getElem?_eq_none (by simp [shH]; omega)]; decide⟩
 | j + 1 => mixs_w8 _ _
end
section
set_option maxRecDepth 4000
open Go.RowKit
def wds (l : List Nat) : List Value := l.map fun x => .int .u32 (x : Nat)
theorem length_wds (l : List Nat) : (wds l).length = l.length := by simp [wds]
theorem wds_get {l : List Nat} {i : Nat} (h : i < l.length) : (wds l)[i]? = some (.int .u32 (l.getD i 0 : Nat)) := by simp [wds, List.getD_eq_getElem?_getD, h]
theorem wds_set (l : List Nat) (i v : Nat) : (wds l).toArray.setIfInBounds i (.int .u32 (v : Nat)) = (wds (l.set i v)).toArray := by simp [wds, List.setIfInBounds_toArray, List.map_set]
theorem wds_one (l : List Nat) : (wds l).toArray.all (·.oneCell') = true := by simp [wds, Value.oneCell']
theorem wds_size (l : List Nat) : (wds l).toArray.size = l.length := by simp [wds]
theorem wblk_cell {w : World} {g : Nat} {t : TypeId} {l : List Nat} {i : Nat} (h : Blk w g t (wds l).toArray) (hi : i < l.length) : w.cell? ⟨g, i, none⟩ = some (.int .u32 (l.getD i 0 : Nat)) := by
 rw [h.cell, List.getElem?_toArray, wds_get hi]
theorem tabn_ext {m : Nat} {f g : Nat -> Nat} (h : ∀ i, i < m -> f i = g i) : tabn m f = tabn m g := List.map_congr_left fun i hi => h i (List.mem_range.1 hi)
theorem tabn_set {m n v : Nat} (f : Nat -> Nat) : (tabn m f).set n v = tabn m (fun j => if j = n then v else f j) := by
 refine List.ext_getElem? fun i => ?_
 rw [List.getElem?_set]
 by_cases hi : i < m
 ·by_cases h : n = i
  ·subst h; simp [tabn, hi]
  ·have h2 : ¬ i = n := fun e => h e.symm
   simp [tabn, hi, h, h2]
 ·by_cases h : n = i
  ·subst h; simp [tabn, hi]
  ·simp [tabn, hi, h]
def wg (b : List UInt8) (n : Nat) : List Nat := tabn 64 fun j => if j < n then (ws b 64).getD j 0 else 0
def wgp (b : List UInt8) (n k : Nat) : List Nat := tabn 64 fun j => if j < n then (ws b 64).getD j 0 else if j = n then wpart b n k else 0
theorem wgp_zero (b : List UInt8) (n : Nat) : wgp b n 0 = wg b n := tabn_ext fun i _ => by
 by_cases h : i < n
 ·rw [if_pos h, if_pos h]
 ·rw [if_neg h, if_neg h]; split <;> rfl
theorem wgp_next (b : List UInt8) (n k : Nat) : (wgp b n k).set n (wpart b n (k + 1)) = wgp b n (k + 1) := by
 rw [wgp, tabn_set]
 refine tabn_ext fun j _ => ?_
 by_cases e : j = n
 ·subst e; simp
 ·rw [if_neg e]
  by_cases h : j < n
  ·rw [if_pos h, if_pos h]
  ·rw [if_neg h, if_neg h, if_neg e, if_neg e]
theorem wgp_four (b : List UInt8) {n : Nat} (h : n < 16) : wgp b n 4 = wg b (n + 1) := tabn_ext fun j _ => by
 by_cases h1 : j < n
 ·rw [if_pos h1, if_pos (by omega)]
 ·rw [if_neg h1]
  by_cases e : j = n
  ·subst e; rw [if_pos rfl, if_pos (by omega), ws_get b (by omega), wnext, if_pos h, wpart_four]
  ·rw [if_neg e, if_neg (by omega)]
theorem wg_next (b : List UInt8) (n : Nat) : (wg b n).set n ((ws b 64).getD n 0) = wg b (n + 1) := by
 rw [wg, tabn_set]
 refine tabn_ext fun j _ => ?_
 by_cases e : j = n
 ·subst e; simp
 ·rw [if_neg e]
  by_cases h : j < n
  ·rw [if_pos h, if_pos (by omega)]
  ·rw [if_neg h, if_neg (by omega)]
theorem wg_all (b : List UInt8) : wg b 64 = ws b 64 := by
 refine List.ext_getElem? fun i => ?_
 by_cases hi : i < 64
 ·have h1 := List.getElem?_eq_getElem (l := ws b 64) (i := i) (by rw [ws_length]; exact hi)
  simp [wg, tabn, hi, List.getD_eq_getElem?_getD, h1]
 ·rw [List.getElem?_eq_none (by simp [wg, tabn]; omega), List.getElem?_eq_none (by rw [ws_length]; omega)]
theorem wg_get (b : List UInt8) {n j : Nat} (h : j < n) (hj : j < 64) : (wg b n).getD j 0 = (ws b 64).getD j 0 := by
 have e : (wg b n).getD j 0 = _ := tabn_get _ hj
 rw [e, if_pos h]
set_option maxRecDepth 4000 in
set_option maxHeartbeats 1000000 in
theorem spread_any (b : List UInt8) (hb : b.length = 64) (g off c : Nat) (w : World) (hS : Sees w 1 (some ⟨g, off, none⟩) 64 (u8s b)) (hc : 64 <= c) (hg : g < w.heap.size) :
  Calls Tryz.prog 175 #[.slice (some ⟨g, off, none⟩) 64 c] w fun e w' => e = .returned (.agg (wds (ws b 64)).toArray) /\ Below w.heap.size w w' := by
 have hi64 : (Tryz.prog.info? 251).map (·.size) = some 64 := by kernel_rfl
 have HI64 := Lh hi64; clear hi64
 have HS := Lh hS; clear hS
 go_enter Tryz.func175, Tryz.ntmps175
 go_wp2_with fail
 go_loopw [4, 7] (fun _ i wr => ∃ n : Nat, n <= 64 /\ i = .int .i64 n /\ Blk wr (w.heap.size + 1) 251 (wds (wg b n)).toArray /\ Blk wr w.heap.size 251 (wds (tabn 64 fun _ => 0)).toArray /\ Below w.heap.size w wr) (fun _ i _ => 64 - (intOf i).toNat)
 case atStart =>
  refine ⟨0, by omega, rfl, Blk.newAt (by simp) (by rfl), (Blk.newAt rfl (by rfl)).alloc _, ((Below.refl _ _).alloc (Nat.le_refl _) _).alloc (by simp) _⟩
 case round =>
  obtain ⟨n, hn, rfl, hB, hR, hbr⟩ := hrel
  by_cases hlt : n < 64
  ·have hlti : (n : Int) < 64 := by omega
   by_cases h16 : n < 16
   ·have h16i : (n : Int) < 16 := by omega
    have hs4 : (64 : Int).tdiv 4 = 16 := by decide
    have hcn : ¬ c = 4 * n := by omega
    have hq1 : 4 * (n : Int) + 4 <= (c : Int) := by omega
    have hn1 : (4 * (n : Int)).toNat = 4 * n := by omega
    have hn2 : (4 * (n : Int) + 4).toNat = 4 * n + 4 := by omega
    have hd4 : 4 * n + 4 - 4 * n = 4 := by omega
    have HB := Lh hB; have HR := Lh hR; have HBR := Lh hbr; clear hB hR hbr
    go_wp2_with fail
    obtain ⟨W0, hW0⟩ : ∃ W, W = wr := ⟨_, rfl⟩
    rw [<- hW0] at HB HR HBR ⊢
    clear hW0
    go_loopw [6, 23] (fun _ i wq => ∃ k : Nat, k <= 4 /\ i = .int .i64 k /\ Blk wq (w.heap.size + 1) 251 (wds (wgp b n k)).toArray /\ Fr (· = w.heap.size + 1) W0 wq) (fun _ i _ => 4 - (intOf i).toNat)
    case atStart => exact ⟨0, by omega, rfl, by rw [wgp_zero]; exact HB.out, Fr.refl _ _⟩
    case round =>
     obtain ⟨k, hk, rfl, hP, hF⟩ := hrel
     by_cases hlk : k < 4
     ·have hlki : (k : Int) < 4 := by omega
      have hbq : Below w.heap.size w wr := HBR.out.trans (hF.below HBR.out.size (fun j hj => hj ▸ (by omega)))
      obtain ⟨d, hd⟩ : ∃ d, d = (b.getD (4 * n + k) 0).toNat := ⟨_, rfl⟩
      have hd256 : d < 256 := by rw [hd]; exact UInt8.toNat_lt _
      have hcd : wr.cell? ⟨g, off + 4 * n + k, none⟩ = some (.int .u8 (d : Nat)) := by
       obtain ⟨g', off', e, hc⟩ := sees_u8 (HS.out.below hbq) (show 4 * n + k < 64 by omega) (by omega)
       injection e with e; injection e with e1 e2; subst e1 e2
       rw [Nat.add_assoc, hc, hd, List.getD_eq_getElem?_getD, List.getElem?_eq_getElem (by omega)]; rfl
      have hpl : (wgp b n k).length = 64 := tabn_length _ _
      have hx : (wgp b n k).getD n 0 = wpart b n k := by
       have e : (wgp b n k).getD n 0 = _ := tabn_get _ (by omega)
       rw [e, if_neg (by omega), if_pos rfl]
      have hcx : wr.cell? ⟨w.heap.size + 1, n, none⟩ = some (.int .u32 (wpart b n k : Nat)) := by rw [wblk_cell hP (by omega), hx]
      have hfz : wr.frozen? ⟨w.heap.size + 1, n, none⟩ = false := hP.frozen n
      have hxl := wpart_lt b n k
      have hp3 : (256 : Nat) ^ k <= 256 ^ 3 := Nat.pow_le_pow_right (by decide) (by omega)
      have hP2 := hP.set_ n (.int .u32 (wpart b n (k + 1) : Nat))
      rw [wds_set, wgp_next] at hP2
      have hnx : wpart b n (k + 1) = wpart b n k * 256 + d := by rw [hd]; rfl
      rw [hnx] at hP2
      generalize wpart b n k = x at *
      have hor : bits BinOp.or IntKind.u32 ((x : Int) * 256) (d : Int) = ((x * 256 + d : Nat) : Int) := by
       have e : ((x : Int) * 256) = ((x * 256 : Nat) : Int) := by omega
       rw [e, u32_or_nat _ _ (by omega) (by omega), or_add hd256]
      have HOR := Lh hor; have HP2 := Lh hP2; have HF := Lh hF; clear hor hP2 hF hP hx hnx hd hbq
      go_wp2_with fail
      go_roundw
      case rel => exact ⟨k + 1, by omega, by go_num, by rw [HOR.out]; exact HP2.out, HF.out.trans (Fr.setCell (F := (· = w.heap.size + 1)) _ _ _ rfl) (fun j _ h => h)⟩
      case measure => simp [intOf]; omega
     ·obtain rfl : k = 4 := by omega
      rw [wgp_four b h16] at hP
      have hbq : Below w.heap.size w wr := HBR.out.trans (hF.below HBR.out.size (fun j hj => hj ▸ (by omega)))
      have hRq := HR.out.fr hF (Nat.ne_of_lt (by omega))
      have HP := Lh hP; have HBQ := Lh hbq; have HRQ := Lh hRq; clear hP hbq hRq hF
      go_wp2_with fail
      go_roundw
      case rel => exact ⟨n + 1, by omega, by go_num, HP.out, HRQ.out, HBQ.out⟩
      case measure => simp [intOf]; omega
   ·have h16i : ¬ ((n : Int) < 16) := by omega
    have hs4 : (64 : Int).tdiv 4 = 16 := by decide
    obtain ⟨a2, h2⟩ : ∃ a, a = (ws b 64).getD (n - 2) 0 := ⟨_, rfl⟩
    obtain ⟨a7, h7⟩ : ∃ a, a = (ws b 64).getD (n - 7) 0 := ⟨_, rfl⟩
    obtain ⟨a15, h15⟩ : ∃ a, a = (ws b 64).getD (n - 15) 0 := ⟨_, rfl⟩
    obtain ⟨a16, h16'⟩ : ∃ a, a = (ws b 64).getD (n - 16) 0 := ⟨_, rfl⟩
    have l2 : a2 < 4294967296 := by rw [h2]; exact ws_lt _ _ _
    have l7 : a7 < 4294967296 := by rw [h7]; exact ws_lt _ _ _
    have l15 : a15 < 4294967296 := by rw [h15]; exact ws_lt _ _ _
    have l16 : a16 < 4294967296 := by rw [h16']; exact ws_lt _ _ _
    have hst := ws_step b (show 16 <= n by omega) hlt
    rw [<- h2, <- h7, <- h15, <- h16'] at hst
    have hwl : (wg b n).length = 64 := tabn_length _ _
    have hcs : ∀ w', Blk w' (w.heap.size + 1) 251 (wds (wg b n)).toArray -> w'.cell? ⟨w.heap.size + 1, n - 2, none⟩ = some (.int .u32 (a2 : Nat)) /\ w'.cell? ⟨w.heap.size + 1, n - 7, none⟩ = some (.int .u32 (a7 : Nat)) /\ w'.cell? ⟨w.heap.size + 1, n - 15, none⟩ = some (.int .u32 (a15 : Nat)) /\ w'.cell? ⟨w.heap.size + 1, n - 16, none⟩ = some (.int .u32 (a16 : Nat)) := fun w' h =>
     ⟨by rw [wblk_cell h (by omega), wg_get b (by omega) (by omega), h2], by rw [wblk_cell h (by omega), wg_get b (by omega) (by omega), h7],
      by rw [wblk_cell h (by omega), wg_get b (by omega) (by omega), h15], by rw [wblk_cell h (by omega), wg_get b (by omega) (by omega), h16']⟩
    have hs1l : sf3 a2 17 19 10 < 4294967296 := xor32 (xor32 (rr_lt _ l2) (rr_lt _ l2)) (Nat.lt_of_le_of_lt (Nat.div_le_self _ _) l2)
    have hs2l : sf3 a15 7 18 3 < 4294967296 := xor32 (xor32 (rr_lt _ l15) (rr_lt _ l15)) (Nat.lt_of_le_of_lt (Nat.div_le_self _ _) l15)
    have F1 := Lh (shifted_any a2 17 19 10 l2 (by omega) (by omega) (by omega))
    have F2 := Lh (shifted_any a15 7 18 3 l15 (by omega) (by omega) (by omega))
    have HCS := Lh hcs; have HST := Lh hst; clear hcs hst h2 h7 h15 h16'
    generalize sf3 a2 17 19 10 = s1 at *
    generalize sf3 a15 7 18 3 = s2 at *
    have m2 : ((n : Int) - 2).toNat = n - 2 := by omega
    have m7 : ((n : Int) - 7).toNat = n - 7 := by omega
    have m15 : ((n : Int) - 15).toNat = n - 15 := by omega
    have m16 : ((n : Int) - 16).toNat = n - 16 := by omega
    have p2 : (0 : Int) <= (n : Int) - 2 := by omega
    have p7 : (0 : Int) <= (n : Int) - 7 := by omega
    have p15 : (0 : Int) <= (n : Int) - 15 := by omega
    have p16 : (0 : Int) <= (n : Int) - 16 := by omega
    have q2 : (n : Int) - 2 < 64 := by omega
    have q7 : (n : Int) - 7 < 64 := by omega
    have q15 : (n : Int) - 15 < 64 := by omega
    have q16 : (n : Int) - 16 < 64 := by omega
    have u2 : (2 : Int) <= (n : Int) := by omega
    have u7 : (7 : Int) <= (n : Int) := by omega
    have u15 : (15 : Int) <= (n : Int) := by omega
    have u16 : (16 : Int) <= (n : Int) := by omega
    have v2 : (n : Int) < 66 := by omega
    have v7 : (n : Int) < 71 := by omega
    have v15 : (n : Int) < 79 := by omega
    have v16 : (n : Int) < 80 := by omega
    have r2 : IntKind.i64.wrap ((n : Int) - 2) = (n : Int) - 2 := IntWalk.i64_in _ (by omega)
    have r7 : IntKind.i64.wrap ((n : Int) - 7) = (n : Int) - 7 := IntWalk.i64_in _ (by omega)
    have r15 : IntKind.i64.wrap ((n : Int) - 15) = (n : Int) - 15 := IntWalk.i64_in _ (by omega)
    have r16 : IntKind.i64.wrap ((n : Int) - 16) = (n : Int) - 16 := IntWalk.i64_in _ (by omega)
    have HB := Lh hB; have HR := Lh hR; have HBR := Lh hbr; clear hB hR hbr
    go_wp2_with fail
    refine region_fast [(0, true), (1, true), (2, true), (3, true), (4, true), (6, true), (7, true), (8, true), (9, true), (11, true), (12, true), (13, true), (14, true), (17, true), (18, true), (19, true), (20, true), (5, false), (10, true), (15, false), (16, true), (21, true), (22, true), (23, false)] [1, 2, 3, 4, 5, 6, 7, 8, 9, 10, 11, 12, 13, 14, 15, 16, 17, 18, 19, 20, 21] 4194302 [(137438953472, 16, 0, 0), (274877906944, 16, 0, 0), (549755813888, 274877906944, 2, 2), (1099511627776, 549755813896, 4, 6), (2199023255552, 1099511627776, 8, 14), (4398046511104, 2199023255552, 16, 30), (8796093022208, 16, 0, 0), (17592186044416, 8796093022208, 64, 64), (35184372088832, 17592186044424, 128, 192), (70368744177664, 35184372088832, 256, 448), (140737488355328, 74766790688768, 544, 1022), (281474976710656, 16, 0, 0), (562949953421312, 281474976710656, 2048, 2048), (1125899906842624, 562949953421320, 4096, 6144), (2251799813685248, 1125899906842624, 8192, 14336), (4503599627370496, 2251799813685248, 16416, 30782), (9007199254740992, 4644337115725824, 33792, 65534), (18014398509481984, 16, 0, 0), (36028797018963968, 18014398509481984, 131072, 131072), (72057594037927936, 36028797018963976, 262144, 393216), (144115188075855872, 72057594037927936, 524288, 917504), (288230376151711744, 153122387330596864, 1114112, 2097150), (576460752303423488, 137438953480, 4194303, 4194303), (0, 864691128455135232, 8388607, 8388607)] (fun w' => Blk w' (w.heap.size + 1) 251 (wds (wg b n)).toArray) (by kernel_rfl) (by kernel_rfl) (by kernel_rfl) rfl (by kernel_rfl) (by kernel_rfl) HB.out (fun hS => ?_)
    repeat (first
     | (refine plan_read (v := ?_) rfl (fun _ _ _ h => h) rfl hS ?_ ?_; rotate_left 1; (focus (intro w' hS'; obtain ⟨c2, c7, c15, c16⟩ := HCS.out _ hS'; go_simp; try rfl)); (simp only [Act.put, pu1]; dsimp only [pu2, pu3]))
     | (refine plan_skip rfl (fun _ _ _ h => h) rfl hS ?_; (simp only [Act.put, pu1]; dsimp only [pu2, pu3])))
    refine plan_do (by rfl) (by rfl) (fun K hK => ?_)
    go_simp
    refine (F1.out _).mono ?_
    rintro e w2 ⟨rfl, hb2⟩
    have hs2 : Blk w2 (w.heap.size + 1) 251 (wds (wg b n)).toArray := hS.below hb2 hS.lt
    have hR2 : Blk w2 w.heap.size 251 (wds (tabn 64 fun _ => 0)).toArray := Blk.below (w := wr.drew) HR.out hb2 HR.out.lt
    have hbe2 : Below w.heap.size w w2 := HBR.out.drew.trans (hb2.mono HBR.out.drew.size)
    refine hK.out _ _ (fun _ => hs2) (fun hS => ?_); clear hK K; replace hS := hS rfl; try (simp only [Act.put, pu1]; dsimp only [pu2, pu3])
    repeat (first
     | (refine plan_read (v := ?_) rfl (fun _ _ _ h => h) rfl hS ?_ ?_; rotate_left 1; (focus (intro w' hS'; go_simp; try rfl)); (simp only [Act.put, pu1]; dsimp only [pu2, pu3]))
     | (refine plan_skip rfl (fun _ _ _ h => h) rfl hS ?_; (simp only [Act.put, pu1]; dsimp only [pu2, pu3])))
    refine plan_do (by rfl) (by rfl) (fun K hK => ?_)
    go_simp
    refine (F2.out _).mono ?_
    rintro e w3 ⟨rfl, hb3⟩
    have hs3 : Blk w3 (w.heap.size + 1) 251 (wds (wg b n)).toArray := hS.below hb3 hS.lt
    have hR3 := hR2.below hb3 hR2.lt
    have hbe3 : Below w.heap.size w w3 := hbe2.trans (hb3.mono hbe2.size)
    refine hK.out _ _ (fun _ => hs3) (fun hS => ?_); clear hK K; replace hS := hS rfl; try (simp only [Act.put, pu1]; dsimp only [pu2, pu3])
    repeat (first
     | (refine plan_read (v := ?_) rfl (fun _ _ _ h => h) rfl hS ?_ ?_; rotate_left 1; (focus (intro w' hS'; go_simp; try rfl)); (simp only [Act.put, pu1]; dsimp only [pu2, pu3]))
     | (refine plan_skip rfl (fun _ _ _ h => h) rfl hS ?_; (simp only [Act.put, pu1]; dsimp only [pu2, pu3])))
    have hfz : w3.frozen? ⟨w.heap.size + 1, n, none⟩ = false := hS.frozen n
    obtain ⟨u, hcu⟩ : ∃ u, w3.cell? ⟨w.heap.size + 1, n, none⟩ = some u := ⟨_, wblk_cell hS (by omega)⟩
    have hB4 := hS.set_ n (.int .u32 ((ws b 64).getD n 0 : Nat))
    rw [wds_set, wg_next] at hB4
    have hR4 := hR3.far (p := ⟨w.heap.size + 1, n, none⟩) (by show w.heap.size ≠ w.heap.size + 1; omega) (.int .u32 ((ws b 64).getD n 0 : Nat))
    have hbe4 := hbe3.setCell (p := ⟨w.heap.size + 1, n, none⟩) (by show w.heap.size <= w.heap.size + 1; omega) (.int .u32 ((ws b 64).getD n 0 : Nat))
    have HB4 := Lh hB4; have HR4 := Lh hR4; have HE4 := Lh hbe4; clear hB4 hR4 hbe4
    refine plan_do (by rfl) (by rfl) (fun K hK => ?_)
    go_simp
    refine hK.out _ _ (fun h => by cases h) (fun _ => ?_); clear hK K; try (simp only [Act.put, pu1]; dsimp only [pu2, pu3])
    refine plan_nil ?_
    go_wp2_with fail
    go_roundw
    case rel =>
     have hv : ((((s1 : Int) + (a7 : Int)) % 4294967296 + (s2 : Int)) % 4294967296 + (a16 : Int)) % 4294967296 = (((ws b 64).getD n 0 : Nat) : Int) := by rw [HST.out]; omega
     rw [hv]
     exact ⟨n + 1, by omega, by go_num, HB4.out, HR4.out, HE4.out⟩
    case measure => simp [intOf]; omega
  ·obtain rfl : n = 64 := by omega
   obtain ⟨C, hC⟩ : ∃ C, C = (wds (wg b 64)).toArray := ⟨_, rfl⟩
   have hlen : C.size = 64 := by rw [hC, wds_size, wg, tabn_length]
   rw [<- hC] at hB
   have HC := Lh hC; clear hC
   go_wp2_with (first
    | (refine wpList_load_row rfl 251 (.tmp 3) rfl (w.heap.size + 1) rfl 251 _ (0, 0) _ hB Tryz.underlying251 rfl (by rw [hlen]; exact HI64.out) ?_)
    | (refine wpList_store_row rfl 251 (.tmp 2) (.tmp 61) rfl w.heap.size _ rfl rfl 251 _ hR (by rw [hlen]; exact HI64.out) (by rw [hlen]; rfl) (by rw [HC.out]; exact wds_one _) ?_))
   refine bodyPost_ret (v := .agg C) (results_cell_row rfl _ _ w.heap.size 251 C (0, 0) _ rfl ?_ Tryz.underlying251 rfl ?_) rfl ⟨?_, below_setRow hbr (Nat.le_refl _) _⟩
   ·exact hR.setRow C
   ·rw [hlen]; exact HI64.out
   ·rw [HC.out, wg_all]
end
end Go.Proofs.YtkgaeoeibjoljaaGreatDoor
