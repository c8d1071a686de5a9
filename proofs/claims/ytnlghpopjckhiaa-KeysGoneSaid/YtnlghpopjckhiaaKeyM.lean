/-
  Keys on a disk, as plain law: a key's octets are read back; a slot's two copies.
-/
import Derived.Test.YtnlghpopjckhiaaKey10
import Derived.Test.YtnlghpopjckhiaaDisk6
namespace Go.Proofs.Ytnlghpopjckhiaa
set_option maxRecDepth 4000
open Go.RowKit

theorem vl_foldl (l : List UInt8) : ∀ a : Nat, l.foldl (fun a c => a * 256 + c.toNat) a = a * 256 ^ l.length + vl l := by
  induction l with
  | nil => intro a; simp [vl]
  | cons c l ih =>
    intro a
    have h1 : vl (c :: l) = l.foldl (fun a c => a * 256 + c.toNat) (0 * 256 + c.toNat) := rfl
    rw [List.foldl_cons, ih, h1, ih, List.length_cons, Nat.pow_succ]
    rw [Nat.add_mul, Nat.zero_mul, Nat.zero_add, Nat.mul_assoc, Nat.mul_comm 256, Nat.add_assoc]
theorem vl_cons (c : UInt8) (l : List UInt8) : vl (c :: l) = c.toNat * 256 ^ l.length + vl l := by
  have := vl_foldl l (0 * 256 + c.toNat)
  rw [Nat.zero_mul, Nat.zero_add] at this
  rw [← this]; simp [vl]
theorem vl_be (n : Nat) : ∀ k, vl (be n k) = n % 256 ^ k
  | 0 => by simp [be, vl, Nat.mod_one]
  | k + 1 => by
    rw [be, vl_cons, length_be, vl_be n k, UInt8.toNat_ofNat', Nat.mod_eq_of_lt (show n / 256 ^ k % 256 < 2 ^ 8 by omega), Nat.pow_succ, Nat.mod_mul]
    rw [Nat.mul_comm (256 ^ k)]; omega
theorem cut {a b c : List UInt8} {i n : Nat} (h1 : a.length = i) (h2 : b.length = n) : ((a ++ (b ++ c)).drop i).take n = b := by
  rw [← h1, List.drop_left, ← h2, List.take_left]

/-- What a slot's first copy says. -/
def enc : Option (Nat × List UInt8) → List UInt8
  | none => zer
  | some p => keyo p.1 p.2
def KOk (p : Nat × List UInt8) : Prop := p.1 ≤ 1099511627776 ∧ p.2.length = 32
theorem enc_length (o : Option (Nat × List UInt8)) (h : ∀ p, o = some p → KOk p) : (enc o).length = 128 := by
  cases o with
  | none => exact zer_len
  | some p => exact keyo_length _ _ (h p rfl).2
theorem keyo_cut (b : Nat) (k : List UInt8) : keyo b k = [101, 110, 103, 107] ++ (be b 8 ++ (k ++ (be (crc (khead b k)) 4 ++ List.replicate 80 0))) := by
  unfold keyo crcw
  rw [show khead b k = [101, 110, 103, 107] ++ be b 8 ++ k from rfl]
  simp only [List.append_assoc]
theorem kbuck_keyo (p : Nat × List UInt8) (h : KOk p) : kbuck (keyo p.1 p.2) = p.1 := by
  have h1 := h.1
  unfold kbuck
  rw [keyo_cut, cut (i := 4) rfl (length_be _ 8), vl_be, Nat.mod_eq_of_lt (by omega)]
  exact IntWalk.wrap64_in (p.1 : Int) (by omega)
theorem kkey_keyo (p : Nat × List UInt8) (h : KOk p) : kkey (keyo p.1 p.2) = p.2 := by
  unfold kkey
  rw [keyo_cut, ← List.append_assoc, cut (i := 12) (by simp [length_be]) h.2]
theorem kIs_keyo (p : Nat × List UInt8) (h : KOk p) : kIs (keyo p.1 p.2) := by
  have := h.1
  refine ⟨by rw [kbuck_keyo p h]; omega, by rw [kbuck_keyo p h]; omega, ?_⟩
  rw [kbuck_keyo p h, kkey_keyo p h, Int.toNat_natCast]
theorem keyo_ne (b : Nat) (k : List UInt8) : keyo b k ≠ zer := by
  intro h
  rw [keyo_cut] at h
  have := congrArg List.head? h
  simp [zer, List.head?_replicate] at this
theorem kIs_zer : ¬ kIs zer := fun h => keyo_ne _ _ h.2.2
theorem keyo_inj {p q : Nat × List UInt8} (hp : KOk p) (hq : KOk q) (h : keyo p.1 p.2 = keyo q.1 q.2) : p = q := by
  have h1 := kbuck_keyo p hp
  rw [h, kbuck_keyo q hq] at h1
  have h2 := kkey_keyo p hp
  rw [h, kkey_keyo q hq] at h2
  exact Prod.ext (by omega) h2.symm
/-- A slot as plain data. -/
def keD : Option Ke → Option (Int × List UInt8)
  | none => none
  | some e => some (e.buck, e.key)
def oD : Option (Nat × List UInt8) → Option (Int × List UInt8)
  | none => none
  | some p => some ((p.1 : Int), p.2)
end Go.Proofs.Ytnlghpopjckhiaa
