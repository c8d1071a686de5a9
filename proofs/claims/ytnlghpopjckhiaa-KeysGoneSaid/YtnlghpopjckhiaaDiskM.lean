/-
  The disk, as plain data: what it has, what waits, and what its calls do. No program in sight.
-/
import Derived.Test.YtnlghpopjckhiaaWords
namespace Go.Proofs.Ytnlghpopjckhiaa
set_option maxRecDepth 4000

structure Dk where
  safe : List UInt8
  queue : List (Nat × List UInt8)
  calls : Int

def put (s : List UInt8) (q : Nat × List UInt8) : List UInt8 := splice s (q.1 * 128) q.2
def puts (s : List UInt8) (q : List (Nat × List UInt8)) : List UInt8 := q.foldl put s
def Dk.image (d : Dk) : List UInt8 := puts d.safe d.queue
/-- Whole sectors, not too many; what waits is a sector, and lies inside; the count is an int. -/
structure Dk.Ok (d : Dk) : Prop where
  whole : 128 ∣ d.safe.length
  pos : 128 ≤ d.safe.length
  most : d.safe.length ≤ 8388608
  fits : ∀ q ∈ d.queue, q.2.length = 128 ∧ (q.1 + 1) * 128 ≤ d.safe.length
  lo : -9223372036854775808 ≤ d.calls
  hi : d.calls ≤ 9223372036854775807

theorem length_put (s : List UInt8) (q : Nat × List UInt8) (h : q.2.length = 128) (h2 : (q.1 + 1) * 128 ≤ s.length) : (put s q).length = s.length :=
  length_splice _ _ _ (by omega)
theorem length_puts (s : List UInt8) (l : List (Nat × List UInt8)) (h : ∀ q ∈ l, q.2.length = 128 ∧ (q.1 + 1) * 128 ≤ s.length) : (puts s l).length = s.length := by
  induction l generalizing s with
  | nil => rfl
  | cons q l ih =>
    have h1 := h q (by simp)
    have hl := length_put s q h1.1 h1.2
    show (puts (put s q) l).length = _
    rw [ih (put s q) (fun q' hq' => by rw [hl]; exact h q' (by simp [hq'])), hl]
theorem puts_snoc (s : List UInt8) (l : List (Nat × List UInt8)) (q : Nat × List UInt8) : puts s (l ++ [q]) = put (puts s l) q := by simp [puts]
theorem Dk.Ok.image {d : Dk} (h : Dk.Ok d) : d.image.length = d.safe.length := length_puts _ _ h.fits

/-- Of a slice of whole sectors, the i-th. -/
def sect (l : List UInt8) (i : Nat) : List UInt8 := (l.drop (i * 128)).take 128
def parts (at_ : Nat) (l : List UInt8) (n : Nat) : List (Nat × List UInt8) := (List.range n).map fun i => (at_ + i, sect l i)
theorem parts_zero (at_ : Nat) (l : List UInt8) : parts at_ l 0 = [] := rfl
theorem parts_succ (at_ : Nat) (l : List UInt8) (n : Nat) : parts at_ l (n + 1) = parts at_ l n ++ [(at_ + n, sect l n)] := by simp [parts, List.range_succ]
theorem length_sect (l : List UInt8) (i : Nat) (h : (i + 1) * 128 ≤ l.length) : (sect l i).length = 128 := by simp [sect]; omega
def thereB (at_ n size : Int) : Bool := decide (0 ≤ at_ ∧ 0 ≤ n ∧ at_ ≤ size ∧ n ≤ size - at_)
/-- call: counts down where it is above 0. -/
def nextCalls (k : Int) : Int := if 0 < k then k - 1 else k
def Dk.size (d : Dk) : Nat := d.safe.length / 128
def thereN (at_ : Int) (n size : Nat) : Bool := thereB at_ n size
/-- What Write answers, and what it leaves. -/
def Dk.writeE (d : Dk) (at_ : Int) (l : List UInt8) : Int :=
  if l.length % 128 ≠ 0 then 2 else if thereN at_ (l.length / 128) d.size = false then 20 else if d.calls = 0 then 22 else 0
def Dk.push (d : Dk) (at_ : Nat) (l : List UInt8) (n : Nat) : Dk := { d with queue := d.queue ++ parts at_ l n, calls := nextCalls d.calls }
def Dk.write (d : Dk) (at_ : Int) (l : List UInt8) : Dk := if d.writeE at_ l = 0 then d.push at_.toNat l (l.length / 128) else d

theorem nextCalls_in (k : Int) (h : -9223372036854775808 ≤ k) (h2 : k ≤ 9223372036854775807) : -9223372036854775808 ≤ nextCalls k ∧ nextCalls k ≤ 9223372036854775807 := by
  unfold nextCalls; split <;> omega
theorem Dk.Ok.push {d : Dk} (h : d.Ok) (at_ : Nat) (l : List UInt8) (n : Nat) (hl : n * 128 ≤ l.length) (hs : (at_ + n) * 128 ≤ d.safe.length) : (d.push at_ l n).Ok := by
  refine ⟨h.whole, h.pos, h.most, ?_, (nextCalls_in _ h.lo h.hi).1, (nextCalls_in _ h.lo h.hi).2⟩
  intro q hq
  rcases List.mem_append.1 hq with hq | hq
  · exact h.fits q hq
  · obtain ⟨i, hi, rfl⟩ := List.mem_map.1 hq
    have := List.mem_range.1 hi
    exact ⟨length_sect l i (by omega), show (at_ + i + 1) * 128 ≤ d.safe.length by omega⟩
theorem Dk.Ok.write {d : Dk} (h : d.Ok) (at_ : Int) (l : List UInt8) : (d.write at_ l).Ok := by
  unfold Dk.write
  split
  · rename_i he
    unfold Dk.writeE at he
    split at he
    · cases he
    · split at he
      · cases he
      · rename_i h1 h2
        simp only [Bool.not_eq_false, thereN, thereB, Dk.size] at h2
        have h2 := of_decide_eq_true h2
        have := h.whole
        exact h.push _ _ _ (by omega) (by omega)
  · exact h
end Go.Proofs.Ytnlghpopjckhiaa
