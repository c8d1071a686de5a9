/-
  Two dues, the same or not.
-/
import Derived.Test.YtaapdkeipknilaaDue2
import Derived.WideKeyRuns
import Derived.Laws.StructEq
namespace Go.Proofs.Ytaapdkeipknilaa
set_option maxRecDepth 4000
open Go.RowKit

structure DueType (P : Program) (T I : TypeId) (f0 f1 : Field) : Prop where
  st : P.underlying T = some (.struct #[f0, f1])
  int : P.underlying I = some (.int .i64)
  t0 : f0.type = I
  t1 : f1.type = I
  o0 : f0.offset = 0
  o1 : f1.offset = 1
  n0 : f0.name ≠ "_"
  n1 : f1.name ≠ "_"
  held : P.stoodInHeld T = false
section
variable {P : Program} {T I : TypeId} {f0 f1 : Field} (H : DueType P T I f0 f1)
include H
theorem DueType.plain : P.plainKey I = true := by simp [Program.plainKey, H.int]
theorem run_equal_due (w : World) (a b c e : Int) (d : Nat) : (Op.equalIn (d + 2) T (.agg #[.int .i64 a, .int .i64 b]) (.agg #[.int .i64 c, .int .i64 e])).run P w = .ok (decide ((a, b) = (c, e))) w := by
  have hf : P.fieldsOf T = #[f0, f1] := by simp [Program.fieldsOf, H.st]
  have hp : ∀ (xs : Array Value) (i : Nat) (v : Value), xs[i]? = some v → (part I xs i).run P w = .ok v w := fun xs i v hv => run_part_plain w H.plain hv
  rw [run_equalIn_agg w (d + 1) T _ _ (by rw [hf]; exact H.st) H.held, hf]
  simp only [Op.eqFields, H.t0, H.t1, H.o0, H.o1]
  by_cases h0 : a = c
  · by_cases h1 : b = e
    · simp [Sem.run_bind, hp, H.n0, H.n1, run_equalIn_int w d I .i64 .i64 _ _ H.int, h0, h1]
    · simp [Sem.run_bind, hp, H.n0, H.n1, run_equalIn_int w d I .i64 .i64 _ _ H.int, h0, h1]
  · simp [Sem.run_bind, hp, H.n0, H.n1, run_equalIn_int w d I .i64 .i64 _ _ H.int, h0]
theorem run_eql_due' (w : World) (a b c e : Int) : (binOp .eql T (.agg #[.int .i64 a, .int .i64 b]) (.agg #[.int .i64 c, .int .i64 e])).run P w = .ok (.bool (decide ((a, b) = (c, e)))) w := by
  have h := run_equal_due H w a b c e 9998
  rw [run_eql_struct, h]
  rfl
theorem run_neq_due' (w : World) (a b c e : Int) : (binOp .neq T (.agg #[.int .i64 a, .int .i64 b]) (.agg #[.int .i64 c, .int .i64 e])).run P w = .ok (.bool (!decide ((a, b) = (c, e)))) w := by
  have h := run_equal_due H w a b c e 9998
  rw [run_neq_struct, h]
  rfl
end
def duf (n : String) (o b : Nat) : Field := ⟨n, 3, o, false, "", "", b⟩
theorem dueType : DueType Try.prog 28 3 (duf "Time" 0 0) (duf "Bucket" 1 8) :=
  ⟨Try.underlying28, Try.underlying3, rfl, rfl, rfl, rfl, by decide, by decide, by kernel_rfl⟩
theorem run_eql_due (w : World) (a b c e : Int) : (binOp .eql 28 (.agg #[.int .i64 a, .int .i64 b]) (.agg #[.int .i64 c, .int .i64 e])).run Try.prog w = .ok (.bool (decide ((a, b) = (c, e)))) w := run_eql_due' dueType w a b c e
theorem run_neq_due (w : World) (a b c e : Int) : (binOp .neq 28 (.agg #[.int .i64 a, .int .i64 b]) (.agg #[.int .i64 c, .int .i64 e])).run Try.prog w = .ok (.bool (!decide ((a, b) = (c, e)))) w := run_neq_due' dueType w a b c e
end Go.Proofs.Ytaapdkeipknilaa
