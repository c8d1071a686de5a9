/-
  errors.As at a *Fault variable.
-/
import Derived.Test.YtnfcnjnecankbaaDoorFt1
namespace Go.Proofs.YtnfcnjnecankbaaDoor
set_option maxRecDepth 4000
open Go.RowKit Go.Extern.Stop Go.Stop Go.Extern

/-- errors.errorType, as the program lays it. -/
def Laid (w : World) : Prop := w.cell? ⟨0, 0, none⟩ = some (.iface 74 (.agg #[.pointer (some ⟨4, 26, none⟩)]))

set_option maxHeartbeats 4000000 in
theorem asP_hit (e t : Addr) (old : Value) (w : World) (hg : Laid w) (ht0 : w.cell? t = some old) (hf0 : w.frozen? t = false) :
    Calls Tryd.prog 10 #[.iface 29 (.pointer (some e)), .iface 31 (.pointer (some t))] w fun ev w' => ev = .returned (.bool true) ∧ ∃ wA, Below w.heap.size w wA ∧ w' = wA.setCell t (.pointer (some e)) := by
  have h6 := @run_callFunc_extern Tryd.prog 24 _ (fun args => ReflectliteValue.unpack (args.getD 0 (.tuple #[]))) Tryd.func24 (by kernel_rfl) (by kernel_rfl) (by kernel_rfl) (by kernel_rfl)
  have h7 := @run_callFunc_extern Tryd.prog 25 _ (ReflectliteValue.methodAny (ReflectliteValue.valueError "reflectlite.Value.Type" 0) (fun t _ _ _ => ReflectliteType.toType t)) Tryd.func25 (by kernel_rfl) (by kernel_rfl) (by kernel_rfl) (by kernel_rfl)
  have h8 := @run_callFunc_extern Tryd.prog 26 _ (ReflectliteValue.method (ReflectliteValue.valueError "reflectlite.Value.IsNil" 0) ReflectliteValue.isNil) Tryd.func26 (by kernel_rfl) (by kernel_rfl) (by kernel_rfl) (by kernel_rfl)
  have h27 := @run_callFunc_extern Tryd.prog 61 _ (ReflectliteType.abiMethod fun t => do pure (.int .u8 (← Rtype.kind t))) Tryd.func61 (by kernel_rfl) (by kernel_rfl) (by kernel_rfl) (by kernel_rfl)
  have h37 := @run_callFunc_extern Tryd.prog 71 _ (ReflectliteType.method ReflectliteType.elem) Tryd.func71 (by kernel_rfl) (by kernel_rfl) (by kernel_rfl) (by kernel_rfl)
  have h38 := @run_callFunc_extern Tryd.prog 72 _ (ReflectliteType.relation "Implements" ReflectliteType.implements_) Tryd.func72 (by kernel_rfl) (by kernel_rfl) (by kernel_rfl) (by kernel_rfl)
  have h10 := @run_callFunc_extern Tryd.prog 30 _ ReflectliteType.typeOf Tryd.func30 (by kernel_rfl) (by kernel_rfl) (by kernel_rfl) (by kernel_rfl)
  have h35 := @run_callFunc_extern Tryd.prog 69 _ (ReflectliteType.relation "AssignableTo" ReflectliteType.assignableTo) Tryd.func69 (by kernel_rfl) (by kernel_rfl) (by kernel_rfl) (by kernel_rfl)
  have h11 := @run_callFunc_extern Tryd.prog 32 _ (ReflectliteValue.method (ReflectliteValue.valueError "reflectlite.Value.Elem" 0) ReflectliteValue.elem) Tryd.func32 (by kernel_rfl) (by kernel_rfl) (by kernel_rfl) (by kernel_rfl)
  have h12 := @run_callFunc_extern Tryd.prog 33 _ ReflectliteValue.set Tryd.func33 (by kernel_rfl) (by kernel_rfl) (by kernel_rfl) (by kernel_rfl)
  have f6 := valueOfPP
  have f7 := typePP
  have mK := methodKind
  have mE := methodElem
  have mI := methodImplements
  have k27 := kindPP
  have k25 := kindP
  have e27 := elemPP
  have i25 := implementsP
  have tO := typeOfP
  have mA := methodAssignableTo
  have a25 := asgPP
  have v25 := valueOfP
  have n8 := isNilPP ⟨w.heap.size, 0, none⟩ t ((w.alloc (.cells #[.pointer (some t)] 31)).alloc (.cells #[.pointer (some ⟨4, 31, none⟩), .pointer (some ⟨w.heap.size, 0, none⟩), .int .u64 150] 59)) (by simp)
  have hlt : 0 < w.heap.size := by
    rcases Nat.eq_zero_or_pos w.heap.size with h0 | h
    · simp [Laid, World.cell?, h0] at hg
    · exact h
  have hg2 : ((w.alloc (.cells #[.pointer (some t)] 31)).alloc (.cells #[.pointer (some ⟨4, 31, none⟩), .pointer (some ⟨w.heap.size, 0, none⟩), .int .u64 150] 59)).cell? ⟨0, 0, none⟩ = some (.iface 74 (.agg #[.pointer (some ⟨4, 26, none⟩)])) := by
    rw [World.cell?_alloc_lt _ _ ⟨0, 0, none⟩ (by simp), World.cell?_alloc_lt _ _ ⟨0, 0, none⟩ hlt]; exact hg
  have htl : t.block < w.heap.size := by
    rcases Nat.lt_or_ge t.block w.heap.size with h | h
    · exact h
    · simp [World.cell?, Array.getElem?_eq_none h] at ht0
  have el := elemVPP ⟨w.heap.size, 0, none⟩ t (((w.alloc (.cells #[.pointer (some t)] 31)).alloc (.cells #[.pointer (some ⟨4, 31, none⟩), .pointer (some ⟨w.heap.size, 0, none⟩), .int .u64 150] 59)).alloc (.cells #[.pointer (some ⟨4, 31, none⟩), .pointer (some ⟨w.heap.size, 0, none⟩), .int .u64 150] 59)) (by rw [World.cell?_alloc_lt _ _ ⟨w.heap.size, 0, none⟩ (by simp; omega)]; simp)
  have st := setP t ⟨w.heap.size + 1 + 1 + 1, 0, none⟩ e old ((((w.alloc (.cells #[.pointer (some t)] 31)).alloc (.cells #[.pointer (some ⟨4, 31, none⟩), .pointer (some ⟨w.heap.size, 0, none⟩), .int .u64 150] 59)).alloc (.cells #[.pointer (some ⟨4, 31, none⟩), .pointer (some ⟨w.heap.size, 0, none⟩), .int .u64 150] 59)).alloc (.cells #[.pointer (some e)] 29))
    (by rw [World.cell?_alloc_at _ _ _ _ (by simp)]; rfl)
    (by rw [World.cell?_alloc_lt _ _ t (by simp; omega), World.cell?_alloc_lt _ _ t (by simp; omega), World.cell?_alloc_lt _ _ t (by simp; omega), World.cell?_alloc_lt _ _ t htl]; exact ht0)
    (by rw [World.frozen?_alloc_old _ _ t (by simp; omega), World.frozen?_alloc_old _ _ t (by simp; omega), World.frozen?_alloc_old _ _ t (by simp; omega), World.frozen?_alloc_old _ _ t (Nat.ne_of_lt htl)]; exact hf0)
  go_enter Tryd.func10, Tryd.ntmps10
  go_wp2
  refine wp_loop_rounds 1 ?_
  rw [rounds_succ]
  go_wp2
  go_ret
  refine ⟨rfl, _, ?_, rfl⟩
  have b1 := (Below.refl w.heap.size w).alloc (Nat.le_refl _) (.cells #[.pointer (some t)] 31)
  have b2 := b1.alloc b1.size (.cells #[.pointer (some ⟨4, 31, none⟩), .pointer (some ⟨w.heap.size, 0, none⟩), .int .u64 150] 59)
  have b3 := b2.alloc b2.size (.cells #[.pointer (some ⟨4, 31, none⟩), .pointer (some ⟨w.heap.size, 0, none⟩), .int .u64 150] 59)
  exact b3.alloc b3.size _

end Go.Proofs.YtnfcnjnecankbaaDoor
