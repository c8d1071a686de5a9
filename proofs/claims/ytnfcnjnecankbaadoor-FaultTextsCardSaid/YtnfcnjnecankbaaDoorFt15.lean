/-
  What is told of nothing, and of a fault that wraps nothing.
-/
import Derived.Test.YtnfcnjnecankbaaDoorLinkArg
import Derived.Test.YtnfcnjnecankbaaDoorItoaR
namespace Go.Proofs.YtnfcnjnecankbaaDoor
set_option maxRecDepth 4000
open Go.RowKit Go.Extern.Stop Go.Stop Go.Extern

theorem unwrap_nil (w : World) : Calls Tryd.prog 13 #[.pointer none] w fun e w' => e = .returned .nilIface ∧ w = w' := by
  go_enter Tryd.func13, Tryd.ntmps13
  go_wp2_with fail
  go_ret
  exact ⟨rfl, rfl⟩

set_option maxHeartbeats 4000000 in
theorem asE_loop0 (p : Nat) (c0 c1 : Value) (a t : Addr) (w : World) (hc : Blk w p 33 #[c0, c1, .nilIface]) :
    Calls Tryd.prog 27 #[.iface 29 (.pointer (some ⟨p, 0, none⟩)), .iface 39 (.pointer (some t)), .agg #[.pointer (some ⟨4, 39, none⟩), .pointer (some a), .int .u64 150], .iface 74 (.agg #[.pointer (some ⟨4, 28, none⟩)])] w fun ev w' =>
      ev = .returned (.bool false) ∧ Below w.heap.size w w' := by
  have h10 := @run_callFunc_extern Tryd.prog 30 _ ReflectliteType.typeOf Tryd.func30 (by kernel_rfl) (by kernel_rfl) (by kernel_rfl) (by kernel_rfl)
  have h35 := @run_callFunc_extern Tryd.prog 69 _ (ReflectliteType.relation "AssignableTo" ReflectliteType.assignableTo) Tryd.func69 (by kernel_rfl) (by kernel_rfl) (by kernel_rfl) (by kernel_rfl)
  have tO := typeOfP
  have mA := methodAssignableTo
  have a25 := asgPE
  have nA := noAsP
  have hU := hasUnwrapP
  have mU := methodUnwrap
  have hb1 : Below w.heap.size w (w.alloc (.cells #[.pointer (some ⟨4, 39, none⟩), .pointer (some a), .int .u64 150] 59)) := (Below.refl _ _).alloc (Nat.le_refl _) _
  have HUW := Lib.hid (unwrap_any p (_, _) .nilIface _ (hc.below hb1 hc.lt))
  have HB1 := Lib.hid hb1
  clear hc hb1
  go_enter Tryd.func27, Tryd.ntmps27
  go_wp2_with fail
  refine wp_loop_rounds 1 ?_
  rw [rounds_succ]
  go_wp2_with fail
  refine HUW.out.mono ?_
  rintro e w5 ⟨rfl, rfl⟩
  go_wp2_with fail
  go_ret
  exact ⟨rfl, HB1.out⟩

set_option maxHeartbeats 4000000 in
theorem asE_none (p : Nat) (c0 c1 : Value) (t : Addr) (old : Value) (w : World) (hg : Laid w) (hc : Blk w p 33 #[c0, c1, .nilIface]) (ht0 : w.cell? t = some old) :
    Calls Tryd.prog 10 #[.iface 29 (.pointer (some ⟨p, 0, none⟩)), .iface 39 (.pointer (some t))] w fun ev w' => ev = .returned (.bool false) ∧ Below w.heap.size w w' := by
  have h6 := @run_callFunc_extern Tryd.prog 24 _ (fun args => ReflectliteValue.unpack (args.getD 0 (.tuple #[]))) Tryd.func24 (by kernel_rfl) (by kernel_rfl) (by kernel_rfl) (by kernel_rfl)
  have h7 := @run_callFunc_extern Tryd.prog 25 _ (ReflectliteValue.methodAny (ReflectliteValue.valueError "reflectlite.Value.Type" 0) (fun t _ _ _ => ReflectliteType.toType t)) Tryd.func25 (by kernel_rfl) (by kernel_rfl) (by kernel_rfl) (by kernel_rfl)
  have h8 := @run_callFunc_extern Tryd.prog 26 _ (ReflectliteValue.method (ReflectliteValue.valueError "reflectlite.Value.IsNil" 0) ReflectliteValue.isNil) Tryd.func26 (by kernel_rfl) (by kernel_rfl) (by kernel_rfl) (by kernel_rfl)
  have h27 := @run_callFunc_extern Tryd.prog 61 _ (ReflectliteType.abiMethod fun t => do pure (.int .u8 (← Rtype.kind t))) Tryd.func61 (by kernel_rfl) (by kernel_rfl) (by kernel_rfl) (by kernel_rfl)
  have h37 := @run_callFunc_extern Tryd.prog 71 _ (ReflectliteType.method ReflectliteType.elem) Tryd.func71 (by kernel_rfl) (by kernel_rfl) (by kernel_rfl) (by kernel_rfl)
  have h38 := @run_callFunc_extern Tryd.prog 72 _ (ReflectliteType.relation "Implements" ReflectliteType.implements_) Tryd.func72 (by kernel_rfl) (by kernel_rfl) (by kernel_rfl) (by kernel_rfl)
  have f6 := valueOfPE
  have f7 := typePE
  have mK := methodKind
  have mE := methodElem
  have mI := methodImplements
  have k27 := kindPE
  have k25 := kindE
  have e27 := elemPE
  have i25 := implementsE
  have n8 := isNilPE ⟨w.heap.size, 0, none⟩ t ((w.alloc (.cells #[.pointer (some t)] 39)).alloc (.cells #[.pointer (some ⟨4, 39, none⟩), .pointer (some ⟨w.heap.size, 0, none⟩), .int .u64 150] 59)) (by simp)
  have hlt : 0 < w.heap.size := by
    rcases Nat.eq_zero_or_pos w.heap.size with h0 | h
    · simp [Laid, World.cell?, h0] at hg
    · exact h
  have hg2 : ((w.alloc (.cells #[.pointer (some t)] 39)).alloc (.cells #[.pointer (some ⟨4, 39, none⟩), .pointer (some ⟨w.heap.size, 0, none⟩), .int .u64 150] 59)).cell? ⟨0, 0, none⟩ = some (.iface 74 (.agg #[.pointer (some ⟨4, 26, none⟩)])) := by
    rw [World.cell?_alloc_lt _ _ ⟨0, 0, none⟩ (by simp), World.cell?_alloc_lt _ _ ⟨0, 0, none⟩ hlt]; exact hg
  have htl : t.block < w.heap.size := World.block_lt_of_cell? _ _ ht0
  have b1 := (Below.refl w.heap.size w).alloc (Nat.le_refl _) (.cells #[.pointer (some t)] 39)
  have b2 := b1.alloc b1.size (.cells #[.pointer (some ⟨4, 39, none⟩), .pointer (some ⟨w.heap.size, 0, none⟩), .int .u64 150] 59)
  have HL := Lib.hid (asE_loop0 p c0 c1 ⟨w.heap.size, 0, none⟩ t ((w.alloc (.cells #[.pointer (some t)] 39)).alloc (.cells #[.pointer (some ⟨4, 39, none⟩), .pointer (some ⟨w.heap.size, 0, none⟩), .int .u64 150] 59)) (hc.below b2 hc.lt))
  have HB2 := Lib.hid b2
  clear hc ht0 htl b1 b2
  go_enter Tryd.func10, Tryd.ntmps10
  go_wp2_with fail
  refine HL.out.mono ?_
  rintro e w3 ⟨rfl, hA⟩
  have HA := Lib.hid (HB2.out.trans (hA.mono HB2.out.size))
  clear hA HL
  go_wp2_with fail
  go_ret
  exact ⟨rfl, HA.out⟩

theorem code_none (p : Nat) (c0 c1 : Value) (w : World) (hg : Laid w) (hc : Blk w p 33 #[c0, c1, .nilIface]) : Calls Tryd.prog 14 #[.iface 29 (.pointer (some ⟨p, 0, none⟩))] w fun e w' => e = .returned (.int .i64 0) ∧ Below w.heap.size w w' := by
  have hb : Below w.heap.size w (w.alloc (.cells #[.int .i64 0] 28)) := (Below.refl _ _).alloc (Nat.le_refl _) _
  have hlt : 0 < w.heap.size := by
    rcases Nat.eq_zero_or_pos w.heap.size with h0 | h
    · simp [Laid, World.cell?, h0] at hg
    · exact h
  have hg1 : Laid (w.alloc (.cells #[.int .i64 0] 28)) := (World.cell?_of_block (hb.block 0 hlt)).trans hg
  have hn := Blk.new w 28 #[.int .i64 0]
  have HA := Lib.hid (asE_none p c0 c1 ⟨w.heap.size, 0, none⟩ (.int .i64 0) _ hg1 (hc.below hb hc.lt) (hn.cell 0))
  have HB := Lib.hid hb
  clear hc hb hg1 hn hg
  go_enter Tryd.func14, Tryd.ntmps14
  go_wp2_with fail
  refine HA.out.mono ?_
  rintro e w2 ⟨rfl, hA⟩
  have HA2 := Lib.hid (HB.out.trans (hA.mono HB.out.size))
  clear hA HA
  go_wp2_with fail
  go_ret
  exact ⟨rfl, HA2.out⟩
end Go.Proofs.YtnfcnjnecankbaaDoor
