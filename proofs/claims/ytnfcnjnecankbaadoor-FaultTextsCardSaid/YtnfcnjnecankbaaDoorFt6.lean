/-
  errors.Is at a number, over a chain.
-/
import Derived.Test.YtnfcnjnecankbaaDoorFt5
namespace Go.Proofs.YtnfcnjnecankbaaDoor
set_option maxRecDepth 4000
open Go.RowKit Go.Extern.Stop Go.Stop Go.Extern

/-- What the model has for (rtype).Comparable. -/
def cmpFn : Array Value → Sem Value := ReflectliteType.method fun t => do Rtype.noPackHeld "Comparable" t; pure (.bool (← typeInfo t).comparable)
theorem cmpOfE (w : World) : (cmpFn #[.agg #[.pointer (some ⟨4, 28, none⟩)]]).run Tryd.prog w = .ok (.bool true) w := by kernel_rfl
theorem eql_numbers (a b : Int) (w : World) : (binOp .eql 26 (.iface 28 (.int .i64 a)) (.iface 28 (.int .i64 b))).run Tryd.prog w = .ok (.bool (a == b)) w := by
  obtain ⟨i, hi, hc⟩ := Option.map_eq_some_iff.1 (show (Tryd.prog.info? 28).map (·.comparable) = some true by kernel_rfl)
  have hin : ∀ d, (Op.equalIn (d + 2) 26 (.iface 28 (.int .i64 a)) (.iface 28 (.int .i64 b))).run Tryd.prog w = .ok (a == b) w := fun d => by
    simp [Op.equalIn, run_underlying Tryd.underlying26, run_underlying Tryd.underlying28, typeInfo, hi, hc]
  simp only [binOp]
  simp [Op.equal, Op.maxDepth, hin 9998]

set_option maxHeartbeats 4000000 in
theorem is_loop (v : Value) (ls : List Lk) (n x : Int) (w : World) (hc : Chn w v ls n) :
    Calls Tryd.prog 31 #[v, .iface 28 (.int .i64 x), .bool true] w fun ev w' => ev = .returned (.bool (decide (n = x))) ∧ Below w.heap.size w w' := by
  have nI := noIsP
  have nJ := noIsE
  have hU := hasUnwrapP
  have mU := methodUnwrap
  have nU := noUnwrapE
  have nV := noUnwrapsE
  have hty := fun p w => run_eql_iface_types (P := Tryd.prog) 29 28 (.pointer (some ⟨p, 0, none⟩)) (.int .i64 x) Tryd.underlying26 (by decide) w
  have heq := fun w => eql_numbers n x w
  have hD : (n == x) = decide (n = x) := by by_cases h : n = x <;> simp [h]
  rw [hD] at heq
  generalize decide (n = x) = D at heq ⊢
  have HC := Lib.hid hc
  obtain ⟨T0, x0, rfl⟩ := hc.iface
  clear hc hD
  go_enter Tryd.func31, Tryd.ntmps31
  go_wp2_with fail
  go_loopw [0] (fun v wr => ∃ ls, Hid (Chn wr v ls n ∧ Below w.heap.size w wr)) (fun v wr => chnLen wr v)
  case atStart => exact ⟨ls, Lib.hid ⟨HC.out, Below.refl _ _⟩⟩
  case round =>
    obtain ⟨ls, hr⟩ := hrel
    match ls, hr with
    | [], hr =>
      obtain rfl : u0 = .iface 28 (.int .i64 n) := hr.out.1
      have HBW := Lib.hid hr.out.2
      clear hr
      cases D
      · go_wp2_with fail
        go_ret
        exact ⟨rfl, HBW.out⟩
      · go_wp2_with fail
        go_ret
        exact ⟨rfl, HBW.out⟩
    | l :: ls, hr =>
      obtain ⟨p, v', rfl, hbp, hcv⟩ := hr.out.1
      have hlen := chnLen_eq hcv
      have hlen2 : chnLen wr (.iface 29 (.pointer (some ⟨p, 0, none⟩))) = ls.length + 1 := chnLen_eq (ls := l :: ls) ⟨p, v', rfl, hbp, hcv⟩
      have HUW := Lib.hid (unwrap_any p (_, _) v' wr hbp)
      have HN := Lib.hid (And.intro hcv (And.intro hr.out.2 (And.intro hlen hlen2)))
      obtain ⟨T1, x1, rfl⟩ := hcv.iface
      clear hr hbp hcv hlen hlen2
      go_wp2_with fail
      refine HUW.out.mono ?_
      rintro e w5 ⟨rfl, rfl⟩
      go_wp2_with fail
      go_roundw
      case rel => exact ⟨ls, Lib.hid ⟨HN.out.1, HN.out.2.1⟩⟩
      case measure => rw [HN.out.2.2.1, HN.out.2.2.2]; omega

theorem is_any (v : Value) (ls : List Lk) (n x : Int) (w : World) (hc : Chn w v ls n) :
    Calls Tryd.prog 17 #[v, .iface 28 (.int .i64 x)] w fun ev w' => ev = .returned (.bool (decide (n = x))) ∧ Below w.heap.size w w' := by
  have h8 := @run_callFunc_extern Tryd.prog 30 _ ReflectliteType.typeOf Tryd.func30 (by kernel_rfl) (by kernel_rfl) (by kernel_rfl) (by kernel_rfl)
  have h32 := @run_callFunc_extern Tryd.prog 70 _ cmpFn Tryd.func70 (by kernel_rfl) (by kernel_rfl) (by kernel_rfl) (by kernel_rfl)
  have tT := typeOfE
  have cT := cmpOfE
  have mR := methodComparable
  have HL := Lib.hid (is_loop v ls n x w hc)
  obtain ⟨T0, x0, rfl⟩ := hc.iface
  clear hc
  go_enter Tryd.func17, Tryd.ntmps17
  go_wp2_with fail
  refine HL.out.mono ?_
  rintro e w2 ⟨rfl, hb⟩
  go_wp2_with fail
  go_ret
  exact ⟨rfl, hb⟩
theorem is_nil (x : Int) (w : World) : Calls Tryd.prog 17 #[.nilIface, .iface 28 (.int .i64 x)] w fun ev w' => ev = .returned (.bool false) ∧ w = w' := by
  have hn := run_eql_iface_nil_left (P := Tryd.prog) w 28 (.int .i64 x) Tryd.underlying26
  go_enter Tryd.func17, Tryd.ntmps17
  go_wp2_with fail
  go_ret
  exact ⟨rfl, rfl⟩
theorem fis_any (v : Value) (ls : List Lk) (n x : Int) (w : World) (hc : Chn w v ls n) :
    Calls Tryd.prog 16 #[v, .int .i64 x] w fun ev w' => ev = .returned (.bool (decide (n = x))) ∧ Below w.heap.size w w' := by
  have HL := Lib.hid (is_any v ls n x w hc)
  clear hc
  go_enter Tryd.func16, Tryd.ntmps16
  go_wp2_with fail
  refine HL.out.mono ?_
  rintro e w2 ⟨rfl, hb⟩
  go_wp2_with fail
  go_ret
  exact ⟨rfl, hb⟩
theorem fis_nil (x : Int) (w : World) : Calls Tryd.prog 16 #[.nilIface, .int .i64 x] w fun ev w' => ev = .returned (.bool false) ∧ w = w' := by
  have HL := Lib.hid (is_nil x w)
  go_enter Tryd.func16, Tryd.ntmps16
  go_wp2_with fail
  refine HL.out.mono ?_
  rintro e w2 ⟨rfl, rfl⟩
  go_wp2_with fail
  go_ret
  exact ⟨rfl, rfl⟩
end Go.Proofs.YtnfcnjnecankbaaDoor
