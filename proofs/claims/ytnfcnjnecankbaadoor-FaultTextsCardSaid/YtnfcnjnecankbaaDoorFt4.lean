/-
  errors.As at an Errno variable, over a chain.
-/
import Derived.Test.YtnfcnjnecankbaaDoorFt3
namespace Go.Proofs.YtnfcnjnecankbaaDoor
set_option maxRecDepth 4000
open Go.RowKit Go.Extern.Stop Go.Stop Go.Extern

theorem Chn.iface {w : World} {ls : List Lk} {v : Value} {e : Int} (h : Chn w v ls e) : ∃ T x, v = .iface T x := by
  cases ls with
  | nil => exact ⟨_, _, h⟩
  | cons l ls => obtain ⟨p, v', h1, -⟩ := h; exact ⟨_, _, h1⟩
theorem unwrap_any (p : Nat) (a : Value × Value) (v : Value) (w : World) (h : Blk w p 33 #[a.1, a.2, v]) : Calls Tryd.prog 13 #[.pointer (some ⟨p, 0, none⟩)] w fun e w' => e = .returned v ∧ w = w' := by
  have c2 : w.cell? ⟨p, 2, none⟩ = some v := h.cell 2
  clear h
  go_enter Tryd.func13, Tryd.ntmps13
  go_wp2_with fail
  go_ret
  exact ⟨rfl, rfl⟩

set_option maxHeartbeats 4000000 in
theorem asE_loop (v : Value) (ls : List Lk) (n : Int) (a t : Addr) (old : Value) (w : World) (hc : Chn w v ls n) (ha : w.cell? a = some (.pointer (some t))) (ht0 : w.cell? t = some old) (hf0 : w.frozen? t = false) :
    Calls Tryd.prog 27 #[v, .iface 39 (.pointer (some t)), .agg #[.pointer (some ⟨4, 39, none⟩), .pointer (some a), .int .u64 150], .iface 74 (.agg #[.pointer (some ⟨4, 28, none⟩)])] w fun ev w' =>
      ev = .returned (.bool true) ∧ ∃ wA, Below w.heap.size w wA ∧ w' = wA.setCell t (.int .i64 n) := by
  have h6 := @run_callFunc_extern Tryd.prog 24 _ (fun args => ReflectliteValue.unpack (args.getD 0 (.tuple #[]))) Tryd.func24 (by kernel_rfl) (by kernel_rfl) (by kernel_rfl) (by kernel_rfl)
  have h10 := @run_callFunc_extern Tryd.prog 30 _ ReflectliteType.typeOf Tryd.func30 (by kernel_rfl) (by kernel_rfl) (by kernel_rfl) (by kernel_rfl)
  have h35 := @run_callFunc_extern Tryd.prog 69 _ (ReflectliteType.relation "AssignableTo" ReflectliteType.assignableTo) Tryd.func69 (by kernel_rfl) (by kernel_rfl) (by kernel_rfl) (by kernel_rfl)
  have h11 := @run_callFunc_extern Tryd.prog 32 _ (ReflectliteValue.method (ReflectliteValue.valueError "reflectlite.Value.Elem" 0) ReflectliteValue.elem) Tryd.func32 (by kernel_rfl) (by kernel_rfl) (by kernel_rfl) (by kernel_rfl)
  have h12 := @run_callFunc_extern Tryd.prog 33 _ ReflectliteValue.set Tryd.func33 (by kernel_rfl) (by kernel_rfl) (by kernel_rfl) (by kernel_rfl)
  have tO := typeOfP
  have tE := typeOfE
  have mA := methodAssignableTo
  have a25 := asgPE
  have a28 := asgEE
  have nA := noAsP
  have hU := hasUnwrapP
  have mU := methodUnwrap
  have v28 := valueOfE
  have hb1 : Below w.heap.size w (w.alloc (.cells #[.pointer (some ⟨4, 39, none⟩), .pointer (some a), .int .u64 150] 59)) := (Below.refl _ _).alloc (Nat.le_refl _) _
  have hbx := Blk.new w 59 #[.pointer (some ⟨4, 39, none⟩), .pointer (some a), .int .u64 150]
  have HB1 := Lib.hid hb1
  have HBX := Lib.hid hbx
  have HC := Lib.hid (hc.keep hb1)
  have htl : t.block < w.heap.size := World.block_lt_of_cell? _ _ ht0
  have hal : a.block < w.heap.size := World.block_lt_of_cell? _ _ ha
  have HT := Lib.hid (And.intro ha (And.intro ht0 (And.intro hf0 (And.intro htl hal))))
  clear hc ha ht0 hf0 hb1 hbx htl hal
  obtain ⟨T0, x0, rfl⟩ := HC.out.iface
  go_enter Tryd.func27, Tryd.ntmps27
  go_wp2_with fail
  obtain ⟨gx, hgx⟩ : ∃ gx, gx = w.heap.size := ⟨_, rfl⟩
  obtain ⟨w1, hw1⟩ : ∃ w1, w.alloc (.cells #[.pointer (some ⟨4, 39, none⟩), .pointer (some a), .int .u64 150] 59) = w1 := ⟨_, rfl⟩
  rw [hw1] at HB1 HBX HC ⊢
  rw [← hgx] at HBX ⊢
  clear hgx hw1
  go_loopw [0] (fun v wr => ∃ ls, Hid (Chn wr v ls n ∧ Below w1.heap.size w1 wr)) (fun v wr => chnLen wr v)
  case atStart => exact ⟨ls, Lib.hid ⟨HC.out, Below.refl _ _⟩⟩
  case round =>
    obtain ⟨ls, hr⟩ := hrel
    have hB := HBX.out.below hr.out.2 HBX.out.lt
    have hbw : Below w.heap.size w wr := HB1.out.trans (hr.out.2.mono HB1.out.size)
    have HBW := Lib.hid hbw
    match ls, hr with
    | [], hr =>
      obtain rfl : u0 = .iface 28 (.int .i64 n) := hr.out.1
      have hca : wr.cell? a = some (.pointer (some t)) := (World.cell?_of_block (hbw.block a.block HT.out.2.2.2.2)).trans HT.out.1
      have hct : wr.cell? t = some old := (World.cell?_of_block (hbw.block t.block HT.out.2.2.2.1)).trans HT.out.2.1
      have hcf : wr.frozen? t = false := by rw [World.frozen?_of_block (hbw.block t.block HT.out.2.2.2.1)]; exact HT.out.2.2.1
      have hz := hbw.size
      have el := elemVPE a t wr hca
      have st := setE t ⟨wr.heap.size, 0, none⟩ n old (wr.alloc (.cells #[.int .i64 n] 28)) (by simp)
        (by rw [World.cell?_alloc_lt _ _ t (by have := HT.out.2.2.2.1; omega)]; exact hct) (by rw [World.frozen?_alloc_old _ _ t (by have := HT.out.2.2.2.1; omega)]; exact hcf)
      have HSZ := Lib.hid (show (Tryd.prog.info? 59).map (·.size) = some 3 by kernel_rfl)
      clear hr hca hct hcf hbw
      have g0 : wr.cell? ⟨gx, 0, none⟩ = some (.pointer (some ⟨4, 39, none⟩)) := hB.cell 0
      have g1 : wr.cell? ⟨gx, 1, none⟩ = some (.pointer (some a)) := hB.cell 1
      have g2 : wr.cell? ⟨gx, 2, none⟩ = some (.int .u64 150) := hB.cell 2
      clear hB
      go_wp2_with fail
      go_ret
      exact ⟨rfl, _, HBW.out.alloc HBW.out.size _, rfl⟩
    | l :: ls, hr =>
      obtain ⟨p, v', rfl, hbp, hcv⟩ := hr.out.1
      have hlen := chnLen_eq hcv
      have hlen2 : chnLen wr (.iface 29 (.pointer (some ⟨p, 0, none⟩))) = ls.length + 1 := chnLen_eq (ls := l :: ls) ⟨p, v', rfl, hbp, hcv⟩
      have HUW := Lib.hid (unwrap_any p (_, _) v' wr hbp)
      have HN := Lib.hid (And.intro hcv (And.intro hr.out.2 (And.intro hlen hlen2)))
      obtain ⟨T1, x1, rfl⟩ := hcv.iface
      clear hr hbp hcv hlen hlen2
      go_wp2_with fail
      refine HUW.out.mono ?_
      rintro e w5 ⟨rfl, rfl⟩
      go_wp2_with fail
      go_roundw
      case rel => exact ⟨ls, Lib.hid ⟨HN.out.1, HN.out.2.1⟩⟩
      case measure => rw [HN.out.2.2.1, HN.out.2.2.2]; omega
end Go.Proofs.YtnfcnjnecankbaaDoor
