/-
  errors.As at an Errno variable; Code.
-/
import Derived.Test.YtnfcnjnecankbaaDoorFt4
namespace Go.Proofs.YtnfcnjnecankbaaDoor
set_option maxRecDepth 4000
open Go.RowKit Go.Extern.Stop Go.Stop Go.Extern

set_option maxHeartbeats 4000000 in
theorem asE_hit (v : Value) (ls : List Lk) (n : Int) (t : Addr) (old : Value) (w : World) (hg : Laid w) (hc : Chn w v ls n) (ht0 : w.cell? t = some old) (hf0 : w.frozen? t = false) :
    Calls Tryd.prog 10 #[v, .iface 39 (.pointer (some t))] w fun ev w' => ev = .returned (.bool true) ∧ ∃ wA, Below w.heap.size w wA ∧ w' = wA.setCell t (.int .i64 n) := by
  have h6 := @run_callFunc_extern Tryd.prog 24 _ (fun args => ReflectliteValue.unpack (args.getD 0 (.tuple #[]))) Tryd.func24 (by kernel_rfl) (by kernel_rfl) (by kernel_rfl) (by kernel_rfl)
  have h7 := @run_callFunc_extern Tryd.prog 25 _ (ReflectliteValue.methodAny (ReflectliteValue.valueError "reflectlite.Value.Type" 0) (fun t _ _ _ => ReflectliteType.toType t)) Tryd.func25 (by kernel_rfl) (by kernel_rfl) (by kernel_rfl) (by kernel_rfl)
  have h8 := @run_callFunc_extern Tryd.prog 26 _ (ReflectliteValue.method (ReflectliteValue.valueError "reflectlite.Value.IsNil" 0) ReflectliteValue.isNil) Tryd.func26 (by kernel_rfl) (by kernel_rfl) (by kernel_rfl) (by kernel_rfl)
  have h27 := @run_callFunc_extern Tryd.prog 61 _ (ReflectliteType.abiMethod fun t => do pure (.int .u8 (← Rtype.kind t))) Tryd.func61 (by kernel_rfl) (by kernel_rfl) (by kernel_rfl) (by kernel_rfl)
  have h37 := @run_callFunc_extern Tryd.prog 71 _ (ReflectliteType.method ReflectliteType.elem) Tryd.func71 (by kernel_rfl) (by kernel_rfl) (by kernel_rfl) (by kernel_rfl)
  have h38 := @run_callFunc_extern Tryd.prog 72 _ (ReflectliteType.relation "Implements" ReflectliteType.implements_) Tryd.func72 (by kernel_rfl) (by kernel_rfl) (by kernel_rfl) (by kernel_rfl)
  have f6 := valueOfPE
  have f7 := typePE
  have mK := methodKind
  have mE := methodElem
  have mI := methodImplements
  have k27 := kindPE
  have k25 := kindE
  have e27 := elemPE
  have i25 := implementsE
  have n8 := isNilPE ⟨w.heap.size, 0, none⟩ t ((w.alloc (.cells #[.pointer (some t)] 39)).alloc (.cells #[.pointer (some ⟨4, 39, none⟩), .pointer (some ⟨w.heap.size, 0, none⟩), .int .u64 150] 59)) (by simp)
  have hlt : 0 < w.heap.size := by
    rcases Nat.eq_zero_or_pos w.heap.size with h0 | h
    · simp [Laid, World.cell?, h0] at hg
    · exact h
  have hg2 : ((w.alloc (.cells #[.pointer (some t)] 39)).alloc (.cells #[.pointer (some ⟨4, 39, none⟩), .pointer (some ⟨w.heap.size, 0, none⟩), .int .u64 150] 59)).cell? ⟨0, 0, none⟩ = some (.iface 74 (.agg #[.pointer (some ⟨4, 26, none⟩)])) := by
    rw [World.cell?_alloc_lt _ _ ⟨0, 0, none⟩ (by simp), World.cell?_alloc_lt _ _ ⟨0, 0, none⟩ hlt]; exact hg
  have htl : t.block < w.heap.size := World.block_lt_of_cell? _ _ ht0
  have b1 := (Below.refl w.heap.size w).alloc (Nat.le_refl _) (.cells #[.pointer (some t)] 39)
  have b2 := b1.alloc b1.size (.cells #[.pointer (some ⟨4, 39, none⟩), .pointer (some ⟨w.heap.size, 0, none⟩), .int .u64 150] 59)
  have HL := Lib.hid (asE_loop v ls n ⟨w.heap.size, 0, none⟩ t old ((w.alloc (.cells #[.pointer (some t)] 39)).alloc (.cells #[.pointer (some ⟨4, 39, none⟩), .pointer (some ⟨w.heap.size, 0, none⟩), .int .u64 150] 59)) (hc.keep b2)
    (by rw [World.cell?_alloc_lt _ _ ⟨w.heap.size, 0, none⟩ (by simp)]; simp) ((World.cell?_of_block (b2.block t.block htl)).trans ht0) ((World.frozen?_of_block (b2.block t.block htl)).trans hf0))
  have HB2 := Lib.hid b2
  obtain ⟨T0, x0, rfl⟩ := hc.iface
  clear hc ht0 hf0 htl b1 b2
  go_enter Tryd.func10, Tryd.ntmps10
  go_wp2_with fail
  refine HL.out.mono ?_
  rintro e w3 ⟨rfl, wA, hA, rfl⟩
  have HA := Lib.hid (HB2.out.trans (hA.mono HB2.out.size))
  clear hA HL
  go_wp2_with fail
  go_ret
  exact ⟨rfl, _, HA.out, rfl⟩

theorem code_nil (w : World) : Calls Tryd.prog 14 #[.nilIface] w fun e w' => e = .returned (.int .i64 0) ∧ Below w.heap.size w w' := by
  have HA := Lib.hid as_nil
  go_enter Tryd.func14, Tryd.ntmps14
  go_wp2_with fail
  refine (HA.out _ _).mono ?_
  rintro e w2 ⟨rfl, rfl⟩
  go_wp2_with fail
  go_ret
  exact ⟨rfl, (Below.refl _ _).alloc (Nat.le_refl _) _⟩
theorem code_any (v : Value) (ls : List Lk) (n : Int) (w : World) (hg : Laid w) (hc : Chn w v ls n) : Calls Tryd.prog 14 #[v] w fun e w' => e = .returned (.int .i64 n) ∧ Below w.heap.size w w' := by
  have hb : Below w.heap.size w (w.alloc (.cells #[.int .i64 0] 28)) := (Below.refl _ _).alloc (Nat.le_refl _) _
  have hlt : 0 < w.heap.size := by
    rcases Nat.eq_zero_or_pos w.heap.size with h0 | h
    · simp [Laid, World.cell?, h0] at hg
    · exact h
  have hg1 : Laid (w.alloc (.cells #[.int .i64 0] 28)) := (World.cell?_of_block (hb.block 0 hlt)).trans hg
  have hn := Blk.new w 28 #[.int .i64 0]
  have HA := Lib.hid (asE_hit v ls n ⟨w.heap.size, 0, none⟩ (.int .i64 0) _ hg1 (hc.keep hb) (hn.cell 0) (hn.frozen 0))
  have HB := Lib.hid hb
  have HN := Lib.hid hn
  clear hc hb hg1 hn hg
  go_enter Tryd.func14, Tryd.ntmps14
  go_wp2_with fail
  refine HA.out.mono ?_
  rintro e w2 ⟨rfl, wA, hA, rfl⟩
  have hnA := HN.out.below hA HN.out.lt
  have hset := hnA.set_ 0 (.int .i64 n)
  have c0 : (wA.setCell ⟨w.heap.size, 0, none⟩ (.int .i64 n)).cell? ⟨w.heap.size, 0, none⟩ = some (.int .i64 n) := hset.cell 0
  have hbe : Below w.heap.size w (wA.setCell ⟨w.heap.size, 0, none⟩ (.int .i64 n)) := (HB.out.trans (hA.mono HB.out.size)).trans ((Fr.setCell (F := (· = w.heap.size)) _ _ _ rfl).below (HB.out.trans (hA.mono HB.out.size)).size (fun k hk => by omega))
  have HBE := Lib.hid hbe
  generalize wA.setCell ⟨w.heap.size, 0, none⟩ (.int .i64 n) = w3 at *
  clear hA hnA hset hbe HA HB HN
  go_wp2_with fail
  go_ret
  exact ⟨rfl, HBE.out⟩
end Go.Proofs.YtnfcnjnecankbaaDoor
