/-
  errors.As at an Errno variable, over a chain.
  errors.As at an Errno variable; Code.
-/
import Derived.Test.YtkgaeoeibjoljaaGreatDoorHF
namespace Go.Proofs.YtkgaeoeibjoljaaGreatDoor
set_option maxRecDepth 4000
open Go.RowKit Go.Extern.Stop Go.Stop Go.Extern

theorem Chn.iface {w : World} {ls : List Lk} {v : Value} {e : Int} (h : Chn w v ls e) : ∃ T x, v = .iface T x := by
  cases ls with
  | nil => exact ⟨_, _, h⟩
  | cons l ls => obtain ⟨p, v', h1, -⟩ := h; exact ⟨_, _, h1⟩
theorem unwrap_any (p : Nat) (a : Value × Value) (v : Value) (w : World) (h : Blk w p 112 #[a.1, a.2, v]) : Calls Tryz.prog 207 #[.pointer (some ⟨p, 0, none⟩)] w fun e w' => e = .returned v ∧ w = w' := by
  have c2 : w.cell? ⟨p, 2, none⟩ = some v := h.cell 2
  clear h
  go_enter Tryz.func207, Tryz.ntmps207
  go_wp2_with fail
  go_ret
  exact ⟨rfl, rfl⟩

set_option maxHeartbeats 4000000 in
theorem asE_loop (v : Value) (ls : List Lk) (n : Int) (a t : Addr) (old : Value) (w : World) (hc : Chn w v ls n) (ha : w.cell? a = some (.pointer (some t))) (ht0 : w.cell? t = some old) (hf0 : w.frozen? t = false) :
    Calls Tryz.prog 105 #[v, .iface 114 (.pointer (some t)), .agg #[.pointer (some ⟨7, 114, none⟩), .pointer (some a), .int .u64 150], .iface 210 (.agg #[.pointer (some ⟨7, 62, none⟩)])] w fun ev w' =>
      ev = .returned (.bool true) ∧ ∃ wA, Below w.heap.size w wA ∧ w' = wA.setCell t (.int .i64 n) := by
  have h6 := @run_callFunc_extern Tryz.prog 102 _ (fun args => ReflectliteValue.unpack (args.getD 0 (.tuple #[]))) Tryz.func102 (by kernel_rfl) (by kernel_rfl) (by kernel_rfl) (by kernel_rfl)
  have h10 := @run_callFunc_extern Tryz.prog 143 _ ReflectliteType.typeOf Tryz.func143 (by kernel_rfl) (by kernel_rfl) (by kernel_rfl) (by kernel_rfl)
  have h35 := @run_callFunc_extern Tryz.prog 212 _ (ReflectliteType.relation "AssignableTo" ReflectliteType.assignableTo) Tryz.func212 (by kernel_rfl) (by kernel_rfl) (by kernel_rfl) (by kernel_rfl)
  have h11 := @run_callFunc_extern Tryz.prog 144 _ (ReflectliteValue.method (ReflectliteValue.valueError "reflectlite.Value.Elem" 0) ReflectliteValue.elem) Tryz.func144 (by kernel_rfl) (by kernel_rfl) (by kernel_rfl) (by kernel_rfl)
  have h12 := @run_callFunc_extern Tryz.prog 145 _ ReflectliteValue.set Tryz.func145 (by kernel_rfl) (by kernel_rfl) (by kernel_rfl) (by kernel_rfl)
  have tO := typeOfP
  have tE := typeOfE
  have mA := methodAssignableTo
  have a25 := asgPE
  have a28 := asgEE
  have nA := noAsP
  have hU := hasUnwrapP
  have mU := methodUnwrap
  have v28 := valueOfE
  have hb1 : Below w.heap.size w (w.alloc (.cells #[.pointer (some ⟨7, 114, none⟩), .pointer (some a), .int .u64 150] 171)) := (Below.refl _ _).alloc (Nat.le_refl _) _
  have hbx := Blk.new w 171 #[.pointer (some ⟨7, 114, none⟩), .pointer (some a), .int .u64 150]
  have HB1 := Lib.hid hb1
  have HBX := Lib.hid hbx
  have HC := Lib.hid (hc.keep hb1)
  have htl : t.block < w.heap.size := World.block_lt_of_cell? _ _ ht0
  have hal : a.block < w.heap.size := World.block_lt_of_cell? _ _ ha
  have HT := Lib.hid (And.intro ha (And.intro ht0 (And.intro hf0 (And.intro htl hal))))
  clear hc ha ht0 hf0 hb1 hbx htl hal
  obtain ⟨T0, x0, rfl⟩ := HC.out.iface
  go_enter Tryz.func105, Tryz.ntmps105
  go_wp2_with fail
  obtain ⟨gx, hgx⟩ : ∃ gx, gx = w.heap.size := ⟨_, rfl⟩
  obtain ⟨w1, hw1⟩ : ∃ w1, w.alloc (.cells #[.pointer (some ⟨7, 114, none⟩), .pointer (some a), .int .u64 150] 171) = w1 := ⟨_, rfl⟩
  rw [hw1] at HB1 HBX HC ⊢
  rw [← hgx] at HBX ⊢
  clear hgx hw1
  go_loopw [0] (fun v wr => ∃ ls, Hid (Chn wr v ls n ∧ Below w1.heap.size w1 wr)) (fun v wr => chnLen wr v)
  case atStart => exact ⟨ls, Lib.hid ⟨HC.out, Below.refl _ _⟩⟩
  case round =>
    obtain ⟨ls, hr⟩ := hrel
    have hB := HBX.out.below hr.out.2 HBX.out.lt
    have hbw : Below w.heap.size w wr := HB1.out.trans (hr.out.2.mono HB1.out.size)
    have HBW := Lib.hid hbw
    match ls, hr with
    | [], hr =>
      obtain rfl : u0 = .iface 62 (.int .i64 n) := hr.out.1
      have hca : wr.cell? a = some (.pointer (some t)) := (World.cell?_of_block (hbw.block a.block HT.out.2.2.2.2)).trans HT.out.1
      have hct : wr.cell? t = some old := (World.cell?_of_block (hbw.block t.block HT.out.2.2.2.1)).trans HT.out.2.1
      have hcf : wr.frozen? t = false := by rw [World.frozen?_of_block (hbw.block t.block HT.out.2.2.2.1)]; exact HT.out.2.2.1
      have hz := hbw.size
      have el := elemVPE a t wr hca
      have st := setE t ⟨wr.heap.size, 0, none⟩ n old (wr.alloc (.cells #[.int .i64 n] 62)) (by simp)
        (by rw [World.cell?_alloc_lt _ _ t (by have := HT.out.2.2.2.1; omega)]; exact hct) (by rw [World.frozen?_alloc_old _ _ t (by have := HT.out.2.2.2.1; omega)]; exact hcf)
      have HSZ := Lib.hid (show (Tryz.prog.info? 171).map (·.size) = some 3 by kernel_rfl)
      clear hr hca hct hcf hbw
      have g0 : wr.cell? ⟨gx, 0, none⟩ = some (.pointer (some ⟨7, 114, none⟩)) := hB.cell 0
      have g1 : wr.cell? ⟨gx, 1, none⟩ = some (.pointer (some a)) := hB.cell 1
      have g2 : wr.cell? ⟨gx, 2, none⟩ = some (.int .u64 150) := hB.cell 2
      clear hB
      go_wp2_with fail
      go_ret
      exact ⟨rfl, _, HBW.out.alloc HBW.out.size _, rfl⟩
    | l :: ls, hr =>
      obtain ⟨p, v', rfl, hbp, hcv⟩ := hr.out.1
      have hlen := chnLen_eq hcv
      have hlen2 : chnLen wr (.iface 110 (.pointer (some ⟨p, 0, none⟩))) = ls.length + 1 := chnLen_eq (ls := l :: ls) ⟨p, v', rfl, hbp, hcv⟩
      have HUW := Lib.hid (unwrap_any p (_, _) v' wr hbp)
      have HN := Lib.hid (And.intro hcv (And.intro hr.out.2 (And.intro hlen hlen2)))
      obtain ⟨T1, x1, rfl⟩ := hcv.iface
      clear hr hbp hcv hlen hlen2
      go_wp2_with fail
      refine HUW.out.mono ?_
      rintro e w5 ⟨rfl, rfl⟩
      go_wp2_with fail
      go_roundw
      case rel => exact ⟨ls, Lib.hid ⟨HN.out.1, HN.out.2.1⟩⟩
      case measure => rw [HN.out.2.2.1, HN.out.2.2.2]; omega
end Go.Proofs.YtkgaeoeibjoljaaGreatDoor

namespace Go.Proofs.YtkgaeoeibjoljaaGreatDoor
set_option maxRecDepth 4000
open Go.RowKit Go.Extern.Stop Go.Stop Go.Extern

set_option maxHeartbeats 4000000 in
theorem asE_hit (v : Value) (ls : List Lk) (n : Int) (t : Addr) (old : Value) (w : World) (hg : Laid w) (hc : Chn w v ls n) (ht0 : w.cell? t = some old) (hf0 : w.frozen? t = false) :
    Calls Tryz.prog 61 #[v, .iface 114 (.pointer (some t))] w fun ev w' => ev = .returned (.bool true) ∧ ∃ wA, Below w.heap.size w wA ∧ w' = wA.setCell t (.int .i64 n) := by
  have h6 := @run_callFunc_extern Tryz.prog 102 _ (fun args => ReflectliteValue.unpack (args.getD 0 (.tuple #[]))) Tryz.func102 (by kernel_rfl) (by kernel_rfl) (by kernel_rfl) (by kernel_rfl)
  have h7 := @run_callFunc_extern Tryz.prog 103 _ (ReflectliteValue.methodAny (ReflectliteValue.valueError "reflectlite.Value.Type" 0) (fun t _ _ _ => ReflectliteType.toType t)) Tryz.func103 (by kernel_rfl) (by kernel_rfl) (by kernel_rfl) (by kernel_rfl)
  have h8 := @run_callFunc_extern Tryz.prog 104 _ (ReflectliteValue.method (ReflectliteValue.valueError "reflectlite.Value.IsNil" 0) ReflectliteValue.isNil) Tryz.func104 (by kernel_rfl) (by kernel_rfl) (by kernel_rfl) (by kernel_rfl)
  have h27 := @run_callFunc_extern Tryz.prog 199 _ (ReflectliteType.abiMethod fun t => do pure (.int .u8 (← Rtype.kind t))) Tryz.func199 (by kernel_rfl) (by kernel_rfl) (by kernel_rfl) (by kernel_rfl)
  have h37 := @run_callFunc_extern Tryz.prog 214 _ (ReflectliteType.method ReflectliteType.elem) Tryz.func214 (by kernel_rfl) (by kernel_rfl) (by kernel_rfl) (by kernel_rfl)
  have h38 := @run_callFunc_extern Tryz.prog 215 _ (ReflectliteType.relation "Implements" ReflectliteType.implements_) Tryz.func215 (by kernel_rfl) (by kernel_rfl) (by kernel_rfl) (by kernel_rfl)
  have f6 := valueOfPE
  have f7 := typePE
  have mK := methodKind
  have mE := methodElem
  have mI := methodImplements
  have k27 := kindPE
  have k25 := kindE
  have e27 := elemPE
  have i25 := implementsE
  have n8 := isNilPE ⟨w.heap.size, 0, none⟩ t ((w.alloc (.cells #[.pointer (some t)] 114)).alloc (.cells #[.pointer (some ⟨7, 114, none⟩), .pointer (some ⟨w.heap.size, 0, none⟩), .int .u64 150] 171)) (by simp)
  have hlt : 1 < w.heap.size := World.block_lt_of_cell? w ⟨1, 0, none⟩ hg
  have hg2 : ((w.alloc (.cells #[.pointer (some t)] 114)).alloc (.cells #[.pointer (some ⟨7, 114, none⟩), .pointer (some ⟨w.heap.size, 0, none⟩), .int .u64 150] 171)).cell? ⟨1, 0, none⟩ = some (.iface 210 (.agg #[.pointer (some ⟨7, 40, none⟩)])) := by
    rw [World.cell?_alloc_lt _ _ ⟨1, 0, none⟩ (by have := hlt; simp <;> omega), World.cell?_alloc_lt _ _ ⟨1, 0, none⟩ hlt]; exact hg
  have htl : t.block < w.heap.size := World.block_lt_of_cell? _ _ ht0
  have b1 := (Below.refl w.heap.size w).alloc (Nat.le_refl _) (.cells #[.pointer (some t)] 114)
  have b2 := b1.alloc b1.size (.cells #[.pointer (some ⟨7, 114, none⟩), .pointer (some ⟨w.heap.size, 0, none⟩), .int .u64 150] 171)
  have HL := Lib.hid (asE_loop v ls n ⟨w.heap.size, 0, none⟩ t old ((w.alloc (.cells #[.pointer (some t)] 114)).alloc (.cells #[.pointer (some ⟨7, 114, none⟩), .pointer (some ⟨w.heap.size, 0, none⟩), .int .u64 150] 171)) (hc.keep b2)
    (by rw [World.cell?_alloc_lt _ _ ⟨w.heap.size, 0, none⟩ (by simp)]; simp) ((World.cell?_of_block (b2.block t.block htl)).trans ht0) ((World.frozen?_of_block (b2.block t.block htl)).trans hf0))
  have HB2 := Lib.hid b2
  obtain ⟨T0, x0, rfl⟩ := hc.iface
  clear hc ht0 hf0 htl b1 b2
  go_enter Tryz.func61, Tryz.ntmps61
  go_wp2_with fail
  refine HL.out.mono ?_
  rintro e w3 ⟨rfl, wA, hA, rfl⟩
  have HA := Lib.hid (HB2.out.trans (hA.mono HB2.out.size))
  clear hA HL
  go_wp2_with fail
  go_ret
  exact ⟨rfl, _, HA.out, rfl⟩

theorem code_any (v : Value) (ls : List Lk) (n : Int) (w : World) (hg : Laid w) (hc : Chn w v ls n) : Calls Tryz.prog 29 #[v] w fun e w' => e = .returned (.int .i64 n) ∧ Below w.heap.size w w' := by
  have hb : Below w.heap.size w (w.alloc (.cells #[.int .i64 0] 62)) := (Below.refl _ _).alloc (Nat.le_refl _) _
  have hlt : 1 < w.heap.size := World.block_lt_of_cell? w ⟨1, 0, none⟩ hg
  have hg1 : Laid (w.alloc (.cells #[.int .i64 0] 62)) := (World.cell?_of_block (hb.block 1 hlt)).trans hg
  have hn := Blk.new w 62 #[.int .i64 0]
  have HA := Lib.hid (asE_hit v ls n ⟨w.heap.size, 0, none⟩ (.int .i64 0) _ hg1 (hc.keep hb) (hn.cell 0) (hn.frozen 0))
  have HB := Lib.hid hb
  have HN := Lib.hid hn
  clear hc hb hg1 hn hg
  go_enter Tryz.func29, Tryz.ntmps29
  go_wp2_with fail
  refine HA.out.mono ?_
  rintro e w2 ⟨rfl, wA, hA, rfl⟩
  have hnA := HN.out.below hA HN.out.lt
  have hset := hnA.set_ 0 (.int .i64 n)
  have c0 : (wA.setCell ⟨w.heap.size, 0, none⟩ (.int .i64 n)).cell? ⟨w.heap.size, 0, none⟩ = some (.int .i64 n) := hset.cell 0
  have hbe : Below w.heap.size w (wA.setCell ⟨w.heap.size, 0, none⟩ (.int .i64 n)) := (HB.out.trans (hA.mono HB.out.size)).trans ((Fr.setCell (F := (· = w.heap.size)) _ _ _ rfl).below (HB.out.trans (hA.mono HB.out.size)).size (fun k hk => by omega))
  have HBE := Lib.hid hbe
  generalize wA.setCell ⟨w.heap.size, 0, none⟩ (.int .i64 n) = w3 at *
  clear hA hnA hset hbe HA HB HN
  go_wp2_with fail
  go_ret
  exact ⟨rfl, HBE.out⟩
end Go.Proofs.YtkgaeoeibjoljaaGreatDoor
