/-
  errors.As at a *Fault variable.
  errors.As, at a *Fault variable where there is no *Fault, and at an Errno variable over a chain.
-/
import Derived.Test.YtkgaeoeibjoljaaGreatDoorFt1
namespace Go.Proofs.YtkgaeoeibjoljaaGreatDoor
set_option maxRecDepth 4000
open Go.RowKit Go.Extern.Stop Go.Stop Go.Extern

def Laid (w : World) : Prop := w.cell? ⟨1, 0, none⟩ = some (.iface 210 (.agg #[.pointer (some ⟨7, 40, none⟩)]))

set_option maxHeartbeats 4000000 in
theorem asP_hit (e t : Addr) (old : Value) (w : World) (hg : Laid w) (ht0 : w.cell? t = some old) (hf0 : w.frozen? t = false) :
    Calls Tryz.prog 61 #[.iface 110 (.pointer (some e)), .iface 167 (.pointer (some t))] w fun ev w' => ev = .returned (.bool true) ∧ ∃ wA, Below w.heap.size w wA ∧ w' = wA.setCell t (.pointer (some e)) := by
  have h6 := @run_callFunc_extern Tryz.prog 102 _ (fun args => ReflectliteValue.unpack (args.getD 0 (.tuple #[]))) Tryz.func102 (by kernel_rfl) (by kernel_rfl) (by kernel_rfl) (by kernel_rfl)
  have h7 := @run_callFunc_extern Tryz.prog 103 _ (ReflectliteValue.methodAny (ReflectliteValue.valueError "reflectlite.Value.Type" 0) (fun t _ _ _ => ReflectliteType.toType t)) Tryz.func103 (by kernel_rfl) (by kernel_rfl) (by kernel_rfl) (by kernel_rfl)
  have h8 := @run_callFunc_extern Tryz.prog 104 _ (ReflectliteValue.method (ReflectliteValue.valueError "reflectlite.Value.IsNil" 0) ReflectliteValue.isNil) Tryz.func104 (by kernel_rfl) (by kernel_rfl) (by kernel_rfl) (by kernel_rfl)
  have h27 := @run_callFunc_extern Tryz.prog 199 _ (ReflectliteType.abiMethod fun t => do pure (.int .u8 (← Rtype.kind t))) Tryz.func199 (by kernel_rfl) (by kernel_rfl) (by kernel_rfl) (by kernel_rfl)
  have h37 := @run_callFunc_extern Tryz.prog 214 _ (ReflectliteType.method ReflectliteType.elem) Tryz.func214 (by kernel_rfl) (by kernel_rfl) (by kernel_rfl) (by kernel_rfl)
  have h38 := @run_callFunc_extern Tryz.prog 215 _ (ReflectliteType.relation "Implements" ReflectliteType.implements_) Tryz.func215 (by kernel_rfl) (by kernel_rfl) (by kernel_rfl) (by kernel_rfl)
  have h10 := @run_callFunc_extern Tryz.prog 143 _ ReflectliteType.typeOf Tryz.func143 (by kernel_rfl) (by kernel_rfl) (by kernel_rfl) (by kernel_rfl)
  have h35 := @run_callFunc_extern Tryz.prog 212 _ (ReflectliteType.relation "AssignableTo" ReflectliteType.assignableTo) Tryz.func212 (by kernel_rfl) (by kernel_rfl) (by kernel_rfl) (by kernel_rfl)
  have h11 := @run_callFunc_extern Tryz.prog 144 _ (ReflectliteValue.method (ReflectliteValue.valueError "reflectlite.Value.Elem" 0) ReflectliteValue.elem) Tryz.func144 (by kernel_rfl) (by kernel_rfl) (by kernel_rfl) (by kernel_rfl)
  have h12 := @run_callFunc_extern Tryz.prog 145 _ ReflectliteValue.set Tryz.func145 (by kernel_rfl) (by kernel_rfl) (by kernel_rfl) (by kernel_rfl)
  have f6 := valueOfPP
  have f7 := typePP
  have mK := methodKind
  have mE := methodElem
  have mI := methodImplements
  have k27 := kindPP
  have k25 := kindP
  have e27 := elemPP
  have i25 := implementsP
  have tO := typeOfP
  have mA := methodAssignableTo
  have a25 := asgPP
  have v25 := valueOfP
  have n8 := isNilPP ⟨w.heap.size, 0, none⟩ t ((w.alloc (.cells #[.pointer (some t)] 167)).alloc (.cells #[.pointer (some ⟨7, 167, none⟩), .pointer (some ⟨w.heap.size, 0, none⟩), .int .u64 150] 171)) (by simp)
  have hlt : 1 < w.heap.size := World.block_lt_of_cell? w ⟨1, 0, none⟩ hg
  have hg2 : ((w.alloc (.cells #[.pointer (some t)] 167)).alloc (.cells #[.pointer (some ⟨7, 167, none⟩), .pointer (some ⟨w.heap.size, 0, none⟩), .int .u64 150] 171)).cell? ⟨1, 0, none⟩ = some (.iface 210 (.agg #[.pointer (some ⟨7, 40, none⟩)])) := by
    rw [World.cell?_alloc_lt _ _ ⟨1, 0, none⟩ (by have := hlt; simp <;> omega), World.cell?_alloc_lt _ _ ⟨1, 0, none⟩ hlt]; exact hg
  have htl : t.block < w.heap.size := by
    rcases Nat.lt_or_ge t.block w.heap.size with h | h
    · exact h
    · simp [World.cell?, Array.getElem?_eq_none h] at ht0
  have el := elemVPP ⟨w.heap.size, 0, none⟩ t (((w.alloc (.cells #[.pointer (some t)] 167)).alloc (.cells #[.pointer (some ⟨7, 167, none⟩), .pointer (some ⟨w.heap.size, 0, none⟩), .int .u64 150] 171)).alloc (.cells #[.pointer (some ⟨7, 167, none⟩), .pointer (some ⟨w.heap.size, 0, none⟩), .int .u64 150] 171)) (by rw [World.cell?_alloc_lt _ _ ⟨w.heap.size, 0, none⟩ (by simp; omega)]; simp)
  have st := setP t ⟨w.heap.size + 1 + 1 + 1, 0, none⟩ e old ((((w.alloc (.cells #[.pointer (some t)] 167)).alloc (.cells #[.pointer (some ⟨7, 167, none⟩), .pointer (some ⟨w.heap.size, 0, none⟩), .int .u64 150] 171)).alloc (.cells #[.pointer (some ⟨7, 167, none⟩), .pointer (some ⟨w.heap.size, 0, none⟩), .int .u64 150] 171)).alloc (.cells #[.pointer (some e)] 110))
    (by rw [World.cell?_alloc_at _ _ _ _ (by simp)]; rfl)
    (by rw [World.cell?_alloc_lt _ _ t (by simp; omega), World.cell?_alloc_lt _ _ t (by simp; omega), World.cell?_alloc_lt _ _ t (by simp; omega), World.cell?_alloc_lt _ _ t htl]; exact ht0)
    (by rw [World.frozen?_alloc_old _ _ t (by simp; omega), World.frozen?_alloc_old _ _ t (by simp; omega), World.frozen?_alloc_old _ _ t (by simp; omega), World.frozen?_alloc_old _ _ t (Nat.ne_of_lt htl)]; exact hf0)
  go_enter Tryz.func61, Tryz.ntmps61
  go_wp2
  refine wp_loop_rounds 1 ?_
  rw [rounds_succ]
  go_wp2
  go_ret
  refine ⟨rfl, _, ?_, rfl⟩
  have b1 := (Below.refl w.heap.size w).alloc (Nat.le_refl _) (.cells #[.pointer (some t)] 167)
  have b2 := b1.alloc b1.size (.cells #[.pointer (some ⟨7, 167, none⟩), .pointer (some ⟨w.heap.size, 0, none⟩), .int .u64 150] 171)
  have b3 := b2.alloc b2.size (.cells #[.pointer (some ⟨7, 167, none⟩), .pointer (some ⟨w.heap.size, 0, none⟩), .int .u64 150] 171)
  exact b3.alloc b3.size _

end Go.Proofs.YtkgaeoeibjoljaaGreatDoor

namespace Go.Proofs.YtkgaeoeibjoljaaGreatDoor
set_option maxRecDepth 4000
open Go.RowKit Go.Extern.Stop Go.Stop Go.Extern

set_option maxHeartbeats 4000000 in
theorem asP_miss (n : Int) (t : Addr) (w : World) (hg : Laid w) (htl : t.block < w.heap.size) :
    Calls Tryz.prog 61 #[.iface 62 (.int .i64 n), .iface 167 (.pointer (some t))] w fun ev w' => ev = .returned (.bool false) ∧ Below w.heap.size w w' := by
  have h6 := @run_callFunc_extern Tryz.prog 102 _ (fun args => ReflectliteValue.unpack (args.getD 0 (.tuple #[]))) Tryz.func102 (by kernel_rfl) (by kernel_rfl) (by kernel_rfl) (by kernel_rfl)
  have h7 := @run_callFunc_extern Tryz.prog 103 _ (ReflectliteValue.methodAny (ReflectliteValue.valueError "reflectlite.Value.Type" 0) (fun t _ _ _ => ReflectliteType.toType t)) Tryz.func103 (by kernel_rfl) (by kernel_rfl) (by kernel_rfl) (by kernel_rfl)
  have h8 := @run_callFunc_extern Tryz.prog 104 _ (ReflectliteValue.method (ReflectliteValue.valueError "reflectlite.Value.IsNil" 0) ReflectliteValue.isNil) Tryz.func104 (by kernel_rfl) (by kernel_rfl) (by kernel_rfl) (by kernel_rfl)
  have h27 := @run_callFunc_extern Tryz.prog 199 _ (ReflectliteType.abiMethod fun t => do pure (.int .u8 (← Rtype.kind t))) Tryz.func199 (by kernel_rfl) (by kernel_rfl) (by kernel_rfl) (by kernel_rfl)
  have h37 := @run_callFunc_extern Tryz.prog 214 _ (ReflectliteType.method ReflectliteType.elem) Tryz.func214 (by kernel_rfl) (by kernel_rfl) (by kernel_rfl) (by kernel_rfl)
  have h38 := @run_callFunc_extern Tryz.prog 215 _ (ReflectliteType.relation "Implements" ReflectliteType.implements_) Tryz.func215 (by kernel_rfl) (by kernel_rfl) (by kernel_rfl) (by kernel_rfl)
  have h10 := @run_callFunc_extern Tryz.prog 143 _ ReflectliteType.typeOf Tryz.func143 (by kernel_rfl) (by kernel_rfl) (by kernel_rfl) (by kernel_rfl)
  have h35 := @run_callFunc_extern Tryz.prog 212 _ (ReflectliteType.relation "AssignableTo" ReflectliteType.assignableTo) Tryz.func212 (by kernel_rfl) (by kernel_rfl) (by kernel_rfl) (by kernel_rfl)
  have f6 := valueOfPP
  have f7 := typePP
  have mK := methodKind
  have mE := methodElem
  have mI := methodImplements
  have k27 := kindPP
  have k25 := kindP
  have e27 := elemPP
  have i25 := implementsP
  have tO := typeOfE
  have mA := methodAssignableTo
  have a25 := asgEP
  have nA := noAsE
  have nU := noUnwrapE
  have nV := noUnwrapsE
  have n8 := isNilPP ⟨w.heap.size, 0, none⟩ t ((w.alloc (.cells #[.pointer (some t)] 167)).alloc (.cells #[.pointer (some ⟨7, 167, none⟩), .pointer (some ⟨w.heap.size, 0, none⟩), .int .u64 150] 171)) (by simp)
  have hlt : 1 < w.heap.size := World.block_lt_of_cell? w ⟨1, 0, none⟩ hg
  have hg2 : ((w.alloc (.cells #[.pointer (some t)] 167)).alloc (.cells #[.pointer (some ⟨7, 167, none⟩), .pointer (some ⟨w.heap.size, 0, none⟩), .int .u64 150] 171)).cell? ⟨1, 0, none⟩ = some (.iface 210 (.agg #[.pointer (some ⟨7, 40, none⟩)])) := by
    rw [World.cell?_alloc_lt _ _ ⟨1, 0, none⟩ (by have := hlt; simp <;> omega), World.cell?_alloc_lt _ _ ⟨1, 0, none⟩ hlt]; exact hg
  go_enter Tryz.func61, Tryz.ntmps61
  go_wp2
  refine wp_loop_rounds 1 ?_
  rw [rounds_succ]
  go_wp2
  go_ret
  refine ⟨rfl, ?_⟩
  have b1 := (Below.refl w.heap.size w).alloc (Nat.le_refl _) (.cells #[.pointer (some t)] 167)
  have b2 := b1.alloc b1.size (.cells #[.pointer (some ⟨7, 167, none⟩), .pointer (some ⟨w.heap.size, 0, none⟩), .int .u64 150] 171)
  exact b2.alloc b2.size _

/-! ### Chains -/
structure Lk where
  op : ByteArray
  at_ : Int
def Chn (w : World) : Value → List Lk → Int → Prop
  | v, [], e => v = .iface 62 (.int .i64 e)
  | v, l :: ls, e => ∃ p v', v = .iface 110 (.pointer (some ⟨p, 0, none⟩)) ∧ Blk w p 112 #[.string l.op, .int .i64 l.at_, v'] ∧ Chn w v' ls e
theorem Chn.keep {w w' : World} : ∀ {ls : List Lk} {v : Value} {e : Int}, Chn w v ls e → Below w.heap.size w w' → Chn w' v ls e
  | [], _, _, h, _ => h
  | _ :: _, _, _, ⟨p, v', h1, h2, h3⟩, hb => ⟨p, v', h1, h2.below hb h2.lt, h3.keep hb⟩
theorem Chn.keepF {w w' : World} {F : Nat → Prop} (hf : Fr F w w') (hF : ∀ k T cs, Blk w k T cs → T = 112 → ¬ F k) : ∀ {ls : List Lk} {v : Value} {e : Int}, Chn w v ls e → Chn w' v ls e
  | [], _, _, h => h
  | _ :: _, _, _, ⟨p, v', h1, h2, h3⟩ => ⟨p, v', h1, h2.keep (hf.block p h2.lt (hF p _ _ h2 rfl)), h3.keepF hf hF⟩
theorem Chn.same {w : World} : ∀ {ls ls' : List Lk} {v : Value} {e e' : Int}, Chn w v ls e → Chn w v ls' e' → ls = ls' ∧ e = e'
  | [], [], v, e, e', h, h' => by
    have : v = _ := h
    rw [this] at h'
    have h2 : Value.iface 62 (.int .i64 e) = .iface 62 (.int .i64 e') := h'
    injection h2 with _ h2
    injection h2 with _ h2
    exact ⟨rfl, h2⟩
  | [], l :: ls, v, e, e', h, ⟨p, v', h1, _, _⟩ => by
    have : v = _ := h
    rw [this] at h1
    injection h1 with h1
    cases h1
  | l :: ls, [], v, e, e', ⟨p, v', h1, _, _⟩, h => by
    have : v = _ := h
    rw [this] at h1
    injection h1 with h1
    cases h1
  | l :: ls, l' :: ls', v, e, e', ⟨p, v', h1, h2, h3⟩, ⟨q, u', k1, k2, k3⟩ => by
    rw [h1] at k1
    injection k1 with _ k1
    injection k1 with k1
    injection k1 with k1
    injection k1 with k1
    subst k1
    have := h2.symm.trans k2
    simp at this
    obtain ⟨e1, e2, e3⟩ := this
    subst e3
    obtain ⟨e4, e5⟩ := h3.same k3
    refine ⟨?_, e5⟩
    rw [e4]
    congr 1
    cases l; cases l'
    simp_all
open Classical in
noncomputable def chnLen (w : World) (v : Value) : Nat := if h : ∃ ls e, Chn w v ls e then h.choose.length else 0
theorem chnLen_eq {w : World} {v : Value} {ls : List Lk} {e : Int} (h : Chn w v ls e) : chnLen w v = ls.length := by
  have hh : ∃ ls e, Chn w v ls e := ⟨ls, e, h⟩
  unfold chnLen
  rw [dif_pos hh]
  obtain ⟨e', h2⟩ := hh.choose_spec
  rw [(h2.same h).1]
end Go.Proofs.YtkgaeoeibjoljaaGreatDoor
