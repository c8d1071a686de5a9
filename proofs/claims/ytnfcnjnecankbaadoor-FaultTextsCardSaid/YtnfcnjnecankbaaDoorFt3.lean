/-
  errors.As, at a *Fault variable where there is no *Fault, and at an Errno variable over a chain.
-/
import Derived.Test.YtnfcnjnecankbaaDoorFt2
namespace Go.Proofs.YtnfcnjnecankbaaDoor
set_option maxRecDepth 4000
open Go.RowKit Go.Extern.Stop Go.Stop Go.Extern

set_option maxHeartbeats 4000000 in
theorem asP_miss (n : Int) (t : Addr) (w : World) (hg : Laid w) (htl : t.block < w.heap.size) :
    Calls Tryd.prog 10 #[.iface 28 (.int .i64 n), .iface 31 (.pointer (some t))] w fun ev w' => ev = .returned (.bool false) ∧ Below w.heap.size w w' := by
  have h6 := @run_callFunc_extern Tryd.prog 24 _ (fun args => ReflectliteValue.unpack (args.getD 0 (.tuple #[]))) Tryd.func24 (by kernel_rfl) (by kernel_rfl) (by kernel_rfl) (by kernel_rfl)
  have h7 := @run_callFunc_extern Tryd.prog 25 _ (ReflectliteValue.methodAny (ReflectliteValue.valueError "reflectlite.Value.Type" 0) (fun t _ _ _ => ReflectliteType.toType t)) Tryd.func25 (by kernel_rfl) (by kernel_rfl) (by kernel_rfl) (by kernel_rfl)
  have h8 := @run_callFunc_extern Tryd.prog 26 _ (ReflectliteValue.method (ReflectliteValue.valueError "reflectlite.Value.IsNil" 0) ReflectliteValue.isNil) Tryd.func26 (by kernel_rfl) (by kernel_rfl) (by kernel_rfl) (by kernel_rfl)
  have h27 := @run_callFunc_extern Tryd.prog 61 _ (ReflectliteType.abiMethod fun t => do pure (.int .u8 (← Rtype.kind t))) Tryd.func61 (by kernel_rfl) (by kernel_rfl) (by kernel_rfl) (by kernel_rfl)
  have h37 := @run_callFunc_extern Tryd.prog 71 _ (ReflectliteType.method ReflectliteType.elem) Tryd.func71 (by kernel_rfl) (by kernel_rfl) (by kernel_rfl) (by kernel_rfl)
  have h38 := @run_callFunc_extern Tryd.prog 72 _ (ReflectliteType.relation "Implements" ReflectliteType.implements_) Tryd.func72 (by kernel_rfl) (by kernel_rfl) (by kernel_rfl) (by kernel_rfl)
  have h10 := @run_callFunc_extern Tryd.prog 30 _ ReflectliteType.typeOf Tryd.func30 (by kernel_rfl) (by kernel_rfl) (by kernel_rfl) (by kernel_rfl)
  have h35 := @run_callFunc_extern Tryd.prog 69 _ (ReflectliteType.relation "AssignableTo" ReflectliteType.assignableTo) Tryd.func69 (by kernel_rfl) (by kernel_rfl) (by kernel_rfl) (by kernel_rfl)
  have f6 := valueOfPP
  have f7 := typePP
  have mK := methodKind
  have mE := methodElem
  have mI := methodImplements
  have k27 := kindPP
  have k25 := kindP
  have e27 := elemPP
  have i25 := implementsP
  have tO := typeOfE
  have mA := methodAssignableTo
  have a25 := asgEP
  have nA := noAsE
  have nU := noUnwrapE
  have nV := noUnwrapsE
  have n8 := isNilPP ⟨w.heap.size, 0, none⟩ t ((w.alloc (.cells #[.pointer (some t)] 31)).alloc (.cells #[.pointer (some ⟨4, 31, none⟩), .pointer (some ⟨w.heap.size, 0, none⟩), .int .u64 150] 59)) (by simp)
  have hlt : 0 < w.heap.size := by
    rcases Nat.eq_zero_or_pos w.heap.size with h0 | h
    · simp [Laid, World.cell?, h0] at hg
    · exact h
  have hg2 : ((w.alloc (.cells #[.pointer (some t)] 31)).alloc (.cells #[.pointer (some ⟨4, 31, none⟩), .pointer (some ⟨w.heap.size, 0, none⟩), .int .u64 150] 59)).cell? ⟨0, 0, none⟩ = some (.iface 74 (.agg #[.pointer (some ⟨4, 26, none⟩)])) := by
    rw [World.cell?_alloc_lt _ _ ⟨0, 0, none⟩ (by simp), World.cell?_alloc_lt _ _ ⟨0, 0, none⟩ hlt]; exact hg
  go_enter Tryd.func10, Tryd.ntmps10
  go_wp2
  refine wp_loop_rounds 1 ?_
  rw [rounds_succ]
  go_wp2
  go_ret
  refine ⟨rfl, ?_⟩
  have b1 := (Below.refl w.heap.size w).alloc (Nat.le_refl _) (.cells #[.pointer (some t)] 31)
  have b2 := b1.alloc b1.size (.cells #[.pointer (some ⟨4, 31, none⟩), .pointer (some ⟨w.heap.size, 0, none⟩), .int .u64 150] 59)
  exact b2.alloc b2.size _

/-! ### Chains -/
structure Lk where
  op : ByteArray
  at_ : Int
/-- An error in memory: faults around a number. -/
def Chn (w : World) : Value → List Lk → Int → Prop
  | v, [], e => v = .iface 28 (.int .i64 e)
  | v, l :: ls, e => ∃ p v', v = .iface 29 (.pointer (some ⟨p, 0, none⟩)) ∧ Blk w p 33 #[.string l.op, .int .i64 l.at_, v'] ∧ Chn w v' ls e
theorem Chn.keep {w w' : World} : ∀ {ls : List Lk} {v : Value} {e : Int}, Chn w v ls e → Below w.heap.size w w' → Chn w' v ls e
  | [], _, _, h, _ => h
  | _ :: _, _, _, ⟨p, v', h1, h2, h3⟩, hb => ⟨p, v', h1, h2.below hb h2.lt, h3.keep hb⟩
theorem Chn.keepF {w w' : World} {F : Nat → Prop} (hf : Fr F w w') (hF : ∀ k T cs, Blk w k T cs → T = 33 → ¬ F k) : ∀ {ls : List Lk} {v : Value} {e : Int}, Chn w v ls e → Chn w' v ls e
  | [], _, _, h => h
  | _ :: _, _, _, ⟨p, v', h1, h2, h3⟩ => ⟨p, v', h1, h2.keep (hf.block p h2.lt (hF p _ _ h2 rfl)), h3.keepF hf hF⟩
theorem Chn.same {w : World} : ∀ {ls ls' : List Lk} {v : Value} {e e' : Int}, Chn w v ls e → Chn w v ls' e' → ls = ls' ∧ e = e'
  | [], [], v, e, e', h, h' => by
    have : v = _ := h
    rw [this] at h'
    have h2 : Value.iface 28 (.int .i64 e) = .iface 28 (.int .i64 e') := h'
    injection h2 with _ h2
    injection h2 with _ h2
    exact ⟨rfl, h2⟩
  | [], l :: ls, v, e, e', h, ⟨p, v', h1, _, _⟩ => by
    have : v = _ := h
    rw [this] at h1
    injection h1 with h1
    cases h1
  | l :: ls, [], v, e, e', ⟨p, v', h1, _, _⟩, h => by
    have : v = _ := h
    rw [this] at h1
    injection h1 with h1
    cases h1
  | l :: ls, l' :: ls', v, e, e', ⟨p, v', h1, h2, h3⟩, ⟨q, u', k1, k2, k3⟩ => by
    rw [h1] at k1
    injection k1 with _ k1
    injection k1 with k1
    injection k1 with k1
    injection k1 with k1
    subst k1
    have := h2.symm.trans k2
    simp at this
    obtain ⟨e1, e2, e3⟩ := this
    subst e3
    obtain ⟨e4, e5⟩ := h3.same k3
    refine ⟨?_, e5⟩
    rw [e4]
    congr 1
    cases l; cases l'
    simp_all
open Classical in
noncomputable def chnLen (w : World) (v : Value) : Nat := if h : ∃ ls e, Chn w v ls e then h.choose.length else 0
theorem chnLen_eq {w : World} {v : Value} {ls : List Lk} {e : Int} (h : Chn w v ls e) : chnLen w v = ls.length := by
  have hh : ∃ ls e, Chn w v ls e := ⟨ls, e, h⟩
  unfold chnLen
  rw [dif_pos hh]
  obtain ⟨e', h2⟩ := hh.choose_spec
  rw [(h2.same h).1]
end Go.Proofs.YtnfcnjnecankbaaDoor
