/-
  Pools, their blocks in the heap; Put at a pool alone.
-/
import Derived.Test.YtphhlfochapecaaDoorTermR3
namespace Go.Proofs.YtphhlfochapecaaDoor
set_option maxRecDepth 4000
open Go.RowKit

theorem PoolIn.lt {w : World} {base p : Nat} {l : List Tm} {G : Nat → Prop} (h : PoolIn w base p l G) : PoolIn w base p l (fun k => G k ∧ base ≤ k ∧ k < w.heap.size) := by
  obtain ⟨a, b, c, d, e, f, g, h, i⟩ := h
  exact ⟨a, b, c, d, e, f, g, h, ⟨⟨i.hp, h.lo.1, h.blk.lt⟩, ⟨i.hm, h.lo.2, h.mp.lt⟩, fun g hg => ⟨i.ht g hg, h.ts.lt g hg⟩, fun g hg => ⟨i.hd g hg, h.ds.lt g hg⟩, fun g hg => ⟨i.hs g hg, h.ss.lt g hg⟩⟩⟩
theorem PoolIs.in_ {w : World} {base p : Nat} {l : List Tm} (h : PoolIs w base p l) : PoolIn w base p l (fun k => base ≤ k) := by
  obtain ⟨a, b, c, d, e, f, g, h⟩ := h
  exact ⟨a, b, c, d, e, f, g, h, ⟨h.lo.1, h.lo.2, fun g hg => (h.ts.lt g hg).1, fun g hg => (h.ds.lt g hg).1, fun g hg => (h.ss.lt g hg).1⟩⟩
theorem put_is (p : Nat) (t : Tm) (l : List Tm) (base : Nat) (w : World) (hP : PoolIs w base p l) (hp : Pool l) (hll : l.length ≤ 4096) (hwf : wfT t) (hT : Tab10 w) (hb : base ≤ w.heap.size) :
    Calls Tryd.prog 18 #[.pointer (some ⟨p, 0, none⟩), tval t] w fun e w' => e = .returned (.tuple #[.int .i64 (putT l t).2.1, .int .i64 (putT l t).2.2]) ∧ PoolIs w' base p (putT l t).1 ∧ Below base w w' :=
  (put_any p t l base w _ hP.in_ hp hll hwf hT).mono fun e w' h => ⟨h.1, h.2.1.is, h.2.2.below hb (fun _ h => h)⟩

theorem fit_ex (t : Tm) (h : wfT t) : fitT t := wf_i64 h.2.1

end Go.Proofs.YtphhlfochapecaaDoor
