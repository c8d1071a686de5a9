/-
  Words for the document's digest.
-/
import Derived.Test.YtdeblpbjeflolaaDoorSha5
import Derived.Laws.MakeOwn
namespace Go.Proofs.YtdeblpbjeflolaaDoor
open Go.RowKit

theorem info_word : (Tryd.prog.info? 115).map (fun i => (i.zero, i.size, i.bytes)) = some (some (.int .u32 0), 1, 4) := by kernel_rfl
theorem enter_lit {P : Program} {f : FuncId} {fn : Func} {c : Code} {args : Array Value} {w : World} {R : Ending → World → Prop}
    (hf : P.funcs[f]? = some fn) (hb : fn.body = some c) (tm : Array Value) (ht : args ++ Array.replicate (fn.ntmps - args.size) undef = tm)
    (h : c.wp P (bodyPost P fn R) { tmps := tm, defers := [] } w) : Calls P f args w R := by
  subst ht
  exact calls_of_wp hf hb h
theorem K_any (w : World) : Calls Tryd.prog 65 #[] w fun e w' => e = .returned (.slice (some ⟨w.heap.size, 0, none⟩) 64 64) ∧ w' = w.alloc (.cells (wds shK).toArray 115) := by
  go_enter Tryd.func65, Tryd.ntmps65
  go_wp2_with fail
  go_ret
  exact ⟨rfl, rfl⟩
theorem sees_wd {w : World} {g n : Nat} {l : List Nat} {i : Nat} (h : Sees w 1 (some ⟨g, 0, none⟩) n (wds l)) (hl : l.length = n) (hi : i < n) : w.cell? ⟨g, i, none⟩ = some (.int .u32 (l.getD i 0 : Nat)) := by
  obtain ⟨g', off', e, hc⟩ := h.2 (by omega)
  injection e with e
  injection e with e1 e2
  subst e1 e2
  have := hc i _ (wds_get (by omega))
  rwa [Nat.zero_add] at this
theorem make_words (n : Nat) (hn : n ≤ 1000) (W : World) : (Instr.makeSlice 122 (.int .i64 (n : Int)) (.int .i64 (n : Int))).run Tryd.prog W = .ok (.slice (some ⟨W.heap.size, 0, none⟩) n n) (W.alloc (.cells (wds (tabn n fun _ => 0)).toArray 115)) := by
  obtain ⟨i, hi, hz, hs, hb⟩ := info_parts info_word
  have h := run_make (P := Tryd.prog) W 122 115 i (.int .u32 0) Tryd.underlying122 hi hz .i64 .i64 (n : Int) (n : Int) (by omega) (by omega) (by rw [hb]; omega) (by omega)
  have e0 : wds (tabn n fun _ => 0) = List.replicate n (Value.int .u32 0) := by
    refine List.ext_getElem? fun j => ?_
    by_cases h : j < n
    · simp [wds, tabn, h]
    · simp [wds, tabn, h]
  have e1 : madeCells (Value.int .u32 0).cells ((n : Int).toNat * i.size) = (wds (tabn n fun _ => 0)).toArray := by
    rw [hs, Int.toNat_natCast, Nat.mul_one, e0, ← toList_madeCells_one (.int .u32 0) n]
    rfl
  rw [e1, Int.toNat_natCast] at h
  exact h
theorem or_sh {x y : Nat} (i : Nat) (hy : y < 2 ^ i) : x * 2 ^ i ||| y = x * 2 ^ i + y := by
  have := Nat.shiftLeft_add_eq_or_of_lt hy x
  rw [Nat.shiftLeft_eq] at this
  exact this.symm
theorem or4 (d0 d1 d2 d3 : Nat) (h1 : d1 < 256) (h2 : d2 < 256) (h3 : d3 < 256) : ((d0 * 16777216 ||| d1 * 65536) ||| d2 * 256) ||| d3 = d0 * 16777216 + d1 * 65536 + d2 * 256 + d3 := by
  have e1 := or_sh (x := d0) (y := d1 * 65536) 24 (by omega)
  have e2 := or_sh (x := d0 * 256 + d1) (y := d2 * 256) 16 (by omega)
  have e3 := or_sh (x := (d0 * 256 + d1) * 256 + d2) (y := d3) 8 (by omega)
  rw [show (2 : Nat) ^ 24 = 16777216 from rfl] at e1
  rw [show (2 : Nat) ^ 16 = 65536 from rfl] at e2
  rw [show (2 : Nat) ^ 8 = 256 from rfl] at e3
  rw [e1, show d0 * 16777216 + d1 * 65536 = (d0 * 256 + d1) * 65536 by omega, e2, show (d0 * 256 + d1) * 65536 + d2 * 256 = ((d0 * 256 + d1) * 256 + d2) * 256 by omega, e3]
theorem sees_by {w : World} {g n : Nat} {l : List UInt8} {i : Nat} (h : Sees w 1 (some ⟨g, 0, none⟩) n (u8s l)) (hl : l.length = n) (hi : i < n) : w.cell? ⟨g, i, none⟩ = some (.int .u8 ((l.getD i 0).toNat : Nat)) := by
  obtain ⟨g', off', e, hc⟩ := sees_u8 h (show i < n from hi) (by omega)
  injection e with e
  injection e with e1 e2
  subst e1 e2
  rw [Nat.zero_add] at hc
  rw [hc, List.getD_eq_getElem?_getD, List.getElem?_eq_getElem (by omega)]
  rfl

end Go.Proofs.YtdeblpbjeflolaaDoor
