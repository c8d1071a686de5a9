/-
  An argument that is an array of integers, read and read back. No program in sight.
  The plain wrap with a condition of the row's own (the listed tables) and the world's shape, both handed to the walk.
  The listed tables, as a law meets them; the heap that the door's own run leaves meets them.
-/
import Derived.ProofKit
import Derived.OpenShut
import Derived.WalkKit
import Derived.Test.YtkgaeoeibjoljaaGreatDoorProg
import Derived.HandedShaped
import Derived.Handed
import Derived.Shelf.Vars
import Derived.Test.YtkgaeoeibjoljaaGreatDoorRows
import Derived.Test.YtkgaeoeibjoljaaGreatDoorGV
import Derived.LaidMore
import Derived.LaidLaws
import Derived.Stop.Joined
namespace Go.Proofs.YtkgaeoeibjoljaaGreatDoor
section
set_option maxRecDepth 4000
open Go.ChangeShapes Go.WideShapes Go.ChangeAt Go.RowKit
section
variable {H : Type} {enc : TypeId × Value -> H} {P : Program} {w : World} {base : Nat} {spare : Nat -> Bool} {held : Bool} {t e : TypeId} {k : IntKind} {n : Nat}
theorem okWide_array (ht : P.underlying t = some (.array n e)) (hs : P.cellsOf t = n) {r : Reach} {b0 : Nat} {v : Value} (h : Value.okWide P w r b0 t v) : ∃ xs : Array Value, v = .agg xs /\ xs.size = n := by
 simp only [Value.okWide, ht] at h
 obtain ⟨cs, h1, h2, _⟩ := h
 exact ⟨cs, h1, by rw [h2, hs]⟩
theorem open_array (ht : P.underlying t = some (.array n e)) (he : P.underlying e = some (.int k)) (hc : P.cellsOf e = 1) (hs : P.cellsOf t = n) {r : Reach} {b0 : Nat} {v : Value} {d : DataW H} {ps : List MemPlace}
  (hval : Value.okWide P w r b0 t v) (hd : DataW.Trod enc P w base spare held t v d ps) :
  ∃ zs : List Int, zs.length = n /\ (∀ z ∈ zs, (Lit.int k z).wf = true) /\ v = .agg (zs.map (Value.int k ·)).toArray /\ d = .agg (zs.map fun z => .lit (.int k z)) /\ ps = [] := by
 obtain ⟨cs, rfl, hcs⟩ := okWide_array ht hs hval
 obtain ⟨fuel, hf⟩ := hd
 obtain ⟨xs, m, rfl, hx, hl, hn, hi⟩ := DataW.trod_array ht hf
 have hone : ∀ i, i < n -> ∃ z, cs.toList[i]? = some (.int k z) /\ xs[i]? = some (.lit (.int k z), []) /\ (Lit.int k z).wf = true := fun i h => by
  have h1 := hi i h
  rw [hc, Nat.mul_one] at h1
  have h2 : xs[i]? = some (xs[i]'(by omega)) := List.getElem?_eq_getElem (by omega)
  rw [h2] at h1
  obtain ⟨z, e1, e2, e3⟩ := DataW.trod_int he h1
  refine ⟨z, ?_, by rw [h2, e2], e3⟩
  have h3 : (Value.agg cs).cells.toList = cs.toList := rfl
  rw [h3] at e1
  have h4 : ((cs.toList.drop i).take 1)[0]? = some (.int k z) := by rw [e1]; rfl
  simpa using h4
 let zs : List Int := cs.toList.map fun v => match v with | .int _ z => z | _ => 0
 have hz : ∀ i, i < n -> ∃ z, cs.toList[i]? = some (.int k z) /\ zs[i]? = some z /\ xs[i]? = some (.lit (.int k z), []) /\ (Lit.int k z).wf = true := fun i h => by
  obtain ⟨z, h1, h2, h3⟩ := hone i h
  exact ⟨z, h1, by simp only [zs, List.getElem?_map, h1]; rfl, h2, h3⟩
 have hzl : zs.length = n := by simp [zs, hcs]
 refine ⟨zs, hzl, fun z hm => ?_, ?_, ?_, ?_⟩
 ·obtain ⟨i, hi, rfl⟩ := List.getElem_of_mem hm
  obtain ⟨z, _, h2, _, h4⟩ := hz i (by omega)
  rw [List.getElem?_eq_getElem hi] at h2
  injection h2 with h2
  rw [h2]; exact h4
 ·have : cs.toList = zs.map (Value.int k ·) := by
   refine List.ext_getElem? fun i => ?_
   by_cases h : i < n
   ·obtain ⟨z, h1, h2, _, _⟩ := hz i h
    rw [h1, List.getElem?_map, h2]; rfl
   ·rw [List.getElem?_eq_none (by simp [hcs]; omega), List.getElem?_eq_none (by simp [hzl]; omega)]
  rw [<- this]
 ·have h1 := congrArg Prod.fst hx
  simp only at h1
  rw [h1]
  congr 1
  refine List.ext_getElem? fun i => ?_
  by_cases h : i < n
  ·obtain ⟨z, _, h2, h3, _⟩ := hz i h
   rw [List.getElem?_map, List.getElem?_map, h2, h3]; rfl
  ·rw [List.getElem?_eq_none (by simp; omega), List.getElem?_eq_none (by simp [hzl]; omega)]
 ·have h1 := congrArg Prod.snd hx
  simp only at h1
  rw [h1, List.flatMap_eq_nil_iff]
  intro x hx
  obtain ⟨i, hi, rfl⟩ := List.getElem_of_mem hx
  obtain ⟨z, _, _, h3, _⟩ := hz i (by omega)
  rw [List.getElem?_eq_getElem hi] at h3
  injection h3 with h3
  rw [h3]
end
end
section
set_option maxRecDepth 4000
open Go
theorem wrap_and_shaped {H : Type} {enc : TypeId × Value -> H} {a : Assume} {C : Checked} {os : Os} {f : FuncId} {fn : Func} {s : ChangeSpec} {conds : List PathCond} {apart fresh handsOn again : Bool} {X : World -> Array Value -> Prop}
  (hX : ∀ (w w' : World) (args : Array Value), w.heap = w'.heap -> X w args -> X w' args)
  (own : ownKnob C.prog.godebug = none) (started : os.Started) (noInit : C.prog.inits.idxOf? f = none) (hfn : C.prog.funcs[f]? = some fn)
  (witness : ∃ (w : World) (tape : Tape) (i : Input), w.os = os /\ (w.forCall tape i).Shaped C.prog /\ i.vars = [] /\ Input.okWide C.prog (w.forCall tape i) .any w.heap.size f i /\
   ((s.pre enc C.prog fn conds apart (w.forCall tape i).memory i.args /\ X (w.forCall tape i).memory i.args) /\ sizedMet enc C.prog fn (OpenSpec.ofChange s) apart (w.forCall tape i).memory i.args) /\ a.holds C.prog (lone (Frame.enter C.prog f i.args .normal) [] (w.forCall tape i)))
  (contract : ∀ (W : World) (args : Array Value) (base : Nat) (ds gs : List (DataW H)) (before : List MemPlace),
   (∀ (j : Nat) t v, fn.params[j]? = some t -> args[j]? = some v -> Value.okWide C.prog W .any base t v) ->
   DataW.Whole enc C.prog fn.params.toList s.vars apart W args.toList ds gs before ->
   X W args -> W.ShapedOpen C.prog ->
   Calls C.prog f args W fun e W' => ∃ v, e = .returned v /\ s.post enc C.prog fn apart fresh handsOn again W args v W') :
  ReturnsInHanded a C os f .any (fun w args => (s.pre enc C.prog fn conds apart w args /\ X w args) /\ sizedMet enc C.prog fn (OpenSpec.ofChange s) apart w args) (s.post enc C.prog fn apart fresh handsOn again) := by
 refine returnsInHanded_of_calls own started noInit witness fun w tape i _ hsh _ hok hpre _ => ?_
 obtain ⟨_, _, _, fn', hfn', _, _, _, _, hval⟩ := hok
 obtain rfl : fn' = fn := Option.some.inj (hfn'.symm.trans hfn)
 obtain ⟨⟨⟨ds, gs, before, hw, -⟩, hx⟩, -⟩ := hpre
 refine (contract (w.forCall tape i) i.args w.heap.size ds gs before hval (DataW.Whole.of_heap (w' := w.forCall tape i) (by rfl) hw) (hX _ _ _ (by rfl) hx) hsh).mono ?_
 rintro e W' ⟨v, rfl, hp⟩
 exact ChangeSpec.post_blind hp
end
section
set_option maxRecDepth 4000
open Go.ChangeShapes Go.WideShapes Go.ChangeAt Go.RowKit
def laidL : List (String × DataW Unit) := [("math/bits.deBruijn32tab", Rows.laid_math_bits_deBruijn32tab), ("math/bits.deBruijn64tab", Rows.laid_math_bits_deBruijn64tab), ("internal/strconv.uint64pow10", Rows.laid_internal_strconv_uint64pow10), ("engrosser/sha.rounds", Rows.laid_engrosser_sha_rounds), ("engrosser/sha.start", Rows.laid_engrosser_sha_start)]
theorem gR : Tryz.prog.globalNamed "engrosser/sha.rounds" = some 3 := by kernel_rfl
theorem gS : Tryz.prog.globalNamed "engrosser/sha.start" = some 2 := by kernel_rfl
theorem tR : (Tryz.prog.globals[3]?).map (·.type) = some 251 := by kernel_rfl
theorem tS : (Tryz.prog.globals[2]?).map (·.type) = some 237 := by kernel_rfl
theorem g10 : Tryz.prog.globalNamed "internal/strconv.uint64pow10" = some 4 := by kernel_rfl
theorem t10 : (Tryz.prog.globals[4]?).map (·.type) = some 255 := by kernel_rfl
theorem door_met (os : Os) (args : Array Value) : laidMetH Tryz.prog laidL ((World.doorLaid Tryz.prog 65 os).forCall (fun _ _ => 0) ⟨#[], args, []⟩).memory :=
 laidMetH_of_parts3 (fuel := 8) (laidMet_of_run' 8 (by kernel_rfl) (by kernel_rfl)) (by kernel_rfl) (by kernel_rfl)
theorem litsR : (Rows.laid_engrosser_sha_rounds : DataW Unit) = .agg (shK.map fun n => .lit (.int .u32 ((n : Nat) : Int))) := by kernel_rfl
theorem litsS : (Rows.laid_engrosser_sha_start : DataW Unit) = .agg (shH.map fun n => .lit (.int .u32 ((n : Nat) : Int))) := by kernel_rfl
theorem lits10 : (Rows.laid_internal_strconv_uint64pow10 : DataW Unit) = Lib.tabData .u64 Lib.pow10Tab := by kernel_rfl
theorem tabs_of_plain {W : World} (h : laidMet Tryz.prog [("math/bits.deBruijn32tab", Rows.laid_math_bits_deBruijn32tab), ("math/bits.deBruijn64tab", Rows.laid_math_bits_deBruijn64tab), ("internal/strconv.uint64pow10", Rows.laid_internal_strconv_uint64pow10), ("engrosser/sha.rounds", Rows.laid_engrosser_sha_rounds), ("engrosser/sha.start", Rows.laid_engrosser_sha_start)] W) : Tab10 W /\ Tab W := by
 obtain ⟨ps, ⟨ga, ta, csa, fa, pa, qa, hga, hta, hva, hda, ⟨gb, tb, csb, fb, pb, qb, hgb, htb, hvb, hdb, ⟨g2, t2, cs2, f2, p2, q2, hg2, ht2, hv2, hd2, ⟨g0, t0, cs0, f0, p0, q0, hg0, ht0, hv0, hd0, ⟨g1, t1, cs1, f1, p1, q1, hg1, ht1, hv1, hd1, _, _⟩, _⟩, _⟩, _⟩, _⟩, _, _⟩ := h
 obtain rfl := Option.some.inj (g10.symm.trans hg2)
 obtain rfl := Option.some.inj (t10.symm.trans ht2)
 rw [lits10] at hd2
 have h10 := Lib.cells_of_tab Tryz.underlying255 Tryz.underlying70 (by kernel_rfl) (by kernel_rfl) hd2
 refine ⟨by unfold Tab10 Lib.TabIs; rw [hv2, <- h10], ?_⟩
 clear hda hdb hd2 h10
 obtain rfl := Option.some.inj (gR.symm.trans hg0)
 obtain rfl := Option.some.inj (tR.symm.trans ht0)
 obtain rfl := Option.some.inj (gS.symm.trans hg1)
 obtain rfl := Option.some.inj (tS.symm.trans ht1)
 have c1 : Tryz.prog.cellsOf 180 = 1 := by kernel_rfl
 have keyR : ∀ j, j < 64 -> cs0.toList[j]? = some (.int .u32 ((shK.getD j 0 : Nat) : Int)) := by
  obtain ⟨xs, m1, rfl, hx1, hlen, hn3, hel⟩ := DataW.trod_array Tryz.underlying251 hd0
  rw [litsR] at hx1
  simp only [Prod.mk.injEq, DataW.agg.injEq] at hx1
  intro j hj
  have hj' := hel j hj
  rw [c1, Nat.mul_one] at hj'
  have hx := congrArg (·[j]?) hx1.1
  have hl : j < shK.length := hj
  simp only [List.getElem?_map, List.getElem?_eq_getElem hl, List.getElem?_eq_getElem (hn3 ▸ hj : j < xs.length), Option.map_some, Option.some.injEq] at hx
  rw [List.getElem?_eq_getElem (hn3 ▸ hj : j < xs.length)] at hj'
  have hd : (cs0.toList.drop j).take 1 = [cs0.toList[j]'(by rw [hlen]; exact hj)] := by
   rw [List.drop_eq_getElem_cons (by rw [hlen]; exact hj)]; rfl
  rw [hd] at hj'
  obtain ⟨k, e1, e2, _⟩ := DataW.trod_int Tryz.underlying180 hj'
  rw [e2] at hx
  simp only [DataW.lit.injEq, Lit.int.injEq, true_and] at hx
  rw [List.getElem?_eq_getElem (by rw [hlen]; exact hj)]
  simp only [List.cons.injEq, and_true] at e1
  rw [e1, <- hx, List.getD_eq_getElem?_getD, List.getElem?_eq_getElem hl]
  rfl
 have keyS : cs1.toList.length = 8 /\ ∀ j, j < 8 -> cs1.toList[j]? = some (.int .u32 ((shH.getD j 0 : Nat) : Int)) := by
  obtain ⟨xs, m1, rfl, hx1, hlen, hn3, hel⟩ := DataW.trod_array Tryz.underlying237 hd1
  rw [litsS] at hx1
  simp only [Prod.mk.injEq, DataW.agg.injEq] at hx1
  refine ⟨by rw [hlen]; rfl, ?_⟩
  intro j hj
  have hj' := hel j hj
  rw [c1, Nat.mul_one] at hj'
  have hx := congrArg (·[j]?) hx1.1
  have hl : j < shH.length := hj
  simp only [List.getElem?_map, List.getElem?_eq_getElem hl, List.getElem?_eq_getElem (hn3 ▸ hj : j < xs.length), Option.map_some, Option.some.injEq] at hx
  rw [List.getElem?_eq_getElem (hn3 ▸ hj : j < xs.length)] at hj'
  have hd : (cs1.toList.drop j).take 1 = [cs1.toList[j]'(by rw [hlen]; exact hj)] := by
   rw [List.drop_eq_getElem_cons (by rw [hlen]; exact hj)]; rfl
  rw [hd] at hj'
  obtain ⟨k, e1, e2, _⟩ := DataW.trod_int Tryz.underlying180 hj'
  rw [e2] at hx
  simp only [DataW.lit.injEq, Lit.int.injEq, true_and] at hx
  rw [List.getElem?_eq_getElem (by rw [hlen]; exact hj)]
  simp only [List.cons.injEq, and_true] at e1
  rw [e1, <- hx, List.getD_eq_getElem?_getD, List.getElem?_eq_getElem hl]
  rfl
 have hK : Kt W := fun j hj => by
  have := World.var?_cell hg0 hv0 j
  rw [this, <- Array.getElem?_toList, keyR j hj]
 have hcs : cs1 = (wds shH).toArray := by
  apply Array.ext'
  rw [List.toList_toArray]
  refine List.ext_getElem? fun j => ?_
  by_cases hj : j < 8
  ·rw [keyS.2 j hj, wds_get (show j < shH.length from hj)]
  ·rw [List.getElem?_eq_none (by rw [keyS.1]; omega), List.getElem?_eq_none (by rw [length_wds]; show 8 <= j; omega)]
 have hH : Ht W := by
  unfold World.var? at hv1
  rw [hg1] at hv1
  simp only [Option.bind_some] at hv1
  cases ho : W.heap[(2 : Nat)]? with
  | none => rw [ho] at hv1; simp at hv1
  | some o =>
   rw [ho] at hv1
   cases o with
   | cells cs t fr => simp at hv1; subst hv1; exact ⟨t, fr, ho.trans (by rw [hcs])⟩
   | _ => simp at hv1
 refine ⟨hK, hH, ?_⟩
 exact World.block_lt_of_cell? _ _ (hK 0 (by decide))
theorem mx_shaped {W : World} (h : W.ShapedOpen Tryz.prog) : ∃ m, W.cell? ⟨0, 0, none⟩ = some (.int .i64 m) :=
 cell_of_shapedOpen_int (P := Tryz.prog) (g := 0) (t := 3) (zero := #[.int .i64 0]) h (of_decide_eq_true (by kernel_rfl)) (by kernel_rfl) rfl (by kernel_rfl) (by kernel_rfl) Tryz.underlying3
theorem tab_of_laid {W : World} (h : laidMetH Tryz.prog laidL W) (hs : W.ShapedOpen Tryz.prog) : TabsS W := by
 rw [MakeChecks.laidMetH_plain _ _ _ (by kernel_rfl)] at h
 have ht := tabs_of_plain h
 exact ⟨ht.2, ht.1, mx_shaped hs⟩
end
end Go.Proofs.YtkgaeoeibjoljaaGreatDoor
