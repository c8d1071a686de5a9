/-
  Shred.
  Put and Shred that are refused.
  A map with integer keys, as a list of its entries in the order of their making. No program in sight.
-/
import Derived.Test.YtkgaeoeibjoljaaGreatDoorGF
import Derived.Lib.SliceRun
import Derived.Test.YtkgaeoeibjoljaaGreatDoorGA
import Derived.Maps.Own
import Derived.Maps.OwnOps
namespace Go.Proofs.YtkgaeoeibjoljaaGreatDoor
section
set_option maxRecDepth 4000
open Go.RowKit
theorem kfr_setCells (g : Nat) : ∀ (vs : List Value) (o : Nat) (w : World), Fr (· = g) w (w.setCells g o vs)
 | [], _, _ => Fr.refl _ _
 | v :: vs, o, w => (Fr.setCell (F := (· = g)) w ⟨g, o, none⟩ v rfl).trans (kfr_setCells g vs (o + 1) _) (fun _ _ h => h)
theorem KSt.wipe {w : World} {t b sg : Nat} {from_ : Int} {E : List (Option Ke)} {dead : Bool} {D : Dk} {F K G : Nat -> Prop} (h : KSt w t b sg from_ E dead D F K G) (k : Nat) (e : Ke) (hk : E[k]? = some (some e)) (vs : List Value) :
  KSt ((w.setCells e.g 0 vs).setCells sg (k * 3) (keCells none)) t b sg from_ (E.set k none) dead D F K G /\ Fr G w ((w.setCells e.g 0 vs).setCells sg (k * 3) (keCells none)) := by
 have hkl := (List.getElem?_eq_some_iff.1 hk).1
 obtain ⟨o1, o2, o3⟩ := h.tab.keys e (List.mem_of_getElem? hk)
 have f1 := kfr_setCells e.g vs 0 w
 have hne : ∀ {T : TypeId} {cs : Array Value} {g : Nat}, Blk w g T cs -> 5 ≠ T -> g ≠ e.g := fun hb ht e' => own_ne o1 hb ht e.g rfl e'.symm
 have r1 : Blk (w.setCells e.g 0 vs) sg 160 (kcs E).toArray := h.tab.row.keep (f1.block sg h.tab.row.lt (hne h.tab.row (by decide)))
 have t1 := h.tab.top.keep (f1.block t h.tab.top.lt (hne h.tab.top (by decide)))
 obtain ⟨hb, f2⟩ := blk_slot r1 k none hkl
 have htn : t ≠ sg := h.tab.top.same h.tab.row (by decide)
 have hz := Nat.le_trans f1.size f2.size
 refine ⟨⟨?_, ⟨?_, hb, ?_, ?_, h.tab.tin, h.tab.sin⟩, h.apart, fun j hj => ⟨(h.fin j hj).1, Nat.lt_of_lt_of_le (h.fin j hj).2 hz⟩, fun j hj => ⟨(h.kin j hj).1, Nat.lt_of_lt_of_le (h.kin j hj).2 hz⟩⟩, ?_⟩
 ·exact (h.disk.fr f1 (fun j hj e' => h.apart j hj (e' ▸ o2))).fr f2 (fun j hj e' => h.apart j hj (e' ▸ h.tab.sin))
 ·rw [List.length_set]
  exact t1.keep (f2.block t t1.lt htn)
 ·intro x hx
  obtain ⟨i, hi⟩ := List.mem_iff_getElem?.1 hx
  rw [List.getElem?_set] at hi
  split at hi
  ·first | (split at hi <;> cases hi) | cases hi
  ·rename_i hki
   obtain ⟨a1, a2, a3⟩ := h.tab.keys x (List.mem_of_getElem? hi)
   have hg : x.g ≠ e.g := fun hg => hki (h.tab.once i k x e hi hk hg).symm
   have a4 := own_fr a1 f1 (fun g hgx e' => hg (by have : x.g = g := by simpa [Value.ownBlock] using hgx
                                                   rw [this, e']))
   exact ⟨own_fr a4 f2 (own_ne a4 r1 (by decide)), a2, a3⟩
 ·intro i j x y hi hj hg
  rw [List.getElem?_set] at hi hj
  split at hi
  ·first | (split at hi <;> cases hi) | cases hi
  ·split at hj
   ·first | (split at hj <;> cases hj) | cases hj
   ·exact h.tab.once i j x y hi hj hg
 ·exact (f1.mono (fun j _ e' => by subst e'; exact (h.kin _ o2).1)).trans (f2.mono (fun j _ e' => by subst e'; exact (h.kin _ h.tab.sin).1)) (fun _ _ h => h)
theorem kzero_byte (w : World) : (zeroValue 5).run Tryz.prog w = .ok (.int .u8 0) w := by kernel_rfl
set_option maxHeartbeats 1000000 in
theorem shred_key (t b sg : Nat) (f : Nat) (E : List (Option Ke)) (D : Dk) (F K G : Nat -> Prop) (x : Int) (w : World)
  (h : KSt w t b sg f E false D F K G) (hok : D.Ok) (hq : D.queue.length <= 900) (hf : f <= 1000000) (hE : E.length <= 1000) (hfit : (f + 2 * E.length) * 128 <= D.safe.length) (hin : ∃ e, some e ∈ E /\ e.buck = x) :
  Calls Tryz.prog 56 #[.pointer (some ⟨t, 0, none⟩), .int .i64 x] w fun e w' => ∃ (k : Nat) (e0 : Ke), E[k]? = some (some e0) /\ e0.buck = x /\ (∃ v, e = .returned v /\ ErrIs (D.twoOk (f + 2 * k) zer) v) /\
   KTo w G t b sg f (E.set k none) (!(D.twoOk (f + 2 * k) zer)) (D.two (f + 2 * k) zer) w' := by
 have HFD := Lh (kfind_any t b sg f E false K x w h.tab hE)
 have HH := Lh h
 have HN := Lh hin
 have HOK := Lh hok
 have HS2 := Lh (shred_two t b sg f)
 generalize zer = Z at HS2 ⊢
 clear h hin hok
 go_enter Tryz.func56, Tryz.ntmps56
 go_wp2_with fail
 refine HFD.out.mono ?_
 rintro e w1 ⟨⟨r, rfl, hr⟩, hb1⟩
 rcases hr with ⟨rfl, hno⟩ | ⟨k, e0, rfl, hk, hx⟩
 ·obtain ⟨e0, h1, h2⟩ := HN.out
  exact absurd h2 (hno e0 h1)
 have hkl := (List.getElem?_eq_some_iff.1 hk).1
 have H1 := Lh (Ai (HH.out.below hb1) hb1)
 have c3 : w1.cell? ⟨t, 3, none⟩ = some (.bool false) := H1.out.1.tab.top.cell 3
 have c2 : w1.cell? ⟨t, 2, none⟩ = some (.slice (some ⟨sg, 0, none⟩) E.length E.length) := H1.out.1.tab.top.cell 2
 obtain ⟨g, o, e1, -, -, q2⟩ := in_ent H1.out.1.tab.sees hk
 injection e1 with e1
 injection e1 with e1 e2
 subst e1
 subst e2
 replace q2 : w1.cell? ⟨sg, 0 + k * 3 + 2, none⟩ = some (.slice (some ⟨e0.g, 0, none⟩) 32 e0.cap) := q2
 rw [Nat.zero_add] at q2
 obtain ⟨ow, -, -⟩ := H1.out.1.tab.keys e0 (List.mem_of_getElem? hk)
 obtain ⟨gg, cap, cur, ev, -, hbk, hcap, -, hcs, -⟩ := own_open ow (by omega)
 obtain ⟨hgg, hcp⟩ : e0.g = gg /\ e0.cap = cap := by simpa using ev
 have hcl : ∀ ty, (Builtin.clear_ #[22] ty #[.slice (some ⟨e0.g, 0, none⟩) 32 e0.cap]).run Tryz.prog w1 = .ok (.tuple #[]) (w1.setCells e0.g 0 (List.replicate 32 (.int .u8 0))) :=
  fun ty => Lib.run_clear_slice w1 22 5 ty (.int .u8 0) Tryz.underlying22 kzero_byte rfl rfl e0.g 0 32 e0.cap (by omega) (fun j hj => by rw [hgg, hbk.cell, Array.getElem?_eq_getElem (by omega)]; rfl) (fun j hj => by rw [hgg]; exact hbk.frozen _)
 obtain ⟨vs, hvs⟩ : ∃ vs, vs = List.replicate 32 (Value.int .u8 0) := ⟨_, rfl⟩
 rw [<- hvs] at hcl
 have hw := H1.out.1.wipe k e0 hk vs
 have hrow : Blk (w1.setCells e0.g 0 vs) sg 160 (kcs E).toArray := H1.out.1.tab.row.keep ((kfr_setCells e0.g vs 0 w1).block sg H1.out.1.tab.row.lt (fun e' => own_ne ow H1.out.1.tab.row (by decide) e0.g rfl e'.symm))
 have htop : (w1.setCells e0.g 0 vs).cell? ⟨t, 2, none⟩ = some (.slice (some ⟨sg, 0, none⟩) E.length E.length) := (H1.out.1.tab.top.keep ((kfr_setCells e0.g vs 0 w1).block t H1.out.1.tab.top.lt (fun e' => own_ne ow H1.out.1.tab.top (by decide) e0.g rfl e'.symm))).cell 2
 clear hvs
 generalize w1.setCells e0.g 0 vs = wA at hcl hw hrow htop
 have hth : wA.there sg (k * 3) 3 := fun j hj => ⟨by rw [hrow.cell, List.getElem?_toArray, List.getElem?_eq_getElem (by rw [kcs_length]; omega)]; rfl, hrow.frozen _⟩
 have HTH := Lh hth
 have HW := Lh hw
 have HSZ := Lh (show (Tryz.prog.info? 160).map (·.size) = some 3 by kernel_rfl)
 have q5 : (f + 2 * k + 1 + 1) * 128 <= D.safe.length := Nat.le_trans (Nat.mul_le_mul_right _ (by omega)) hfit
 have q6 : k <= 1000000 := by omega
 have hS := HS2.out (E.set k none) false D F K G k _ hw.1 HOK.out hq hf q6 q5
 have HS := Lh hS
 have HE := Lh (Ai hk hx)
 have hkl' : (k : Int) < (E.length : Int) := by omega
 clear hS q5 q6 hw hb1 HH HFD ow hbk hcs ev hk hx hgg hcp hcap hrow hth HS2
 go_wp2_with first | (simp only [hcl]) | (refine wpList_store_mid rfl 160 (.tmp 33) (.tmp 32) rfl sg (k * 3) #[.bool false, .int .i64 0, .slice none 0 0] rfl rfl HTH.out HSZ.out (by simp [Value.oneCell']) ?_)
 refine HS.out.mono ?_
 rintro e w2 ⟨⟨v, rfl, hv⟩, hto⟩
 have HT := Lh (KTo.after ((Fr.of_below H1.out.2 G).trans HW.out.2 (fun _ _ h => h)) (fun _ _ h => h) hto)
 have HV := Lh hv
 clear hto hv HS
 go_wp2_with fail
 go_ret
 exact ⟨k, e0, HE.out.1, HE.out.2, ⟨_, rfl, HV.out⟩, by simpa using HT.out⟩
end
section
set_option maxRecDepth 4000
open Go.RowKit
theorem shred_none (t b sg : Nat) (f : Nat) (E : List (Option Ke)) (D : Dk) (F K G : Nat -> Prop) (x : Int) (w : World)
  (h : KSt w t b sg f E false D F K G) (hE : E.length <= 1000) (hno : ∀ e, some e ∈ E -> e.buck ≠ x) :
  Calls Tryz.prog 56 #[.pointer (some ⟨t, 0, none⟩), .int .i64 x] w fun e w' => (∃ g, e = .returned (.iface 110 (.pointer (some ⟨g, 0, none⟩)))) /\ Below w.heap.size w w' := by
 have HFD := Lh (kfind_any t b sg f E false K x w h.tab hE)
 have HWR := Lh (fun k w => wrap_no { data := #[107, 101, 121, 115] } k 30 (by decide) w)
 have HH := Lh h
 have HN := Lh hno
 clear h hno
 go_enter Tryz.func56, Tryz.ntmps56
 go_wp2_with fail
 refine HFD.out.mono ?_
 rintro e w1 ⟨⟨r, rfl, hr⟩, hb1⟩
 have hr1 : r = -1 := by
  rcases hr with ⟨rfl, -⟩ | ⟨j, e, rfl, hj, he⟩
  ·rfl
  ·exact absurd he (HN.out e (List.mem_of_getElem? hj))
 subst hr1
 have c3 : w1.cell? ⟨t, 3, none⟩ = some (.bool false) := (HH.out.below hb1).tab.top.cell 3
 have HB := Lh hb1
 clear hr hb1 HFD HH
 go_wp2_with fail
 refine (HWR.out _ _).mono ?_
 rintro e w2 ⟨rfl, -, hb2⟩
 have HB2 := Lh (HB.out.trans (hb2.mono HB.out.size))
 clear hb2
 go_wp2_with fail
 go_ret
 exact ⟨⟨_, rfl⟩, HB2.out⟩
end
section
set_option maxRecDepth 4000
open Go.RowKit
def IMap (w : World) (b : Nat) (k : IntKind) (M : List (Int × Value)) : Prop :=
 ∃ es clock, w.heap[b]? = some (.map es clock) /\ es.toList.map (fun e => (e.key, e.val)) = M.map (fun p => (Value.int k p.1, p.2))
section
variable {P : Program} {w w' : World} {b : Nat} {k : IntKind} {M : List (Int × Value)}
theorem IMap.lt (h : IMap w b k M) : b < w.heap.size := by
 obtain ⟨es, clock, hb, _⟩ := h
 exact (Array.getElem?_eq_some_iff.1 hb).1
theorem IMap.keep (h : IMap w b k M) (hk : w'.heap[b]? = w.heap[b]?) : IMap w' b k M := by
 obtain ⟨es, clock, hb, r⟩ := h
 exact ⟨es, clock, hk.trans hb, r⟩
theorem IMap.new (w : World) (k : IntKind) : IMap (w.alloc (.map #[] 0)) w.heap.size k [] := ⟨#[], 0, heap_alloc_new w _, rfl⟩
theorem findNow_int (n : Int) : ∀ (l : List MapEntry) (M : List (Int × Value)) (i : Nat), l.map (fun e => (e.key, e.val)) = M.map (fun p => (Value.int k p.1, p.2)) ->
  ∃ r, Instr.findNow (.int k) (.int k n) l i = some r /\ r.map (·.2) = M.lookup n := by
 intro l
 induction l with
 | nil =>
  intro M i h
  have : M = [] := by simpa using h.symm
  subst this
  exact ⟨none, rfl, rfl⟩
 | cons e l ih =>
  intro M i h
  cases M with
  | nil => simp at h
  | cons p M =>
   simp only [List.map_cons, List.cons.injEq, Prod.mk.injEq] at h
   obtain ⟨⟨h1, h2⟩, h3⟩ := h
   simp only [Instr.findNow, h1, Instr.sameNow, if_true]
   by_cases hn : n = p.1
   ·subst hn
    simp only [beq_self_eq_true]
    exact ⟨_, rfl, by simp [List.lookup, h2]⟩
   ·have hb : (n == p.1) = false := by simpa using hn
    obtain ⟨r, hr, hr2⟩ := ih M (i + 1) h3
    simp only [hb]
    exact ⟨r, hr, by rw [hr2]; obtain ⟨p1, p2⟩ := p; simp [List.lookup, hb]⟩
theorem run_checkKey_int' (P : Program) (w : World) (e : Bool) (kt : TypeId) (k : IntKind) (n : Int) (m : Nat) (hk : P.underlying kt = some (.int k)) : (Instr.checkKey e (m + 1) kt (.int k n)).run P w = .ok () w := by
 simp [Instr.checkKey, run_underlying hk]
theorem run_checkKey_int (P : Program) (w : World) (e : Bool) (kt : TypeId) (k : IntKind) (n : Int) (hk : P.underlying kt = some (.int k)) : (Instr.checkKey e 10000 kt (.int k n)).run P w = .ok () w :=
 run_checkKey_int' P w e kt k n 9999 hk
theorem run_lookup_imap {t kt et : TypeId} {z : Value} (ht : P.underlying t = some (.map kt et)) (hk : P.underlying kt = some (.int k)) (hz : (zeroValue et).run P w = .ok z w) (h : IMap w b k M) (n : Int) :
  (Instr.lookup t (.map (some b)) (.int k n) false).run P w = .ok ((M.lookup n).getD z) w := by
 obtain ⟨es, clock, hb, hm⟩ := h
 obtain ⟨r, hr, hr2⟩ := findNow_int n es.toList M 0 hm
 have hg : (getObj b).run P w = .ok (.map es clock) w := by simp [getObj, Sem.run, hb]
 cases r with
 | none =>
  simp only [Option.map_none] at hr2
  simp [Instr.lookup, run_underlying ht, hg, run_checkKey_int P w _ kt k n hk, Instr.findKey, run_underlying hk, hr, hz, <- hr2]
 | some x =>
  simp only [Option.map_some] at hr2
  simp [Instr.lookup, run_underlying ht, hg, run_checkKey_int P w _ kt k n hk, Instr.findKey, run_underlying hk, hr, <- hr2]
theorem run_update_imap {t kt et : TypeId} (ht : P.underlying t = some (.map kt et)) (hk : P.underlying kt = some (.int k)) (h : IMap w b k M) (n : Int) (v : Value) (hn : M.lookup n = none) :
  ∃ w', (Instr.mapUpdate t (.map (some b)) (.int k n) v).run P w = .ok () w' /\ IMap w' b k (M ++ [(n, v)]) /\ Fr (· = b) w w' /\ w'.heap.size = w.heap.size := by
 have hlt := h.lt
 obtain ⟨es, clock, hb, hm⟩ := h
 obtain ⟨r, hr, hr2⟩ := findNow_int n es.toList M 0 hm
 have hg : (getObj b).run P w = .ok (.map es clock) w := by simp [getObj, Sem.run, hb]
 rw [hn] at hr2
 have hr0 : r = none := by cases r <;> simp_all
 subst hr0
 refine ⟨{ w with heap := w.heap.setIfInBounds b (.map (es.push { key := .int k n, val := v, born := clock }) (clock + 1)) }, ?_, ⟨es.push { key := .int k n, val := v, born := clock }, clock + 1, ?_, ?_⟩, ⟨rfl, rfl, rfl, by simp, ?_⟩, by simp⟩
 ·simp [Instr.mapUpdate, run_underlying ht, hg, run_checkKey_int P w _ kt k n hk, Instr.findKey, run_underlying hk, hr, setObj, Sem.run, hb]
 ·simp [Array.getElem?_setIfInBounds, hlt]
 ·simp [hm]
 ·intro i hi hne
  simp [Array.getElem?_setIfInBounds, Ne.symm hne]
theorem run_len_imap {t kt et ty : TypeId} (ht : P.underlying t = some (.map kt et)) (h : IMap w b k M) : (Builtin.len_ #[t] ty #[.map (some b)]).run P w = .ok (goInt M.length) w := by
 obtain ⟨es, clock, hb, hm⟩ := h
 have hg : (getObj b).run P w = .ok (.map es clock) w := by simp [getObj, Sem.run, hb]
 have hl : es.size = M.length := by have := congrArg List.length hm; simpa using this
 simp [Builtin.len_, run_underlying ht, hg, hl]
end
end
end Go.Proofs.YtkgaeoeibjoljaaGreatDoor
