/-
  A function of the library at this program: what the library's own contract asks, laid by its own tool in plain words.
  slices.Sort of ints.
  Which names stand in octets, by the code.
-/
import Derived.Shelf.Sort.Plain
import Derived.Test.YtkgaeoeibjoljaaGreatDoorProg
import Derived.Test.YtkgaeoeibjoljaaGreatDoorGP
import Derived.Test.YtkgaeoeibjoljaaGreatDoorGS
import Derived.Maps.RangeWalk
import Derived.Maps.OwnOps
import Derived.Maps.Views
import Derived.Lib.SlKeysI
namespace Go.Proofs.YtkgaeoeibjoljaaGreatDoor
section
open Go.Shelf
def sortRen : Go.Shelf.Ren := ⟨fun | 189 => 44 | 125 => 76 | 257 => 75 | 128 => 118 | 129 => 119 | 294 => 109 | 295 => 110 | 296 => 111 | 297 => 112 | 298 => 113 | 299 => 114 | 216 => 115 | 300 => 116 | 301 => 117 | 328 => 146 | 329 => 147 | 330 => 148 | 331 => 149 | 332 => 150 | 215 => 151 | 343 => 160 | n => n, fun | 28 => 28 | 3 => 3 | 46 => 127 | 0 => 0 | 51 => 180 | 53 => 70 | 4 => 4 | 183 => 185 | 182 => 184 | 131 => 60 | 5 => 5 | 9 => 9 | 218 => 222 | 222 => 225 | 228 => 234 | 229 => 144 | n => n, fun | n => n⟩
theorem sortLays : Lays.n189 Tryz.prog sortRen := {
 mixed := by kernel_rfl
 f125 := Tryz.func76.trans (congrArg some (by kernel_rfl))
 f128 := Tryz.func118.trans (congrArg some (by kernel_rfl))
 f129 := Tryz.func119.trans (congrArg some (by kernel_rfl))
 f189 := Tryz.func44.trans (congrArg some (by kernel_rfl))
 f215 := Tryz.func151.trans (congrArg some (by kernel_rfl))
 f216 := Tryz.func115.trans (congrArg some (by kernel_rfl))
 f257 := Tryz.func75.trans (congrArg some (by kernel_rfl))
 f294 := Tryz.func109.trans (congrArg some (by kernel_rfl))
 f295 := Tryz.func110.trans (congrArg some (by kernel_rfl))
 f296 := Tryz.func111.trans (congrArg some (by kernel_rfl))
 f297 := Tryz.func112.trans (congrArg some (by kernel_rfl))
 f298 := Tryz.func113.trans (congrArg some (by kernel_rfl))
 f299 := Tryz.func114.trans (congrArg some (by kernel_rfl))
 f300 := Tryz.func116.trans (congrArg some (by kernel_rfl))
 f301 := Tryz.func117.trans (congrArg some (by kernel_rfl))
 f328 := Tryz.func146.trans (congrArg some (by kernel_rfl))
 f329 := Tryz.func147.trans (congrArg some (by kernel_rfl))
 f330 := Tryz.func148.trans (congrArg some (by kernel_rfl))
 f331 := Tryz.func149.trans (congrArg some (by kernel_rfl))
 f332 := Tryz.func150.trans (congrArg some (by kernel_rfl))
 f343 := Tryz.func160.trans (congrArg some (by kernel_rfl))
 t0 := Tryz.underlying0
 a0 := Tryz.isAgg0
 z0 := Tryz.sizeOf0
 v0 := Tryz.zeroValue0
 t3 := Tryz.underlying3
 a3 := Tryz.isAgg3
 z3 := Tryz.sizeOf3
 v3 := Tryz.zeroValue3
 t4 := Tryz.underlying4
 a4 := Tryz.isAgg4
 z4 := Tryz.sizeOf4
 v4 := Tryz.zeroValue4
 t5 := Tryz.underlying5
 a5 := Tryz.isAgg5
 z5 := Tryz.sizeOf5
 v5 := Tryz.zeroValue5
 t9 := Tryz.underlying9
 a9 := Tryz.isAgg9
 z9 := Tryz.sizeOf9
 v9 := Tryz.zeroValue9
 t28 := Tryz.underlying28
 a28 := Tryz.isAgg28
 z28 := Tryz.sizeOf28
 v28 := Tryz.zeroValue28
 t46 := Tryz.underlying127
 a46 := Tryz.isAgg127
 z46 := Tryz.sizeOf127
 v46 := Tryz.zeroValue127
 t51 := Tryz.underlying180
 a51 := Tryz.isAgg180
 z51 := Tryz.sizeOf180
 v51 := Tryz.zeroValue180
 t53 := Tryz.underlying70
 a53 := Tryz.isAgg70
 z53 := Tryz.sizeOf70
 v53 := Tryz.zeroValue70
 t131 := Tryz.underlying60
 a131 := Tryz.isAgg60
 z131 := Tryz.sizeOf60
 v131 := Tryz.zeroValue60
 t182 := Tryz.underlying184
 a182 := Tryz.isAgg184
 z182 := Tryz.sizeOf184
 v182 := Tryz.zeroValue184
 t183 := Tryz.underlying185
 a183 := Tryz.isAgg185
 z183 := Tryz.sizeOf185
 v183 := Tryz.zeroValue185
 t218 := Tryz.underlying222
 a218 := Tryz.isAgg222
 z218 := Tryz.sizeOf222
 v218 := Tryz.zeroValue222
 t222 := Tryz.underlying225
 a222 := Tryz.isAgg225
 z222 := Tryz.sizeOf225
 v222 := Tryz.zeroValue225
 t228 := Tryz.underlying234
 a228 := Tryz.isAgg234
 z228 := Tryz.sizeOf234
 v228 := Tryz.zeroValue234
 t229 := Tryz.underlying144
 a229 := Tryz.isAgg144
 z229 := Tryz.sizeOf144
 v229 := Tryz.zeroValue144 }
end
section
set_option maxRecDepth 4000
open Go.RowKit Go.Shelf
theorem ilen64_zero (w : World) : Calls Tryz.prog 119 #[.int .u64 0] w fun e w' => e = .returned (.int .i64 0) /\ w = w' := by
 go_enter Tryz.func119, Tryz.ntmps119
 go_wp2_with fail
 go_ret
 exact ⟨ret_int (by kernel_rfl), rfl⟩
theorem ilen_zero (w : World) : Calls Tryz.prog 76 #[.int .u64 0] w fun e w' => e = .returned (.int .i64 0) /\ w = w' := by
 have H := Lh ilen64_zero
 go_enter Tryz.func76, Tryz.ntmps76
 go_wp2_with fail
 refine (H.out _).mono ?_
 rintro e w2 ⟨rfl, rfl⟩
 go_wp2_with fail
 go_ret
 exact ⟨rfl, rfl⟩
theorem iins_zero (A : Option Addr) (c : Nat) (w : World) : Calls Tryz.prog 109 #[.slice A 0 c, .int .i64 0, .int .i64 0] w fun e w' => e = .returned (.tuple #[]) /\ w = w' := by
 go_enter Tryz.func109, Tryz.ntmps109
 go_wp2_with fail
 refine wp_loop_rounds 1 ?_
 rw [rounds_succ]
 go_wp2_with fail
 refine bodyPost_end (results_none rfl _ _ _) rfl ?_
 exact ⟨rfl, rfl⟩
theorem ipdq_zero (A : Option Addr) (c : Nat) (lim : Int) (w : World) : Calls Tryz.prog 75 #[.slice A 0 c, .int .i64 0, .int .i64 0, .int .i64 lim] w fun e w' => e = .returned (.tuple #[]) /\ w = w' := by
 have H := Lh iins_zero
 go_enter Tryz.func75, Tryz.ntmps75
 go_wp2_with fail
 refine wp_loop_rounds 1 ?_
 rw [rounds_succ]
 go_wp2_with fail
 refine (H.out _ _ _).mono ?_
 rintro e w2 ⟨rfl, rfl⟩
 go_wp2_with fail
 first | refine bodyPost_end (results_none rfl _ _ _) rfl ?_ | refine bodyPost_ret (results_none rfl _ _ _) rfl ?_
 exact ⟨rfl, rfl⟩
theorem isort_zero (A : Option Addr) (c : Nat) (w : World) : Calls Tryz.prog 44 #[.slice A 0 c] w fun e w' => e = .returned (.tuple #[]) /\ w = w' := by
 have H1 := Lh ilen_zero
 have H2 := Lh ipdq_zero
 go_enter Tryz.func44, Tryz.ntmps44
 go_wp2_with fail
 refine (H1.out _).mono ?_
 rintro e w2 ⟨rfl, rfl⟩
 go_wp2_with fail
 refine (H2.out _ _ _ _).mono ?_
 rintro e w2 ⟨rfl, rfl⟩
 go_wp2_with fail
 first | refine bodyPost_end (results_none rfl _ _ _) rfl ?_ | refine bodyPost_ret (results_none rfl _ _ _) rfl ?_
 exact ⟨rfl, rfl⟩
abbrev leZ : Int -> Int -> Bool := fun x y => decide (x <= y)
theorem putI_world {w : World} {g n m cap base : Nat} {zs d : List Int} {os : Array Obj} (hn : n = zs.length) (h0 : 0 < n) (hd : d.length = n) (h : w.ownsRow base 3 1 (.slice (some ⟨g, 0, none⟩) n cap) n (i64s zs)) :
  (Go.Sort.grow (Go.Sort.putRow (Value.int .i64) (Go.Sort.ahead w m) g 0 d.toArray) os).ownsRow base 3 1 (.slice (some ⟨g, 0, none⟩) n cap) n (i64s d) /\ Below base w (Go.Sort.grow (Go.Sort.putRow (Value.int .i64) (Go.Sort.ahead w m) g 0 d.toArray) os) := by
 obtain ⟨g', cap', cur, hv, hb, hg, h1, h2, h3, h4⟩ := own_open h h0
 injection hv with hv _ hc
 injection hv with hv
 injection hv with hv _ _
 subst hv hc
 have hlt := hg.lt
 have hz : ∀ k, k < w.heap.size -> (Go.Sort.grow (Go.Sort.putRow (Value.int .i64) (Go.Sort.ahead w m) g 0 d.toArray) os).heap[k]? = (Go.Sort.putRow (Value.int .i64) (Go.Sort.ahead w m) g 0 d.toArray).heap[k]? := fun k hk => by
  unfold Go.Sort.grow
  simp only []
  rw [Array.getElem?_append_left (by simp [Go.Sort.putRow, Go.Sort.mapBlock, Go.Sort.ahead]; exact hk)]
 have hk' : Blk (Go.Sort.grow (Go.Sort.putRow (Value.int .i64) (Go.Sort.ahead w m) g 0 d.toArray) os) g 3 (Go.Sort.putCells (Value.int .i64) 0 d.toArray cur) := by
  unfold Blk
  rw [hz g hlt]
  have : w.heap[g]? = some (.cells cur 3 (0, 0)) := hg
  simp [Go.Sort.putRow, Go.Sort.mapBlock, Go.Sort.ahead, Array.getElem?_modify, this, Go.Sort.onCells]
 refine ⟨own_mk hb hk' h1 h2 (by simp [Go.Sort.putCells, h3]) ?_, ⟨rfl, rfl, rfl, ?_, fun k hk => ?_⟩⟩
 ·apply List.ext_getElem?
  intro j
  by_cases hj : j < n * 1
  ·have hjc : j < cur.size := by rw [h3]; omega
   rw [List.getElem?_take, if_pos hj, Array.getElem?_toList]
   simp only [Go.Sort.putCells, Array.getElem?_mapIdx, Array.getElem?_eq_getElem hjc, Option.map_some]
   rw [if_pos ⟨Nat.zero_le _, by simp [hd]; omega⟩, Nat.sub_zero]
   unfold i64s
   rw [List.getElem?_map, List.getElem?_eq_getElem (by omega), getElem!_pos d.toArray j (by simp [hd]; omega)]
   rfl
  ·rw [List.getElem?_take, if_neg hj, List.getElem?_eq_none (by unfold i64s; rw [List.length_map, hd]; omega)]
 ·simp [Go.Sort.grow, Go.Sort.putRow, Go.Sort.mapBlock, Go.Sort.ahead]
 ·have hkl : k < w.heap.size := by omega
  rw [hz k hkl]
  have : ¬ g = k := by omega
  simp [Go.Sort.putRow, Go.Sort.mapBlock, Go.Sort.ahead, Array.getElem?_modify, this]
theorem holds_int {w : World} {g n cap : Nat} {zs : List Int} {base : Nat} (hn : n = zs.length) (h : w.ownsRow base 3 1 (.slice (some ⟨g, 0, none⟩) n cap) n (i64s zs)) : Go.Sort.Holds (Value.int .i64) w g 0 zs.toArray := by
 intro j hj
 have hj' : j < zs.length := by simpa using hj
 obtain ⟨g', cap', cur, hv, hb, hg, h1, h2, h3, h4⟩ := own_open h (by omega)
 injection hv with hv _ _
 injection hv with hv
 injection hv with hv _ _
 subst hv
 rw [Nat.zero_add]
 refine ⟨?_, hg.frozen j⟩
 have e1 : (i64s zs)[j]? = some (.int .i64 zs[j]) := by unfold i64s; rw [List.getElem?_map, List.getElem?_eq_getElem hj']; rfl
 rw [<- h4, List.getElem?_take, if_pos (by omega), Array.getElem?_toList] at e1
 rw [hg.cell, e1, getElem!_pos zs.toArray j (by simpa using hj')]
 simp
theorem isort_any (zs : List Int) (v : Value) (base : Nat) (w : World) (h : w.ownsRow base 3 1 v zs.length (i64s zs)) (hl : zs.length <= 100000000) :
  Calls Tryz.prog 44 #[v] w fun e w' => e = .returned (.tuple #[]) /\ w'.ownsRow base 3 1 v zs.length (i64s (zs.mergeSort leZ)) /\ Below base w w' := by
 by_cases h0 : zs.length = 0
 ·obtain rfl := List.eq_nil_of_length_eq_zero h0
  obtain ⟨A, c, rfl⟩ := own_shape h
  refine (isort_zero A c w).mono ?_
  rintro e w' ⟨rfl, rfl⟩
  exact ⟨rfl, by simpa using h, Below.refl _ _⟩
 ·obtain ⟨g, c, rfl⟩ : ∃ g c, v = .slice (some ⟨g, 0, none⟩) zs.length c := by
   obtain ⟨g, cap, cur, hv, -⟩ := own_open h (Nat.pos_of_ne_zero h0)
   exact ⟨g, cap, hv⟩
  have hcon := Any.slices_Sort_int sortLays g 0 c zs w (holds_int rfl h) (h.lt g rfl).2 (by omega)
  change Calls Tryz.prog 44 _ _ _ at hcon
  refine hcon.mono ?_
  rintro e w' ⟨rfl, n, os, rfl⟩
  have := putI_world (m := n) (os := os) rfl (Nat.pos_of_ne_zero h0) (d := zs.mergeSort leZ) (List.length_mergeSort _) h
  exact ⟨rfl, this.1, this.2⟩
end
section
set_option maxRecDepth 4000
open Go.RowKit Go.Maps
theorem lawI : Keyed Tryz.prog 3 := int_keyed Tryz.underlying3
theorem map_keep {R : Value -> Option (DataW Unit × List MemPlace)} {w w' : World} {k : TypeId} {b n : Nat} {D : DataW Unit} (h : w.ownsMap Tryz.prog k R b n D) (hb : w'.heap[b]? = w.heap[b]?) : w'.ownsMap Tryz.prog k R b n D := by
 obtain ⟨es, clock, h1, F, hs, hD⟩ := h
 exact ⟨es, clock, hb.trans h1, F, hs, hD⟩
theorem map_below {R : Value -> Option (DataW Unit × List MemPlace)} {w w' : World} {k : TypeId} {b n : Nat} {D : DataW Unit} (h : w.ownsMap Tryz.prog k R b n D) (hb : Below w.heap.size w w') : w'.ownsMap Tryz.prog k R b n D :=
 map_keep h (hb.block b h.lt)
theorem map_size {w : World} {R : Value -> Option (DataW Unit × List MemPlace)} {k : TypeId} {b n : Nat} {D : DataW Unit} (h : w.ownsMap Tryz.prog k R b n D) : Maps.size D <= n := by
 obtain ⟨es, clock, h1, F, hs, rfl⟩ := h
 rw [Maps.size_eq, DataW.length_sorted, List.length_map]
 simpa using hs
theorem info_int8 : (Tryz.prog.info? 3).map (fun i => (i.zero, i.size, i.bytes)) = some (some (.int .i64 0), 1, 8) := by kernel_rfl
theorem i64s_one (l : List Int) : ∀ u ∈ i64s l, u.oneCell' = true := by
 intro u hu
 obtain ⟨c, _, rfl⟩ := List.mem_map.1 hu
 rfl
theorem sorted_lt {ss : List Int} (h : ss.Nodup) : (ss.mergeSort leZ).Pairwise (· < ·) := by
 have tr : ∀ a b c : Int, leZ a b = true -> leZ b c = true -> leZ a c = true := fun a b c h1 h2 => by simp only [leZ, decide_eq_true_eq] at *; exact Int.le_trans h1 h2
 have to : ∀ a b : Int, (leZ a b || leZ b a) = true := fun a b => by simp only [leZ, Bool.or_eq_true, decide_eq_true_eq]; exact Int.le_total a b
 have h1 := List.pairwise_mergeSort tr to ss
 have h2 : (ss.mergeSort leZ).Nodup := (List.mergeSort_perm ss leZ).nodup_iff.2 h
 refine (h1.and h2).imp ?_
 intro a b ⟨hab, hne⟩
 have := of_decide_eq_true hab
 omega
theorem own_apart {w : World} {base n : Nat} {v : Value} {xs : List Value} {e : TypeId} (h : w.ownsRow base e 1 v n xs) {ty : TypeId} {R : Value -> Option (DataW Unit × List MemPlace)} {b r k cnt : Nat} {D : DataW Unit} {left : Lit -> Bool} (hr : w.ranges Tryz.prog ty R b r k D left cnt) :
  ∀ q, v.ownBlock = some q -> q ≠ b /\ q ≠ r := by
 obtain ⟨es, clock, since, seen, c0, hb, _, _, _, hr', _⟩ := hr
 intro q hq
 rcases h.2 with ⟨rfl, _⟩ | ⟨g, cap, cur, rfl, _, hg, _⟩
 ·cases hq
 ·injection hq with hq
  subst hq
  refine ⟨fun e => ?_, fun e => ?_⟩
  ·subst e; rw [hb] at hg; cases hg
  ·subst e; rw [hr'] at hg; cases hg
theorem own_iter {w w' : World} {base n : Nat} {v : Value} {xs : List Value} {e : TypeId} (h : w.ownsRow base e 1 v n xs) {ty : TypeId} {R : Value -> Option (DataW Unit × List MemPlace)} {b r k cnt : Nat} {D : DataW Unit} {left : Lit -> Bool} (hr : w.ranges Tryz.prog ty R b r k D left cnt) (hg : w.grownBy w' (some r)) :
  w'.ownsRow base e 1 v n xs :=
 own_keep h fun q hq => hg.block q (h.lt q hq).2 (fun e => (own_apart h hr q hq).2 (by injection e))
theorem sees_map {w : World} {a : Addr} {n b k : Nat} {l : List UInt8} {R : Value -> Option (DataW Unit × List MemPlace)} {ty : TypeId} {D : DataW Unit} (h : Sees w 1 (some a) n (u8s l)) (hn : 0 < n) (hm : w.ownsMap Tryz.prog ty R b k D) : a.block ≠ b := by
 obtain ⟨es, clock, hb, _⟩ := hm
 have hl : (u8s l).length = n * 1 := h.1
 obtain ⟨g, o, e, hc⟩ := h.2 hn
 injection e with e
 subst e
 have := hc 0 _ (List.getElem?_eq_getElem (by omega))
 intro e
 simp only at e
 subst e
 simp [World.cell?, hb] at this
def slen : Value -> Nat
 | .slice _ m _ => m
 | _ => 0
structure NmAt (w wr : World) (l : List UInt8) (off m c : Nat) (A : Option Addr) (k : Nat) (D : DataW Unit) : Prop where
 sees : Sees wr 1 A m (u8s (l.drop off))
 len : (l.drop off).length = m
 cap : m <= c
 nil : A = none -> c = 0
 offl : off <= l.length
 owns : wr.ownsMap Tryz.prog 3 (plainElem Tryz.prog 4) w.heap.size k D
 few : k <= off
 has : ∀ x : Int, Maps.has D (.int .i64 x) = true ↔ NamesTo l off x
 bel : Below w.heap.size w wr
 base : w.heap.size < wr.heap.size
set_option maxHeartbeats 4000000 in
theorem named_any (l : List UInt8) (A : Option Addr) (n c : Nat) (w : World) (h1 : Sees w 1 A n (u8s l)) (hl : l.length = n) (hc : n <= c) (hn : n <= 10000000) (hcm : c <= maxLen) (hA : A = none -> c = 0) (hm : ∃ m, w.cell? ⟨0, 0, none⟩ = some (.int .i64 m)) :
  Calls Tryz.prog 10 #[.slice A n c] w fun e w' => ∃ (v : Value) (ss : List Int), e = .returned v /\ w'.ownsRow w.heap.size 3 1 v ss.length (i64s ss) /\ ss.Pairwise (· < ·) /\ (∀ x, x ∈ ss ↔ NamesOf l x) /\ Below w.heap.size w w' := by
 have hmm := @run_makeMap Tryz.prog
 obtain ⟨MK, hMK⟩ : ∃ M, M = mk24 := ⟨_, rfl⟩
 have HC := Lh (Ai hMK (show u8s MK = [.int .u8 97, .int .u8 45, .int .u8 116, .int .u8 101, .int .u8 114, .int .u8 109, .int .u8 45, .int .u8 111, .int .u8 102, .int .u8 45, .int .u8 116, .int .u8 104, .int .u8 101, .int .u8 45, .int .u8 101, .int .u8 110, .int .u8 103, .int .u8 114, .int .u8 111, .int .u8 115, .int .u8 115, .int .u8 101, .int .u8 114, .int .u8 58] by rw [hMK]; rfl))
 have HM := Lh hm
 have h0 : Hid (NmAt w (w.alloc (.map #[] 0)) l 0 n c A 0 (.map [])) := Lh ⟨h1.below ((Below.refl _ _).alloc (Nat.le_refl _) _), by rw [List.drop_zero]; exact hl, hc, hA, Nat.zero_le _, World.ownsMap_made _ _ _ _, Nat.le_refl _, fun x => ⟨fun h => (by cases h), fun ⟨n, _, _, i, hi, _⟩ => by omega⟩, (Below.refl _ _).alloc (Nat.le_refl _) _, by simp⟩
 clear hMK h1 hA hm hc
 go_enter Tryz.func10, Tryz.ntmps10
 go_wp2_with fail
 go_loopw [0] (fun o wr => ∃ (off m c' : Nat) (A' : Option Addr) (k : Nat) (D : DataW Unit), o = .slice A' m c' /\ c' <= maxLen /\ Hid (NmAt w wr l off m c' A' k D)) (fun o _ => slen o)
 case atStart => exact ⟨0, n, c, A, 0, .map [], rfl, hcm, h0⟩
 case round =>
  obtain ⟨off, m, c', A', k, D, rfl, hcm', hr⟩ := hrel
  clear h0
  have hal : Below wr.heap.size wr (wr.alloc (.cells #[.int .u8 97, .int .u8 45, .int .u8 116, .int .u8 101, .int .u8 114, .int .u8 109, .int .u8 45, .int .u8 111, .int .u8 102, .int .u8 45, .int .u8 116, .int .u8 104, .int .u8 101, .int .u8 45, .int .u8 101, .int .u8 110, .int .u8 103, .int .u8 114, .int .u8 111, .int .u8 115, .int .u8 115, .int .u8 101, .int .u8 114, .int .u8 58] 5 (24, 25))) := (Below.refl _ _).alloc (Nat.le_refl _) _
  have hcv : (convert 22 22 (.slice (some ⟨wr.heap.size, 0, none⟩) 24 24)).run Tryz.prog (wr.alloc (.cells #[.int .u8 97, .int .u8 45, .int .u8 116, .int .u8 101, .int .u8 114, .int .u8 109, .int .u8 45, .int .u8 111, .int .u8 102, .int .u8 45, .int .u8 116, .int .u8 104, .int .u8 101, .int .u8 45, .int .u8 101, .int .u8 110, .int .u8 103, .int .u8 114, .int .u8 111, .int .u8 115, .int .u8 115, .int .u8 101, .int .u8 114, .int .u8 58] 5)) = .ok (.slice (some ⟨wr.heap.size, 0, none⟩) 24 24) (wr.alloc (.cells #[.int .u8 97, .int .u8 45, .int .u8 116, .int .u8 101, .int .u8 114, .int .u8 109, .int .u8 45, .int .u8 111, .int .u8 102, .int .u8 45, .int .u8 116, .int .u8 104, .int .u8 101, .int .u8 45, .int .u8 101, .int .u8 110, .int .u8 103, .int .u8 114, .int .u8 111, .int .u8 115, .int .u8 115, .int .u8 101, .int .u8 114, .int .u8 58] 5 (24, 25))) := cv_mark wr _ 24 24
  have hsm : Sees (wr.alloc (.cells #[.int .u8 97, .int .u8 45, .int .u8 116, .int .u8 101, .int .u8 114, .int .u8 109, .int .u8 45, .int .u8 111, .int .u8 102, .int .u8 45, .int .u8 116, .int .u8 104, .int .u8 101, .int .u8 45, .int .u8 101, .int .u8 110, .int .u8 103, .int .u8 114, .int .u8 111, .int .u8 115, .int .u8 115, .int .u8 101, .int .u8 114, .int .u8 58] 5 (24, 25))) 1 (some ⟨wr.heap.size, 0, none⟩) 24 (u8s mk24) := by
   rw [<- HC.out.1, HC.out.2]
   exact sees_mark wr 5 (24, 25) [.int .u8 97, .int .u8 45, .int .u8 116, .int .u8 101, .int .u8 114, .int .u8 109, .int .u8 45, .int .u8 111, .int .u8 102, .int .u8 45, .int .u8 116, .int .u8 104, .int .u8 101, .int .u8 45, .int .u8 101, .int .u8 110, .int .u8 103, .int .u8 114, .int .u8 111, .int .u8 115, .int .u8 115, .int .u8 101, .int .u8 114, .int .u8 58] 24 rfl
  have hm1 : ∃ m, (wr.alloc (.cells #[.int .u8 97, .int .u8 45, .int .u8 116, .int .u8 101, .int .u8 114, .int .u8 109, .int .u8 45, .int .u8 111, .int .u8 102, .int .u8 45, .int .u8 116, .int .u8 104, .int .u8 101, .int .u8 45, .int .u8 101, .int .u8 110, .int .u8 103, .int .u8 114, .int .u8 111, .int .u8 115, .int .u8 115, .int .u8 101, .int .u8 114, .int .u8 58] 5 (24, 25))).cell? ⟨0, 0, none⟩ = some (.int .i64 m) := by
   obtain ⟨mm, hmm'⟩ := HM.out
   have hlt := World.block_lt_of_cell? w _ hmm'
   exact ⟨mm, (hal.cell (Nat.lt_of_lt_of_le hlt hr.out.bel.size)).trans ((hr.out.bel.cell hlt).trans hmm')⟩
  have hml : m <= 10000000 := by have := hr.out.len; rw [List.length_drop] at this; omega
  have HIX := bindex_any (l.drop off) A' ⟨wr.heap.size, 0, none⟩ m c' 24 _ (hr.out.sees.below hal) hr.out.len hr.out.cap (by omega) hr.out.nil hsm hm1
  have hb1 := hr.out.bel.trans (hal.mono hr.out.bel.size)
  have HB1 := Lh (Ai hal hb1)
  clear hal hsm hm1 hb1
  rcases index_mk (l.drop off) with ⟨hi, hno⟩ | ⟨i, hi, hmk, hno⟩
  ·rw [hi] at HIX
   replace HIX := Lh HIX
   have HNO := Lh hno
   clear hi hno
   go_wp2_with fail
   refine HIX.out.mono ?_
   rintro e w2 ⟨rfl, q, hq⟩
   have hb2 : Below w.heap.size w w2 := HB1.out.2.trans (by rw [hq]; exact ⟨rfl, rfl, rfl, Nat.le_refl _, fun _ _ => rfl⟩)
   have hm2 : w2.ownsMap Tryz.prog 3 (plainElem Tryz.prog 4) w.heap.size k D := map_keep (map_below hr.out.owns HB1.out.1) (by rw [hq]; rfl)
   have H2 := Lh (Ai hb2 hm2)
   have hbase2 : w.heap.size < w2.heap.size := hm2.lt
   clear hq hb2 hm2 HIX HB1
   go_wp2_with (first
    | (at_range; refine wpList_range_own _ rfl _ 75 rfl 3 4 lawI Tryz.underlying75 _ w.heap.size k D rfl H2.out.2 ?_; intro w3 hrg hg3 hs3)
    | go_in)
   have hsz := map_size H2.out.2
   have hkn : k <= 10000000 := by have := hr.out.few; have := hr.out.offl; omega
   have H3 := Lh (Ai hrg (H2.out.1.grown hg3 H2.out.1.size (fun k hk => by cases hk)))
   clear hrg hg3
   go_frame
   go_loopw [7] (fun o wr2 => ∃ (left : Lit -> Bool) (cnt : Nat) (ss : List Int), Hid (wr2.ranges Tryz.prog 3 (plainElem Tryz.prog 4) w.heap.size w2.heap.size k D left cnt /\ ss.length + cnt <= Maps.size D /\ CollectedI D left ss /\ wr2.ownsRow w.heap.size 3 1 o ss.length (i64s ss) /\ Below w.heap.size w wr2)) (fun _ wr2 => wr2.rangeLeft w.heap.size w2.heap.size)
   case atStart => exact ⟨_, _, [], Lh ⟨H3.out.1, by simp, CollectedI.start D, World.ownsRow_nil _ _ _ _, H3.out.2⟩⟩
   case round =>
    obtain ⟨left, cnt, ss, hr2⟩ := hrel
    clear H3
    go_wp2_with (first
     | (at_next; refine wpList_next_ranges _ rfl _ rfl 3 lawI (plainElem Tryz.prog 4) (Value.int .i64) id (fun key kl hk => by obtain ⟨x, hx, _⟩ := Maps.keyOf_i64 Tryz.underlying3 hk; exact ⟨x, hx⟩) (fun v _ _ => ⟨v, rfl⟩) w.heap.size w2.heap.size k D left cnt rfl hr2.out.1 ?_ ?_)
     | go_in)
    ·intro hc0 hl0
     have hpm := hr2.out.2.2.1.perm hr2.out.1.owns lawI Tryz.underlying3 hl0
     have hmem : ∀ x, x ∈ ss ↔ NamesOf l x := fun x => by
      have h1 : x ∈ ss ↔ Maps.has D (.int .i64 x) = true := by rw [hr2.out.2.2.1.2 x, hl0]; simp
      rw [h1, hr.out.has x]
      exact names_none (fun j hj hm => HNO.out (j - off) (by rw [mkAt_drop, show off + (j - off) = j by omega]; exact hm)) x
     have HSO := Lh (isort_any ss u7 w.heap.size wr hr2.out.2.2.2.1 (by have := hr2.out.2.1; omega))
     have HE := Lh (Ai hmem (Ai hr2.out.2.2.1.1 hr2.out.2.2.2.2))
     clear hpm hmem hr2
     go_wp2_with fail
     refine HSO.out.mono ?_
     rintro e w5 ⟨rfl, own5, bel5⟩
     have H5 := Lh (Ai own5 (HE.out.2.2.trans bel5))
     clear own5 bel5 HSO
     go_wp2_with fail
     go_ret
     refine ⟨u7, ss.mergeSort leZ, rfl, by rw [List.length_mergeSort]; exact H5.out.1, sorted_lt HE.out.2.1, fun x => ?_, H5.out.2⟩
     rw [(List.mergeSort_perm ss leZ).mem_iff]
     exact HE.out.1 x
    ·intro x c kl yd yp w4 cnt4 hkey hlk hv hat hrg4 hlt hg4 hs4 hen
     obtain ⟨x', ex, rfl, _⟩ := Maps.keyOf_i64 Tryz.underlying3 hkey
     obtain rfl : x = x' := by simpa using ex
     have own4 := own_iter hr2.out.2.2.2.1 hr2.out.1 hg4
     have bel4 : Below w.heap.size w w4 := hr2.out.2.2.2.2.grown hg4 hr2.out.2.2.2.2.size (fun j e => by cases e; exact H2.out.1.size)
     have hlt4 := hrg4.lt
     have hne : ∀ q, u7.ownBlock = some q -> q ≠ w.heap.size /\ q ≠ w2.heap.size := fun q e => own_apart own4 hrg4 q e
     have hse : Sees (w4.alloc (.cells #[.int .i64 x] 3)) 1 (some ⟨w4.heap.size, 0, none⟩) 1 [.int .i64 x] := ⟨rfl, fun _ => ⟨_, 0, rfl, fun j u hj => by
      match j with
      | 0 => rw [<- hj]; exact (Blk.new w4 3 #[.int .i64 x]).cell 0
      | j + 1 => cases hj⟩⟩
     have hst := hr2.out.2.2.1.step hlk hat
     have hcs := hr2.out.2.1
     have hle := hr2.out.1.left_eq
     have H4 := Lh (Ai own4 (Ai bel4 (Ai hrg4 (Ai hse hst))))
     have hbs4 := bel4.size
     clear own4 bel4 hse hst hs4 hat hkey hr2 hv hlk
     have hdone : Hid (∀ (v' : Value) (w5 : World), w5.ownsRow w.heap.size 3 1 v' (ss.length + 1) (i64s ss ++ [.int .i64 x]) -> (w4.alloc (.cells #[.int .i64 x] 3)).grownBy w5 u7.ownBlock ->
       w5.ranges Tryz.prog 3 (plainElem Tryz.prog 4) w.heap.size w2.heap.size k D (fun z => left z && !z.sameKey (.int .i64 x)) cnt4 /\ (ss ++ [x]).length + cnt4 <= Maps.size D /\ CollectedI D (fun z => left z && !z.sameKey (.int .i64 x)) (ss ++ [x]) /\ w5.ownsRow w.heap.size 3 1 v' (ss ++ [x]).length (i64s (ss ++ [x])) /\ Below w.heap.size w w5) := Lh (by
      intro v' w5 o1 o2
      have e1 : (ss ++ [x]).length = ss.length + 1 := by simp
      have e2 : i64s (ss ++ [x]) = i64s ss ++ [.int .i64 x] := by rw [i64s_append]; rfl
      rw [e1, e2]
      refine ⟨(H4.out.2.2.1.alloc _).kept o2 (fun e => (hne _ e.symm).1 rfl) (fun e => (hne _ e.symm).2 rfl), by omega, H4.out.2.2.2.2, o1, ?_⟩
      exact (H4.out.2.1.alloc hbs4 _).grown o2 (by simp; omega) (fun q e => (H4.out.1.lt q e).1))
     have own4 := H4.out.1
     have hse := H4.out.2.2.2.1
     go_wp2_with (at_builtin; refine wpList_app rfl (.tmp 46) (.tmp 48) _ rfl w.heap.size 3 _ 1 8 Tryz.underlying28 info_int8 rfl (by decide) u7 ss.length (i64s ss) rfl (own_below own4 ((Below.refl _ _).alloc (Nat.le_refl _) _)) (some ⟨w4.heap.size, 0, none⟩) 1 1 [.int .i64 x] rfl hse (by simp [Value.oneCell']) (by unfold maxLen; omega) (by omega) (by simp; omega) ?_; intro v' w5 o1 o2 o3 o4; have H5 := Lh (hdone.out v' w5 o1 o2); clear o1 o2 o3 o4)
     refine ⟨⟨_, cnt4, ss ++ [x], H5⟩, ?_⟩
     rw [H5.out.1.left_eq, hle]
     exact hlt
  ·rw [hi] at HIX
   replace HIX := Lh HIX
   have hroom := mkAt_room hmk
   rw [hr.out.len] at hroom
   obtain ⟨g, o, rfl, -⟩ := hr.out.sees.2 (by omega)
   have hcc := hr.out.cap
   have hi1 : IntKind.i64.wrap ((i : Int) + 1) = ((i + 1 : Nat) : Int) := by rw [show (i : Int) + 1 = ((i + 1 : Nat) : Int) by omega]; exact IntWalk.i64_in _ (by omega)
   have hs1 : ¬ c' = i + 1 := by omega
   have hs2 : ¬ (i : Int) < 0 := by omega
   have hs3 : ((i + 1 : Nat) : Int) <= (m : Int) := by omega
   have hs4 : (m : Int) <= (c' : Int) := by omega
   have hs5 : i + 1 <= m := by omega
   have hmk' := (mkAt_drop l off i).1 hmk
   have hno' : ∀ j, off <= j -> j < off + i -> ¬ mkAt l j := fun j h1 h2 hm => hno (j - off) (by omega) (by rw [mkAt_drop, show off + (j - off) = j by omega]; exact hm)
   have hst := fun x => names_step (x := x) (Nat.le_add_right off i) hno' hmk'
   have hlen := hr.out.len
   rw [List.length_drop] at hlen
   have HST := Lh (Ai hst hlen)
   clear hi hno hmk hmk' hno' hst hlen
   go_wp2_with fail
   refine HIX.out.mono ?_
   rintro e w2 ⟨rfl, q, hq⟩
   have hb2 : Below w.heap.size w w2 := HB1.out.2.trans (by rw [hq]; exact ⟨rfl, rfl, rfl, Nat.le_refl _, fun _ _ => rfl⟩)
   have hbr2 : Below wr.heap.size wr w2 := HB1.out.1.trans (by rw [hq]; exact ⟨rfl, rfl, rfl, Nat.le_refl _, fun _ _ => rfl⟩)
   obtain ⟨L, hL⟩ : ∃ L, L = l.drop (off + (i + 1)) := ⟨_, rfl⟩
   have hLl : L.length = m - (i + 1) := by rw [hL, List.length_drop]; have := HST.out.2; omega
   have hs9 : Sees w2 1 (some ⟨g, o + (i + 1), none⟩) (m - (i + 1)) (u8s L) := by
    have h6 := Sees.piece (hr.out.sees.below hbr2) (i + 1) (m - (i + 1)) (by omega)
    rw [<- u8s_drop, <- u8s_take, List.drop_drop, <- hL, List.take_of_length_le (by omega)] at h6
    exact h6
   have HOP := Lh (open_any L ⟨g, o + (i + 1), none⟩ (m - (i + 1)) (c' - (i + 1)) w2 hs9 hLl (by omega))
   have H2 := Lh (Ai hb2 (Ai hbr2 (Ai hs9 (Ai hL hLl))))
   have hz2 := hb2.size
   have hzr2 := hbr2.size
   clear hq hb2 hbr2 hs9 HIX HB1 hL
   go_wp2_with fail
   refine HOP.out.mono ?_
   rintro e w3 ⟨p, rfl, hE3, bel3⟩
   have hpa := pass_any w2.heap.size p 23 L w3 hE3 (by omega) (by omega) (by omega) bel3.size
   rw [show eyeL L 0 23 = L.drop 23 from if_pos ⟨rfl, by omega⟩, show eyeE L 0 23 = 0 from if_neg (by omega)] at hpa
   replace hpa := Lh hpa
   have H3 := Lh bel3
   clear hE3 bel3 HOP
   go_wp2_with fail
   refine hpa.out.mono ?_
   rintro e w4 ⟨⟨v4, rfl⟩, hE4, bel4⟩
   have H64 := e64_any w2.heap.size p 0 (L.drop 23) w4 hE4 (by omega) (by rw [List.length_drop]; omega)
   have H4 := Lh (H3.out.trans bel4)
   clear hE4 bel4 hpa
   obtain ⟨V, hV⟩ : ∃ V, V = eyeN (L.drop 23) 0 8 := ⟨_, rfl⟩
   obtain ⟨Z, hZ⟩ : ∃ Z, Z = eyeE (L.drop 23) 0 8 := ⟨_, rfl⟩
   rw [<- hV, <- hZ] at H64
   have HVZ := Lh (Ai hV hZ)
   have hVl : V < 18446744073709551616 := by rw [hV]; exact eyeN_lt _ _ 8
   obtain ⟨z, hz⟩ : ∃ z, IntKind.i64.wrap (V : Int) = z := ⟨_, rfl⟩
   have hzz : (V < 4096 /\ z = V) \/ (¬ V < 4096 /\ (z < 0 \/ 4096 <= z)) := by
    by_cases h4 : V < 4096
    ·exact .inl ⟨h4, by rw [<- hz]; exact IntWalk.i64_in _ (by omega)⟩
    ·refine .inr ⟨h4, ?_⟩
     rw [<- hz, IntKind.wrap_i64]
     omega
   replace H64 := Lh H64
   clear hV hZ
   go_wp2_with fail
   refine H64.out.mono ?_
   rintro e w5 ⟨rfl, hE5, bel5⟩
   have HER := Lh (eerr_any w2.heap.size p Z _ w5 hE5)
   have hb25 : Below w2.heap.size w2 w5 := H4.out.trans bel5
   have hm2 := map_below hr.out.owns H2.out.2.1
   have hm5 : w5.ownsMap Tryz.prog 3 (plainElem Tryz.prog 4) w.heap.size k D := map_keep hm2 (hb25.block _ hm2.lt)
   have hb5 : Below w.heap.size w w5 := H2.out.1.trans (hb25.mono hz2)
   have hs5' : Sees w5 1 (some ⟨g, o + (i + 1), none⟩) (m - (i + 1)) (u8s (l.drop (off + (i + 1)))) := by rw [<- H2.out.2.2.2.1]; exact H2.out.2.2.1.below hb25
   have HND := Lh (fun (w9 : World) (k9 : Nat) (D9 : DataW Unit) (q1 : w9.ownsMap Tryz.prog 3 (plainElem Tryz.prog 4) w.heap.size k9 D9) (q2 : k9 <= off + (i + 1)) (q3 : ∀ x : Int, Maps.has D9 (.int .i64 x) = true ↔ NamesTo l (off + (i + 1)) x) (q4 : Below w.heap.size w w9) (q5 : Sees w9 1 (some ⟨g, o + (i + 1), none⟩) (m - (i + 1)) (u8s (l.drop (off + (i + 1))))) =>
    (⟨q5, by rw [<- H2.out.2.2.2.1]; exact H2.out.2.2.2.2, by omega, (fun h => by cases h), by have := HST.out.2; omega, q1, q2, q3, q4, q1.lt⟩ : NmAt w w9 l (off + (i + 1)) (m - (i + 1)) (c' - (i + 1)) (some ⟨g, o + (i + 1), none⟩) k9 D9))
   have H5 := Lh (Ai hm5 (Ai hb5 hs5'))
   have hkk : k <= off + (i + 1) := by have := hr.out.few; omega
   have hkb : k <= 10000000 := by have := hr.out.few; have := hr.out.offl; omega
   have hpos : off + i + 1 = off + (i + 1) := by omega
   clear hE5 bel5 hb25 hm2 hm5 hb5 hs5' H64
   have hDl : (L.drop 23).length = m - (i + 24) := by rw [List.length_drop, H2.out.2.2.2.2]; omega
   have hLd : L.drop 23 = l.drop (off + i + 24) := by rw [H2.out.2.2.2.1, List.drop_drop]; first | rfl | (congr 1; omega)
   by_cases h8 : i + 32 <= m
   ·have hZ0 : Z = 0 := by rw [HVZ.out.2]; exact if_neg (by omega)
    subst hZ0
    have hVv : V = vl ((l.drop (off + i + 24)).take 8) := by rw [HVZ.out.1, eyeN, if_pos ⟨rfl, by omega⟩, hLd]
    have hll : off + i + 32 <= l.length := by have := HST.out.2; omega
    have HV := Lh (Ai hVv hll)
    clear hVv hll hDl hLd
    rcases hzz with ⟨hv4, hzV⟩ | ⟨hv4, hzn⟩
    ·subst hzV
     have hv4i : (V : Int) < 4096 := by omega
     have hkey : keyOf Tryz.prog 3 (.int .i64 (V : Int)) = some (.int .i64 (V : Int)) := keyOf_int_mk Tryz.underlying3 (WalkArith.wf_i64 (by omega))
     go_wp2_with fail
     refine HER.out.mono ?_
     rintro e w6 ⟨rfl, rfl⟩
     have hm6 := H5.out.1
     go_wp2_with (at_mapUpdate; refine wpList_mapUpdate_own _ rfl _ _ _ 75 rfl 3 4 lawI Tryz.underlying75 _ w.heap.size k D rfl hm6 (by unfold maxLen; omega) _ _ _ rfl rfl hkey _ [] (plainElem_bool Tryz.underlying4 true) ?_; intro w7 hown7 hgrow7)
     have H7 := Lh (HND.out w7 (k + 1) _ hown7 (by have := hr.out.few; omega) (fun x => by
      by_cases hx : x = (V : Int)
      ·subst hx
       rw [has_put_same hm6.isMap (by trivial)]
       refine ⟨fun _ => (HST.out.1 _).2 (.inr ⟨HV.out.2, by rw [<- HV.out.1]; exact hv4, by rw [<- HV.out.1]⟩), fun _ => rfl⟩
      ·rw [has_put_other (fun e => hx (by injection e)), hr.out.has x, <- hpos, HST.out.1 x]
       refine ⟨.inl, fun h => h.elim id (fun h => ?_)⟩
       rw [<- HV.out.1] at h
       exact absurd h.2.2 hx) (H5.out.2.1.grown hgrow7 H5.out.2.1.size (fun q e => by cases e; exact Nat.le_refl _)) (H5.out.2.2.fr (Fr.of_grown hgrow7 (F := (· = w.heap.size)) (fun q e => by injection e with e; exact e.symm)) (fun h0 a e hq => by
      injection e with e
      subst e
      exact sees_map H5.out.2.2 h0 hm6 hq)))
     clear hown7 hgrow7
     go_frame
     go_roundw
     case rel => exact ⟨off + (i + 1), m - (i + 1), c' - (i + 1), some ⟨g, o + (i + 1), none⟩, k + 1, _, rfl, by omega, H7⟩
     case measure => simp [slen]; omega
    ·have hno : Hid (NmAt w w5 l (off + (i + 1)) (m - (i + 1)) (c' - (i + 1)) (some ⟨g, o + (i + 1), none⟩) k D) := Lh (HND.out w5 k D H5.out.1 hkk (fun x => by
      rw [hr.out.has x, <- hpos, HST.out.1 x]
      refine ⟨.inl, fun h => h.elim id (fun h => ?_)⟩
      rw [<- HV.out.1] at h
      exact absurd h.2.1 hv4) H5.out.2.1 H5.out.2.2)
     rcases hzn with hzn | hzn
     ·have hzn' : ¬ 0 <= z := by omega
      go_wp2_with fail
      refine HER.out.mono ?_
      rintro e w6 ⟨rfl, rfl⟩
      go_wp2_with fail
      go_roundw
      case rel => exact ⟨off + (i + 1), m - (i + 1), c' - (i + 1), some ⟨g, o + (i + 1), none⟩, k, D, rfl, by omega, hno⟩
      case measure => simp [slen]; omega
     ·have hzn' : ¬ z < 4096 := by omega
      have hzn0 : 0 <= z := by omega
      go_wp2_with fail
      refine HER.out.mono ?_
      rintro e w6 ⟨rfl, rfl⟩
      go_wp2_with fail
      go_roundw
      case rel => exact ⟨off + (i + 1), m - (i + 1), c' - (i + 1), some ⟨g, o + (i + 1), none⟩, k, D, rfl, by omega, hno⟩
      case measure => simp [slen]; omega
   ·have hZ1 : Z = 10 := by rw [HVZ.out.2]; exact if_pos ⟨rfl, by omega⟩
    subst hZ1
    have hno : Hid (NmAt w w5 l (off + (i + 1)) (m - (i + 1)) (c' - (i + 1)) (some ⟨g, o + (i + 1), none⟩) k D) := Lh (HND.out w5 k D H5.out.1 hkk (fun x => by
     rw [hr.out.has x, <- hpos, HST.out.1 x]
     refine ⟨.inl, fun h => h.elim id (fun h => ?_)⟩
     have := HST.out.2
     omega) H5.out.2.1 H5.out.2.2)
    clear hzz hDl hLd
    go_wp2_with fail
    refine HER.out.mono ?_
    rintro e w6 ⟨rfl, rfl⟩
    go_wp2_with fail
    go_roundw
    case rel => exact ⟨off + (i + 1), m - (i + 1), c' - (i + 1), some ⟨g, o + (i + 1), none⟩, k, D, rfl, by omega, hno⟩
    case measure => simp [slen]; omega
end
end Go.Proofs.YtkgaeoeibjoljaaGreatDoor
