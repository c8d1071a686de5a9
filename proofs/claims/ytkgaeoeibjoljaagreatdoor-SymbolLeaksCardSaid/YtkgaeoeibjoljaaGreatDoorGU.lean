/-
  A function of the library at this program: what the library's own contract asks, laid by its own tool in plain words.
  slices.Compact of ascending ints.
  All octets that there are, of a disk on which nothing waits.
  All octets that there are, of any disk.
-/
import Derived.Shelf.Slices.CompactI
import Derived.Test.YtkgaeoeibjoljaaGreatDoorProg
import Derived.Test.YtkgaeoeibjoljaaGreatDoorGT
import Derived.Test.YtkgaeoeibjoljaaGreatDoorGJ
import Derived.Test.YtkgaeoeibjoljaaGreatDoorGD
namespace Go.Proofs.YtkgaeoeibjoljaaGreatDoor
section
open Go.Shelf
def compRen : Go.Shelf.Ren := ⟨fun | 20 => 65 | n => n, fun | 22 => 28 | 3 => 3 | 4 => 4 | 0 => 0 | n => n, fun | n => n⟩
theorem compLays : Lays2.n20 Tryz.prog compRen := {
 mixed := by kernel_rfl
 f20 := Tryz.func65.trans (congrArg some (by kernel_rfl))
 t0 := Tryz.underlying0
 a0 := Tryz.isAgg0
 z0 := Tryz.sizeOf0
 v0 := Tryz.zeroValue0
 t3 := Tryz.underlying3
 a3 := Tryz.isAgg3
 z3 := Tryz.sizeOf3
 v3 := Tryz.zeroValue3
 t4 := Tryz.underlying4
 a4 := Tryz.isAgg4
 z4 := Tryz.sizeOf4
 v4 := Tryz.zeroValue4
 t22 := Tryz.underlying28
 a22 := Tryz.isAgg28
 z22 := Tryz.sizeOf28
 v22 := Tryz.zeroValue28
 i3 := by kernel_rfl }
end
section
set_option maxRecDepth 4000
open Go.RowKit Go.Shelf
theorem compact_inv (zs : List Int) (hs : zs.Pairwise (· <= ·)) : ∀ m, m <= zs.length ->
  (Lib.compactUpTo zs.toArray m).Pairwise (· < ·) /\ (∀ x ∈ Lib.compactUpTo zs.toArray m, ∃ (j : Nat) (hj : j < zs.length), j < m /\ x = zs[j]) /\ (∀ (j : Nat) (hj : j < zs.length), j < m -> zs[j] ∈ Lib.compactUpTo zs.toArray m)
 | 0, _ => ⟨.nil, (fun x hx => by simp [Lib.compactUpTo] at hx), fun j hj h => by omega⟩
 | m + 1, hm => by
  obtain ⟨i1, i2, i3⟩ := compact_inv zs hs m (by omega)
  have hle : ∀ (i j : Nat) (hi : i < zs.length) (hj : j < zs.length), i <= j -> zs[i] <= zs[j] := fun i j hi hj hij => by
   rcases Nat.lt_or_ge i j with h | h
   ·exact List.pairwise_iff_getElem.1 hs i j hi hj h
   ·obtain rfl : i = j := by omega
    exact Int.le_refl _
  have hget : zs.toArray[m]! = zs[m] := by rw [getElem!_pos zs.toArray m (by simp; omega)]; simp
  rw [Lib.compactUpTo_succ, hget]
  by_cases h0 : m = 0
  ·subst h0
   rw [Lib.keeps_lt_one _ 0 (by omega), if_pos rfl]
   refine ⟨by simp [Lib.compactUpTo], fun x hx => ?_, fun j hj h => ?_⟩
   ·simp [Lib.compactUpTo] at hx
    exact ⟨0, by omega, by omega, hx⟩
   ·obtain rfl : j = 0 := by omega
    simp
  ·have hpos : 0 < m := by omega
   have hget1 : zs.toArray[m - 1]! = zs[m - 1] := by rw [getElem!_pos zs.toArray (m - 1) (by simp; omega)]; simp
   by_cases he : zs[m] = zs[m - 1]
   ·rw [Lib.keeps_neg hpos (by rw [hget, hget1]; exact he), if_neg (by decide), List.append_nil]
    refine ⟨i1, fun x hx => ?_, fun j hj h => ?_⟩
    ·obtain ⟨j, hj, h1, h2⟩ := i2 x hx
     exact ⟨j, hj, by omega, h2⟩
    ·rcases Nat.lt_or_ge j m with h' | h'
     ·exact i3 j hj h'
     ·obtain rfl : j = m := by omega
      rw [he]
      exact i3 (j - 1) (by omega) (by omega)
   ·rw [Lib.keeps_pos (by rw [hget, hget1]; exact he), if_pos rfl]
    refine ⟨List.pairwise_append.2 ⟨i1, by simp, fun x hx y hy => ?_⟩, fun x hx => ?_, fun j hj h => ?_⟩
    ·obtain rfl := List.mem_singleton.1 hy
     obtain ⟨j, hj, h1, rfl⟩ := i2 x hx
     have h2 := hle j (m - 1) hj (by omega) (by omega)
     have h3 := hle (m - 1) m (by omega) (by omega) (by omega)
     omega
    ·rcases List.mem_append.1 hx with hx | hx
     ·obtain ⟨j, hj, h1, h2⟩ := i2 x hx
      exact ⟨j, hj, by omega, h2⟩
     ·exact ⟨m, by omega, by omega, List.mem_singleton.1 hx⟩
    ·rcases Nat.lt_or_ge j m with h' | h'
     ·exact List.mem_append_left _ (i3 j hj h')
     ·obtain rfl : j = m := by omega
      exact List.mem_append_right _ (List.mem_singleton.2 rfl)
theorem compact_law (zs : List Int) (hs : zs.Pairwise (· <= ·)) : (Lib.compact zs).Pairwise (· < ·) /\ (∀ x, x ∈ Lib.compact zs ↔ x ∈ zs) := by
 obtain ⟨h1, h2, h3⟩ := compact_inv zs hs zs.length (Nat.le_refl _)
 refine ⟨h1, fun x => ⟨fun hx => ?_, fun hx => ?_⟩⟩
 ·obtain ⟨j, hj, _, rfl⟩ := h2 x hx
  exact List.getElem_mem _
 ·obtain ⟨j, hj, rfl⟩ := List.mem_iff_getElem.1 hx
  exact h3 j hj hj
theorem pairwise_few : ∀ {l : List Int} {a : Int} {n : Nat}, l.Pairwise (· < ·) -> (∀ x ∈ l, a <= x /\ x < a + n) -> l.length <= n
 | [], _, _, _, _ => Nat.zero_le _
 | x :: t, a, n, h, hb => by
  have hx := hb x List.mem_cons_self
  have hp := List.pairwise_cons.1 h
  have := pairwise_few (l := t) (a := a + 1) (n := n - 1) hp.2 (fun y hy => by
   have h1 := hp.1 y hy
   have h2 := hb y (List.mem_cons_of_mem _ hy)
   omega)
  rw [List.length_cons]
  omega
theorem icompact_any (zs : List Int) (v : Value) (base : Nat) (w : World) (h : w.ownsRow base 3 1 v zs.length (i64s zs)) (hl : zs.length <= 100000000) (hs : zs.Pairwise (· <= ·)) :
  Calls Tryz.prog 65 #[v] w fun e w' => ∃ (u : Value) (ss : List Int), e = .returned u /\ w'.ownsRow base 3 1 u ss.length (i64s ss) /\ ss.Pairwise (· < ·) /\ (∀ x, x ∈ ss ↔ x ∈ zs) /\ Below base w w' := by
 by_cases h0 : zs.length = 0
 ·obtain rfl := List.eq_nil_of_length_eq_zero h0
  obtain ⟨A, c, rfl⟩ := own_shape h
  have hcon := Any.slices_Compact_int_empty compLays A c w
  change Calls Tryz.prog 65 _ _ _ at hcon
  refine hcon.mono ?_
  rintro e w' ⟨rfl, rfl⟩
  exact ⟨_, [], rfl, h, .nil, fun _ => Iff.rfl, Below.refl _ _⟩
 ·obtain ⟨g, c, cur, rfl, hbg, hg, hnc, hcm, hcs, htk⟩ := own_open h (Nat.pos_of_ne_zero h0)
  have hcon := Any.slices_Compact_int compLays g 0 c zs w (holds_int rfl h) (by omega) hnc
  change Calls Tryz.prog 65 _ _ _ at hcon
  refine hcon.mono ?_
  rintro e w' ⟨rfl, q, rfl⟩
  obtain ⟨c1, c2⟩ := compact_law zs hs
  have hle : (Lib.compact zs).length <= zs.length := by
   show (((List.range zs.length).filter _).map _).length <= _
   rw [List.length_map]
   exact Nat.le_trans (List.length_filter_le _ _) (by simp)
  obtain ⟨K, hK⟩ : ∃ K, K = Lib.compact zs := ⟨_, rfl⟩
  rw [<- hK] at hle c1 c2 ⊢
  have := putI_world (m := q) (os := #[]) rfl (Nat.pos_of_ne_zero h0) (d := K ++ List.replicate (zs.length - K.length) 0) (by simp; omega) h
  rw [Go.Sort.grow_empty] at this
  refine ⟨_, K, rfl, ?_, c1, c2, this.2⟩
  obtain ⟨g', cap', cur', hv, q1, q2, q3, q4, q5, q6⟩ := own_open this.1 (Nat.pos_of_ne_zero h0)
  injection hv with hv _ hc
  injection hv with hv
  injection hv with hv _ _
  subst hv hc
  refine own_mk q1 q2 (by omega) q4 q5 ?_
  have := congrArg (List.take (K.length * 1)) q6
  rw [List.take_take, Nat.min_eq_left (by omega)] at this
  rw [this]
  unfold i64s
  rw [List.map_append, List.take_left' (by simp)]
end
section
set_option maxRecDepth 4000
open Go.RowKit
theorem info_bytes : (Tryz.prog.info? 22).map (fun i => (i.zero, i.size, i.bytes)) = some (some (.slice none 0 0), 1, 24) := by kernel_rfl
structure RowsAt (w wr : World) (v : Value) (ps : List Pt) (L : List (List UInt8)) : Prop where
 row : wr.ownsRow w.heap.size 22 1 v ps.length (ps.map Pt.val)
 each : ∀ p ∈ ps, wr.ownsRow w.heap.size 5 1 p.val p.n (u8s p.l) /\ p.l.length = p.n
 data : ps.map (·.l) = L
 bel : Below w.heap.size w wr
theorem RowsAt.pts {w wr : World} {v : Value} {ps : List Pt} {L : List (List UInt8)} (h : RowsAt w wr v ps L) : Pts wr ps := fun p hp => ⟨Sees.of_own (h.each p hp).1, (h.each p hp).2⟩
theorem RowsAt.below {w wr w' : World} {v : Value} {ps : List Pt} {L : List (List UInt8)} (h : RowsAt w wr v ps L) (hb : Below wr.heap.size wr w') : RowsAt w w' v ps L :=
 ⟨own_below h.row hb, fun p hp => ⟨own_below (h.each p hp).1 hb, (h.each p hp).2⟩, h.data, h.bel.trans (hb.mono h.bel.size)⟩
end
section
set_option maxRecDepth 4000
open Go.RowKit
set_option maxHeartbeats 1000000 in
theorem all_any (b : Nat) (F : Nat -> Prop) (D : Dk) (w : World) (hD : DiskAt w b F D) (hok : D.Ok) (hq : D.queue.length <= 1000000) :
  Calls Tryz.prog 62 #[.pointer (some ⟨b, 0, none⟩)] w fun e w' => ∃ v ps, e = .returned v /\ RowsAt w w' v ps ((List.range D.size).map (sect D.safe) ++ D.queue.map (·.2)) := by
 obtain ⟨s, sc, cur, qA, qc, Q, ⟨h1, h2⟩, ⟨h3, h4, h5, h5a, h5b, h5c⟩, ⟨h6, h7⟩, h8, h9⟩ := hD
 have hQl : Q.length <= 1000000 := by rw [h9, List.length_map] at hq; exact hq
 have HQ := Lh (Ai h6 h8)
 have hdat : D.queue.map (·.2) = Q.map (·.l) := by rw [h9, List.map_map]; rfl
 rw [hdat]
 have hn : D.safe.length = D.size * 128 := by have := hok.whole; unfold Dk.size; omega
 obtain ⟨n, hn0⟩ : ∃ n, n = D.size := ⟨_, rfl⟩
 have hmost := hok.most
 obtain ⟨N, hN⟩ : ∃ N, N = D.safe.length := ⟨_, rfl⟩
 have hsee : Sees w 1 (some ⟨s, 0, none⟩) N (u8s D.safe) := by rw [hN]; exact Sees.of_own (own_mk (base := 0) (Nat.zero_le _) h3 h5 h5a (by omega) (by simpa using h5c))
 have hpc : ∀ j, j < n -> ((u8s D.safe).drop (j * 128)).take 128 = u8s (sect D.safe j) /\ (sect D.safe j).length = 128 := fun j hj => ⟨by rw [<- u8s_drop, <- u8s_take]; rfl, length_sect _ _ (by omega)⟩
 rw [<- hn0] at hn ⊢
 rw [<- hN] at h1 h5 hn hmost
 have H := Lh (Ai h1 (Ai hsee hpc))
 have HP := Lh (fun j w (hj : j < n) => part_any s 0 N sc (j : Nat) w h5 h5a (by omega) (by omega))
 have HSZ := Lh (fun w h => size_any b (some ⟨s, 0, none⟩) N sc w (by unfold maxLen; omega) h)
 have hnd : N / 128 = n := by omega
 rw [hnd] at HSZ
 clear hnd
 have HNN := Lh hn
 have hn64 : n <= 65536 := by omega
 generalize sect D.safe = f at *
 clear h1 h2 h3 h4 h5 h5a h5b h5c h6 h7 h8 h9 hok hq hsee hpc hn0 hN hn hdat
 have c0 : w.cell? ⟨b, 0, none⟩ = some (.slice (some ⟨s, 0, none⟩) N sc) := H.out.1.cell 0
 have HSX := Lh (HSZ.out w c0)
 go_enter Tryz.func62, Tryz.ntmps62
 go_wp2_with fail
 refine HSX.out.mono ?_
 rintro e w' ⟨rfl, rfl⟩
 clear c0
 go_wp2_with fail
 go_loopw [3, 9] (fun v i wr => ∃ (j : Nat) (ps : List Pt), i = .int .i64 j /\ j <= n /\ ps.length = j /\ Hid (RowsAt w wr v ps ((List.range j).map f))) (fun _ i _ => n - (intOf i).toNat)
 case atStart => exact ⟨0, [], rfl, Nat.zero_le _, rfl, Lh ⟨World.ownsRow_nil _ _ _ _, (fun p hp => by cases hp), rfl, Below.refl _ _⟩⟩
 case round =>
  obtain ⟨j, ps, rfl, hj, hpl, hr⟩ := hrel
  replace hpl := Lh hpl
  obtain ⟨A1, c1, rfl⟩ := own_shape hr.out.row
  by_cases hlt : j < n
  ·have hlti : (j : Int) < (n : Int) := by omega
   have c0 : wr.cell? ⟨b, 0, none⟩ = some (.slice (some ⟨s, 0, none⟩) N sc) := (H.out.1.below hr.out.bel H.out.1.lt).cell 0
   have HPX := Lh (HP.out j wr hlt)
   go_wp2_with fail
   refine HPX.out.mono ?_
   rintro e w' ⟨⟨c', hc1, hc2, rfl⟩, rfl⟩
   have hS := (H.out.2.1.below hr.out.bel).piece (j * 128) 128 (by have := HNN.out; omega)
   rw [(H.out.2.2 j hlt).1] at hS
   rw [Nat.zero_add] at hS ⊢
   have HC := Lh (clone_any ⟨s, j * 128, none⟩ 128 c' _ wr hS (u8s_one _) (by omega))
   clear hS c0 HPX
   go_wp2_with fail
   refine HC.out.mono ?_
   rintro e w2 ⟨v2, rfl, ho2, hb2⟩
   obtain ⟨A2, c2, rfl⟩ := own_shape ho2
   have HR2 := Lh (hr.out.below hb2)
   have HO2 := Lh (own_base (base' := w.heap.size) ho2 hr.out.bel.size)
   have hz2 := HR2.out.bel.size
   clear hr ho2 hb2 HC
   go_wp2_with (at_builtin; refine wpList_app rfl (.tmp 12) (.tmp 20) _ rfl w.heap.size 22 _ 1 24 Tryz.underlying115 info_bytes rfl (by decide) _ ps.length _ rfl (own_below HR2.out.row ((Below.refl _ _).alloc (Nat.le_refl _) _)) (some ⟨w2.heap.size, 0, none⟩) 1 _ [.slice A2 128 c2] rfl (sees_new w2 _ [.slice A2 128 c2] 1 1 rfl) (by simp [Value.oneCell']) (by have := hpl.out; unfold maxLen; omega) (by have := hpl.out; omega) (by simp; omega) ?_; intro v1 w1 hown1 hgr1 hat1 hnil1; have HG1 := Lh (Ai hown1 hgr1); clear hown1 hgr1 hat1 hnil1)
   have hgr := HG1.out.2
   have hal2 : Below w2.heap.size w2 (w2.alloc (.cells #[.slice A2 128 c2] 22)) := (Below.refl _ _).alloc (Nat.le_refl _) _
   have hkeep : ∀ v n xs, w2.ownsRow w.heap.size 5 1 v n xs -> w1.ownsRow w.heap.size 5 1 v n xs := fun v n xs h => own_fr (own_below h hal2) (Fr.of_grown hgr (fun k h => h)) (own_ne2 (own_below h hal2) (own_below HR2.out.row hal2) (by decide))
   have hnew : RowsAt w w1 v1 (ps ++ [⟨A2, 128, c2, f j⟩]) ((List.range (j + 1)).map f) := by
    refine ⟨?_, fun p hp => ?_, ?_, ?_⟩
    ·rw [List.length_append, List.map_append]
     exact HG1.out.1
    ·rcases List.mem_append.1 hp with hp | hp
     ·obtain ⟨h1, h2⟩ := HR2.out.each p hp
      exact ⟨hkeep _ _ _ h1, h2⟩
     ·obtain rfl := List.mem_singleton.1 hp
      exact ⟨hkeep _ _ _ HO2.out, (H.out.2.2 j hlt).2⟩
    ·rw [List.map_append, HR2.out.data, List.range_succ, List.map_append]
     rfl
    ·exact (HR2.out.bel.trans (hal2.mono hz2)).grown hgr (by simp; omega) (fun k hk => (HR2.out.row.lt k hk).1)
   have HNEW := Lh hnew
   clear hnew hkeep
   refine ⟨⟨j + 1, _, by go_num, by omega, by rw [List.length_append, hpl.out]; rfl, HNEW⟩, ?_⟩
   simp [intOf]; omega
  ·obtain rfl : j = n := by omega
   have c1' : wr.cell? ⟨b, 1, none⟩ = some (.slice qA Q.length qc) := (H.out.1.below hr.out.bel H.out.1.lt).cell 1
   have HR1 := Lh (Ai hr.out hpl.out)
   clear hr hpl
   go_wp2_with fail
   go_loopw [3, 28] (fun v i wr => ∃ (k : Nat) (ps : List Pt), i = .int .i64 k /\ k <= Q.length /\ Hid (ps.length = j + k /\ RowsAt w wr v ps ((List.range j).map f ++ (Q.take k).map (·.l)))) (fun _ i _ => Q.length - (intOf i).toNat)
   case atStart => exact ⟨0, ps, rfl, Nat.zero_le _, Lh ⟨HR1.out.2, by rw [List.take_zero, List.map_nil, List.append_nil]; exact HR1.out.1⟩⟩
   case round =>
    obtain ⟨k, ps, rfl, hk, hr⟩ := hrel
    obtain ⟨A1, c1, rfl⟩ := own_shape hr.out.2.row
    by_cases hlt : k < Q.length
    ·obtain ⟨qg, qcap, qcur, hqe, hqb, hqblk, hq1, hq2, hq3, hq4⟩ := own_open HQ.out.1 (by omega)
     obtain rfl : qA = some ⟨qg, 0, none⟩ := by injection hqe
     have hlti : (k : Int) < (Q.length : Int) := by omega
     obtain ⟨q, hqk⟩ : ∃ q, Q[k]? = some q := ⟨_, List.getElem?_eq_getElem hlt⟩
     have hk0 := flatMap_get Qe.cells 2 (fun _ => rfl) Q k 0 q hqk (by decide)
     have hk1 := flatMap_get Qe.cells 2 (fun _ => rfl) Q k 1 q hqk (by decide)
     have e0 := (hr.out.2.bel.cell (p := ⟨qg, k * 2, none⟩) hqblk.lt).trans (own_cell HQ.out.1 (j := k * 2) hk0)
     have e1 := (hr.out.2.bel.cell (p := ⟨qg, k * 2 + 1, none⟩) hqblk.lt).trans (own_cell HQ.out.1 (j := k * 2 + 1) hk1)
     have h8q := HQ.out.2 q (List.mem_of_getElem? hqk)
     have hsq : Sees wr 1 (some ⟨q.g, 0, none⟩) 128 (u8s q.l) := (Sees.of_own h8q.1).below hr.out.2.bel
     have HK := Lh (Ai hqk (Ai hsq h8q.2.2.2.1))
     clear hqe hqb hqblk hq1 hq2 hq3 hq4 hqk hk0 hk1 h8q hsq
     obtain ⟨W, hW⟩ : ∃ W, W = wr.alloc (.cells #[.int .i64 q.at_, .slice (some ⟨q.g, 0, none⟩) 128 q.cap] 164) := ⟨_, rfl⟩
     have hbW : Below wr.heap.size wr W := hW ▸ (Below.refl _ _).alloc (Nat.le_refl _) _
     have nW : W.cell? ⟨wr.heap.size, 1, none⟩ = some (.slice (some ⟨q.g, 0, none⟩) 128 q.cap) := hW ▸ (Blk.new wr 164 #[.int .i64 q.at_, .slice (some ⟨q.g, 0, none⟩) 128 q.cap]).cell 1
     have HC := Lh (clone_any ⟨q.g, 0, none⟩ 128 q.cap (u8s q.l) W (HK.out.2.1.below hbW) (u8s_one _) (by omega))
     rw [hW] at HC
     have HRW := Lh (Ai (hr.out.2.below hbW) hr.out.1)
     rw [hW] at HRW
     clear hr hbW nW hW
     go_wp2_with fail
     refine HC.out.mono ?_
     rintro e w2 ⟨v2, rfl, ho2, hb2⟩
     obtain ⟨A2, c2, rfl⟩ := own_shape ho2
     have HR2 := Lh (HRW.out.1.below hb2)
     have HO2 := Lh (own_base (base' := w.heap.size) ho2 HRW.out.1.bel.size)
     have hz2 := HR2.out.bel.size
     clear ho2 hb2 HC
     go_wp2_with (at_builtin; refine wpList_app rfl (.tmp 32) (.tmp 36) _ rfl w.heap.size 22 _ 1 24 Tryz.underlying115 info_bytes rfl (by decide) _ ps.length _ rfl (own_below HR2.out.row ((Below.refl _ _).alloc (Nat.le_refl _) _)) (some ⟨w2.heap.size, 0, none⟩) 1 _ [.slice A2 128 c2] rfl (sees_new w2 _ [.slice A2 128 c2] 1 1 rfl) (by simp [Value.oneCell']) (by have := HRW.out.2; unfold maxLen; omega) (by have := HRW.out.2; omega) (by simp; omega) ?_; intro v1 w1 hown1 hgr1 hat1 hnil1; have HG1 := Lh (Ai hown1 hgr1); clear hown1 hgr1 hat1 hnil1)
     have hgr := HG1.out.2
     have hal2 : Below w2.heap.size w2 (w2.alloc (.cells #[.slice A2 128 c2] 22)) := (Below.refl _ _).alloc (Nat.le_refl _) _
     have hkeep : ∀ v n xs, w2.ownsRow w.heap.size 5 1 v n xs -> w1.ownsRow w.heap.size 5 1 v n xs := fun v n xs h => own_fr (own_below h hal2) (Fr.of_grown hgr (fun k h => h)) (own_ne2 (own_below h hal2) (own_below HR2.out.row hal2) (by decide))
     have hnew : RowsAt w w1 v1 (ps ++ [⟨A2, 128, c2, q.l⟩]) ((List.range j).map f ++ (Q.take (k + 1)).map (·.l)) := by
      refine ⟨?_, fun p hp => ?_, ?_, ?_⟩
      ·rw [List.length_append, List.map_append]
       exact HG1.out.1
      ·rcases List.mem_append.1 hp with hp | hp
       ·obtain ⟨h1, h2⟩ := HR2.out.each p hp
        exact ⟨hkeep _ _ _ h1, h2⟩
       ·obtain rfl := List.mem_singleton.1 hp
        exact ⟨hkeep _ _ _ HO2.out, HK.out.2.2⟩
      ·rw [List.map_append, HR2.out.data, List.take_add_one, HK.out.1, List.map_append, List.append_assoc]
       rfl
      ·exact (HR2.out.bel.trans (hal2.mono hz2)).grown hgr (by simp; omega) (fun k hk => (HR2.out.row.lt k hk).1)
     have HNEW := Lh (Ai (show (ps ++ [(⟨A2, 128, c2, q.l⟩ : Pt)]).length = j + (k + 1) by rw [List.length_append, HRW.out.2]; simp; omega) hnew)
     clear hnew hkeep
     refine ⟨⟨k + 1, ps ++ [⟨A2, 128, c2, q.l⟩], by go_num, by omega, HNEW⟩, ?_⟩
     simp [intOf]; omega
    ·obtain rfl : k = Q.length := by omega
     have hge : ¬ ((Q.length : Int) < (Q.length : Int)) := by omega
     go_wp2_with fail
     go_ret
     have h9 := hr.out.2
     rw [List.take_length] at h9
     first | exact ⟨_, ps, rfl, h9⟩ | exact ⟨_, rfl, ps, h9⟩
end
end Go.Proofs.YtkgaeoeibjoljaaGreatDoor
