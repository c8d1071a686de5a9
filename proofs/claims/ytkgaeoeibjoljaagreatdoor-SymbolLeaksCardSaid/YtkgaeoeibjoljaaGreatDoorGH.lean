/-
  Crash.
  Keys on a disk, as plain law: a key's octets are read back; a slot's two copies.
  In a region that draws its order: a whole row is loaded.
  take: a slot's sectors are looked at.
-/
import Derived.Test.YtkgaeoeibjoljaaGreatDoorGD
import Derived.Test.YtkgaeoeibjoljaaGreatDoorGG
import Derived.Test.YtkgaeoeibjoljaaGreatDoorGA
import Derived.Deep.MidRow
namespace Go.Proofs.YtkgaeoeibjoljaaGreatDoor
section
set_option maxRecDepth 4000
open Go.RowKit
def crashF (q : List (Nat × List UInt8)) (st : List UInt8 × List Int) (k : Int) : List UInt8 × List Int :=
 match q[k.toNat]? with
 | some x => if 0 <= k /\ k ∉ st.2 then (put st.1 x, st.2 ++ [k]) else st
 | none => st
theorem crash_skip (q : List (Nat × List UInt8)) (st : List UInt8 × List Int) (k : Int) (h : k < 0 \/ (q.length : Int) <= k \/ k ∈ st.2) : crashF q st k = st := by
 unfold crashF
 cases hx : q[k.toNat]? with
 | none => rfl
 | some x =>
  have := (List.getElem?_eq_some_iff.1 hx).1
  exact if_neg (fun hh => by rcases h with h | h | h; omega; omega; exact hh.2 h)
theorem crash_do (q : List (Nat × List UInt8)) (st : List UInt8 × List Int) (k : Int) (x : Nat × List UInt8) (h0 : 0 <= k) (h1 : k ∉ st.2) (hx : q[k.toNat]? = some x) : crashF q st k = (put st.1 x, st.2 ++ [k]) := by
 unfold crashF
 rw [hx]
 exact if_pos ⟨h0, h1⟩
def crashS (D : Dk) (keep : List Int) : List UInt8 × List Int := keep.foldl (crashF D.queue) (D.safe, [])
def Dk.crashed (D : Dk) (keep : List Int) : Dk := { safe := (crashS D keep).1, queue := [], calls := -1 }
theorem crash_length (D : Dk) (hok : D.Ok) (keep : List Int) : (crashS D keep).1.length = D.safe.length := by
 suffices h : ∀ (l : List Int) (st : List UInt8 × List Int), st.1.length = D.safe.length -> (l.foldl (crashF D.queue) st).1.length = D.safe.length from h keep _ rfl
 intro l
 induction l with
 | nil => intro st h; exact h
 | cons k l ih =>
  intro st h
  refine ih _ ?_
  unfold crashF
  split
  ·rename_i x hx
   split
   ·have := hok.fits x (List.mem_of_getElem? hx)
    show (put st.1 x).length = _
    rw [length_put _ _ this.1 (by rw [h]; exact this.2), h]
   ·exact h
  ·exact h
theorem Dk.Ok.crashed {D : Dk} (h : D.Ok) (keep : List Int) : (D.crashed keep).Ok := by
 have hl : (D.crashed keep).safe.length = D.safe.length := crash_length D h keep
 exact ⟨by rw [hl]; exact h.whole, by rw [hl]; exact h.pos, by rw [hl]; exact h.most, (fun q hq => by cases hq), by simp [Dk.crashed], by simp [Dk.crashed]⟩
theorem DiskParts.poke {w w' : World} {b : Nat} {F : Nat -> Prop} {D : Dk} {s sc : Nat} {cur : Array Value} {qA : Option Addr} {qc : Nat} {Q : List Qe}
  (h : DiskParts w b F D s sc cur qA qc Q) (q : Qe) (hq : q ∈ Q) (hB : Blk w' s 5 (splice cur.toList (q.at_ * 128) ((u8s q.l).take 128)).toArray) (hf : Fr (· = s) w w') :
  DiskAt w' b F { D with safe := put D.safe q.data } := by
 obtain ⟨⟨h1, h2⟩, ⟨h3, h4, h5, h5a, h5b, h5c⟩, ⟨h6, h7⟩, h8, h9⟩ := h
 obtain ⟨-, -, -, hl, hfit⟩ := h8 q hq
 have hlp : (put D.safe q.data).length = D.safe.length := length_put _ _ hl hfit
 have htk : (u8s q.l).take 128 = u8s q.l := List.take_of_length_le (by simp; omega)
 rw [htk] at hB
 refine ⟨s, sc, _, qA, qc, Q, ⟨by rw [hlp]; exact h1.fr hf (fun h => h3.same h1 (by decide) h.symm), h2⟩, ⟨hB, h4, by rw [hlp]; exact h5, h5a, ?_, ?_⟩,
  ⟨own_fr h6 hf (fun g hg => own_ne h6 h3 (by decide) g hg), h7⟩, fun q' hq' => ?_, h9⟩
 ·have := length_splice cur.toList (q.at_ * 128) (u8s q.l) (by simp; omega)
  simp at this ⊢
  omega
 ·rw [hlp, List.toList_toArray, take_splice _ _ _ _ (by simp; omega), h5c, <- u8s_splice]
  rfl
 ·obtain ⟨a1, a2, a3, a4, a5⟩ := h8 q' hq'
  refine ⟨own_fr a1 hf (fun g hg => ?_), a2, a3, a4, by rw [hlp]; exact a5⟩
  simp [Value.ownBlock] at hg
  subst hg
  exact a3
theorem lookup_seen (seen : List Int) (k : Int) : (seen.map fun x => (x, Value.bool true)).lookup k = if k ∈ seen then some (.bool true) else none := by
 induction seen with
 | nil => simp
 | cons x l ih =>
  simp only [List.map_cons, List.lookup]
  by_cases h : k = x
  ·subst h; simp
  ·have hb : (k == x) = false := by simpa using h
   simp [hb, ih, h]
def CrashAt (w wr : World) (b mb : Nat) (F : Nat -> Prop) (D : Dk) (keep : List Int) (j : Nat) : Prop :=
 IMap wr mb .i64 ((crashS D (keep.take j)).2.map fun x => (x, Value.bool true)) /\ DiskAt wr b F { D with safe := (crashS D (keep.take j)).1 } /\ Fr (fun k => F k) w wr
theorem crash_step (D : Dk) (keep : List Int) (j : Nat) (k : Int) (hk : keep[j]? = some k) : crashS D (keep.take (j + 1)) = crashF D.queue (crashS D (keep.take j)) k := by
 unfold crashS
 rw [List.take_add_one, hk, Option.toList_some, List.foldl_append]
 rfl
set_option maxHeartbeats 1000000 in
theorem crash_any (b : Nat) (F : Nat -> Prop) (D : Dk) (A : Option Addr) (n c : Nat) (keep : List Int) (w : World) (hD : DiskAt w b F D) (hok : D.Ok) (hlen : keep.length = n) (hn : n <= maxLen) (hqn : D.queue.length <= 1099511627776)
  (hS : Sees w 1 A n (keep.map (Value.int .i64))) (hA : 0 < n -> ∀ a, A = some a -> ¬ F a.block) :
  Calls Tryz.prog 57 #[.pointer (some ⟨b, 0, none⟩), .slice A n c] w fun e w' => e = .returned (.int .i64 (crashS D keep).2.length) /\ DiskTo w b F (D.crashed keep) w' := by
 unfold maxLen at hn
 obtain ⟨F0, hF0⟩ : ∃ F0 : Nat -> Prop, F0 = fun k => F k /\ k < w.heap.size := ⟨_, rfl⟩
 have hD0 : DiskAt w b F0 D := by rw [hF0]; exact hD.restrict
 have hF0F : ∀ k, F0 k -> F k /\ k < w.heap.size := fun k hk => by rw [hF0] at hk; exact hk
 have HF0 := Lh hF0; clear hF0
 have HL := Lh hlen; clear hlen
 have hmm := @run_makeMap Tryz.prog
 obtain ⟨mb, hmb⟩ : ∃ mb, mb = w.heap.size := ⟨_, rfl⟩
 have hstart : CrashAt w (w.alloc (.map #[] 0)) b w.heap.size F0 D keep 0 := ⟨by simpa [crashS] using IMap.new w .i64, by simpa [crashS] using hD0.below ((Below.refl _ _).alloc (Nat.le_refl _) _), Fr.alloc _ _ _⟩
 go_enter Tryz.func57, Tryz.ntmps57
 go_wp2_with fail
 go_loopw [11] (fun i wr => ∃ j : Nat, j <= n /\ i = .int .i64 j /\ CrashAt w wr b w.heap.size F0 D keep j) (fun i _ => n - (intOf i).toNat)
 case atStart => exact ⟨0, Nat.zero_le _, rfl, hstart⟩
 case round =>
  obtain ⟨j, hj, rfl, hM, hD1, hF1⟩ := hrel
  have HST := Lh hstart; clear hstart
  by_cases hlt : j < n
  ·have hlti : (j : Int) < (n : Int) := by omega
   obtain ⟨kg, ko, rfl, hcs⟩ := hS.2 (by omega)
   obtain ⟨k, hk⟩ : ∃ k, keep[j]? = some k := ⟨_, List.getElem?_eq_getElem (by rw [HL.out]; exact hlt)⟩
   have hstep := crash_step D keep j k hk
   have hcell : wr.cell? ⟨kg, ko + j, none⟩ = some (.int .i64 k) := by
    have := hcs j (.int .i64 k) (by simp [hk])
    exact hF1.cell this (fun h => hA (by omega) ⟨kg, ko, none⟩ rfl (hF0F _ h).1)
   have hD1' := hD1
   obtain ⟨s, sc, cur, qA, qc, Q, ⟨h1, h2⟩, ⟨h3, h4, h5, h5a, h5b, h5c⟩, ⟨h6, h7⟩, h8, h9⟩ := hD1
   have c1 : wr.cell? ⟨b, 1, none⟩ = some (.slice qA Q.length qc) := h1.cell 1
   have hq : D.queue.length = Q.length := by rw [show D.queue = Q.map Qe.data from h9, List.length_map]
   have hQl : Q.length <= 1099511627776 := by omega
   have zb : (zeroValue 4).run Tryz.prog wr = .ok (.bool false) wr := by kernel_rfl
   have hlook := run_lookup_imap (et := 4) Tryz.underlying75 Tryz.underlying3 zb hM k
   rw [lookup_seen] at hlook
   have Hq := Lh hq; clear hq
   have HA := Lh hA; clear hA
   have HS := Lh hS; clear hS
   have HC := Lh hcs; clear hcs
   have HK := Lh hk; clear hk
   have HF := Lh hF0F; clear hF0F
   have HSTEP := Lh hstep; clear hstep
   have HQ := Lh h8; clear h8
   have H9 := Lh h9; clear h9
   have H1 := Lh h1; clear h1
   have H3 := Lh h3; clear h3
   have H5 := Lh h5; clear h5
   have H5b := Lh h5b; clear h5b
   have H5c := Lh h5c; clear h5c
   have H7 := Lh h7; clear h7
   clear zb hmb
   by_cases k0 : k < 0
   ·have HSK := Lh (crash_skip D.queue (crashS D (keep.take j)) k (.inl k0)); clear hlook
    go_wp2_with fail
    go_roundw
    case rel => exact ⟨j + 1, by omega, by go_num, by unfold CrashAt; rw [HSTEP.out, HSK.out]; exact ⟨hM, hD1', hF1⟩⟩
    case measure => simp [intOf]; omega
   ·by_cases k1 : (Q.length : Int) <= k
    ·have HSK := Lh (crash_skip D.queue (crashS D (keep.take j)) k (.inr (.inl (by rw [Hq.out]; exact k1)))); clear hlook
     go_wp2_with fail
     go_roundw
     case rel => exact ⟨j + 1, by omega, by go_num, by unfold CrashAt; rw [HSTEP.out, HSK.out]; exact ⟨hM, hD1', hF1⟩⟩
     case measure => simp [intOf]; omega
    ·by_cases k2 : k ∈ (crashS D (keep.take j)).2
     ·have HSK := Lh (crash_skip D.queue (crashS D (keep.take j)) k (.inr (.inr k2)))
      rw [if_pos k2, Option.getD_some] at hlook
      clear k2
      go_wp2_with fail
      go_roundw
      case rel => exact ⟨j + 1, by omega, by go_num, by unfold CrashAt; rw [HSTEP.out, HSK.out]; exact ⟨hM, hD1', hF1⟩⟩
      case measure => simp [intOf]; omega
     ·rw [if_neg k2, Option.getD_none] at hlook
      obtain ⟨w2, hupd, hM2, hF2, hz2⟩ := run_update_imap (et := 4) Tryz.underlying75 Tryz.underlying3 hM k (.bool true) (by rw [lookup_seen, if_neg k2])
      obtain ⟨kn, rfl⟩ := Int.eq_ofNat_of_zero_le (by omega : 0 <= k)
      have hkl : kn < Q.length := by omega
      obtain ⟨q, hqk⟩ : ∃ q, Q[kn]? = some q := ⟨_, List.getElem?_eq_getElem hkl⟩
      have HSK := Lh (crash_do D.queue (crashS D (keep.take j)) kn q.data (by omega) k2 (by rw [Int.toNat_natCast, show D.queue = Q.map Qe.data from H9.out, List.getElem?_map, hqk]; rfl))
      obtain ⟨qg, qcap, qcur, hqe, hqb, hqblk, hq1, hq2, hq3, hq4⟩ := own_open h6 (by omega)
      obtain rfl : qA = some ⟨qg, 0, none⟩ := by injection hqe
      have hP2 : DiskParts w2 b F0 { D with safe := (crashS D (keep.take j)).1 } s sc cur (some ⟨qg, 0, none⟩) qc Q :=
       DiskParts.keep ⟨⟨H1.out, h2⟩, ⟨H3.out, h4, H5.out, h5a, H5b.out, H5c.out⟩, ⟨h6, H7.out⟩, HQ.out, H9.out⟩ (fun x hx hl => hF2.block x hl (fun e => by have := (HF.out x hx).2; omega))
      have hP3 := hP2
      obtain ⟨⟨g1, -⟩, ⟨g3, -⟩, ⟨g6, -⟩, g8, -⟩ := hP3
      have d0 : w2.cell? ⟨b, 0, none⟩ = some (.slice (some ⟨s, 0, none⟩) (crashS D (keep.take j)).1.length sc) := g1.cell 0
      have d1 : w2.cell? ⟨b, 1, none⟩ = some (.slice (some ⟨qg, 0, none⟩) Q.length qc) := g1.cell 1
      have d2 : w2.cell? ⟨qg, kn * 2, none⟩ = some (.int .i64 q.at_) := own_cell g6 (flatMap_get Qe.cells 2 (fun _ => rfl) Q kn 0 q hqk (by decide))
      have d3 : w2.cell? ⟨qg, kn * 2 + 1, none⟩ = some (.slice (some ⟨q.g, 0, none⟩) 128 q.cap) := own_cell g6 (flatMap_get Qe.cells 2 (fun _ => rfl) Q kn 1 q hqk (by decide))
      have hqm := List.mem_of_getElem? hqk
      obtain ⟨gq, -, -, -, hfit⟩ := g8 q hqm
      have hsq : Sees w2 1 (some ⟨q.g, 0, none⟩) 128 (u8s q.l) := Sees.of_own gq
      have hfit' : (q.at_ + 1) * 128 <= (crashS D (keep.take j)).1.length := hfit
      have h5' := H5.out
      have h5b' := H5b.out
      have G1 := Lh g1; clear g1
      have G3 := Lh g3; clear g3
      have G8 := Lh g8; clear g8
      have HP2 := Lh hP2; clear hP2
      have HM2 := Lh hM2; clear hM2
      have HQK := Lh hqk; clear hqk
      have H5B := Lh h5b'; clear h5b'
      clear k2
      have hkn0 : (0 : Int) <= (kn : Int) := Int.natCast_nonneg _
      have hknl : (kn : Int) < (Q.length : Int) := by omega
      go_wp2_with fail
      refine region_fast [(0, true), (1, true), (2, true), (3, true), (4, true), (5, true), (6, true), (7, true), (8, true), (9, true), (10, true), (11, true), (13, true), (14, true), (15, true), (16, true), (17, true), (18, true), (19, true), (20, true), (12, false), (21, false)] [4, 5, 6, 7, 8, 9, 10, 11, 12, 13, 14, 15, 16, 17, 18, 19, 20] 2097136 [(8589934592, 1, 0, 0), (17179869184, 8589934592, 1, 1), (34359738368, 17179869184, 2, 3), (68719476736, 34359738368, 4, 7), (137438953472, 1, 0, 0), (274877906944, 137438953472, 16, 16), (549755813888, 274877906944, 32, 48), (1099511627776, 549755813888, 64, 112), (2199023255552, 128, 0, 0), (4398046511104, 3298534883328, 384, 496), (8796093022208, 4398046511104, 512, 1008), (17592186044416, 8796093022208, 1024, 2032), (35184372088832, 17660905521152, 2056, 4095), (70368744177664, 1, 0, 0), (140737488355328, 70368744177664, 8192, 8192), (281474976710656, 140737488355328, 16384, 24576), (562949953421312, 281474976710656, 32768, 57344), (1125899906842624, 128, 0, 0), (2251799813685248, 1688849860263936, 196608, 253952), (4503599627370496, 2251799813685248, 262144, 516096), (9007199254740992, 4503599627370496, 524288, 1040384), (18014398509481984, 9042383626829824, 1052672, 2097151)] (fun w' => w'.cell? ⟨b, 0, none⟩ = some (.slice (some ⟨s, 0, none⟩) (crashS D (keep.take j)).1.length sc) /\ w'.cell? ⟨b, 1, none⟩ = some (.slice (some ⟨qg, 0, none⟩) Q.length qc) /\ w'.cell? ⟨qg, kn * 2, none⟩ = some (.int .i64 q.at_) /\ w'.cell? ⟨qg, kn * 2 + 1, none⟩ = some (.slice (some ⟨q.g, 0, none⟩) 128 q.cap)) (by kernel_rfl) (by kernel_rfl) (by kernel_rfl) rfl (by kernel_rfl) (by kernel_rfl) ⟨d0, d1, d2, d3⟩ (fun hS => ?_)
      repeat (refine plan_read (v := ?_) rfl (fun _ _ _ h => h) rfl hS ?_ ?_; rotate_left 1; (focus (intro w' hS'; obtain ⟨hS0, hS1, hS2, hS3⟩ := hS'; go_simp; try rfl)); simp only [Act.put, List.setIfInBounds_toArray, List.set_cons_zero, List.set_cons_succ])
      -- part
      refine plan_do (by rfl) (by rfl) (fun K hK => ?_)
      go_simp
      refine (part_any s 0 (crashS D (keep.take j)).1.length sc q.at_ _ h5' h5a (by omega) (by omega)).mono ?_
      rintro e w' ⟨⟨c', hc1, hc2, rfl⟩, rfl⟩
      refine hK.out _ _ (fun _ => hS) (fun _ => ?_); clear hK K
      try simp only [Act.put, List.setIfInBounds_toArray, List.set_cons_zero, List.set_cons_succ]
      -- copy
      refine plan_do (by rfl) (by rfl) (fun K hK => ?_)
      refine wp_cpy (.tmp 45) (.tmp 53) 22 22 rfl 5 Tryz.underlying22 (by kernel_rfl) s _ 128 c' (some ⟨q.g, 0, none⟩) 128 q.cap rfl rfl cur 5 G3.out (u8s q.l) hsq (by have := H5B.out; omega) (u8s_one _) ?_
      intro w3 hB3 hF3
      refine hK.out _ _ (fun h => by cases h) (fun _ => ?_); clear hK K
      try simp only [Act.put, List.setIfInBounds_toArray, List.set_cons_zero, List.set_cons_succ]
      refine plan_nil ?_
      go_wp2_with fail
      go_roundw
      case rel =>
       have hmbs : w.heap.size ≠ s := fun e => by have := (HF.out s h4).2; omega
       have hF3' : Fr (· = s) w2 w3 := ⟨hF3.os, hF3.tape, hF3.output, hF3.size, hF3.block⟩
       refine ⟨j + 1, by omega, by go_num, ?_⟩
       rw [Nat.zero_add, Int.toNat_natCast] at hB3
       unfold CrashAt
       rw [HSTEP.out, HSK.out]
       refine ⟨?_, HP2.out.poke q hqm hB3 hF3', (hF1.trans hF2 (fun x hx e => by omega)).trans hF3' (fun x _ e => by rw [e]; exact h4)⟩
       have := HM2.out.keep (w' := w3) (hF3'.block _ HM2.out.lt hmbs)
       simpa using this
      case measure => simp [intOf]; omega
  ·obtain rfl : j = n := by omega
   have hge : ¬ ((j : Int) < (j : Int)) := by omega
   have htk : keep.take j = keep := List.take_of_length_le (by rw [HL.out]; exact Nat.le_refl _)
   rw [htk] at hM hD1
   obtain ⟨s, sc, cur, qA, qc, Q, hP⟩ := hD1
   have hP2 := hP
   obtain ⟨⟨h1, h2⟩, ⟨h3, h4, h5, h5a, h5b, h5c⟩, ⟨h6, h7⟩, h8, h9⟩ := hP
   have c1 : wr.cell? ⟨b, 1, none⟩ = some (.slice qA Q.length qc) := h1.cell 1
   have c2 : wr.cell? ⟨b, 2, none⟩ = some (.int .i64 D.calls) := h1.cell 2
   have f1 := h1.frozen 1
   have f2 := h1.frozen 2
   have H1 := Lh h1; clear h1
   have H3 := Lh h3; clear h3
   have H5b := Lh h5b; clear h5b
   have H5c := Lh h5c; clear h5c
   have H9 := Lh h9; clear h9
   have HTK := Lh htk; clear htk
   have hmbb : w.heap.size ≠ b := fun e => by have := (hF0F b h2).2; omega
   go_wp2_with fail
   have hM' : IMap ((wr.setCell ⟨b, 1, none⟩ (.slice none 0 0)).setCell ⟨b, 2, none⟩ (.int .i64 (-1))) w.heap.size .i64 ((crashS D keep).2.map fun x => (x, Value.bool true)) :=
    hM.keep (by rw [Below.heap_setCell _ _ _ _ hmbb, Below.heap_setCell _ _ _ _ hmbb])
   rw [run_len_imap Tryz.underlying75 hM']
   go_wp2_with fail
   go_ret
   have hl : (D.crashed keep).safe.length = (crashS D keep).1.length := rfl
   refine ⟨ret_int (by simp), F, ⟨s, sc, cur, none, 0, [], ⟨?_, (hF0F _ h2).1⟩, ⟨?_, (hF0F _ h4).1, h5, h5a, H5b.out, H5c.out⟩, ⟨World.ownsRow_nil _ _ _ _, fun a h => by cases h⟩, (fun q hq => by cases hq), rfl⟩, ?_, fun _ _ h => h⟩
   ·exact (H1.out.set_ 1 _).set_ 2 _
   ·have hsb := H3.out.same H1.out (by decide)
    exact (H3.out.far (p := ⟨b, 1, none⟩) hsb _).far (p := ⟨b, 2, none⟩) hsb _
   ·exact ((hF1.mono (fun x _ h => (hF0F x h).1)).trans (Fr.setCell (F := F) _ ⟨b, 1, none⟩ _ (hF0F _ h2).1) (fun _ _ h => h)).trans (Fr.setCell (F := F) _ ⟨b, 2, none⟩ _ (hF0F _ h2).1) (fun _ _ h => h)
end
section
set_option maxRecDepth 4000
open Go.RowKit
theorem vl_foldl (l : List UInt8) : ∀ a : Nat, l.foldl (fun a c => a * 256 + c.toNat) a = a * 256 ^ l.length + vl l := by
 induction l with
 | nil => intro a; simp [vl]
 | cons c l ih =>
  intro a
  have h1 : vl (c :: l) = l.foldl (fun a c => a * 256 + c.toNat) (0 * 256 + c.toNat) := rfl
  rw [List.foldl_cons, ih, h1, ih, List.length_cons, Nat.pow_succ]
  rw [Nat.add_mul, Nat.zero_mul, Nat.zero_add, Nat.mul_assoc, Nat.mul_comm 256, Nat.add_assoc]
theorem vl_cons (c : UInt8) (l : List UInt8) : vl (c :: l) = c.toNat * 256 ^ l.length + vl l := by
 have := vl_foldl l (0 * 256 + c.toNat)
 rw [Nat.zero_mul, Nat.zero_add] at this
 rw [<- this]; simp [vl]
theorem vl_be (n : Nat) : ∀ k, vl (be n k) = n % 256 ^ k
 | 0 => by simp [be, vl, Nat.mod_one]
 | k + 1 => by
  rw [be, vl_cons, length_be, vl_be n k, UInt8.toNat_ofNat', Nat.mod_eq_of_lt (show n / 256 ^ k % 256 < 2 ^ 8 by omega), Nat.pow_succ, Nat.mod_mul]
  rw [Nat.mul_comm (256 ^ k)]; omega
theorem cut {a b c : List UInt8} {i n : Nat} (h1 : a.length = i) (h2 : b.length = n) : ((a ++ (b ++ c)).drop i).take n = b := by
 rw [<- h1, List.drop_left, <- h2, List.take_left]
def enc : Option (Nat × List UInt8) -> List UInt8
 | none => zer
 | some p => keyo p.1 p.2
def KOk (p : Nat × List UInt8) : Prop := p.1 <= 1099511627776 /\ p.2.length = 32
theorem enc_length (o : Option (Nat × List UInt8)) (h : ∀ p, o = some p -> KOk p) : (enc o).length = 128 := by
 cases o with
 | none => exact zer_len
 | some p => exact keyo_length _ _ (h p rfl).2
theorem keyo_cut (b : Nat) (k : List UInt8) : keyo b k = [101, 110, 103, 107] ++ (be b 8 ++ (k ++ (be (crc (khead b k)) 4 ++ List.replicate 80 0))) := by
 unfold keyo crcw
 rw [show khead b k = [101, 110, 103, 107] ++ be b 8 ++ k from rfl]
 simp only [List.append_assoc]
theorem kbuck_keyo (p : Nat × List UInt8) (h : KOk p) : kbuck (keyo p.1 p.2) = p.1 := by
 have h1 := h.1
 unfold kbuck
 rw [keyo_cut, cut (i := 4) rfl (length_be _ 8), vl_be, Nat.mod_eq_of_lt (by omega)]
 exact IntWalk.wrap64_in (p.1 : Int) (by omega)
theorem kkey_keyo (p : Nat × List UInt8) (h : KOk p) : kkey (keyo p.1 p.2) = p.2 := by
 unfold kkey
 rw [keyo_cut, <- List.append_assoc, cut (i := 12) (by simp [length_be]) h.2]
theorem kIs_keyo (p : Nat × List UInt8) (h : KOk p) : kIs (keyo p.1 p.2) := by
 have := h.1
 refine ⟨by rw [kbuck_keyo p h]; omega, by rw [kbuck_keyo p h]; omega, ?_⟩
 rw [kbuck_keyo p h, kkey_keyo p h, Int.toNat_natCast]
theorem keyo_ne (b : Nat) (k : List UInt8) : keyo b k ≠ zer := by
 intro h
 rw [keyo_cut] at h
 have := congrArg List.head? h
 simp [zer, List.head?_replicate] at this
theorem kIs_zer : ¬ kIs zer := fun h => keyo_ne _ _ h.2.2
def keD : Option Ke -> Option (Int × List UInt8)
 | none => none
 | some e => some (e.buck, e.key)
def oD : Option (Nat × List UInt8) -> Option (Int × List UInt8)
 | none => none
 | some p => some ((p.1 : Int), p.2)
end
section
set_option maxRecDepth 4000
open Go.RowKit
theorem plan_load {P : Program} {ops : Array Oper} {Q : Exit -> Act -> World -> Prop} {S : World -> Prop} {need : Nat -> Bool} {i : Nat} {o : Oper} {rest : List (Nat × Bool)} {a : Act} {w : World}
  (ho : ops.toList[i]? = some o) (hQ : ∀ v c a w, Q (.panic c) (a.put o.dst v) w -> Q (.panic c) a w) (hg : Region.wanted o (yielded ops a.tmps) = true) (hS : S w) (ty : TypeId) (x : Operand) (hop : o.op = .load ty x)
  (b off : Nat) (hx : a.eval x = .pointer (some ⟨b, off, none⟩)) (cs : List Value) (d : TypeDesc) (hc : ∀ w, S w -> w.rangeAt b off cs) (hu : P.underlying ty = some d) (hd : d.isRow = true) (hi : (P.info? ty).map (·.size) = some cs.length)
  (h : wpPlan P ops Q S need rest (a.put o.dst (.agg cs.toArray)) w) : wpPlan P ops Q S need ((i, true) :: rest) a w :=
 ⟨o, _, at_list ho, yieldsIf_load_mid hg ty x hop b off hx cs d hc hu hd hi, hS, hQ _, h⟩
theorem range_row {w : World} {g : Nat} {t : TypeId} {cs : Array Value} (h : Blk w g t cs) : w.rangeAt g 0 cs.toList := fun j v hv => by
 rw [Nat.zero_add, h.cell, <- Array.getElem?_toList]; exact hv
theorem plan_row {P : Program} {ops : Array Oper} {Q : Exit -> Act -> World -> Prop} {S : World -> Prop} {need : Nat -> Bool} {i : Nat} {o : Oper} {rest : List (Nat × Bool)} {a : Act} {w : World}
  (ho : ops.toList[i]? = some o) (hQ : ∀ v c a w, Q (.panic c) (a.put o.dst v) w -> Q (.panic c) a w) (hg : Region.wanted o (yielded ops a.tmps) = true) (hS : S w) (ty : TypeId) (x : Operand) (hop : o.op = .load ty x)
  (b : Nat) (hx : a.eval x = .pointer (some ⟨b, 0, none⟩)) (t : TypeId) (cs : Array Value) (d : TypeDesc) (hc : ∀ w, S w -> Blk w b t cs) (hu : P.underlying ty = some d) (hd : d.isRow = true) (hi : (P.info? ty).map (·.size) = some cs.size)
  (h : wpPlan P ops Q S need rest (a.put o.dst (.agg cs)) w) : wpPlan P ops Q S need ((i, true) :: rest) a w :=
 plan_load ho hQ hg hS ty x hop b 0 hx cs.toList d (fun w h => range_row (hc w h)) hu hd (by rw [Array.length_toList]; exact hi) (by rw [Array.toArray_toList]; exact h)
end
section
set_option maxRecDepth 4000
open Go.RowKit
def Dk.took (D : Dk) (a : Nat) (X Y : List UInt8) : Dk := if X = Y then D else D.lay a X
theorem layOk_on {D : Dk} (h : D.calls = -1) : D.layOk = true := decide_eq_true (by rw [h]; decide)
set_option maxHeartbeats 2000000 in
theorem take_key (t b sg : Nat) (f : Nat) (E : List (Option Ke)) (D : Dk) (F K G : Nat -> Prop) (i : Nat) (p : Nat × List UInt8) (Y : List UInt8) (g o c : Nat) (w : World)
  (h : KSt w t b sg f E false D F K G) (hok : D.Ok) (hc : D.calls = -1) (hq : D.queue = []) (hf : f <= 1000000) (hE : E.length <= 1000) (hi : i < E.length) (hfit : (f + 2 * i + 1 + 1) * 128 <= D.safe.length)
  (hY : Y.length = 128) (hp : KOk p) (hno : ∀ e, some e ∈ E -> e.buck ≠ p.1) (hS : Sees w 1 (some ⟨g, o, none⟩) 256 (u8s (keyo p.1 p.2 ++ Y))) (hA : ¬ F g /\ ¬ K g) (hcl : 256 <= c) (hcm : c <= maxLen) :
  Calls Tryz.prog 121 #[.pointer (some ⟨t, 0, none⟩), .int .i64 i, .slice (some ⟨g, o, none⟩) 256 c] w fun e w' => e = .returned Value.nilIface /\ ∃ e' : Ke, e'.buck = p.1 /\ e'.key = p.2 /\ KTo w G t b sg f (E.set i (some e')) false (D.took (f + 2 * i + 1) (keyo p.1 p.2) Y) w' := by
 have hX : (keyo p.1 p.2).length = 128 := keyo_length _ _ hp.2
 obtain ⟨X, hXe⟩ : ∃ X, X = keyo p.1 p.2 := ⟨_, rfl⟩
 have hk1 : kIs X := hXe ▸ kIs_keyo p hp
 have hk2 : kbuck X = p.1 := hXe ▸ kbuck_keyo p hp
 have hk3 : kkey X = p.2 := hXe ▸ kkey_keyo p hp
 rw [<- hXe] at hX hS ⊢
 have HDT := Lh (show (X = Y -> D.took (f + 2 * i + 1) X Y = D) /\ (X ≠ Y -> D.took (f + 2 * i + 1) X Y = D.lay (f + 2 * i + 1) X) from ⟨fun h => if_pos h, fun h => if_neg h⟩)
 generalize D.took (f + 2 * i + 1) X Y = DT at HDT ⊢
 have hS1 : ∀ w, Sees w 1 (some ⟨g, o, none⟩) 256 (u8s (X ++ Y)) -> Sees w 1 (some ⟨g, o, none⟩) 128 (u8s X) := fun w h => by
  have := h.piece 0 128 (by omega)
  rw [u8s_append, List.drop_zero, List.take_left' (by rw [length_u8s, hX])] at this
  exact this
 have hS2 : ∀ w, Sees w 1 (some ⟨g, o, none⟩) 256 (u8s (X ++ Y)) -> Sees w 1 (some ⟨g, o + 128, none⟩) 128 (u8s Y) := fun w h => by
  have := h.piece 128 128 (by omega)
  rw [u8s_append, List.drop_left' (by rw [length_u8s, hX]), List.take_of_length_le (by rw [length_u8s, hY]; exact Nat.le_refl _)] at this
  exact this
 have HS1 := Lh hS1
 have HS2 := Lh hS2
 have hmk := make_bytes 128 (by omega)
 obtain ⟨Z, hZ⟩ : ∃ z : Array Value, z = (u8s (List.replicate 128 0)).toArray := ⟨_, rfl⟩
 rw [<- hZ] at hmk
 replace hmk : ∀ W : World, (Instr.makeSlice 22 (.int .i64 128) (.int .i64 128)).run Tryz.prog W = .ok (.slice (some ⟨W.heap.size, 0, none⟩) 128 128) (W.alloc (.cells Z 5)) := hmk
 have hal : Below w.heap.size w (w.alloc (.cells Z 5)) := (Below.refl _ _).alloc (Nat.le_refl _) _
 have HB := Lh hal
 have hald : Below w.heap.size w (w.alloc (.cells Z 5)).drew := hal.trans ⟨rfl, rfl, rfl, Nat.le_refl _, fun _ _ => rfl⟩
 have hFK : ∀ k, F k \/ K k -> G k := fun k h' => h'.elim (fun h' => (h.fin k h').1) (fun h' => (h.kin k h').1)
 have HH := Lh (Ai (h.below hald).tight (Ai (hS.below hald) hald))
 have HRD := Lh (read_any X ⟨g, o, none⟩ c (w.alloc (.cells Z 5)).drew hX (hS1 _ (hS.below hald)))
 have hald0 : w.heap.size <= (w.alloc (.cells Z 5)).drew.heap.size := hald.size
 have hgl : g < w.heap.size := sees_lt hS (by omega)
 have HG := Lh (Ai hA (Ai hgl (fun k (hk : F k \/ K k) => hk.elim (fun h' => (h.fin k h').2) (fun h' => (h.kin k h').2))))
 have HP := Lh (Ai hk1 (Ai hk2 (Ai hk3 (Ai hno hp))))
 have HD := Lh (Ai hok (Ai hc hq))
 clear hS1 hS2 hXe hk1 hk2 hk3 hno hp h hS hal hald hok hc hq hZ hA
 have hcH : (128 : Int) <= (c : Int) := by omega
 have hcne : ¬ c = 128 := by omega
 go_enter Tryz.func121, Tryz.ntmps121
 go_wp2_with first | (simp only [hmk]) | fail
 refine region_fast [(0, true), (1, true), (2, true), (3, true), (4, true), (5, true)] [2, 3, 4] 28 [(4096, 4, 0, 0), (8192, 4096, 1, 1), (16384, 4, 0, 0), (32768, 16384, 4, 4), (256, 8192, 3, 3), (512, 32768, 31, 31)] (fun _ => True) (by kernel_rfl) (by kernel_rfl) (by kernel_rfl) rfl (by kernel_rfl) (by kernel_rfl) trivial (fun hS => ?_)
 repeat (first
  | (refine plan_read (v := ?_) rfl (fun _ _ _ h => h) rfl hS ?_ ?_; rotate_left 1; (focus (intro w' hS'; go_simp; try rfl)); (simp only [Act.put, pu1]; dsimp only [pu2, pu3]))
  | (refine plan_skip rfl (fun _ _ _ h => h) rfl hS ?_; (simp only [Act.put, pu1]; dsimp only [pu2, pu3])))
 refine plan_nil ?_
 go_wp2_with fail
 refine HRD.out.mono ?_
 rintro e w1 ⟨x, rfl, hx, hb1⟩
 rcases hx with ⟨hno, -⟩ | ⟨v, -, rfl, ho⟩
 ·exact absurd HP.out.1 hno
 obtain ⟨g1, c1, cur1, rfl, hg1, -, hc1, hcm1, -⟩ := own_open ho (by omega)
 have hg1' : w.heap.size <= g1 := Nat.le_trans hald0 hg1
 rw [HP.out.2.1]
 have HZ := Lh (Blk.new w1 160 #[.bool false, .int .i64 0, .slice none 0 0])
 have HSZ := Lh (show (Tryz.prog.info? 160).map (·.size) = some 3 by kernel_rfl)
 have HO := Lh ho
 have hfrZ : Fr (· = w1.heap.size) (w1.alloc (.cells #[.bool false, .int .i64 0, .slice none 0 0] 160)) ((w1.alloc (.cells #[.bool false, .int .i64 0, .slice none 0 0] 160)).setRow w1.heap.size #[.bool true, .int .i64 (p.1 : Int), .slice (some ⟨g1, 0, none⟩) 32 c1]) := Fr.setRow _ _ _ rfl
 have hbZ := HZ.out.setRow #[.bool true, .int .i64 (p.1 : Int), .slice (some ⟨g1, 0, none⟩) 32 c1]
 obtain ⟨w2, hw2⟩ : ∃ w2, (w1.alloc (.cells #[.bool false, .int .i64 0, .slice none 0 0] 160)).setRow w1.heap.size #[.bool true, .int .i64 (p.1 : Int), .slice (some ⟨g1, 0, none⟩) 32 c1] = w2 := ⟨_, rfl⟩
 rw [hw2] at hfrZ hbZ
 have hb12 : Below w1.heap.size w1 w2 := ((Below.refl w1.heap.size w1).alloc (Nat.le_refl _) _).trans (hfrZ.below (by simp) (fun k hk => by omega))
 have hb3 := hb1.trans (hb12.mono hb1.size)
 have hb2 := HH.out.2.2.trans (hb3.mono HH.out.2.2.size)
 have e0 : w2.cell? ⟨w1.heap.size, 0, none⟩ = some (.bool true) := hbZ.cell 0
 have e1 : w2.cell? ⟨w1.heap.size, 1, none⟩ = some (.int .i64 (p.1 : Int)) := hbZ.cell 1
 have hHe := HH.out.1.below hb3
 have HFD := Lh (kfind_any t b sg f E false K (p.1 : Int) w2 hHe.tab hE)
 have HH2 := Lh (Ai hHe (Ai (HH.out.2.1.below hb3) (Ai hb2 (Ai hbZ (own_below ho hb12)))))
 have HW2 := Lh hw2
 clear hb1 hb2 hb3 ho HH HRD hmk HB hfrZ hbZ hw2 hHe hb12 HO
 go_wp2_with (refine wpList_store_row rfl 160 (.tmp 10) (.tmp 17) rfl w1.heap.size _ rfl rfl 160 _ HZ.out (by exact HSZ.out) (Eq.refl 3) (by simp [Value.oneCell']) ?_; rw [HW2.out])
 refine HFD.out.mono ?_
 rintro e w3 ⟨⟨r, rfl, hr⟩, hb3⟩
 have hr1 : r = -1 := by
  rcases hr with ⟨rfl, -⟩ | ⟨j, e, rfl, hj, he⟩
  ·rfl
  ·exact absurd he (HP.out.2.2.2.1 e (List.mem_of_getElem? hj))
 subst hr1
 have H3 := Lh (Ai (HH2.out.1.below hb3) (Ai (HH2.out.2.1.below hb3) (Ai (HH2.out.2.2.1.trans (hb3.mono HH2.out.2.2.1.size)) (own_below HH2.out.2.2.2.2 hb3))))
 have d0 : w3.cell? ⟨t, 2, none⟩ = some (.slice (some ⟨sg, 0, none⟩) E.length E.length) := H3.out.1.tab.top.cell 2
 have d1 : Blk w3 w1.heap.size 160 #[.bool true, .int .i64 (p.1 : Int), .slice (some ⟨g1, 0, none⟩) 32 c1] := HH2.out.2.2.2.1.below hb3 HH2.out.2.2.2.1.lt
 have hsl := H3.out.1.drew.slot i hi (some ⟨p.1, g1, c1, p.2⟩) ⟨by rw [<- HP.out.2.2.1]; exact own_base H3.out.2.2.2 (Nat.zero_le _), HP.out.2.2.2.2.2, fun hK => absurd (HG.out.2.2 g1 (.inr hK)) (Nat.not_lt.2 hg1')⟩ (fun y hy hF => by injection hy with hy; subst hy; exact absurd (HG.out.2.2 g1 (.inl hF)) (Nat.not_lt.2 hg1'))
 have HSL := Lh hsl
 have HTH := Lh (H3.out.1.drew.tab.there i hi)
 have hiI : (i : Int) < (E.length : Int) := by omega
 clear hr hb3 HFD HH2 e0 e1 hsl
 go_wp2_with fail
 refine region_fast [(0, true), (1, true), (2, true), (3, true), (4, true), (5, true), (6, true), (7, false)] [4, 5] 48 [(268435456, 1, 0, 0), (536870912, 268435456, 1, 1), (1073741824, 536870912, 2, 3), (2147483648, 1073741824, 4, 7), (4294967296, 2, 0, 0), (8589934592, 1024, 0, 0), (17179869184, 6442450944, 63, 63), (0, 25769803776, 127, 127)] (fun W => W.cell? ⟨t, 2, none⟩ = some (.slice (some ⟨sg, 0, none⟩) E.length E.length) /\ Blk W w1.heap.size 160 #[.bool true, .int .i64 (p.1 : Int), .slice (some ⟨g1, 0, none⟩) 32 c1]) (by kernel_rfl) (by kernel_rfl) (by kernel_rfl) rfl (by kernel_rfl) (by kernel_rfl) ⟨d0, d1⟩ (fun hS => ?_)
 repeat (first
  | (refine plan_read (v := ?_) rfl (fun _ _ _ h => h) rfl hS ?_ ?_; rotate_left 1; (focus (intro w' hS'; have q0 := hS'.1; go_simp; try rfl)); (simp only [Act.put, pu1]; dsimp only [pu2, pu3]))
  | (refine plan_skip rfl (fun _ _ _ h => h) rfl hS ?_; (simp only [Act.put, pu1]; dsimp only [pu2, pu3])))
 refine plan_row rfl (fun _ _ _ _ h => h) rfl hS 160 (.tmp 10) rfl w1.heap.size rfl 160 _ _ (fun w' h => h.2) Tryz.underlying160 rfl HSZ.out ?_; simp only [Act.put, List.setIfInBounds_toArray, List.set_cons_zero, List.set_cons_succ]
 repeat (first
  | (refine plan_read (v := ?_) rfl (fun _ _ _ h => h) rfl hS ?_ ?_; rotate_left 1; (focus (intro w' hS'; have q0 := hS'.1; go_simp; try rfl)); (simp only [Act.put, pu1]; dsimp only [pu2, pu3]))
  | (refine plan_skip rfl (fun _ _ _ h => h) rfl hS ?_; (simp only [Act.put, pu1]; dsimp only [pu2, pu3])))
 refine plan_do (by rfl) (by rfl) (fun K hK => ?_)
 refine wp_store_mid 160 (.tmp 34) (.tmp 33) rfl sg (i * 3) #[.bool true, .int .i64 (p.1 : Int), .slice (some ⟨g1, 0, none⟩) 32 c1] rfl rfl HTH.out HSZ.out (by simp [Value.oneCell']) ?_
 refine hK.out _ _ (fun h => by cases h) (fun _ => ?_); clear hK K; try (simp only [Act.put, pu1]; dsimp only [pu2, pu3])
 try refine plan_nil ?_
 obtain ⟨K4, st4, fr4⟩ := HSL.out
 obtain ⟨w4, hw4⟩ : ∃ w4, w3.drew.setCells sg (i * 3) #[.bool true, .int .i64 (p.1 : Int), .slice (some ⟨g1, 0, none⟩) 32 c1].toList = w4 := ⟨_, rfl⟩
 have hw4' : w3.drew.setCells sg (i * 3) (keCells (some ⟨p.1, g1, c1, p.2⟩)) = w4 := hw4
 rw [hw4'] at st4 fr4
 rw [hw4]
 have fr3 : Fr G w w4 := (Fr.of_below H3.out.2.2.1 G).drew.trans (fr4.mono (fun k _ hk => hFK k hk)) (fun _ _ h => h)
 have s4 : Sees w4 1 (some ⟨g, o, none⟩) 256 (u8s (X ++ Y)) := Sees.fr (F := fun k => F k \/ K k) (show Sees w3.drew 1 _ 256 _ from H3.out.2.1) fr4 (fun _ a ha (hF : F a.block \/ K a.block) => by injection ha with ha; subst ha; exact Or.elim hF HG.out.1.1 HG.out.1.2)
 have hsub : ∀ k, k < w.heap.size -> ((F k \/ K k) \/ ∃ x : Ke, some (⟨p.1, g1, c1, p.2⟩ : Ke) = some x /\ x.g = k) -> G k := fun k hk hg => by
  rcases hg with hg | ⟨y, hy, hyg⟩
  ·exact hFK k hg
  ·injection hy with hy
   subst hy
   subst hyg
   exact absurd hk (Nat.not_lt.2 hg1')
 have H4 := Lh (Ai st4 (Ai fr3 (Ai s4 hsub)))
 have HQ := Lh (equal_any X Y (some ⟨g, o, none⟩) (some ⟨g, o + 128, none⟩) 128 c 128 (c - 128) w4 (HS1.out _ s4) (HS2.out _ s4))
 have HLY := Lh (fun G w h hs => lay_any t b sg f (E.set i (some ⟨p.1, g1, c1, p.2⟩)) false D F K4 G i 1 (some ⟨g, o, none⟩) c X w h HD.out.1 (by rw [HD.out.2.2]; exact Nat.zero_le _) hX (by omega) hcm hs (fun a ha hF => by injection ha with ha; subst ha; exact HG.out.1.1 hF) hf (by omega) (Nat.le_refl _) hfit)
 have HSX := Lh (HS1.out _ s4)
 clear st4 fr4 fr3 s4 hsub HSL HTH d0 d1 hw4 hw4' H3 HS1 HS2
 by_cases hxy : X = Y
 ·rw [decide_eq_true hxy] at HQ
  have HDX := Lh (HDT.out.1 hxy)
  clear hxy
  go_wp2_with fail
  refine HQ.out.mono ?_
  rintro e w5 ⟨rfl, rfl⟩
  go_wp2_with fail
  go_ret
  rw [HDX.out]
  exact ⟨rfl, ⟨p.1, g1, c1, p.2⟩, rfl, rfl, F, K4, _, H4.out.1, H4.out.2.1, H4.out.2.2.2⟩
 ·rw [decide_eq_false hxy] at HQ
  have HDX := Lh (HDT.out.2 hxy)
  have HLD := Lh (layOk_on HD.out.2.1)
  clear hxy
  go_wp2_with fail
  refine HQ.out.mono ?_
  rintro e w5 ⟨rfl, rfl⟩
  go_wp2_with fail
  refine (HLY.out _ _ H4.out.1 HSX.out).mono ?_
  rintro e w6 ⟨⟨v, rfl, hv⟩, hto⟩
  rw [HLD.out] at hto hv
  have hv' : v = Value.nilIface := by
   rcases hv with ⟨-, h⟩ | ⟨h, -⟩
   ·exact h
   ·cases h
  subst hv'
  have HTO := Lh (KTo.after H4.out.2.1 H4.out.2.2.2 hto)
  clear hto hv
  go_wp2_with fail
  go_ret
  rw [HDX.out]
  exact ⟨rfl, ⟨p.1, g1, c1, p.2⟩, rfl, rfl, HTO.out⟩
set_option maxHeartbeats 2000000 in
theorem take_none (t b sg : Nat) (f : Nat) (E : List (Option Ke)) (D : Dk) (F K G : Nat -> Prop) (i : Nat) (Y : List UInt8) (g o c : Nat) (w : World)
  (h : KSt w t b sg f E false D F K G) (hok : D.Ok) (hc : D.calls = -1) (hq : D.queue = []) (hf : f <= 1000000) (hi : i <= 1000000) (hfit : (f + 2 * i + 1 + 1) * 128 <= D.safe.length)
  (hY : Y.length = 128) (hS : Sees w 1 (some ⟨g, o, none⟩) 256 (u8s (zer ++ Y))) (hcl : 256 <= c) (hcm : c <= maxLen) :
  Calls Tryz.prog 121 #[.pointer (some ⟨t, 0, none⟩), .int .i64 i, .slice (some ⟨g, o, none⟩) 256 c] w fun e w' => e = .returned Value.nilIface /\ KTo w G t b sg f E false (D.took (f + 2 * i + 1) zer Y) w' := by
 have hX : zer.length = 128 := zer_len
 have hk1 : ¬ kIs zer := kIs_zer
 have hSZ : Sees (w.alloc (.cells (u8s zer).toArray 5)) 1 (some ⟨w.heap.size, 0, none⟩) 128 (u8s zer) := sees_mark w 5 (0, 0) (u8s zer) 128 (by rw [length_u8s, zer_len])
 have HSO := Lh (shred_one t b sg f E false D F K G i)
 have hmk : ∀ W : World, (Instr.makeSlice 22 (.int .i64 128) (.int .i64 128)).run Tryz.prog W = .ok (.slice (some ⟨W.heap.size, 0, none⟩) 128 128) (W.alloc (.cells (u8s zer).toArray 5)) := make_bytes 128 (by omega)
 have HDT := Lh (show (zer = Y -> D.took (f + 2 * i + 1) zer Y = D) /\ (zer ≠ Y -> D.took (f + 2 * i + 1) zer Y = D.lay (f + 2 * i + 1) zer) from ⟨fun h => if_pos h, fun h => if_neg h⟩)
 generalize D.took (f + 2 * i + 1) zer Y = DT at HDT ⊢
 generalize zer = X at *
 have hS1 : ∀ w, Sees w 1 (some ⟨g, o, none⟩) 256 (u8s (X ++ Y)) -> Sees w 1 (some ⟨g, o, none⟩) 128 (u8s X) := fun w h => by
  have := h.piece 0 128 (by omega)
  rw [u8s_append, List.drop_zero, List.take_left' (by rw [length_u8s, hX])] at this
  exact this
 have hS2 : ∀ w, Sees w 1 (some ⟨g, o, none⟩) 256 (u8s (X ++ Y)) -> Sees w 1 (some ⟨g, o + 128, none⟩) 128 (u8s Y) := fun w h => by
  have := h.piece 128 128 (by omega)
  rw [u8s_append, List.drop_left' (by rw [length_u8s, hX]), List.take_of_length_le (by rw [length_u8s, hY]; exact Nat.le_refl _)] at this
  exact this
 have HS1 := Lh hS1
 have HS2 := Lh hS2
 generalize (u8s X).toArray = Z at hmk hSZ
 have hal : Below w.heap.size w (w.alloc (.cells Z 5)) := (Below.refl _ _).alloc (Nat.le_refl _) _
 have hald : Below w.heap.size w (w.alloc (.cells Z 5)).drew := hal.trans ⟨rfl, rfl, rfl, Nat.le_refl _, fun _ _ => rfl⟩
 have HH := Lh (Ai (h.below hald) (Ai (hS.below hald) (Ai hald (show Sees (w.alloc (.cells Z 5)).drew 1 (some ⟨w.heap.size, 0, none⟩) 128 (u8s X) from hSZ))))
 have HRD := Lh (read_any X ⟨g, o, none⟩ c (w.alloc (.cells Z 5)).drew hX (hS1 _ (hS.below hald)))
 have HP := Lh hk1
 have HD := Lh (Ai hok (Ai hc hq))
 clear hS1 hS2 hk1 h hS hal hald hok hc hq hSZ
 have hcH : (128 : Int) <= (c : Int) := by omega
 have hcne : ¬ c = 128 := by omega
 go_enter Tryz.func121, Tryz.ntmps121
 go_wp2_with first | (simp only [hmk]) | fail
 refine region_fast [(0, true), (1, true), (2, true), (3, true), (4, true), (5, true)] [2, 3, 4] 28 [(4096, 4, 0, 0), (8192, 4096, 1, 1), (16384, 4, 0, 0), (32768, 16384, 4, 4), (256, 8192, 3, 3), (512, 32768, 31, 31)] (fun _ => True) (by kernel_rfl) (by kernel_rfl) (by kernel_rfl) rfl (by kernel_rfl) (by kernel_rfl) trivial (fun hS => ?_)
 repeat (first
  | (refine plan_read (v := ?_) rfl (fun _ _ _ h => h) rfl hS ?_ ?_; rotate_left 1; (focus (intro w' hS'; go_simp; try rfl)); (simp only [Act.put, pu1]; dsimp only [pu2, pu3]))
  | (refine plan_skip rfl (fun _ _ _ h => h) rfl hS ?_; (simp only [Act.put, pu1]; dsimp only [pu2, pu3])))
 refine plan_nil ?_
 go_wp2_with fail
 refine HRD.out.mono ?_
 rintro e w1 ⟨x, rfl, hx, hb1⟩
 rcases hx with ⟨-, rfl⟩ | ⟨v, hyes, -⟩
 rotate_left 1
 ·exact absurd hyes HP.out
 have HZ := Lh (Blk.new w1 160 #[.bool false, .int .i64 0, .slice none 0 0])
 have HSZ := Lh (show (Tryz.prog.info? 160).map (·.size) = some 3 by kernel_rfl)
 have hfrZ : Fr (· = w1.heap.size) (w1.alloc (.cells #[.bool false, .int .i64 0, .slice none 0 0] 160)) ((w1.alloc (.cells #[.bool false, .int .i64 0, .slice none 0 0] 160)).setRow w1.heap.size #[.bool false, .int .i64 0, .slice none 0 0]) := Fr.setRow _ _ _ rfl
 have hbZ := HZ.out.setRow #[.bool false, .int .i64 0, .slice none 0 0]
 obtain ⟨w2, hw2⟩ : ∃ w2, (w1.alloc (.cells #[.bool false, .int .i64 0, .slice none 0 0] 160)).setRow w1.heap.size #[.bool false, .int .i64 0, .slice none 0 0] = w2 := ⟨_, rfl⟩
 rw [hw2] at hfrZ hbZ
 have hb12 : Below w1.heap.size w1 w2 := ((Below.refl w1.heap.size w1).alloc (Nat.le_refl _) _).trans (hfrZ.below (by simp) (fun k hk => by omega))
 have hb3 := hb1.trans (hb12.mono hb1.size)
 have hb2 := HH.out.2.2.1.trans (hb3.mono HH.out.2.2.1.size)
 have e0 : w2.cell? ⟨w1.heap.size, 0, none⟩ = some (.bool false) := hbZ.cell 0
 have sf := HS1.out _ (HH.out.2.1.below hb3)
 have ss := HS2.out _ (HH.out.2.1.below hb3)
 have sz := HH.out.2.2.2.below hb3
 have HQ1 := Lh (equal_any X X (some ⟨g, o, none⟩) (some ⟨w.heap.size, 0, none⟩) 128 c 128 128 w2 sf sz)
 have HQ2 := Lh (equal_any Y X (some ⟨g, o + 128, none⟩) (some ⟨w.heap.size, 0, none⟩) 128 (c - 128) 128 128 w2 ss sz)
 rw [decide_eq_true rfl] at HQ1
 have HH2 := Lh (Ai (HH.out.1.below hb3) hb2)
 have HW2 := Lh hw2
 clear hb1 hb2 hb3 HH HRD hmk hfrZ hbZ hw2 hb12 HS1 HS2 sf ss sz
 by_cases hxy : X = Y
 ·rw [decide_eq_true hxy.symm] at HQ2
  have HDX := Lh (HDT.out.1 hxy)
  clear hxy
  go_wp2_with (refine wpList_store_row rfl 160 (.tmp 10) (.tmp 17) rfl w1.heap.size _ rfl rfl 160 _ HZ.out (by exact HSZ.out) (Eq.refl 3) (by simp [Value.oneCell']) ?_; rw [HW2.out])
  refine HQ1.out.mono ?_
  rintro e w5 ⟨rfl, rfl⟩
  go_wp2_with fail
  refine HQ2.out.mono ?_
  rintro e w5 ⟨rfl, rfl⟩
  go_wp2_with fail
  go_ret
  rw [HDX.out]
  exact ⟨rfl, KTo.after (Fr.of_below HH2.out.2 G) (fun _ _ h => h) (KTo.refl HH2.out.1)⟩
 ·rw [decide_eq_false (fun h => hxy h.symm)] at HQ2
  have HDX := Lh (HDT.out.2 hxy)
  have HLD := Lh (layOk_on HD.out.2.1)
  have HX2 := Lh (HSO.out w2 HH2.out.1 HD.out.1 (by rw [HD.out.2.2]; exact Nat.zero_le _) hf hi hfit)
  clear hxy HSO
  go_wp2_with (refine wpList_store_row rfl 160 (.tmp 10) (.tmp 17) rfl w1.heap.size _ rfl rfl 160 _ HZ.out (by exact HSZ.out) (Eq.refl 3) (by simp [Value.oneCell']) ?_; rw [HW2.out])
  refine HQ1.out.mono ?_
  rintro e w5 ⟨rfl, rfl⟩
  go_wp2_with fail
  refine HQ2.out.mono ?_
  rintro e w5 ⟨rfl, rfl⟩
  go_wp2_with fail
  refine HX2.out.mono ?_
  rintro e w6 ⟨⟨v, rfl, hv⟩, hto⟩
  rw [HLD.out] at hto hv
  have hv' : v = Value.nilIface := by
   rcases hv with ⟨-, h⟩ | ⟨h, -⟩
   ·exact h
   ·cases h
  subst hv'
  have HTO := Lh (KTo.after (Fr.of_below HH2.out.2 G) (fun _ _ h => h) hto)
  clear hto hv
  go_wp2_with fail
  go_ret
  rw [HDX.out]
  exact ⟨rfl, HTO.out⟩
end
end Go.Proofs.YtkgaeoeibjoljaaGreatDoor
