/-
  Crash.
-/
import Derived.Test.YtnlghpopjckhiaaDisk5
import Derived.Test.YtnlghpopjckhiaaMaps
import Derived.Test.YtnlghpopjckhiaaRegion
namespace Go.Proofs.Ytnlghpopjckhiaa
set_option maxRecDepth 4000
open Go.RowKit

def crashF (q : List (Nat × List UInt8)) (st : List UInt8 × List Int) (k : Int) : List UInt8 × List Int :=
  match q[k.toNat]? with
  | some x => if 0 ≤ k ∧ k ∉ st.2 then (put st.1 x, st.2 ++ [k]) else st
  | none => st
theorem crash_skip (q : List (Nat × List UInt8)) (st : List UInt8 × List Int) (k : Int) (h : k < 0 ∨ (q.length : Int) ≤ k ∨ k ∈ st.2) : crashF q st k = st := by
  unfold crashF
  cases hx : q[k.toNat]? with
  | none => rfl
  | some x =>
    have := (List.getElem?_eq_some_iff.1 hx).1
    exact if_neg (fun hh => by rcases h with h | h | h; omega; omega; exact hh.2 h)
theorem crash_do (q : List (Nat × List UInt8)) (st : List UInt8 × List Int) (k : Int) (x : Nat × List UInt8) (h0 : 0 ≤ k) (h1 : k ∉ st.2) (hx : q[k.toNat]? = some x) : crashF q st k = (put st.1 x, st.2 ++ [k]) := by
  unfold crashF
  rw [hx]
  exact if_pos ⟨h0, h1⟩
def crashS (D : Dk) (keep : List Int) : List UInt8 × List Int := keep.foldl (crashF D.queue) (D.safe, [])
def Dk.crashed (D : Dk) (keep : List Int) : Dk := { safe := (crashS D keep).1, queue := [], calls := -1 }

theorem crash_length (D : Dk) (hok : D.Ok) (keep : List Int) : (crashS D keep).1.length = D.safe.length := by
  suffices h : ∀ (l : List Int) (st : List UInt8 × List Int), st.1.length = D.safe.length → (l.foldl (crashF D.queue) st).1.length = D.safe.length from h keep _ rfl
  intro l
  induction l with
  | nil => intro st h; exact h
  | cons k l ih =>
    intro st h
    refine ih _ ?_
    unfold crashF
    split
    · rename_i x hx
      split
      · have := hok.fits x (List.mem_of_getElem? hx)
        show (put st.1 x).length = _
        rw [length_put _ _ this.1 (by rw [h]; exact this.2), h]
      · exact h
    · exact h
theorem Dk.Ok.crashed {D : Dk} (h : D.Ok) (keep : List Int) : (D.crashed keep).Ok := by
  have hl : (D.crashed keep).safe.length = D.safe.length := crash_length D h keep
  exact ⟨by rw [hl]; exact h.whole, by rw [hl]; exact h.pos, by rw [hl]; exact h.most, (fun q hq => by cases hq), by simp [Dk.crashed], by simp [Dk.crashed]⟩

/-- One of the waiting writes is let through. -/
theorem DiskParts.poke {w w' : World} {b : Nat} {F : Nat → Prop} {D : Dk} {s sc : Nat} {cur : Array Value} {qA : Option Addr} {qc : Nat} {Q : List Qe}
    (h : DiskParts w b F D s sc cur qA qc Q) (q : Qe) (hq : q ∈ Q) (hB : Blk w' s 5 (splice cur.toList (q.at_ * 128) ((u8s q.l).take 128)).toArray) (hf : Fr (· = s) w w') :
    DiskAt w' b F { D with safe := put D.safe q.data } := by
  obtain ⟨⟨h1, h2⟩, ⟨h3, h4, h5, h5a, h5b, h5c⟩, ⟨h6, h7⟩, h8, h9⟩ := h
  obtain ⟨-, -, -, hl, hfit⟩ := h8 q hq
  have hlp : (put D.safe q.data).length = D.safe.length := length_put _ _ hl hfit
  have htk : (u8s q.l).take 128 = u8s q.l := List.take_of_length_le (by simp; omega)
  rw [htk] at hB
  refine ⟨s, sc, _, qA, qc, Q, ⟨by rw [hlp]; exact h1.fr hf (fun h => h3.same h1 (by decide) h.symm), h2⟩, ⟨hB, h4, by rw [hlp]; exact h5, h5a, ?_, ?_⟩,
    ⟨own_fr h6 hf (fun g hg => own_ne h6 h3 (by decide) g hg), h7⟩, fun q' hq' => ?_, h9⟩
  · have := length_splice cur.toList (q.at_ * 128) (u8s q.l) (by simp; omega)
    simp at this ⊢
    omega
  · rw [hlp, List.toList_toArray, take_splice _ _ _ _ (by simp; omega), h5c, ← u8s_splice]
    rfl
  · obtain ⟨a1, a2, a3, a4, a5⟩ := h8 q' hq'
    refine ⟨own_fr a1 hf (fun g hg => ?_), a2, a3, a4, by rw [hlp]; exact a5⟩
    simp [Value.ownBlock] at hg
    subst hg
    exact a3

theorem lookup_seen (seen : List Int) (k : Int) : (seen.map fun x => (x, Value.bool true)).lookup k = if k ∈ seen then some (.bool true) else none := by
  induction seen with
  | nil => simp
  | cons x l ih =>
    simp only [List.map_cons, List.lookup]
    by_cases h : k = x
    · subst h; simp
    · have hb : (k == x) = false := by simpa using h
      simp [hb, ih, h]

/-- What a round of Crash finds, and keeps. -/
def CrashAt (w wr : World) (b mb : Nat) (F : Nat → Prop) (D : Dk) (keep : List Int) (j : Nat) : Prop :=
  IMap wr mb .i64 ((crashS D (keep.take j)).2.map fun x => (x, Value.bool true)) ∧ DiskAt wr b F { D with safe := (crashS D (keep.take j)).1 } ∧ Fr (fun k => F k) w wr

theorem crash_step (D : Dk) (keep : List Int) (j : Nat) (k : Int) (hk : keep[j]? = some k) : crashS D (keep.take (j + 1)) = crashF D.queue (crashS D (keep.take j)) k := by
  unfold crashS
  rw [List.take_add_one, hk, Option.toList_some, List.foldl_append]
  rfl

set_option maxHeartbeats 1000000 in
theorem crash_any (b : Nat) (F : Nat → Prop) (D : Dk) (A : Option Addr) (n c : Nat) (keep : List Int) (w : World) (hD : DiskAt w b F D) (hok : D.Ok) (hlen : keep.length = n) (hn : n ≤ maxLen) (hqn : D.queue.length ≤ 1099511627776)
    (hS : Sees w 1 A n (keep.map (Value.int .i64))) (hA : 0 < n → ∀ a, A = some a → ¬ F a.block) :
    Calls Try.prog 14 #[.pointer (some ⟨b, 0, none⟩), .slice A n c] w fun e w' => e = .returned (.int .i64 (crashS D keep).2.length) ∧ DiskTo w b F (D.crashed keep) w' := by
  unfold maxLen at hn
  obtain ⟨F0, hF0⟩ : ∃ F0 : Nat → Prop, F0 = fun k => F k ∧ k < w.heap.size := ⟨_, rfl⟩
  have hD0 : DiskAt w b F0 D := by rw [hF0]; exact hD.restrict
  have hF0F : ∀ k, F0 k → F k ∧ k < w.heap.size := fun k hk => by rw [hF0] at hk; exact hk
  have HF0 := Lib.hid hF0; clear hF0
  have HL := Lib.hid hlen; clear hlen
  have hmm := @run_makeMap Try.prog
  obtain ⟨mb, hmb⟩ : ∃ mb, mb = w.heap.size := ⟨_, rfl⟩
  have hstart : CrashAt w (w.alloc (.map #[] 0)) b w.heap.size F0 D keep 0 := ⟨by simpa [crashS] using IMap.new w .i64, by simpa [crashS] using hD0.below ((Below.refl _ _).alloc (Nat.le_refl _) _), Fr.alloc _ _ _⟩
  go_enter Try.func14, Try.ntmps14
  go_wp2_with fail
  go_loopw [11] (fun i wr => ∃ j : Nat, j ≤ n ∧ i = .int .i64 j ∧ CrashAt w wr b w.heap.size F0 D keep j) (fun i _ => n - (intOf i).toNat)
  case atStart => exact ⟨0, Nat.zero_le _, rfl, hstart⟩
  case round =>
    obtain ⟨j, hj, rfl, hM, hD1, hF1⟩ := hrel
    have HST := Lib.hid hstart; clear hstart
    by_cases hlt : j < n
    · have hlti : (j : Int) < (n : Int) := by omega
      obtain ⟨kg, ko, rfl, hcs⟩ := hS.2 (by omega)
      obtain ⟨k, hk⟩ : ∃ k, keep[j]? = some k := ⟨_, List.getElem?_eq_getElem (by rw [HL.out]; exact hlt)⟩
      have hstep := crash_step D keep j k hk
      have hcell : wr.cell? ⟨kg, ko + j, none⟩ = some (.int .i64 k) := by
        have := hcs j (.int .i64 k) (by simp [hk])
        exact hF1.cell this (fun h => hA (by omega) ⟨kg, ko, none⟩ rfl (hF0F _ h).1)
      have hD1' := hD1
      obtain ⟨s, sc, cur, qA, qc, Q, ⟨h1, h2⟩, ⟨h3, h4, h5, h5a, h5b, h5c⟩, ⟨h6, h7⟩, h8, h9⟩ := hD1
      have c1 : wr.cell? ⟨b, 1, none⟩ = some (.slice qA Q.length qc) := h1.cell 1
      have hq : D.queue.length = Q.length := by rw [show D.queue = Q.map Qe.data from h9, List.length_map]
      have hQl : Q.length ≤ 1099511627776 := by omega
      have zb : (zeroValue 4).run Try.prog wr = .ok (.bool false) wr := by kernel_rfl
      have hlook := run_lookup_imap (et := 4) Try.underlying76 Try.underlying3 zb hM k
      rw [lookup_seen] at hlook
      have Hq := Lib.hid hq; clear hq
      have HA := Lib.hid hA; clear hA
      have HS := Lib.hid hS; clear hS
      have HC := Lib.hid hcs; clear hcs
      have HK := Lib.hid hk; clear hk
      have HF := Lib.hid hF0F; clear hF0F
      have HSTEP := Lib.hid hstep; clear hstep
      have HQ := Lib.hid h8; clear h8
      have H9 := Lib.hid h9; clear h9
      have H1 := Lib.hid h1; clear h1
      have H3 := Lib.hid h3; clear h3
      have H5 := Lib.hid h5; clear h5
      have H5b := Lib.hid h5b; clear h5b
      have H5c := Lib.hid h5c; clear h5c
      have H7 := Lib.hid h7; clear h7
      clear zb hmb
      by_cases k0 : k < 0
      · have HSK := Lib.hid (crash_skip D.queue (crashS D (keep.take j)) k (.inl k0)); clear hlook
        go_wp2_with fail
        go_roundw
        case rel => exact ⟨j + 1, by omega, by go_num, by unfold CrashAt; rw [HSTEP.out, HSK.out]; exact ⟨hM, hD1', hF1⟩⟩
        case measure => simp [intOf]; omega
      · by_cases k1 : (Q.length : Int) ≤ k
        · have HSK := Lib.hid (crash_skip D.queue (crashS D (keep.take j)) k (.inr (.inl (by rw [Hq.out]; exact k1)))); clear hlook
          go_wp2_with fail
          go_roundw
          case rel => exact ⟨j + 1, by omega, by go_num, by unfold CrashAt; rw [HSTEP.out, HSK.out]; exact ⟨hM, hD1', hF1⟩⟩
          case measure => simp [intOf]; omega
        · by_cases k2 : k ∈ (crashS D (keep.take j)).2
          · have HSK := Lib.hid (crash_skip D.queue (crashS D (keep.take j)) k (.inr (.inr k2)))
            rw [if_pos k2, Option.getD_some] at hlook
            clear k2
            go_wp2_with fail
            go_roundw
            case rel => exact ⟨j + 1, by omega, by go_num, by unfold CrashAt; rw [HSTEP.out, HSK.out]; exact ⟨hM, hD1', hF1⟩⟩
            case measure => simp [intOf]; omega
          · rw [if_neg k2, Option.getD_none] at hlook
            obtain ⟨w2, hupd, hM2, hF2, hz2⟩ := run_update_imap (et := 4) Try.underlying76 Try.underlying3 hM k (.bool true) (by rw [lookup_seen, if_neg k2])
            obtain ⟨kn, rfl⟩ := Int.eq_ofNat_of_zero_le (by omega : 0 ≤ k)
            have hkl : kn < Q.length := by omega
            obtain ⟨q, hqk⟩ : ∃ q, Q[kn]? = some q := ⟨_, List.getElem?_eq_getElem hkl⟩
            have HSK := Lib.hid (crash_do D.queue (crashS D (keep.take j)) kn q.data (by omega) k2 (by rw [Int.toNat_natCast, show D.queue = Q.map Qe.data from H9.out, List.getElem?_map, hqk]; rfl))
            obtain ⟨qg, qcap, qcur, hqe, hqb, hqblk, hq1, hq2, hq3, hq4⟩ := own_open h6 (by omega)
            obtain rfl : qA = some ⟨qg, 0, none⟩ := by injection hqe
            have hP2 : DiskParts w2 b F0 { D with safe := (crashS D (keep.take j)).1 } s sc cur (some ⟨qg, 0, none⟩) qc Q :=
              DiskParts.keep ⟨⟨H1.out, h2⟩, ⟨H3.out, h4, H5.out, h5a, H5b.out, H5c.out⟩, ⟨h6, H7.out⟩, HQ.out, H9.out⟩ (fun x hx hl => hF2.block x hl (fun e => by have := (HF.out x hx).2; omega))
            have hP3 := hP2
            obtain ⟨⟨g1, -⟩, ⟨g3, -⟩, ⟨g6, -⟩, g8, -⟩ := hP3
            have d0 : w2.cell? ⟨b, 0, none⟩ = some (.slice (some ⟨s, 0, none⟩) (crashS D (keep.take j)).1.length sc) := g1.cell 0
            have d1 : w2.cell? ⟨b, 1, none⟩ = some (.slice (some ⟨qg, 0, none⟩) Q.length qc) := g1.cell 1
            have d2 : w2.cell? ⟨qg, kn * 2, none⟩ = some (.int .i64 q.at_) := own_cell g6 (flatMap_get Qe.cells 2 (fun _ => rfl) Q kn 0 q hqk (by decide))
            have d3 : w2.cell? ⟨qg, kn * 2 + 1, none⟩ = some (.slice (some ⟨q.g, 0, none⟩) 128 q.cap) := own_cell g6 (flatMap_get Qe.cells 2 (fun _ => rfl) Q kn 1 q hqk (by decide))
            have hqm := List.mem_of_getElem? hqk
            obtain ⟨gq, -, -, -, hfit⟩ := g8 q hqm
            have hsq : Sees w2 1 (some ⟨q.g, 0, none⟩) 128 (u8s q.l) := Sees.of_own gq
            have hfit' : (q.at_ + 1) * 128 ≤ (crashS D (keep.take j)).1.length := hfit
            have h5' := H5.out
            have h5b' := H5b.out
            have G1 := Lib.hid g1; clear g1
            have G3 := Lib.hid g3; clear g3
            have G8 := Lib.hid g8; clear g8
            have HP2 := Lib.hid hP2; clear hP2
            have HM2 := Lib.hid hM2; clear hM2
            have HQK := Lib.hid hqk; clear hqk
            have H5B := Lib.hid h5b'; clear h5b'
            clear k2
            have hkn0 : (0 : Int) ≤ (kn : Int) := Int.natCast_nonneg _
            have hknl : (kn : Int) < (Q.length : Int) := by omega
            go_wp2_with fail
            refine region_fast [(0, true), (1, true), (2, true), (3, true), (4, true), (5, true), (6, true), (7, true), (8, true), (9, true), (10, true), (11, true), (13, true), (14, true), (15, true), (16, true), (17, true), (18, true), (19, true), (20, true), (12, false), (21, false)] [4, 5, 6, 7, 8, 9, 10, 11, 12, 13, 14, 15, 16, 17, 18, 19, 20] 2097136 [(8589934592, 1, 0, 0), (17179869184, 8589934592, 1, 1), (34359738368, 17179869184, 2, 3), (68719476736, 34359738368, 4, 7), (137438953472, 1, 0, 0), (274877906944, 137438953472, 16, 16), (549755813888, 274877906944, 32, 48), (1099511627776, 549755813888, 64, 112), (2199023255552, 128, 0, 0), (4398046511104, 3298534883328, 384, 496), (8796093022208, 4398046511104, 512, 1008), (17592186044416, 8796093022208, 1024, 2032), (35184372088832, 17660905521152, 2056, 4095), (70368744177664, 1, 0, 0), (140737488355328, 70368744177664, 8192, 8192), (281474976710656, 140737488355328, 16384, 24576), (562949953421312, 281474976710656, 32768, 57344), (1125899906842624, 128, 0, 0), (2251799813685248, 1688849860263936, 196608, 253952), (4503599627370496, 2251799813685248, 262144, 516096), (9007199254740992, 4503599627370496, 524288, 1040384), (18014398509481984, 9042383626829824, 1052672, 2097151)] (fun w' => w'.cell? ⟨b, 0, none⟩ = some (.slice (some ⟨s, 0, none⟩) (crashS D (keep.take j)).1.length sc) ∧ w'.cell? ⟨b, 1, none⟩ = some (.slice (some ⟨qg, 0, none⟩) Q.length qc) ∧ w'.cell? ⟨qg, kn * 2, none⟩ = some (.int .i64 q.at_) ∧ w'.cell? ⟨qg, kn * 2 + 1, none⟩ = some (.slice (some ⟨q.g, 0, none⟩) 128 q.cap)) (by kernel_rfl) (by kernel_rfl) (by kernel_rfl) rfl (by kernel_rfl) (by kernel_rfl) ⟨d0, d1, d2, d3⟩ (fun hS => ?_)
            repeat (refine plan_read (v := ?_) rfl (fun _ _ _ h => h) rfl hS ?_ ?_; rotate_left 1; (focus (intro w' hS'; obtain ⟨hS0, hS1, hS2, hS3⟩ := hS'; go_simp; try rfl)); simp only [Act.put, List.setIfInBounds_toArray, List.set_cons_zero, List.set_cons_succ])
            -- part
            refine plan_do (by rfl) (by rfl) (fun K hK => ?_)
            go_simp
            refine (part_any s 0 (crashS D (keep.take j)).1.length sc q.at_ _ h5' h5a (by omega) (by omega)).mono ?_
            rintro e w' ⟨⟨c', hc1, hc2, rfl⟩, rfl⟩
            refine hK.out _ _ (fun _ => hS) (fun _ => ?_); clear hK K
            try simp only [Act.put, List.setIfInBounds_toArray, List.set_cons_zero, List.set_cons_succ]
            -- copy
            refine plan_do (by rfl) (by rfl) (fun K hK => ?_)
            refine wp_cpy (.tmp 45) (.tmp 53) 37 37 rfl 5 Try.underlying37 (by kernel_rfl) s _ 128 c' (some ⟨q.g, 0, none⟩) 128 q.cap rfl rfl cur 5 G3.out (u8s q.l) hsq (by have := H5B.out; omega) (u8s_one _) ?_
            intro w3 hB3 hF3
            refine hK.out _ _ (fun h => by cases h) (fun _ => ?_); clear hK K
            try simp only [Act.put, List.setIfInBounds_toArray, List.set_cons_zero, List.set_cons_succ]
            refine plan_nil ?_
            go_wp2_with fail
            go_roundw
            case rel =>
              have hmbs : w.heap.size ≠ s := fun e => by have := (HF.out s h4).2; omega
              have hF3' : Fr (· = s) w2 w3 := ⟨hF3.os, hF3.tape, hF3.output, hF3.size, hF3.block⟩
              refine ⟨j + 1, by omega, by go_num, ?_⟩
              rw [Nat.zero_add, Int.toNat_natCast] at hB3
              unfold CrashAt
              rw [HSTEP.out, HSK.out]
              refine ⟨?_, HP2.out.poke q hqm hB3 hF3', (hF1.trans hF2 (fun x hx e => by omega)).trans hF3' (fun x _ e => by rw [e]; exact h4)⟩
              have := HM2.out.keep (w' := w3) (hF3'.block _ HM2.out.lt hmbs)
              simpa using this
            case measure => simp [intOf]; omega
    · obtain rfl : j = n := by omega
      have hge : ¬ ((j : Int) < (j : Int)) := by omega
      have htk : keep.take j = keep := List.take_of_length_le (by rw [HL.out]; exact Nat.le_refl _)
      rw [htk] at hM hD1
      obtain ⟨s, sc, cur, qA, qc, Q, hP⟩ := hD1
      have hP2 := hP
      obtain ⟨⟨h1, h2⟩, ⟨h3, h4, h5, h5a, h5b, h5c⟩, ⟨h6, h7⟩, h8, h9⟩ := hP
      have c1 : wr.cell? ⟨b, 1, none⟩ = some (.slice qA Q.length qc) := h1.cell 1
      have c2 : wr.cell? ⟨b, 2, none⟩ = some (.int .i64 D.calls) := h1.cell 2
      have f1 := h1.frozen 1
      have f2 := h1.frozen 2
      have H1 := Lib.hid h1; clear h1
      have H3 := Lib.hid h3; clear h3
      have H5b := Lib.hid h5b; clear h5b
      have H5c := Lib.hid h5c; clear h5c
      have H9 := Lib.hid h9; clear h9
      have HTK := Lib.hid htk; clear htk
      have hmbb : w.heap.size ≠ b := fun e => by have := (hF0F b h2).2; omega
      go_wp2_with fail
      have hM' : IMap ((wr.setCell ⟨b, 1, none⟩ (.slice none 0 0)).setCell ⟨b, 2, none⟩ (.int .i64 (-1))) w.heap.size .i64 ((crashS D keep).2.map fun x => (x, Value.bool true)) :=
        hM.keep (by rw [Below.heap_setCell _ _ _ _ hmbb, Below.heap_setCell _ _ _ _ hmbb])
      rw [run_len_imap Try.underlying76 hM']
      go_wp2_with fail
      go_ret
      have hl : (D.crashed keep).safe.length = (crashS D keep).1.length := rfl
      refine ⟨ret_int (by simp), F, ⟨s, sc, cur, none, 0, [], ⟨?_, (hF0F _ h2).1⟩, ⟨?_, (hF0F _ h4).1, h5, h5a, H5b.out, H5c.out⟩, ⟨World.ownsRow_nil _ _ _ _, fun a h => by cases h⟩, (fun q hq => by cases hq), rfl⟩, ?_, fun _ _ h => h⟩
      · exact (H1.out.set_ 1 _).set_ 2 _
      · have hsb := H3.out.same H1.out (by decide)
        exact (H3.out.far (p := ⟨b, 1, none⟩) hsb _).far (p := ⟨b, 2, none⟩) hsb _
      · exact ((hF1.mono (fun x _ h => (hF0F x h).1)).trans (Fr.setCell (F := F) _ ⟨b, 1, none⟩ _ (hF0F _ h2).1) (fun _ _ h => h)).trans (Fr.setCell (F := F) _ ⟨b, 2, none⟩ _ (hF0F _ h2).1) (fun _ _ h => h)
end Go.Proofs.Ytnlghpopjckhiaa
