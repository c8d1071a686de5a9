/-
  The disk's small functions: part, Clone, there, call, Size, Waiting, New.
  The disk in memory; Image.
  Write.
  Write.
  New, Flush, Read.
  Crash.
  filled, Load.
  What flushed sectors keep behind a crash: plain.
-/
import Derived.Test.YtldgnckchlbadaaDoorProg
import Derived.Test.YtldgnckchlbadaaDoorGA
import Derived.Test.YtldgnckchlbadaaDoorGB
import Derived.BigQuiet
import Derived.Handy
import Derived.Deep.RegionHeld3
import Derived.Deep.AppendLies
import Derived.Test.YtldgnckchlbadaaDoorGC
import Derived.OwnWalk
namespace Go.Proofs.YtldgnckchlbadaaDoor
set_option maxRecDepth 4000
open Go.RowKit


theorem size_any (b : Nat) (s : Option Addr) (n c : Nat) (w : World) (hn : n ≤ maxLen) (h0 : w.cell? ⟨b, 0, none⟩ = some (.slice s n c)) :
    Calls Tryd.prog 60 #[.pointer (some ⟨b, 0, none⟩)] w fun e w' => e = .returned (.int .i64 ((n / 128 : Nat) : Int)) ∧ w = w' := by
  unfold maxLen at hn
  go_enter Tryd.func60, Tryd.ntmps60
  go_wp2
  go_ret
  exact ⟨rfl, rfl⟩

theorem there_any (b : Nat) (at_ k : Int) (s : Option Addr) (n c : Nat) (w : World) (hn : n ≤ maxLen) (h0 : w.cell? ⟨b, 0, none⟩ = some (.slice s n c)) :
    Calls Tryd.prog 44 #[.pointer (some ⟨b, 0, none⟩), .int .i64 at_, .int .i64 k] w fun e w' => e = .returned (.bool (thereB at_ k (n / 128 : Nat))) ∧ w = w' := by
  have hn' := hn
  unfold maxLen at hn
  by_cases h1 : 0 ≤ at_
  · by_cases h2 : 0 ≤ k
    · by_cases h3 : at_ ≤ (n / 128 : Nat)
      · go_enter Tryd.func44, Tryd.ntmps44
        go_wp2_with (go_at_call 60; refine (size_any _ _ _ _ _ hn' h0).mono ?_; rintro e w' ⟨rfl, rfl⟩)
        go_ret
        refine ⟨?_, rfl⟩
        exact ret_bool (bool_iff (by show decide (k ≤ (n : Int) / 128 - at_) = true ↔ _; rw [thereB, decide_eq_true_eq, decide_eq_true_eq]; omega))
      · go_enter Tryd.func44, Tryd.ntmps44
        go_wp2_with (go_at_call 60; refine (size_any _ _ _ _ _ hn' h0).mono ?_; rintro e w' ⟨rfl, rfl⟩)
        go_ret
        refine ⟨?_, rfl⟩
        exact ret_bool (by simp [thereB]; omega)
    · go_enter Tryd.func44, Tryd.ntmps44
      go_wp2_with fail
      go_ret
      refine ⟨?_, rfl⟩
      exact ret_bool (by simp [thereB]; omega)
  · go_enter Tryd.func44, Tryd.ntmps44
    go_wp2_with fail
    go_ret
    refine ⟨?_, rfl⟩
    exact ret_bool (by simp [thereB]; omega)

theorem call_any (b : Nat) (k : Int) (cs : Value × Value) (w : World) (h0 : Blk w b 58 #[cs.1, cs.2, .int .i64 k]) (hk2 : k ≤ 9223372036854775807) :
    Calls Tryd.prog 45 #[.pointer (some ⟨b, 0, none⟩)] w fun e w' => e = .returned (.bool (decide (k ≠ 0))) ∧ Blk w' b 58 #[cs.1, cs.2, .int .i64 (nextCalls k)] ∧ Fr (· = b) w w' ∧ w'.heap.size = w.heap.size := by
  have c2 : w.cell? ⟨b, 2, none⟩ = some (.int .i64 k) := h0.cell 2
  have f2 := h0.frozen 2
  have H := Lib.hid h0
  clear h0
  by_cases hk : 0 < k
  · go_enter Tryd.func45, Tryd.ntmps45
    go_wp2
    go_ret
    refine ⟨?_, ?_, Fr.setCell _ _ _ rfl, by simp [World.setCell]⟩
    · exact ret_bool (by simp; omega)
    · have := H.out.set_ 2 (.int .i64 (k - 1))
      simp only [nextCalls, if_pos hk]
      exact this
  · go_enter Tryd.func45, Tryd.ntmps45
    go_wp2
    go_ret
    refine ⟨?_, ?_, Fr.refl _ _, rfl⟩
    · exact ret_bool (bool_iff (by show decide (k < 0) = true ↔ _; simp; omega))
    · have hn : ¬ 0 < k := by omega
      simp only [nextCalls, if_neg hn]
      exact H.out

theorem part_any (g off n c : Nat) (k : Int) (w : World) (hn : n ≤ c) (hc : c ≤ maxLen) (h0 : 0 ≤ k) (hk : (k + 1) * 128 ≤ n) :
    Calls Tryd.prog 36 #[.slice (some ⟨g, off, none⟩) n c, .int .i64 k] w fun e w' => (∃ c', 128 ≤ c' ∧ c' ≤ maxLen ∧ e = .returned (.slice (some ⟨g, off + k.toNat * 128, none⟩) 128 c')) ∧ w = w' := by
  unfold maxLen at hc
  obtain ⟨k, rfl⟩ := Int.eq_ofNat_of_zero_le h0
  go_enter Tryd.func36, Tryd.ntmps36
  go_wp2
  go_ret
  refine ⟨⟨c - k * 128, by omega, by unfold maxLen; omega, ret_val ?_⟩, rfl⟩
  show Value.slice _ _ _ = _
  rw [show (k + 1) * 128 - k * 128 = 128 by omega, Int.toNat_natCast]

end Go.Proofs.YtldgnckchlbadaaDoor

namespace Go.Proofs.YtldgnckchlbadaaDoor
set_option maxRecDepth 4000
open Go.RowKit

/-- A write that waits, as it lies in memory: its sector, its octets' block and capacity, its octets. -/
structure Qe where
  at_ : Nat
  g : Nat
  cap : Nat
  l : List UInt8
def Qe.cells (q : Qe) : List Value := [.int .i64 q.at_, .slice (some ⟨q.g, 0, none⟩) 128 q.cap]
def Qe.data (q : Qe) : Nat × List UInt8 := (q.at_, q.l)

/-- The parts of the disk D at block b, in the blocks F: its safe octets' block s, its queue's row, what waits. -/
def DiskParts (w : World) (b : Nat) (F : Nat → Prop) (D : Dk) (s sc : Nat) (cur : Array Value) (qA : Option Addr) (qc : Nat) (Q : List Qe) : Prop :=
  (Blk w b 58 #[.slice (some ⟨s, 0, none⟩) D.safe.length sc, .slice qA Q.length qc, .int .i64 D.calls] ∧ F b) ∧
  (Blk w s 5 cur ∧ F s ∧ D.safe.length ≤ sc ∧ sc ≤ maxLen ∧ cur.size = sc ∧ cur.toList.take D.safe.length = u8s D.safe) ∧
  (w.ownsRow 0 78 2 (.slice qA Q.length qc) Q.length (Q.flatMap Qe.cells) ∧ ∀ a, qA = some a → F a.block) ∧
  (∀ q ∈ Q, w.ownsRow 0 5 1 (.slice (some ⟨q.g, 0, none⟩) 128 q.cap) 128 (u8s q.l) ∧ F q.g ∧ q.g ≠ s ∧ q.l.length = 128 ∧ (q.at_ + 1) * 128 ≤ D.safe.length) ∧
  D.queue = Q.map Qe.data

/-- The disk D lies at block b; all of it in the blocks F. -/
def DiskAt (w : World) (b : Nat) (F : Nat → Prop) (D : Dk) : Prop :=
  ∃ (s sc : Nat) (cur : Array Value) (qA : Option Addr) (qc : Nat) (Q : List Qe), DiskParts w b F D s sc cur qA qc Q

theorem DiskParts.keep {w w' : World} {b : Nat} {F : Nat → Prop} {D : Dk} {s sc : Nat} {cur : Array Value} {qA : Option Addr} {qc : Nat} {Q : List Qe}
    (h : DiskParts w b F D s sc cur qA qc Q) (hk : ∀ k, F k → k < w.heap.size → w'.heap[k]? = w.heap[k]?) : DiskParts w' b F D s sc cur qA qc Q := by
  obtain ⟨⟨h1, h2⟩, ⟨h3, h4, h5⟩, ⟨h6, h7⟩, h8, h9⟩ := h
  refine ⟨⟨h1.keep (hk b h2 h1.lt), h2⟩, ⟨h3.keep (hk s h4 h3.lt), h4, h5⟩, ⟨own_keep h6 ?_, h7⟩, ?_, h9⟩
  · intro g hg
    rcases qA with _ | a
    · cases hg
    · exact hk g (by simp [Value.ownBlock] at hg; subst hg; exact h7 a rfl) (h6.lt g hg).2
  · intro q hq
    obtain ⟨a1, a2, a3⟩ := h8 q hq
    refine ⟨own_keep a1 ?_, a2, a3⟩
    intro g hg
    have hg' : q.g = g := by simpa [Value.ownBlock] using hg
    subst hg'
    exact hk q.g a2 (a1.lt q.g hg).2
theorem DiskAt.keep {w w' : World} {b : Nat} {F : Nat → Prop} {D : Dk} (h : DiskAt w b F D) (hk : ∀ k, F k → k < w.heap.size → w'.heap[k]? = w.heap[k]?) : DiskAt w' b F D := by
  obtain ⟨s, sc, cur, qA, qc, Q, h⟩ := h
  exact ⟨s, sc, cur, qA, qc, Q, h.keep hk⟩
theorem DiskAt.fr {w w' : World} {b : Nat} {F G : Nat → Prop} {D : Dk} (h : DiskAt w b F D) (hf : Fr G w w') (hn : ∀ k, F k → ¬ G k) : DiskAt w' b F D :=
  h.keep fun k hk hl => hf.block k hl (hn k hk)
theorem DiskAt.below {w w' : World} {b : Nat} {F : Nat → Prop} {D : Dk} (h : DiskAt w b F D) (hb : Below w.heap.size w w') : DiskAt w' b F D :=
  h.keep fun k _ hl => hb.block k hl
theorem DiskAt.mono {w : World} {b : Nat} {F G : Nat → Prop} {D : Dk} (h : DiskAt w b F D) (hs : ∀ k, F k → G k) : DiskAt w b G D := by
  obtain ⟨s, sc, cur, qA, qc, Q, ⟨h1, h2⟩, ⟨h3, h4, h5⟩, ⟨h6, h7⟩, h8, h9⟩ := h
  exact ⟨s, sc, cur, qA, qc, Q, ⟨h1, hs _ h2⟩, ⟨h3, hs _ h4, h5⟩, ⟨h6, fun a ha => hs _ (h7 a ha)⟩, fun q hq => ⟨(h8 q hq).1, hs _ (h8 q hq).2.1, (h8 q hq).2.2⟩, h9⟩

set_option maxHeartbeats 400000 in
theorem image_any (b : Nat) (F : Nat → Prop) (D : Dk) (w : World) (hD : DiskAt w b F D) (hok : D.Ok) (hq : D.queue.length ≤ 1099511627776) :
    Calls Tryd.prog 11 #[.pointer (some ⟨b, 0, none⟩)] w fun e w' => (∃ v, e = .returned v ∧ w'.ownsRow w.heap.size 5 1 v D.safe.length (u8s D.image)) ∧ Below w.heap.size w w' := by
  obtain ⟨s, sc, cur, qA, qc, Q, ⟨h1, h2⟩, ⟨h3, h4, h5, h5a, h5b, h5c⟩, ⟨h6, h7⟩, h8, h9⟩ := hD
  have c0 : w.cell? ⟨b, 0, none⟩ = some (.slice (some ⟨s, 0, none⟩) D.safe.length sc) := h1.cell 0
  have c1 : w.cell? ⟨b, 1, none⟩ = some (.slice qA Q.length qc) := h1.cell 1
  have hsee : Sees w 1 (some ⟨s, 0, none⟩) D.safe.length (u8s D.safe) := Sees.of_own (own_mk (base := 0) (Nat.zero_le _) h3 h5 h5a (by omega) (by simpa using h5c))
  have bl := h1.lt
  have hmost := hok.most
  have hpos := hok.pos
  have H1 := Lib.hid h1; clear h1
  have H3 := Lib.hid h3; clear h3
  have H5b := Lib.hid h5b; clear h5b
  have H5c := Lib.hid h5c; clear h5c
  have hQl : Q.length ≤ 1099511627776 := by rw [h9, List.length_map] at hq; exact hq
  have H9 := Lib.hid h9; clear h9
  go_enter Tryd.func11, Tryd.ntmps11
  go_wp2_with fail
  refine (clone_any _ _ _ _ _ hsee (u8s_one _) (by omega)).mono ?_
  rintro e w1 ⟨v, rfl, hown, hb1⟩
  obtain ⟨g, cap, cur1, rfl, hg, hblk, hcap, hcm, hcs, htk⟩ := own_open hown (by omega)
  have c1' := (hb1.cell (p := ⟨b, 1, none⟩) bl).trans c1
  have H := Lib.hid hblk; clear hblk
  have Hcs := Lib.hid hcs; clear hcs
  have Htk := Lib.hid htk; clear htk
  go_wp2_with fail
  go_loopw [16] (fun i wr => ∃ k : Nat, k ≤ Q.length ∧ i = .int .i64 k ∧ (∃ cur, Blk wr g 5 cur ∧ cur.size = cap ∧ cur.toList.take D.safe.length = u8s (puts D.safe ((Q.take k).map Qe.data))) ∧ Below w.heap.size w wr)
    (fun i _ => Q.length - (intOf i).toNat)
  case atStart =>
    refine ⟨0, Nat.zero_le _, rfl, ⟨cur1, H.out, by have := Hcs.out; omega, ?_⟩, hb1⟩
    have := Htk.out
    simpa [puts] using this
  case round =>
    obtain ⟨k, hk, rfl, ⟨cu, hcu, hcuz, hcut⟩, hbr⟩ := hrel
    by_cases hlt : k < Q.length
    · obtain ⟨qg, qcap, qcur, hqe, hqb, hqblk, hq1, hq2, hq3, hq4⟩ := own_open h6 (by omega)
      obtain rfl : qA = some ⟨qg, 0, none⟩ := by injection hqe
      have hlti : (k : Int) < (Q.length : Int) := by omega
      obtain ⟨q, hqk⟩ : ∃ q, Q[k]? = some q := ⟨_, List.getElem?_eq_getElem hlt⟩
      have hk0 := flatMap_get Qe.cells 2 (fun _ => rfl) Q k 0 q hqk (by decide)
      have hk1 := flatMap_get Qe.cells 2 (fun _ => rfl) Q k 1 q hqk (by decide)
      have e0 := (hbr.cell (p := ⟨qg, k * 2, none⟩) hqblk.lt).trans (own_cell h6 (j := k * 2) hk0)
      have e1 := (hbr.cell (p := ⟨qg, k * 2 + 1, none⟩) hqblk.lt).trans (own_cell h6 (j := k * 2 + 1) hk1)
      have h8q := h8 q (List.mem_of_getElem? hqk)
      have HQK := Lib.hid hqk; clear hqk hk0 hk1
      go_wp2_with fail
      have hW : Below wr.heap.size wr (wr.alloc (.cells #[.int .i64 q.at_, .slice (some ⟨q.g, 0, none⟩) 128 q.cap] 78)) := (Below.refl _ _).alloc (Nat.le_refl _) _
      have hN := Blk.new wr 78 #[.int .i64 q.at_, .slice (some ⟨q.g, 0, none⟩) 128 q.cap]
      have hgl := hcu.lt
      obtain ⟨z, hz⟩ : ∃ z, z = wr.heap.size := ⟨_, rfl⟩
      rw [← hz] at hN hW hgl ⊢
      generalize wr.alloc (.cells #[.int .i64 q.at_, .slice (some ⟨q.g, 0, none⟩) 128 q.cap] 78) = W at hW hN ⊢
      have n0 : W.cell? ⟨z, 0, none⟩ = some (.int .i64 q.at_) := hN.cell 0
      have n1 : W.cell? ⟨z, 1, none⟩ = some (.slice (some ⟨q.g, 0, none⟩) 128 q.cap) := hN.cell 1
      have hcuW : Blk W g 5 cu := hcu.below hW hgl
      have hqW : w.heap[q.g]? = wr.heap[q.g]? := (hbr.block _ (h8q.1.lt q.g rfl).2).symm
      have hsq : Sees W 1 (some ⟨q.g, 0, none⟩) 128 (u8s q.l) := Sees.keep (Sees.of_own h8q.1) (by
        intro g' off e hg'
        injection e with e
        injection e with e1 e2
        subst e1
        rw [hW.block _ (by have := hbr.size; omega)]
        exact hbr.block _ hg')
      have HN := Lib.hid hN; clear hN
      have HC := Lib.hid hcu; clear hcu
      have HCW := Lib.hid hcuW; clear hcuW
      have HZ := Lib.hid hz; clear hz
      have Hcut := Lib.hid hcut; clear hcut
      have Hqw := Lib.hid hqW; clear hqW
      have hp1 : (q.at_ + 1) * 128 ≤ D.safe.length := h8q.2.2.2.2
      go_region_held3 (fun w' => w'.cell? ⟨z, 0, none⟩ = some (.int .i64 q.at_) ∧ w'.cell? ⟨z, 1, none⟩ = some (.slice (some ⟨q.g, 0, none⟩) 128 q.cap))
        (first
          | go_keep
          | exact ⟨hF2.cell n0 (show ¬ z = g by omega), hF2.cell n1 (show ¬ z = g by omega)⟩)
        (first
          | (go_at_call 36; refine (part_any g 0 D.safe.length cap q.at_ _ hcap hcm (by omega) (by omega)).mono ?_; rintro e w' ⟨⟨c', hc1, hc2, rfl⟩, rfl⟩)
          | (refine step_cpy rfl (.tmp 23) (.tmp 25) 35 35 rfl 5 Tryd.underlying35 (by kernel_rfl) g _ 128 c' (some ⟨q.g, 0, none⟩) 128 q.cap rfl rfl cu 5 HCW.out (u8s q.l) hsq (by omega) (u8s_one _) ?_; intro w2 hB2 hF2))
      go_wp2_with fail
      go_roundw
      case rel =>
        refine ⟨k + 1, by omega, by go_num, ⟨_, hB2, ?_, ?_⟩, ?_⟩
        · have := length_splice cu.toList (q.at_ * 128) ((u8s q.l).take 128) (by simp; omega)
          simp at this ⊢
          omega
        · have hl : q.l.length = 128 := h8q.2.2.2.1
          rw [List.take_of_length_le (by simp; omega : (u8s q.l).length ≤ 128)]
          have h3 := take_splice cu.toList (q.at_ * 128) D.safe.length (u8s q.l) (by simp; omega)
          rw [List.toList_toArray, h3, Hcut.out, ← u8s_splice, List.take_add_one, HQK.out, Option.toList_some, List.map_append, List.map_cons, List.map_nil, puts_snoc]
          rfl
        · have h1 : w.heap.size ≤ z := by have := hbr.size; rw [← HZ.out] at this; exact this
          have h2 : Below w.heap.size W.drew w2 := hF2.below (by have := hW.size; rw [← HZ.out] at this; exact Nat.le_trans h1 this) (by rintro k rfl; exact hg)
          exact hbr.trans ((hW.mono h1).drew.trans h2)
      case measure => simp [intOf]; omega
    · obtain rfl : k = Q.length := by omega
      have hge : ¬ ((Q.length : Int) < (Q.length : Int)) := by omega
      have Hcut := Lib.hid hcut; clear hcut
      have HC := Lib.hid hcu; clear hcu
      go_wp2_with fail
      go_ret
      refine ⟨⟨_, rfl, ?_⟩, hbr⟩
      have := Hcut.out
      rw [List.take_length, ← H9.out] at this
      exact own_mk hg HC.out hcap hcm (by omega) (by simpa [Dk.image] using this)
end Go.Proofs.YtldgnckchlbadaaDoor

namespace Go.Proofs.YtldgnckchlbadaaDoor
set_option maxRecDepth 4000
open Go.RowKit

theorem info_write : (Tryd.prog.info? 78).map (fun i => (i.zero, i.size, i.bytes)) = some (some (.agg #[.int .i64 0, .slice none 0 0]), 2, 32) := by kernel_rfl

/-- From w on the disk at b has become D, and nothing else that was there has turned. -/
def DiskTo (w : World) (b : Nat) (F : Nat → Prop) (D : Dk) (w' : World) : Prop :=
  ∃ F', DiskAt w' b F' D ∧ Fr F w w' ∧ ∀ k, k < w.heap.size → F' k → F k

theorem DiskTo.refl {w : World} {b : Nat} {F : Nat → Prop} {D : Dk} (h : DiskAt w b F D) : DiskTo w b F D w := ⟨F, h, Fr.refl _ _, fun _ _ h => h⟩
theorem DiskTo.below {w w1 w2 : World} {b : Nat} {F : Nat → Prop} {D : Dk} (h : DiskTo w b F D w1) (hb : Below w1.heap.size w1 w2) : DiskTo w b F D w2 := by
  obtain ⟨F', h1, h2, h3⟩ := h
  exact ⟨F', h1.below hb, h2.trans (Fr.of_below hb F) (fun _ _ h => h), h3⟩

theorem DiskAt.restrict {w : World} {b : Nat} {F : Nat → Prop} {D : Dk} (h : DiskAt w b F D) : DiskAt w b (fun k => F k ∧ k < w.heap.size) D := by
  obtain ⟨s, sc, cur, qA, qc, Q, ⟨h1, h2⟩, ⟨h3, h4, h5⟩, ⟨h6, h7⟩, h8, h9⟩ := h
  refine ⟨s, sc, cur, qA, qc, Q, ⟨h1, h2, h1.lt⟩, ⟨h3, ⟨h4, h3.lt⟩, h5⟩, ⟨h6, fun a ha => ⟨h7 a ha, ?_⟩⟩, fun q hq => ⟨(h8 q hq).1, ⟨(h8 q hq).2.1, ((h8 q hq).1.lt q.g rfl).2⟩, (h8 q hq).2.2⟩, h9⟩
  subst ha
  exact (h6.lt a.block rfl).2

/-- What the next call may build on: the disk in blocks from B on that are there. -/
theorem DiskTo.next {w : World} {b B : Nat} {F : Nat → Prop} {D : Dk} {w' : World} (h : DiskTo w b F D w') (hF : ∀ k, F k → B ≤ k) (hB : B ≤ w.heap.size) :
    ∃ F', DiskAt w' b F' D ∧ (∀ k, F' k → B ≤ k ∧ k < w'.heap.size) ∧ (∀ k, k < w.heap.size → F' k → F k) ∧ Fr F w w' ∧ Below B w w' := by
  obtain ⟨F', h1, h2, h3⟩ := h
  refine ⟨_, h1.restrict, fun k hk => ⟨?_, hk.2⟩, fun k hk hF => h3 k hk hF.1, h2, h2.below hB hF⟩
  rcases Nat.lt_or_ge k w.heap.size with hl | hl
  · exact hF k (h3 k hl hk.1)
  · omega

/-- The count of calls goes on. -/
theorem DiskAt.set2 {w w' : World} {b : Nat} {F : Nat → Prop} {D : Dk} {u : Value × Value} {k : Int} (h : DiskAt w b F D) (hu : Blk w b 58 #[u.1, u.2, .int .i64 D.calls]) (hb : Blk w' b 58 #[u.1, u.2, .int .i64 k]) (hf : Fr (· = b) w w') :
    DiskAt w' b F { D with calls := k } := by
  obtain ⟨s, sc, cur, qA, qc, Q, ⟨h1, h2⟩, ⟨h3, h4, h5⟩, ⟨h6, h7⟩, h8, h9⟩ := h
  have e := hu.symm.trans h1
  simp at e
  obtain ⟨e1, e2⟩ := e
  refine ⟨s, sc, cur, qA, qc, Q, ⟨by rw [← e1, ← e2]; exact hb, h2⟩, ⟨h3.fr hf (h3.same h1 (by decide)), h4, h5⟩, ⟨own_fr h6 hf (own_ne h6 h1 (by decide)), h7⟩, fun q hq => ⟨own_fr (h8 q hq).1 hf (own_ne (h8 q hq).1 h1 (by decide)), (h8 q hq).2⟩, h9⟩

theorem call_disk (b : Nat) (F : Nat → Prop) (D : Dk) (w : World) (hD : DiskAt w b F D) (hhi : D.calls ≤ 9223372036854775807) :
    Calls Tryd.prog 45 #[.pointer (some ⟨b, 0, none⟩)] w fun e w' => e = .returned (.bool (decide (D.calls ≠ 0))) ∧ DiskAt w' b F { D with calls := nextCalls D.calls } ∧ Fr F w w' ∧ w'.heap.size = w.heap.size := by
  have hD' := hD
  obtain ⟨s, sc, cur, qA, qc, Q, ⟨h1, h2⟩, -⟩ := hD
  refine (call_any b D.calls (_, _) w h1 hhi).mono ?_
  rintro e w' ⟨rfl, hb, hf, hz⟩
  exact ⟨rfl, hD'.set2 (u := (_, _)) h1 hb hf, hf.mono (fun k _ hk => by subst hk; exact h2), hz⟩

theorem there_disk (b : Nat) (F : Nat → Prop) (D : Dk) (at_ k : Int) (w : World) (hD : DiskAt w b F D) (hok : D.Ok) :
    Calls Tryd.prog 44 #[.pointer (some ⟨b, 0, none⟩), .int .i64 at_, .int .i64 k] w fun e w' => e = .returned (.bool (thereB at_ k D.size)) ∧ w = w' := by
  obtain ⟨s, sc, cur, qA, qc, Q, ⟨h1, h2⟩, -⟩ := hD
  exact there_any b at_ k _ D.safe.length sc w (by have := hok.most; unfold maxLen; omega) (h1.cell 0)
end Go.Proofs.YtldgnckchlbadaaDoor

namespace Go.Proofs.YtldgnckchlbadaaDoor
set_option maxRecDepth 4000
open Go.RowKit

set_option maxHeartbeats 1000000 in
theorem write_bad (b : Nat) (F : Nat → Prop) (D : Dk) (at_ : Int) (A : Option Addr) (c : Nat) (l : List UInt8) (w : World) (hD : DiskAt w b F D) (hok : D.Ok) (hlen : l.length ≤ 140737488355328) (he : D.writeE at_ l ≠ 0) :
    Calls Tryd.prog 33 #[.pointer (some ⟨b, 0, none⟩), .int .i64 at_, .slice A l.length c] w fun e w' => e = .returned (.int .i64 (D.writeE at_ l)) ∧ DiskTo w b F D w' := by
  by_cases h1 : l.length % 128 = 0
  · by_cases h2 : thereN at_ (l.length / 128) D.size = true
    · by_cases h3 : D.calls = 0
      · have hfin : D.writeE at_ l = 22 := by simp [Dk.writeE, h1, h2, h3]
        rw [hfin]
        have hd : decide (D.calls ≠ 0) = false := by simp [h3]
        have hn : ({ D with calls := nextCalls D.calls } : Dk) = D := by cases D; simp at h3; simp [nextCalls, h3]
        have ht := there_disk b F D at_ (l.length / 128 : Nat) w hD hok
        have hc := call_disk b F D w hD hok.hi
        rw [show thereB at_ ((l.length / 128 : Nat) : Int) D.size = true from h2] at ht
        rw [hd, hn] at hc
        have HT := Lib.hid ht; clear ht
        have HC := Lib.hid hc; clear hc
        have HN := Lib.hid hn; clear hn
        clear h2 h3 hd he hfin
        have h1' : (((l.length : Int) % 128) != 0) = false := by simp; omega
        go_enter Tryd.func33, Tryd.ntmps33
        go_wp2_with fail
        refine HT.out.mono ?_
        rintro e w' ⟨rfl, rfl⟩
        go_wp2_with fail
        refine HC.out.mono ?_
        rintro e w' ⟨rfl, hD', hF, _⟩
        go_wp2_with fail
        go_ret
        exact ⟨rfl, F, hD', hF, fun _ _ h => h⟩
      · exact absurd (by simp [Dk.writeE, h1, h2, h3]) he
    · have h2' : thereN at_ (l.length / 128) D.size = false := by simpa using h2
      have hfin : D.writeE at_ l = 20 := by simp [Dk.writeE, h1, h2']
      rw [hfin]
      have ht := there_disk b F D at_ (l.length / 128 : Nat) w hD hok
      rw [show thereB at_ ((l.length / 128 : Nat) : Int) D.size = false from h2'] at ht
      have HT := Lib.hid ht; clear ht
      clear h2 h2' he hfin
      have h1' : (((l.length : Int) % 128) != 0) = false := by simp; omega
      go_enter Tryd.func33, Tryd.ntmps33
      go_wp2_with fail
      refine HT.out.mono ?_
      rintro e w' ⟨rfl, rfl⟩
      go_wp2_with fail
      go_ret
      exact ⟨rfl, DiskTo.refl hD⟩
  · have hfin : D.writeE at_ l = 2 := by simp [Dk.writeE, h1]
    rw [hfin]
    have h1' : (((l.length : Int) % 128) != 0) = true := by simp; omega
    go_enter Tryd.func33, Tryd.ntmps33
    go_wp2_with fail
    go_ret
    exact ⟨rfl, DiskTo.refl hD⟩


/-- One sector more waits. -/
theorem push_step {w wr W1 W2 : World} {b : Nat} {F F' : Nat → Prop} {D : Dk} {a k m : Nat} {l : List UInt8} (hl : l.length = m * 128) (hk : k < m) (hfit : (a + m) * 128 ≤ D.safe.length)
    (hF1 : Fr F w wr) (hsub : ∀ k, k < w.heap.size → F' k → F k)
    {s sc : Nat} {cur : Array Value} {qA : Option Addr} {qc : Nat} {Q : List Qe}
    (h1 : Blk wr b 58 #[.slice (some ⟨s, 0, none⟩) D.safe.length sc, .slice qA Q.length qc, .int .i64 (nextCalls D.calls)]) (h2 : F' b)
    (h3 : Blk wr s 5 cur) (h4 : F' s) (h5 : D.safe.length ≤ sc) (h5a : sc ≤ maxLen) (h5b : cur.size = sc) (h5c : cur.toList.take D.safe.length = u8s D.safe)
    (h6 : wr.ownsRow 0 78 2 (.slice qA Q.length qc) Q.length (Q.flatMap Qe.cells)) (h7 : ∀ a, qA = some a → F' a.block)
    (h8 : ∀ q ∈ Q, wr.ownsRow 0 5 1 (.slice (some ⟨q.g, 0, none⟩) 128 q.cap) 128 (u8s q.l) ∧ F' q.g ∧ q.g ≠ s ∧ q.l.length = 128 ∧ (q.at_ + 1) * 128 ≤ D.safe.length)
    (h9 : (D.push a l k).queue = Q.map Qe.data)
    (hb1 : Below wr.heap.size wr W1) {g cap : Nat} (hg : wr.heap.size ≤ g) (hown1 : W1.ownsRow wr.heap.size 5 1 (.slice (some ⟨g, 0, none⟩) 128 cap) 128 (u8s (sect l k)))
    {cs : Array Value} {g2 cap2 : Nat} (hown2 : W2.ownsRow 0 78 2 (.slice (some ⟨g2, 0, none⟩) (Q.length + 1) cap2) (Q.length + 1) (Q.flatMap Qe.cells ++ [.int .i64 ((a : Int) + k), .slice (some ⟨g, 0, none⟩) 128 cap]))
    (hgrow2 : (W1.alloc (.cells cs 78)).grownBy W2 (Value.slice qA Q.length qc).ownBlock)
    (hat2 : (Value.slice (some ⟨g2, 0, none⟩) (Q.length + 1) cap2).ownBlock = (Value.slice qA Q.length qc).ownBlock ∨ (Value.slice (some ⟨g2, 0, none⟩) (Q.length + 1) cap2).ownBlock = some (W1.alloc (.cells cs 78)).heap.size) :
    DiskTo w b F (D.push a l (k + 1)) (W2.setCell ⟨b, 1, none⟩ (.slice (some ⟨g2, 0, none⟩) (Q.length + 1) cap2)) := by
  have hqb := own_ne h6 h1 (by decide)
  have hqs := own_ne h6 h3 (by decide)
  have hbl := h1.lt
  have hw1 := hb1.size
  have hqF : ∀ x, (Value.slice qA Q.length qc).ownBlock = some x → F' x := by
    intro x hx
    rcases qA with _ | ad
    · cases hx
    · simp [Value.ownBlock] at hx
      subst hx
      exact h7 ad rfl
  have hql : ∀ x, (Value.slice qA Q.length qc).ownBlock = some x → x < wr.heap.size := fun x hx => (h6.lt x hx).2
  have hf2 : Fr (fun x => (Value.slice qA Q.length qc).ownBlock = some x) wr W2 := by
    refine ((Fr.of_below hb1 _).trans (Fr.alloc W1 (.cells cs 78) (fun x => (Value.slice qA Q.length qc).ownBlock = some x)) (fun _ _ h => h)).trans (Fr.of_grown hgrow2 (fun k hk => hk)) (fun _ _ h => h)
  have hf3 : Fr (fun x => x = b ∨ (Value.slice qA Q.length qc).ownBlock = some x) wr (W2.setCell ⟨b, 1, none⟩ (.slice (some ⟨g2, 0, none⟩) (Q.length + 1) cap2)) :=
    (hf2.mono (fun _ _ h => .inr h)).trans (Fr.setCell (F := fun x => x = b ∨ (Value.slice qA Q.length qc).ownBlock = some x) W2 ⟨b, 1, none⟩ _ (.inl rfl)) (fun _ _ h => h)
  have hB2 : Blk W2 b 58 #[.slice (some ⟨s, 0, none⟩) D.safe.length sc, .slice qA Q.length qc, .int .i64 (nextCalls D.calls)] := h1.fr hf2 (fun h => hqb b h rfl)
  have hg2b : g2 ≠ b := by
    rcases hat2 with e | e
    · exact fun h => hqb g2 e.symm h
    · simp [Value.ownBlock] at e; omega
  have hgW2 : W2.heap[g]? = W1.heap[g]? := by
    have hlt : g < W1.heap.size := (hown1.lt g rfl).2
    rw [hgrow2.block g (by simp; omega) (fun e => by have := hql g e.symm; omega)]
    exact Below.heap_alloc _ _ _ hlt
  refine ⟨fun x => F' x ∨ wr.heap.size ≤ x, ⟨s, sc, cur, some ⟨g2, 0, none⟩, cap2, Q ++ [⟨a + k, g, cap, sect l k⟩], ⟨?_, .inl h2⟩, ⟨h3.fr hf3 (by
      rintro (h | h)
      · exact h3.same h1 (by decide) h
      · exact hqs s h rfl), .inl h4, h5, h5a, h5b, h5c⟩, ⟨?_, ?_⟩, ?_, ?_⟩, ?_, ?_⟩
  · have := hB2.set_ 1 (.slice (some ⟨g2, 0, none⟩) (Q.length + 1) cap2)
    simpa [Dk.push] using this
  · rw [List.length_append, List.flatMap_append]
    have : List.flatMap Qe.cells [⟨a + k, g, cap, sect l k⟩] = [.int .i64 ((a : Int) + k), .slice (some ⟨g, 0, none⟩) 128 cap] := by simp [Qe.cells]
    rw [this]
    exact own_keep hown2 (fun x hx => Below.heap_setCell _ _ _ _ (by simp [Value.ownBlock] at hx; subst hx; exact hg2b))
  · intro ad had
    injection had with had
    subst had
    rcases hat2 with e | e
    · exact .inl (hqF g2 e.symm)
    · simp [Value.ownBlock] at e; exact .inr (by show _ ≤ g2; omega)
  · intro q hq
    rcases List.mem_append.1 hq with hq | hq
    · obtain ⟨a1, a2, a3⟩ := h8 q hq
      exact ⟨own_fr a1 hf3 (by
        intro x hx
        rintro (h | h)
        · exact own_ne a1 h1 (by decide) x hx h
        · exact own_ne2 a1 h6 (by decide) x hx h), .inl a2, a3⟩
    · simp at hq
      subst hq
      refine ⟨own_base (own_keep hown1 ?_) (Nat.zero_le _), .inr hg, ?_, length_sect l k (by omega), by show (a + k + 1) * 128 ≤ D.safe.length; omega⟩
      · intro x hx
        simp [Value.ownBlock] at hx
        subst hx
        rw [Below.heap_setCell _ _ _ _ (show g ≠ b by omega)]
        exact hgW2
      · have := h3.lt; show g ≠ s; omega
  · have := congrArg (· ++ [(a + k, sect l k)]) h9
    simp only [Dk.push, parts_succ, List.map_append] at this ⊢
    rw [← List.append_assoc]
    exact this
  · refine hF1.trans hf3 (fun x hx h => hsub x hx ?_)
    rcases h with h | h
    · rw [h]; exact h2
    · exact hqF x h
  · intro x hx h
    rcases h with h | h
    · exact hsub x hx h
    · have := hF1.size; omega

set_option maxHeartbeats 1000000 in
theorem write_good (b : Nat) (F : Nat → Prop) (D : Dk) (a m : Nat) (A : Option Addr) (c : Nat) (l : List UInt8) (w : World) (hD : DiskAt w b F D) (hok : D.Ok) (hlen : l.length = m * 128) (hc : m * 128 ≤ c) (hcm : c ≤ maxLen)
    (hS : Sees w 1 A (m * 128) (u8s l)) (hA : 0 < m → ∀ a, A = some a → ¬ F a.block) (hq : D.queue.length ≤ 1099511627776) (hfit : (a + m) * 128 ≤ D.safe.length) (hcl : D.calls ≠ 0) :
    Calls Tryd.prog 33 #[.pointer (some ⟨b, 0, none⟩), .int .i64 a, .slice A (m * 128 : Nat) c] w fun e w' => e = .returned (.int .i64 0) ∧ DiskTo w b F (D.push a l m) w' := by
  have hmost := hok.most
  have ht := there_disk b F D a m w hD hok
  have hth : thereB a m D.size = true := by
    simp only [thereB, Dk.size]
    exact decide_eq_true (by have := hok.whole; omega)
  rw [hth] at ht
  have hc2 := call_disk b F D w hD hok.hi
  rw [show decide (D.calls ≠ 0) = true by simp [hcl]] at hc2
  have HT := Lib.hid ht; clear ht
  have HC := Lib.hid hc2; clear hc2
  have HL := Lib.hid hlen; clear hlen hth
  have h1' : (((m * 128 : Nat) : Int) % 128 != 0) = false := by simp
  go_enter Tryd.func33, Tryd.ntmps33
  go_wp2_with fail
  refine HT.out.mono ?_
  rintro e w' ⟨rfl, rfl⟩
  go_wp2_with fail
  refine HC.out.mono ?_
  rintro e w' ⟨rfl, hD', hF, _⟩
  go_wp2_with fail
  have h0 : DiskTo w b F (D.push a l 0) w' := ⟨F, by simpa [Dk.push, parts_zero] using hD', hF, fun _ _ h => h⟩
  go_loopw [28] (fun i wr => ∃ k : Nat, k ≤ m ∧ i = .int .i64 k ∧ DiskTo w b F (D.push a l k) wr) (fun i _ => m - (intOf i).toNat)
  case atStart => exact ⟨0, Nat.zero_le _, rfl, h0⟩
  case round =>
    obtain ⟨k, hk, rfl, F', hD1, hF1, hsub⟩ := hrel
    by_cases hlt : k < m
    · have hlti : (k : Int) < (m : Int) := by omega
      obtain ⟨sg, so, rfl, -⟩ := hS.2 (by omega)
      have hSr : Sees wr 1 (some ⟨sg, so, none⟩) (m * 128) (u8s l) := hS.fr hF1 (fun h => hA (by omega))
      have hsp : Sees wr 1 (some ⟨sg, so + k * 128, none⟩) 128 (u8s (sect l k)) := by
        have := hSr.piece (k * 128) 128 (by omega)
        rwa [← u8s_drop, ← u8s_take] at this
      obtain ⟨s, sc, cur, qA, qc, Q, ⟨h1, h2⟩, ⟨h3, h4, h5, h5a, h5b, h5c⟩, ⟨h6, h7⟩, h8, h9⟩ := hD1
      have c1 : wr.cell? ⟨b, 1, none⟩ = some (.slice qA Q.length qc) := h1.cell 1
      have hQl : Q.length ≤ 1099511627776 + k := by
        have := congrArg List.length h9
        simp [Dk.push, parts] at this
        omega
      have hqb := own_ne h6 h1 (by decide)
      have HA := Lib.hid hA; clear hA
      have H1 := Lib.hid h1; clear h1
      have H3 := Lib.hid h3; clear h3
      have H5b := Lib.hid h5b; clear h5b
      have H5c := Lib.hid h5c; clear h5c
      have H9 := Lib.hid h9; clear h9
      have H7 := Lib.hid h7; clear h7
      have H8 := Lib.hid h8; clear h8
      have HQB := Lib.hid hqb; clear hqb
      have HS := Lib.hid hS; clear hS
      have hak : (a : Int) + (k : Int) ≤ 8388608 := by omega
      have hsum : IntKind.i64.wrap ((a : Int) + (k : Int)) = (a : Int) + (k : Int) := IntWalk.i64_in _ (by omega)
      go_wp2_with fail
      refine region_fast [(0, true), (1, true), (2, true), (3, true), (4, true), (5, true), (6, true), (7, true), (8, true), (9, true), (10, false), (11, false), (12, true), (13, false), (14, false), (15, true), (16, true), (17, false)] [1, 2, 3, 4, 5, 6, 7, 8, 9, 10, 11, 12, 13, 14] 32766 [(2147483648, 1, 0, 0), (4294967296, 1, 0, 0), (8589934592, 4294967296, 2, 2), (17179869184, 8589934592, 4, 6), (34359738368, 17179869184, 8, 14), (68719476736, 2, 0, 0), (137438953472, 256, 0, 0), (274877906944, 206158430208, 96, 96), (549755813888, 4, 0, 0), (1099511627776, 256, 0, 0), (2199023255552, 1649267441664, 768, 768), (4398046511104, 2199023255552, 1024, 1792), (8796093022208, 4672924418048, 2176, 4064), (17592186044416, 8796093022208, 4096, 8160), (35184372088832, 17626545782784, 10256, 16382), (70368744177664, 2147483648, 32767, 32767), (140737488355328, 70368744177664, 65535, 65535), (0, 175921860444160, 98303, 131071)] (fun w' => w'.cell? ⟨b, 1, none⟩ = some (.slice qA Q.length qc)) (by kernel_rfl) (by kernel_rfl) (by kernel_rfl) rfl (by kernel_rfl) (by kernel_rfl) c1 (fun hS => ?_)
      repeat (refine plan_read (v := ?_) rfl (fun _ _ _ h => h) rfl hS ?_ ?_; rotate_left 1; (focus (intro w' hS'; go_simp; try rfl)); simp only [Act.put, List.setIfInBounds_toArray, List.set_cons_zero, List.set_cons_succ])
      -- part
      refine plan_do (by rfl) (by rfl) (fun K hK => ?_)
      go_simp
      refine (part_any sg so (m * 128) c k _ hc hcm (by omega) (by omega)).mono ?_
      rintro e w' ⟨⟨c', hc1, hc2, rfl⟩, rfl⟩
      refine hK.out _ _ (fun _ => hS) (fun _ => ?_); clear hK K
      try simp only [Act.put, List.setIfInBounds_toArray, List.set_cons_zero, List.set_cons_succ]
      -- Clone
      refine plan_do (by rfl) (by rfl) (fun K hK => ?_)
      go_simp
      refine (clone_any _ 128 _ (u8s (sect l k)) _ (by exact hsp) (u8s_one _) (by omega)).mono ?_
      rintro e W1 ⟨v, rfl, hown1, hb1⟩
      obtain ⟨g, cap, cur1, rfl, hg, hblk, hcap, hcapm, hcs, htk⟩ := own_open hown1 (by omega)
      have hq1 := own_below h6.drew hb1
      have hB1 : Blk W1 b 58 #[.slice (some ⟨s, 0, none⟩) D.safe.length sc, .slice qA Q.length qc, .int .i64 (nextCalls D.calls)] := (show Blk wr.drew b _ _ from H1.out).below hb1 H1.out.lt
      have c1w : W1.cell? ⟨b, 1, none⟩ = some (.slice qA Q.length qc) := hB1.cell 1
      refine hK.out _ _ (fun _ => c1w) (fun hS => ?_); clear hK K
      replace hS := hS rfl
      try simp only [Act.put, List.setIfInBounds_toArray, List.set_cons_zero, List.set_cons_succ]
      have HB1 := Lib.hid hB1; clear hB1
      have Hblk := Lib.hid hblk; clear hblk
      have Hcs := Lib.hid hcs; clear hcs
      have Htk := Lib.hid htk; clear htk
      repeat (refine plan_read (v := ?_) rfl (fun _ _ _ h => h) rfl hS ?_ ?_; rotate_left 1; (focus (intro w' hS'; go_simp; try rfl)); simp only [Act.put, List.setIfInBounds_toArray, List.set_cons_zero, List.set_cons_succ])
      refine plan_do (by rfl) (by rfl) (fun K hK => ?_)
      go_simp
      refine hK.out _ _ (fun _ => (HB1.out.alloc _).cell 1) (fun hS => ?_); clear hK K
      replace hS := hS rfl
      try simp only [Act.put, List.setIfInBounds_toArray, List.set_cons_zero, List.set_cons_succ]
      -- append
      refine plan_do (by rfl) (by rfl) (fun K hK => ?_)
      refine wp_app (.tmp 35) (.tmp 44) 56 rfl 0 78 _ 2 32 Tryd.underlying56 info_write rfl (by decide) (.slice qA Q.length qc) Q.length (Q.flatMap Qe.cells) rfl (own_below hq1 ((Below.refl _ _).alloc (Nat.le_refl _) _)) _ 1 _ [.int .i64 ((a : Int) + k), .slice (some ⟨g, 0, none⟩) 128 cap] rfl ?_ ?_ (by unfold maxLen; omega) (by omega) (Nat.zero_le _) ?_
      · refine ⟨rfl, fun _ => ⟨_, 0, rfl, fun j u hu => ?_⟩⟩
        rw [Nat.zero_add, (Blk.new _ _ _).cell j, List.getElem?_toArray]
        exact hu
      · intro u hu
        simp at hu
        rcases hu with rfl | rfl <;> rfl
      intro v2 W2 hown2 hgrow2 hat2 hnil2
      obtain ⟨g2, cap2, cur2, rfl, hg2, hblk2, r2⟩ := own_open hown2 (by omega)
      have hB2 := (HB1.out.alloc (.cells #[.int .i64 ((a : Int) + k), .slice (some ⟨g, 0, none⟩) 128 cap] 78)).keep (hgrow2.block b (by have := HB1.out.lt; simp; omega) (fun e => HQB.out b e.symm rfl))
      have c2 : W2.cell? ⟨b, 1, none⟩ = some (.slice qA Q.length qc) := hB2.cell 1
      have f2 := hB2.frozen 1
      have HB2 := Lib.hid hB2; clear hB2
      have Hblk2 := Lib.hid hblk2; clear hblk2
      refine hK.out _ _ (fun _ => c2) (fun hS => ?_); clear hK K
      replace hS := hS rfl
      try simp only [Act.put, List.setIfInBounds_toArray, List.set_cons_zero, List.set_cons_succ]
      repeat (refine plan_read (v := ?_) rfl (fun _ _ _ h => h) rfl hS ?_ ?_; rotate_left 1; (focus (intro w' hS'; go_simp; try rfl)); simp only [Act.put, List.setIfInBounds_toArray, List.set_cons_zero, List.set_cons_succ])
      -- store
      refine plan_do (by rfl) (by rfl) (fun K hK => ?_)
      go_simp
      refine hK.out _ _ (fun h => by cases h) (fun _ => ?_); clear hK K
      try simp only [Act.put, List.setIfInBounds_toArray, List.set_cons_zero, List.set_cons_succ]
      refine plan_nil ?_
      go_wp2_with fail
      go_roundw
      case rel => exact ⟨k + 1, by omega, by go_num, push_step HL.out hlt hfit hF1 hsub H1.out h2 H3.out h4 h5 h5a H5b.out H5c.out h6 H7.out H8.out H9.out (below_of_drew hb1) hg hown1 hown2 hgrow2 hat2⟩
      case measure => simp [intOf]; omega
    · obtain rfl : k = m := by omega
      have hge : ¬ ((k : Int) < (k : Int)) := by omega
      go_wp2_with fail
      go_ret
      exact ⟨rfl, F', hD1, hF1, hsub⟩
end Go.Proofs.YtldgnckchlbadaaDoor

namespace Go.Proofs.YtldgnckchlbadaaDoor
set_option maxRecDepth 4000
open Go.RowKit

theorem u8s_zero (n : Nat) : u8s (List.replicate n 0) = List.replicate n (.int .u8 0) := by simp [u8s]

def Dk.new (n : Nat) : Dk := { safe := List.replicate (n * 128) 0, queue := [], calls := -1 }
theorem Dk.ok_new {n : Nat} (h : 1 ≤ n) (h2 : n ≤ 65536) : (Dk.new n).Ok :=
  ⟨⟨n, by simp [Dk.new, Nat.mul_comm]⟩, by simp [Dk.new]; omega, by simp [Dk.new]; omega, (fun q hq => by cases hq), by simp [Dk.new], by simp [Dk.new]⟩

theorem new_bad (n : Int) (w : World) (h : n < 1 ∨ 65536 < n) :
    Calls Tryd.prog 5 #[.int .i64 n] w fun e w' => e = .returned (.tuple #[.pointer none, .int .i64 2]) ∧ w = w' := by
  by_cases h1 : n < 1
  · go_enter Tryd.func5, Tryd.ntmps5
    go_wp2
    go_ret2
    exact ⟨rfl, rfl⟩
  · have h2 : 65536 < n := by omega
    go_enter Tryd.func5, Tryd.ntmps5
    go_wp2
    go_ret2
    exact ⟨rfl, rfl⟩

theorem new_good (n : Nat) (w : World) (h1 : 1 ≤ n) (h2 : n ≤ 65536) :
    Calls Tryd.prog 5 #[.int .i64 n] w fun e w' => (∃ b F, e = .returned (.tuple #[.pointer (some ⟨b, 0, none⟩), .int .i64 0]) ∧ DiskAt w' b F (Dk.new n) ∧ ∀ k, F k → w.heap.size ≤ k ∧ k < w'.heap.size) ∧ Below w.heap.size w w' := by
  obtain ⟨i, hi, hz, hs, hb⟩ := info_parts info_byte
  go_enter Tryd.func5, Tryd.ntmps5
  go_wp2_with (refine wpList_make_full _ rfl (.tmp 11) (.tmp 11) 35 rfl w.heap.size 5 i (.int .u8 0) 1 Tryd.underlying35 hi hz hs .i64 .i64 ((n : Int) * 128) ((n : Int) * 128) (n * 128) rfl rfl (by simp) (by simp) (by rw [hb]; omega) (by unfold maxLen; omega) (Nat.le_refl _) ?_; intro w1 hown hgrow)
  go_ret2
  have hl : (Dk.new n).safe.length = n * 128 := by simp [Dk.new]
  obtain ⟨g, cap, cur, e, hg, hblk, hcap, hcm, hcs, htk⟩ := own_open hown (by omega)
  injection e with e1 e2 e3
  injection e1 with e1
  injection e1 with e1
  subst e1; subst e3
  have hb1 : Below w.heap.size w w1 := (Below.refl _ _).grown hgrow (Nat.le_refl _) (fun k h => by cases h)
  refine ⟨⟨_, fun k => w.heap.size ≤ k ∧ k < w1.heap.size + 1, rfl, ⟨w.heap.size, n * 128, cur, none, 0, [], ⟨?_, hb1.size, by omega⟩, ⟨hblk.alloc _, ⟨Nat.le_refl _, by have := hblk.lt; omega⟩, by omega, hcm, by omega, ?_⟩, ⟨World.ownsRow_nil _ _ _ _, fun a h => by cases h⟩, (fun q hq => by cases hq), rfl⟩, fun _ h => by simpa using h⟩, hb1.alloc hb1.size _⟩
  · rw [hl]; exact Blk.new _ _ _
  · rw [hl]
    rw [Nat.mul_one] at htk
    rw [htk]
    simp [Dk.new, u8s_zero, toList_madeCells_one, Value.cells]

def Dk.flushed (d : Dk) : Dk := { safe := d.image, queue := [], calls := nextCalls d.calls }
def Dk.flushE (d : Dk) : Int := if d.calls = 0 then 22 else 0
def Dk.flush (d : Dk) : Dk := if d.calls = 0 then d else d.flushed
theorem Dk.Ok.flushed {d : Dk} (h : d.Ok) : d.flushed.Ok := by
  have hl : d.flushed.safe.length = d.safe.length := h.image
  exact ⟨by rw [hl]; exact h.whole, by rw [hl]; exact h.pos, by rw [hl]; exact h.most, (fun q hq => by cases hq), (nextCalls_in _ h.lo h.hi).1, (nextCalls_in _ h.lo h.hi).2⟩

theorem calls_zero {D : Dk} (h : D.calls = 0) : ({ D with calls := nextCalls D.calls } : Dk) = D := by cases D; simp at h; simp [nextCalls, h]

theorem flush_bad (b : Nat) (F : Nat → Prop) (D : Dk) (w : World) (hD : DiskAt w b F D) (hok : D.Ok) (h0 : D.calls = 0) :
    Calls Tryd.prog 34 #[.pointer (some ⟨b, 0, none⟩)] w fun e w' => e = .returned (.int .i64 22) ∧ DiskTo w b F D w' := by
  have hc := call_disk b F D w hD hok.hi
  rw [show decide (D.calls ≠ 0) = false by simp [h0], calls_zero h0] at hc
  have HC := Lib.hid hc; clear hc
  clear h0
  go_enter Tryd.func34, Tryd.ntmps34
  go_wp2_with fail
  refine HC.out.mono ?_
  rintro e w' ⟨rfl, hD', hF, _⟩
  go_wp2_with fail
  go_ret
  exact ⟨rfl, F, hD', hF, fun _ _ h => h⟩

theorem flush_good (b : Nat) (F : Nat → Prop) (D : Dk) (w : World) (hD : DiskAt w b F D) (hok : D.Ok) (hq : D.queue.length ≤ 1099511627776) (h0 : D.calls ≠ 0) :
    Calls Tryd.prog 34 #[.pointer (some ⟨b, 0, none⟩)] w fun e w' => e = .returned (.int .i64 0) ∧ DiskTo w b F D.flushed w' := by
  have hc := call_disk b F D w hD hok.hi
  rw [show decide (D.calls ≠ 0) = true by simp [h0]] at hc
  have HC := Lib.hid hc; clear hc
  clear h0
  go_enter Tryd.func34, Tryd.ntmps34
  go_wp2_with fail
  refine HC.out.mono ?_
  rintro e w1 ⟨rfl, hD1, hF1, _⟩
  have hok1 : ({ D with calls := nextCalls D.calls } : Dk).Ok := ⟨hok.whole, hok.pos, hok.most, hok.fits, (nextCalls_in _ hok.lo hok.hi).1, (nextCalls_in _ hok.lo hok.hi).2⟩
  go_wp2_with fail
  refine (image_any b F _ w1 hD1 hok1 hq).mono ?_
  rintro e w2 ⟨⟨v, rfl, hown⟩, hb2⟩
  obtain ⟨g, cap, cur, rfl, hg, hblk, hcap, hcm, hcs, htk⟩ := own_open hown (by have := hok.pos; show 0 < D.safe.length; omega)
  obtain ⟨s, sc, cu, qA, qc, Q, ⟨h1, h2⟩, -⟩ := hD1
  have hB2 := h1.below hb2 h1.lt
  have c0 : w2.cell? ⟨b, 0, none⟩ = some (.slice (some ⟨s, 0, none⟩) D.safe.length sc) := hB2.cell 0
  have f0 := hB2.frozen 0
  have c1 : w2.cell? ⟨b, 1, none⟩ = some (.slice qA Q.length qc) := hB2.cell 1
  have f1 := hB2.frozen 1
  have HB2 := Lib.hid hB2; clear hB2
  have Hblk := Lib.hid hblk; clear hblk
  have Htk := Lib.hid htk; clear htk
  have Hcs := Lib.hid hcs; clear hcs
  have H1 := Lib.hid h1; clear h1
  go_wp2_with fail
  go_ret
  have hl : D.flushed.safe.length = D.safe.length := hok.image
  refine ⟨rfl, fun x => F x ∨ w1.heap.size ≤ x, ⟨g, cap, cur, none, 0, [], ⟨?_, .inl h2⟩, ⟨?_, .inr hg, ?_, hcm, by have := Hcs.out; omega, ?_⟩, ⟨World.ownsRow_nil _ _ _ _, fun a h => by cases h⟩, (fun q hq => by cases hq), rfl⟩, ?_, ?_⟩
  · rw [hl]
    exact (HB2.out.set_ 0 _).set_ 1 _
  · exact (Hblk.out.far (p := ⟨b, 0, none⟩) (show g ≠ b by have := H1.out.lt; omega) _).far (p := ⟨b, 1, none⟩) (show g ≠ b by have := H1.out.lt; omega) _
  · rw [hl]; exact hcap
  · rw [hl]
    have := Htk.out
    rw [Nat.mul_one] at this
    exact this
  · exact (hF1.trans (Fr.of_below hb2 F) (fun _ _ h => h)).trans ((Fr.setCell (F := F) w2 ⟨b, 0, none⟩ _ h2).trans (Fr.setCell (F := F) _ ⟨b, 1, none⟩ _ h2) (fun _ _ h => h)) (fun _ _ h => h)
  · intro k hk h
    rcases h with h | h
    · exact h
    · have := hF1.size; omega

/-- What Read gives. -/
def Dk.piece (d : Dk) (at_ n : Nat) : List UInt8 := (d.image.drop (at_ * 128)).take (n * 128)
def Dk.ticked (d : Dk) : Dk := { d with calls := nextCalls d.calls }
theorem Dk.Ok.ticked {d : Dk} (h : d.Ok) : d.ticked.Ok := ⟨h.whole, h.pos, h.most, h.fits, (nextCalls_in _ h.lo h.hi).1, (nextCalls_in _ h.lo h.hi).2⟩

theorem read_good (b : Nat) (F : Nat → Prop) (D : Dk) (a m : Nat) (w : World) (hD : DiskAt w b F D) (hok : D.Ok) (hq : D.queue.length ≤ 1099511627776) (h0 : D.calls ≠ 0) (hfit : (a + m) * 128 ≤ D.safe.length) :
    Calls Tryd.prog 22 #[.pointer (some ⟨b, 0, none⟩), .int .i64 a, .int .i64 m] w fun e w' => ∃ v, e = .returned (.tuple #[v, .int .i64 0]) ∧ w'.ownsRow w.heap.size 5 1 v (m * 128) (u8s (D.piece a m)) ∧ DiskAt w' b F D.ticked ∧ Fr F w w' := by
  have ht := there_disk b F D a m w hD hok
  have hth : thereB a m D.size = true := by
    simp only [thereB, Dk.size]
    exact decide_eq_true (by have := hok.whole; omega)
  rw [hth] at ht
  have hc := call_disk b F D w hD hok.hi
  rw [show decide (D.calls ≠ 0) = true by simp [h0]] at hc
  have HT := Lib.hid ht; clear ht
  have HC := Lib.hid hc; clear hc
  have hmost := hok.most
  have hpos := hok.pos
  clear h0 hth
  go_enter Tryd.func22, Tryd.ntmps22
  go_wp2_with fail
  refine HT.out.mono ?_
  rintro e w' ⟨rfl, rfl⟩
  go_wp2_with fail
  refine HC.out.mono ?_
  rintro e w1 ⟨rfl, hD1, hF1, hsz⟩
  go_wp2_with fail
  refine (image_any b F _ w1 hD1 hok.ticked hq).mono ?_
  rintro e w2 ⟨⟨v, rfl, hown⟩, hb2⟩
  obtain ⟨g, cap, cur, rfl, hg, hblk, hcap, hcm, hcs, htk⟩ := own_open hown (by show 0 < D.safe.length; omega)
  unfold maxLen at hcm
  go_wp2_with fail
  all_goals
    have hi : D.ticked.image.length = D.safe.length := hok.ticked.image
    have hsee0 : Sees w2 1 (some ⟨g, 0, none⟩) D.safe.length (u8s D.ticked.image) := Sees.of_own hown
    have hsee : ∀ off, m = 0 ∨ off = a * 128 → Sees w2 1 (some ⟨g, off, none⟩) (m * 128) (u8s (D.piece a m)) := by
      intro off h
      rcases h with rfl | rfl
      · have : D.piece a 0 = [] := by simp [Dk.piece]
        rw [this]; exact Sees.none_ _ _ _
      · have := hsee0.piece (a * 128) (m * 128) (by omega)
        rw [← u8s_drop, ← u8s_take, Nat.zero_add] at this
        exact this
    have hn : (a + m) * 128 - a * 128 = m * 128 := by omega
    have H2 := Lib.hid hi; clear hi
    have HN := Lib.hid hn; clear hn
    rw [HN.out]
    refine (clone_any _ (m * 128) _ (u8s (D.piece a m)) _ (hsee _ (by omega)) (u8s_one _) (by omega)).mono ?_
    rintro e w3 ⟨v, rfl, hown3, hb3⟩
    go_wp2_with fail
    go_ret2
    have hs : w.heap.size ≤ w2.heap.size := by have := hF1.size; have := hb2.size; omega
    exact ⟨v, rfl, own_base hown3 hs, (hD1.below hb2).below hb3, (hF1.trans (Fr.of_below hb2 F) (fun _ _ h => h)).trans (Fr.of_below hb3 F) (fun _ _ h => h)⟩
end Go.Proofs.YtldgnckchlbadaaDoor

namespace Go.Proofs.YtldgnckchlbadaaDoor
set_option maxRecDepth 4000
open Go.RowKit

def crashF (q : List (Nat × List UInt8)) (st : List UInt8 × List Int) (k : Int) : List UInt8 × List Int :=
  match q[k.toNat]? with
  | some x => if 0 ≤ k ∧ k ∉ st.2 then (put st.1 x, st.2 ++ [k]) else st
  | none => st
theorem crash_skip (q : List (Nat × List UInt8)) (st : List UInt8 × List Int) (k : Int) (h : k < 0 ∨ (q.length : Int) ≤ k ∨ k ∈ st.2) : crashF q st k = st := by
  unfold crashF
  cases hx : q[k.toNat]? with
  | none => rfl
  | some x =>
    have := (List.getElem?_eq_some_iff.1 hx).1
    exact if_neg (fun hh => by rcases h with h | h | h; omega; omega; exact hh.2 h)
theorem crash_do (q : List (Nat × List UInt8)) (st : List UInt8 × List Int) (k : Int) (x : Nat × List UInt8) (h0 : 0 ≤ k) (h1 : k ∉ st.2) (hx : q[k.toNat]? = some x) : crashF q st k = (put st.1 x, st.2 ++ [k]) := by
  unfold crashF
  rw [hx]
  exact if_pos ⟨h0, h1⟩
def crashS (D : Dk) (keep : List Int) : List UInt8 × List Int := keep.foldl (crashF D.queue) (D.safe, [])
def Dk.crashed (D : Dk) (keep : List Int) : Dk := { safe := (crashS D keep).1, queue := [], calls := -1 }

theorem crash_length (D : Dk) (hok : D.Ok) (keep : List Int) : (crashS D keep).1.length = D.safe.length := by
  suffices h : ∀ (l : List Int) (st : List UInt8 × List Int), st.1.length = D.safe.length → (l.foldl (crashF D.queue) st).1.length = D.safe.length from h keep _ rfl
  intro l
  induction l with
  | nil => intro st h; exact h
  | cons k l ih =>
    intro st h
    refine ih _ ?_
    unfold crashF
    split
    · rename_i x hx
      split
      · have := hok.fits x (List.mem_of_getElem? hx)
        show (put st.1 x).length = _
        rw [length_put _ _ this.1 (by rw [h]; exact this.2), h]
      · exact h
    · exact h
theorem Dk.Ok.crashed {D : Dk} (h : D.Ok) (keep : List Int) : (D.crashed keep).Ok := by
  have hl : (D.crashed keep).safe.length = D.safe.length := crash_length D h keep
  exact ⟨by rw [hl]; exact h.whole, by rw [hl]; exact h.pos, by rw [hl]; exact h.most, (fun q hq => by cases hq), by simp [Dk.crashed], by simp [Dk.crashed]⟩

/-- One of the waiting writes is let through. -/
theorem DiskParts.poke {w w' : World} {b : Nat} {F : Nat → Prop} {D : Dk} {s sc : Nat} {cur : Array Value} {qA : Option Addr} {qc : Nat} {Q : List Qe}
    (h : DiskParts w b F D s sc cur qA qc Q) (q : Qe) (hq : q ∈ Q) (hB : Blk w' s 5 (splice cur.toList (q.at_ * 128) ((u8s q.l).take 128)).toArray) (hf : Fr (· = s) w w') :
    DiskAt w' b F { D with safe := put D.safe q.data } := by
  obtain ⟨⟨h1, h2⟩, ⟨h3, h4, h5, h5a, h5b, h5c⟩, ⟨h6, h7⟩, h8, h9⟩ := h
  obtain ⟨-, -, -, hl, hfit⟩ := h8 q hq
  have hlp : (put D.safe q.data).length = D.safe.length := length_put _ _ hl hfit
  have htk : (u8s q.l).take 128 = u8s q.l := List.take_of_length_le (by simp; omega)
  rw [htk] at hB
  refine ⟨s, sc, _, qA, qc, Q, ⟨by rw [hlp]; exact h1.fr hf (fun h => h3.same h1 (by decide) h.symm), h2⟩, ⟨hB, h4, by rw [hlp]; exact h5, h5a, ?_, ?_⟩,
    ⟨own_fr h6 hf (fun g hg => own_ne h6 h3 (by decide) g hg), h7⟩, fun q' hq' => ?_, h9⟩
  · have := length_splice cur.toList (q.at_ * 128) (u8s q.l) (by simp; omega)
    simp at this ⊢
    omega
  · rw [hlp, List.toList_toArray, take_splice _ _ _ _ (by simp; omega), h5c, ← u8s_splice]
    rfl
  · obtain ⟨a1, a2, a3, a4, a5⟩ := h8 q' hq'
    refine ⟨own_fr a1 hf (fun g hg => ?_), a2, a3, a4, by rw [hlp]; exact a5⟩
    simp [Value.ownBlock] at hg
    subst hg
    exact a3

theorem lookup_seen (seen : List Int) (k : Int) : (seen.map fun x => (x, Value.bool true)).lookup k = if k ∈ seen then some (.bool true) else none := by
  induction seen with
  | nil => simp
  | cons x l ih =>
    simp only [List.map_cons, List.lookup]
    by_cases h : k = x
    · subst h; simp
    · have hb : (k == x) = false := by simpa using h
      simp [hb, ih, h]

/-- What a round of Crash finds, and keeps. -/
def CrashAt (w wr : World) (b mb : Nat) (F : Nat → Prop) (D : Dk) (keep : List Int) (j : Nat) : Prop :=
  IMap wr mb .i64 ((crashS D (keep.take j)).2.map fun x => (x, Value.bool true)) ∧ DiskAt wr b F { D with safe := (crashS D (keep.take j)).1 } ∧ Fr (fun k => F k) w wr

theorem crash_step (D : Dk) (keep : List Int) (j : Nat) (k : Int) (hk : keep[j]? = some k) : crashS D (keep.take (j + 1)) = crashF D.queue (crashS D (keep.take j)) k := by
  unfold crashS
  rw [List.take_add_one, hk, Option.toList_some, List.foldl_append]
  rfl

end Go.Proofs.YtldgnckchlbadaaDoor

namespace Go.Proofs.YtldgnckchlbadaaDoor
set_option maxRecDepth 4000
open Go.RowKit

/-- k octets c, then noughts: n in all. -/
def fillRow (k n : Nat) (c : UInt8) : Array Value := (u8s (List.replicate k c ++ List.replicate (n - k) 0)).toArray
theorem size_fillRow (k n : Nat) (c : UInt8) (h : k ≤ n) : (fillRow k n c).size = n := by simp [fillRow]; omega
theorem fillRow_zero (n : Nat) (c : UInt8) : fillRow 0 n c = (List.replicate n (Value.int .u8 0)).toArray := by simp [fillRow, u8s]
theorem fillRow_set (k n : Nat) (c : UInt8) (h : k < n) : (fillRow k n c).setIfInBounds k (.int .u8 (c.toNat : Int)) = fillRow (k + 1) n c := by
  have e : n - k = (n - (k + 1)) + 1 := by omega
  simp only [fillRow, List.setIfInBounds_toArray]
  congr 1
  rw [e, List.replicate_succ, u8s_append]
  simp only [u8s, List.map_cons, List.map_replicate, List.map_append]
  simp [List.set_append, List.replicate_succ']
theorem fillRow_get (k n : Nat) (c : UInt8) (h : k < n) : ∃ u, (fillRow k n c)[k]? = some u := by
  have := size_fillRow k n c (by omega)
  exact ⟨_, Array.getElem?_eq_getElem (by omega)⟩

def Dk.load (l : List UInt8) : Dk := { safe := l, queue := [], calls := -1 }
theorem Dk.ok_load {l : List UInt8} (h : 128 ∣ l.length) (h1 : 128 ≤ l.length) (h2 : l.length ≤ 8388608) : (Dk.load l).Ok :=
  ⟨h, h1, h2, (fun q hq => by cases hq), by simp [Dk.load], by simp [Dk.load]⟩

theorem load_odd (A : Option Addr) (n c : Nat) (w : World) (hn : n ≤ maxLen) (h : n % 128 ≠ 0) :
    Calls Tryd.prog 13 #[.slice A n c] w fun e w' => e = .returned (.tuple #[.pointer none, .int .i64 2]) ∧ w = w' := by
  unfold maxLen at hn
  have h1 : (((n : Int) % 128) != 0) = true := by simp; omega
  go_enter Tryd.func13, Tryd.ntmps13
  go_wp2_with fail
  go_ret2
  exact ⟨rfl, rfl⟩

theorem load_size (A : Option Addr) (n c : Nat) (w : World) (hn : n ≤ maxLen) (h : n % 128 = 0) (h2 : n < 128 ∨ 8388608 < n) :
    Calls Tryd.prog 13 #[.slice A n c] w fun e w' => e = .returned (.tuple #[.pointer none, .int .i64 2]) ∧ w = w' := by
  unfold maxLen at hn
  have h1 : (((n : Int) % 128) != 0) = false := by simp; omega
  go_enter Tryd.func13, Tryd.ntmps13
  go_wp2_with fail
  refine (new_bad _ _ (by omega)).mono ?_
  rintro e w' ⟨rfl, rfl⟩
  go_wp2_with fail
  go_ret2
  exact ⟨rfl, rfl⟩

theorem load_good (A : Option Addr) (m c : Nat) (l : List UInt8) (w : World) (hl : l.length = m * 128) (h1 : 1 ≤ m) (h2 : m ≤ 65536) (hS : Sees w 1 A (m * 128) (u8s l)) :
    Calls Tryd.prog 13 #[.slice A (m * 128 : Nat) c] w fun e w' => (∃ b F, e = .returned (.tuple #[.pointer (some ⟨b, 0, none⟩), .int .i64 0]) ∧ DiskAt w' b F (Dk.load l) ∧ ∀ k, F k → w.heap.size ≤ k ∧ k < w'.heap.size) ∧ Below w.heap.size w w' := by
  have h0 : (((m * 128 : Nat) : Int) % 128 != 0) = false := by simp
  have HL := Lib.hid hl; clear hl
  go_enter Tryd.func13, Tryd.ntmps13
  go_wp2_with fail
  refine (new_good m w h1 h2).mono ?_
  rintro e w1 ⟨⟨b, F, rfl, hD, hF⟩, hb1⟩
  have hS1 : Sees w1 1 A (m * 128) (u8s l) := hS.below hb1
  obtain ⟨s, sc, cur, qA, qc, Q, hP⟩ := hD
  have hP2 := hP
  have hsl : (Dk.new m).safe.length = m * 128 := by simp [Dk.new]
  obtain ⟨⟨g1, g2⟩, ⟨g3, g4, g5, g5a, g5b, g5c⟩, ⟨g6, g7⟩, g8, g9⟩ := hP
  rw [hsl] at g1 g5
  have c0 : w1.cell? ⟨b, 0, none⟩ = some (.slice (some ⟨s, 0, none⟩) (m * 128) sc) := g1.cell 0
  have hsb : s ≠ b := g3.same g1 (by decide)
  have G1 := Lib.hid g1; clear g1
  have G3 := Lib.hid g3; clear g3
  have G5c := Lib.hid g5c; clear g5c
  have G5b := Lib.hid g5b; clear g5b
  have G9 := Lib.hid g9; clear g9
  have HSL := Lib.hid hsl; clear hsl
  go_wp2_with (with_reducible refine wpList_cpy rfl (.tmp 23) (.tmp 24) 35 35 rfl 5 Tryd.underlying35 ?_ s 0 (m * 128) sc A (m * 128) c rfl rfl cur 5 G3.out (u8s l) hS1 ?_ ?_ ?_)
  case refine_1 => kernel_rfl
  case refine_2 => rw [G5b.out]; omega
  case refine_3 => exact u8s_one _
  intro w2 hB2 hF2
  rw [List.take_of_length_le (by rw [length_u8s, HL.out]; exact Nat.le_refl _)] at hB2
  have hlen : (u8s l).length = m * 128 := by rw [length_u8s, HL.out]
  have HLEN := Lib.hid hlen; clear hlen
  have HB2 := Lib.hid hB2; clear hB2
  go_wp2_with fail
  go_ret2
  have hsz : (Dk.load l).safe.length = m * 128 := HL.out
  have hQ : Q = [] := by
    have := G9.out
    simp [Dk.new] at this
    exact this
  subst hQ
  refine ⟨⟨b, F, rfl, ⟨s, sc, _, qA, qc, [], ⟨by rw [hsz]; exact G1.out.fr hF2 (fun h => hsb h.symm), g2⟩, ⟨HB2.out, g4, by rw [hsz]; exact g5, g5a, ?_, ?_⟩, ⟨own_fr g6 hF2 (own_ne g6 G3.out (by decide)), g7⟩, (fun q hq => by cases hq), rfl⟩, fun k hk => ⟨(hF k hk).1, Nat.lt_of_lt_of_le (hF k hk).2 hF2.size⟩⟩, ?_⟩
  · have := length_splice cur.toList 0 (u8s l) (by have := G5b.out; have := HLEN.out; simp at this ⊢; omega)
    have h5 := G5b.out
    simp at this ⊢
    omega
  · rw [hsz, List.toList_toArray]
    unfold splice
    rw [List.take_zero, List.nil_append, List.take_append_of_le_length (by rw [HLEN.out]; exact Nat.le_refl _), List.take_of_length_le (by rw [HLEN.out]; exact Nat.le_refl _)]
    rfl
  · exact hb1.trans (hF2.below hb1.size (fun k hk => by rw [hk]; exact (hF s g4).1))
end Go.Proofs.YtldgnckchlbadaaDoor

namespace Go.Proofs.YtldgnckchlbadaaDoor
set_option maxRecDepth 4000

/-- Writes of one sector each: the i-th goes to l[i] mod 8, full of c + i. -/
def sec (c i : Nat) : List UInt8 := List.replicate 128 (UInt8.ofNat (c + i))
def wroteTo (D : Dk) (c : Nat) (l : List UInt8) : Nat → Dk
  | 0 => D
  | k + 1 => (wroteTo D c l k).push ((l.getD k 0).toNat % 8) (sec c k) 1

theorem sect_sec (c i : Nat) : sect (sec c i) 0 = sec c i := by
  simp only [sect, sec, Nat.zero_mul, List.drop_zero]
  exact List.take_of_length_le (by rw [List.length_replicate]; exact Nat.le_refl _)
theorem parts_one (a : Nat) (l : List UInt8) : parts a l 1 = [(a, sect l 0)] := by simp [parts, List.range_succ]
theorem nextCalls_neg {k : Int} (h : k = -1) : nextCalls k = -1 := by subst h; rfl

theorem wroteTo_safe (D : Dk) (c : Nat) (l : List UInt8) (k : Nat) : (wroteTo D c l k).safe = D.safe := by
  induction k with
  | zero => rfl
  | succ k ih => exact ih
theorem wroteTo_calls (D : Dk) (c : Nat) (l : List UInt8) (h : D.calls = -1) (k : Nat) : (wroteTo D c l k).calls = -1 := by
  induction k with
  | zero => exact h
  | succ k ih => exact nextCalls_neg ih
theorem wroteTo_queue (D : Dk) (c : Nat) (l : List UInt8) (k : Nat) : (wroteTo D c l k).queue = D.queue ++ (List.range k).map fun i => ((l.getD i 0).toNat % 8, sec c i) := by
  induction k with
  | zero => simp [wroteTo]
  | succ k ih =>
    have : (wroteTo D c l (k + 1)).queue = (wroteTo D c l k).queue ++ parts ((l.getD k 0).toNat % 8) (sec c k) 1 := rfl
    rw [this, ih, parts_one, sect_sec, List.range_succ, List.map_append, List.append_assoc]
    rfl
theorem wroteTo_ok {D : Dk} (h : D.Ok) (hs : D.safe.length = 1024) (c : Nat) (l : List UInt8) (k : Nat) : (wroteTo D c l k).Ok := by
  induction k with
  | zero => exact h
  | succ k ih => exact ih.push _ _ 1 (by simp [sec]) (by rw [wroteTo_safe, hs]; omega)

theorem sect_length (l : List UInt8) (s : Nat) (h : (s + 1) * 128 ≤ l.length) : (sect l s).length = 128 := length_sect l s h

/-- A sector behind a put. -/
theorem sect_put (l : List UInt8) (a s : Nat) (b : List UInt8) (hb : b.length = 128) (ha : (a + 1) * 128 ≤ l.length) (hs : (s + 1) * 128 ≤ l.length) : sect (put l (a, b)) s = if a = s then b else sect l s := by
  have hl : (put l (a, b)).length = l.length := length_put l (a, b) hb ha
  apply List.ext_getElem?
  intro i
  by_cases hi : i < 128
  · have e1 : (sect (put l (a, b)) s)[i]? = (put l (a, b))[s * 128 + i]? := by simp [sect, List.getElem?_take, hi, List.getElem?_drop]
    have e2 : (sect l s)[i]? = l[s * 128 + i]? := by simp [sect, List.getElem?_take, hi, List.getElem?_drop]
    rw [e1]
    have e3 : (put l (a, b))[s * 128 + i]? = if a * 128 ≤ s * 128 + i ∧ s * 128 + i < a * 128 + 128 then b[s * 128 + i - a * 128]? else l[s * 128 + i]? := by
      show (splice l (a * 128) b)[s * 128 + i]? = _
      unfold splice
      have h1 : (l.take (a * 128)).length = a * 128 := by simp; omega
      by_cases h2 : s * 128 + i < a * 128
      · rw [if_neg (by omega), List.getElem?_append_left (by omega), List.getElem?_take, if_pos h2]
      · rw [List.getElem?_append_right (by omega), h1]
        by_cases h3 : s * 128 + i < a * 128 + 128
        · rw [if_pos (by omega), List.getElem?_append_left (by omega)]
        · rw [if_neg (by omega), List.getElem?_append_right (by omega), List.getElem?_drop, hb]
          have e : a * 128 + 128 + (s * 128 + i - a * 128 - 128) = s * 128 + i := by omega
          rw [e]
    rw [e3]
    by_cases h : a = s
    · subst h
      rw [if_pos (by omega), if_pos rfl]
      have e : a * 128 + i - a * 128 = i := by omega
      rw [e]
    · rw [if_neg (by omega), if_neg h, e2]
  · have h1 := sect_length (put l (a, b)) s (by rw [hl]; exact hs)
    have h2 := sect_length l s hs
    rw [List.getElem?_eq_none (by omega)]
    split
    · rw [List.getElem?_eq_none (by omega)]
    · rw [List.getElem?_eq_none (by omega)]

/-- Behind a crash each sector has one of its writes, or what it had. -/
theorem crash_sect (D : Dk) (hok : D.Ok) (keep : List Int) (s : Nat) (hs : (s + 1) * 128 ≤ D.safe.length) :
    sect (D.crashed keep).safe s = sect D.safe s ∨ ∃ q ∈ D.queue, q.1 = s ∧ sect (D.crashed keep).safe s = q.2 := by
  suffices h : ∀ (l : List Int) (st : List UInt8 × List Int), st.1.length = D.safe.length → (sect st.1 s = sect D.safe s ∨ ∃ q ∈ D.queue, q.1 = s ∧ sect st.1 s = q.2) →
      (sect (l.foldl (crashF D.queue) st).1 s = sect D.safe s ∨ ∃ q ∈ D.queue, q.1 = s ∧ sect (l.foldl (crashF D.queue) st).1 s = q.2) from h keep _ rfl (.inl rfl)
  intro l
  induction l with
  | nil => intro st _ h; exact h
  | cons k l ih =>
    intro st hl h
    refine ih _ ?_ ?_
    · unfold crashF
      split
      · rename_i x hx
        split
        · have := hok.fits x (List.mem_of_getElem? hx)
          show (put st.1 x).length = _
          rw [length_put _ _ this.1 (by rw [hl]; exact this.2), hl]
        · exact hl
      · exact hl
    · unfold crashF
      split
      · rename_i x hx
        split
        · have hm := List.mem_of_getElem? hx
          have hf := hok.fits x hm
          obtain ⟨xa, xb⟩ := x
          show sect (put st.1 (xa, xb)) s = _ ∨ ∃ q ∈ D.queue, q.1 = s ∧ sect (put st.1 (xa, xb)) s = q.2
          rw [sect_put st.1 xa s xb hf.1 (by rw [hl]; exact hf.2) (by rw [hl]; exact hs)]
          by_cases e : xa = s
          · rw [if_pos e]
            exact .inr ⟨_, hm, e, rfl⟩
          · rw [if_neg e]
            exact h
        · exact h
      · exact h

/-- The law's test of sector s, with the first k of the writes since. -/
def safeAny (now : List UInt8) (since : List UInt8) (s k : Nat) : Bool := (List.range k).any fun i => decide ((since.getD i 0).toNat % 8 = s) && decide (sect now s = sec 100 i)
theorem safeAny_succ (now since : List UInt8) (s k : Nat) : safeAny now since s (k + 1) = (safeAny now since s k || (decide ((since.getD k 0).toNat % 8 = s) && decide (sect now s = sec 100 k))) := by
  simp [safeAny, List.range_succ]

theorem safe_law (D : Dk) (hok : D.Ok) (hq : D.queue = []) (hs : D.safe.length = 1024) (since : List UInt8) (keep : List Int) (s : Nat) (h8 : s < 8) :
    (decide (sect ((wroteTo D 100 since since.length).crashed keep).image s = sect D.image s) || safeAny ((wroteTo D 100 since since.length).crashed keep).image since s since.length) = true := by
  have hwok := wroteTo_ok hok hs 100 since since.length
  have h := crash_sect _ hwok keep s (by rw [wroteTo_safe, hs]; omega)
  rw [wroteTo_safe, wroteTo_queue, hq, List.nil_append] at h
  have hi : D.image = D.safe := by rw [Dk.image, hq]; rfl
  have hi2 : ((wroteTo D 100 since since.length).crashed keep).image = ((wroteTo D 100 since since.length).crashed keep).safe := rfl
  rw [hi, hi2]
  rcases h with h | ⟨q, hq, h1, h2⟩
  · simp [h]
  · obtain ⟨i, hi, rfl⟩ := List.mem_map.1 hq
    rw [Bool.or_eq_true]
    refine .inr ?_
    unfold safeAny
    rw [List.any_eq_true]
    exact ⟨i, hi, by rw [Bool.and_eq_true]; exact ⟨decide_eq_true h1, decide_eq_true h2⟩⟩
end Go.Proofs.YtldgnckchlbadaaDoor
