/-
  The disk in memory; Image.
-/
import Derived.Test.YtnlghpopjckhiaaDisk1
namespace Go.Proofs.Ytnlghpopjckhiaa
set_option maxRecDepth 4000
open Go.RowKit

/-- A write that waits, as it lies in memory: its sector, its octets' block and capacity, its octets. -/
structure Qe where
  at_ : Nat
  g : Nat
  cap : Nat
  l : List UInt8
def Qe.cells (q : Qe) : List Value := [.int .i64 q.at_, .slice (some ⟨q.g, 0, none⟩) 128 q.cap]
def Qe.data (q : Qe) : Nat × List UInt8 := (q.at_, q.l)

/-- The parts of the disk D at block b, in the blocks F: its safe octets' block s, its queue's row, what waits. -/
def DiskParts (w : World) (b : Nat) (F : Nat → Prop) (D : Dk) (s sc : Nat) (cur : Array Value) (qA : Option Addr) (qc : Nat) (Q : List Qe) : Prop :=
  (Blk w b 59 #[.slice (some ⟨s, 0, none⟩) D.safe.length sc, .slice qA Q.length qc, .int .i64 D.calls] ∧ F b) ∧
  (Blk w s 5 cur ∧ F s ∧ D.safe.length ≤ sc ∧ sc ≤ maxLen ∧ cur.size = sc ∧ cur.toList.take D.safe.length = u8s D.safe) ∧
  (w.ownsRow 0 79 2 (.slice qA Q.length qc) Q.length (Q.flatMap Qe.cells) ∧ ∀ a, qA = some a → F a.block) ∧
  (∀ q ∈ Q, w.ownsRow 0 5 1 (.slice (some ⟨q.g, 0, none⟩) 128 q.cap) 128 (u8s q.l) ∧ F q.g ∧ q.g ≠ s ∧ q.l.length = 128 ∧ (q.at_ + 1) * 128 ≤ D.safe.length) ∧
  D.queue = Q.map Qe.data

/-- The disk D lies at block b; all of it in the blocks F. -/
def DiskAt (w : World) (b : Nat) (F : Nat → Prop) (D : Dk) : Prop :=
  ∃ (s sc : Nat) (cur : Array Value) (qA : Option Addr) (qc : Nat) (Q : List Qe), DiskParts w b F D s sc cur qA qc Q

theorem DiskParts.keep {w w' : World} {b : Nat} {F : Nat → Prop} {D : Dk} {s sc : Nat} {cur : Array Value} {qA : Option Addr} {qc : Nat} {Q : List Qe}
    (h : DiskParts w b F D s sc cur qA qc Q) (hk : ∀ k, F k → k < w.heap.size → w'.heap[k]? = w.heap[k]?) : DiskParts w' b F D s sc cur qA qc Q := by
  obtain ⟨⟨h1, h2⟩, ⟨h3, h4, h5⟩, ⟨h6, h7⟩, h8, h9⟩ := h
  refine ⟨⟨h1.keep (hk b h2 h1.lt), h2⟩, ⟨h3.keep (hk s h4 h3.lt), h4, h5⟩, ⟨own_keep h6 ?_, h7⟩, ?_, h9⟩
  · intro g hg
    rcases qA with _ | a
    · cases hg
    · exact hk g (by simp [Value.ownBlock] at hg; subst hg; exact h7 a rfl) (h6.lt g hg).2
  · intro q hq
    obtain ⟨a1, a2, a3⟩ := h8 q hq
    refine ⟨own_keep a1 ?_, a2, a3⟩
    intro g hg
    have hg' : q.g = g := by simpa [Value.ownBlock] using hg
    subst hg'
    exact hk q.g a2 (a1.lt q.g hg).2
theorem DiskAt.keep {w w' : World} {b : Nat} {F : Nat → Prop} {D : Dk} (h : DiskAt w b F D) (hk : ∀ k, F k → k < w.heap.size → w'.heap[k]? = w.heap[k]?) : DiskAt w' b F D := by
  obtain ⟨s, sc, cur, qA, qc, Q, h⟩ := h
  exact ⟨s, sc, cur, qA, qc, Q, h.keep hk⟩
theorem DiskAt.fr {w w' : World} {b : Nat} {F G : Nat → Prop} {D : Dk} (h : DiskAt w b F D) (hf : Fr G w w') (hn : ∀ k, F k → ¬ G k) : DiskAt w' b F D :=
  h.keep fun k hk hl => hf.block k hl (hn k hk)
theorem DiskAt.below {w w' : World} {b : Nat} {F : Nat → Prop} {D : Dk} (h : DiskAt w b F D) (hb : Below w.heap.size w w') : DiskAt w' b F D :=
  h.keep fun k _ hl => hb.block k hl
theorem DiskAt.mono {w : World} {b : Nat} {F G : Nat → Prop} {D : Dk} (h : DiskAt w b F D) (hs : ∀ k, F k → G k) : DiskAt w b G D := by
  obtain ⟨s, sc, cur, qA, qc, Q, ⟨h1, h2⟩, ⟨h3, h4, h5⟩, ⟨h6, h7⟩, h8, h9⟩ := h
  exact ⟨s, sc, cur, qA, qc, Q, ⟨h1, hs _ h2⟩, ⟨h3, hs _ h4, h5⟩, ⟨h6, fun a ha => hs _ (h7 a ha)⟩, fun q hq => ⟨(h8 q hq).1, hs _ (h8 q hq).2.1, (h8 q hq).2.2⟩, h9⟩

set_option maxHeartbeats 400000 in
theorem image_any (b : Nat) (F : Nat → Prop) (D : Dk) (w : World) (hD : DiskAt w b F D) (hok : D.Ok) (hq : D.queue.length ≤ 1099511627776) :
    Calls Try.prog 20 #[.pointer (some ⟨b, 0, none⟩)] w fun e w' => (∃ v, e = .returned v ∧ w'.ownsRow w.heap.size 5 1 v D.safe.length (u8s D.image)) ∧ Below w.heap.size w w' := by
  obtain ⟨s, sc, cur, qA, qc, Q, ⟨h1, h2⟩, ⟨h3, h4, h5, h5a, h5b, h5c⟩, ⟨h6, h7⟩, h8, h9⟩ := hD
  have c0 : w.cell? ⟨b, 0, none⟩ = some (.slice (some ⟨s, 0, none⟩) D.safe.length sc) := h1.cell 0
  have c1 : w.cell? ⟨b, 1, none⟩ = some (.slice qA Q.length qc) := h1.cell 1
  have hsee : Sees w 1 (some ⟨s, 0, none⟩) D.safe.length (u8s D.safe) := Sees.of_own (own_mk (base := 0) (Nat.zero_le _) h3 h5 h5a (by omega) (by simpa using h5c))
  have bl := h1.lt
  have hmost := hok.most
  have hpos := hok.pos
  have H1 := Lib.hid h1; clear h1
  have H3 := Lib.hid h3; clear h3
  have H5b := Lib.hid h5b; clear h5b
  have H5c := Lib.hid h5c; clear h5c
  have hQl : Q.length ≤ 1099511627776 := by rw [h9, List.length_map] at hq; exact hq
  have H9 := Lib.hid h9; clear h9
  go_enter Try.func20, Try.ntmps20
  go_wp2_with fail
  refine (clone_any _ _ _ _ _ hsee (u8s_one _) (by omega)).mono ?_
  rintro e w1 ⟨v, rfl, hown, hb1⟩
  obtain ⟨g, cap, cur1, rfl, hg, hblk, hcap, hcm, hcs, htk⟩ := own_open hown (by omega)
  have c1' := (hb1.cell (p := ⟨b, 1, none⟩) bl).trans c1
  have H := Lib.hid hblk; clear hblk
  have Hcs := Lib.hid hcs; clear hcs
  have Htk := Lib.hid htk; clear htk
  go_wp2_with fail
  go_loopw [16] (fun i wr => ∃ k : Nat, k ≤ Q.length ∧ i = .int .i64 k ∧ (∃ cur, Blk wr g 5 cur ∧ cur.size = cap ∧ cur.toList.take D.safe.length = u8s (puts D.safe ((Q.take k).map Qe.data))) ∧ Below w.heap.size w wr)
    (fun i _ => Q.length - (intOf i).toNat)
  case atStart =>
    refine ⟨0, Nat.zero_le _, rfl, ⟨cur1, H.out, by have := Hcs.out; omega, ?_⟩, hb1⟩
    have := Htk.out
    simpa [puts] using this
  case round =>
    obtain ⟨k, hk, rfl, ⟨cu, hcu, hcuz, hcut⟩, hbr⟩ := hrel
    by_cases hlt : k < Q.length
    · obtain ⟨qg, qcap, qcur, hqe, hqb, hqblk, hq1, hq2, hq3, hq4⟩ := own_open h6 (by omega)
      obtain rfl : qA = some ⟨qg, 0, none⟩ := by injection hqe
      have hlti : (k : Int) < (Q.length : Int) := by omega
      obtain ⟨q, hqk⟩ : ∃ q, Q[k]? = some q := ⟨_, List.getElem?_eq_getElem hlt⟩
      have hk0 := flatMap_get Qe.cells 2 (fun _ => rfl) Q k 0 q hqk (by decide)
      have hk1 := flatMap_get Qe.cells 2 (fun _ => rfl) Q k 1 q hqk (by decide)
      have e0 := (hbr.cell (p := ⟨qg, k * 2, none⟩) hqblk.lt).trans (own_cell h6 (j := k * 2) hk0)
      have e1 := (hbr.cell (p := ⟨qg, k * 2 + 1, none⟩) hqblk.lt).trans (own_cell h6 (j := k * 2 + 1) hk1)
      have h8q := h8 q (List.mem_of_getElem? hqk)
      have HQK := Lib.hid hqk; clear hqk hk0 hk1
      go_wp2_with fail
      have hW : Below wr.heap.size wr (wr.alloc (.cells #[.int .i64 q.at_, .slice (some ⟨q.g, 0, none⟩) 128 q.cap] 79)) := (Below.refl _ _).alloc (Nat.le_refl _) _
      have hN := Blk.new wr 79 #[.int .i64 q.at_, .slice (some ⟨q.g, 0, none⟩) 128 q.cap]
      have hgl := hcu.lt
      obtain ⟨z, hz⟩ : ∃ z, z = wr.heap.size := ⟨_, rfl⟩
      rw [← hz] at hN hW hgl ⊢
      generalize wr.alloc (.cells #[.int .i64 q.at_, .slice (some ⟨q.g, 0, none⟩) 128 q.cap] 79) = W at hW hN ⊢
      have n0 : W.cell? ⟨z, 0, none⟩ = some (.int .i64 q.at_) := hN.cell 0
      have n1 : W.cell? ⟨z, 1, none⟩ = some (.slice (some ⟨q.g, 0, none⟩) 128 q.cap) := hN.cell 1
      have hcuW : Blk W g 5 cu := hcu.below hW hgl
      have hqW : w.heap[q.g]? = wr.heap[q.g]? := (hbr.block _ (h8q.1.lt q.g rfl).2).symm
      have hsq : Sees W 1 (some ⟨q.g, 0, none⟩) 128 (u8s q.l) := Sees.keep (Sees.of_own h8q.1) (by
        intro g' off e hg'
        injection e with e
        injection e with e1 e2
        subst e1
        rw [hW.block _ (by have := hbr.size; omega)]
        exact hbr.block _ hg')
      have HN := Lib.hid hN; clear hN
      have HC := Lib.hid hcu; clear hcu
      have HCW := Lib.hid hcuW; clear hcuW
      have HZ := Lib.hid hz; clear hz
      have Hcut := Lib.hid hcut; clear hcut
      have Hqw := Lib.hid hqW; clear hqW
      have hp1 : (q.at_ + 1) * 128 ≤ D.safe.length := h8q.2.2.2.2
      go_region_held3 (fun w' => w'.cell? ⟨z, 0, none⟩ = some (.int .i64 q.at_) ∧ w'.cell? ⟨z, 1, none⟩ = some (.slice (some ⟨q.g, 0, none⟩) 128 q.cap))
        (first
          | go_keep
          | exact ⟨hF2.cell n0 (show ¬ z = g by omega), hF2.cell n1 (show ¬ z = g by omega)⟩)
        (first
          | (go_at_call 32; refine (part_any g 0 D.safe.length cap q.at_ _ hcap hcm (by omega) (by omega)).mono ?_; rintro e w' ⟨⟨c', hc1, hc2, rfl⟩, rfl⟩)
          | (refine step_cpy rfl (.tmp 23) (.tmp 25) 37 37 rfl 5 Try.underlying37 (by kernel_rfl) g _ 128 c' (some ⟨q.g, 0, none⟩) 128 q.cap rfl rfl cu 5 HCW.out (u8s q.l) hsq (by omega) (u8s_one _) ?_; intro w2 hB2 hF2))
      go_wp2_with fail
      go_roundw
      case rel =>
        refine ⟨k + 1, by omega, by go_num, ⟨_, hB2, ?_, ?_⟩, ?_⟩
        · have := length_splice cu.toList (q.at_ * 128) ((u8s q.l).take 128) (by simp; omega)
          simp at this ⊢
          omega
        · have hl : q.l.length = 128 := h8q.2.2.2.1
          rw [List.take_of_length_le (by simp; omega : (u8s q.l).length ≤ 128)]
          have h3 := take_splice cu.toList (q.at_ * 128) D.safe.length (u8s q.l) (by simp; omega)
          rw [List.toList_toArray, h3, Hcut.out, ← u8s_splice, List.take_add_one, HQK.out, Option.toList_some, List.map_append, List.map_cons, List.map_nil, puts_snoc]
          rfl
        · have h1 : w.heap.size ≤ z := by have := hbr.size; rw [← HZ.out] at this; exact this
          have h2 : Below w.heap.size W.drew w2 := hF2.below (by have := hW.size; rw [← HZ.out] at this; exact Nat.le_trans h1 this) (by rintro k rfl; exact hg)
          exact hbr.trans ((hW.mono h1).drew.trans h2)
      case measure => simp [intOf]; omega
    · obtain rfl : k = Q.length := by omega
      have hge : ¬ ((Q.length : Int) < (Q.length : Int)) := by omega
      have Hcut := Lib.hid hcut; clear hcut
      have HC := Lib.hid hcu; clear hcu
      go_wp2_with fail
      go_ret
      refine ⟨⟨_, rfl, ?_⟩, hbr⟩
      have := Hcut.out
      rw [List.take_length, ← H9.out] at this
      exact own_mk hg HC.out hcap hcm (by omega) (by simpa [Dk.image] using this)
end Go.Proofs.Ytnlghpopjckhiaa
