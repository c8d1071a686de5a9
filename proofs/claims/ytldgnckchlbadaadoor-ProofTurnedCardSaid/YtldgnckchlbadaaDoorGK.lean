/-
  A log on a disk that is on, wherever it lies: Append, Flush.
  The document's Scan of a disk.
  Pieces of the law ProofTurned.
-/
import Derived.Test.YtldgnckchlbadaaDoorLogD
import Derived.Test.YtldgnckchlbadaaDoorLog6
import Derived.Test.YtldgnckchlbadaaDoorRpN
import Derived.Test.YtldgnckchlbadaaDoorRf3
import Derived.Test.YtldgnckchlbadaaDoorLcP
import Derived.Test.YtldgnckchlbadaaDoorGJ
import Derived.Test.YtldgnckchlbadaaDoorGI
import Derived.Test.YtldgnckchlbadaaDoorGE
import Derived.Test.YtldgnckchlbadaaDoorGB
import Derived.Laws.BitsAllLaws
namespace Go.Proofs.YtldgnckchlbadaaDoor
set_option maxRecDepth 4000
open Go.RowKit

structure LkAt (w : World) (base b lb f sg sz : Nat) (s : Lg) (bg cB : Nat) (A : Option Addr) (cT : Nat) (C : Option Addr) (cC : Nat) (vs : List Pt) (Kl : Nat → Prop) (D : Dk) (F : Nat → Prop) : Prop where
  ld : LD w lb b f s bg cB A cT C cC vs Kl D F
  kp : Kp s D f
  segs : s.segs = sg
  size : s.size = sz
  fb : ∀ k, F k → base ≤ k
  kb : ∀ k, Kl k → base ≤ k
  bw : base ≤ w.heap.size
section
variable {w w' : World} {base b lb f sg sz : Nat} {s : Lg} {bg cB : Nat} {A : Option Addr} {cT : Nat} {C : Option Addr} {cC : Nat} {vs : List Pt} {Kl : Nat → Prop} {D : Dk} {F : Nat → Prop}
theorem LkAt.below (h : LkAt w base b lb f sg sz s bg cB A cT C cC vs Kl D F) (hb : Below w.heap.size w w') : LkAt w' base b lb f sg sz s bg cB A cT C cC vs Kl D F :=
  ⟨h.ld.below hb, h.kp, h.segs, h.size, h.fb, h.kb, Nat.le_trans h.bw hb.size⟩
theorem append_lk (h : LkAt w base b lb f sg sz s bg cB A cT C cC vs Kl D F) (t : List UInt8) (X : Option Addr) (n c : Nat) (hm : s.texts.length + 1 ≤ 100000000) (hS : Sees w 1 X n (u8s t)) (htn : t.length = n) (hn : n ≤ maxLen) (hXK : 0 < n → ∀ a, X = some a → ¬ Kl a.block) (hT : Tab w) (hbt : ∀ k, base ≤ k → k ≠ 1 ∧ k ≠ 0) :
    Calls Tryd.prog 7 #[.pointer (some ⟨lb, 0, none⟩), .slice X n c] w fun e' w' => (s.err n ≠ 0 → (∃ g, e' = .returned (.iface 114 (.pointer (some ⟨g, 0, none⟩)))) ∧ LkAt w' base b lb f sg sz s bg cB A cT C cC vs Kl D F ∧ Below w.heap.size w w') ∧
      (s.err n = 0 → e' = .returned Value.nilIface ∧ (∃ A cT C cC vs Kl', LkAt w' base b lb f sg sz (s.append t) bg cB A cT C cC vs Kl' D F ∧ ∀ k, k < w.heap.size → Kl' k → Kl k) ∧ Fr Kl w w') := by
  have hfoot := laid_foot h.kp.laid
  refine (append_any lb b f s bg cB A cT C cC vs Kl t X n c w h.ld.log h.kp.sok (fun _ => hfoot.2) hm hS htn hn hXK hT (fun k hk => hbt k (h.kb k hk)) h.ld.klt).mono ?_
  rintro e' w' ⟨h1, h2⟩
  refine ⟨fun hne => ?_, fun he => ?_⟩
  · obtain ⟨g, bel⟩ := h1 hne
    exact ⟨g, h.below bel, bel⟩
  · obtain ⟨rfl, fr, A5, cT5, C5, cC5, vs5, l5⟩ := h2 he
    have hsz := fr.size
    refine ⟨rfl, ⟨A5, cT5, C5, cC5, vs5, (fun k => (Kl k ∨ w.heap.size ≤ k) ∧ k < w'.heap.size), ⟨⟨l5.restrict, h.ld.disk.fr fr (fun k hk => h.ld.apart k hk), ?_, fun k hk => Nat.lt_of_lt_of_le (h.ld.flt k hk) hsz, fun k hk => hk.2⟩, h.kp.append (htn ▸ he) hm, ?_, ?_, h.fb, ?_, Nat.le_trans h.bw hsz⟩, ?_⟩, fr⟩
    · intro k hk hk'
      rcases hk'.1 with e | e
      · exact h.ld.apart k hk e
      · have := h.ld.flt k hk; omega
    · rw [← h.segs]; exact (room_fix s t.length).1
    · rw [← h.size]; exact (room_fix s t.length).2.1
    · intro k hk
      rcases hk.1 with e | e
      · exact h.kb k e
      · exact Nat.le_trans h.bw e
    · intro k hk hk'
      rcases hk'.1 with e | e
      · exact e
      · omega
theorem flushed_still {s : Lg} (h1 : s.sure = s.texts.length) (h2 : s.clean = s.end_) : s.flushed = s := by
  unfold Lg.flushed
  rw [← h1, ← h2]
theorem flush_lk (h : LkAt w base b lb f sg sz s bg cB A cT C cC vs Kl D F) (hf : f ≤ 1000000) :
    Calls Tryd.prog 8 #[.pointer (some ⟨lb, 0, none⟩)] w fun e' w' => e' = .returned Value.nilIface ∧ (∃ D' F', LkAt w' base b lb f sg sz s.flushed bg cB A cT C cC vs Kl D' F' ∧ ∀ k, k < w.heap.size → F' k → F k) ∧ Fr (fun k => F k ∨ Kl k) w w' := by
  by_cases hs : s.sure = s.texts.length
  · have hcl : s.clean = s.end_ := by rcases h.kp.even with e | e <;> omega
    refine (flush_idle h.ld.log h.kp.dead hs).mono ?_
    rintro e' w' ⟨rfl, bel⟩
    rw [flushed_still hs hcl]
    exact ⟨rfl, ⟨D, F, h.below bel, fun _ _ h => h⟩, Fr.of_below bel _⟩
  · have hk := h.kp.flush hs
    refine (flush_on h.ld h.kp.sok h.kp.dead hs hk.1 h.kp.ok (by rw [h.kp.calls]; decide) (by rw [h.kp.calls]; decide) (by rw [h.kp.queue]; exact Nat.zero_le _) hf h.kp.fit).mono ?_
    rintro e' w' ⟨rfl, F', l5, fr, hF⟩
    refine ⟨rfl, ⟨_, F', ⟨l5, hk.2, h.segs, h.size, ?_, h.kb, Nat.le_trans h.bw fr.size⟩, hF⟩, fr⟩
    intro k hk
    by_cases hkl : k < w.heap.size
    · exact h.fb k (hF k hkl hk)
    · have := h.bw; omega
end
end Go.Proofs.YtldgnckchlbadaaDoor

namespace Go.Proofs.YtldgnckchlbadaaDoor
set_option maxRecDepth 4000
open Go.RowKit

set_option maxHeartbeats 4000000 in
theorem rscan31_any (base d f sg sz : Nat) (S : List (List UInt8)) (A B C : Option Addr) (cA cB cC : Nat) (w : World) (h : RD w base d S [] [] A cA B cB C cC) (hS : S.length ≤ 100000) (h8 : ∀ s ∈ S, s.length = 128)
    (hsg : 1 ≤ sg ∧ sg ≤ 16) (hsz : 2 ≤ sz ∧ sz ≤ 16) (hfit : f + sg * sz ≤ S.length) (X : List UInt8) (hX : X = ((S.drop f).take (sg * sz)).flatten) :
    Calls Tryd.prog 16 #[.pointer (some ⟨d, 0, none⟩), .int .i64 f, .int .i64 sg, .int .i64 sz] w fun e w' => ∃ A c, e = .returned (.tuple #[.slice A (Lg.told sg sz X).texts.length c, .int .i64 0]) ∧ w'.ownsRow w.heap.size 9 1 (.slice A (Lg.told sg sz X).texts.length c) (Lg.told sg sz X).texts.length (strs (Lg.told sg sz X).texts) ∧ Below w.heap.size w w' := by
  have hPb : sg * sz ≤ 16 * 16 := Nat.mul_le_mul hsg.2 hsz.2
  obtain ⟨P, hP⟩ : ∃ P, P = sg * sz := ⟨_, rfl⟩
  rw [← hP] at hPb hfit hX
  have hpi : IntKind.i64.wrap ((sg : Int) * (sz : Int)) = (P : Int) := by
    rw [hP, show (sg : Int) * (sz : Int) = ((sg * sz : Nat) : Int) by simp]
    exact IntWalk.i64_in _ (by omega)
  have hXl : X.length = sg * sz * 128 := by rw [hX, flat_length S h8 f P (by omega), hP]
  have HRD := rread_any base d S A B C cA cB cC f P w h (by omega) hfit h8
  rw [← hX] at HRD
  replace HRD := Lib.hid HRD
  have hg1 : ¬ ((sg : Int) < 1) := by omega
  have hg2 : ¬ ((256 : Int) < (sg : Int)) := by omega
  have hg3 : ¬ ((sz : Int) < 2) := by omega
  have hg4 : ¬ ((512 : Int) < (sz : Int)) := by omega
  have hNb : sg * (sz * 128) ≤ 16 * 2048 := Nat.mul_le_mul hsg.2 (by omega)
  have HTO := Lib.hid (fun W lb (hB : Blk W lb 88 (rlcN sg sz (str X) 0 0 0 (.slice none 0 0) (str (zr 32)) 0 false false)) => rtold_any lb sg sz X W hB (by omega) (by omega) hXl (by omega))
  obtain ⟨TD, hTD⟩ : ∃ t, t = Lg.told sg sz X := ⟨_, rfl⟩
  rw [← hTD] at HTO ⊢
  obtain ⟨T, hT⟩ : ∃ t, t = TD.texts.length := ⟨_, rfl⟩
  rw [← hT] at HTO ⊢
  obtain ⟨ZX, hZX⟩ : ∃ Z, Z = str X := ⟨_, rfl⟩
  obtain ⟨L0, hL0⟩ : ∃ Z, Z = str (zr 32) := ⟨_, rfl⟩
  rw [← hZX] at HTO HRD
  rw [← hL0] at HTO
  have HL0 := Lib.hid hL0
  clear h hS h8 hfit hX hXl hTD hT hZX hL0 hP hNb
  go_enter Tryd.func16, Tryd.ntmps16
  go_wp2_with fail
  refine HRD.out.mono ?_
  rintro e w1 ⟨rfl, bel1⟩
  go_wp2_with fail
  refine (rzero_any _).mono ?_
  rintro e w2 ⟨rfl, bel2⟩
  rw [show str (List.replicate 32 0) = L0 from HL0.out.symm]
  have hz1 := bel1.size
  have bel12 := bel1.trans (bel2.mono hz1)
  have hz2 := bel12.size
  have HB := Lib.hid bel12
  clear bel1 bel2 bel12 HRD
  have EM : str ([] : List UInt8) = { data := #[] } := rfl
  go_wp2_with fail
  obtain ⟨w3, hw3⟩ : ∃ w3, w2.alloc (.cells (rlcN sg sz ZX 0 0 0 (.slice none 0 0) L0 0 false false) 88) = w3 := ⟨_, rfl⟩
  have top3 : Blk w3 w2.heap.size 88 (rlcN sg sz ZX 0 0 0 (.slice none 0 0) L0 0 false false) := hw3 ▸ Blk.new _ _ _
  have bel3 : Below w.heap.size w w3 := hw3 ▸ HB.out.alloc hz2 _
  unfold rlcN at hw3
  rw [show (w2.alloc (.cells #[.pointer none, .int .i64 0, .int .i64 sg, .int .i64 sz, .string ZX, .int .i64 0, .int .i64 0, .int .i64 0, .slice none 0 0, .string L0, .int .i64 0, .bool false, .bool false] 88)) = w3 from hw3]
  clear hw3
  refine (HTO.out w3 w2.heap.size top3).mono ?_
  rintro e w4 ⟨rfl, ⟨A4, c4, top4, own4⟩, fr4⟩
  have c8 : w4.cell? ⟨w2.heap.size, 8, none⟩ = some (.slice A4 T c4) := top4.cell 8
  have H4 := Lib.hid (And.intro (own_base own4 bel3.size) (bel3.trans (fr4.below bel3.size (fun k hk => by rw [hk]; exact hz2))))
  clear top3 bel3 top4 own4 fr4 HTO
  go_wp2_with fail
  go_ret2
  exact ⟨A4, c4, rfl, H4.out.1, H4.out.2⟩
end Go.Proofs.YtldgnckchlbadaaDoor

namespace Go.Proofs.YtldgnckchlbadaaDoor
set_option maxRecDepth 4000
open Go.RowKit

theorem same_eq (L : List (List UInt8)) (A B : Option Addr) (k c c' : Nat) (w : World) (hk : L.length = k) (hkc : k ≤ 100000) (hA : Sees w 1 A k (strs L)) (hB : Sees w 1 B k (strs L)) :
    Calls Tryd.prog 20 #[.slice A k c, .slice B k c'] w fun e w' => e = .returned (.bool true) ∧ Below w.heap.size w w' := by
  have HA := Lib.hid hA; have HB := Lib.hid hB; have HK := Lib.hid hk
  clear hA hB hk
  go_enter Tryd.func20, Tryd.ntmps20
  go_wp2_with fail
  go_loopw [5] (fun i wr => ∃ j : Nat, j ≤ k ∧ i = .int .i64 j ∧ Below w.heap.size w wr) (fun i _ => k - (intOf i).toNat)
  case atStart => exact ⟨0, by omega, rfl, Below.refl _ _⟩
  case round =>
    obtain ⟨j, hj, rfl, hbr⟩ := hrel
    by_cases hlt : j < k
    · have hlti : (j : Int) < (k : Int) := by omega
      have hp := List.getElem?_eq_getElem (l := L) (i := j) (by rw [HK.out]; exact hlt)
      obtain ⟨t, ht⟩ : ∃ p, p = L[j]'(by rw [HK.out]; exact hlt) := ⟨_, rfl⟩
      rw [← ht] at hp
      obtain ⟨g, off, rfl, hcs⟩ := HA.out.2 (by omega)
      obtain ⟨g2, off2, rfl, hcs2⟩ := HB.out.2 (by omega)
      have hc0 : w.cell? ⟨g, off + j, none⟩ = some (.string (str t)) := hcs j _ (by simp [strs, hp])
      have hc1 := (hbr.cell (World.block_lt_of_cell? w _ hc0)).trans hc0
      have hd0 : w.cell? ⟨g2, off2 + j, none⟩ = some (.string (str t)) := hcs2 j _ (by simp [strs, hp])
      have hd1 := (hbr.cell (World.block_lt_of_cell? w _ hd0)).trans hd0
      have HBR := Lib.hid hbr
      clear hcs hcs2 hp ht hc0 hd0 hbr
      generalize str t = X at *
      go_wp2_with fail
      refine region_fast [(0, true), (1, true), (2, true), (3, true), (4, true), (5, true), (6, true), (7, true), (8, true)] [1, 4, 5, 6, 7] 242 [(131072, 1, 0, 0), (262144, 32, 0, 0), (524288, 393216, 3, 3), (1048576, 524288, 4, 7), (2097152, 2, 0, 0), (4194304, 32, 0, 0), (8388608, 6291456, 48, 48), (16777216, 8388608, 64, 112), (33554432, 17825792, 136, 255)] (fun w' => w'.cell? ⟨g, off + j, none⟩ = some (.string X) ∧ w'.cell? ⟨g2, off2 + j, none⟩ = some (.string X)) (by kernel_rfl) (by kernel_rfl) (by kernel_rfl) rfl (by kernel_rfl) (by kernel_rfl) ⟨hc1, hd1⟩ (fun hS => ?_)
      repeat (first
        | (refine plan_read (v := ?_) rfl (fun _ _ _ h => h) rfl hS ?_ ?_; rotate_left 1; (focus (intro w' hS'; obtain ⟨z1, z2⟩ := hS'; go_simp; try rfl)); (simp only [Act.put, List.setIfInBounds_toArray]; dsimp only [List.set_cons_zero, List.set_cons_succ]))
        | (refine plan_skip rfl (fun _ _ _ h => h) rfl hS ?_; (simp only [Act.put, List.setIfInBounds_toArray]; dsimp only [List.set_cons_zero, List.set_cons_succ])))
      refine plan_nil ?_
      go_wp2_with fail
      go_roundw
      case rel => exact ⟨j + 1, by omega, by go_num, HBR.out.drew⟩
      case measure => simp [intOf]; omega
    · obtain rfl : j = k := by omega
      have hge : ¬ ((j : Int) < (j : Int)) := by omega
      go_wp2_with fail
      go_ret
      exact ⟨rfl, hbr⟩

/-- An octet of an owned row is set. -/
theorem own_put {w : World} {base g n cap : Nat} {l : List UInt8} (hn : n = l.length) (h : w.ownsRow base 5 1 (.slice (some ⟨g, 0, none⟩) n cap) n (u8s l)) (k : Nat) (hk : k < l.length) (x : UInt8) :
    (w.setCell ⟨g, k, none⟩ (.int .u8 (x.toNat : Nat))).ownsRow base 5 1 (.slice (some ⟨g, 0, none⟩) n cap) n (u8s (l.set k x)) ∧ Fr (· = g) w (w.setCell ⟨g, k, none⟩ (.int .u8 (x.toNat : Nat))) ∧ w.cell? ⟨g, k, none⟩ = some (.int .u8 (l[k].toNat : Nat)) := by
  obtain ⟨g', cap', cur, hv, hb, hg, h1, h2, h3, h4⟩ := own_open h (by omega)
  injection hv with hv _ hc
  injection hv with hv
  injection hv with hv _ _
  subst hv hc
  refine ⟨?_, Fr.setCell (F := (· = g)) _ ⟨g, k, none⟩ _ rfl, ?_⟩
  · refine own_mk hb (hg.set_ k (.int .u8 (x.toNat : Nat))) h1 h2 (by simp [h3]) ?_
    simp only [Array.toList_setIfInBounds]
    rw [List.take_set, h4]
    unfold u8s
    rw [List.map_set]
  · rw [hg.cell]
    have h5 : (cur.toList.take (n * 1))[k]? = (u8s l)[k]? := by rw [h4]
    rw [List.getElem?_take, if_pos (by omega)] at h5
    rw [← Array.getElem?_toList, h5, u8s, List.getElem?_map, List.getElem?_eq_getElem hk]
    rfl
theorem own_frozen {w : World} {base g n cap : Nat} {l : List UInt8} (hn : 0 < n) (h : w.ownsRow base 5 1 (.slice (some ⟨g, 0, none⟩) n cap) n (u8s l)) (k : Nat) : ∃ cur, Blk w g 5 cur := by
  obtain ⟨g', cap', cur, hv, hb, hg, h1, h2, h3, h4⟩ := own_open h hn
  injection hv with hv _ hc
  injection hv with hv
  injection hv with hv _ _
  subst hv hc
  exact ⟨cur, hg⟩
theorem flat_some : ∀ (m : Nat) (X : List UInt8), m * 128 ≤ X.length → ((List.range m).map (sect X)).flatten = X.take (m * 128) := by
  intro m X
  induction m with
  | zero => intro _; simp
  | succ m ih =>
    intro hm
    rw [List.range_succ, List.map_append, List.flatten_append, ih (by omega)]
    simp only [List.map_cons, List.map_nil, List.flatten_cons, List.flatten_nil, List.append_nil]
    unfold sect
    rw [show (m + 1) * 128 = m * 128 + 128 by omega, List.take_add]
theorem sects_all {m : Nat} {X : List UInt8} (hX : X.length = m * 128) : ∀ s ∈ (List.range m).map (sect X), s.length = 128 := by
  intro s hs
  obtain ⟨i, hi, rfl⟩ := List.mem_map.1 hs
  have := List.mem_range.1 hi
  exact length_sect X i (by rw [hX]; omega)
theorem piece_load {X : List UInt8} {m : Nat} (hX : X.length = m * 128) (hm : 24 ≤ m) : (Dk.load X).piece 0 (4 * 6) = X.take 3072 ∧ ((((List.range m).map (sect X)).drop 0).take (4 * 6)).flatten = X.take 3072 := by
  constructor
  · unfold Dk.piece
    rw [image_idle rfl]
    show (X.drop (0 * 128)).take (4 * 6 * 128) = X.take 3072
    rw [Nat.zero_mul, List.drop_zero]
  · rw [List.drop_zero, ← List.map_take, List.take_range, Nat.min_eq_left (by omega), flat_some (4 * 6) X (by omega)]

theorem opened_fix (segs size : Nat) (X : List UInt8) : (Lg.opened segs size X).segs = segs ∧ (Lg.opened segs size X).size = size := ⟨(Lg.scan_fix segs (Lg.init segs size X) 0).1, (Lg.scan_fix segs (Lg.init segs size X) 0).2.1⟩
/-- A log opened on a new disk. -/
theorem fresh_log (b : Nat) (F : Nat → Prop) (base : Nat) (w : World) (hD : DiskAt w b F (Dk.new 24)) (hF : ∀ k, F k → base ≤ k ∧ k < w.heap.size) (hb : base ≤ w.heap.size) (hT : Tab w) (hbt : ∀ k, base ≤ k → k ≠ 1 ∧ k ≠ 0) :
    Calls Tryd.prog 6 #[.pointer (some ⟨b, 0, none⟩), .int .i64 0, .int .i64 4, .int .i64 6] w fun e w' => ∃ lb, e = .returned (.tuple #[.pointer (some ⟨lb, 0, none⟩), Value.nilIface]) ∧ (∃ s bg cB A cT C cC vs Kl D F', LkAt w' base b lb 0 4 6 s bg cB A cT C cC vs Kl D F' ∧ s.texts.length = 0) ∧ Below base w w' := by
  have hpc : (Dk.new 24).piece 0 (4 * 6) = zr (4 * 6 * 128) := by
    unfold Dk.piece
    rw [image_idle rfl]
    show ((List.replicate (24 * 128) 0).drop (0 * 128)).take (4 * 6 * 128) = _
    rw [List.drop_replicate, List.take_replicate]
    rfl
  have hfit : (0 + 4 * 6) * 128 ≤ (Dk.new 24).safe.length := by
    show (0 + 4 * 6) * 128 ≤ (List.replicate (24 * 128) (0 : UInt8)).length
    rw [List.length_replicate]
    omega
  have hok := Dk.ok_new (n := 24) (by omega) (by omega)
  have hkp := Kp.opened (D := Dk.new 24) (f := 0) (segs := 4) (size := 6) hok rfl rfl (by omega) (by omega) hfit hpc
  have h0 := laid_opened (segs := 4) (size := 6) (X := (Dk.new 24).piece 0 (4 * 6)) (by omega) (by omega) hpc
  refine (open_log b 0 4 6 (Dk.new 24) F w hD (fun k hk => (hF k hk).2) hok rfl rfl (by omega) (by omega) (by omega) hfit hT (fun k hk => hbt k (hF k hk).1)).mono ?_
  rintro e w' ⟨lb, rfl, bg, cB, A, cT, C, cC, vs, K', F', h1, h2, h3, h4, -⟩
  have hbel : Below base w w' := h2.below hb (fun k hk => (hF k hk).1)
  refine ⟨lb, rfl, ⟨_, bg, cB, A, cT, C, cC, vs, K', _, F', ⟨h1, hkp, (opened_fix 4 6 _).1, (opened_fix 4 6 _).2, ?_, ?_, ?_⟩, by rw [h0.texts]; rfl⟩, hbel⟩
  · intro k hk
    by_cases hkl : k < w.heap.size
    · exact (hF k (h3 k hkl hk)).1
    · omega
  · intro k hk; exact Nat.le_trans hb (h4 k hk)
  · exact Nat.le_trans hb h2.size
end Go.Proofs.YtldgnckchlbadaaDoor
