/-
  The law ProofTurned, walked.
-/
import Derived.Test.YtldgnckchlbadaaDoorGK
namespace Go.Proofs.YtldgnckchlbadaaDoor
set_option maxRecDepth 4000
open Go.RowKit

theorem turned_long (A B : Option Addr) (k c m cB : Nat) (w : World) (hT : Tab w) (h : 12 < k ∨ 20 < m) :
    Calls Tryd.prog 3 #[.slice A k c, .slice B m cB] w fun e w' => e = .returned (.bool true) ∧ Below w.heap.size w w' := by
  have HAW := Lib.hid (awake_any w hT)
  have HAW1 := Lib.hid (fun W hW => awake_any W (hT.below (hW : Below w.heap.size w W)))
  clear hT
  rcases h with h | h
  · have hki : (12 : Int) < (k : Int) := by omega
    go_enter Tryd.func3, Tryd.ntmps3
    go_wp2_with fail
    refine HAW.out.mono ?_
    rintro e w1 ⟨rfl, hb1⟩
    have HAW2 := Lib.hid (HAW1.out w1 hb1)
    have HB1 := Lib.hid hb1
    clear hb1 HAW HAW1
    go_wp2_with fail
    refine HAW2.out.mono ?_
    rintro e w2 ⟨rfl, hb2⟩
    have HB2 := Lib.hid (HB1.out.trans (hb2.mono HB1.out.size))
    clear hb2
    go_wp2_with fail
    go_ret
    exact ⟨rfl, HB2.out⟩
  · by_cases h12 : 12 < k
    all_goals
      first
      | have hki : ¬ (12 : Int) < (k : Int) := by omega
      | have hki : (12 : Int) < (k : Int) := by omega
      have hmi : (20 : Int) < (m : Int) := by omega
      go_enter Tryd.func3, Tryd.ntmps3
      go_wp2_with fail
      refine HAW.out.mono ?_
      rintro e w1 ⟨rfl, hb1⟩
      have HAW2 := Lib.hid (HAW1.out w1 hb1)
      have HB1 := Lib.hid hb1
      clear hb1 HAW HAW1
      go_wp2_with fail
      refine HAW2.out.mono ?_
      rintro e w2 ⟨rfl, hb2⟩
      have HB2 := Lib.hid (HB1.out.trans (hb2.mono HB1.out.size))
      clear hb2
      go_wp2_with fail
      go_ret
      exact ⟨rfl, HB2.out⟩

/-- A slice up to j. -/
theorem slice_upto {P : Program} {t : TypeId} (ht : P.underlying t = some (.slice (P.elem t))) (hs : (P.info? (P.elem t)).isSome) (A : Option Addr) (k c j : Nat) (hj : j ≤ k) (hk : k ≤ c) :
    ∃ A', (∀ W, (Instr.slice t (.slice A k c) none (some (.int .i64 (j : Int))) none).run P W = .ok (.slice A' j c) W) ∧ (∀ g off, A = some ⟨g, off, none⟩ → A' = A) := by
  obtain ⟨i, hi⟩ := Option.isSome_iff_exists.1 hs
  refine ⟨if c = 0 then A else A.map (·.add 0), fun W => ?_, fun g off e => ?_⟩
  · rw [run_slice_h W t A k c ht .i64 j (by omega) (by omega)]
    simp [sizeOf, typeInfo, hi, sliced, Sem.run_bind]
  · subst e
    split <;> rfl
theorem sees_take {w : World} {A B : Option Addr} {k j : Nat} {L : List (List UInt8)} (h : Sees w 1 A k (strs L)) (hB : ∀ g off, A = some ⟨g, off, none⟩ → B = A) (hj : j ≤ k) : Sees w 1 B j (strs (L.take j)) := by
  have hl : (strs L).length = k * 1 := h.1
  refine ⟨by unfold strs at hl ⊢; rw [List.length_map] at hl ⊢; rw [List.length_take]; omega, fun h0 => ?_⟩
  obtain ⟨g, off, e, hc⟩ := h.2 (by omega)
  refine ⟨g, off, (hB g off e).trans e, fun i v hi => hc i v ?_⟩
  unfold strs at hi ⊢
  rw [List.map_take, List.getElem?_take] at hi
  split at hi
  · exact hi
  · cases hi
theorem info_strel : (Tryd.prog.info? (Tryd.prog.elem 47)).isSome := by kernel_rfl

/-- The log behind j texts. -/
def LpAt (w wr : World) (b lb j : Nat) : Prop :=
  (∃ s bg cB A cT C cC vs Kl D F, LkAt wr w.heap.size b lb 0 4 6 s bg cB A cT C cC vs Kl D F ∧ s.texts.length ≤ j) ∧ Below w.heap.size w wr
theorem LpAt.append {w wr : World} {b lb j n c : Nat} {X : Option Addr} {t : List UInt8} (h : LpAt w wr b lb j) (hj : j ≤ 1000) (hS : Sees wr 1 X n (u8s t)) (htn : t.length = n) (hn : n ≤ maxLen) (hXK : 0 < n → ∀ a, X = some a → a.block < w.heap.size) (hT : Tab w) (hbt : ∀ k, w.heap.size ≤ k → k ≠ 1 ∧ k ≠ 0) :
    Calls Tryd.prog 7 #[.pointer (some ⟨lb, 0, none⟩), .slice X n c] wr fun e' w' => ∃ u, e' = .returned u ∧ LpAt w w' b lb (j + 1) := by
  obtain ⟨⟨s, bg, cB, A, cT, C, cC, vs, Kl, D, F, hL, hm⟩, hb⟩ := h
  refine (append_lk hL t X n c (by omega) hS htn hn (fun h0 a ha hk => by have := hXK h0 a ha; have := hL.kb _ hk; omega) (hT.below hb) hbt).mono ?_
  rintro e' w' ⟨h1, h2⟩
  by_cases he : s.err n = 0
  · obtain ⟨rfl, ⟨A, cT, C, cC, vs, Kl', hL', -⟩, fr⟩ := h2 he
    refine ⟨_, rfl, ⟨_, _, _, _, _, _, _, _, _, _, _, hL', ?_⟩, hb.trans (fr.below hb.size (fun k hk => hL.kb k hk))⟩
    show ((s.room t.length).texts ++ [t]).length ≤ j + 1
    rw [(room_fix s t.length).2.2.2.2.2.1, List.length_append]
    show s.texts.length + 1 ≤ j + 1
    omega
  · obtain ⟨⟨g, rfl⟩, hL', bel⟩ := h1 he
    exact ⟨_, rfl, ⟨_, _, _, _, _, _, _, _, _, _, _, hL', by omega⟩, hb.trans (bel.mono hb.size)⟩

set_option maxHeartbeats 16000000 in
theorem pturned_any (ps : List Pt) (A : Option Addr) (k c : Nat) (ys : List Tn) (B : Option Addr) (m cB : Nat) (w : World) (hk : ps.length = k) (hI : InRows w A ps c) (hm : ys.length = m) (hY : Sees w 2 B m (tns ys)) (hok : ∀ y ∈ ys, TnOk y) (hT : Tab w) (h12 : k ≤ 12) (h20 : m ≤ 20) :
    Calls Tryd.prog 3 #[.slice A k c, .slice B m cB] w fun e w' => e = .returned (.bool true) ∧ Below w.heap.size w w' := by
  have hki : ¬ (12 : Int) < (k : Int) := by omega
  have hmi : ¬ (20 : Int) < (m : Int) := by omega
  have HAW := Lib.hid (awake_any w hT)
  have hbt : ∀ k, w.heap.size ≤ k → k ≠ 1 ∧ k ≠ 0 := fun k hk => by have := hT.lt; have := hT.hlt; omega
  have HBT := Lib.hid (And.intro hbt hT)
  have HI := Lib.hid (And.intro hI hk); have HY := Lib.hid (And.intro hY (And.intro hm hok))
  clear hT hbt hI hk hY hm hok
  go_enter Tryd.func3, Tryd.ntmps3
  go_wp2_with fail
  refine HAW.out.mono ?_
  rintro e w1 ⟨rfl, hb1⟩
  have HN : Hid (Calls Tryd.prog 5 #[.int .i64 24] w1 fun e w' => (∃ b F, e = .returned (.tuple #[.pointer (some ⟨b, 0, none⟩), .int .i64 0]) ∧ DiskAt w' b F (Dk.new 24) ∧ ∀ k, F k → w1.heap.size ≤ k ∧ k < w'.heap.size) ∧ Below w1.heap.size w1 w') := Lib.hid (new_good 24 w1 (by omega) (by omega))
  have HB1 := Lib.hid hb1
  clear hb1 HAW
  go_wp2_with fail
  refine HN.out.mono ?_
  rintro e w2 ⟨⟨b, F, rfl, hD, hF⟩, bel2⟩
  have hz1 := HB1.out.size
  have hb2 : Below w.heap.size w w2 := HB1.out.trans (bel2.mono hz1)
  have HO := Lib.hid (fresh_log b F w.heap.size w2 hD (fun k hk => ⟨by have := (hF k hk).1; omega, (hF k hk).2⟩) hb2.size (HBT.out.2.below hb2) HBT.out.1)
  have HB2 := Lib.hid hb2
  clear hD hF bel2 hb2 HN
  go_wp2_with fail
  refine HO.out.mono ?_
  rintro e w3 ⟨lb, rfl, ⟨s0, bg, cB0, AA, cT, C, cC, vs, Kl, D, F', hL, ht0⟩, bel3⟩
  have H3 : Hid (LpAt w w3 b lb 0) := Lib.hid ⟨⟨s0, bg, cB0, AA, cT, C, cC, vs, Kl, D, F', hL, by omega⟩, HB2.out.trans bel3⟩
  clear hL ht0 bel3 HO
  go_wp2_with fail
  go_loopw [9] (fun i wr => ∃ j : Nat, j ≤ k ∧ i = .int .i64 j ∧ Hid (LpAt w wr b lb j)) (fun i _ => k - (intOf i).toNat)
  case atStart => exact ⟨0, by omega, rfl, H3⟩
  case round =>
    obtain ⟨j, hj, rfl, hr⟩ := hrel
    clear H3
    by_cases hlt : j < k
    · have hji : (j : Int) < (k : Int) := by omega
      have hjp : j < ps.length := by rw [HI.out.2]; exact hlt
      obtain ⟨⟨B1, n, c', l⟩, hpe⟩ : ∃ q : Pt, q = ps[j] := ⟨_, rfl⟩
      have hpj : ps[j]? = some ⟨B1, n, c', l⟩ := by rw [List.getElem?_eq_getElem hjp, ← hpe]
      have hmem : (⟨B1, n, c', l⟩ : Pt) ∈ ps := List.mem_of_getElem? hpj
      obtain ⟨hSj, hln⟩ := HI.out.1.pts _ hmem
      have hcap := HI.out.1.caps _ hmem
      obtain ⟨g, off, rfl, hrow⟩ := HI.out.1.row (by omega)
      have hc0 : w.cell? ⟨g, off + j, none⟩ = some (.slice B1 n c') := hrow j _ hpj
      have hgl : g < w.heap.size := World.block_lt_of_cell? w _ hc0
      have hBl : 0 < n → ∀ a, B1 = some a → a.block < w.heap.size := fun h0 a ha => by
        obtain ⟨g2, o2, e2, hc2⟩ := hSj.2 h0
        have hq : (u8s l)[0]? = some (.int .u8 ((l[0]'(by have : l.length = n := hln; omega)).toNat : Nat)) := by
          rw [u8s, List.getElem?_map, List.getElem?_eq_getElem (by have : l.length = n := hln; omega)]
          rfl
        have := World.block_lt_of_cell? w _ (hc2 0 _ hq)
        rw [ha] at e2
        injection e2 with e2
        rw [e2]
        exact this
      have c0 : wr.cell? ⟨g, off + j, none⟩ = some (.slice B1 n c') := (hr.out.2.cell hgl).trans hc0
      have HAP := Lib.hid (hr.out.append (t := l) (X := B1) (n := n) (c := c') (by omega) (hSj.below hr.out.2) hln (by exact Nat.le_trans hcap.1 hcap.2) hBl HBT.out.2 HBT.out.1)
      clear hjp hpe hpj hmem hSj hln hcap hrow hc0 hBl hr
      go_wp2_with fail
      refine HAP.out.mono ?_
      rintro e w4 ⟨u, rfl, hL4⟩
      have H4 := Lib.hid hL4
      clear hL4 HAP c0
      go_wp2_with fail
      go_roundw
      case rel => exact ⟨j + 1, by omega, by go_num, H4⟩
      case measure => simp [intOf]; omega
    · obtain rfl : j = k := by omega
      have hge : ¬ ((j : Int) < (j : Int)) := by omega
      obtain ⟨⟨s, bg, cB0, AA, cT, C, cC, vs, Kl, D, F, hL, hsl⟩, hbw⟩ := hr.out
      have HFL := Lib.hid (flush_lk hL (by omega))
      have H4 := Lib.hid (And.intro hL (And.intro hsl hbw))
      clear hr hL hsl hbw
      go_wp2_with fail
      refine HFL.out.mono ?_
      rintro e w5 ⟨rfl, ⟨D5, F5, hL5, hF5⟩, fr5⟩
      have hb5 : Below w.heap.size w w5 := H4.out.2.2.trans (fr5.below H4.out.2.2.size (fun k hk => hk.elim (H4.out.1.fb k) (H4.out.1.kb k)))
      obtain ⟨W, hW⟩ : ∃ W, W = s.flushed.texts := ⟨_, rfl⟩
      obtain ⟨T, hTl⟩ : ∃ T, T = W.length := ⟨_, rfl⟩
      have hT12 : T ≤ 12 := by rw [hTl, hW]; show s.texts.length ≤ 12; have := H4.out.2.1; omega
      have hfine : Fine W := by rw [hW]; exact laid_fine hL5.kp.laid
      have HTX := texts_log hL5.ld.log hL5.kp.sok (by rw [← hW]; exact hfine)
      rw [← hW, ← hTl] at HTX
      replace HTX := Lib.hid HTX
      have H5 := Lib.hid (And.intro hL5 (And.intro hb5 (And.intro hW (And.intro hTl hfine))))
      clear hL5 hF5 fr5 hb5 hW hTl hfine HFL
      go_wp2_with fail
      refine HTX.out.mono ?_
      rintro e w6 ⟨B6, c6, rfl, own6, bel6⟩
      obtain ⟨ps6, hl6, hm6, hr6, hp6⟩ := own6.use
      have hb6 : Below w.heap.size w w6 := H5.out.2.1.trans (bel6.mono H5.out.2.1.size)
      have HHD := head_any' ps6 B6 T c6 w6 (by rw [hl6]; exact H5.out.2.2.2.1.symm) (by omega) hr6 hp6 (fun p hp => by
        have := (H5.out.2.2.2.2 p.l (by rw [← hm6]; exact List.mem_map_of_mem hp)).2
        omega) (HBT.out.2.below hb6)
      rw [hm6] at HHD
      replace HHD := Lib.hid HHD
      have H6 := Lib.hid (And.intro (H5.out.1.below bel6) hb6)
      clear own6 bel6 hl6 hm6 hr6 hp6 hb6 HTX
      go_wp2_with fail
      refine HHD.out.mono ?_
      rintro e w7 ⟨v7, rfl, own7, bel7⟩
      obtain ⟨A7, c7, rfl⟩ := own_shape own7
      have hL7 := H6.out.1.below bel7
      have hb7 : Below w.heap.size w w7 := H6.out.2.trans (bel7.mono H6.out.2.size)
      have hIM := image_any b F5 D5 w7 hL7.ld.disk hL7.kp.ok (by rw [hL7.kp.queue]; exact Nat.zero_le _)
      obtain ⟨X0, hX0⟩ : ∃ X, X = D5.image := ⟨_, rfl⟩
      obtain ⟨M, hM⟩ : ∃ M, D5.safe.length = M * 128 := ⟨D5.safe.length / 128, by have := hL7.kp.ok.whole; omega⟩
      have hX0l : X0.length = M * 128 := by rw [hX0, hL7.kp.ok.image, hM]
      have hM1 : 24 ≤ M := by have h9 := hL7.kp.fit; rw [hL7.segs, hL7.size, hM] at h9; omega
      have hM2 : M ≤ 65536 := by have h9 := hL7.kp.ok.most; rw [hM] at h9; omega
      obtain ⟨N, hN⟩ : ∃ N, N = M * 128 := ⟨_, rfl⟩
      rw [← hX0, hM, ← hN] at hIM
      have HIM := Lib.hid hIM
      have H7 := Lib.hid (And.intro hL7 (And.intro hb7 (And.intro own7 (And.intro hX0l hN))))
      clear hL7 own7 bel7 hb7 hIM hX0 hM hX0l hN HHD
      go_wp2_with fail
      refine HIM.out.mono ?_
      rintro e w8 ⟨⟨v8, rfl, own8⟩, bel8⟩
      obtain ⟨g, cI, -, rfl, hg, -, -, -, -, -⟩ := own_open own8 (by have := H7.out.2.2.2.2; omega)
      have H8 : Hid (∃ X : List UInt8, X.length = N ∧ w8.ownsRow w7.heap.size 5 1 (.slice (some ⟨g, 0, none⟩) N cI) N (u8s X) ∧ Below w7.heap.size w7 w8) := Lib.hid ⟨X0, by rw [H7.out.2.2.2.1, H7.out.2.2.2.2], own8, bel8⟩
      have hz7 := H7.out.2.1.size
      clear own8 bel8 HIM
      go_wp2_with fail
      go_loopw [13] (fun i wr => ∃ j : Nat, j ≤ m ∧ i = .int .i64 j ∧ Hid (∃ X : List UInt8, X.length = N ∧ wr.ownsRow w7.heap.size 5 1 (.slice (some ⟨g, 0, none⟩) N cI) N (u8s X) ∧ Below w7.heap.size w7 wr)) (fun i _ => m - (intOf i).toNat)
      case atStart => exact ⟨0, by omega, rfl, H8⟩
      case round =>
        obtain ⟨j, hj, rfl, hr⟩ := hrel
        clear H8
        by_cases hlt : j < m
        · have hji : (j : Int) < (m : Int) := by omega
          obtain ⟨⟨ya, yb⟩, hy⟩ : ∃ y : Tn, ys[j]? = some y := ⟨_, List.getElem?_eq_getElem (by rw [HY.out.2.1]; exact hlt)⟩
          obtain ⟨X, hXl, own, bel⟩ := hr.out
          have hbw : Below w.heap.size w wr := H7.out.2.1.trans (bel.mono hz7)
          obtain ⟨gb, o, rfl, q0, q1⟩ := in_tn (by rw [HY.out.2.1]; exact HY.out.1) hy
          have c0 : wr.cell? ⟨gb, o + j * 2, none⟩ = some (.int .i64 ya) := (hbw.cell (World.block_lt_of_cell? w _ q0)).trans q0
          have c1 : wr.cell? ⟨gb, o + j * 2 + 1, none⟩ = some (.int .u8 (yb.toNat : Nat)) := (hbw.cell (World.block_lt_of_cell? w _ q1)).trans q1
          have hyo := HY.out.2.2 ⟨ya, yb⟩ (List.mem_of_getElem? hy)
          have hN := H7.out.2.2.2.2
          have HR := Lib.hid (rest_any ya N wr hyo.1 hyo.2 (by omega) (by omega))
          have HC := Lib.hid (And.intro own (And.intro bel hXl))
          clear hr own bel hbw q0 q1 hyo hy hN hXl
          go_wp2_with fail
          refine HR.out.mono ?_
          rintro e w9 ⟨⟨k', hk', rfl⟩, rfl⟩
          have hkX : k' < X.length := by rw [HC.out.2.2]; exact hk'
          have hki' : (k' : Int) < (N : Int) := by omega
          obtain ⟨xk, hxk⟩ : ∃ x, x = X[k'] := ⟨_, rfl⟩
          obtain ⟨p1, p2, p3⟩ := own_put HC.out.2.2.symm HC.out.1 k' hkX (xk ^^^ yb)
          rw [← hxk] at p3
          obtain ⟨cur, hcur⟩ := own_frozen (by omega) HC.out.1 k'
          have qf := hcur.frozen k'
          have hbx : bits .xor .u8 ((xk.toNat : Nat) : Int) ((yb.toNat : Nat) : Int) = (((xk ^^^ yb).toNat : Nat) : Int) := by
            rw [u8_xor_nat _ _ (UInt8.toNat_lt _) (UInt8.toNat_lt _), UInt8.toNat_xor]
          have hgw : w7.heap.size ≤ g := by
            obtain ⟨g', cap', cu, hv, hb, -⟩ := own_open HC.out.1 (by omega)
            simp at hv
            omega
          rw [← hbx] at p1 p2
          have hlen : (X.set k' (xk ^^^ yb)).length = N := by rw [List.length_set]; exact HC.out.2.2
          have hbd : Below w7.heap.size w7 wr := HC.out.2.1
          obtain ⟨xn, hxn⟩ : ∃ n : Nat, n = xk.toNat := ⟨_, rfl⟩
          obtain ⟨bn, hbn⟩ : ∃ n : Nat, n = yb.toNat := ⟨_, rfl⟩
          rw [← hxn, ← hbn] at p1 p2
          rw [← hxn] at p3
          rw [← hbn] at c1
          have c2 : wr.cell? ⟨g, k', none⟩ = some (.int .u8 xn) := p3
          have HP : Hid (∃ Y : List UInt8, Y.length = N ∧ (wr.setCell ⟨g, k', none⟩ (.int .u8 (bits .xor .u8 (xn : Int) (bn : Int)))).drew.ownsRow w7.heap.size 5 1 (.slice (some ⟨g, 0, none⟩) N cI) N (u8s Y) ∧ Below w7.heap.size w7 (wr.setCell ⟨g, k', none⟩ (.int .u8 (bits .xor .u8 (xn : Int) (bn : Int)))).drew) := Lib.hid ⟨_, hlen, p1.drew, (hbd.trans (p2.below hbd.size (fun q hq => by rw [hq]; exact hgw))).drew⟩
          clear p1 p2 p3 hbx hgw hlen hbd hxk hxn hbn hcur HC
          go_wp2_with fail
          refine region_fast [(0, true), (1, true), (2, true), (3, true), (4, true), (5, true), (6, true), (7, true), (8, true), (9, true), (10, true), (11, true), (12, true), (13, false)] [1, 2, 3, 4, 5, 6, 7, 8, 9, 10, 11] 4094 [(1237940039285380274899124224, 4096, 0, 0), (2475880078570760549798248448, 16384, 0, 0), (4951760157141521099596496896, 4096, 0, 0), (9903520314283042199192993792, 16384, 0, 0), (19807040628566084398385987584, 14855280471424563298789490688, 12, 12), (39614081257132168796771975168, 19807040628566084398385987584, 16, 28), (79228162514264337593543950336, 2, 0, 0), (158456325028528675187087900672, 8192, 0, 0), (316912650057057350374175801344, 237684487542793012780631851008, 192, 192), (633825300114114700748351602688, 316912650057057350374175801344, 256, 448), (1267650600228229401496703205376, 633825300114114700748351602688, 512, 960), (2535301200456458802993406410752, 1307264681485361570293475180544, 1056, 2044), (5070602400912917605986812821504, 3713820117856140824697372672, 4095, 4095), (0, 7605903601369376408980219232256, 8191, 8191)] (fun w' => w'.cell? ⟨g, k', none⟩ = some (.int .u8 xn) ∧ w'.cell? ⟨gb, o + j * 2 + 1, none⟩ = some (.int .u8 bn)) (by kernel_rfl) (by kernel_rfl) (by kernel_rfl) rfl (by kernel_rfl) (by kernel_rfl) ⟨c2, c1⟩ (fun hS => ?_)
          repeat (first
            | (refine plan_read (v := ?_) rfl (fun _ _ _ h => h) rfl hS ?_ ?_; rotate_left 1; (focus (intro w' hS'; have z1 := hS'.1; have z2 := hS'.2; go_simp; try rfl)); (simp only [Act.put, List.setIfInBounds_toArray]; dsimp only [List.set_cons_zero, List.set_cons_succ]))
            | (refine plan_skip rfl (fun _ _ _ h => h) rfl hS ?_; (simp only [Act.put, List.setIfInBounds_toArray]; dsimp only [List.set_cons_zero, List.set_cons_succ])))
          refine plan_do (by rfl) (by rfl) (fun K hK => ?_)
          go_simp
          refine hK.out _ _ (fun h => by cases h) (fun _ => ?_); clear hK K; try (simp only [Act.put, List.setIfInBounds_toArray]; dsimp only [List.set_cons_zero, List.set_cons_succ])
          refine plan_nil ?_
          go_wp2_with fail
          go_roundw
          case rel => exact ⟨j + 1, by omega, by go_num, HP⟩
          case measure => simp [intOf]; omega
        · obtain rfl : j = m := by omega
          have hge : ¬ ((j : Int) < (j : Int)) := by omega
          obtain ⟨X, hXl, own, bel⟩ := hr.out
          have hN := H7.out.2.2.2.2
          have hb9 : Below w.heap.size w wr := H7.out.2.1.trans (bel.mono hz7)
          have hSX := Sees.of_own own
          have HLD := load_good (some ⟨g, 0, none⟩) M cI X wr (by rw [hXl, hN]) (by omega) hM2 (by rw [← hN]; exact hSX)
          rw [← hN] at HLD
          replace HLD := Lib.hid HLD
          have H9 := Lib.hid (And.intro hXl (And.intro hSX (And.intro bel hb9)))
          have hz9 := bel.size
          clear hr hXl own bel hb9 hSX hN
          go_wp2_with fail
          refine HLD.out.mono ?_
          rintro e w10 ⟨⟨b2, F2, rfl, hD2, hF2⟩, bel10⟩
          have hXM : X.length = M * 128 := by rw [H9.out.1]; exact H7.out.2.2.2.2
          have hb10 : Below w.heap.size w w10 := H9.out.2.2.2.trans (bel10.mono H9.out.2.2.2.size)
          have hb710 : Below w7.heap.size w7 w10 := H9.out.2.2.1.trans (bel10.mono hz9)
          have hch10 : Sees w10 1 A7 32 (u8s (hdc W)) := (Sees.of_own H7.out.2.2.1).below hb710
          have hch7 : Sees w7 1 A7 32 (u8s (hdc W)) := Sees.of_own H7.out.2.2.1
          have hnF : ∀ a, A7 = some a → ¬ F2 a.block := fun a ha hk => by
            obtain ⟨g2, o2, e2, hc2⟩ := hch7.2 (by omega)
            have hq : (u8s (hdc W))[0]? = some (.int .u8 (((hdc W)[0]'(by rw [hdc_length]; omega)).toNat : Nat)) := by
              rw [u8s, List.getElem?_map, List.getElem?_eq_getElem (by rw [hdc_length]; omega)]
              rfl
            have h1 := World.block_lt_of_cell? w7 _ (hc2 0 _ hq)
            rw [ha] at e2
            injection e2 with e2
            rw [e2] at hk
            have h2 := (hF2 _ hk).1
            have h3 : g2 < w7.heap.size := h1
            have h4 : wr.heap.size ≤ g2 := h2
            omega
          have hpl := piece_load hXM hM1
          have hpv := pprove_any b2 0 4 6 T (Dk.load X) F2 A7 c7 (hdc W) w10 hD2 (Dk.ok_load ⟨M, by rw [hXM, Nat.mul_comm]⟩ (by rw [hXM]; omega) (by rw [hXM]; omega)) rfl rfl (by omega) (by omega) (by omega) (by show (0 + 4 * 6) * 128 ≤ X.length; rw [hXM]; omega) (HBT.out.2.below hb10) (fun k hk => HBT.out.1 k (by have := (hF2 k hk).1; have := H9.out.2.2.2.size; omega)) hch10 (hdc_length W) hnF (by omega)
          rw [hpl.1] at hpv
          have hXl' : (X.take 3072).length = 4 * 6 * 128 := by rw [List.length_take, hXM]; omega
          obtain ⟨L, hL⟩ : ∃ L, L = (Lg.told 4 6 (X.take 3072)).texts := ⟨_, rfl⟩
          have hfn := opened_fine (segs := 4) (size := 6) (X := X.take 3072) (by omega) (by omega) hXl'
          rw [← opened_texts, ← hL] at hfn
          rw [← hL] at hpv
          replace hpv := Lib.hid hpv
          have H10 := Lib.hid (And.intro hb10 (And.intro hb710 (And.intro hXM (And.intro hF2 (And.intro hpl.2 (And.intro hXl' (And.intro hL (And.intro hfn bel10))))))))
          clear hD2 hF2 bel10 hXM hb10 hb710 hch10 hch7 hnF hpl hXl' hL hfn HLD
          go_wp2_with fail
          refine hpv.out.mono ?_
          rintro e w11 ⟨B11, mm, cB11, at11, er, rfl, hPV, hps, fr11⟩
          have hbr11 : Below wr.heap.size wr w11 := H10.out.2.2.2.2.2.2.2.2.trans (fr11.below H10.out.2.2.2.2.2.2.2.2.size (fun k hk => (H10.out.2.2.2.1 k hk).1))
          have hb711 : Below w7.heap.size w7 w11 := H9.out.2.2.1.trans (hbr11.mono hz9)
          have hL11 := H7.out.1.below hb711
          have HTX2 := texts_log hL11.ld.log hL11.kp.sok (by rw [← H5.out.2.2.1]; exact H5.out.2.2.2.2)
          rw [← H5.out.2.2.1, ← H5.out.2.2.2.1] at HTX2
          replace HTX2 := Lib.hid HTX2
          have H11 := Lib.hid (And.intro hbr11 (And.intro hPV hps))
          clear hbr11 hb711 hL11 hPV hps fr11 hpv
          go_wp2_with fail
          refine HTX2.out.mono ?_
          rintro e w12 ⟨B12, c12, rfl, own12, bel12⟩
          obtain ⟨ps12, hl12, hm12, hr12, hp12⟩ := own12.use
          have HT12 := texts_any ps12 B12 T c12 w12 (by rw [hl12]; exact H5.out.2.2.2.1.symm) (by omega) hr12 hp12
          rw [hm12] at HT12
          replace HT12 := Lib.hid HT12
          have H12 := Lib.hid (bel12.trans (Below.refl _ _))
          clear own12 hl12 hm12 hr12 hp12 bel12 HTX2
          go_wp2_with fail
          refine HT12.out.mono ?_
          rintro e w13 ⟨v13, rfl, own13, bel13⟩
          obtain ⟨A13, c13, rfl⟩ := own_shape own13
          have hb1113 : Below w11.heap.size w11 w13 := H12.out.trans (bel13.mono H12.out.size)
          have hbr13 : Below wr.heap.size wr w13 := H11.out.1.trans (hb1113.mono H11.out.1.size)
          have hcv := run_to_string Tryd.underlying35 Tryd.underlying5 Tryd.underlying9 cI (H9.out.2.1.below hbr13)
          have HLO := rload_any X M w13 H10.out.2.2.1 (by omega)
          obtain ⟨Z, hZ⟩ : ∃ Z, Z = str X := ⟨_, rfl⟩
          rw [← hZ] at hcv HLO
          replace HLO := Lib.hid HLO
          have H13 := Lib.hid (And.intro own13 (And.intro hb1113 hbr13))
          clear own13 bel13 hb1113 hbr13 hZ HT12
          go_wp2_with fail
          refine HLO.out.mono ?_
          rintro e w14 ⟨rfl, ⟨A14, cA14, hRD⟩, bel14⟩
          have HSC := rscan31_any w13.heap.size w13.heap.size 0 4 6 ((List.range M).map (sect X)) A14 none none cA14 0 0 w14 hRD (by rw [List.length_map, List.length_range]; omega) (sects_all H10.out.2.2.1) (by omega) (by omega) (by rw [List.length_map, List.length_range]; omega) (X.take 3072) H10.out.2.2.2.2.1.symm
          rw [← H10.out.2.2.2.2.2.2.1] at HSC
          obtain ⟨LL, hLL⟩ : ∃ n, n = L.length := ⟨_, rfl⟩
          rw [← hLL] at HSC
          have hLLb : LL ≤ 100000 := by rw [hLL]; exact H10.out.2.2.2.2.2.2.2.1.2
          replace HSC := Lib.hid HSC
          have H14 := Lib.hid (And.intro bel14 hLL)
          clear hRD bel14 hLL hcv HLO
          go_wp2_with fail
          refine HSC.out.mono ?_
          rintro e w15 ⟨A15, c15, rfl, own15, bel15⟩
          have hb1315 : Below w13.heap.size w13 w15 := H14.out.1.trans (bel15.mono H14.out.1.size)
          have hb1115 : Below w11.heap.size w11 w15 := H13.out.2.1.trans (hb1315.mono H13.out.2.1.size)
          have hbr15 : Below wr.heap.size wr w15 := H13.out.2.2.trans (hb1315.mono H13.out.2.2.size)
          have hb715 : Below w7.heap.size w7 w15 := H9.out.2.2.1.trans (hbr15.mono hz9)
          have hb15 : Below w.heap.size w w15 := H9.out.2.2.2.trans (hbr15.mono H9.out.2.2.2.size)
          have hPV := H11.out.2.1
          have hps := H11.out.2.2
          have HB := Lib.hid (And.intro hb15 (And.intro hb1115 (And.intro hb715 (And.intro hb1315 own15))))
          clear bel15 hb1315 hb1115 hbr15 hb715 hb15 own15 HSC
          unfold PV at hPV
          rw [← H14.out.2] at hPV
          rcases hPV with ⟨h1, rfl, rfl, rfl⟩ | ⟨h1, -, rfl, rfl, rfl⟩ | ⟨h1, h2, h3, h4, rfl⟩
          · have h1i : (at11 : Int) < (T : Int) := by omega
            clear hps
            go_wp2_with fail
            go_ret
            exact ⟨rfl, HB.out.1⟩
          · have h1i : (T : Int) ≤ (LL : Int) := by omega
            clear hps
            go_wp2_with fail
            go_ret
            exact ⟨rfl, HB.out.1⟩
          · subst mm
            subst at11
            have h1i : (T : Int) ≤ (LL : Int) := by omega
            obtain ⟨ps15, hl15, hm15, hr15, hp15⟩ := hps rfl
            have hr15' := hr15.below HB.out.2.1
            have hp15' := hp15.below HB.out.2.1
            obtain ⟨C, hC⟩ : ∃ C, C = str (hdc W) := ⟨_, rfl⟩
            have hcx : ∀ w', Sees w' 1 A7 32 (u8s (hdc W)) → (convert 35 9 (.slice A7 32 c7)).run Tryd.prog w' = .ok (.string C) w' := fun w' h => by rw [hC]; exact run_to_string Tryd.underlying35 Tryd.underlying5 Tryd.underlying9 c7 h
            have hsT : Sees w15 1 A15 LL (strs L) := Sees.of_own HB.out.2.2.2.2
            have hsW : Sees w15 1 A13 T (strs W) := (Sees.of_own H13.out.1).below HB.out.2.2.2.1
            have hsC : Sees w15 1 A7 32 (u8s (hdc W)) := (Sees.of_own H7.out.2.2.1).below HB.out.2.2.1
            have HSW := Lib.hid hsW
            have HCX := Lib.hid hcx
            have HC := Lib.hid hC
            have HS := Lib.hid (And.intro hsT (And.intro hsC hsW))
            have HP15 := Lib.hid (And.intro hr15' (And.intro hp15' (And.intro hl15 hm15)))
            have hcap : (LL : Int) ≤ (c15 : Int) := by
              obtain ⟨g5, cap5, cu5, hv, -, -, h5, -⟩ | h0 := (show (∃ g cap cur, Value.slice A15 LL c15 = .slice (some ⟨g, 0, none⟩) LL cap ∧ True ∧ True ∧ LL ≤ cap ∧ True) ∨ LL = 0 from by
                by_cases h0 : LL = 0
                · exact .inr h0
                · obtain ⟨g, cap, cur, a, b, c, d, -⟩ := own_open HB.out.2.2.2.2 (by omega)
                  exact .inl ⟨g, cap, cur, a, trivial, trivial, d, trivial⟩)
              · simp at hv
                omega
              · omega
            obtain ⟨A16, hsl, hA16⟩ := slice_upto Tryd.underlying47 info_strel A15 LL c15 T h1 (by omega)
            have HSL := Lib.hid hsl
            have HA16 := Lib.hid hA16
            clear hsl hA16 hps hl15 hm15 hr15 hp15 hr15' hp15' hcx hsT hsW hsC hC
            go_wp2_with fail
            refine region_fast [(0, true), (1, true), (2, true), (3, true), (4, true), (5, true), (6, true), (7, true), (9, true), (10, true), (8, false), (11, true), (12, true), (13, true), (14, true), (15, true), (16, false), (17, true), (18, true)] [2, 6, 8, 9, 10, 15] 34628 [(5846006549323611672814739330865132078623730171904, 2097152, 0, 0), (11692013098647223345629478661730264157247460343808, 5846006549323611672814739330865132078623730171904, 1, 1), (23384026197294446691258957323460528314494920687616, 1024, 0, 0), (46768052394588893382517914646921056628989841375232, 35076039295941670036888435985190792471742381031424, 6, 7), (93536104789177786765035829293842113257979682750464, 46768052394588893382517914646921056628989841375232, 8, 15), (187072209578355573530071658587684226515959365500928, 93536104789177786765035829293842113257979684847616, 16, 31), (374144419156711147060143317175368453031918731001856, 93536104789177786765035829293842113257979682751488, 16, 31), (748288838313422294120286634350736906063837462003712, 654752733524244507355250805056894792805857779253248, 112, 127), (1496577676626844588240573268701473812127674924007424, 841824943102600080885322463644579019321817144754176, 144, 255), (2993155353253689176481146537402947624255349848014848, 93536104789177786765035829293842113257979682752512, 16, 31), (5986310706507378352962293074805895248510699696029696, 3086691458042866963246182366696789737513329530765312, 528, 543), (11972621413014756705924586149611790497021399392059392, 7576424487923400727967902172801211173896354302787584, 1296, 2047), (23945242826029513411849172299223580994042798784118784, 12066157517803934492689621978905632610279379074809856, 2064, 4095), (47890485652059026823698344598447161988085597568237568, 23945242826029513411849172299223580994042798784118784, 4352, 8191), (95780971304118053647396689196894323976171195136475136, 47890485652059026823698344598447161988085597570334720, 8192, 16383), (191561942608236107294793378393788647952342390272950272, 47890485652059026823698344598447161988085597569286144, 8192, 16383), (383123885216472214589586756787577295904684780545900544, 335233399564413187765888412189130133916599182977662976, 57344, 65535), (766247770432944429179173513575154591809369561091801088, 431014370868531241413285101386024457892770378114138112, 73728, 131071), (1532495540865888858358347027150309183618739122183602176, 814138256085003456002871858173601753797455158660038656, 139264, 262143)] (fun w' => Sees w' 1 A15 LL (strs L) ∧ Sees w' 1 A7 32 (u8s (hdc W)) ∧ Sees w' 1 A13 T (strs W)) (by kernel_rfl) (by kernel_rfl) (by kernel_rfl) rfl (by kernel_rfl) (by kernel_rfl) HS.out (fun hS => ?_)
            repeat (first
              | (refine plan_read (v := ?_) rfl (fun _ _ _ h => h) rfl hS ?_ ?_; rotate_left 1; (focus (intro w' hS'; have e1 := HCX.out _ hS'.2.1; have e2 := HSL.out; go_simp; try rfl)); (simp only [Act.put, List.setIfInBounds_toArray]; dsimp only [List.set_cons_zero, List.set_cons_succ]))
              | (refine plan_skip rfl (fun _ _ _ h => h) rfl hS ?_; (simp only [Act.put, List.setIfInBounds_toArray]; dsimp only [List.set_cons_zero, List.set_cons_succ])))
            refine plan_do (by rfl) (by rfl) (fun K hK => ?_)
            go_simp
            have hs16 : Sees _ 1 A16 T (strs (L.take T)) := sees_take hS.1 HA16.out h1
            refine (rhead_any' (L.take T) A16 T c15 _ (by rw [List.length_take, ← H14.out.2]; omega) (by omega) hs16 (fun t ht => by have := (H10.out.2.2.2.2.2.2.2.1.1 t (List.mem_of_mem_take ht)).2; omega)).mono ?_
            rintro e w16 ⟨rfl, hb16⟩
            rw [h2, HC.out.symm]
            have q1 := hS.1.below hb16
            have q2 := hS.2.1.below hb16
            have q3 := hS.2.2.below hb16
            have hb1516 := below_of_drew hb16
            have HB16 := Lib.hid hb1516
            clear hb16 hb1516 hs16
            refine hK.out _ _ (fun _ => ⟨q1, q2, q3⟩) (fun hS => ?_); clear hK K; replace hS := hS rfl; try (simp only [Act.put, List.setIfInBounds_toArray]; dsimp only [List.set_cons_zero, List.set_cons_succ])
            repeat (first
              | (refine plan_read (v := ?_) rfl (fun _ _ _ h => h) rfl hS ?_ ?_; rotate_left 1; (focus (intro w' hS'; have e1 := HCX.out _ hS'.2.1; have e2 := HSL.out; go_simp; try rfl)); (simp only [Act.put, List.setIfInBounds_toArray]; dsimp only [List.set_cons_zero, List.set_cons_succ]))
              | (refine plan_skip rfl (fun _ _ _ h => h) rfl hS ?_; (simp only [Act.put, List.setIfInBounds_toArray]; dsimp only [List.set_cons_zero, List.set_cons_succ])))
            have HBG := begins_texts L W A15 A13 LL T c15 c13 _ H14.out.2.symm H5.out.2.2.2.1.symm (by omega) (by omega) hS.1 hS.2.2
            obtain ⟨E, hE⟩ : ∃ E, E = decide (W = L.take W.length) := ⟨_, rfl⟩
            rw [← hE] at HBG
            replace HBG := Lib.hid HBG
            have HE := Lib.hid hE
            clear hE
            refine plan_do (by rfl) (by rfl) (fun K hK => ?_)
            go_simp
            refine HBG.out.mono ?_
            rintro e w17 ⟨rfl, hb17⟩
            have HB17 := Lib.hid (HB16.out.trans (hb17.mono HB16.out.size))
            have hS := And.intro (hS.1.below hb17) (And.intro (hS.2.1.below hb17) (hS.2.2.below hb17))
            clear hb17 HBG
            refine hK.out _ _ (fun h => by cases h) (fun _ => ?_); clear hK K; try (simp only [Act.put, List.setIfInBounds_toArray]; dsimp only [List.set_cons_zero, List.set_cons_succ])
            repeat (first
              | (refine plan_read (v := ?_) rfl (fun _ _ _ h => h) rfl hS ?_ ?_; rotate_left 1; (focus (intro w' hS'; go_simp; try rfl)); (simp only [Act.put, List.setIfInBounds_toArray]; dsimp only [List.set_cons_zero, List.set_cons_succ]))
              | (refine plan_skip rfl (fun _ _ _ h => h) rfl hS ?_; (simp only [Act.put, List.setIfInBounds_toArray]; dsimp only [List.set_cons_zero, List.set_cons_succ])))
            refine plan_nil ?_
            have hb1517 := HB17.out
            have hb17w : Below w.heap.size w w17 := HB.out.1.trans (hb1517.mono HB.out.1.size)
            have hr17 := HP15.out.1.below hb1517
            have hp17 := HP15.out.2.1.below hb1517
            have HT17 := texts_any ps15 B11 T cB11 w17 HP15.out.2.2.1 (by omega) hr17 hp17
            have H17 := Lib.hid (And.intro hb17w (HSW.out.below hb1517))
            clear hb1517 hb17w hr17 hp17
            cases E with
            | false =>
              clear HT17
              go_wp2_with fail
              go_ret
              exact ⟨rfl, H17.out.1⟩
            | true =>
              have hLW : L.take T = W := by
                have h9 := of_decide_eq_true HE.out.symm
                rw [← H5.out.2.2.2.1] at h9
                exact h9.symm
              rw [HP15.out.2.2.2, hLW] at HT17
              replace HT17 := Lib.hid HT17
              go_wp2_with fail
              refine HT17.out.mono ?_
              rintro e w18 ⟨v18, rfl, own18, bel18⟩
              obtain ⟨A18, c18, rfl⟩ := own_shape own18
              have HSM := Lib.hid (same_eq W A18 A13 T c18 c13 w18 H5.out.2.2.2.1.symm (by omega) (Sees.of_own own18) (H17.out.2.below bel18))
              have H18 := Lib.hid (H17.out.1.trans (bel18.mono H17.out.1.size))
              clear own18 bel18 HT17
              go_wp2_with fail
              refine HSM.out.mono ?_
              rintro e w19 ⟨rfl, hb19⟩
              have H19 := Lib.hid (H18.out.trans (hb19.mono H18.out.size))
              clear hb19 HSM
              go_wp2_with fail
              go_ret
              exact ⟨rfl, H19.out⟩

theorem turned_walk (a0 : Option Addr) (ps0 : List Pt) (len0 cap0 : Nat) (a1 : Option Addr) (ys1 : List Tn) (len1 cap1 : Nat) (W : World) (hT : Tab W) (m0 : ps0.length = len0) (w0 : InRows W a0 ps0 cap0) (m1 : ys1.length = len1) (w1 : Sees W 2 a1 len1 (tns ys1)) (k1 : ∀ y ∈ ys1, TnOk y) :
    Calls Tryd.prog 3 #[.slice a0 len0 cap0, .slice a1 len1 cap1] W fun e W' => e = .returned (.bool true) ∧ Below W.heap.size W W' := by
  by_cases h : 12 < len0 ∨ 20 < len1
  · exact turned_long a0 a1 len0 cap0 len1 cap1 W hT h
  · exact pturned_any ps0 a0 len0 cap0 ys1 a1 len1 cap1 W m0 w0 m1 w1 k1 hT (by omega) (by omega)
end Go.Proofs.YtldgnckchlbadaaDoor
