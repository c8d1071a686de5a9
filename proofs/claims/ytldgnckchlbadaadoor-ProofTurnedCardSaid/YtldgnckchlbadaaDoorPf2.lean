/-
  The law's example: a fresh disk, an empty head.
-/
import Derived.Test.YtldgnckchlbadaaDoorPf1
import Derived.Test.YtldgnckchlbadaaDoorGF
import Derived.Test.YtldgnckchlbadaaDoorGE
import Derived.Test.YtldgnckchlbadaaDoorRes
namespace Go.Proofs.YtldgnckchlbadaaDoor
set_option maxRecDepth 4000
open Go.RowKit

theorem hd_length (q k : Nat) (l : List UInt8) (h : l.length = 32) : (hd q k l).length = 128 := by
  rw [hd, hd0, List.length_append, crcw_length]
  simp only [List.length_append, length_be, h, List.length_replicate, List.length_cons, List.length_nil]

theorem begins_any (l q : List UInt8) (ad : Addr) (B : Option Addr) (n c m c' : Nat) (w : World) (hA : Sees w 1 (some ad) n (u8s l)) (hB : Sees w 1 B m (u8s q)) (hl : l.length = n) (hq : q.length = m) (hnc : n ≤ c) :
    Calls Tryd.prog 61 #[.slice (some ad) n c, .slice B m c'] w fun e w' => e = .returned (.bool (decide (0 < m) && pref l q)) ∧ w = w' := by
  have HP := Lib.hid (prefix_any l q ad B n c m c' w hA hB hl hq hnc)
  clear hA hB
  rcases Nat.eq_zero_or_pos m with rfl | h
  · go_enter Tryd.func61, Tryd.ntmps61
    go_wp2_with fail
    go_ret
    exact ⟨rfl, rfl⟩
  · have hm : (0 : Int) < (m : Int) := by omega
    have hd : decide (0 < m) = true := by simpa using h
    rw [hd]
    go_enter Tryd.func61, Tryd.ntmps61
    go_wp2_with fail
    refine HP.out.mono ?_
    rintro e w' ⟨rfl, rfl⟩
    go_wp2_with fail
    go_ret
    exact ⟨rfl, rfl⟩

theorem info_parsed : (Tryd.prog.info? 97).map (·.size) = some 4 := by kernel_rfl
/-- A segment whose head is another one. -/
theorem parse_no (b l : List UInt8) (ad : Addr) (n c q k : Nat) (A : Option Addr) (c' : Nat) (w : World) (hb : Sees w 1 (some ad) n (u8s b)) (hn : b.length = n) (hnc : n ≤ c) (h128 : n % 128 = 0) (h256 : 256 ≤ n)
    (hA : Sees w 1 A 32 (u8s l)) (hl : l.length = 32) (hk : k < 9223372036854775808) (hq : q < 4294967296) (hp : pref b (hd q k l) = false) :
    Calls Tryd.prog 46 #[.slice (some ad) n c, .int .i64 q, .int .i64 k, .slice A 32 c'] w fun e w' => e = .returned (.tuple #[.agg #[.slice none 0 0, .slice none 0 0, .bool false, .int .i64 0], .bool false]) ∧ Below w.heap.size w w' := by
  have hal : Below w.heap.size w (w.alloc (.cells #[.slice none 0 0, .slice none 0 0, .bool false, .int .i64 0] 97)) := (Below.refl _ _).alloc (Nat.le_refl _) _
  have HH := Lib.hid (head_ok q k l A c' _ (hA.below hal) hl hk hq)
  have HB := Lib.hid hb; have HAL := Lib.hid hal; clear hb hal hA
  have e1 : ((n : Int) % 128 != 0) = false := by simp; omega
  have e2 : ¬ ((n : Int) < 256) := by omega
  go_enter Tryd.func46, Tryd.ntmps46
  go_wp2_with fail
  refine HH.out.mono ?_
  rintro e w1 ⟨v, rfl, hown, hb1⟩
  obtain ⟨A1, c1, rfl⟩ := own_shape hown
  have HG := Lib.hid (begins_any b (hd q k l) ad A1 n c 128 c1 w1 ((HB.out.below HAL.out).below hb1) (Sees.of_own hown) hn (by rw [hd_length _ _ _ hl]) hnc)
  have HB1 := Lib.hid (HAL.out.trans (hb1.mono (HAL.out.size)))
  have hR : Blk w1 w.heap.size 97 #[.slice none 0 0, .slice none 0 0, .bool false, .int .i64 0] := (Blk.new w 97 _).below hb1 (by simp)
  have HI := Lib.hid info_parsed
  have hbz := hb1.size
  rw [hp] at HG
  clear hown hb1 HH
  go_wp2_with fail
  refine HG.out.mono ?_
  rintro e w' ⟨rfl, rfl⟩
  go_wp2_with (first
    | (refine wpList_store_row rfl 97 (.tmp 8) (.tmp 34) rfl w.heap.size _ rfl rfl 97 _ hR (by exact HI.out) (by rfl) (by simp [Value.oneCell']) ?_))
  refine bodyPost_ret (results_row_tmp rfl _ _ w.heap.size 97 _ (0, 0) _ rfl (hR.setRow _) Tryd.underlying97 rfl (by exact HI.out)) rfl ⟨rfl, below_setRow HB1.out (Nat.le_refl _) _⟩

theorem rest_any (a : Int) (n : Nat) (w : World) (h1 : -9223372036854775808 ≤ a) (h2 : a ≤ 9223372036854775807) (hn : 0 < n) (hn2 : n ≤ 100000000) :
    Calls Tryd.prog 12 #[.int .i64 a, .int .i64 n] w fun e w' => (∃ k : Nat, k < n ∧ e = .returned (.int .i64 k)) ∧ w = w' := by
  have hnz : (n : Int) ≠ 0 := by omega
  have hn1 : (n : Int) ≠ -1 := by omega
  have b1 : -(n : Int) < a.tmod n := by have := Int.lt_tmod_of_pos a (show (0 : Int) < n by omega); omega
  have b2 : a.tmod n < n := Int.tmod_lt_of_pos a (by omega)
  have e1 : IntKind.i64.wrap (a.tmod n) = a.tmod n := IntWalk.i64_in _ (by omega)
  have e2 : IntKind.i64.wrap (a.tmod n + n) = a.tmod n + n := IntWalk.i64_in _ (by omega)
  have b5 : (a.tmod n + n).tmod n = (a.tmod n) % n := by rw [Int.tmod_eq_emod_of_nonneg (by omega), Int.add_emod_right]
  have b3 : 0 ≤ (a.tmod n) % n := Int.emod_nonneg _ (by omega)
  have b4 : (a.tmod n) % n < n := Int.emod_lt_of_pos _ (by omega)
  have e3 : IntKind.i64.wrap ((a.tmod n) % n) = (a.tmod n) % n := IntWalk.i64_in _ (by omega)
  go_enter Tryd.func12, Tryd.ntmps12
  go_wp2_with fail
  go_ret
  exact ⟨⟨((a.tmod n) % n).toNat, by omega, by rw [Int.toNat_of_nonneg b3]; rfl⟩, rfl⟩

theorem info_bytes : (Tryd.prog.info? 35).map (fun i => (i.zero, i.size, i.bytes)) = some (some (.slice none 0 0), 1, 24) := by kernel_rfl
theorem zeros_pref : pref (List.replicate 384 0) (hd 0 0 (List.replicate 32 0)) = false := by
  rw [pref, decide_eq_false_iff_not]
  intro e
  have := congrArg List.head? e
  rw [hd_length _ _ _ (by simp)] at this
  simp [hd, hd0, crcw] at this

set_option maxHeartbeats 1000000 in
theorem scan_new (w0 : World) (b : Nat) (F : Nat → Prop) (D : Dk) (w : World) (hb0 : Below w0.heap.size w0 w) (hF : ∀ k, F k → w0.heap.size ≤ k) (hT : Tab w0) (hD : DiskAt w b F D) (hok : D.Ok) (hq : D.queue.length ≤ 1099511627776) (h0 : D.calls ≠ 0)
    (hfit : (0 + 6) * 128 ≤ D.safe.length) (hz : D.piece 0 6 = List.replicate 768 0) :
    Calls Tryd.prog 37 #[.pointer (some ⟨b, 0, none⟩), .int .i64 0, .int .i64 2, .int .i64 3] w fun e w' => e = .returned (.tuple #[.slice none 0 0, .int .i64 0]) ∧ Fr F w w' := by
  have HR := Lib.hid (read_good b F D 0 6 w hD hok hq h0 hfit)
  have HB0 := Lib.hid hb0; have HFF := Lib.hid hF; have HT := Lib.hid hT; clear hb0 hF hT hD
  go_enter Tryd.func37, Tryd.ntmps37
  go_wp2_with fail
  refine HR.out.mono ?_
  rintro e w1 ⟨v, rfl, hown, hD1, hF1⟩
  rw [hz] at hown
  obtain ⟨g, cap, cur, rfl, hg, hblk, hcap, hcm, hcs, htk⟩ := own_open hown (by omega)
  have hb1 := HB0.out.trans (hF1.below HB0.out.size HFF.out)
  have hS : Sees w1 1 (some ⟨g, 0, none⟩) 384 (u8s (List.replicate 384 0)) := by
    have := (Sees.of_own hown).piece 0 384 (by omega)
    rw [← u8s_drop, ← u8s_take] at this
    simpa using this
  have HS := Lib.hid hS; have HB1 := Lib.hid hb1; have HF1 := Lib.hid hF1
  clear hS hb1 hown hblk hcs htk hD1 hF1 HR
  go_wp2_with fail
  go_loopw [12, 52] (fun o i wr => o = .slice none 0 0 ∧ i = .int .i64 0 ∧ w1 = wr) (fun _ _ _ => 0)
  case atStart => exact ⟨rfl, rfl, rfl⟩
  case round =>
    obtain ⟨rfl, rfl, rfl⟩ := hrel
    have HH := Lib.hid (head_any' [] none 0 0 _ rfl (by omega) (fun h => absurd h (by simp)) (fun p hp => by cases hp) (fun p hp => by cases hp) (HT.out.below HB1.out))
    go_wp2_with fail
    refine HH.out.mono ?_
    rintro e w2 ⟨v, rfl, hown2, hb2⟩
    obtain ⟨A2, c2, rfl⟩ := own_shape hown2
    have hP := parse_no (List.replicate 384 0) (List.replicate 32 0) ⟨g, 0, none⟩ 384 cap 0 0 A2 c2 w2 (HS.out.below hb2) (by simp) (by omega) (by omega) (by omega) (Sees.of_own hown2) (by simp) (by omega) (by omega) zeros_pref
    have HP := Lib.hid hP
    have HB2 := Lib.hid hb2
    clear hP hown2 hb2 HH
    go_wp2_with fail
    refine HP.out.mono ?_
    rintro e w3 ⟨rfl, hb3⟩
    have HB3 := Lib.hid (HB2.out.trans (hb3.mono HB2.out.size))
    clear hb3 HP
    have hR : Blk (w3.alloc (.cells #[.slice none 0 0, .slice none 0 0, .bool false, .int .i64 0] 97)) w3.heap.size 97 #[.slice none 0 0, .slice none 0 0, .bool false, .int .i64 0] := Blk.new _ _ _
    have hW : Below w1.heap.size w1 ((w3.alloc (.cells #[.slice none 0 0, .slice none 0 0, .bool false, .int .i64 0] 97)).setRow w3.heap.size #[.slice none 0 0, .slice none 0 0, .bool false, .int .i64 0]) := below_setRow (HB3.out.alloc HB3.out.size _) HB3.out.size _
    have HI := Lib.hid info_parsed
    go_wp2_with (first
      | (refine wpList_store_row rfl 97 (.tmp 17) (.tmp 74) rfl w3.heap.size _ rfl rfl 97 _ hR (by exact HI.out) (by rfl) (by simp [Value.oneCell']) ?_; have hR := hR.setRow #[.slice none 0 0, .slice none 0 0, .bool false, .int .i64 0]; generalize World.setRow _ _ _ = W at hR hW ⊢; have c0 : W.cell? ⟨w3.heap.size, 0, none⟩ = some (.slice none 0 0) := hR.cell 0)
      | (at_builtin; refine wpList_app rfl (.tmp 76) (.tmp 78) _ rfl w1.heap.size 35 _ 1 24 Tryd.underlying22 info_bytes rfl (by decide) (.slice none 0 0) 0 [] rfl (World.ownsRow_nil _ _ _ _) none 0 0 [] rfl (Sees.none_ _ _ _) (by simp) (by unfold maxLen; omega) (by omega) hW.size ?_; intro v' w5 hown5 hgr5 hat5 hnil5; obtain rfl := hnil5 ⟨rfl, rfl⟩; have hW := hW.grown hgr5 hW.size (by intro k hk; cases hk)))
    go_ret2
    exact ⟨rfl, HF1.out.trans (Fr.of_below hW F) (fun _ _ h => h)⟩

set_option maxHeartbeats 1000000 in
theorem prove_new (w0 : World) (b : Nat) (F : Nat → Prop) (D : Dk) (A : Option Addr) (c : Nat) (w : World) (hb0 : Below w0.heap.size w0 w) (hF : ∀ k, F k → w0.heap.size ≤ k) (hT : Tab w0) (hD : DiskAt w b F D) (hok : D.Ok) (hq : D.queue.length ≤ 1099511627776) (h0 : D.calls ≠ 0)
    (hfit : (0 + 6) * 128 ≤ D.safe.length) (hz : D.piece 0 6 = List.replicate 768 0) (hA : Sees w 1 A 32 (u8s (List.replicate 32 0))) (hn : ∀ a, A = some a → ¬ F a.block) :
    Calls Tryd.prog 14 #[.pointer (some ⟨b, 0, none⟩), .int .i64 0, .int .i64 2, .int .i64 3, .int .i64 0, .slice A 32 c] w fun e w' => e = .returned (.tuple #[.slice none 0 0, .int .i64 0, .int .i64 0]) ∧ Below w0.heap.size w0 w' := by
  have HS := Lib.hid (scan_new w0 b F D w hb0 hF hT hD hok hq h0 hfit hz)
  have HT := Lib.hid hT; have HA := Lib.hid hA; have HB0 := Lib.hid hb0; have HFF := Lib.hid hF; clear hb0 hF hT hD hA
  go_enter Tryd.func14, Tryd.ntmps14
  go_wp2_with fail
  refine HS.out.mono ?_
  rintro e w1 ⟨rfl, hf1⟩
  have hb1 := HB0.out.trans (hf1.below HB0.out.size HFF.out)
  have hA1 : Sees w1 1 A 32 (u8s (List.replicate 32 0)) := HA.out.fr hf1 (fun _ => hn)
  have HH := Lib.hid (head_any' [] none 0 0 w1 rfl (by omega) (fun h => absurd h (by simp)) (fun p hp => by cases hp) (fun p hp => by cases hp) (HT.out.below hb1))
  have HB1 := Lib.hid hb1; have HA1 := Lib.hid hA1
  clear hb1 HS hA1 hf1
  go_wp2_with fail
  refine HH.out.mono ?_
  rintro e w2 ⟨v, rfl, hown2, hb2⟩
  obtain ⟨A2, c2, rfl⟩ := own_shape hown2
  have HB2 := Lib.hid (HB1.out.trans (hb2.mono HB1.out.size))
  have HE := Lib.hid (equal_any (List.replicate 32 0) (List.replicate 32 0) A2 A 32 c2 32 c w2 (Sees.of_own hown2) (HA1.out.below hb2))
  clear hown2 hb2 HH
  go_wp2_with fail
  refine HE.out.mono ?_
  rintro e w' ⟨rfl, rfl⟩
  go_wp2_with fail
  go_ret3
  exact ⟨rfl, HB2.out⟩

theorem new6_piece : (Dk.new 6).piece 0 6 = List.replicate 768 0 := by decide +kernel
set_option maxHeartbeats 1000000 in
theorem awake_any (w : World) (hT : Tab w) : Calls Tryd.prog 4 #[] w fun e w' => e = .returned (.bool true) ∧ Below w.heap.size w w' := by
  have HT := Lib.hid hT; clear hT
  go_enter Tryd.func4, Tryd.ntmps4
  go_wp2_with fail
  refine (new_good 6 w (by omega) (by omega)).mono ?_
  rintro e w1 ⟨⟨b, F, rfl, hD1, hF⟩, hb1⟩
  have HH := Lib.hid (head_any' [] none 0 0 w1 rfl (by omega) (fun h => absurd h (by simp)) (fun p hp => by cases hp) (fun p hp => by cases hp) (HT.out.below hb1))
  have HB1 := Lib.hid hb1; have HD1 := Lib.hid hD1; have HF := Lib.hid hF
  clear hb1 hD1 hF
  go_wp2_with fail
  refine HH.out.mono ?_
  rintro e w2 ⟨v, rfl, hown2, hb2⟩
  obtain ⟨A2, c2, rfl⟩ := own_shape hown2
  have HB2 := Lib.hid (HB1.out.trans (hb2.mono HB1.out.size))
  have hn : ∀ a, A2 = some a → ¬ F a.block := fun a ha hk => by
    have h1 := (HF.out _ hk).2
    subst ha
    have := (hown2.lt _ rfl).1
    omega
  have HP := Lib.hid (prove_new w b F (Dk.new 6) A2 c2 w2 HB2.out (fun k hk => (HF.out k hk).1) HT.out (HD1.out.below hb2) (Dk.ok_new (by omega) (by omega)) (by decide +kernel) (by decide +kernel) (by decide +kernel) new6_piece (Sees.of_own hown2) hn)
  clear hown2 hb2 HH hn
  go_wp2_with fail
  refine HP.out.mono ?_
  rintro e w3 ⟨rfl, hb3⟩
  have HB3 := Lib.hid hb3; clear hb3
  go_wp2_with fail
  go_ret
  exact ⟨rfl, HB3.out⟩
end Go.Proofs.YtldgnckchlbadaaDoor
