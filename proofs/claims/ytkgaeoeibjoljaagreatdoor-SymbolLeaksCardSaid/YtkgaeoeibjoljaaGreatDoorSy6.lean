/-
  What is seen of a disk.
-/
import Derived.Test.YtkgaeoeibjoljaaGreatDoorGT
import Derived.Test.YtkgaeoeibjoljaaGreatDoorGU
import Derived.Test.YtkgaeoeibjoljaaGreatDoorGJ
import Derived.Test.YtkgaeoeibjoljaaGreatDoorGP
namespace Go.Proofs.YtkgaeoeibjoljaaGreatDoor
set_option maxRecDepth 4000
open Go.RowKit
def pieces (D : Dk) : List (List UInt8) := (List.range D.size).map (sect D.safe) ++ D.queue.map (·.2) ++ [D.safe, D.image]
def SeenOf (D : Dk) (x : Int) : Prop := ∃ l, l ∈ pieces D /\ NamesOf l x
theorem dsize_any (b : Nat) (F : Nat -> Prop) (D : Dk) (w : World) (hD : DiskAt w b F D) (hok : D.Ok) : Calls Tryz.prog 30 #[.pointer (some ⟨b, 0, none⟩)] w fun e w' => e = .returned (.int .i64 (D.size : Nat)) /\ w = w' := by
 obtain ⟨s, sc, cur, qA, qc, Q, ⟨h1, h2⟩, -⟩ := hD
 exact size_any b (some ⟨s, 0, none⟩) D.safe.length sc w (by have := hok.most; unfold maxLen; omega) (h1.cell 0)
theorem flat_sects_take : ∀ (m : Nat) (X : List UInt8), m * 128 <= X.length -> ((List.range m).map (sect X)).flatten = X.take (m * 128) := by
 intro m X
 induction m with
 | zero => intro _; simp
 | succ m ih =>
  intro hm
  rw [List.range_succ, List.map_append, List.flatten_append, ih (by omega)]
  simp only [List.map_cons, List.map_nil, List.flatten_cons, List.flatten_nil, List.append_nil]
  unfold sect
  rw [show (m + 1) * 128 = m * 128 + 128 by omega, List.take_add]
theorem slice_upto {P : Program} {t : TypeId} (ht : P.underlying t = some (.slice (P.elem t))) (hs : (P.info? (P.elem t)).isSome) (A : Option Addr) (k c j : Nat) (hj : j <= k) (hk : k <= c) :
  ∃ A', (∀ W, (Instr.slice t (.slice A k c) none (some (.int .i64 (j : Int))) none).run P W = .ok (.slice A' j c) W) /\ (∀ g off, A = some ⟨g, off, none⟩ -> A' = A) := by
 obtain ⟨i, hi⟩ := Option.isSome_iff_exists.1 hs
 refine ⟨if c = 0 then A else A.map (·.add 0), fun W => ?_, fun g off e => ?_⟩
 ·rw [run_slice_h W t A k c ht .i64 j (by omega) (by omega)]
  simp [sizeOf, typeInfo, hi, sliced, Sem.run_bind]
 ·subst e
  split <;> rfl
theorem info_rowel : (Tryz.prog.info? (Tryz.prog.elem 115)).isSome := by kernel_rfl
theorem cat_flat : ∀ (ps : List Pt), cat ps = (ps.map (·.l)).flatten := by
 intro ps
 unfold cat
 induction ps with
 | nil => rfl
 | cons p ps ih => rw [List.flatMap_cons, ih]; rfl
theorem own_caps {w : World} {base n c : Nat} {A : Option Addr} {xs : List Value} {e : TypeId} (h : w.ownsRow base e 1 (.slice A n c) n xs) : n <= c /\ c <= maxLen /\ (A = none -> c = 0) := by
 rcases h.2 with ⟨hv, h0⟩ | ⟨g, cap, cur, hv, hb, hg, h1, h2, _⟩
 ·injection hv with h1 h2 h3
  subst h1 h3
  exact ⟨by omega, by unfold maxLen; omega, fun _ => rfl⟩
 ·injection hv with h3 h4 h5
  subst h3 h5
  exact ⟨h1, h2, fun e => by cases e⟩
theorem sorted_le (ss : List Int) : (ss.mergeSort leZ).Pairwise (· <= ·) := by
 have tr : ∀ a b c : Int, leZ a b = true -> leZ b c = true -> leZ a c = true := fun a b c h1 h2 => by simp only [leZ, decide_eq_true_eq] at *; exact Int.le_trans h1 h2
 have to : ∀ a b : Int, (leZ a b || leZ b a) = true := fun a b => by simp only [leZ, Bool.or_eq_true, decide_eq_true_eq]; exact Int.le_total a b
 exact (List.pairwise_mergeSort tr to ss).imp (fun h => of_decide_eq_true h)
theorem pieces_len {D : Dk} (hok : D.Ok) : ∀ l ∈ pieces D, l.length <= 8388608 := by
 intro l hl
 have hm := hok.most
 unfold pieces at hl
 rcases List.mem_append.1 hl with hl | hl
 ·rcases List.mem_append.1 hl with hl | hl
  ·obtain ⟨i, hi, rfl⟩ := List.mem_map.1 hl
   unfold sect
   rw [List.length_take]
   omega
  ·obtain ⟨q, hq, rfl⟩ := List.mem_map.1 hl
   have := (hok.fits q hq).1
   omega
 ·rcases List.mem_cons.1 hl with rfl | hl
  ·omega
  ·obtain rfl := List.mem_singleton.1 hl
   rw [hok.image]
   omega
set_option maxHeartbeats 4000000 in
theorem seen_any (r b : Nat) (F : Nat -> Prop) (D : Dk) (w : World) (c0 : w.cell? ⟨r, 0, none⟩ = some (.pointer (some ⟨b, 0, none⟩))) (hD : DiskAt w b F D) (hok : D.Ok) (hsz : D.size <= 1000) (hq : D.queue.length <= 1000) (hm : ∃ m, w.cell? ⟨0, 0, none⟩ = some (.int .i64 m)) :
  Calls Tryz.prog 32 #[.pointer (some ⟨r, 0, none⟩)] w fun e w' => ∃ (v : Value) (ss : List Int), e = .returned v /\ w'.ownsRow w.heap.size 3 1 v ss.length (i64s ss) /\ ss.Pairwise (· < ·) /\ (∀ x, x ∈ ss ↔ SeenOf D x) /\ Below w.heap.size w w' := by
 have hrl : r < w.heap.size := World.block_lt_of_cell? w _ c0
 have HA := Lh (all_any b F D w hD hok (by omega))
 obtain ⟨L1, hL1⟩ : ∃ L, L = (List.range D.size).map (sect D.safe) ++ D.queue.map (·.2) := ⟨_, rfl⟩
 rw [<- hL1] at HA
 have hD1 : 1 <= D.size := by have := hok.pos; have := hok.whole; unfold Dk.size; omega
 have HD := Lh (Ai hD (Ai hok (Ai hL1 hm)))
 clear hD hm hL1
 go_enter Tryz.func32, Tryz.ntmps32
 go_wp2_with fail
 refine HA.out.mono ?_
 rintro e w1 ⟨v1, ps, rfl, hR⟩
 obtain ⟨A1, c1, rfl⟩ := own_shape hR.row
 obtain ⟨N, hN⟩ : ∃ N, N = D.size := ⟨_, rfl⟩
 obtain ⟨k1, hk1⟩ : ∃ k, k = ps.length := ⟨_, rfl⟩
 have hk1b : k1 = N + D.queue.length := by
  have h9 := congrArg List.length hR.data
  rw [List.length_map, HD.out.2.2.1, List.length_append, List.length_map, List.length_map, List.length_range] at h9
  omega
 have hcaps := own_caps hR.row
 obtain ⟨A2, hsl, hA2⟩ := slice_upto Tryz.underlying115 info_rowel A1 ps.length c1 N (by omega) hcaps.1
 have hNk : (N : Int) <= (k1 : Int) := by omega
 have hNc : (k1 : Int) <= (c1 : Int) := by omega
 have hNc2 : (N : Int) <= (c1 : Int) := by omega
 have hNc3 : N <= c1 := by omega
 have hD1' : DiskAt w1 b F D := HD.out.1.below hR.bel
 have c01 : w1.cell? ⟨r, 0, none⟩ = some (.pointer (some ⟨b, 0, none⟩)) := (hR.bel.cell hrl).trans c0
 rw [<- hk1] at hsl hcaps
 have HSL := Lh hsl
 have HK := Lh (Ai hA2 (Ai hk1 (Ai hk1b (Ai hcaps hN))))
 have HR := Lh (Ai hR hD1')
 rw [<- hk1]
 clear hsl hA2 hk1 hk1b hcaps hR hD1' HA hN
 go_wp2_with fail
 have R1 : RowsAt w w1.drew (.slice A1 ps.length c1) ps L1 := HR.out.1.below (Below.refl _ _).drew
 refine region_fast [(0, true), (1, true), (2, true), (3, true), (4, true), (5, true), (9, true), (10, true), (11, true), (12, true), (17, true), (6, false), (7, true), (8, false), (13, false), (14, false), (15, false), (16, true)] [1, 2, 3, 4, 5, 6, 7, 8, 9, 10, 11, 12, 13, 14, 15, 16, 17] 262142 [(4096, 16, 0, 0), (8192, 16, 0, 0), (16384, 1, 0, 0), (32768, 16384, 4, 4), (65536, 32768, 8, 12), (131072, 65536, 16, 28), (262144, 131072, 32, 60), (524288, 270336, 66, 126), (1048576, 524288, 192, 254), (2097152, 1, 0, 0), (4194304, 2097152, 512, 512), (8388608, 4194304, 1024, 1536), (16777216, 8388608, 2048, 3584), (33554432, 16777216, 4352, 8190), (67108864, 34603008, 8448, 16382), (134217728, 67112960, 24577, 32767), (268435456, 134217728, 32768, 65535), (536870912, 0, 0, 0)] (fun W => Below w.heap.size w W) (by kernel_rfl) (by kernel_rfl) (by kernel_rfl) rfl (by kernel_rfl) (by kernel_rfl) R1.bel (fun hS => ?_)
 repeat (first
  | (refine plan_read (v := ?_) rfl (fun _ _ _ h => h) rfl hS ?_ ?_; rotate_left 1; (focus (intro w' hS'; have e0 := (hS'.cell (p := ⟨r, 0, none⟩) hrl).trans c0; go_simp; try rfl)); (simp only [Act.put, pu1]; dsimp only [pu2, pu3]))
  | (refine plan_skip rfl (fun _ _ _ h => h) rfl hS ?_; (simp only [Act.put, pu1]; dsimp only [pu2, pu3])))
 refine plan_do (by rfl) (by rfl) (fun K hK => ?_)
 go_simp
 have hDz := dsize_any b F D w1.drew (HD.out.1.below hS) HD.out.2.1
 rw [<- HK.out.2.2.2.2] at hDz
 refine hDz.mono ?_
 rintro e w2 ⟨rfl, rfl⟩
 clear hDz
 refine hK.out _ _ (fun _ => hS) (fun hS => ?_); clear hK K; replace hS := hS rfl; try (simp only [Act.put, pu1]; dsimp only [pu2, pu3])
 repeat (first
  | (refine plan_read (v := ?_) rfl (fun _ _ _ h => h) rfl hS ?_ ?_; rotate_left 1; (focus (intro w' hS'; have e0 := (hS'.cell (p := ⟨r, 0, none⟩) hrl).trans c0; have e1 := HSL.out; go_simp; try rfl)); (simp only [Act.put, pu1]; dsimp only [pu2, pu3]))
  | (refine plan_skip rfl (fun _ _ _ h => h) rfl hS ?_; (simp only [Act.put, pu1]; dsimp only [pu2, pu3])))
 refine plan_do (by rfl) (by rfl) (fun K hK => ?_)
 go_simp
 obtain ⟨g1, cap1, cur1, hv1, hgb, hgb1, -⟩ := own_open R1.row (by have := HK.out.2.1; have := HK.out.2.2.1; have := HK.out.2.2.2.2; omega)
 obtain rfl : A1 = some ⟨g1, 0, none⟩ := by injection hv1
 obtain rfl : A2 = some ⟨g1, 0, none⟩ := HK.out.1 _ _ rfl
 have hrw : Rws w1.drew (some ⟨g1, 0, none⟩) ps := fun h0 => by
  obtain ⟨g, off, e, hc⟩ := (Sees.of_own R1.row).2 h0
  exact ⟨g, off, e, fun j p hj => hc j _ (by rw [List.getElem?_map, hj]; rfl)⟩
 have hcell : ∀ j p, (ps.take N)[j]? = some p -> w1.drew.cell? ⟨g1, 0 + j, none⟩ = some p.val := fun j p hj => by
  rw [List.getElem?_take] at hj
  split at hj
  ·obtain ⟨g, off, e, hc⟩ := hrw (by have := (List.getElem?_eq_some_iff.1 hj).1; omega)
   injection e with e
   injection e with e1 e2
   subst e1 e2
   exact hc j p hj
  ·cases hj
 have hpts : Pts w1.drew (ps.take N) := fun p hp => R1.pts p (List.mem_of_mem_take hp)
 have hcat : cat (ps.take N) = D.safe := by
  rw [cat_flat, List.map_take, R1.data, HD.out.2.2.1, List.take_left' (by rw [List.length_map, List.length_range]; exact HK.out.2.2.2.2.symm), flat_sects_take _ _ (by have := hok.whole; unfold Dk.size; omega), List.take_of_length_le (by have := hok.whole; unfold Dk.size; omega)]
 have hCC := concat_any (ps.take N) g1 0 N c1 _ (by rw [List.length_take]; have := HK.out.2.1; have := HK.out.2.2.1; omega) hcell hpts (by rw [hcat]; have := hok.whole; have : D.size = D.safe.length / 128 := rfl; omega) (by have := HK.out.2.2.2.2; omega)
 rw [hcat] at hCC
 refine hCC.mono ?_
 rintro e w3 ⟨v3, rfl, own3, bel3⟩
 obtain ⟨A3, c3, rfl⟩ := own_shape own3
 have R3 := R1.below bel3
 have H3 := Lh (own_base (base' := w.heap.size) own3 R1.bel.size)
 clear hrw hcell hpts hcat hCC bel3 own3 hv1 hgb1 R1
 refine hK.out _ _ (fun _ => R3.bel) (fun hS => ?_); clear hK K; replace hS := hS rfl; try (simp only [Act.put, pu1]; dsimp only [pu2, pu3])
 repeat (first
  | (refine plan_read (v := ?_) rfl (fun _ _ _ h => h) rfl hS ?_ ?_; rotate_left 1; (focus (intro w' hS'; have e0 := (hS'.cell (p := ⟨r, 0, none⟩) hrl).trans c0; go_simp; try rfl)); (simp only [Act.put, pu1]; dsimp only [pu2, pu3]))
  | (refine plan_skip rfl (fun _ _ _ h => h) rfl hS ?_; (simp only [Act.put, pu1]; dsimp only [pu2, pu3])))
 refine plan_do (by rfl) (by rfl) (fun K hK => ?_)
 go_simp
 refine (image_any b F D _ (HD.out.1.below hS) hok (by omega)).mono ?_
 rintro e w4 ⟨⟨v4, rfl, own4⟩, bel4⟩
 obtain ⟨A4, c4, rfl⟩ := own_shape own4
 have R4 := R3.below bel4
 have H4 := Lh (Ai (own_below H3.out bel4) (own_base (base' := w.heap.size) own4 R3.bel.size))
 clear own4 bel4 R3
 refine hK.out _ _ (fun _ => R4.bel) (fun hS => ?_); clear hK K; replace hS := hS rfl; try (simp only [Act.put, pu1]; dsimp only [pu2, pu3])
 repeat (first
  | (refine plan_read (v := ?_) rfl (fun _ _ _ h => h) rfl hS ?_ ?_; rotate_left 1; (focus (intro w' hS'; go_simp; try rfl)); (simp only [Act.put, pu1]; dsimp only [pu2, pu3]))
  | (refine plan_skip rfl (fun _ _ _ h => h) rfl hS ?_; (simp only [Act.put, pu1]; dsimp only [pu2, pu3])))
 refine plan_do (by rfl) (by rfl) (fun K hK => ?_)
 go_simp
 obtain ⟨w5, hw5⟩ : ∃ w5, w4.alloc (.cells #[.slice A3 D.safe.length c3, .slice A4 D.safe.length c4] 22) = w5 := ⟨_, rfl⟩
 have hb45 : Below w4.heap.size w4 w5 := hw5 ▸ (Below.refl _ _).alloc (Nat.le_refl _) _
 have hse : Sees w5 1 (some ⟨w4.heap.size, 0, none⟩) 2 [.slice A3 D.safe.length c3, .slice A4 D.safe.length c4] := hw5 ▸ sees_new w4 22 [.slice A3 D.safe.length c3, .slice A4 D.safe.length c4] 1 2 rfl
 rw [hw5]
 have R5 := R4.below hb45
 have H5 := Lh (Ai (own_below H4.out.1 hb45) (own_below H4.out.2 hb45))
 clear hw5 hb45 R4
 refine hK.out _ _ (fun _ => R5.bel) (fun hS => ?_); clear hK K; replace hS := hS rfl; try (simp only [Act.put, pu1]; dsimp only [pu2, pu3])
 repeat (first
  | (refine plan_read (v := ?_) rfl (fun _ _ _ h => h) rfl hS ?_ ?_; rotate_left 1; (focus (intro w' hS'; go_simp; try rfl)); (simp only [Act.put, pu1]; dsimp only [pu2, pu3]))
  | (refine plan_skip rfl (fun _ _ _ h => h) rfl hS ?_; (simp only [Act.put, pu1]; dsimp only [pu2, pu3])))
 refine plan_do (by rfl) (by rfl) (fun K hK => ?_)
 refine wp_app (.tmp 12) (.tmp 26) 115 rfl w.heap.size 22 _ 1 24 Tryz.underlying115 info_bytes rfl (by decide) (.slice (some ⟨g1, 0, none⟩) k1 c1) k1 (ps.map Pt.val) rfl (by rw [HK.out.2.1]; exact R5.row) (some ⟨w4.heap.size, 0, none⟩) 2 2 _ rfl hse (by simp [Value.oneCell']) (by have := HK.out.2.2.1; have := HK.out.2.2.2.2; unfold maxLen; omega) (by have := HK.out.2.2.1; have := HK.out.2.2.2.2; omega) R5.bel.size ?_
 intro v6 w6 o1 o2 o3 o4
 obtain ⟨A6, c6, rfl⟩ := own_shape o1
 obtain ⟨Ps, hPs⟩ : ∃ Ps : List Pt, Ps = ps ++ [⟨A3, D.safe.length, c3, D.safe⟩, ⟨A4, D.safe.length, c4, D.image⟩] := ⟨_, rfl⟩
 have hlast : w6.ownsRow w.heap.size 22 1 (.slice A6 (k1 + 2) c6) (k1 + 2) (Ps.map Pt.val) /\ (∀ p ∈ Ps, w6.ownsRow w.heap.size 5 1 p.val p.n (u8s p.l) /\ p.l.length = p.n) /\ Ps.map (·.l) = pieces D /\ Below w.heap.size w w6 := by
  have hf : Fr (fun k => (Value.slice (some ⟨g1, 0, none⟩) ps.length c1).ownBlock = some k) w5 w6 := Fr.of_grown o2 (fun k h => h)
  have hk : ∀ v n xs, w5.ownsRow w.heap.size 5 1 v n xs -> w6.ownsRow w.heap.size 5 1 v n xs := fun v n xs h => own_fr h hf (own_ne2 h R5.row (by decide))
  refine ⟨by rw [hPs, List.map_append]; exact o1, fun p hp => ?_, ?_, R5.bel.grown o2 R5.bel.size (fun k hk => (R5.row.lt k hk).1)⟩
  ·rw [hPs] at hp
   rcases List.mem_append.1 hp with hp | hp
   ·obtain ⟨h1, h2⟩ := R5.each p hp
    exact ⟨hk _ _ _ h1, h2⟩
   ·rcases List.mem_cons.1 hp with rfl | hp
    ·exact ⟨hk _ _ _ H5.out.1, rfl⟩
    ·obtain rfl := List.mem_singleton.1 hp
     exact ⟨hk _ _ _ H5.out.2, hok.image⟩
  ·rw [hPs, List.map_append, R5.data, HD.out.2.2.1]
   rfl
 have hPl : Ps.length = k1 + 2 := by rw [hPs, List.length_append, HK.out.2.1]; rfl
 have H6 := Lh (Ai hlast hPl)
 have hb6 := hlast.2.2.2
 clear o1 o2 o3 o4 hlast hPl hPs R5 hse
 refine hK.out _ _ (fun _ => hb6) (fun hS => ?_); clear hK K; replace hS := hS rfl; try (simp only [Act.put, pu1]; dsimp only [pu2, pu3])
 repeat (first
  | (refine plan_read (v := ?_) rfl (fun _ _ _ h => h) rfl hS ?_ ?_; rotate_left 1; (focus (intro w' hS'; go_simp; try rfl)); (simp only [Act.put, pu1]; dsimp only [pu2, pu3]))
  | (refine plan_skip rfl (fun _ _ _ h => h) rfl hS ?_; (simp only [Act.put, pu1]; dsimp only [pu2, pu3])))
 refine plan_nil ?_
 obtain ⟨K, hK⟩ : ∃ K, K = k1 + 2 := ⟨_, rfl⟩
 have hKb : K <= 3000 := by have := HK.out.2.2.1; have := HK.out.2.2.2.2; omega
 have hKi : IntKind.i64.wrap ((k1 : Int) + 2) = (K : Int) := by rw [hK, show (k1 : Int) + 2 = ((k1 + 2 : Nat) : Int) by omega]; exact IntWalk.i64_in _ (by have := HK.out.2.2.1; have := HK.out.2.2.2.2; omega)
 have hKi2 : ((k1 : Int) + 2) = (K : Int) := by omega
 rw [<- hK] at H6 ⊢
 rw [hKi2]
 clear hK hKi hKi2
 have hmx : ∃ m, w.cell? ⟨0, 0, none⟩ = some (.int .i64 m) := HD.out.2.2.2
 have HMX := Lh hmx
 clear hmx
 go_wp2_with fail
 go_loopw [3, 29] (fun o i wr => ∃ (j : Nat) (ss : List Int), i = .int .i64 j /\ j <= K /\ Hid (wr.ownsRow w6.heap.size 3 1 o ss.length (i64s ss) /\ (∀ x, x ∈ ss ↔ ∃ l, l ∈ (Ps.map (·.l)).take j /\ NamesOf l x) /\ ss.length <= j * 4096 /\ Below w6.heap.size w6 wr)) (fun _ i _ => K - (intOf i).toNat)
 case atStart => exact ⟨0, [], rfl, Nat.zero_le _, Lh ⟨World.ownsRow_nil _ _ _ _, (fun x => ⟨fun h => absurd h List.not_mem_nil, fun h => by obtain ⟨l, h, _⟩ := h; simp at h⟩), Nat.zero_le _, Below.refl _ _⟩⟩
 case round =>
  obtain ⟨j, ss, rfl, hj, hr⟩ := hrel
  by_cases hlt : j < K
  ·have hji : (j : Int) < (K : Int) := by omega
   have hjP : j < Ps.length := by rw [H6.out.2]; exact hlt
   obtain ⟨⟨B, n, c', l⟩, hpe⟩ : ∃ q : Pt, Ps[j]? = some q := ⟨_, List.getElem?_eq_getElem hjP⟩
   have hmem := List.mem_of_getElem? hpe
   obtain ⟨hown, hln⟩ := H6.out.1.2.1 _ hmem
   have hln' : l.length = n := hln
   have hlp : l ∈ pieces D := by rw [<- H6.out.1.2.2.1]; exact List.mem_map_of_mem hmem
   obtain ⟨g, off, rfl, hc⟩ := (Sees.of_own H6.out.1.1).2 (by omega)
   have h6c : w6.cell? ⟨g, off + j, none⟩ = some (.slice B n c') := hc j _ (by rw [List.getElem?_map, hpe]; rfl)
   have hc0 : wr.cell? ⟨g, off + j, none⟩ = some (.slice B n c') := (hr.out.2.2.2.cell (World.block_lt_of_cell? w6 _ h6c)).trans h6c
   have hcp := own_caps hown
   have hb6r := H6.out.1.2.2.2.trans (hr.out.2.2.2.mono H6.out.1.2.2.2.size)
   have hmr : ∃ m, wr.cell? ⟨0, 0, none⟩ = some (.int .i64 m) := by
    obtain ⟨m, hm⟩ := HMX.out
    exact ⟨m, (hb6r.cell (World.block_lt_of_cell? w _ hm)).trans hm⟩
   have HNM := Lh (named_any l B n c' wr ((Sees.of_own hown).below hr.out.2.2.2) hln' hcp.1 (by have := pieces_len hok l hlp; omega) hcp.2.1 hcp.2.2 hmr)
   have HL := Lh (Ai hpe hb6r)
   have hbz := hb6r.size
   clear hjP hpe hmem hown hln hln' hlp hc h6c hcp hb6r hmr
   go_wp2_with fail
   refine HNM.out.mono ?_
   rintro e w7 ⟨v7, s7, rfl, own7, hpw, hin, bel7⟩
   obtain ⟨A7, c7, rfl⟩ := own_shape own7
   have hs7 : s7.length <= 4096 := pairwise_few (a := 0) hpw (fun x hx => by
    obtain ⟨n, rfl, hn, _⟩ := (hin x).1 hx
    omega)
   have hown7 := own_below hr.out.1 bel7
   have hbel7 : Below w6.heap.size w6 w7 := hr.out.2.2.2.trans (bel7.mono hr.out.2.2.2.size)
   have hmem7 : ∀ x, x ∈ ss ++ s7 ↔ ∃ l, l ∈ (Ps.map (·.l)).take (j + 1) /\ NamesOf l x := fun x => by
    rw [List.mem_append, hr.out.2.1 x, hin x, List.take_add_one, List.getElem?_map, HL.out.1]
    simp only [Option.map_some, Option.toList_some, List.mem_append, List.mem_singleton]
    constructor
    ·rintro (⟨m, h1, h2⟩ | h)
     ·exact ⟨m, .inl h1, h2⟩
     ·exact ⟨l, .inr rfl, h⟩
    ·rintro ⟨m, h1 | rfl, h2⟩
     ·exact .inl ⟨m, h1, h2⟩
     ·exact .inr h2
   have hsl := hr.out.2.2.1
   have hdone : Hid (∀ (v' : Value) (w8 : World), w8.ownsRow w6.heap.size 3 1 v' (ss.length + s7.length) (i64s ss ++ i64s s7) -> w7.grownBy w8 u3.ownBlock ->
     w8.ownsRow w6.heap.size 3 1 v' (ss ++ s7).length (i64s (ss ++ s7)) /\ (∀ x, x ∈ ss ++ s7 ↔ ∃ l, l ∈ (Ps.map (·.l)).take (j + 1) /\ NamesOf l x) /\ (ss ++ s7).length <= (j + 1) * 4096 /\ Below w6.heap.size w6 w8) := Lh (by
    intro v' w8 o1 o2
    rw [i64s_append, List.length_append]
    exact ⟨o1, hmem7, by omega, hbel7.grown o2 hbel7.size (fun k hk => (hown7.lt k hk).1)⟩)
   have hs7' := Sees.of_own own7
   have hbz7 := hbel7.size
   have hssb : ss.length <= 20000000 := by omega
   clear hr own7 hpw hin bel7 hmem7 hsl hbel7 HNM
   go_wp2_with (at_builtin; refine wpList_app rfl (.tmp 33) (.tmp 35) _ rfl w6.heap.size 3 _ 1 8 Tryz.underlying28 info_int8 rfl (by decide) u3 ss.length (i64s ss) rfl hown7 A7 s7.length c7 (i64s s7) rfl hs7' (i64s_one s7) (by unfold maxLen; omega) (by omega) (by omega) ?_; intro v' w8 o1 o2 o3 o4; have H8 := Lh (hdone.out v' w8 o1 o2); clear o1 o2 o3 o4)
   go_roundw
   case rel => exact ⟨j + 1, ss ++ s7, by go_num, by omega, H8⟩
   case measure => simp [intOf]; omega
  ·obtain rfl : j = K := by omega
   have hge : ¬ ((j : Int) < (j : Int)) := by omega
   have hsl := hr.out.2.2.1
   have HSO := Lh (isort_any ss u3 w6.heap.size wr hr.out.1 (by omega))
   have hmem : ∀ x, x ∈ ss ↔ SeenOf D x := fun x => by
    rw [hr.out.2.1 x, List.take_of_length_le (by rw [List.length_map, H6.out.2]; exact Nat.le_refl _), H6.out.1.2.2.1]
    exact Iff.rfl
   have HE := Lh (Ai hmem hr.out.2.2.2)
   clear hr hmem
   go_wp2_with fail
   refine HSO.out.mono ?_
   rintro e w9 ⟨rfl, own9, bel9⟩
   rw [<- List.length_mergeSort (le := leZ)] at own9
   have HCO := Lh (icompact_any (ss.mergeSort leZ) u3 w6.heap.size w9 own9 (by rw [List.length_mergeSort]; omega) (sorted_le ss))
   have H9 := Lh (HE.out.2.trans bel9)
   clear own9 bel9 HSO
   go_wp2_with fail
   refine HCO.out.mono ?_
   rintro e w10 ⟨u, zs, rfl, own10, hpw, hin, bel10⟩
   have HF := Lh (Ai own10 (Ai hpw (Ai hin (H9.out.trans bel10))))
   clear own10 hpw hin bel10 HCO
   go_wp2_with fail
   go_ret
   exact ⟨u, zs, rfl, own_base HF.out.1 H6.out.1.2.2.2.size, HF.out.2.1, fun x => by rw [HF.out.2.2.1 x, (List.mergeSort_perm ss leZ).mem_iff]; exact HE.out.1 x, H6.out.1.2.2.2.trans (HF.out.2.2.2.mono H6.out.1.2.2.2.size)⟩
end Go.Proofs.YtkgaeoeibjoljaaGreatDoor
