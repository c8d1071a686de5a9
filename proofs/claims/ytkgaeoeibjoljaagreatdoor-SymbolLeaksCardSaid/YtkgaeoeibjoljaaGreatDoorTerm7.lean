/-
  Put: a new term.
-/
import Derived.Test.YtkgaeoeibjoljaaGreatDoorGR
namespace Go.Proofs.YtkgaeoeibjoljaaGreatDoor
set_option maxRecDepth 4000
open Go.RowKit
theorem info_i64 : (Tryz.prog.info? 3).map (fun i => (i.zero, i.size, i.bytes)) = some (some (.int .i64 0), 1, 8) := by kernel_rfl
theorem info_tm : (Tryz.prog.info? 95).map (fun i => (i.zero, i.size, i.bytes)) = some (some (.agg #[.int .i64 0, .int .i64 0, .int .i64 0, .int .i64 0]), 4, 32) := by kernel_rfl
def Stays (p mb bx : Nat) (w W : World) : Prop := ∀ b, (b = p \/ b = mb \/ b = bx) -> W.heap[b]? = w.heap[b]?
theorem Stays.cell {p mb bx : Nat} {w W : World} (h : Stays p mb bx w W) {b j : Nat} (hb : b = p \/ b = mb \/ b = bx) {v : Value} (hc : w.cell? ⟨b, j, none⟩ = some v) : W.cell? ⟨b, j, none⟩ = some v :=
 (World.cell?_of_block (w := w) (a := ⟨b, j, none⟩) (h b hb)).trans hc
theorem Stays.drew {p mb bx : Nat} {w : World} : Stays p mb bx w w.drew := fun _ _ => rfl
theorem own_ne_map {w : World} {base size n : Nat} {e : TypeId} {v : Value} {xs : List Value} {mb : Nat} {l : List Tm} (h : w.ownsRow base e size v n xs) (hm : TMap w mb l) : ∀ g, v.ownBlock = some g -> g ≠ mb := by
 rintro g hg rfl
 obtain ⟨es, clock, hb, _⟩ := hm
 rcases h.2 with ⟨rfl, _⟩ | ⟨g', cap, cur, rfl, _, hg', _⟩
 ·cases hg
 ·simp [Value.ownBlock] at hg
  subst hg
  rw [hb] at hg'
  cases hg'
abbrev cd1 (l : List Tm) (tA : Option Addr) (tc : Nat) (t : Tm) : Cd := ⟨95, 4, l.length, .slice tA l.length tc, tcs l, tcells t⟩
abbrev cd2 (l : List Tm) (dA : Option Addr) (dc : Nat) (d : Int) : Cd := ⟨3, 1, l.length, .slice dA l.length dc, i64s (deps l), [.int .i64 d]⟩
abbrev cd3 (l : List Tm) (sA : Option Addr) (sc : Nat) (s : Int) : Cd := ⟨3, 1, l.length, .slice sA l.length sc, i64s (sizs l), [.int .i64 s]⟩
def PInv (A0 : Act) (base : Nat) (D1 D2 D3 : Cd) (R : Nat -> Prop) (w0 : World) (L : Nat) (a : Act) (W : World) : Prop :=
 ∃ x1 y1 x2 y2 x3 y3, a = (((((A0.put (some 57) x1).put (some 58) y1).put (some 64) x2).put (some 65) y2).put (some 71) x3).put (some 72) y3 /\
  Three base D1 (stg L 8 9, x1, y1) D2 (stg L 15 16, x2, y2) D3 (stg L 22 23, x3, y3) R w0 W
theorem PInv.start {base : Nat} {D1 D2 D3 : Cd} {R : Nat -> Prop} {w0 : World} {A0 a : Act} (h0 : A0 = a) {L : Nat} {W : World} (x1 y1 x2 y2 x3 y3 : Value)
  (e : a = (((((a.put (some 57) x1).put (some 58) y1).put (some 64) x2).put (some 65) y2).put (some 71) x3).put (some 72) y3) (hL : stg L 8 9 = 0 /\ stg L 15 16 = 0 /\ stg L 22 23 = 0)
  (h : Three base D1 (0, x1, y1) D2 (0, x2, y2) D3 (0, x3, y3) R w0 W) : PInv A0 base D1 D2 D3 R w0 L a W := by
 subst h0
 refine ⟨x1, y1, x2, y2, x3, y3, e, ?_⟩
 rw [hL.1, hL.2.1, hL.2.2]
 exact h
set_option maxHeartbeats 1000000 in
theorem put_new (p : Nat) (t : Tm) (l : List Tm) (base : Nat) (w : World) (G : Nat -> Prop) (hP : PoolIn w base p l G) (hp : Pool l) (hr : okT l.length t = true) (hm : t ∉ l) (hf : l.length < 4096) (hwf : wfT t) (hT : Tab10 w) :
  Calls Tryz.prog 52 #[.pointer (some ⟨p, 0, none⟩), tval t] w fun e w' => e = .returned (.tuple #[.int .i64 l.length, .int .i64 0]) /\ PoolIn w' base p (l ++ [t]) (fun k => G k \/ w.heap.size <= k) /\ Fr G w w' := by
 obtain ⟨tA, tc, mb, dA, dc, sA, sc, hP, hG⟩ := hP
 have HG := Lh hG; clear hG
 obtain ⟨k, a, x, y⟩ := t
 have h0 := PutAt.start (k := k) (a := a) (x := x) (y := y) hP
 have HLT := Lh (show ∀ g, (Value.slice tA l.length tc).ownBlock = some g -> g ≠ w.heap.size from fun g hg e => by have := (hP.ts.lt g hg).2; omega)
 have HR := Lh (tright_any p ⟨k, a, x, y⟩ tA l.length tc _ (own_len hP.ts) h0.parts.cell0)
 rw [hr] at HR
 have b0 := h0.box.cell 0
 have b1 := h0.box.cell 1
 have b2 := h0.box.cell 2
 have b3 := h0.box.cell 3
 have hT0 : Tab10 (w.alloc (.cells #[.int .i64 k, .int .i64 a, .int .i64 x, .int .i64 y] 95)) := hT.below (Nat.le_refl _) ((Below.refl _ _).alloc (Nat.le_refl _) _)
 have HT0 := Lh hT0; clear hT0 hT
 have H0 := Lh h0; clear h0 hP
 have hlk := fun W hW => @lookup_term W mb l hW k a x y
 rw [if_neg hm, decide_eq_false hm] at hlk
 have HL := Lh hlk; clear hlk
 have HF := Lh hf
 have hfb : ((l.length : Int) == 4096) = false := by simp; omega
 clear hf
 have HM := Lh hm; clear hm
 have HOK := Lh (Ai hp (Ai hr hwf)); clear hp hr hwf
 have hmeas := fun W hW hTW => measure_any p ⟨k, a, x, y⟩ l base W hW HOK.out.1 HOK.out.2.1 HOK.out.2.2 hTW (Nat.le_of_lt HF.out)
 have HMS := Lh hmeas; clear hmeas
 obtain ⟨dN, hdN⟩ : ∃ d, depT (deps l) ⟨k, a, x, y⟩ = d := ⟨_, rfl⟩
 obtain ⟨sN, hsN⟩ : ∃ s, sizT (sizs l) ⟨k, a, x, y⟩ = s := ⟨_, rfl⟩
 rw [hdN, hsN] at HMS
 have HDN := Lh (Ai hdN hsN); clear hdN hsN
 unfold tval at HR HMS ⊢
 go_enter Tryz.func52, Tryz.ntmps52
 go_wp2_with fail
 refine HR.out.mono ?_
 rintro e' w2 ⟨rfl, bel⟩
 have H1 := Lh (H0.out.below bel).drew
 have HT1 := Lh (HT0.out.below (Nat.le_refl _) bel)
 have HT2 := Lh (Tab10.below HT1.out (Nat.le_refl _) (Below.refl _ _).drew)
 clear b0 b1 b2 b3 HR
 go_wp2_with fail
 refine region_fast [(0, true), (1, true), (2, true), (3, true), (4, true), (5, true), (6, true), (7, true), (8, true), (9, true), (10, true)] [4, 8, 9] 784 [(65536, 1, 0, 0), (131072, 65536, 1, 1), (262144, 131072, 2, 3), (524288, 262144, 4, 7), (1048576, 8, 0, 0), (2097152, 1572864, 24, 31), (32768, 2097152, 32, 63), (4194304, 32768, 64, 127), (8388608, 32768, 64, 127), (64, 4194304, 255, 255), (128, 8388608, 1023, 1023)] (fun W => PutAt w W base p l tA tc mb dA dc sA sc k a x y) (by kernel_rfl) (by kernel_rfl) (by kernel_rfl) rfl (by kernel_rfl) (by kernel_rfl) H1.out (fun hS => ?_)
 repeat (first
  | (refine plan_read (v := ?_) rfl (fun _ _ _ h => h) rfl hS ?_ ?_; rotate_left 1; (focus (intro w' hS'; have s1 := hS'.parts.cell1; have s2 := hS'.box.cell 0; have s3 := hS'.box.cell 1; have s4 := hS'.box.cell 2; have s5 := hS'.box.cell 3; have s6 := HL.out _ hS'.parts.mp; go_simp; try rfl)); (simp only [Act.put, pu1]; dsimp only [pu2, pu3]))
  | (refine plan_skip rfl (fun _ _ _ h => h) rfl hS ?_; (simp only [Act.put, pu1]; dsimp only [pu2, pu3])))
 refine plan_nil ?_
 have c0 : w2.cell? ⟨p, 0, none⟩ = some (.slice tA l.length tc) := hS.parts.cell0
 have b0 : w2.cell? ⟨w.heap.size, 0, none⟩ = _ := hS.box.cell 0
 have b1 : w2.cell? ⟨w.heap.size, 1, none⟩ = _ := hS.box.cell 1
 have b2 : w2.cell? ⟨w.heap.size, 2, none⟩ = _ := hS.box.cell 2
 have b3 : w2.cell? ⟨w.heap.size, 3, none⟩ = _ := hS.box.cell 3
 simp only [List.getElem?_toArray, List.getElem?_cons_zero, List.getElem?_cons_succ] at b0 b1 b2 b3
 have HS := Lh hS; clear hS
 go_wp2_with fail
 refine (HMS.out _ HS.out.is HT2.out).mono ?_
 rintro e' w3 ⟨rfl, bel3⟩
 have H3 := Lh (HS.out.below bel3)
 clear c0 b0 b1 b2 b3
 have c0 : w3.cell? ⟨p, 0, none⟩ = some (.slice tA l.length tc) := H3.out.parts.cell0
 go_wp2_with fail
 obtain ⟨w4, hupd, hM4, hF4, hz4⟩ := run_update_tm termType (w := w3.drew) (E := 3) Tryz.underlying133 H3.out.drew.parts.mp ⟨k, a, x, y⟩ HM.out
 have HU := Lh hupd; clear hupd
 refine region_fast [(0, true), (1, true), (2, true), (3, true), (4, true), (5, true), (6, false)] [4, 5] 48 [(8796093022208, 1, 0, 0), (17592186044416, 8796093022208, 1, 1), (35184372088832, 17592186044416, 2, 3), (70368744177664, 35184372088832, 4, 7), (140737488355328, 8, 0, 0), (281474976710656, 1024, 0, 0), (0, 492581209243648, 63, 63)] (fun W => W = w3.drew) (by kernel_rfl) (by kernel_rfl) (by kernel_rfl) rfl (by kernel_rfl) (by kernel_rfl) rfl (fun hS => ?_)
 repeat (first
  | (refine plan_read (v := ?_) rfl (fun _ _ _ h => h) rfl hS ?_ ?_; rotate_left 1; (focus (intro w' hS'; have s1 := H3.out.drew.parts.cell1; have s2 := H3.out.drew.box.cell 0; have s3 := H3.out.drew.box.cell 1; have s4 := H3.out.drew.box.cell 2; have s5 := H3.out.drew.box.cell 3; subst hS'; go_simp; try rfl)); (simp only [Act.put, pu1]; dsimp only [pu2, pu3]))
  | (refine plan_skip rfl (fun _ _ _ h => h) rfl hS ?_; (simp only [Act.put, pu1]; dsimp only [pu2, pu3])))
 refine plan_do (by rfl) (by rfl) (fun K hK => ?_)
 have hupd := HU.out
 unfold tval at hupd
 go_simp
 clear hupd
 refine hK.out _ _ (fun h => by cases h) (fun _ => ?_); clear hK K; try (simp only [Act.put, pu1]; dsimp only [pu2, pu3])
 refine plan_nil ?_
 go_wp2_with fail
 have hFp : ∀ b, b ≠ mb -> b < w3.heap.size -> w4.heap[b]? = w3.heap[b]? := fun b hb hl => hF4.block b hl hb
 have hmb := H3.out.parts.mp
 have nmb : ∀ g t (cs : Array Value), w3.heap[g]? = some (.cells cs t (0, 0)) -> g ≠ mb := fun g t cs hg e => by
  obtain ⟨es, clock, hb, _⟩ := hmb
  rw [e, hb] at hg
  cases hg
 have blk4 : Blk w4 p 136 _ := H3.out.parts.blk.keep (hFp p (nmb p _ _ H3.out.parts.blk) H3.out.parts.blk.lt)
 have box4 : Blk w4 w.heap.size 95 _ := H3.out.box.keep (hFp _ (nmb _ _ _ H3.out.box) H3.out.box.lt)
 have own4 : ∀ e size v n xs, w3.ownsRow base e size v n xs -> w4.ownsRow base e size v n xs := fun e size v n xs h => own_keep h fun g hg => by
  obtain ⟨hg1, hg2⟩ := h.lt g hg
  refine hFp g ?_ hg2
  rcases h.2 with ⟨rfl, _⟩ | ⟨g', cap, cur, rfl, hb, hg', _⟩
  ·cases hg
  ·simp [Value.ownBlock] at hg
   subst hg
   exact nmb _ _ _ hg'
 have ts4 := own4 _ _ _ _ _ H3.out.parts.ts
 have ds4 := own4 _ _ _ _ _ H3.out.parts.ds
 have ss4 := own4 _ _ _ _ _ H3.out.parts.ss
 clear own4
 have q0 : w4.cell? ⟨p, 0, none⟩ = some (.slice tA l.length tc) := blk4.cell 0
 have q2 : w4.cell? ⟨p, 2, none⟩ = some (.slice dA l.length dc) := blk4.cell 2
 have q3 : w4.cell? ⟨p, 3, none⟩ = some (.slice sA l.length sc) := blk4.cell 3
 have b0 : w4.cell? ⟨w.heap.size, 0, none⟩ = some (.int .i64 k) := box4.cell 0
 have b1 : w4.cell? ⟨w.heap.size, 1, none⟩ = some (.int .i64 a) := box4.cell 1
 have b2 : w4.cell? ⟨w.heap.size, 2, none⟩ = some (.int .i64 x) := box4.cell 2
 have b3 : w4.cell? ⟨w.heap.size, 3, none⟩ = some (.int .i64 y) := box4.cell 3
 have HQ := Lh (Ai q0 (Ai q2 (Ai q3 (Ai b0 (Ai b1 (Ai b2 b3))))))
 have HW := Lh (Ai H3.out (Ai hM4 (Ai hF4 (Ai hz4 (Ai blk4 (Ai box4 (Ai ts4 (Ai ds4 ss4))))))))
 clear HU hM4 hF4 hz4 blk4 box4 ts4 ds4 ss4 q0 q2 q3 b0 b1 b2 b3 hFp hmb nmb
 refine region_invE [1, 2] [0, 3, 4, 5, 6, 7, 10, 11, 12, 13, 14, 17, 18, 19, 20, 21] [8, 9, 15, 16, 22, 23] [(4095231, 6), (8289535, 5), (4127999, 5), (4095487, 5), (8322303, 4), (8289791, 4), (4128255, 4), (4095999, 4), (8322559, 3), (8290303, 3), (4128767, 3), (8323071, 2), (4194303, 2), (8388607, 1), (16777215, 0)] [(24, false), (25, false), (26, false), (27, false), (28, false), (29, false), (30, false), (31, false), (32, false)] [3, 4, 5, 6, 7, 8, 9, 10, 11, 12, 13, 14, 15, 16, 17, 18, 19, 20, 21, 22, 23] 4095231 6 16777215 16777208 [(562949953421312, 1, 0, 0), (1125899906842624, 1, 0, 0), (2251799813685248, 1, 0, 0), (4503599627370496, 1, 0, 0), (9007199254740992, 4503599627370496, 8, 8), (18014398509481984, 9007199254740992, 16, 24), (36028797018963968, 18014398509481984, 32, 56), (72057594037927936, 8, 0, 0), (144115188075855872, 72057594037927936, 128, 128), (288230376151711744, 180143985094819840, 320, 504), (576460752303423488, 1, 0, 0), (1152921504606846976, 576460752303423488, 1024, 1024), (2305843009213693952, 1152921504606846976, 2048, 3072), (4611686018427387904, 2305843009213693952, 4096, 7168), (9223372036854775808, 256, 0, 0), (18446744073709551616, 9223372036854775808, 16384, 16384), (36893488147419103232, 23058430092136939520, 41472, 65528), (73786976294838206464, 1, 0, 0), (147573952589676412928, 73786976294838206464, 131072, 131072), (295147905179352825856, 147573952589676412928, 262144, 393216), (590295810358705651712, 295147905179352825856, 524288, 917504), (1180591620717411303424, 512, 0, 0), (2361183241434822606848, 1180591620717411303424, 2097152, 2097152), (4722366482869645213696, 2951479051793528258560, 5308416, 8388600), (9444732965739290427392, 562949953421312, 9511929, 16777209), (18889465931478580854784, 9444732965739290427392, 26289145, 33554425), (0, 18889754161854732566528, 43066361, 67108857), (37778931862957161709568, 1125899906842624, 127008763, 134217723), (75557863725914323419136, 37778931862957161709568, 261226491, 268435451), (0, 75594757214061742522368, 395444219, 536870907), (151115727451828646838272, 2251799813685248, 1073741823, 1073741823), (302231454903657293676544, 151115727451828646838272, 2147483647, 2147483647), (0, 306953821386526938890240, 3221225471, 4294967295)] (fun W => Stays p mb w.heap.size w4 W) (fun A0 L' a' W' => PInv A0 base (cd1 l tA tc ⟨k, a, x, y⟩) (cd2 l dA dc dN) (cd3 l sA sc sN) (fun b => b = p \/ b = mb \/ b = w.heap.size) w4.drew L' a' W') (by kernel_rfl) (by kernel_rfl) (by kernel_rfl) rfl (by kernel_rfl) (by kernel_rfl) Stays.drew ⟨?A0, (fun hS => ?_), ?_, ?_⟩; rotate_left 1
 ·skip
  repeat (refine free_read (v := ?_) rfl (fun _ _ _ h => h) rfl ?_ ?_; rotate_left 1; (focus (intro w'; go_simp; try rfl)); (simp only [Act.put, pu1]; dsimp only [pu2, pu3]))
  refine free_nil ?_
  refine ⟨rfl, ?_⟩
  repeat (first
   | (refine pre_read (v := ?_) rfl (fun _ _ _ h => h) rfl hS ?_ ?_; rotate_left 1; (focus (intro w' hS'; obtain ⟨q0, q2, q3, b0, b1, b2, b3⟩ := HQ.out; replace q0 := hS'.cell (.inl rfl) q0; replace q2 := hS'.cell (.inl rfl) q2; replace q3 := hS'.cell (.inl rfl) q3; replace b0 := hS'.cell (.inr (.inr rfl)) b0; replace b1 := hS'.cell (.inr (.inr rfl)) b1; replace b2 := hS'.cell (.inr (.inr rfl)) b2; replace b3 := hS'.cell (.inr (.inr rfl)) b3; go_simp; try rfl)); (simp only [Act.put, pu1]; dsimp only [pu2, pu3]))
   | (refine pre_skip rfl (fun _ _ _ h => h) rfl hS ?_; (simp only [Act.put, pu1]; dsimp only [pu2, pu3])))
  refine pre_nil ?_
  clear hS
  obtain ⟨g3, m4, f4, z4, k4, x4, t4, d4, s4⟩ := HW.out
  have nR : ∀ e size v n xs, w4.ownsRow base e size v n xs -> e ≠ 136 -> (∀ g, v.ownBlock = some g -> g ≠ w.heap.size) -> ∀ g, v.ownBlock = some g -> ¬ (g = p \/ g = mb \/ g = w.heap.size) := fun e size v n xs h he hx g hg hR => by
   rcases hR with rfl | rfl | rfl
   ·exact own_ne h k4 he _ hg rfl
   ·exact own_ne_map h m4 _ hg rfl
   ·exact hx _ hg rfl
  have h5 : ∀ x1 y1 x2 y2 x3 y3, Three base (cd1 l tA tc ⟨k, a, x, y⟩) (0, x1, y1) (cd2 l dA dc dN) (0, x2, y2) (cd3 l sA sc sN) (0, x3, y3) (fun b => b = p \/ b = mb \/ b = w.heap.size) w4.drew w4.drew := fun x1 y1 x2 y2 x3 y3 => by
   refine Three.start t4 d4 s4 (own_ne2 t4 d4 (by decide)) (own_ne2 t4 s4 (by decide)) g3.parts.ne ?_ ?_ ?_ _ _ _ _ _ _
   ·rintro g (hg | hg | hg)
    ·exact nR _ _ _ _ _ t4 (by decide) HLT.out g hg
    ·exact nR _ _ _ _ _ d4 (by decide) (own_ne d4 x4 (by decide)) g hg
    ·exact nR _ _ _ _ _ s4 (by decide) (own_ne s4 x4 (by decide)) g hg
   ·have := g3.parts.lo.1
    have := k4.lt
    show base <= w4.heap.size
    omega
   ·rintro b (rfl | rfl | rfl)
    ·exact k4.lt
    ·exact m4.lt
    ·exact x4.lt
  refine PInv.start ?h0 undef undef undef undef undef undef ?_ ?_ ?_
  case h0 => exact rfl
  ·kernel_rfl
  ·exact ⟨by kernel_rfl, by kernel_rfl, by kernel_rfl⟩
  ·exact h5 _ _ _ _ _ _
 ·intro L n i hmem hi hrb a' W hI
  obtain ⟨x1, y1, x2, y2, x3, y3, rfl, h3⟩ := hI
  simp only [Act.put, List.setIfInBounds_toArray]; dsimp only [List.set_cons_zero, List.set_cons_succ]
  have hlen := HF.out
  simp only [List.mem_cons, List.not_mem_nil, or_false] at hi
  rcases hi with rfl | rfl | rfl | rfl | rfl | rfl
  ·obtain ⟨u1, u2⟩ := pairs_one (pairs := [(8, 9), (15, 16), (22, 23)]) (by kernel_rfl) hmem (i := 8) (j := 9) (by simp) hrb
   clear hmem hrb
   obtain ⟨v1, v2⟩ := stg_build u1 u2 (by decide)
   rw [v1] at h3
   refine inv_do rfl rfl (fun K hK => ?_)
   go_simp
   have h4 := h3.build rfl 95 y1
   refine hK.out _ _ ⟨fun b hb => h4.stay b hb, .slice (some ⟨W.heap.size, 0, none⟩) 1 1, y1, x2, y2, x3, y3, ?_, ?_⟩
   rotate_left 1
   ·rw [v2, stg_other (by decide) (by decide), stg_other (by decide) (by decide)]
    exact h4
   ·kernel_rfl
  ·obtain ⟨u1, u2⟩ := pairs_two (pairs := [(8, 9), (15, 16), (22, 23)]) (by kernel_rfl) hmem (i := 8) (j := 9) (by simp) hrb
   clear hmem hrb
   obtain ⟨v1, v2⟩ := stg_app u1 u2
   rw [v1] at h3
   obtain ⟨o1, o2, g1, rfl, o3⟩ := (h3).lit
   refine inv_do rfl rfl (fun K hK => ?_)
   refine wp_app (Operand.tmp 55) (Operand.tmp 57) 134 rfl base 95 _ _ _ Tryz.underlying134 info_tm rfl (by decide) _ _ _ rfl o1 _ _ _ _ rfl o3 ?_ ?_ ?_ o2 (fun v' w' n1 n2 n3 n4 => ?_)
   ·simp [tcells, Value.oneCell']
   ·show l.length + 1 <= maxLen
    unfold maxLen
    omega
   ·show (l.length + 1) * 32 <= 140737488355328
    omega
   have h4 := ((h3).app (.slice (some ⟨g1, 0, none⟩) 1 1) n1 n2 n3)
   refine hK.out _ _ ⟨fun b hb => h4.stay b hb, .slice (some ⟨g1, 0, none⟩) 1 1, v', x2, y2, x3, y3, ?_, ?_⟩
   rotate_left 1
   ·rw [v2, stg_other (by decide) (by decide), stg_other (by decide) (by decide)]
    exact h4
   ·kernel_rfl
  ·obtain ⟨u1, u2⟩ := pairs_one (pairs := [(8, 9), (15, 16), (22, 23)]) (by kernel_rfl) hmem (i := 15) (j := 16) (by simp) hrb
   clear hmem hrb
   obtain ⟨v1, v2⟩ := stg_build u1 u2 (by decide)
   rw [v1] at h3
   refine inv_do rfl rfl (fun K hK => ?_)
   go_simp
   have h4 := (Three.build (h3.swap12) rfl 3 y2).swap12
   refine hK.out _ _ ⟨fun b hb => h4.stay b hb, x1, y1, .slice (some ⟨W.heap.size, 0, none⟩) 1 1, y2, x3, y3, ?_, ?_⟩
   rotate_left 1
   ·rw [v2, stg_other (by decide) (by decide), stg_other (by decide) (by decide)]
    exact h4
   ·kernel_rfl
  ·obtain ⟨u1, u2⟩ := pairs_two (pairs := [(8, 9), (15, 16), (22, 23)]) (by kernel_rfl) hmem (i := 15) (j := 16) (by simp) hrb
   clear hmem hrb
   obtain ⟨v1, v2⟩ := stg_app u1 u2
   rw [v1] at h3
   obtain ⟨o1, o2, g1, rfl, o3⟩ := (h3.swap12).lit
   refine inv_do rfl rfl (fun K hK => ?_)
   refine wp_app (Operand.tmp 62) (Operand.tmp 64) 28 rfl base 3 _ _ _ Tryz.underlying28 info_i64 rfl (by decide) _ _ _ rfl o1 _ _ _ _ rfl o3 ?_ ?_ ?_ o2 (fun v' w' n1 n2 n3 n4 => ?_)
   ·simp [Value.oneCell']
   ·show l.length + 1 <= maxLen
    unfold maxLen
    omega
   ·show (l.length + 1) * 8 <= 140737488355328
    omega
   have h4 := ((h3.swap12).app (.slice (some ⟨g1, 0, none⟩) 1 1) n1 n2 n3).swap12
   refine hK.out _ _ ⟨fun b hb => h4.stay b hb, x1, y1, .slice (some ⟨g1, 0, none⟩) 1 1, v', x3, y3, ?_, ?_⟩
   rotate_left 1
   ·rw [v2, stg_other (by decide) (by decide), stg_other (by decide) (by decide)]
    exact h4
   ·kernel_rfl
  ·obtain ⟨u1, u2⟩ := pairs_one (pairs := [(8, 9), (15, 16), (22, 23)]) (by kernel_rfl) hmem (i := 22) (j := 23) (by simp) hrb
   clear hmem hrb
   obtain ⟨v1, v2⟩ := stg_build u1 u2 (by decide)
   rw [v1] at h3
   refine inv_do rfl rfl (fun K hK => ?_)
   go_simp
   have h4 := (Three.build (h3.swap13) rfl 3 y3).swap13
   refine hK.out _ _ ⟨fun b hb => h4.stay b hb, x1, y1, x2, y2, .slice (some ⟨W.heap.size, 0, none⟩) 1 1, y3, ?_, ?_⟩
   rotate_left 1
   ·rw [v2, stg_other (by decide) (by decide), stg_other (by decide) (by decide)]
    exact h4
   ·kernel_rfl
  ·obtain ⟨u1, u2⟩ := pairs_two (pairs := [(8, 9), (15, 16), (22, 23)]) (by kernel_rfl) hmem (i := 22) (j := 23) (by simp) hrb
   clear hmem hrb
   obtain ⟨v1, v2⟩ := stg_app u1 u2
   rw [v1] at h3
   obtain ⟨o1, o2, g1, rfl, o3⟩ := (h3.swap13).lit
   refine inv_do rfl rfl (fun K hK => ?_)
   refine wp_app (Operand.tmp 69) (Operand.tmp 71) 28 rfl base 3 _ _ _ Tryz.underlying28 info_i64 rfl (by decide) _ _ _ rfl o1 _ _ _ _ rfl o3 ?_ ?_ ?_ o2 (fun v' w' n1 n2 n3 n4 => ?_)
   ·simp [Value.oneCell']
   ·show l.length + 1 <= maxLen
    unfold maxLen
    omega
   ·show (l.length + 1) * 8 <= 140737488355328
    omega
   have h4 := ((h3.swap13).app (.slice (some ⟨g1, 0, none⟩) 1 1) n1 n2 n3).swap13
   refine hK.out _ _ ⟨fun b hb => h4.stay b hb, x1, y1, x2, y2, .slice (some ⟨g1, 0, none⟩) 1 1, v', ?_, ?_⟩
   rotate_left 1
   ·rw [v2, stg_other (by decide) (by decide), stg_other (by decide) (by decide)]
    exact h4
   ·kernel_rfl
 ·intro a' W hI
  obtain ⟨x1, y1, x2, y2, x3, y3, rfl, h3⟩ := hI
  rw [show stg 16777215 8 9 = 2 by kernel_rfl, show stg 16777215 15 16 = 2 by kernel_rfl, show stg 16777215 22 23 = 2 by kernel_rfl] at h3
  have stay := h3.stay
  obtain ⟨e1, e2, e3, ne, nR, bel⟩ := h3.done
  clear h3
  obtain ⟨A1, c1, rfl⟩ := own_shape e1
  obtain ⟨A2, c2, rfl⟩ := own_shape e2
  obtain ⟨A3, c3, rfl⟩ := own_shape e3
  obtain ⟨g3, m4, f4, z4, k4, x4, t4, d4, s4⟩ := HW.out
  have kW : Blk W p 136 _ := k4.keep (stay p (.inl rfl))
  have HX := Lh (Ai e1 (Ai e2 (Ai e3 (Ai ne (Ai nR (Ai bel (Ai kW stay)))))))
  have p0 : W.cell? ⟨p, 0, none⟩ = some (.slice tA l.length tc) := kW.cell 0
  have p2 : W.cell? ⟨p, 2, none⟩ = some (.slice dA l.length dc) := kW.cell 2
  have p3 : W.cell? ⟨p, 3, none⟩ = some (.slice sA l.length sc) := kW.cell 3
  have z0 := kW.frozen 0
  have z2 := kW.frozen 2
  have z3 := kW.frozen 3
  clear stay e1 e2 e3 ne nR bel kW g3 m4 f4 z4 k4 x4 t4 d4 s4
  simp only [Act.put, List.setIfInBounds_toArray]; dsimp only [List.set_cons_zero, List.set_cons_succ]
  refine plan_do (by rfl) (by rfl) (fun K hK => ?_)
  go_simp
  refine hK.out _ _ (fun h => by cases h) (fun _ => ?_); clear hK K; try (simp only [Act.put, pu1]; dsimp only [pu2, pu3])
  refine plan_do (by rfl) (by rfl) (fun K hK => ?_)
  go_simp
  refine hK.out _ _ (fun h => by cases h) (fun _ => ?_); clear hK K; try (simp only [Act.put, pu1]; dsimp only [pu2, pu3])
  refine plan_do (by rfl) (by rfl) (fun K hK => ?_)
  go_simp
  refine hK.out _ _ (fun h => by cases h) (fun _ => ?_); clear hK K; try (simp only [Act.put, pu1]; dsimp only [pu2, pu3])
  clear p0 p2 p3 z0 z2 z3
  have k1 := Blk.set_ HX.out.2.2.2.2.2.2.1 0 (.slice A1 (l.length + 1) c1)
  have r1 : Fr (· = p) W (W.setCell ⟨p, 0, none⟩ (.slice A1 (l.length + 1) c1)) := Fr.setCell W ⟨p, 0, none⟩ _ rfl
  generalize W.setCell ⟨p, 0, none⟩ (.slice A1 (l.length + 1) c1) = W1 at *
  have p2 : W1.cell? ⟨p, 2, none⟩ = some (.slice dA l.length dc) := k1.cell 2
  have z2 := k1.frozen 2
  have K1 := Lh (Ai k1 r1); clear k1 r1
  refine plan_do (by rfl) (by rfl) (fun K hK => ?_)
  go_simp
  refine hK.out _ _ (fun h => by cases h) (fun _ => ?_); clear hK K; try (simp only [Act.put, pu1]; dsimp only [pu2, pu3])
  refine plan_do (by rfl) (by rfl) (fun K hK => ?_)
  go_simp
  refine hK.out _ _ (fun h => by cases h) (fun _ => ?_); clear hK K; try (simp only [Act.put, pu1]; dsimp only [pu2, pu3])
  refine plan_do (by rfl) (by rfl) (fun K hK => ?_)
  go_simp
  refine hK.out _ _ (fun h => by cases h) (fun _ => ?_); clear hK K; try (simp only [Act.put, pu1]; dsimp only [pu2, pu3])
  clear p2 z2
  have k2 := Blk.set_ K1.out.1 2 (.slice A2 (l.length + 1) c2)
  have r2 : Fr (· = p) W (W1.setCell ⟨p, 2, none⟩ (.slice A2 (l.length + 1) c2)) := K1.out.2.trans (Fr.setCell (F := (· = p)) W1 ⟨p, 2, none⟩ _ rfl) (fun _ _ h => h)
  generalize W1.setCell ⟨p, 2, none⟩ (.slice A2 (l.length + 1) c2) = W2 at *
  have p3 : W2.cell? ⟨p, 3, none⟩ = some (.slice sA l.length sc) := k2.cell 3
  have z3 := k2.frozen 3
  have K2 := Lh (Ai k2 r2); clear k2 r2 K1
  refine plan_do (by rfl) (by rfl) (fun K hK => ?_)
  go_simp
  refine hK.out _ _ (fun h => by cases h) (fun _ => ?_); clear hK K; try (simp only [Act.put, pu1]; dsimp only [pu2, pu3])
  refine plan_do (by rfl) (by rfl) (fun K hK => ?_)
  go_simp
  refine hK.out _ _ (fun h => by cases h) (fun _ => ?_); clear hK K; try (simp only [Act.put, pu1]; dsimp only [pu2, pu3])
  refine plan_do (by rfl) (by rfl) (fun K hK => ?_)
  go_simp
  refine hK.out _ _ (fun h => by cases h) (fun _ => ?_); clear hK K; try (simp only [Act.put, pu1]; dsimp only [pu2, pu3])
  clear p3 z3
  have k3 := Blk.set_ K2.out.1 3 (.slice A3 (l.length + 1) c3)
  have r3 : Fr (· = p) W (W2.setCell ⟨p, 3, none⟩ (.slice A3 (l.length + 1) c3)) := K2.out.2.trans (Fr.setCell (F := (· = p)) W2 ⟨p, 3, none⟩ _ rfl) (fun _ _ h => h)
  generalize W2.setCell ⟨p, 3, none⟩ (.slice A3 (l.length + 1) c3) = W3 at *
  have K3 := Lh (Ai k3 r3); clear k3 r3 K2
  refine plan_nil ?_
  go_wp2_with fail
  go_ret2
  obtain ⟨e1, e2, e3, ne, nR, bel, kW, stay⟩ := HX.out
  obtain ⟨g3, m4, f4, z4, k4, x4, t4, d4, s4⟩ := HW.out
  obtain ⟨k3, r3⟩ := K3.out
  have hl : (l ++ [(⟨k, a, x, y⟩ : Tm)]).length = l.length + 1 := by simp
  have hmp : mb ≠ p := fun e => by
   obtain ⟨es, clock, hb, _⟩ := m4
   unfold Blk at k4
   rw [<- e, hb] at k4
   cases k4
  have hm1 := m4.lt
  have hs1 := bel.size
  have hg := HG.out
  have hw3 : w.heap.size <= w4.drew.heap.size := by
   have h1 := g3.bel.size
   have h2 := f4.size
   show w.heap.size <= w4.heap.size
   have h3 : w3.drew.heap.size = w3.heap.size := rfl
   omega
  have hO : ∀ g, Old3 (cd1 l tA tc ⟨k, a, x, y⟩) (cd2 l dA dc dN) (cd3 l sA sc sN) g \/ w4.drew.heap.size <= g -> G g \/ w.heap.size <= g := by
   rintro g ((h | h | h) | h)
   ·exact .inl (hg.ht g h)
   ·exact .inl (hg.hd g h)
   ·exact .inl (hg.hs g h)
   ·exact .inr (Nat.le_trans hw3 h)
  have hbs : base <= W.heap.size := by have h1 := g3.parts.lo.2; have h2 : w4.heap.size <= W.heap.size := hs1; omega
  refine ⟨rfl, ⟨A1, c1, mb, A2, c2, A3, c3, ⟨?_, ?_, ?_, ?_, ?_, ?_, g3.parts.lo⟩, ?_⟩, ?_⟩
  ·rw [hl]
   simpa using k3
  ·rw [hl, tcs_append, tcs_one]
   exact own_fr e1 r3 (fun g hg hF => (nR g (.inl hg)).1 (.inl hF))
  ·rw [hl, show deps (l ++ [(⟨k, a, x, y⟩ : Tm)]) = deps l ++ [dN] by rw [<- HDN.out.1]; exact laidT_snoc _ _, i64s_append]
   exact own_fr e2 r3 (fun g hg hF => (nR g (.inr (.inl hg))).1 (.inl hF))
  ·rw [hl, show sizs (l ++ [(⟨k, a, x, y⟩ : Tm)]) = sizs l ++ [sN] by rw [<- HDN.out.2]; exact laidT_snoc _ _, i64s_append]
   exact own_fr e3 r3 (fun g hg hF => (nR g (.inr (.inr hg))).1 (.inl hF))
  ·refine m4.keep ((r3.block mb ?_ hmp).trans (stay mb (.inr (.inl rfl))))
   have h2 : w4.heap.size <= W.heap.size := hs1
   omega
  ·rw [hl]
   exact ne
  ·rw [hl]
   exact ⟨.inl hg.hp, .inl hg.hm, fun g h => hO g (nR g (.inl h)).2, fun g h => hO g (nR g (.inr (.inl h))).2, fun g h => hO g (nR g (.inr (.inr h))).2⟩
  ·have f1 : Fr G w w3 := Fr.of_below g3.bel G
   have f2 : Fr G w3 w4 := ⟨f4.os, f4.tape, f4.output, f4.size, fun k hk hn => f4.block k hk (fun e => hn (e ▸ hg.hm))⟩
   have f3 : Fr (Old3 (cd1 l tA tc ⟨k, a, x, y⟩) (cd2 l dA dc dN) (cd3 l sA sc sN)) w4 W := ⟨bel.os, bel.tape, bel.output, bel.size, bel.block⟩
   have f4' : Fr G w4 W := f3.mono (fun k _ hk => by
    rcases hk with h | h | h
    ·exact hg.ht k h
    ·exact hg.hd k h
    ·exact hg.hs k h)
   have f5 : Fr G W W3 := r3.mono (fun k _ hk => hk ▸ hg.hp)
   exact ((f1.trans f2 (fun _ _ h => h)).trans f4' (fun _ _ h => h)).trans f5 (fun _ _ h => h)
end Go.Proofs.YtkgaeoeibjoljaaGreatDoor
