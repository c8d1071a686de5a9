/-
  What a region tells: scan.
-/
import Derived.Test.YtkgaeoeibjoljaaGreatDoorGM
namespace Go.Proofs.YtkgaeoeibjoljaaGreatDoor
set_option maxRecDepth 4000
open Go.RowKit
set_option maxHeartbeats 8000000 in
theorem scan_any (lb b f : Nat) (s : Lg) (bg cB : Nat) (A0 : Option Addr) (cT0 : Nat) (C0 : Option Addr) (cC0 : Nat) (vs0 : List Pt) (K0 : Nat -> Prop) (w : World) (h : LgP w lb b f s bg cB A0 cT0 C0 cC0 vs0 K0) (hok : s.Ok) (hm : s.texts.length + s.segs * s.n <= 100000000) (hT : Tab w) (hKT : ∀ k, K0 k -> k ≠ 3 /\ k ≠ 2) :
  Calls Tryz.prog 122 #[.pointer (some ⟨lb, 0, none⟩)] w fun e w' => e = .returned (.tuple #[]) /\ (s.scan 0 s.segs).Ok /\ Fr K0 w w' /\ ∃ A cT C cC vs, LgP w' lb b f (s.scan 0 s.segs) bg cB A cT C cC vs (fun k => K0 k \/ w.heap.size <= k) := by
 have c2 : w.cell? ⟨lb, 2, none⟩ = some (.int .i64 s.segs) := h.top.cell 2
 have hsg := hok.segs
 have hsz := hok.size
 have hn := hok.n_le
 have hal := hok.all_le
 have hbl := (h.oct.lt bg rfl).2
 obtain ⟨g, cap, cur, hv, -, -, hcap1, hcap2, -⟩ := own_open h.oct (by rw [hok.oct]; omega)
 injection hv with hv1 hv2 hv3
 injection hv1 with hv1
 injection hv1 with hv1 _ _
 subst hv1
 subst hv3
 obtain ⟨N, hN⟩ : ∃ N, N = s.n := ⟨_, rfl⟩
 obtain ⟨sg, hSG⟩ : ∃ m, m = s.segs := ⟨_, rfl⟩
 obtain ⟨sz, hSZ⟩ : ∃ m, m = s.size := ⟨_, rfl⟩
 obtain ⟨L, hL⟩ : ∃ L, L = s.B.length := ⟨_, rfl⟩
 have hLa : L = sg * N := by rw [hL, hok.oct, hSG, hN]; rfl
 have hO := fun w => octets_any (.pointer (some ⟨b, 0, none⟩)) f sg sz w (by omega)
 have hNz : sz * 128 = N := by rw [hN, hSZ]; rfl
 rw [hNz] at hO
 have HO := Lh hO
 rw [<- hL] at hcap1
 rw [<- hSG] at c2 hsg
 rw [<- hN, <- hSG] at hm
 rw [<- hN] at hn
 have hL6 : L <= 16777216 := by rw [hL, hok.oct]; exact hal.2
 have hLc : L <= cB := hcap1
 have hcm : cB <= 9223372036854775807 := by unfold maxLen at hcap2; omega
 have HSZ := Lh info_prs
 have HI := Lh (Ai h hok)
 have HT := Lh hT
 have HM := Lh hm
 have HKT := Lh hKT
 rw [<- hSG]
 replace hN := Lh hN
 replace hSG := Lh hSG
 replace hSZ := Lh hSZ
 replace hL := Lh hL
 replace hLa := Lh hLa
 clear h hok hT hm hKT hsz hal hNz hO
 go_enter Tryz.func122, Tryz.ntmps122
 go_wp2_with fail
 go_loopw [10] (fun i wr => ∃ j : Nat, i = .int .i64 j /\ j <= sg /\ Hid (∃ (s1 : Lg) (A : Option Addr) (cT : Nat) (C : Option Addr) (cC : Nat) (vs : List Pt), LgP wr lb b f s1 bg cB A cT C cC vs (fun k => K0 k \/ w.heap.size <= k) /\ s1.Ok /\ Fr K0 w wr /\ s.scan 0 sg = s1.scan j (sg - j) /\ s1.B = s.B /\ s1.segs = s.segs /\ s1.size = s.size /\ s1.texts.length <= s.texts.length + j * N)) (fun i _ => sg - (intOf i).toNat)
 case atStart => exact ⟨0, rfl, Nat.zero_le _, Lh ⟨s, A0, cT0, C0, cC0, vs0, HI.out.1.mono (fun _ h => .inl h), HI.out.2, Fr.refl _ _, rfl, rfl, rfl, rfl, by omega⟩⟩
 case round =>
  obtain ⟨j, rfl, hj, hr⟩ := hrel
  obtain ⟨s1, A, cT, C, cC, vs, h1, ok1, f1, e1, eB, eS, eZ, m1⟩ := hr.out
  by_cases hlt : j < sg
  ·have hji : (j : Int) < (sg : Int) := by omega
   have hn1 : s1.n = N := by unfold Lg.n; rw [eZ]; exact hN.out.symm
   have hjs : j < s1.segs := by rw [eS, <- hSG.out]; exact hlt
   have hsl1 := ok1.seg hjs
   have hal1 : s1.all = L := by rw [<- ok1.oct, eB, hL.out]
   rw [hn1, hal1] at hsl1
   obtain ⟨M1, hM1⟩ : ∃ M, M = j * N := ⟨_, rfl⟩
   obtain ⟨M2, hM2⟩ : ∃ M, M = (j + 1) * N := ⟨_, rfl⟩
   rw [<- hM1, <- hM2] at hsl1
   have hmb : j * N <= sg * N := Nat.mul_le_mul_right _ hj
   have hT1 : s1.texts.length + N <= 100000000 := by
    have : (j + 1) * N <= sg * N := Nat.mul_le_mul_right _ hlt
    have h2 := HM.out
    rw [<- hM2] at this
    rw [<- hM1] at m1
    omega
   have hs1 := ok1.scan1 hjs (by rw [hn1]; exact hT1)
   have hz := pz_in' (s1.seg j) s1.texts.length s1.n s1.chain ok1.chain (by rw [hn1]; exact hsl1.1) ok1.n_le.1
   rw [hn1] at hz hs1
   obtain ⟨O, hO⟩ : ∃ O, O = pref (s1.seg j) (hd j s1.texts.length s1.chain) := ⟨_, rfl⟩
   obtain ⟨z, hzd⟩ : ∃ z, z = pz (s1.seg j) s1.texts.length N (pz0 s1.chain) := ⟨_, rfl⟩
   rw [<- hzd] at hz
   obtain ⟨Kl, hKl⟩ : ∃ Kl : Nat -> Prop, Kl = fun k => (K0 k \/ w.heap.size <= k) /\ k < wr.heap.size := ⟨_, rfl⟩
   have h2 : LgP wr lb b f s1 bg cB A cT C cC vs Kl := hKl ▸ h1.restrict
   have hKlt : ∀ k, Kl k -> k < wr.heap.size := fun k hk => by rw [hKl] at hk; exact hk.2
   have tb1 : Tab wr := HT.out.fr f1 HKT.out
   have hBp : ∀ W, LgP W lb b f s1 bg cB A cT C cC vs Kl -> Below wr.heap.size wr W -> Calls Tryz.prog 153 #[.slice (some ⟨bg, M1, none⟩) (M2 - M1) (cB - M1), .int .i64 j, .int .i64 s1.texts.length, .slice C 32 cC] W fun e w' => ∃ (A : Option Addr) (m cT : Nat) (C : Option Addr) (kk cC : Nat) (se : Bool) (us : Nat),
     e = .returned (.tuple #[.agg #[.slice A m cT, .slice C kk cC, .bool se, .int .i64 us], .bool O]) /\ (O = true -> PF w' wr.heap.size z A m cT C kk cC se us) /\ Below W.heap.size W w' := fun W hW hbW => by
    have h5 := Sees.of_own hW.oct
    have hBl : s1.B.length = L := by rw [eB, hL.out]
    rw [hBl] at h5
    have h6 := Sees.piece h5 M1 (M2 - M1) (by omega)
    rw [<- u8s_drop, <- u8s_take, Nat.zero_add] at h6
    have e6 : (s1.B.drop M1).take (M2 - M1) = s1.seg j := by unfold Lg.seg; rw [hn1, <- hM1, show M2 - M1 = N by omega]
    rw [e6] at h6
    refine (parse_both (s1.seg j) s1.chain bg M1 (M2 - M1) (cB - M1) j s1.texts.length C cC W h6 (by omega) (by omega) (by omega) (by rw [show M2 - M1 = N by omega, hN.out]; unfold Lg.n; omega) (by omega) (Sees.of_own hW.chain) ok1.chain (by have := ok1.many; omega) (by omega) (tb1.below hbW)).mono ?_
    rintro e w' ⟨A, m, cT, C, kk, cC, se, us, rfl, hO', bel⟩
    rw [<- hO] at hO' ⊢
    refine ⟨A, m, cT, C, kk, cC, se, us, rfl, fun ho => ?_, bel⟩
    have := hO' ho
    rw [show M2 - M1 = N by omega, <- hzd] at this
    exact ⟨this.hm, this.hk, this.hse, this.hus, this.rows.lower hbW.size⟩
   obtain ⟨T, hTl⟩ : ∃ T, T = s1.texts.length := ⟨_, rfl⟩
   rw [<- hTl] at hBp
   have HP := Lh hBp
   have HLEAF : Hid (∀ (W : World) (p : Nat) (A' : Option Addr) (m cT' : Nat) (C' : Option Addr) (k cC' : Nat) (se : Bool) (us : Nat), LgP W lb b f s1 bg cB A cT C cC vs Kl -> Below wr.heap.size wr W -> Blk W p 229 #[.slice none 0 0, .slice none 0 0, .bool false, .int .i64 0] -> wr.heap.size <= p -> (O = true -> PF W wr.heap.size z A' m cT' C' k cC' se us) ->
     LgP (W.setRow p #[.slice A' m cT', .slice C' k cC', .bool se, .int .i64 us]) lb b f s1 bg cB A cT C cC vs Kl /\ Blk (W.setRow p #[.slice A' m cT', .slice C' k cC', .bool se, .int .i64 us]) p 229 #[.slice A' m cT', .slice C' k cC', .bool se, .int .i64 us] /\ wr.heap.size <= p /\ Below wr.heap.size wr (W.setRow p #[.slice A' m cT', .slice C' k cC', .bool se, .int .i64 us]) /\
      (O = true -> PF (W.setRow p #[.slice A' m cT', .slice C' k cC', .bool se, .int .i64 us]) wr.heap.size z A' m cT' C' k cC' se us)) := Lh (by
    intro W p A' m cT' C' k cC' se us q1 q2 q3 q4 q5
    refine ⟨q1.fr (Fr.setRow W p _ (rfl : (fun k => k = p) p)) (fun k hk e => by have := hKlt k hk; omega), q3.setRow _, q4, below_setRow q2 q4 _, fun ho => ?_⟩
    have := q5 ho
    exact ⟨this.hm, this.hk, this.hse, this.hus, this.rows.other q3 (Fr.setRow W p _ rfl)⟩)
   have hm1 : IntKind.i64.wrap ((j : Int) * (N : Int)) = (M1 : Int) := by rw [hM1]; rw [show (j : Int) * (N : Int) = ((j * N : Nat) : Int) by simp]; exact IntWalk.i64_in _ (by omega)
   have hm2 : IntKind.i64.wrap (((j : Int) + 1) * (N : Int)) = (M2 : Int) := by rw [hM2]; rw [show ((j : Int) + 1) * (N : Int) = (((j + 1) * N : Nat) : Int) by simp]; exact IntWalk.i64_in _ (by omega)
   have hj1 : IntKind.i64.wrap ((j : Int) + 1) = (j : Int) + 1 := IntWalk.i64_in _ (by omega)
   have hsl : ¬ (cB = M1) := by omega
   have hslA : M2 <= cB := by omega
   have hslB : M1 <= M2 := by omega
   have hjb : j <= 256 := by omega
   have HSS := Lh (Ai hs1 (Ai hz (Ai e1 (Ai hKl hKlt))))
   have HSE := Lh (Ai eB (Ai eS (Ai eZ (Ai m1 (Ai hTl (Ai hO hzd))))))
   have HSQ := Lh (Ai ok1 (Ai f1 (Ai hn1 hT1)))
   have H2 := Lh (Ai h2 hsl1)
   replace hM1 := Lh hM1
   replace hM2 := Lh hM2
   clear hs1 hz e1 hKl hKlt eB eS eZ m1 hTl hO hzd ok1 f1 hn1 hT1 h2 h1 hr hsl1 hal1 tb1 hBp hmb hjs c2
   go_wp2_with fail
   refine wp_mid9 ?F (fun p A' m cT' C' k cC' se us W => LgP W lb b f s1 bg cB A cT C cC vs Kl /\ Blk W p 229 #[.slice A' m cT', .slice C' k cC', .bool se, .int .i64 us] /\ wr.heap.size <= p /\ Below wr.heap.size wr W /\ (O = true -> PF W wr.heap.size z A' m cT' C' k cC' se us)) ?reg ?go
   case reg =>
    refine region_tree (.read 0 (.read 1 (.read 2 (.read 3 (.read 4 (.read 5 (.read 6 (.read 7 (.read 8 (.read 11 (.read 12 (.read 13 (.read 14 (.read 15 (.read 16 (.read 20 (.read 21 (.read 22 (.read 23 (.read 24 (.read 25 (.read 26 (.read 27 (.read 28 (.read 29 (.two 9 (.read 10 (.two 17 (.read 18 (.read 19 (.two 30 (.read 31 (.read 32 (.read 33 (.one 34 (.one 35 (.read 36 .leaf)))))) 34 (.one 30 (.read 31 (.read 32 (.read 33 (.one 35 (.read 36 .leaf))))))))) 34 (.one 17 (.read 18 (.read 19 (.one 30 (.read 31 (.read 32 (.read 33 (.one 35 (.read 36 .leaf))))))))))) 34 (.one 9 (.read 10 (.one 17 (.read 18 (.read 19 (.one 30 (.read 31 (.read 32 (.read 33 (.one 35 (.read 36 .leaf))))))))))))))))))))))))))))))))))))) [4, 5, 6, 7, 8, 9, 10, 11, 12, 13, 14, 15, 16, 17, 18, 19, 20, 21, 22, 23, 24, 25, 26, 27, 28, 29, 33, 34, 35] 61203283952 [(16384, 1, 0, 0), (32768, 16384, 1, 1), (65536, 32768, 2, 3), (131072, 65536, 4, 7), (262144, 4, 0, 0), (524288, 1, 0, 0), (1048576, 524288, 32, 32), (2097152, 1048576, 64, 96), (4194304, 2097152, 128, 224), (8388608, 4194304, 256, 480), (16777216, 8650752, 528, 1008), (33554432, 4, 0, 0), (67108864, 33554432, 2048, 2048), (134217728, 1, 0, 0), (268435456, 134217728, 8192, 8192), (536870912, 268435456, 16384, 24576), (1073741824, 536870912, 32768, 57344), (2147483648, 1073741824, 66048, 123872), (4294967296, 2214592512, 135168, 261088), (8589934592, 4311875584, 263176, 524287), (17179869184, 4, 0, 0), (34359738368, 1, 0, 0), (68719476736, 34359738368, 2097152, 2097152), (137438953472, 68719476736, 4194304, 6291456), (274877906944, 137438953472, 8388608, 14680064), (549755813888, 274877906944, 16777216, 31457280), (1099511627776, 1, 0, 0), (2199023255552, 1099511627776, 67108864, 67108864), (4398046511104, 2199023255552, 134217728, 201326592), (8796093022208, 4398046511104, 268435456, 469762048), (17592186044416, 9371618639872, 572129280, 1073741823), (8192, 17592186044416, 1073741824, 2147483647), (35184372088832, 8192, 2147483648, 4294967295), (70368744177664, 8192, 2147483648, 4294967295), (8, 0, 0, 0), (0, 35184372088840, 25769803775, 25769803775), (16, 70368744177664, 68719476735, 68719476735)] (fun W => LgP W lb b f s1 bg cB A cT C cC vs Kl /\ Below wr.heap.size wr W) (by kernel_rfl) (by kernel_rfl) (by kernel_rfl) rfl (by kernel_rfl) (by kernel_rfl) ⟨H2.out.1.below (Below.refl _ _).drew, (Below.refl _ _).drew⟩ (fun hS => ?_)
    repeat (first
     | (refine tree_read (v := ?_) rfl (fun _ _ _ h => by first | exact h | cases h.1) rfl hS ?_ ?_; rotate_left 1; (focus (intro w' hS'; have e0 : w'.cell? ⟨lb, 0, none⟩ = some (.pointer (some ⟨b, 0, none⟩)) := hS'.1.top.cell 0; have e1 : w'.cell? ⟨lb, 1, none⟩ = some (.int .i64 f) := hS'.1.top.cell 1; have e2 : w'.cell? ⟨lb, 2, none⟩ = some (.int .i64 sg) := (by rw [hSG.out, <- HSE.out.2.1]; exact hS'.1.top.cell 2); have e3 : w'.cell? ⟨lb, 3, none⟩ = some (.int .i64 sz) := (by rw [hSZ.out, <- HSE.out.2.2.1]; exact hS'.1.top.cell 3); have e4 : w'.cell? ⟨lb, 4, none⟩ = some (.slice (some ⟨bg, 0, none⟩) L cB) := (by rw [hL.out, <- HSE.out.1]; exact hS'.1.top.cell 4); have e8 : w'.cell? ⟨lb, 8, none⟩ = some (.slice A T cT) := (by rw [HSE.out.2.2.2.2.1]; exact hS'.1.top.cell 8); have e9 : w'.cell? ⟨lb, 9, none⟩ = some (.slice C 32 cC) := hS'.1.top.cell 9; go_simp; try rfl)); (simp only [Act.put, pu1]; dsimp only [pu2, pu3]))
     | (refine tree_skip rfl (fun _ _ _ h => by first | exact h | cases h.1) rfl hS ?_; (simp only [Act.put, pu1]; dsimp only [pu2, pu3])))
    refine tree_two ?_ ?_
    ·skip
     refine tree_do (by rfl) (by rfl) (fun K hK => ?_)
     go_simp
     refine (HO.out _).mono ?_
     rintro e w1 ⟨rfl, bel⟩
     refine hK.out _ _ (fun _ => ⟨hS.1.below bel, hS.2.trans (bel.mono hS.2.size)⟩) (fun hS => ?_); clear hK K; replace hS := hS rfl; try (simp only [Act.put, pu1]; dsimp only [pu2, pu3])
     refine tree_read (v := Value.int .i64 (M1 : Nat)) rfl (fun _ _ _ h => by first | exact h | cases h.1) rfl hS ?_ ?_; (focus (intro w' hS'; go_simp; first | done | simp [hm1] | (simp; omega))); (simp only [Act.put, pu1]; dsimp only [pu2, pu3])
     refine tree_two ?_ ?_
     ·skip
      refine tree_do (by rfl) (by rfl) (fun K hK => ?_)
      go_simp
      refine (HO.out _).mono ?_
      rintro e w1 ⟨rfl, bel⟩
      refine hK.out _ _ (fun _ => ⟨hS.1.below bel, hS.2.trans (bel.mono hS.2.size)⟩) (fun hS => ?_); clear hK K; replace hS := hS rfl; try (simp only [Act.put, pu1]; dsimp only [pu2, pu3])
      refine tree_read (v := Value.int .i64 (M2 : Nat)) rfl (fun _ _ _ h => by first | exact h | cases h.1) rfl hS ?_ ?_; (focus (intro w' hS'; go_simp; first | done | simp [hm2] | (simp; omega))); (simp only [Act.put, pu1]; dsimp only [pu2, pu3])
      refine tree_read (v := Value.slice (some ⟨bg, M1, none⟩) (M2 - M1) (cB - M1)) rfl (fun _ _ _ h => by first | exact h | cases h.1) rfl hS ?_ ?_; (focus (intro w' hS'; go_simp; first | done | simp [hsl] | (simp; omega))); (simp only [Act.put, pu1]; dsimp only [pu2, pu3])
      refine tree_two ?_ ?_
      ·skip
       refine tree_do (by rfl) (by rfl) (fun K hK => ?_)
       go_simp
       refine (HP.out _ hS.1 hS.2).mono ?_
       rintro e w1 ⟨A, m, cT, C, kk, cC, se, us, rfl, hO, bel⟩
       have hS := Ai (hS.1.below bel) (hS.2.trans (bel.mono hS.2.size))
       refine hK.out _ _ (fun h => by cases h) (fun _ => ?_); clear hK K; try (simp only [Act.put, pu1]; dsimp only [pu2, pu3])
       repeat (first
        | (refine tree_read (v := ?_) rfl (fun _ _ _ h => by first | exact h | cases h.1) rfl hS ?_ ?_; rotate_left 1; (focus (intro w' hS'; go_simp; try rfl)); (simp only [Act.put, pu1]; dsimp only [pu2, pu3]))
        | (refine tree_skip rfl (fun _ _ _ h => by first | exact h | cases h.1) rfl hS ?_; (simp only [Act.put, pu1]; dsimp only [pu2, pu3])))
       refine tree_do (by rfl) (by rfl) (fun K hK => ?_)
       go_simp
       have bel := (Below.refl _ _).alloc (Nat.le_refl w1.heap.size) (.cells #[.slice none 0 0, .slice none 0 0, .bool false, .int .i64 0] 229)
       have hp : Blk (w1.alloc (.cells #[.slice none 0 0, .slice none 0 0, .bool false, .int .i64 0] 229)) w1.heap.size 229 #[.slice none 0 0, .slice none 0 0, .bool false, .int .i64 0] := Blk.new _ _ _
       have hO := fun h => (hO h).below bel
       obtain ⟨p, hpe⟩ : ∃ p, w1.heap.size = p := ⟨_, rfl⟩
       have hpl : wr.heap.size <= p := (by rw [<- hpe]; exact hS.2.size)
       obtain ⟨w2, hw2⟩ : ∃ w2, w1.alloc (.cells #[.slice none 0 0, .slice none 0 0, .bool false, .int .i64 0] 229) = w2 := ⟨_, rfl⟩
       rw [hw2] at bel hp hO
       rw [show w1.alloc (.cells #[.slice none 0 0, .slice none 0 0, .bool false, .int .i64 0] 229) = w2 from hw2]
       rw [hpe] at hp ⊢
       refine hK.out _ _ (fun _ => ⟨hS.1.below bel, hS.2.trans (bel.mono hS.2.size)⟩) (fun hS => ?_); clear hK K; replace hS := hS rfl; try (simp only [Act.put, pu1]; dsimp only [pu2, pu3])
       refine tree_do (by rfl) (by rfl) (fun K hK => ?_)
       refine wp_store_row 229 (.tmp 3) (.tmp 45) rfl p _ rfl rfl 229 _ hp (by exact HSZ.out) (Eq.refl 4) (by simp [Value.oneCell']) ?_
       have hR := HLEAF.out _ p A m cT C kk cC se us hS.1 hS.2 hp hpl hO
       refine hK.out _ _ (fun _ => ⟨hR.1, hR.2.2.2.1⟩) (fun hS => ?_); clear hK K; replace hS := hS rfl; try (simp only [Act.put, pu1]; dsimp only [pu2, pu3])
       repeat (first
        | (refine tree_read (v := ?_) rfl (fun _ _ _ h => by first | exact h | cases h.1) rfl hS ?_ ?_; rotate_left 1; (focus (intro w' hS'; go_simp; try rfl)); (simp only [Act.put, pu1]; dsimp only [pu2, pu3]))
        | (refine tree_skip rfl (fun _ _ _ h => by first | exact h | cases h.1) rfl hS ?_; (simp only [Act.put, pu1]; dsimp only [pu2, pu3])))
       refine tree_leaf ?_
       refine ⟨rfl, p, A, m, cT, C, kk, cC, se, us, ?_, hR⟩
       rfl
      ·skip
       refine tree_do (by rfl) (by rfl) (fun K hK => ?_)
       go_simp
       have bel := (Below.refl _ _).alloc (Nat.le_refl w1.heap.size) (.cells #[.slice none 0 0, .slice none 0 0, .bool false, .int .i64 0] 229)
       have hp : Blk (w1.alloc (.cells #[.slice none 0 0, .slice none 0 0, .bool false, .int .i64 0] 229)) w1.heap.size 229 #[.slice none 0 0, .slice none 0 0, .bool false, .int .i64 0] := Blk.new _ _ _
       obtain ⟨p, hpe⟩ : ∃ p, w1.heap.size = p := ⟨_, rfl⟩
       have hpl : wr.heap.size <= p := (by rw [<- hpe]; exact hS.2.size)
       obtain ⟨w2, hw2⟩ : ∃ w2, w1.alloc (.cells #[.slice none 0 0, .slice none 0 0, .bool false, .int .i64 0] 229) = w2 := ⟨_, rfl⟩
       rw [hw2] at bel hp
       rw [show w1.alloc (.cells #[.slice none 0 0, .slice none 0 0, .bool false, .int .i64 0] 229) = w2 from hw2]
       rw [hpe] at hp ⊢
       refine hK.out _ _ (fun _ => ⟨hS.1.below bel, hS.2.trans (bel.mono hS.2.size)⟩) (fun hS => ?_); clear hK K; replace hS := hS rfl; try (simp only [Act.put, pu1]; dsimp only [pu2, pu3])
       refine tree_do (by rfl) (by rfl) (fun K hK => ?_)
       go_simp
       refine (HP.out _ hS.1 hS.2).mono ?_
       rintro e w1 ⟨A, m, cT, C, kk, cC, se, us, rfl, hO, bel⟩
       have hp := hp.below bel hp.lt
       have hS := Ai (hS.1.below bel) (hS.2.trans (bel.mono hS.2.size))
       refine hK.out _ _ (fun h => by cases h) (fun _ => ?_); clear hK K; try (simp only [Act.put, pu1]; dsimp only [pu2, pu3])
       repeat (first
        | (refine tree_read (v := ?_) rfl (fun _ _ _ h => by first | exact h | cases h.1) rfl hS ?_ ?_; rotate_left 1; (focus (intro w' hS'; go_simp; try rfl)); (simp only [Act.put, pu1]; dsimp only [pu2, pu3]))
        | (refine tree_skip rfl (fun _ _ _ h => by first | exact h | cases h.1) rfl hS ?_; (simp only [Act.put, pu1]; dsimp only [pu2, pu3])))
       refine tree_do (by rfl) (by rfl) (fun K hK => ?_)
       refine wp_store_row 229 (.tmp 3) (.tmp 45) rfl p _ rfl rfl 229 _ hp (by exact HSZ.out) (Eq.refl 4) (by simp [Value.oneCell']) ?_
       have hR := HLEAF.out _ p A m cT C kk cC se us hS.1 hS.2 hp hpl hO
       refine hK.out _ _ (fun _ => ⟨hR.1, hR.2.2.2.1⟩) (fun hS => ?_); clear hK K; replace hS := hS rfl; try (simp only [Act.put, pu1]; dsimp only [pu2, pu3])
       repeat (first
        | (refine tree_read (v := ?_) rfl (fun _ _ _ h => by first | exact h | cases h.1) rfl hS ?_ ?_; rotate_left 1; (focus (intro w' hS'; go_simp; try rfl)); (simp only [Act.put, pu1]; dsimp only [pu2, pu3]))
        | (refine tree_skip rfl (fun _ _ _ h => by first | exact h | cases h.1) rfl hS ?_; (simp only [Act.put, pu1]; dsimp only [pu2, pu3])))
       refine tree_leaf ?_
       refine ⟨rfl, p, A, m, cT, C, kk, cC, se, us, ?_, hR⟩
       rfl
     ·skip
      refine tree_do (by rfl) (by rfl) (fun K hK => ?_)
      go_simp
      have bel := (Below.refl _ _).alloc (Nat.le_refl w1.heap.size) (.cells #[.slice none 0 0, .slice none 0 0, .bool false, .int .i64 0] 229)
      have hp : Blk (w1.alloc (.cells #[.slice none 0 0, .slice none 0 0, .bool false, .int .i64 0] 229)) w1.heap.size 229 #[.slice none 0 0, .slice none 0 0, .bool false, .int .i64 0] := Blk.new _ _ _
      obtain ⟨p, hpe⟩ : ∃ p, w1.heap.size = p := ⟨_, rfl⟩
      have hpl : wr.heap.size <= p := (by rw [<- hpe]; exact hS.2.size)
      obtain ⟨w2, hw2⟩ : ∃ w2, w1.alloc (.cells #[.slice none 0 0, .slice none 0 0, .bool false, .int .i64 0] 229) = w2 := ⟨_, rfl⟩
      rw [hw2] at bel hp
      rw [show w1.alloc (.cells #[.slice none 0 0, .slice none 0 0, .bool false, .int .i64 0] 229) = w2 from hw2]
      rw [hpe] at hp ⊢
      refine hK.out _ _ (fun _ => ⟨hS.1.below bel, hS.2.trans (bel.mono hS.2.size)⟩) (fun hS => ?_); clear hK K; replace hS := hS rfl; try (simp only [Act.put, pu1]; dsimp only [pu2, pu3])
      refine tree_do (by rfl) (by rfl) (fun K hK => ?_)
      go_simp
      refine (HO.out _).mono ?_
      rintro e w1 ⟨rfl, bel⟩
      have hp := hp.below bel hp.lt
      refine hK.out _ _ (fun _ => ⟨hS.1.below bel, hS.2.trans (bel.mono hS.2.size)⟩) (fun hS => ?_); clear hK K; replace hS := hS rfl; try (simp only [Act.put, pu1]; dsimp only [pu2, pu3])
      refine tree_read (v := Value.int .i64 (M2 : Nat)) rfl (fun _ _ _ h => by first | exact h | cases h.1) rfl hS ?_ ?_; (focus (intro w' hS'; go_simp; first | done | simp [hm2] | (simp; omega))); (simp only [Act.put, pu1]; dsimp only [pu2, pu3])
      refine tree_read (v := Value.slice (some ⟨bg, M1, none⟩) (M2 - M1) (cB - M1)) rfl (fun _ _ _ h => by first | exact h | cases h.1) rfl hS ?_ ?_; (focus (intro w' hS'; go_simp; first | done | simp [hsl] | (simp; omega))); (simp only [Act.put, pu1]; dsimp only [pu2, pu3])
      refine tree_do (by rfl) (by rfl) (fun K hK => ?_)
      go_simp
      refine (HP.out _ hS.1 hS.2).mono ?_
      rintro e w1 ⟨A, m, cT, C, kk, cC, se, us, rfl, hO, bel⟩
      have hp := hp.below bel hp.lt
      have hS := Ai (hS.1.below bel) (hS.2.trans (bel.mono hS.2.size))
      refine hK.out _ _ (fun h => by cases h) (fun _ => ?_); clear hK K; try (simp only [Act.put, pu1]; dsimp only [pu2, pu3])
      repeat (first
       | (refine tree_read (v := ?_) rfl (fun _ _ _ h => by first | exact h | cases h.1) rfl hS ?_ ?_; rotate_left 1; (focus (intro w' hS'; go_simp; try rfl)); (simp only [Act.put, pu1]; dsimp only [pu2, pu3]))
       | (refine tree_skip rfl (fun _ _ _ h => by first | exact h | cases h.1) rfl hS ?_; (simp only [Act.put, pu1]; dsimp only [pu2, pu3])))
      refine tree_do (by rfl) (by rfl) (fun K hK => ?_)
      refine wp_store_row 229 (.tmp 3) (.tmp 45) rfl p _ rfl rfl 229 _ hp (by exact HSZ.out) (Eq.refl 4) (by simp [Value.oneCell']) ?_
      have hR := HLEAF.out _ p A m cT C kk cC se us hS.1 hS.2 hp hpl hO
      refine hK.out _ _ (fun _ => ⟨hR.1, hR.2.2.2.1⟩) (fun hS => ?_); clear hK K; replace hS := hS rfl; try (simp only [Act.put, pu1]; dsimp only [pu2, pu3])
      repeat (first
       | (refine tree_read (v := ?_) rfl (fun _ _ _ h => by first | exact h | cases h.1) rfl hS ?_ ?_; rotate_left 1; (focus (intro w' hS'; go_simp; try rfl)); (simp only [Act.put, pu1]; dsimp only [pu2, pu3]))
       | (refine tree_skip rfl (fun _ _ _ h => by first | exact h | cases h.1) rfl hS ?_; (simp only [Act.put, pu1]; dsimp only [pu2, pu3])))
      refine tree_leaf ?_
      refine ⟨rfl, p, A, m, cT, C, kk, cC, se, us, ?_, hR⟩
      rfl
    ·skip
     refine tree_do (by rfl) (by rfl) (fun K hK => ?_)
     go_simp
     have bel := (Below.refl _ _).alloc (Nat.le_refl wr.drew.heap.size) (.cells #[.slice none 0 0, .slice none 0 0, .bool false, .int .i64 0] 229)
     have hp : Blk (wr.drew.alloc (.cells #[.slice none 0 0, .slice none 0 0, .bool false, .int .i64 0] 229)) wr.heap.size 229 #[.slice none 0 0, .slice none 0 0, .bool false, .int .i64 0] := Blk.new _ _ _
     obtain ⟨p, hpe⟩ : ∃ p, wr.heap.size = p := ⟨_, rfl⟩
     have hpl : wr.heap.size <= p := (by rw [<- hpe]; exact hS.2.size)
     obtain ⟨w2, hw2⟩ : ∃ w2, wr.drew.alloc (.cells #[.slice none 0 0, .slice none 0 0, .bool false, .int .i64 0] 229) = w2 := ⟨_, rfl⟩
     rw [hw2] at bel hp
     rw [show (wr.alloc (.cells #[.slice none 0 0, .slice none 0 0, .bool false, .int .i64 0] 229)).drew = w2 from hw2]
     rw [hpe] at hp ⊢
     refine hK.out _ _ (fun _ => ⟨hS.1.below bel, hS.2.trans (bel.mono hS.2.size)⟩) (fun hS => ?_); clear hK K; replace hS := hS rfl; try (simp only [Act.put, pu1]; dsimp only [pu2, pu3])
     refine tree_do (by rfl) (by rfl) (fun K hK => ?_)
     go_simp
     refine (HO.out _).mono ?_
     rintro e w1 ⟨rfl, bel⟩
     have hp := hp.below bel hp.lt
     refine hK.out _ _ (fun _ => ⟨hS.1.below bel, hS.2.trans (bel.mono hS.2.size)⟩) (fun hS => ?_); clear hK K; replace hS := hS rfl; try (simp only [Act.put, pu1]; dsimp only [pu2, pu3])
     refine tree_read (v := Value.int .i64 (M1 : Nat)) rfl (fun _ _ _ h => by first | exact h | cases h.1) rfl hS ?_ ?_; (focus (intro w' hS'; go_simp; first | done | simp [hm1] | (simp; omega))); (simp only [Act.put, pu1]; dsimp only [pu2, pu3])
     refine tree_do (by rfl) (by rfl) (fun K hK => ?_)
     go_simp
     refine (HO.out _).mono ?_
     rintro e w1 ⟨rfl, bel⟩
     have hp := hp.below bel hp.lt
     refine hK.out _ _ (fun _ => ⟨hS.1.below bel, hS.2.trans (bel.mono hS.2.size)⟩) (fun hS => ?_); clear hK K; replace hS := hS rfl; try (simp only [Act.put, pu1]; dsimp only [pu2, pu3])
     refine tree_read (v := Value.int .i64 (M2 : Nat)) rfl (fun _ _ _ h => by first | exact h | cases h.1) rfl hS ?_ ?_; (focus (intro w' hS'; go_simp; first | done | simp [hm2] | (simp; omega))); (simp only [Act.put, pu1]; dsimp only [pu2, pu3])
     refine tree_read (v := Value.slice (some ⟨bg, M1, none⟩) (M2 - M1) (cB - M1)) rfl (fun _ _ _ h => by first | exact h | cases h.1) rfl hS ?_ ?_; (focus (intro w' hS'; go_simp; first | done | simp [hsl] | (simp; omega))); (simp only [Act.put, pu1]; dsimp only [pu2, pu3])
     refine tree_do (by rfl) (by rfl) (fun K hK => ?_)
     go_simp
     refine (HP.out _ hS.1 hS.2).mono ?_
     rintro e w1 ⟨A, m, cT, C, kk, cC, se, us, rfl, hO, bel⟩
     have hp := hp.below bel hp.lt
     have hS := Ai (hS.1.below bel) (hS.2.trans (bel.mono hS.2.size))
     refine hK.out _ _ (fun h => by cases h) (fun _ => ?_); clear hK K; try (simp only [Act.put, pu1]; dsimp only [pu2, pu3])
     repeat (first
      | (refine tree_read (v := ?_) rfl (fun _ _ _ h => by first | exact h | cases h.1) rfl hS ?_ ?_; rotate_left 1; (focus (intro w' hS'; go_simp; try rfl)); (simp only [Act.put, pu1]; dsimp only [pu2, pu3]))
      | (refine tree_skip rfl (fun _ _ _ h => by first | exact h | cases h.1) rfl hS ?_; (simp only [Act.put, pu1]; dsimp only [pu2, pu3])))
     refine tree_do (by rfl) (by rfl) (fun K hK => ?_)
     refine wp_store_row 229 (.tmp 3) (.tmp 45) rfl p _ rfl rfl 229 _ hp (by exact HSZ.out) (Eq.refl 4) (by simp [Value.oneCell']) ?_
     have hR := HLEAF.out _ p A m cT C kk cC se us hS.1 hS.2 hp hpl hO
     refine hK.out _ _ (fun _ => ⟨hR.1, hR.2.2.2.1⟩) (fun hS => ?_); clear hK K; replace hS := hS rfl; try (simp only [Act.put, pu1]; dsimp only [pu2, pu3])
     repeat (first
      | (refine tree_read (v := ?_) rfl (fun _ _ _ h => by first | exact h | cases h.1) rfl hS ?_ ?_; rotate_left 1; (focus (intro w' hS'; go_simp; try rfl)); (simp only [Act.put, pu1]; dsimp only [pu2, pu3]))
      | (refine tree_skip rfl (fun _ _ _ h => by first | exact h | cases h.1) rfl hS ?_; (simp only [Act.put, pu1]; dsimp only [pu2, pu3])))
     refine tree_leaf ?_
     refine ⟨rfl, p, A, m, cT, C, kk, cC, se, us, ?_, hR⟩
     rfl
   case go =>
    intro p A' m cT' C' kk cC' se us w3 hR
    obtain ⟨r1, r2, r3, r4, r5⟩ := hR
    have hjsg : ∃ g, sg - j = g + 1 := ⟨sg - j - 1, by omega⟩
    obtain ⟨g, hg⟩ := hjsg
    cases O with
    | false =>
     have hno := HSE.out.2.2.2.2.2.1
     have he := HSS.out.2.2.1
     rw [hg, Lg.scan_no hno.symm] at he
     have HE := Lh he
     have H3 := Lh (Ai r1 r4)
     clear r1 r2 r3 r4 r5 hno he
     go_wp2_with fail
     refine bodyPost_ret (results_none rfl _ _ _) rfl ?_
     rw [HE.out]
     refine ⟨rfl, HSQ.out.1, HSQ.out.2.1.trans (Fr.of_below H3.out.2 K0) (fun _ _ h => h), A, cT, C, cC, vs, H3.out.1.mono (fun k hk => ?_)⟩
     rw [HSS.out.2.2.2.1] at hk
     exact hk.1
    | true =>
     have hyes := HSE.out.2.2.2.2.2.1
     obtain ⟨hm, rfl, rfl, rfl, vs2, v1, v2, v3, v4, v5⟩ := r5 rfl
     have hn1 := HSQ.out.2.2.1
     obtain ⟨s2, hs2⟩ : ∃ s2, s2 = (s1.scan1 j).1 := ⟨_, rfl⟩
     have hs2' := hs2.trans (Lg.scan1_yes hyes.symm)
     rw [hn1, <- HSE.out.2.2.2.2.2.2] at hs2'
     have he := HSS.out.2.2.1
     rw [hg, Lg.scan_yes hyes.symm, hn1, <- HSE.out.2.2.2.2.2.2, <- hs2] at he
     have c8 : w3.cell? ⟨lb, 8, none⟩ = some (.slice A T cT) := by rw [HSE.out.2.2.2.2.1]; exact r1.top.cell 8
     have p0 : w3.cell? ⟨p, 0, none⟩ = some (.slice A' m cT') := r2.cell 0
     have hmz : m <= 65536 := by have := HSS.out.2.1.2.2.2; omega
     have hTs : T <= 100000000 := by rw [HSE.out.2.2.2.2.1]; have := HSQ.out.2.2.2; omega
     have hrw : w3.ownsRow 0 22 1 (.slice A T cT) T (vs.map Pt.val) := by rw [HSE.out.2.2.2.2.1]; exact r1.rows
     have H3 := Lh (Ai r1 (Ai r2 (Ai r3 r4)))
     have HV := Lh (Ai v1 (Ai v2 (Ai v3 (Ai v4 (Ai v5 hm)))))
     have HE := Lh (Ai he (Ai hs2 hs2'))
     have HRW := Lh hrw
     replace hyes := Lh hyes
     clear r1 r2 r3 r4 r5 he hs2 hs2' v1 v2 v3 v4 v5 hm hn1 hrw
     go_wp2_with fail
     refine region_fast [(0, true), (1, true), (2, true), (3, true), (4, true), (5, true), (6, true), (7, false), (8, true), (9, true), (10, false)] [1, 2, 3, 4, 5, 6, 7] 254 [(562949953421312, 1, 0, 0), (1125899906842624, 1, 0, 0), (2251799813685248, 1125899906842624, 2, 2), (4503599627370496, 2251799813685248, 4, 6), (9007199254740992, 4503599627370496, 8, 14), (18014398509481984, 8, 0, 0), (36028797018963968, 18014398509481984, 32, 32), (72057594037927936, 45035996273704960, 80, 126), (144115188075855872, 562949953421312, 255, 255), (288230376151711744, 144115188075855872, 511, 511), (0, 360287970189639680, 767, 1023)] (fun W => W.cell? ⟨lb, 8, none⟩ = some (.slice A T cT) /\ W.cell? ⟨p, 0, none⟩ = some (.slice A' m cT')) (by kernel_rfl) (by kernel_rfl) (by kernel_rfl) rfl (by kernel_rfl) (by kernel_rfl) ⟨c8, p0⟩ (fun hS => ?_)
     repeat (first
      | (refine plan_read (v := ?_) rfl (fun _ _ _ h => h) rfl hS ?_ ?_; rotate_left 1; (focus (intro w' hS'; have e8 := hS'.1; have e0 := hS'.2; go_simp; try rfl)); (simp only [Act.put, pu1]; dsimp only [pu2, pu3]))
      | (refine plan_skip rfl (fun _ _ _ h => h) rfl hS ?_; (simp only [Act.put, pu1]; dsimp only [pu2, pu3])))
     refine plan_do (by rfl) (by rfl) (fun K hK => ?_)
     refine wp_app (.tmp 53) (.tmp 55) 115 rfl 0 22 _ 1 24 Tryz.underlying115 info_bytesZ rfl (by decide) (.slice A T cT) T (vs.map Pt.val) rfl HRW.out A' m cT' (vs2.map Pt.val) rfl (Sees.of_own HV.out.2.1) (vals_one _) (by unfold maxLen; omega) (by omega) (Nat.zero_le _) ?_
     intro v5 w5 o1 o2 o3 o4
     obtain ⟨A5, c5, rfl⟩ := own_shape o1
     have hf5' := Fr.of_grown o2 (F := fun k => (Value.slice A T cT).ownBlock = some k) (fun k h => h)
     have hf5 : Fr (fun k => (Value.slice A T cT).ownBlock = some k) w3 w5 := ⟨hf5'.os, hf5'.tape, hf5'.output, hf5'.size, hf5'.block⟩
     clear hf5'
     have b5 : Blk w5 lb 150 _ := Blk.fr (F := fun k => (Value.slice A T cT).ownBlock = some k) H3.out.1.top hf5 (fun e => own_ne HRW.out H3.out.1.top (by decide) lb e rfl)
     have p5 : Blk w5 p 229 _ := Blk.fr (F := fun k => (Value.slice A T cT).ownBlock = some k) H3.out.2.1 hf5 (fun e => own_ne HRW.out H3.out.2.1 (by decide) p e rfl)
     have hlp : lb ≠ p := b5.same p5 (by decide)
     have c8' : w5.cell? ⟨lb, 8, none⟩ = some (.slice A T cT) := by rw [HSE.out.2.2.2.2.1]; exact b5.cell 8
     have f8' : w5.frozen? ⟨lb, 8, none⟩ = false := b5.frozen 8
     have H5 := Lh (Ai b5 (Ai p5 (Ai hlp (Ai o1 (Ai hf5 o3)))))
     clear b5 hlp o1 o2 o3 o4 hf5 c8 p0
     refine hK.out _ _ (fun _ => ⟨c8', p5.cell 0⟩) (fun hS => ?_); clear hK K; replace hS := hS rfl; try (simp only [Act.put, pu1]; dsimp only [pu2, pu3])
     clear p5
     repeat (first
      | (refine plan_read (v := ?_) rfl (fun _ _ _ h => h) rfl hS ?_ ?_; rotate_left 1; (focus (intro w' hS'; go_simp; try rfl)); (simp only [Act.put, pu1]; dsimp only [pu2, pu3]))
      | (refine plan_skip rfl (fun _ _ _ h => h) rfl hS ?_; (simp only [Act.put, pu1]; dsimp only [pu2, pu3])))
     refine plan_do (by rfl) (by rfl) (fun K hK => ?_)
     go_simp
     refine hK.out _ _ (fun h => by cases h) (fun _ => ?_); clear hK K; try (simp only [Act.put, pu1]; dsimp only [pu2, pu3])
     refine plan_nil ?_
     have b6 := H5.out.1.set_ 8 (.slice A5 (T + m) c5)
     have p6 := H5.out.2.1.far (Ne.symm H5.out.2.2.1 : p ≠ (⟨lb, 8, none⟩ : Addr).block) (.slice A5 (T + m) c5)
     have f6 : Fr (fun k => k = lb) w5 _ := Fr.setCell w5 ⟨lb, 8, none⟩ (.slice A5 (T + m) c5) rfl
     generalize w5.setCell ⟨lb, 8, none⟩ (.slice A5 (T + m) c5) = w6 at *
     have p1 : w6.cell? ⟨p, 1, none⟩ = some (.slice C' 32 cC') := p6.cell 1
     have c9 : w6.cell? ⟨lb, 9, none⟩ = some (.slice C 32 cC) := b6.cell 9
     have f9 : w6.frozen? ⟨lb, 9, none⟩ = false := b6.frozen 9
     have H6 := Lh (Ai b6 (Ai p6 f6))
     clear b6 p6 f6 c8' f8'
     go_wp2_with fail
     have b7 := H6.out.1.set_ 9 (.slice C' 32 cC')
     have p7 := H6.out.2.1.far (Ne.symm H5.out.2.2.1 : p ≠ (⟨lb, 9, none⟩ : Addr).block) (.slice C' 32 cC')
     have f7 : Fr (fun k => k = lb) w6 _ := Fr.setCell w6 ⟨lb, 9, none⟩ (.slice C' 32 cC') rfl
     generalize w6.setCell ⟨lb, 9, none⟩ (.slice C' 32 cC') = w7 at *
     have H7 := Lh (Ai b7 (Ai p7 (H6.out.2.2.trans f7 (fun _ _ h => h))))
     have c5' : w7.drew.cell? ⟨lb, 5, none⟩ = some (.int .i64 s1.last) := b7.cell 5
     have f5' : w7.drew.frozen? ⟨lb, 5, none⟩ = false := b7.frozen 5
     clear b7 p7 f7 p1 c9 f9
     refine region_fast [(0, true), (1, true), (2, true), (3, true), (4, true), (5, true), (6, true), (7, true), (8, true), (9, true), (10, false), (11, true), (12, true), (13, false), (14, true), (15, true), (16, false)] [1, 2, 3, 4, 5, 6, 7, 8, 9, 10, 11, 12, 13] 16382 [(18446744073709551616, 1, 0, 0), (36893488147419103232, 1, 0, 0), (73786976294838206464, 1, 0, 0), (147573952589676412928, 4, 0, 0), (295147905179352825856, 8, 0, 0), (590295810358705651712, 295147905179352825856, 16, 16), (1180591620717411303424, 8, 0, 0), (2361183241434822606848, 1180591620717411303424, 64, 64), (4722366482869645213696, 18446744073709551616, 9, 9), (9444732965739290427392, 4722366482869645213696, 265, 265), (0, 9592306918328966840320, 521, 777), (18889465931478580854784, 36893488147419103232, 1851, 1851), (37778931862957161709568, 18889465931478580854784, 3899, 3899), (0, 38369227673315867361280, 5947, 7995), (75557863725914323419136, 73786976294838206464, 16383, 16383), (151115727451828646838272, 75557863725914323419136, 32767, 32767), (0, 153476910693263469445120, 49151, 65535)] (fun W => Blk W p 229 #[.slice A' m cT', .slice C' 32 cC', .bool z.sealed_, .int .i64 z.used]) (by kernel_rfl) (by kernel_rfl) (by kernel_rfl) rfl (by kernel_rfl) (by kernel_rfl) H7.out.2.1.drew (fun hS => ?_)
     repeat (first
      | (refine plan_read (v := ?_) rfl (fun _ _ _ h => h) rfl hS ?_ ?_; rotate_left 1; (focus (intro w' hS'; have q3 : w'.cell? ⟨p, 3, none⟩ = some (.int .i64 z.used) := hS'.cell 3; have q2 : w'.cell? ⟨p, 2, none⟩ = some (.bool z.sealed_) := hS'.cell 2; go_simp; try rfl)); (simp only [Act.put, pu1]; dsimp only [pu2, pu3]))
      | (refine plan_skip rfl (fun _ _ _ h => h) rfl hS ?_; (simp only [Act.put, pu1]; dsimp only [pu2, pu3])))
     refine plan_do (by rfl) (by rfl) (fun K hK => ?_)
     go_simp
     have b8 : Blk (w7.setCell ⟨lb, 5, none⟩ (.int .i64 j)).drew lb 150 _ := H7.out.1.set_ 5 (.int .i64 j)
     have f8 : Fr (fun k => k = lb) w7 (w7.setCell ⟨lb, 5, none⟩ (.int .i64 j)).drew := (Fr.setCell (F := fun k => k = lb) w7 ⟨lb, 5, none⟩ (.int .i64 j) rfl).drew
     have c6' : (w7.setCell ⟨lb, 5, none⟩ (.int .i64 j)).drew.cell? ⟨lb, 6, none⟩ = some (.int .i64 s1.used) := b8.cell 6
     have f6' : (w7.setCell ⟨lb, 5, none⟩ (.int .i64 j)).drew.frozen? ⟨lb, 6, none⟩ = false := b8.frozen 6
     clear c5' f5'
     refine hK.out _ _ (fun _ => hS.far (Ne.symm H5.out.2.2.1 : p ≠ (⟨lb, 5, none⟩ : Addr).block) (.int .i64 j)) (fun hS => ?_); clear hK K; replace hS := hS rfl; try (simp only [Act.put, pu1]; dsimp only [pu2, pu3])
     generalize (w7.setCell ⟨lb, 5, none⟩ (.int .i64 j)).drew = w8 at *
     have H8 := Lh (Ai b8 (H7.out.2.2.trans f8 (fun _ _ h => h)))
     clear b8 f8
     repeat (first
      | (refine plan_read (v := ?_) rfl (fun _ _ _ h => h) rfl hS ?_ ?_; rotate_left 1; (focus (intro w' hS'; have q3 : w'.cell? ⟨p, 3, none⟩ = some (.int .i64 z.used) := hS'.cell 3; have q2 : w'.cell? ⟨p, 2, none⟩ = some (.bool z.sealed_) := hS'.cell 2; go_simp; try rfl)); (simp only [Act.put, pu1]; dsimp only [pu2, pu3]))
      | (refine plan_skip rfl (fun _ _ _ h => h) rfl hS ?_; (simp only [Act.put, pu1]; dsimp only [pu2, pu3])))
     refine plan_do (by rfl) (by rfl) (fun K hK => ?_)
     go_simp
     have b9 := H8.out.1.set_ 6 (.int .i64 z.used)
     have f9 : Fr (fun k => k = lb) w8 _ := Fr.setCell w8 ⟨lb, 6, none⟩ (.int .i64 z.used) rfl
     have cb' : (w8.setCell ⟨lb, 6, none⟩ (.int .i64 z.used)).cell? ⟨lb, 11, none⟩ = some (.bool s1.sealed_) := b9.cell 11
     have fb' : (w8.setCell ⟨lb, 6, none⟩ (.int .i64 z.used)).frozen? ⟨lb, 11, none⟩ = false := b9.frozen 11
     clear c6' f6'
     refine hK.out _ _ (fun _ => hS.far (Ne.symm H5.out.2.2.1 : p ≠ (⟨lb, 6, none⟩ : Addr).block) (.int .i64 z.used)) (fun hS => ?_); clear hK K; replace hS := hS rfl; try (simp only [Act.put, pu1]; dsimp only [pu2, pu3])
     generalize w8.setCell ⟨lb, 6, none⟩ (.int .i64 z.used) = w9 at *
     have H9 := Lh (Ai b9 (H8.out.2.trans f9 (fun _ _ h => h)))
     clear b9 f9
     repeat (first
      | (refine plan_read (v := ?_) rfl (fun _ _ _ h => h) rfl hS ?_ ?_; rotate_left 1; (focus (intro w' hS'; have q3 : w'.cell? ⟨p, 3, none⟩ = some (.int .i64 z.used) := hS'.cell 3; have q2 : w'.cell? ⟨p, 2, none⟩ = some (.bool z.sealed_) := hS'.cell 2; go_simp; try rfl)); (simp only [Act.put, pu1]; dsimp only [pu2, pu3]))
      | (refine plan_skip rfl (fun _ _ _ h => h) rfl hS ?_; (simp only [Act.put, pu1]; dsimp only [pu2, pu3])))
     refine plan_do (by rfl) (by rfl) (fun K hK => ?_)
     go_simp
     have b10 := H9.out.1.set_ 11 (.bool z.sealed_)
     have f10 : Fr (fun k => k = lb) w9 _ := Fr.setCell w9 ⟨lb, 11, none⟩ (.bool z.sealed_) rfl
     have p10 := hS.far (Ne.symm H5.out.2.2.1 : p ≠ (⟨lb, 11, none⟩ : Addr).block) (.bool z.sealed_)
     clear cb' fb'
     refine hK.out _ _ (fun h => by cases h) (fun _ => ?_); clear hK K; try (simp only [Act.put, pu1]; dsimp only [pu2, pu3])
     refine plan_nil ?_
     generalize w9.setCell ⟨lb, 11, none⟩ (.bool z.sealed_) = w10 at *
     have q2 : w10.cell? ⟨p, 2, none⟩ = some (.bool z.sealed_) := p10.cell 2
     have HF : Hid (LgP w10 lb b f s2 bg cB A5 c5 C' cC' (vs ++ vs2) (fun k => K0 k \/ w.heap.size <= k) /\ Fr K0 w w10 /\ s2.Ok) := Lh (by
      have ff := H9.out.2.trans f10 (fun _ _ h => h)
      have hKl := HSS.out.2.2.2
      have hle := HSQ.out.2.1.size
      have hbz := H3.out.2.2.2.size
      refine ⟨H3.out.1.took (B0 := wr.heap.size) HSE.out.2.2.2.2.1 (by rw [HV.out.1]) hKl.2 hbz (fun q hq => HV.out.2.2.2.1 q hq) HV.out.2.2.2.2.1 H5.out.2.2.2.1 H5.out.2.2.2.2.1 H5.out.2.2.2.2.2 ff ?_ (by rw [HE.out.2.2]) (by rw [HE.out.2.2, HV.out.2.2.1]) (by rw [HE.out.2.2]) (fun k hk => by rw [hKl.1] at hk; exact hk.1) (fun k hk => .inr (by omega)), ?_, by rw [HE.out.2.1]; exact HSS.out.1.1⟩
      ·rw [HE.out.2.2]
       exact b10
      ·have g1 : Fr K0 w w3 := HSQ.out.2.1.trans (Fr.of_below H3.out.2.2.2 K0) (fun _ _ h => h)
       refine (g1.trans H5.out.2.2.2.2.1 ?_).trans ff ?_
       ·intro k hk e
        have := H3.out.1.ka k (by rw [<- HSE.out.2.2.2.2.1]; exact e)
        rw [hKl.1] at this
        rcases this.1 with h | h
        ·exact h
        ·omega
       ·intro k hk e
        have := H3.out.1.kl
        rw [hKl.1] at this
        rcases this.1 with h | h
        ·rw [e]; exact h
        ·omega)
     clear b10 f10 p10 hS
     cases hzs : z.sealed_ with
     | false =>
      rw [hzs] at q2
      go_wp2_with fail
      refine bodyPost_ret (results_none rfl _ _ _) rfl ?_
      rw [HE.out.1, hzs]
      exact ⟨rfl, HF.out.2.2, HF.out.2.1, _, _, _, _, _, HF.out.1⟩
     | true =>
      rw [hzs] at q2
      go_wp2_with fail
      go_roundw
      case rel =>
       refine ⟨j + 1, by go_num, by omega, Lh ⟨s2, A5, c5, C', cC', vs ++ vs2, HF.out.1, HF.out.2.2, HF.out.2.1, ?_, ?_, ?_, ?_, ?_⟩⟩
       ·rw [HE.out.1, hzs, show sg - (j + 1) = g by omega]; rfl
       ·rw [HE.out.2.1, HSS.out.1.2.2.1]; exact HSE.out.1
       ·rw [HE.out.2.1, HSS.out.1.2.2.2.1]; exact HSE.out.2.1
       ·rw [HE.out.2.1, HSS.out.1.2.2.2.2]; exact HSE.out.2.2.1
       ·have h1 := HSS.out.1.2.1
        have h2 := HSE.out.2.2.2.1
        rw [HE.out.2.1, Nat.add_mul]
        omega
      case measure => simp [intOf]; omega
  ·obtain rfl : j = sg := by omega
   go_wp2_with fail
   refine bodyPost_end (results_none rfl _ _ _) rfl ?_
   rw [Nat.sub_self] at e1
   rw [e1]
   exact ⟨rfl, ok1, f1, A, cT, C, cC, vs, h1⟩
end Go.Proofs.YtkgaeoeibjoljaaGreatDoor
