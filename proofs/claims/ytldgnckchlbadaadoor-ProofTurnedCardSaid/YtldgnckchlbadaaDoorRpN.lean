/-
  What the document's log tells of any region; a log that has no disk.
-/
import Derived.Test.YtldgnckchlbadaaDoorLogD
import Derived.Test.YtldgnckchlbadaaDoorRp1
namespace Go.Proofs.YtldgnckchlbadaaDoor
set_option maxRecDepth 4000
open Go.RowKit

def rlcN (sg sz : Nat) (B : ByteArray) (la us cl : Nat) (x : Value) (ch : ByteArray) (su : Nat) (se de : Bool) : Array Value :=
  #[.pointer none, .int .i64 0, .int .i64 sg, .int .i64 sz, .string B, .int .i64 la, .int .i64 us, .int .i64 cl, x, .string ch, .int .i64 su, .bool se, .bool de]
/-- What Parse hands back, where the head fits. -/
structure RPF (W : World) (base : Nat) (z : Pz) (A : Option Addr) (m c : Nat) (ch : ByteArray) (se : Bool) (us : Nat) : Prop where
  hm : m = z.texts.length
  hch : ch = str z.chain
  hse : se = z.sealed_
  hus : us = z.used
  own : W.ownsRow base 9 1 (.slice A m c) m (strs z.texts)
theorem RPF.below {w w' : World} {base : Nat} {z : Pz} {A : Option Addr} {m c : Nat} {ch : ByteArray} {se : Bool} {us : Nat} (h : RPF w base z A m c ch se us) (hb : Below w.heap.size w w') : RPF w' base z A m c ch se us :=
  ⟨h.hm, h.hch, h.hse, h.hus, own_below h.own hb⟩
theorem rparse_both (X l : List UInt8) (m q k : Nat) (w : World) (hX : X.length = m) (hm : m % 128 = 0) (h2 : 256 ≤ m) (hmx : m ≤ 100000) (hl : l.length = 32) (hq : q < 4294967296) (hk : k ≤ 1000000000) :
    Calls Tryd.prog 58 #[.string (str X), .int .i64 q, .int .i64 k, .string (str l)] w fun e w' => ∃ (A : Option Addr) (n c : Nat) (ch : ByteArray) (se : Bool) (us : Nat), e = .returned (.tuple #[.agg #[.slice A n c, .string ch, .bool se, .int .i64 us], .bool (pref X (hd q k l))]) ∧
      (pref X (hd q k l) = true → RPF w' w.heap.size (pz X k m (pz0 l)) A n c ch se us) ∧ Below w.heap.size w w' := by
  cases hp : pref X (hd q k l) with
  | true =>
    refine (rparse_yes X l m q k w hX hm h2 hmx hl hq hk hp).mono ?_
    rintro e w' ⟨A, c, rfl, own, bel⟩
    exact ⟨A, _, c, _, _, _, rfl, fun _ => ⟨rfl, rfl, rfl, rfl, own⟩, bel⟩
  | false =>
    refine (rparse_no X l m q k w hX hm h2 hmx hl hq (by omega) hp).mono ?_
    rintro e w' ⟨rfl, bel⟩
    exact ⟨none, 0, 0, _, false, 0, rfl, (fun h => by cases h), bel⟩
theorem wp_mid7 {P : Program} {c : Code} {Q' : Exit → Act → World → Prop} {a : Act} {w : World} (F : Nat → Option Addr → Nat → Nat → ByteArray → Bool → Nat → Act) (R : Nat → Option Addr → Nat → Nat → ByteArray → Bool → Nat → World → Prop)
    (h : c.wp P (fun e a' w' => e = .normal ∧ ∃ p A m q ch se us, a' = F p A m q ch se us ∧ R p A m q ch se us w') a w) (hq : ∀ p A m q ch se us w', R p A m q ch se us w' → Q' .normal (F p A m q ch se us) w') : c.wp P Q' a w :=
  wp_mono h (by rintro _ _ _ ⟨rfl, p, A, m, q, ch, se, us, rfl, hR⟩; exact hq p A m q ch se us _ hR)

set_option maxHeartbeats 8000000 in
theorem rtold_any (lb sg sz : Nat) (X : List UInt8) (w : World) (h : Blk w lb 88 (rlcN sg sz (str X) 0 0 0 (.slice none 0 0) (str (zr 32)) 0 false false)) (hsg : 1 ≤ sg ∧ sg ≤ 256) (hsz : 2 ≤ sz ∧ sz ≤ 512) (hX : X.length = sg * sz * 128) (hsm : sg * (sz * 128) ≤ 100000) :
    Calls Tryd.prog 41 #[.pointer (some ⟨lb, 0, none⟩)] w fun e w' => e = .returned (.tuple #[]) ∧
      (∃ A c, Blk w' lb 88 (rlcN sg sz (str X) (Lg.told sg sz X).last (Lg.told sg sz X).used 0 (.slice A (Lg.told sg sz X).texts.length c) (str (Lg.told sg sz X).chain) 0 (Lg.told sg sz X).sealed_ false) ∧ w'.ownsRow w.heap.size 9 1 (.slice A (Lg.told sg sz X).texts.length c) (Lg.told sg sz X).texts.length (strs (Lg.told sg sz X).texts)) ∧ Fr (fun k => k = lb) w w' := by
  have hok0 := Lg.init_ok hsg hsz hX
  obtain ⟨N, hN⟩ : ∃ N, N = sz * 128 := ⟨_, rfl⟩
  have hs : (str X).size = sg * N := by rw [size_str, hX, hN, Nat.mul_assoc]
  have hx : ∀ a b, (str X).extract a b = str ((X.drop a).take (b - a)) := fun a b => str_extract X a b
  obtain ⟨M, hM⟩ : ∃ M, M = sg * N := ⟨_, rfl⟩
  rw [← hN] at hsm
  rw [← hM] at hs hsm
  obtain ⟨Z, hZ⟩ : ∃ Z, Z = str X := ⟨_, rfl⟩
  rw [← hZ] at hs hx h ⊢
  obtain ⟨TD, hTD⟩ : ∃ t, t = Lg.told sg sz X := ⟨_, rfl⟩
  rw [← hTD]
  have hw1 : IntKind.i64.wrap (128 * (sz : Int)) = (N : Int) := by rw [hN, show (128 : Int) * (sz : Int) = ((sz * 128 : Nat) : Int) by omega]; exact IntWalk.i64_in _ (by omega)
  have hw2 : IntKind.i64.wrap (N : Int) = (N : Int) := IntWalk.i64_in _ (by omega)
  have HSZ := Lib.hid info_rprs
  have HW := Lib.hid (And.intro h (And.intro hok0 (And.intro hTD (And.intro hM (And.intro hN (And.intro hx hX))))))
  have c2 : w.cell? ⟨lb, 2, none⟩ = some (.int .i64 sg) := h.cell 2
  have hN256 : 256 ≤ N := by omega
  have hN6 : N ≤ 65536 := by omega
  have hNm : N % 128 = 0 := by omega
  clear h hok0 hN hM hZ hTD hx hX
  go_enter Tryd.func41, Tryd.ntmps41
  go_wp2_with fail
  go_loopw [2] (fun i wr => ∃ j : Nat, i = .int .i64 j ∧ j ≤ sg ∧ Hid (∃ (s1 : Lg) (A : Option Addr) (c : Nat), Blk wr lb 88 (rlcN sg sz Z s1.last s1.used 0 (.slice A s1.texts.length c) (str s1.chain) 0 s1.sealed_ false) ∧ wr.ownsRow w.heap.size 9 1 (.slice A s1.texts.length c) s1.texts.length (strs s1.texts) ∧ s1.Ok ∧ TD = s1.scan j (sg - j) ∧ s1.B = X ∧ s1.segs = sg ∧ s1.size = sz ∧ s1.texts.length ≤ j * N ∧ Fr (fun k => k = lb) w wr)) (fun i _ => sg - (intOf i).toNat)
  case atStart => exact ⟨0, rfl, Nat.zero_le _, Lib.hid ⟨Lg.init sg sz X, none, 0, HW.out.1, World.ownsRow_nil _ _ _ _, HW.out.2.1, HW.out.2.2.1, rfl, rfl, rfl, Nat.zero_le _, Fr.refl _ _⟩⟩
  case round =>
    obtain ⟨j, rfl, hj, hr⟩ := hrel
    obtain ⟨s1, A, c, top1, own1, ok1, e1, eB, eS, eZ, m1, f1⟩ := hr.out
    have c2r : wr.cell? ⟨lb, 2, none⟩ = some (.int .i64 sg) := top1.cell 2
    have c3r : wr.cell? ⟨lb, 3, none⟩ = some (.int .i64 sz) := top1.cell 3
    by_cases hlt : j < sg
    · have hji : (j : Int) < (sg : Int) := by omega
      have hn1 : s1.n = N := by unfold Lg.n; rw [eZ]; exact HW.out.2.2.2.2.1.symm
      have hjs : j < s1.segs := by rw [eS]; exact hlt
      have hsl1 := ok1.seg hjs
      rw [hn1] at hsl1
      obtain ⟨M1, hM1⟩ : ∃ M, M = j * N := ⟨_, rfl⟩
      obtain ⟨M2, hM2⟩ : ∃ M, M = (j + 1) * N := ⟨_, rfl⟩
      have hmb : (j + 1) * N ≤ sg * N := Nat.mul_le_mul_right _ hlt
      rw [← hM1, ← hM2] at hsl1
      rw [← hM1] at m1
      have hM2M : M2 ≤ M := by rw [hM2, HW.out.2.2.2.1]; exact hmb
      have hT1 : s1.texts.length + N ≤ 100000000 := by omega
      have hs1 := ok1.scan1 hjs (by rw [hn1]; exact hT1)
      have hz := pz_in' (s1.seg j) s1.texts.length s1.n s1.chain ok1.chain (by rw [hn1]; exact hsl1.1) ok1.n_le.1
      rw [hn1] at hz hs1
      obtain ⟨O, hO⟩ : ∃ O, O = pref (s1.seg j) (hd j s1.texts.length s1.chain) := ⟨_, rfl⟩
      obtain ⟨z, hzd⟩ : ∃ z, z = pz (s1.seg j) s1.texts.length N (pz0 s1.chain) := ⟨_, rfl⟩
      rw [← hzd] at hz
      obtain ⟨T, hTl⟩ : ∃ T, T = s1.texts.length := ⟨_, rfl⟩
      obtain ⟨CH, hCH⟩ : ∃ T, T = str s1.chain := ⟨_, rfl⟩
      obtain ⟨U, hU⟩ : ∃ T, T = str (s1.seg j) := ⟨_, rfl⟩
      have hxs : Z.extract M1 M2 = U := by
        rw [HW.out.2.2.2.2.2.1, hU]
        unfold Lg.seg
        rw [eB, hn1, ← hM1]
        congr 2
        omega
      have hPB : ∀ W, Below wr.drew.heap.size wr.drew W → Calls Tryd.prog 58 #[.string U, .int .i64 j, .int .i64 T, .string CH] W fun e w' => ∃ (A : Option Addr) (n c : Nat) (ch : ByteArray) (se : Bool) (us : Nat), e = .returned (.tuple #[.agg #[.slice A n c, .string ch, .bool se, .int .i64 us], .bool O]) ∧ (O = true → RPF w' wr.heap.size z A n c ch se us) ∧ Below W.heap.size W w' := fun W hW => by
        have := rparse_both (s1.seg j) s1.chain N j T W hsl1.1 hNm hN256 (by omega) ok1.chain (by omega) (by omega)
        rw [← hU, ← hCH, hTl, ← hO, ← hzd] at this
        rw [hTl]
        refine this.mono ?_
        rintro e w' ⟨A, n, c, ch, se, us, rfl, h1, bel⟩
        exact ⟨A, n, c, ch, se, us, rfl, fun ho => ⟨(h1 ho).hm, (h1 ho).hch, (h1 ho).hse, (h1 ho).hus, own_base (h1 ho).own hW.size⟩, bel⟩
      have HP := Lib.hid hPB
      rw [← hTl, ← hCH] at top1
      rw [← hTl] at own1
      have hlt0 : lb < wr.drew.heap.size := top1.lt
      have HT1 := Lib.hid (show Blk wr.drew lb 88 _ from top1)
      have hm1 : IntKind.i64.wrap ((j : Int) * (N : Int)) = (M1 : Int) := by rw [hM1]; rw [show (j : Int) * (N : Int) = ((j * N : Nat) : Int) by simp]; exact IntWalk.i64_in _ (by omega)
      have hm2 : IntKind.i64.wrap ((M1 : Int) + (N : Int)) = (M2 : Int) := by rw [show (M1 : Int) + (N : Int) = (M2 : Int) by omega]; exact IntWalk.i64_in _ (by omega)
      have hM12 : M1 ≤ M2 := by omega
      have hM12i : (M1 : Int) ≤ (M2 : Int) := by omega
      have hM2Mi : (M2 : Int) ≤ (M : Int) := by omega
      have HSS := Lib.hid (And.intro hs1 (And.intro hz (And.intro e1 (And.intro eB (And.intro eS (And.intro eZ m1))))))
      have HSE := Lib.hid (And.intro ok1 (And.intro f1 (And.intro hn1 (And.intro hTl (And.intro hO (And.intro hzd (And.intro hCH (And.intro hM1 hM2))))))))
      have HO1 := Lib.hid (And.intro top1 own1)
      have HLEAF : Hid (∀ (W : World) (p : Nat) (A' : Option Addr) (m c' : Nat) (ch : ByteArray) (se : Bool) (us : Nat), Below wr.drew.heap.size wr.drew W → Blk W p 110 #[.slice none 0 0, .string { data := #[] }, .bool false, .int .i64 0] → wr.heap.size ≤ p → (O = true → RPF W wr.heap.size z A' m c' ch se us) →
          Below wr.drew.heap.size wr.drew (W.setRow p #[.slice A' m c', .string ch, .bool se, .int .i64 us]) ∧ Blk (W.setRow p #[.slice A' m c', .string ch, .bool se, .int .i64 us]) p 110 #[.slice A' m c', .string ch, .bool se, .int .i64 us] ∧ (O = true → RPF (W.setRow p #[.slice A' m c', .string ch, .bool se, .int .i64 us]) wr.heap.size z A' m c' ch se us)) := Lib.hid (by
        intro W p A' m c' ch se us q1 q2 q3 q4
        refine ⟨below_setRow q1 q3 _, q2.setRow _, fun ho => ?_⟩
        have := q4 ho
        exact ⟨this.hm, this.hch, this.hse, this.hus, own_fr this.own (Fr.setRow (F := fun k => k = p) W p _ rfl) (own_ne this.own q2 (by decide))⟩)
      clear hs1 hz e1 eB eS eZ m1 hTl hO hzd hCH hU ok1 f1 hn1 hsl1 hM1 hM2 hmb hjs hT1 hPB top1 own1 hr c2
      go_wp2_with fail
      refine wp_mid7 ?F (fun p A' m c' ch se us W => Below wr.drew.heap.size wr.drew W ∧ Blk W p 110 #[.slice A' m c', .string ch, .bool se, .int .i64 us] ∧ (O = true → RPF W wr.heap.size z A' m c' ch se us)) ?reg ?go
      case reg =>
        refine region_tree (.read 0 (.read 1 (.read 2 (.read 3 (.read 4 (.read 5 (.read 6 (.read 7 (.read 8 (.read 9 (.read 10 (.read 11 (.read 12 (.read 13 (.read 14 (.read 15 (.read 16 (.read 17 (.read 18 (.read 19 (.read 20 (.read 21 (.read 22 (.two 23 (.read 24 (.read 25 (.read 26 (.one 27 (.one 28 (.read 29 .leaf)))))) 27 (.one 23 (.read 24 (.read 25 (.read 26 (.one 28 (.read 29 .leaf)))))))))))))))))))))))))))))) [4, 5, 6, 7, 8, 9, 10, 11, 13, 14, 15, 16, 17, 18, 19, 20, 21, 22, 26, 27, 28] 478146544 [(1048576, 1, 0, 0), (2097152, 1048576, 1, 1), (4194304, 2097152, 2, 3), (8388608, 4194304, 4, 7), (16777216, 4, 0, 0), (33554432, 8, 0, 0), (67108864, 50331648, 48, 48), (134217728, 4, 0, 0), (268435456, 8, 0, 0), (536870912, 402653184, 384, 384), (1073741824, 8, 0, 0), (2147483648, 1610612736, 1536, 1920), (4294967296, 2222981120, 2120, 4095), (8589934592, 4, 0, 0), (17179869184, 1, 0, 0), (34359738368, 17179869184, 16384, 16384), (68719476736, 34359738368, 32768, 49152), (137438953472, 68719476736, 65536, 114688), (274877906944, 137438953472, 131072, 245760), (549755813888, 1, 0, 0), (1099511627776, 549755813888, 524288, 524288), (2199023255552, 1099511627776, 1048576, 1572864), (4398046511104, 2199023255552, 2097152, 3670016), (8796093022208, 4685809319936, 4468736, 8388607), (524288, 8796093022208, 8388608, 16777215), (17592186044416, 524288, 16777216, 33554431), (35184372088832, 524288, 16777216, 33554431), (16, 0, 0, 0), (0, 17592186044432, 201326591, 201326591), (32, 35184372088832, 536870911, 536870911)] (fun W => Below wr.drew.heap.size wr.drew W) (by kernel_rfl) (by kernel_rfl) (by kernel_rfl) rfl (by kernel_rfl) (by kernel_rfl) (Below.refl _ _) (fun hS => ?_)
        repeat (first
          | (refine tree_read (v := ?_) rfl (fun _ _ _ h => by first | exact h | cases h.1) rfl hS ?_ ?_; rotate_left 1; (focus (intro w' hS'; have e4 : w'.cell? ⟨lb, 4, none⟩ = some (.string Z) := (hS'.cell hlt0).trans (HT1.out.cell 4); have e8 : w'.cell? ⟨lb, 8, none⟩ = some (.slice A T c) := (hS'.cell hlt0).trans (HT1.out.cell 8); have e9 : w'.cell? ⟨lb, 9, none⟩ = some (.string CH) := (hS'.cell hlt0).trans (HT1.out.cell 9); go_simp; try rfl)); (simp only [Act.put, List.setIfInBounds_toArray]; dsimp only [List.set_cons_zero, List.set_cons_succ]))
          | (refine tree_skip rfl (fun _ _ _ h => by first | exact h | cases h.1) rfl hS ?_; (simp only [Act.put, List.setIfInBounds_toArray]; dsimp only [List.set_cons_zero, List.set_cons_succ])))
        refine tree_two ?_ ?_
        · skip
          refine tree_do (by rfl) (by rfl) (fun K hK => ?_)
          go_simp
          refine (HP.out _ hS).mono ?_
          rintro e w1 ⟨A', m, c', ch, se, us, rfl, hO', bel⟩
          have hS := hS.trans (bel.mono hS.size)
          refine hK.out _ _ (fun h => by cases h) (fun _ => ?_); clear hK K; try (simp only [Act.put, List.setIfInBounds_toArray]; dsimp only [List.set_cons_zero, List.set_cons_succ])
          repeat (first
            | (refine tree_read (v := ?_) rfl (fun _ _ _ h => by first | exact h | cases h.1) rfl hS ?_ ?_; rotate_left 1; (focus (intro w' hS'; have e4 : w'.cell? ⟨lb, 4, none⟩ = some (.string Z) := (hS'.cell hlt0).trans (HT1.out.cell 4); have e8 : w'.cell? ⟨lb, 8, none⟩ = some (.slice A T c) := (hS'.cell hlt0).trans (HT1.out.cell 8); have e9 : w'.cell? ⟨lb, 9, none⟩ = some (.string CH) := (hS'.cell hlt0).trans (HT1.out.cell 9); go_simp; try rfl)); (simp only [Act.put, List.setIfInBounds_toArray]; dsimp only [List.set_cons_zero, List.set_cons_succ]))
            | (refine tree_skip rfl (fun _ _ _ h => by first | exact h | cases h.1) rfl hS ?_; (simp only [Act.put, List.setIfInBounds_toArray]; dsimp only [List.set_cons_zero, List.set_cons_succ])))
          refine tree_do (by rfl) (by rfl) (fun K hK => ?_)
          go_simp
          have bel := (Below.refl _ _).alloc (Nat.le_refl w1.heap.size) (.cells #[.slice none 0 0, .string { data := #[] }, .bool false, .int .i64 0] 110)
          obtain ⟨p, hpe⟩ : ∃ p, w1.heap.size = p := ⟨_, rfl⟩
          have hp : Blk (w1.alloc (.cells #[.slice none 0 0, .string { data := #[] }, .bool false, .int .i64 0] 110)) p 110 #[.slice none 0 0, .string { data := #[] }, .bool false, .int .i64 0] := (by rw [← hpe]; exact Blk.new _ _ _)
          have hpl : wr.heap.size ≤ p := (by rw [← hpe]; exact hS.size)
          have hO' := fun h => (hO' h).below bel
          obtain ⟨w2, hw2⟩ : ∃ w2, w1.alloc (.cells #[.slice none 0 0, .string { data := #[] }, .bool false, .int .i64 0] 110) = w2 := ⟨_, rfl⟩
          rw [hw2] at bel hp hO'
          rw [show w1.alloc (.cells #[.slice none 0 0, .string { data := #[] }, .bool false, .int .i64 0] 110) = w2 from hw2]
          rw [hpe]
          refine hK.out _ _ (fun _ => hS.trans (bel.mono hS.size)) (fun hS => ?_); clear hK K; replace hS := hS rfl; try (simp only [Act.put, List.setIfInBounds_toArray]; dsimp only [List.set_cons_zero, List.set_cons_succ])
          repeat (first
            | (refine tree_read (v := ?_) rfl (fun _ _ _ h => by first | exact h | cases h.1) rfl hS ?_ ?_; rotate_left 1; (focus (intro w' hS'; have e4 : w'.cell? ⟨lb, 4, none⟩ = some (.string Z) := (hS'.cell hlt0).trans (HT1.out.cell 4); have e8 : w'.cell? ⟨lb, 8, none⟩ = some (.slice A T c) := (hS'.cell hlt0).trans (HT1.out.cell 8); have e9 : w'.cell? ⟨lb, 9, none⟩ = some (.string CH) := (hS'.cell hlt0).trans (HT1.out.cell 9); go_simp; try rfl)); (simp only [Act.put, List.setIfInBounds_toArray]; dsimp only [List.set_cons_zero, List.set_cons_succ]))
            | (refine tree_skip rfl (fun _ _ _ h => by first | exact h | cases h.1) rfl hS ?_; (simp only [Act.put, List.setIfInBounds_toArray]; dsimp only [List.set_cons_zero, List.set_cons_succ])))
          refine tree_do (by rfl) (by rfl) (fun K hK => ?_)
          refine wp_store_row 110 (.tmp 4) (.tmp 44) rfl p _ rfl rfl 110 _ hp (by exact HSZ.out) (Eq.refl 4) (by simp [Value.oneCell']) ?_
          have hR := HLEAF.out w2 p A' m c' ch se us hS hp hpl hO'
          refine hK.out _ _ (fun _ => hR.1) (fun hS => ?_); clear hK K; replace hS := hS rfl; try (simp only [Act.put, List.setIfInBounds_toArray]; dsimp only [List.set_cons_zero, List.set_cons_succ])
          repeat (first
            | (refine tree_read (v := ?_) rfl (fun _ _ _ h => by first | exact h | cases h.1) rfl hS ?_ ?_; rotate_left 1; (focus (intro w' hS'; go_simp; try rfl)); (simp only [Act.put, List.setIfInBounds_toArray]; dsimp only [List.set_cons_zero, List.set_cons_succ]))
            | (refine tree_skip rfl (fun _ _ _ h => by first | exact h | cases h.1) rfl hS ?_; (simp only [Act.put, List.setIfInBounds_toArray]; dsimp only [List.set_cons_zero, List.set_cons_succ])))
          refine tree_leaf ?_
          refine ⟨rfl, p, A', m, c', ch, se, us, ?_, hR⟩
          rfl
        · skip
          refine tree_do (by rfl) (by rfl) (fun K hK => ?_)
          go_simp
          have bel := (Below.refl _ _).alloc (Nat.le_refl wr.drew.heap.size) (.cells #[.slice none 0 0, .string { data := #[] }, .bool false, .int .i64 0] 110)
          obtain ⟨p, hpe⟩ : ∃ p, wr.heap.size = p := ⟨_, rfl⟩
          have hp : Blk (wr.drew.alloc (.cells #[.slice none 0 0, .string { data := #[] }, .bool false, .int .i64 0] 110)) p 110 #[.slice none 0 0, .string { data := #[] }, .bool false, .int .i64 0] := (by rw [← hpe]; exact Blk.new _ _ _)
          have hpl : wr.heap.size ≤ p := (by rw [← hpe]; exact hS.size)
          obtain ⟨w2, hw2⟩ : ∃ w2, wr.drew.alloc (.cells #[.slice none 0 0, .string { data := #[] }, .bool false, .int .i64 0] 110) = w2 := ⟨_, rfl⟩
          rw [hw2] at bel hp
          rw [show (wr.alloc (.cells #[.slice none 0 0, .string { data := #[] }, .bool false, .int .i64 0] 110)).drew = w2 from hw2]
          rw [hpe]
          refine hK.out _ _ (fun _ => hS.trans (bel.mono hS.size)) (fun hS => ?_); clear hK K; replace hS := hS rfl; try (simp only [Act.put, List.setIfInBounds_toArray]; dsimp only [List.set_cons_zero, List.set_cons_succ])
          repeat (first
            | (refine tree_read (v := ?_) rfl (fun _ _ _ h => by first | exact h | cases h.1) rfl hS ?_ ?_; rotate_left 1; (focus (intro w' hS'; have e4 : w'.cell? ⟨lb, 4, none⟩ = some (.string Z) := (hS'.cell hlt0).trans (HT1.out.cell 4); have e8 : w'.cell? ⟨lb, 8, none⟩ = some (.slice A T c) := (hS'.cell hlt0).trans (HT1.out.cell 8); have e9 : w'.cell? ⟨lb, 9, none⟩ = some (.string CH) := (hS'.cell hlt0).trans (HT1.out.cell 9); go_simp; try rfl)); (simp only [Act.put, List.setIfInBounds_toArray]; dsimp only [List.set_cons_zero, List.set_cons_succ]))
            | (refine tree_skip rfl (fun _ _ _ h => by first | exact h | cases h.1) rfl hS ?_; (simp only [Act.put, List.setIfInBounds_toArray]; dsimp only [List.set_cons_zero, List.set_cons_succ])))
          refine tree_do (by rfl) (by rfl) (fun K hK => ?_)
          go_simp
          refine (HP.out _ hS).mono ?_
          rintro e w1 ⟨A', m, c', ch, se, us, rfl, hO', bel⟩
          have hp := hp.below bel hp.lt
          have hS := hS.trans (bel.mono hS.size)
          refine hK.out _ _ (fun h => by cases h) (fun _ => ?_); clear hK K; try (simp only [Act.put, List.setIfInBounds_toArray]; dsimp only [List.set_cons_zero, List.set_cons_succ])
          repeat (first
            | (refine tree_read (v := ?_) rfl (fun _ _ _ h => by first | exact h | cases h.1) rfl hS ?_ ?_; rotate_left 1; (focus (intro w' hS'; have e4 : w'.cell? ⟨lb, 4, none⟩ = some (.string Z) := (hS'.cell hlt0).trans (HT1.out.cell 4); have e8 : w'.cell? ⟨lb, 8, none⟩ = some (.slice A T c) := (hS'.cell hlt0).trans (HT1.out.cell 8); have e9 : w'.cell? ⟨lb, 9, none⟩ = some (.string CH) := (hS'.cell hlt0).trans (HT1.out.cell 9); go_simp; try rfl)); (simp only [Act.put, List.setIfInBounds_toArray]; dsimp only [List.set_cons_zero, List.set_cons_succ]))
            | (refine tree_skip rfl (fun _ _ _ h => by first | exact h | cases h.1) rfl hS ?_; (simp only [Act.put, List.setIfInBounds_toArray]; dsimp only [List.set_cons_zero, List.set_cons_succ])))
          refine tree_do (by rfl) (by rfl) (fun K hK => ?_)
          refine wp_store_row 110 (.tmp 4) (.tmp 44) rfl p _ rfl rfl 110 _ hp (by exact HSZ.out) (Eq.refl 4) (by simp [Value.oneCell']) ?_
          have hR := HLEAF.out w1 p A' m c' ch se us hS hp hpl hO'
          refine hK.out _ _ (fun _ => hR.1) (fun hS => ?_); clear hK K; replace hS := hS rfl; try (simp only [Act.put, List.setIfInBounds_toArray]; dsimp only [List.set_cons_zero, List.set_cons_succ])
          repeat (first
            | (refine tree_read (v := ?_) rfl (fun _ _ _ h => by first | exact h | cases h.1) rfl hS ?_ ?_; rotate_left 1; (focus (intro w' hS'; go_simp; try rfl)); (simp only [Act.put, List.setIfInBounds_toArray]; dsimp only [List.set_cons_zero, List.set_cons_succ]))
            | (refine tree_skip rfl (fun _ _ _ h => by first | exact h | cases h.1) rfl hS ?_; (simp only [Act.put, List.setIfInBounds_toArray]; dsimp only [List.set_cons_zero, List.set_cons_succ])))
          refine tree_leaf ?_
          refine ⟨rfl, p, A', m, c', ch, se, us, ?_, hR⟩
          rfl
      case go =>
        intro p A' m c' ch se us w3 hR
        obtain ⟨r1, r2, r3⟩ := hR
        obtain ⟨g, hg⟩ : ∃ g, sg - j = g + 1 := ⟨sg - j - 1, by omega⟩
        cases O with
        | false =>
          have he := HSS.out.2.2.1
          rw [hg, Lg.scan_no HSE.out.2.2.2.2.1.symm] at he
          have HE := Lib.hid he
          have H3 := Lib.hid r1
          clear r1 r2 r3 he
          go_wp2_with fail
          refine bodyPost_ret (results_none rfl _ _ _) rfl ?_
          rw [HE.out]
          refine ⟨rfl, ⟨A, c, ?_, ?_⟩, HSE.out.2.1.trans (Fr.of_below (below_of_drew H3.out) _) (fun _ _ h => h)⟩
          · rw [← HSE.out.2.2.2.1, ← HSE.out.2.2.2.2.2.2.1]
            exact HO1.out.1.below (below_of_drew H3.out) HO1.out.1.lt
          · rw [← HSE.out.2.2.2.1]
            exact own_below HO1.out.2 (below_of_drew H3.out)
        | true =>
          obtain ⟨hm, hch, rfl, hus, hown⟩ := r3 rfl
          obtain ⟨s2, hs2⟩ : ∃ s2, s2 = (s1.scan1 j).1 := ⟨_, rfl⟩
          have hs2' := hs2.trans (Lg.scan1_yes HSE.out.2.2.2.2.1.symm)
          rw [HSE.out.2.2.1, ← HSE.out.2.2.2.2.2.1] at hs2'
          have he := HSS.out.2.2.1
          rw [hg, Lg.scan_yes HSE.out.2.2.2.2.1.symm, HSE.out.2.2.1, ← HSE.out.2.2.2.2.2.1, ← hs2] at he
          have b3 : Below wr.heap.size wr w3 := below_of_drew r1
          have top3 := HO1.out.1.below b3 HO1.out.1.lt
          have own3 := own_below HO1.out.2 b3
          have hmz : m ≤ 65536 := by rw [hm]; have := HSS.out.2.1.2.2.2; omega
          have hTs : T ≤ 100000 := by rw [HSE.out.2.2.2.1]; have := HSS.out.2.2.2.2.2.2; have := hM2M; omega
          have hb3s := b3.size
          have H3 := Lib.hid (And.intro top3 (And.intro own3 (And.intro r2 (And.intro b3 (And.intro hown (And.intro hm (And.intro hch hus)))))))
          have HE := Lib.hid (And.intro he (And.intro hs2 hs2'))
          have hpl3 := r2.lt
          have hll3 := top3.lt
          clear r1 r2 r3 he hs2 hs2' b3 top3 own3 hm hch hus hown
          go_wp2_with fail
          have e88 : w3.drew.cell? ⟨lb, 8, none⟩ = some (.slice A T c) := H3.out.1.cell 8
          have e00 : w3.drew.cell? ⟨p, 0, none⟩ = some (.slice A' m c') := H3.out.2.2.1.cell 0
          have hll3' : lb < w3.drew.heap.size := hll3
          have hpl3' : p < w3.drew.heap.size := hpl3
          refine region_fast [(0, true), (2, true), (3, true), (4, true), (5, true), (7, true), (8, true), (1, false), (6, false), (9, false), (10, true), (11, true), (12, false)] [1, 2, 3, 4, 5, 6, 7, 8, 9] 1022 [(281474976710656, 1, 0, 0), (562949953421312, 0, 0, 0), (1125899906842624, 1, 0, 0), (2251799813685248, 1125899906842624, 4, 4), (4503599627370496, 2251799813685248, 8, 12), (9007199254740992, 4503599627370496, 16, 28), (18014398509481984, 9570149208162304, 34, 62), (36028797018963968, 16, 0, 0), (72057594037927936, 36028797018963968, 128, 128), (144115188075855872, 90071992547409920, 320, 510), (288230376151711744, 281474976710656, 1023, 1023), (576460752303423488, 288230376151711744, 2047, 2047), (0, 720575940379279360, 3071, 4095)] (fun W => Below w3.drew.heap.size w3.drew W) (by kernel_rfl) (by kernel_rfl) (by kernel_rfl) rfl (by kernel_rfl) (by kernel_rfl) (Below.refl _ _) (fun hS => ?_)
          repeat (first
            | (refine plan_read (v := ?_) rfl (fun _ _ _ h => h) rfl hS ?_ ?_; rotate_left 1; (focus (intro w' hS'; have e8 := (hS'.cell hll3').trans e88; have e0 := (hS'.cell hpl3').trans e00; go_simp; try rfl)); (simp only [Act.put, List.setIfInBounds_toArray]; dsimp only [List.set_cons_zero, List.set_cons_succ]))
            | (refine plan_skip rfl (fun _ _ _ h => h) rfl hS ?_; (simp only [Act.put, List.setIfInBounds_toArray]; dsimp only [List.set_cons_zero, List.set_cons_succ])))
          refine plan_do (by rfl) (by rfl) (fun K hK => ?_)
          go_simp
          have n1 : (w3.alloc (.cells #[] 9)).drew.ownsRow w3.heap.size 9 1 (.slice (some ⟨w3.heap.size, 0, none⟩) 0 0) 0 [] := own_below (own_mk (Nat.le_refl _) (Blk.new w3 9 #[]) (Nat.le_refl _) (Nat.zero_le _) rfl rfl) (Below.refl _ _).drew
          have bel4 : Below w3.drew.heap.size w3.drew (w3.alloc (.cells #[] 9)).drew := (Below.refl w3.drew.heap.size w3.drew).alloc (Nat.le_refl _) (.cells #[] 9)
          obtain ⟨w4, hw4⟩ : ∃ w4, (w3.alloc (.cells #[] 9)).drew = w4 := ⟨_, rfl⟩
          rw [hw4] at n1 bel4 ⊢
          have hbe4 : Below w3.heap.size w3 w4 := below_of_drew bel4
          clear hS
          refine hK.out _ _ (fun _ => bel4) (fun hS => ?_); clear hK K; replace hS := hS rfl; try (simp only [Act.put, List.setIfInBounds_toArray]; dsimp only [List.set_cons_zero, List.set_cons_succ])
          repeat (first
            | (refine plan_read (v := ?_) rfl (fun _ _ _ h => h) rfl hS ?_ ?_; rotate_left 1; (focus (intro w' hS'; have e8 := (hS'.cell hll3').trans e88; have e0 := (hS'.cell hpl3').trans e00; go_simp; try rfl)); (simp only [Act.put, List.setIfInBounds_toArray]; dsimp only [List.set_cons_zero, List.set_cons_succ]))
            | (refine plan_skip rfl (fun _ _ _ h => h) rfl hS ?_; (simp only [Act.put, List.setIfInBounds_toArray]; dsimp only [List.set_cons_zero, List.set_cons_succ])))
          refine plan_do (by rfl) (by rfl) (fun K hK => ?_)
          refine wp_app (.tmp 49) (.tmp 53) 47 rfl w3.heap.size 9 _ 1 16 Tryd.underlying47 info_string rfl (by decide) (.slice (some ⟨w3.heap.size, 0, none⟩) 0 0) 0 [] rfl n1 A T c (strs s1.texts) rfl (Sees.of_own (own_below H3.out.2.1 hbe4)) (strs_one _) (by unfold maxLen; omega) (by omega) hbe4.size ?_
          intro v5 w5 o1 o2 o3 o4
          rw [Nat.zero_add, List.nil_append] at o1
          obtain ⟨A5, c5, rfl⟩ := own_shape o1
          have bel5 := bel4.grown o2 bel4.size (fun k hk => (n1.lt k hk).1)
          have hbe5 : Below w3.heap.size w3 w5 := below_of_drew bel5
          clear hS o2 o3 o4
          refine hK.out _ _ (fun _ => bel5) (fun hS => ?_); clear hK K; replace hS := hS rfl; try (simp only [Act.put, List.setIfInBounds_toArray]; dsimp only [List.set_cons_zero, List.set_cons_succ])
          repeat (first
            | (refine plan_read (v := ?_) rfl (fun _ _ _ h => h) rfl hS ?_ ?_; rotate_left 1; (focus (intro w' hS'; have e8 := (hS'.cell hll3').trans e88; have e0 := (hS'.cell hpl3').trans e00; go_simp; try rfl)); (simp only [Act.put, List.setIfInBounds_toArray]; dsimp only [List.set_cons_zero, List.set_cons_succ]))
            | (refine plan_skip rfl (fun _ _ _ h => h) rfl hS ?_; (simp only [Act.put, List.setIfInBounds_toArray]; dsimp only [List.set_cons_zero, List.set_cons_succ])))
          refine plan_do (by rfl) (by rfl) (fun K hK => ?_)
          refine wp_app (.tmp 54) (.tmp 56) 47 rfl w3.heap.size 9 _ 1 16 Tryd.underlying47 info_string rfl (by decide) (.slice A5 T c5) T (strs s1.texts) rfl o1 A' m c' (strs z.texts) rfl (Sees.of_own (own_below H3.out.2.2.2.2.1 hbe5)) (strs_one _) (by unfold maxLen; omega) (by omega) hbe5.size ?_
          intro v6 w6 o5 o2 o3 o4
          obtain ⟨A6, c6, rfl⟩ := own_shape o5
          have bel6 := bel5.grown o2 bel5.size (fun k hk => (o1.lt k hk).1)
          have hbe6 : Below w3.heap.size w3 w6 := below_of_drew bel6
          clear hS o1 o2 o3 o4
          refine hK.out _ _ (fun _ => bel6) (fun hS => ?_); clear hK K; replace hS := hS rfl; try (simp only [Act.put, List.setIfInBounds_toArray]; dsimp only [List.set_cons_zero, List.set_cons_succ])
          repeat (first
            | (refine plan_read (v := ?_) rfl (fun _ _ _ h => h) rfl hS ?_ ?_; rotate_left 1; (focus (intro w' hS'; have e8 := (hS'.cell hll3').trans e88; have e0 := (hS'.cell hpl3').trans e00; go_simp; try rfl)); (simp only [Act.put, List.setIfInBounds_toArray]; dsimp only [List.set_cons_zero, List.set_cons_succ]))
            | (refine plan_skip rfl (fun _ _ _ h => h) rfl hS ?_; (simp only [Act.put, List.setIfInBounds_toArray]; dsimp only [List.set_cons_zero, List.set_cons_succ])))
          have top6 := H3.out.1.below hbe6 hll3
          have p6 := H3.out.2.2.1.below hbe6 hpl3
          have hlp : lb ≠ p := top6.same p6 (by decide)
          have c86 : w6.cell? ⟨lb, 8, none⟩ = some (.slice A T c) := top6.cell 8
          have f86 : w6.frozen? ⟨lb, 8, none⟩ = false := top6.frozen 8
          clear hS
          refine plan_do (by rfl) (by rfl) (fun K hK => ?_)
          go_simp
          refine hK.out _ _ (fun h => by cases h) (fun _ => ?_); clear hK K; try (simp only [Act.put, List.setIfInBounds_toArray]; dsimp only [List.set_cons_zero, List.set_cons_succ])
          refine plan_nil ?_
          have t7 := top6.set_ 8 (.slice A6 (T + m) c6)
          have p7 := p6.far (Ne.symm hlp : p ≠ (⟨lb, 8, none⟩ : Addr).block) (.slice A6 (T + m) c6)
          have g7 : Fr (fun k => k = lb) w6 _ := Fr.setCell w6 ⟨lb, 8, none⟩ (.slice A6 (T + m) c6) rfl
          generalize w6.setCell ⟨lb, 8, none⟩ (.slice A6 (T + m) c6) = w7 at *
          have p71 : w7.cell? ⟨p, 1, none⟩ = some (.string ch) := p7.cell 1
          have c97 : w7.cell? ⟨lb, 9, none⟩ = some (.string CH) := t7.cell 9
          have f97 : w7.frozen? ⟨lb, 9, none⟩ = false := t7.frozen 9
          have t8 := t7.set_ 9 (.string ch)
          have p8 := p7.far (Ne.symm hlp : p ≠ (⟨lb, 9, none⟩ : Addr).block) (.string ch)
          have g8 := g7.trans (Fr.setCell (F := fun k => k = lb) w7 ⟨lb, 9, none⟩ (.string ch) rfl) (fun _ _ h => h)
          have HW7 := Lib.hid (And.intro t8 (And.intro p8 g8))
          clear t7 p7 g7 t8 p8 g8 top6 p6 c86 f86 e88 e00
          go_upto_region 8 with fail
          obtain ⟨t8, p8, g8⟩ := HW7.out
          generalize w7.setCell ⟨lb, 9, none⟩ (.string ch) = w8 at *
          have c58 : w8.cell? ⟨lb, 5, none⟩ = some (.int .i64 s1.last) := t8.cell 5
          have f58 : w8.frozen? ⟨lb, 5, none⟩ = false := t8.frozen 5
          have t9 := t8.set_ 5 (.int .i64 j)
          have p9 := p8.far (Ne.symm hlp : p ≠ (⟨lb, 5, none⟩ : Addr).block) (.int .i64 j)
          have g9 := g8.trans (Fr.setCell (F := fun k => k = lb) w8 ⟨lb, 5, none⟩ (.int .i64 j) rfl) (fun _ _ h => h)
          have HW8 := Lib.hid (And.intro t9 (And.intro p9 g9))
          clear t8 p8 g8 t9 p9 g9 HW7 p71 c97 f97
          go_upto_region 9 with fail
          obtain ⟨t9, p9, g9⟩ := HW8.out
          generalize w8.setCell ⟨lb, 5, none⟩ (.int .i64 j) = w9 at *
          have p93 : w9.cell? ⟨p, 3, none⟩ = some (.int .i64 us) := p9.cell 3
          have c69 : w9.cell? ⟨lb, 6, none⟩ = some (.int .i64 s1.used) := t9.cell 6
          have f69 : w9.frozen? ⟨lb, 6, none⟩ = false := t9.frozen 6
          have t10 := t9.set_ 6 (.int .i64 us)
          have p10 := p9.far (Ne.symm hlp : p ≠ (⟨lb, 6, none⟩ : Addr).block) (.int .i64 us)
          have g10 := g9.trans (Fr.setCell (F := fun k => k = lb) w9 ⟨lb, 6, none⟩ (.int .i64 us) rfl) (fun _ _ h => h)
          have HW9 := Lib.hid (And.intro t10 (And.intro p10 g10))
          clear t9 p9 g9 t10 p10 g10 HW8 c58 f58
          go_upto_region 10 with fail
          obtain ⟨t10, p10, g10⟩ := HW9.out
          generalize w9.setCell ⟨lb, 6, none⟩ (.int .i64 us) = w10 at *
          have p102 : w10.cell? ⟨p, 2, none⟩ = some (.bool z.sealed_) := p10.cell 2
          have c1110 : w10.cell? ⟨lb, 11, none⟩ = some (.bool s1.sealed_) := t10.cell 11
          have f1110 : w10.frozen? ⟨lb, 11, none⟩ = false := t10.frozen 11
          have t11 := t10.set_ 11 (.bool z.sealed_)
          have p11 := p10.far (Ne.symm hlp : p ≠ (⟨lb, 11, none⟩ : Addr).block) (.bool z.sealed_)
          have g11 := g10.trans (Fr.setCell (F := fun k => k = lb) w10 ⟨lb, 11, none⟩ (.bool z.sealed_) rfl) (fun _ _ h => h)
          have HW10 := Lib.hid (And.intro t11 (And.intro p11 g11))
          clear t10 p10 g10 t11 p11 g11 HW9 p93 c69 f69
          go_upto_region 11 with fail
          obtain ⟨t11, p11, g11⟩ := HW10.out
          generalize w10.setCell ⟨lb, 11, none⟩ (.bool z.sealed_) = w11 at *
          have p112 : w11.cell? ⟨p, 2, none⟩ = some (.bool z.sealed_) := p11.cell 2
          have HDONE : Hid (Blk w11 lb 88 (rlcN sg sz Z s2.last s2.used 0 (.slice A6 s2.texts.length c6) (str s2.chain) 0 s2.sealed_ false) ∧ w11.ownsRow w.heap.size 9 1 (.slice A6 s2.texts.length c6) s2.texts.length (strs s2.texts) ∧ Fr (fun k => k = lb) w w11) := Lib.hid (by
            have hs2 := HE.out.2.2
            have e1 : s2.texts = s1.texts ++ z.texts := by rw [hs2]
            have e2 : s2.texts.length = T + m := by rw [e1, List.length_append, ← HSE.out.2.2.2.1, ← H3.out.2.2.2.2.2.1]
            have e3 : s2.chain = z.chain := by rw [hs2]
            have e4 : s2.last = j := by rw [hs2]
            have e5 : s2.used = z.used := by rw [hs2]
            have e6 : s2.sealed_ = z.sealed_ := by rw [hs2]
            refine ⟨?_, ?_, ?_⟩
            · rw [e2, e3, e4, e5, e6, ← H3.out.2.2.2.2.2.2.1, ← H3.out.2.2.2.2.2.2.2]
              exact t11
            · rw [e2, e1, show strs (s1.texts ++ z.texts) = strs s1.texts ++ strs z.texts by simp [strs]]
              have q := own_fr o5 g11 (own_ne o5 (H3.out.1.below hbe6 hll3) (by decide))
              exact own_base q (Nat.le_trans HSE.out.2.1.size hb3s)
            · exact (HSE.out.2.1.trans (Fr.of_below (H3.out.2.2.2.1.trans (hbe6.mono hb3s)) _) (fun _ _ h => h)).trans g11 (fun _ _ h => h))
          clear t11 p11 g11 HW10 p102 c1110 f1110
          cases hse : z.sealed_ with
          | false =>
            rw [hse] at p112
            have he := HE.out.1
            rw [hse, if_neg (by decide)] at he
            have HEE := Lib.hid he
            clear he
            go_wp2_with fail
            refine bodyPost_ret (results_none rfl _ _ _) rfl ?_
            rw [HEE.out]
            exact ⟨rfl, ⟨A6, c6, HDONE.out.1, HDONE.out.2.1⟩, HDONE.out.2.2⟩
          | true =>
            rw [hse] at p112
            have he := HE.out.1
            rw [hse, if_pos rfl] at he
            have HEE := Lib.hid he
            clear he
            go_wp2_with fail
            go_roundw
            case rel =>
              refine ⟨j + 1, by go_num, by omega, Lib.hid ⟨s2, A6, c6, HDONE.out.1, HDONE.out.2.1, ?_, ?_, ?_, ?_, ?_, ?_, HDONE.out.2.2⟩⟩
              · rw [HE.out.2.1]; exact HSS.out.1.1
              · rw [HEE.out]; congr 1; omega
              · rw [HE.out.2.2]; exact HSS.out.2.2.2.1
              · rw [HE.out.2.2]; exact HSS.out.2.2.2.2.1
              · rw [HE.out.2.2]; exact HSS.out.2.2.2.2.2.1
              · rw [HE.out.2.2]
                show (s1.texts ++ z.texts).length ≤ (j + 1) * N
                have h1 := HSS.out.2.2.2.2.2.2
                have h2 := HSS.out.2.1.2.2.2
                have h3 := HSE.out.2.2.2.2.2.2.2.1
                rw [List.length_append, Nat.add_mul, Nat.one_mul, ← h3]
                omega
            case measure => simp [intOf]; omega
    · obtain rfl : j = sg := by omega
      have hge : ¬ ((j : Int) < (j : Int)) := by omega
      rw [Nat.sub_self] at e1
      have HE := Lib.hid e1
      have HQ := Lib.hid (And.intro top1 (And.intro own1 f1))
      clear hr top1 own1 ok1 e1 eB eS eZ m1 f1
      go_wp2_with fail
      refine bodyPost_end (results_none rfl _ _ _) rfl ?_
      rw [HE.out]
      exact ⟨rfl, ⟨A, c, HQ.out.1, HQ.out.2.1⟩, HQ.out.2.2⟩
end Go.Proofs.YtldgnckchlbadaaDoor
