/-
  The law FaultPlaces, walked.
-/
import Derived.Test.YtnfcnjnecankbaaDoorLinkArg
namespace Go.Proofs.YtnfcnjnecankbaaDoor
set_option maxRecDepth 4000
open Go.RowKit

theorem same_ops (L : List Lk) (A B : Option Addr) (c c' : Nat) (w : World) (hkc : L.length ≤ 100000) (hA : Sees w 1 A L.length (opsV L)) (hB : Sees w 1 B L.length (opsV L)) :
    Calls Tryd.prog 20 #[.slice A L.length c, .slice B L.length c'] w fun e w' => e = .returned (.bool true) ∧ Below w.heap.size w w' := by
  have HA := Lib.hid hA; have HB := Lib.hid hB
  obtain ⟨k, hk⟩ : ∃ k, L.length = k := ⟨_, rfl⟩
  rw [hk] at hkc ⊢
  have HK := Lib.hid hk
  clear hA hB hk
  go_enter Tryd.func20, Tryd.ntmps20
  go_wp2_with fail
  go_loopw [5] (fun i wr => ∃ j : Nat, j ≤ k ∧ i = .int .i64 j ∧ Below w.heap.size w wr) (fun i _ => k - (intOf i).toNat)
  case atStart => exact ⟨0, by omega, rfl, Below.refl _ _⟩
  case round =>
    obtain ⟨j, hj, rfl, hbr⟩ := hrel
    by_cases hlt : j < k
    · have hlti : (j : Int) < (k : Int) := by omega
      have hp := List.getElem?_eq_getElem (l := L) (i := j) (by rw [HK.out]; exact hlt)
      obtain ⟨t, ht⟩ : ∃ p, p = L[j]'(by rw [HK.out]; exact hlt) := ⟨_, rfl⟩
      rw [← ht] at hp
      have hHA := HA.out
      have hHB := HB.out
      rw [HK.out] at hHA hHB
      obtain ⟨g, off, rfl, hcs⟩ := hHA.2 (by omega)
      obtain ⟨g2, off2, rfl, hcs2⟩ := hHB.2 (by omega)
      have hc0 : w.cell? ⟨g, off + j, none⟩ = some (.string t.op) := hcs j _ (by simp [opsV, hp])
      have hc1 := (hbr.cell (World.block_lt_of_cell? w _ hc0)).trans hc0
      have hd0 : w.cell? ⟨g2, off2 + j, none⟩ = some (.string t.op) := hcs2 j _ (by simp [opsV, hp])
      have hd1 := (hbr.cell (World.block_lt_of_cell? w _ hd0)).trans hd0
      have HBR := Lib.hid hbr
      clear hcs hcs2 hp ht hc0 hd0 hbr hHA hHB
      generalize t.op = X at *
      go_wp2_with fail
      refine region_fast [(0, true), (1, true), (2, true), (3, true), (4, true), (5, true), (6, true), (7, true), (8, true)] [1, 4, 5, 6, 7] 242 [(131072, 1, 0, 0), (262144, 32, 0, 0), (524288, 393216, 3, 3), (1048576, 524288, 4, 7), (2097152, 2, 0, 0), (4194304, 32, 0, 0), (8388608, 6291456, 48, 48), (16777216, 8388608, 64, 112), (33554432, 17825792, 136, 255)] (fun w' => w'.cell? ⟨g, off + j, none⟩ = some (.string X) ∧ w'.cell? ⟨g2, off2 + j, none⟩ = some (.string X)) (by kernel_rfl) (by kernel_rfl) (by kernel_rfl) rfl (by kernel_rfl) (by kernel_rfl) ⟨hc1, hd1⟩ (fun hS => ?_)
      repeat (first
        | (refine plan_read (v := ?_) rfl (fun _ _ _ h => h) rfl hS ?_ ?_; rotate_left 1; (focus (intro w' hS'; obtain ⟨z1, z2⟩ := hS'; go_simp; try rfl)); (simp only [Act.put, List.setIfInBounds_toArray]; dsimp only [List.set_cons_zero, List.set_cons_succ]))
        | (refine plan_skip rfl (fun _ _ _ h => h) rfl hS ?_; (simp only [Act.put, List.setIfInBounds_toArray]; dsimp only [List.set_cons_zero, List.set_cons_succ])))
      refine plan_nil ?_
      go_wp2_with fail
      go_roundw
      case rel => exact ⟨j + 1, by omega, by go_num, HBR.out.drew⟩
      case measure => simp [intOf]; omega
    · obtain rfl : j = k := by omega
      have hge : ¬ ((j : Int) < (j : Int)) := by omega
      go_wp2_with fail
      go_ret
      exact ⟨rfl, hbr⟩

set_option maxHeartbeats 4000000 in
theorem places_any (ls : List Lk) (A : Option Addr) (c : Nat) (op : ByteArray) (w : World) (hI : InLinks w A ls) (hT : Tabs w) (hop : op.size ≤ maxLen) :
    Calls Tryd.prog 5 #[.slice A ls.length c, .string op] w fun r w' => r = .returned (.bool true) ∧ Below w.heap.size w w' := by
  have HAW := Lib.hid awake_any
  have HSM := Lib.hid (fun w h => smalls_any ls A c w h hI.ok hI.most)
  have HI := Lib.hid hI
  have HT := Lib.hid hT
  have hnn : op.size < 18446744073709551616 := by unfold maxLen at hop; omega
  clear hI hT hop
  go_enter Tryd.func5, Tryd.ntmps5
  go_wp2_with fail
  refine (HAW.out _ HT.out).mono ?_
  rintro r w1 ⟨rfl, hb1⟩
  have HB1 := Lib.hid hb1
  have HX := Lib.hid (HSM.out w1 (HI.out.below hb1).sees)
  clear hb1
  go_wp2_with fail
  refine HX.out.mono ?_
  rintro r w2 ⟨hr, hb2⟩
  have HB2 := Lib.hid (HB1.out.trans (hb2.mono HB1.out.size))
  clear hb2 HX HB1
  rcases hr with rfl | ⟨rfl, hsm⟩
  · go_wp2_with fail
    refine (HAW.out _ (HT.out.below HB2.out)).mono ?_
    rintro r w3 ⟨rfl, hb3⟩
    have HB3 := Lib.hid (HB2.out.trans (hb3.mono HB2.out.size))
    go_wp2_with fail
    go_ret
    exact ⟨rfl, HB3.out⟩
  · by_cases h50 : (50 : Int) < (op.size : Int)
    · go_wp2_with fail
      refine (HAW.out _ (HT.out.below HB2.out)).mono ?_
      rintro r w3 ⟨rfl, hb3⟩
      have HB3 := Lib.hid (HB2.out.trans (hb3.mono HB2.out.size))
      go_wp2_with fail
      go_ret
      exact ⟨rfl, HB3.out⟩
    · have HM := Lib.hid (made_any ls A c 2 w2 (HI.out.below HB2.out).sees (by have := hsm.out.1; omega))
      have hl20 : ls.length ≤ 20 := hsm.out.1
      go_wp2_with fail
      refine HM.out.mono ?_
      rintro r w3 ⟨⟨v, rfl, hm⟩, hb3⟩
      have HB3 := Lib.hid (HB2.out.trans (hb3.mono HB2.out.size))
      clear hb3 HM
      have HCH : Hid (∃ z, Ender z ∧ ChE w3 z v ls) := Lib.hid (by
        rcases hm with ⟨h, -⟩ | ⟨h, hv⟩ | ⟨-, -, h⟩
        · omega
        · have : ls = [] := List.length_eq_zero_iff.1 h.symm
          subst this
          exact ⟨.nilIface, .inl rfl, hv⟩
        · exact ⟨_, .inr ⟨_, rfl⟩, h.toE⟩)
      clear hm
      go_wp2_with fail
      go_loopw [6, 7] (fun v6 i wr => ∃ j : Nat, i = .int .i64 j ∧ j ≤ ls.length ∧ Hid (wr.ownsRow w3.heap.size 9 1 v6 j (opsV (ls.take j)) ∧ Below w3.heap.size w3 wr)) (fun _ i _ => ls.length - (intOf i).toNat)
      case atStart => exact ⟨0, rfl, Nat.zero_le _, Lib.hid ⟨World.ownsRow_nil _ _ _ _, Below.refl _ _⟩⟩
      case round =>
        obtain ⟨j, rfl, hj, hr⟩ := hrel
        obtain ⟨A1, c1, rfl⟩ := own_shape hr.out.1
        by_cases hlt : j < ls.length
        · have hyj : ls[j]? = some (ls[j]'hlt) := List.getElem?_eq_getElem hlt
          generalize ls[j] = y at hyj
          obtain ⟨g, o, rfl, d0, d1⟩ := in_link ((HI.out.below HB3.out).below hr.out.2).sees hyj
          have hnx : opsV (ls.take (j + 1)) = opsV (ls.take j) ++ [.string y.op] := by
            unfold opsV
            rw [List.take_add_one, hyj, List.map_append]
            rfl
          have HR := Lib.hid hr.out
          have HNX := Lib.hid hnx
          have hzz := hr.out.2.size
          clear hr hyj hnx d1
          obtain ⟨yo, ya⟩ := y
          simp only at d0 HNX
          go_wp2_with (at_builtin; refine wpList_app rfl (.tmp 33) (.tmp 39) _ rfl w3.heap.size 9 _ 1 16 Tryd.underlying42 info_string rfl (by decide) _ j _ rfl (own_below HR.out.1 ((Below.refl _ _).alloc (Nat.le_refl _) _)) (some ⟨wr.heap.size, 0, none⟩) 1 _ [.string yo] rfl (sees_new wr _ [.string yo] 1 1 rfl) (by simp [Value.oneCell']) (by unfold maxLen; omega) (by omega) (by simp; omega) ?_; intro v1 w6 hown1 hgr1 hat1 hnil1; rw [← HNX.out] at hown1; have hb1 := (HR.out.2.alloc hzz _).grown hgr1 (by simp; omega) (fun k hk => (HR.out.1.lt k hk).1); have HG1 := Lib.hid (And.intro hown1 hb1); clear hown1 hgr1 hat1 hnil1 hb1)
          go_roundw
          case rel => exact ⟨j + 1, by go_num, by omega, HG1⟩
          case measure => simp [intOf]; omega
        · obtain rfl : j = ls.length := by omega
          have hrow := hr.out.1
          rw [List.take_length] at hrow
          have HR := Lib.hid (And.intro hrow hr.out.2)
          have HB4 := Lib.hid (HB3.out.trans (hr.out.2.mono HB3.out.size))
          have HP : Hid (Calls Tryd.prog 18 #[v, .string op] wr fun e w' => e = .returned (.tuple #[.int .i64 (plc op ls).1, .bool (plc op ls).2]) ∧ Below wr.heap.size wr w') := Lib.hid (by
            obtain ⟨z, hz, hc⟩ := HCH.out
            exact place_any z v ls op wr hz (hc.keep hr.out.2) (HT.out.below HB4.out) (by omega))
          have HRP := Lib.hid (fun w' hS => rplace_any ls op A c w' hS (by omega))
          clear hr hrow
          generalize plc op ls = R at *
          obtain ⟨r1, r2⟩ := R
          simp only at HP HRP
          go_wp2_with fail
          refine HP.out.mono ?_
          rintro r w5 ⟨rfl, hb5⟩
          have HB5 := Lib.hid (HB4.out.trans (hb5.mono HB4.out.size))
          have HR5 := Lib.hid (own_below HR.out.1 hb5)
          have HC5 : Hid (∃ z, Ender z ∧ ChE w5 z v ls) := Lib.hid (by
            obtain ⟨z, hz, hc⟩ := HCH.out
            exact ⟨z, hz, (hc.keep HR.out.2).keep hb5⟩)
          clear hb5 HP HR
          go_wp2_with fail
          refine (HRP.out w5 (HI.out.below HB5.out).sees).mono ?_
          rintro r w6 ⟨rfl, hb6⟩
          have HB6 := Lib.hid (HB5.out.trans (hb6.mono HB5.out.size))
          have HR6 := Lib.hid (own_below HR5.out hb6)
          have HO : Hid (Calls Tryd.prog 15 #[v] w6 fun e w' => ∃ out, e = .returned out ∧ w'.ownsRow w6.heap.size 9 1 out ls.length (opsV ls) ∧ Below w6.heap.size w6 w') := Lib.hid (by
            obtain ⟨z, hz, hc⟩ := HC5.out
            exact ops_any z v ls w6 hz (hc.keep hb6) (HT.out.below HB6.out) (by omega))
          clear hb6 HRP HR5 HC5
          cases r2
          all_goals
            go_wp2_with fail
            refine HO.out.mono ?_
            rintro r w7 ⟨out, rfl, ho, hb7⟩
            obtain ⟨A7, c7, rfl⟩ := own_shape ho
            have HB7 := Lib.hid (HB6.out.trans (hb7.mono HB6.out.size))
            have HSA := Lib.hid (same_ops ls A7 A1 c7 c1 w7 (by omega) (Sees.of_own ho) (Sees.of_own (own_below HR6.out hb7)))
            clear hb7 ho
            go_wp2_with fail
            refine HSA.out.mono ?_
            rintro r w8 ⟨rfl, hb8⟩
            have HB8 := Lib.hid (HB7.out.trans (hb8.mono HB7.out.size))
            go_wp2_with fail
            go_ret
            exact ⟨rfl, HB8.out⟩

theorem places_walk (a0 : Option Addr) (ys0 : List Lk) (len0 cap0 : Nat) (a1 : ByteArray) (W : World) (hT : Tabs W) (m0 : ys0.length = len0) (w0 : InLinks W a0 ys0) (w1 : a1.size ≤ maxLen) :
    Calls Tryd.prog 5 #[.slice a0 len0 cap0, .string a1] W fun e w' => e = .returned (.bool true) ∧ Below W.heap.size W w' := by
  subst m0
  exact places_any ys0 a0 cap0 a1 W w0 hT w1
end Go.Proofs.YtnfcnjnecankbaaDoor
