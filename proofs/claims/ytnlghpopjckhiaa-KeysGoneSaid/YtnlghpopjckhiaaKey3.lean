/-
  lay.
-/
import Derived.Test.YtnlghpopjckhiaaKeyT
import Derived.Test.YtnlghpopjckhiaaRegion
namespace Go.Proofs.Ytnlghpopjckhiaa
set_option maxRecDepth 4000
open Go.RowKit

set_option maxHeartbeats 1000000 in
theorem lay_any (t b sg : Nat) (f : Nat) (E : List (Option Ke)) (dead : Bool) (D : Dk) (F K G : Nat → Prop) (i wh : Nat) (A : Option Addr) (c : Nat) (l : List UInt8) (w : World)
    (h : KSt w t b sg f E dead D F K G) (hok : D.Ok) (hq : D.queue.length ≤ 1000) (hl : l.length = 128) (hc : 128 ≤ c) (hcm : c ≤ maxLen) (hS : Sees w 1 A 128 (u8s l)) (hA : ∀ a, A = some a → ¬ F a.block)
    (hf : f ≤ 1000000) (hi : i ≤ 1000000) (hw : wh ≤ 1) (hfit : (f + 2 * i + wh + 1) * 128 ≤ D.safe.length) :
    Calls Try.prog 29 #[.pointer (some ⟨t, 0, none⟩), .int .i64 i, .int .i64 wh, .slice A 128 c] w fun e w' => (∃ v, e = .returned v ∧ ErrIs D.layOk v) ∧ KTo w G t b sg f E (dead || !D.layOk) (D.lay (f + 2 * i + wh) l) w' := by
  have c0 : w.cell? ⟨t, 0, none⟩ = some (.pointer (some ⟨b, 0, none⟩)) := h.tab.top.cell 0
  have c1 : w.cell? ⟨t, 1, none⟩ = some (.int .i64 f) := h.tab.top.cell 1
  have hs1 : IntKind.i64.wrap (2 * (i : Int)) = 2 * (i : Int) := IntWalk.i64_in _ (by omega)
  have hs2 : IntKind.i64.wrap ((f : Int) + 2 * (i : Int)) = (f : Int) + 2 * (i : Int) := IntWalk.i64_in _ (by omega)
  obtain ⟨a, ha⟩ : ∃ a, a = f + 2 * i + wh := ⟨_, rfl⟩
  have hs3 : IntKind.i64.wrap ((f : Int) + 2 * (i : Int) + (wh : Int)) = (a : Int) := by rw [IntWalk.i64_in _ (by omega), ha]; omega
  have hai : (a : Int) = (f : Int) + 2 * (i : Int) + (wh : Int) := by omega
  rw [← ha] at hfit ⊢
  by_cases h0 : D.calls = 0
  · have hwe : D.writeE (a : Int) l = 22 := by
      unfold Dk.writeE
      have ht : thereN (a : Int) (l.length / 128) D.size = true := by
        rw [hl]
        unfold thereN thereB Dk.size
        exact decide_eq_true (by omega)
      rw [if_neg (by rw [hl]; decide), if_neg (by rw [ht]; decide), if_pos h0]
    have hW := write_bad b F D a A c l w.drew h.disk hok (by omega) (by rw [hwe]; decide)
    rw [hwe, hl, hai] at hW
    have HW := Lib.hid hW
    have e1 : D.layOk = false := decide_eq_false (fun h => h.1 h0)
    have e2 : D.lay a l = D := if_pos h0
    rw [e1, e2, Bool.not_false, Bool.or_true]
    have HST := Lib.hid h
    have HWR := Lib.hid (fun k w => wrap_no { data := #[107, 101, 121, 115] } k 22 (by decide) w)
    clear h hS hA hok hfit hq hW hwe
    go_enter Try.func29, Try.ntmps29
    go_wp2_with fail
    refine region_fast [(0, true), (1, true), (2, true), (3, true), (4, true), (5, true), (6, true), (7, true), (8, true), (9, true), (10, true), (11, true), (12, true), (13, true), (14, false), (15, true)] [4, 5, 6, 7, 8, 9, 10, 11, 12, 13] 16368 [(1024, 1, 0, 0), (2048, 1024, 1, 1), (4096, 2048, 2, 3), (8192, 4096, 4, 7), (16384, 1, 0, 0), (32768, 16384, 16, 16), (65536, 32768, 32, 48), (131072, 65536, 64, 112), (262144, 2, 0, 0), (524288, 262144, 256, 256), (1048576, 655360, 640, 1008), (2097152, 4, 0, 0), (4194304, 3145728, 3072, 4080), (8388608, 8, 0, 0), (16777216, 12591104, 12296, 16383), (512, 16777216, 32767, 32767)] (fun W => W.cell? ⟨t, 0, none⟩ = some (.pointer (some ⟨b, 0, none⟩)) ∧ W.cell? ⟨t, 1, none⟩ = some (.int .i64 f)) (by kernel_rfl) (by kernel_rfl) (by kernel_rfl) rfl (by kernel_rfl) (by kernel_rfl) ⟨c0, c1⟩ (fun hS => ?_)
    repeat (first
      | (refine plan_read (v := ?_) rfl (fun _ _ _ h => h) rfl hS ?_ ?_; rotate_left 1; (focus (intro w' hS'; have q0 := hS'.1; have q1 := hS'.2; go_simp; try rfl)); (simp only [Act.put, List.setIfInBounds_toArray]; dsimp only [List.set_cons_zero, List.set_cons_succ]))
      | (refine plan_skip rfl (fun _ _ _ h => h) rfl hS ?_; (simp only [Act.put, List.setIfInBounds_toArray]; dsimp only [List.set_cons_zero, List.set_cons_succ])))
    refine plan_do (by rfl) (by rfl) (fun K hK => ?_)
    go_simp
    refine HW.out.mono ?_
    rintro e w1 ⟨rfl, hto⟩
    obtain ⟨F1, K1, G1, st1, fr1, sub1⟩ := (KSt.diskTo HST.out.drew hto).of_drew
    have HH := Lib.hid (And.intro st1 (And.intro fr1 sub1))
    have d0 : w1.cell? ⟨t, 0, none⟩ = some (.pointer (some ⟨b, 0, none⟩)) := st1.tab.top.cell 0
    have d1 : w1.cell? ⟨t, 1, none⟩ = some (.int .i64 f) := st1.tab.top.cell 1
    clear st1 fr1 sub1 hto c0 c1 HW
    refine hK.out _ _ (fun h => by cases h) (fun _ => ?_); clear hK K; try (simp only [Act.put, List.setIfInBounds_toArray]; dsimp only [List.set_cons_zero, List.set_cons_succ])
    clear hS
    have hS := And.intro d0 d1
    repeat (first
      | (refine plan_read (v := ?_) rfl (fun _ _ _ h => h) rfl hS ?_ ?_; rotate_left 1; (focus (intro w' hS'; have q0 := hS'.1; have q1 := hS'.2; go_simp; try rfl)); (simp only [Act.put, List.setIfInBounds_toArray]; dsimp only [List.set_cons_zero, List.set_cons_succ]))
      | (refine plan_skip rfl (fun _ _ _ h => h) rfl hS ?_; (simp only [Act.put, List.setIfInBounds_toArray]; dsimp only [List.set_cons_zero, List.set_cons_succ])))
    clear hS d1
    refine plan_nil ?_
    clear d0
    cases dead
    · have c3 : w1.cell? ⟨t, 3, none⟩ = some (.bool false) := HH.out.1.tab.top.cell 3
      have c3f : w1.frozen? ⟨t, 3, none⟩ = false := HH.out.1.tab.top.frozen 3
      have HDD := Lib.hid (KTo.after HH.out.2.1 HH.out.2.2 (HH.out.1.die true))
      clear HH
      go_wp2_with fail
      refine (HWR.out _ _).mono ?_
      rintro e w9 ⟨rfl, -, hb9⟩
      have HD9 := Lib.hid (HDD.out.below hb9)
      clear hb9
      go_wp2_with fail
      go_ret
      exact ⟨⟨_, rfl, .inr ⟨rfl, _, rfl⟩⟩, HD9.out⟩
    · have c3 : w1.cell? ⟨t, 3, none⟩ = some (.bool true) := HH.out.1.tab.top.cell 3
      have c3f : w1.frozen? ⟨t, 3, none⟩ = false := HH.out.1.tab.top.frozen 3
      have HDD := Lib.hid (KTo.after HH.out.2.1 HH.out.2.2 (HH.out.1.die true))
      clear HH
      go_wp2_with fail
      refine (HWR.out _ _).mono ?_
      rintro e w9 ⟨rfl, -, hb9⟩
      have HD9 := Lib.hid (HDD.out.below hb9)
      clear hb9
      go_wp2_with fail
      go_ret
      exact ⟨⟨_, rfl, .inr ⟨rfl, _, rfl⟩⟩, HD9.out⟩
  · by_cases h1 : D.calls = 1
    · have e1 : D.layOk = false := decide_eq_false (fun h => h.2 h1)
      have e2 : D.lay a l = D.push a l 1 := by unfold Dk.lay; rw [if_neg h0, if_pos h1]
      rw [e1, e2, Bool.not_false, Bool.or_true]
      have hW := (write_good b F D a 1 A c l w.drew h.disk hok (by omega) (by omega) hcm hS (fun _ a' ha' hF => hA a' ha' hF) (by omega) (by omega) h0 : Calls Try.prog _ #[.pointer (some ⟨b, 0, none⟩), .int .i64 a, .slice A 128 c] w.drew _)
      rw [hai] at hW
      have HW := Lib.hid hW
      have hokp := hok.push a l 1 (by omega) (by omega)
      have HFL := Lib.hid (fun F w hD => flush_bad b F (D.push a l 1) w hD hokp (by simp only [Dk.push, nextCalls]; rw [if_pos (by omega)]; omega))
      have HST := Lib.hid h
      have HWR := Lib.hid (fun k w => wrap_no { data := #[107, 101, 121, 115] } k 22 (by decide) w)
      clear h hS hA hok hokp hfit hq hW
      go_enter Try.func29, Try.ntmps29
      go_wp2_with fail
      refine region_fast [(0, true), (1, true), (2, true), (3, true), (4, true), (5, true), (6, true), (7, true), (8, true), (9, true), (10, true), (11, true), (12, true), (13, true), (14, false), (15, true)] [4, 5, 6, 7, 8, 9, 10, 11, 12, 13] 16368 [(1024, 1, 0, 0), (2048, 1024, 1, 1), (4096, 2048, 2, 3), (8192, 4096, 4, 7), (16384, 1, 0, 0), (32768, 16384, 16, 16), (65536, 32768, 32, 48), (131072, 65536, 64, 112), (262144, 2, 0, 0), (524288, 262144, 256, 256), (1048576, 655360, 640, 1008), (2097152, 4, 0, 0), (4194304, 3145728, 3072, 4080), (8388608, 8, 0, 0), (16777216, 12591104, 12296, 16383), (512, 16777216, 32767, 32767)] (fun W => W.cell? ⟨t, 0, none⟩ = some (.pointer (some ⟨b, 0, none⟩)) ∧ W.cell? ⟨t, 1, none⟩ = some (.int .i64 f)) (by kernel_rfl) (by kernel_rfl) (by kernel_rfl) rfl (by kernel_rfl) (by kernel_rfl) ⟨c0, c1⟩ (fun hS => ?_)
      repeat (first
        | (refine plan_read (v := ?_) rfl (fun _ _ _ h => h) rfl hS ?_ ?_; rotate_left 1; (focus (intro w' hS'; have q0 := hS'.1; have q1 := hS'.2; go_simp; try rfl)); (simp only [Act.put, List.setIfInBounds_toArray]; dsimp only [List.set_cons_zero, List.set_cons_succ]))
        | (refine plan_skip rfl (fun _ _ _ h => h) rfl hS ?_; (simp only [Act.put, List.setIfInBounds_toArray]; dsimp only [List.set_cons_zero, List.set_cons_succ])))
      refine plan_do (by rfl) (by rfl) (fun K hK => ?_)
      go_simp
      refine HW.out.mono ?_
      rintro e w1 ⟨rfl, hto⟩
      obtain ⟨F1, K1, G1, st1, fr1, sub1⟩ := (KSt.diskTo HST.out.drew hto).of_drew
      have HH := Lib.hid (And.intro st1 (And.intro fr1 sub1))
      have d0 : w1.cell? ⟨t, 0, none⟩ = some (.pointer (some ⟨b, 0, none⟩)) := st1.tab.top.cell 0
      have d1 : w1.cell? ⟨t, 1, none⟩ = some (.int .i64 f) := st1.tab.top.cell 1
      clear st1 fr1 sub1 hto c0 c1 HW
      refine hK.out _ _ (fun h => by cases h) (fun _ => ?_); clear hK K; try (simp only [Act.put, List.setIfInBounds_toArray]; dsimp only [List.set_cons_zero, List.set_cons_succ])
      clear hS
      have hS := And.intro d0 d1
      repeat (first
        | (refine plan_read (v := ?_) rfl (fun _ _ _ h => h) rfl hS ?_ ?_; rotate_left 1; (focus (intro w' hS'; have q0 := hS'.1; have q1 := hS'.2; go_simp; try rfl)); (simp only [Act.put, List.setIfInBounds_toArray]; dsimp only [List.set_cons_zero, List.set_cons_succ]))
        | (refine plan_skip rfl (fun _ _ _ h => h) rfl hS ?_; (simp only [Act.put, List.setIfInBounds_toArray]; dsimp only [List.set_cons_zero, List.set_cons_succ])))
      clear hS d1
      refine plan_nil ?_
      go_wp2_with fail
      refine (HFL.out _ _ HH.out.1.disk).mono ?_
      rintro e w2 ⟨rfl, hto2⟩
      obtain ⟨F2, K2, G2, st2, fr2, sub2⟩ := KTo.after HH.out.2.1 HH.out.2.2 (HH.out.1.diskTo hto2)
      have HH2 := Lib.hid (And.intro st2 (And.intro fr2 sub2))
      clear st2 fr2 sub2 hto2 HH HFL d0
      cases dead
      · have c3 : w2.cell? ⟨t, 3, none⟩ = some (.bool false) := HH2.out.1.tab.top.cell 3
        have c3f : w2.frozen? ⟨t, 3, none⟩ = false := HH2.out.1.tab.top.frozen 3
        have HDD := Lib.hid (KTo.after HH2.out.2.1 HH2.out.2.2 (HH2.out.1.die true))
        clear HH2
        go_wp2_with fail
        refine (HWR.out _ _).mono ?_
        rintro e w9 ⟨rfl, -, hb9⟩
        have HD9 := Lib.hid (HDD.out.below hb9)
        clear hb9
        go_wp2_with fail
        go_ret
        exact ⟨⟨_, rfl, .inr ⟨rfl, _, rfl⟩⟩, HD9.out⟩
      · have c3 : w2.cell? ⟨t, 3, none⟩ = some (.bool true) := HH2.out.1.tab.top.cell 3
        have c3f : w2.frozen? ⟨t, 3, none⟩ = false := HH2.out.1.tab.top.frozen 3
        have HDD := Lib.hid (KTo.after HH2.out.2.1 HH2.out.2.2 (HH2.out.1.die true))
        clear HH2
        go_wp2_with fail
        refine (HWR.out _ _).mono ?_
        rintro e w9 ⟨rfl, -, hb9⟩
        have HD9 := Lib.hid (HDD.out.below hb9)
        clear hb9
        go_wp2_with fail
        go_ret
        exact ⟨⟨_, rfl, .inr ⟨rfl, _, rfl⟩⟩, HD9.out⟩
    · have e1 : D.layOk = true := decide_eq_true ⟨h0, h1⟩
      have e2 : D.lay a l = (D.push a l 1).flushed := by unfold Dk.lay; rw [if_neg h0, if_neg h1]
      rw [e1, e2, Bool.not_true, Bool.or_false]
      have hW := (write_good b F D a 1 A c l w.drew h.disk hok (by omega) (by omega) hcm hS (fun _ a' ha' hF => hA a' ha' hF) (by omega) (by omega) h0 : Calls Try.prog _ #[.pointer (some ⟨b, 0, none⟩), .int .i64 a, .slice A 128 c] w.drew _)
      rw [hai] at hW
      have HW := Lib.hid hW
      have hokp := hok.push a l 1 (by omega) (by omega)
      have HFL := Lib.hid (fun F w hD => flush_good b F (D.push a l 1) w hD hokp (by simp only [Dk.push, List.length_append, parts, List.length_map, List.length_range]; omega) (by simp only [Dk.push, nextCalls]; split <;> omega))
      have HST := Lib.hid h
      have HWR := Lib.hid (fun k w => wrap_ok { data := #[107, 101, 121, 115] } k w)
      clear h hS hA hok hokp hfit hq hW
      go_enter Try.func29, Try.ntmps29
      go_wp2_with fail
      refine region_fast [(0, true), (1, true), (2, true), (3, true), (4, true), (5, true), (6, true), (7, true), (8, true), (9, true), (10, true), (11, true), (12, true), (13, true), (14, false), (15, true)] [4, 5, 6, 7, 8, 9, 10, 11, 12, 13] 16368 [(1024, 1, 0, 0), (2048, 1024, 1, 1), (4096, 2048, 2, 3), (8192, 4096, 4, 7), (16384, 1, 0, 0), (32768, 16384, 16, 16), (65536, 32768, 32, 48), (131072, 65536, 64, 112), (262144, 2, 0, 0), (524288, 262144, 256, 256), (1048576, 655360, 640, 1008), (2097152, 4, 0, 0), (4194304, 3145728, 3072, 4080), (8388608, 8, 0, 0), (16777216, 12591104, 12296, 16383), (512, 16777216, 32767, 32767)] (fun W => W.cell? ⟨t, 0, none⟩ = some (.pointer (some ⟨b, 0, none⟩)) ∧ W.cell? ⟨t, 1, none⟩ = some (.int .i64 f)) (by kernel_rfl) (by kernel_rfl) (by kernel_rfl) rfl (by kernel_rfl) (by kernel_rfl) ⟨c0, c1⟩ (fun hS => ?_)
      repeat (first
        | (refine plan_read (v := ?_) rfl (fun _ _ _ h => h) rfl hS ?_ ?_; rotate_left 1; (focus (intro w' hS'; have q0 := hS'.1; have q1 := hS'.2; go_simp; try rfl)); (simp only [Act.put, List.setIfInBounds_toArray]; dsimp only [List.set_cons_zero, List.set_cons_succ]))
        | (refine plan_skip rfl (fun _ _ _ h => h) rfl hS ?_; (simp only [Act.put, List.setIfInBounds_toArray]; dsimp only [List.set_cons_zero, List.set_cons_succ])))
      refine plan_do (by rfl) (by rfl) (fun K hK => ?_)
      go_simp
      refine HW.out.mono ?_
      rintro e w1 ⟨rfl, hto⟩
      obtain ⟨F1, K1, G1, st1, fr1, sub1⟩ := (KSt.diskTo HST.out.drew hto).of_drew
      have HH := Lib.hid (And.intro st1 (And.intro fr1 sub1))
      have d0 : w1.cell? ⟨t, 0, none⟩ = some (.pointer (some ⟨b, 0, none⟩)) := st1.tab.top.cell 0
      have d1 : w1.cell? ⟨t, 1, none⟩ = some (.int .i64 f) := st1.tab.top.cell 1
      clear st1 fr1 sub1 hto c0 c1 HW
      refine hK.out _ _ (fun h => by cases h) (fun _ => ?_); clear hK K; try (simp only [Act.put, List.setIfInBounds_toArray]; dsimp only [List.set_cons_zero, List.set_cons_succ])
      clear hS
      have hS := And.intro d0 d1
      repeat (first
        | (refine plan_read (v := ?_) rfl (fun _ _ _ h => h) rfl hS ?_ ?_; rotate_left 1; (focus (intro w' hS'; have q0 := hS'.1; have q1 := hS'.2; go_simp; try rfl)); (simp only [Act.put, List.setIfInBounds_toArray]; dsimp only [List.set_cons_zero, List.set_cons_succ]))
        | (refine plan_skip rfl (fun _ _ _ h => h) rfl hS ?_; (simp only [Act.put, List.setIfInBounds_toArray]; dsimp only [List.set_cons_zero, List.set_cons_succ])))
      clear hS d1
      refine plan_nil ?_
      go_wp2_with fail
      refine (HFL.out _ _ HH.out.1.disk).mono ?_
      rintro e w2 ⟨rfl, hto2⟩
      obtain ⟨F2, K2, G2, st2, fr2, sub2⟩ := KTo.after HH.out.2.1 HH.out.2.2 (HH.out.1.diskTo hto2)
      have HH2 := Lib.hid (And.intro st2 (And.intro fr2 sub2))
      clear st2 fr2 sub2 hto2 HH HFL d0
      cases dead
      · have c3 : w2.cell? ⟨t, 3, none⟩ = some (.bool false) := HH2.out.1.tab.top.cell 3
        have c3f : w2.frozen? ⟨t, 3, none⟩ = false := HH2.out.1.tab.top.frozen 3
        have HDD := Lib.hid (KTo.after HH2.out.2.1 HH2.out.2.2 (HH2.out.1.die false))
        clear HH2
        go_wp2_with fail
        refine (HWR.out _ _).mono ?_
        rintro e w9 ⟨rfl, rfl⟩
        go_wp2_with fail
        go_ret
        exact ⟨⟨_, rfl, .inl ⟨rfl, rfl⟩⟩, HDD.out⟩
      · have c3 : w2.cell? ⟨t, 3, none⟩ = some (.bool true) := HH2.out.1.tab.top.cell 3
        have c3f : w2.frozen? ⟨t, 3, none⟩ = false := HH2.out.1.tab.top.frozen 3
        have HDD := Lib.hid (KTo.after HH2.out.2.1 HH2.out.2.2 (HH2.out.1.die true))
        clear HH2
        go_wp2_with fail
        refine (HWR.out _ _).mono ?_
        rintro e w9 ⟨rfl, rfl⟩
        go_wp2_with fail
        go_ret
        exact ⟨⟨_, rfl, .inl ⟨rfl, rfl⟩⟩, HDD.out⟩
end Go.Proofs.Ytnlghpopjckhiaa
