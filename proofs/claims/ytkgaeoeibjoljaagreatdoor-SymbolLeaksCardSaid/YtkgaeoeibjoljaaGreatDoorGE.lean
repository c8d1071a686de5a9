/-
  lay.
  shred.
  A key is looked for.
  find; Get.
-/
import Derived.Test.YtkgaeoeibjoljaaGreatDoorGD
import Derived.Test.YtkgaeoeibjoljaaGreatDoorGA
namespace Go.Proofs.YtkgaeoeibjoljaaGreatDoor
section
set_option maxRecDepth 4000
open Go.RowKit
set_option maxHeartbeats 1000000 in
theorem lay_any (t b sg : Nat) (f : Nat) (E : List (Option Ke)) (dead : Bool) (D : Dk) (F K G : Nat -> Prop) (i wh : Nat) (A : Option Addr) (c : Nat) (l : List UInt8) (w : World)
  (h : KSt w t b sg f E dead D F K G) (hok : D.Ok) (hq : D.queue.length <= 1000) (hl : l.length = 128) (hc : 128 <= c) (hcm : c <= maxLen) (hS : Sees w 1 A 128 (u8s l)) (hA : ∀ a, A = some a -> ¬ F a.block)
  (hf : f <= 1000000) (hi : i <= 1000000) (hw : wh <= 1) (hfit : (f + 2 * i + wh + 1) * 128 <= D.safe.length) :
  Calls Tryz.prog 127 #[.pointer (some ⟨t, 0, none⟩), .int .i64 i, .int .i64 wh, .slice A 128 c] w fun e w' => (∃ v, e = .returned v /\ ErrIs D.layOk v) /\ KTo w G t b sg f E (dead || !D.layOk) (D.lay (f + 2 * i + wh) l) w' := by
 have c0 : w.cell? ⟨t, 0, none⟩ = some (.pointer (some ⟨b, 0, none⟩)) := h.tab.top.cell 0
 have c1 : w.cell? ⟨t, 1, none⟩ = some (.int .i64 f) := h.tab.top.cell 1
 have hs1 : IntKind.i64.wrap (2 * (i : Int)) = 2 * (i : Int) := IntWalk.i64_in _ (by omega)
 have hs2 : IntKind.i64.wrap ((f : Int) + 2 * (i : Int)) = (f : Int) + 2 * (i : Int) := IntWalk.i64_in _ (by omega)
 obtain ⟨a, ha⟩ : ∃ a, a = f + 2 * i + wh := ⟨_, rfl⟩
 have hs3 : IntKind.i64.wrap ((f : Int) + 2 * (i : Int) + (wh : Int)) = (a : Int) := by rw [IntWalk.i64_in _ (by omega), ha]; omega
 have hai : (a : Int) = (f : Int) + 2 * (i : Int) + (wh : Int) := by omega
 rw [<- ha] at hfit ⊢
 by_cases h0 : D.calls = 0
 ·have hwe : D.writeE (a : Int) l = 22 := by
   unfold Dk.writeE
   have ht : thereN (a : Int) (l.length / 128) D.size = true := by
    rw [hl]
    unfold thereN thereB Dk.size
    exact decide_eq_true (by omega)
   rw [if_neg (by rw [hl]; decide), if_neg (by rw [ht]; decide), if_pos h0]
  have hW := write_bad b F D a A c l w.drew h.disk hok (by omega) (by rw [hwe]; decide)
  rw [hwe, hl, hai] at hW
  have HW := Lh hW
  have e1 : D.layOk = false := decide_eq_false (fun h => h.1 h0)
  have e2 : D.lay a l = D := if_pos h0
  rw [e1, e2, Bool.not_false, Bool.or_true]
  have HST := Lh h
  have HWR := Lh (fun k w => wrap_no { data := #[107, 101, 121, 115] } k 22 (by decide) w)
  clear h hS hA hok hfit hq hW hwe
  go_enter Tryz.func127, Tryz.ntmps127
  go_wp2_with fail
  refine region_fast [(0, true), (1, true), (2, true), (3, true), (4, true), (5, true), (6, true), (7, true), (8, true), (9, true), (10, true), (11, true), (12, true), (13, true), (14, false), (15, true)] [4, 5, 6, 7, 8, 9, 10, 11, 12, 13] 16368 [(1024, 1, 0, 0), (2048, 1024, 1, 1), (4096, 2048, 2, 3), (8192, 4096, 4, 7), (16384, 1, 0, 0), (32768, 16384, 16, 16), (65536, 32768, 32, 48), (131072, 65536, 64, 112), (262144, 2, 0, 0), (524288, 262144, 256, 256), (1048576, 655360, 640, 1008), (2097152, 4, 0, 0), (4194304, 3145728, 3072, 4080), (8388608, 8, 0, 0), (16777216, 12591104, 12296, 16383), (512, 16777216, 32767, 32767)] (fun W => W.cell? ⟨t, 0, none⟩ = some (.pointer (some ⟨b, 0, none⟩)) /\ W.cell? ⟨t, 1, none⟩ = some (.int .i64 f)) (by kernel_rfl) (by kernel_rfl) (by kernel_rfl) rfl (by kernel_rfl) (by kernel_rfl) ⟨c0, c1⟩ (fun hS => ?_)
  repeat (first
   | (refine plan_read (v := ?_) rfl (fun _ _ _ h => h) rfl hS ?_ ?_; rotate_left 1; (focus (intro w' hS'; have q0 := hS'.1; have q1 := hS'.2; go_simp; try rfl)); (simp only [Act.put, pu1]; dsimp only [pu2, pu3]))
   | (refine plan_skip rfl (fun _ _ _ h => h) rfl hS ?_; (simp only [Act.put, pu1]; dsimp only [pu2, pu3])))
  refine plan_do (by rfl) (by rfl) (fun K hK => ?_)
  go_simp
  refine HW.out.mono ?_
  rintro e w1 ⟨rfl, hto⟩
  obtain ⟨F1, K1, G1, st1, fr1, sub1⟩ := (KSt.diskTo HST.out.drew hto).of_drew
  have HH := Lh (Ai st1 (Ai fr1 sub1))
  have d0 : w1.cell? ⟨t, 0, none⟩ = some (.pointer (some ⟨b, 0, none⟩)) := st1.tab.top.cell 0
  have d1 : w1.cell? ⟨t, 1, none⟩ = some (.int .i64 f) := st1.tab.top.cell 1
  clear st1 fr1 sub1 hto c0 c1 HW
  refine hK.out _ _ (fun h => by cases h) (fun _ => ?_); clear hK K; try (simp only [Act.put, pu1]; dsimp only [pu2, pu3])
  clear hS
  have hS := Ai d0 d1
  repeat (first
   | (refine plan_read (v := ?_) rfl (fun _ _ _ h => h) rfl hS ?_ ?_; rotate_left 1; (focus (intro w' hS'; have q0 := hS'.1; have q1 := hS'.2; go_simp; try rfl)); (simp only [Act.put, pu1]; dsimp only [pu2, pu3]))
   | (refine plan_skip rfl (fun _ _ _ h => h) rfl hS ?_; (simp only [Act.put, pu1]; dsimp only [pu2, pu3])))
  clear hS d1
  refine plan_nil ?_
  clear d0
  cases dead
  ·have c3 : w1.cell? ⟨t, 3, none⟩ = some (.bool false) := HH.out.1.tab.top.cell 3
   have c3f : w1.frozen? ⟨t, 3, none⟩ = false := HH.out.1.tab.top.frozen 3
   have HDD := Lh (KTo.after HH.out.2.1 HH.out.2.2 (HH.out.1.die true))
   clear HH
   go_wp2_with fail
   refine (HWR.out _ _).mono ?_
   rintro e w9 ⟨rfl, -, hb9⟩
   have HD9 := Lh (HDD.out.below hb9)
   clear hb9
   go_wp2_with fail
   go_ret
   exact ⟨⟨_, rfl, .inr ⟨rfl, _, rfl⟩⟩, HD9.out⟩
  ·have c3 : w1.cell? ⟨t, 3, none⟩ = some (.bool true) := HH.out.1.tab.top.cell 3
   have c3f : w1.frozen? ⟨t, 3, none⟩ = false := HH.out.1.tab.top.frozen 3
   have HDD := Lh (KTo.after HH.out.2.1 HH.out.2.2 (HH.out.1.die true))
   clear HH
   go_wp2_with fail
   refine (HWR.out _ _).mono ?_
   rintro e w9 ⟨rfl, -, hb9⟩
   have HD9 := Lh (HDD.out.below hb9)
   clear hb9
   go_wp2_with fail
   go_ret
   exact ⟨⟨_, rfl, .inr ⟨rfl, _, rfl⟩⟩, HD9.out⟩
 ·by_cases h1 : D.calls = 1
  ·have e1 : D.layOk = false := decide_eq_false (fun h => h.2 h1)
   have e2 : D.lay a l = D.push a l 1 := by unfold Dk.lay; rw [if_neg h0, if_pos h1]
   rw [e1, e2, Bool.not_false, Bool.or_true]
   have hW := (write_good b F D a 1 A c l w.drew h.disk hok (by omega) (by omega) hcm hS (fun _ a' ha' hF => hA a' ha' hF) (by omega) (by omega) h0 : Calls Tryz.prog _ #[.pointer (some ⟨b, 0, none⟩), .int .i64 a, .slice A 128 c] w.drew _)
   rw [hai] at hW
   have HW := Lh hW
   have hokp := hok.push a l 1 (by omega) (by omega)
   have HFL := Lh (fun F w hD => flush_bad b F (D.push a l 1) w hD hokp (by simp only [Dk.push, nextCalls]; rw [if_pos (by omega)]; omega))
   have HST := Lh h
   have HWR := Lh (fun k w => wrap_no { data := #[107, 101, 121, 115] } k 22 (by decide) w)
   clear h hS hA hok hokp hfit hq hW
   go_enter Tryz.func127, Tryz.ntmps127
   go_wp2_with fail
   refine region_fast [(0, true), (1, true), (2, true), (3, true), (4, true), (5, true), (6, true), (7, true), (8, true), (9, true), (10, true), (11, true), (12, true), (13, true), (14, false), (15, true)] [4, 5, 6, 7, 8, 9, 10, 11, 12, 13] 16368 [(1024, 1, 0, 0), (2048, 1024, 1, 1), (4096, 2048, 2, 3), (8192, 4096, 4, 7), (16384, 1, 0, 0), (32768, 16384, 16, 16), (65536, 32768, 32, 48), (131072, 65536, 64, 112), (262144, 2, 0, 0), (524288, 262144, 256, 256), (1048576, 655360, 640, 1008), (2097152, 4, 0, 0), (4194304, 3145728, 3072, 4080), (8388608, 8, 0, 0), (16777216, 12591104, 12296, 16383), (512, 16777216, 32767, 32767)] (fun W => W.cell? ⟨t, 0, none⟩ = some (.pointer (some ⟨b, 0, none⟩)) /\ W.cell? ⟨t, 1, none⟩ = some (.int .i64 f)) (by kernel_rfl) (by kernel_rfl) (by kernel_rfl) rfl (by kernel_rfl) (by kernel_rfl) ⟨c0, c1⟩ (fun hS => ?_)
   repeat (first
    | (refine plan_read (v := ?_) rfl (fun _ _ _ h => h) rfl hS ?_ ?_; rotate_left 1; (focus (intro w' hS'; have q0 := hS'.1; have q1 := hS'.2; go_simp; try rfl)); (simp only [Act.put, pu1]; dsimp only [pu2, pu3]))
    | (refine plan_skip rfl (fun _ _ _ h => h) rfl hS ?_; (simp only [Act.put, pu1]; dsimp only [pu2, pu3])))
   refine plan_do (by rfl) (by rfl) (fun K hK => ?_)
   go_simp
   refine HW.out.mono ?_
   rintro e w1 ⟨rfl, hto⟩
   obtain ⟨F1, K1, G1, st1, fr1, sub1⟩ := (KSt.diskTo HST.out.drew hto).of_drew
   have HH := Lh (Ai st1 (Ai fr1 sub1))
   have d0 : w1.cell? ⟨t, 0, none⟩ = some (.pointer (some ⟨b, 0, none⟩)) := st1.tab.top.cell 0
   have d1 : w1.cell? ⟨t, 1, none⟩ = some (.int .i64 f) := st1.tab.top.cell 1
   clear st1 fr1 sub1 hto c0 c1 HW
   refine hK.out _ _ (fun h => by cases h) (fun _ => ?_); clear hK K; try (simp only [Act.put, pu1]; dsimp only [pu2, pu3])
   clear hS
   have hS := Ai d0 d1
   repeat (first
    | (refine plan_read (v := ?_) rfl (fun _ _ _ h => h) rfl hS ?_ ?_; rotate_left 1; (focus (intro w' hS'; have q0 := hS'.1; have q1 := hS'.2; go_simp; try rfl)); (simp only [Act.put, pu1]; dsimp only [pu2, pu3]))
    | (refine plan_skip rfl (fun _ _ _ h => h) rfl hS ?_; (simp only [Act.put, pu1]; dsimp only [pu2, pu3])))
   clear hS d1
   refine plan_nil ?_
   go_wp2_with fail
   refine (HFL.out _ _ HH.out.1.disk).mono ?_
   rintro e w2 ⟨rfl, hto2⟩
   obtain ⟨F2, K2, G2, st2, fr2, sub2⟩ := KTo.after HH.out.2.1 HH.out.2.2 (HH.out.1.diskTo hto2)
   have HH2 := Lh (Ai st2 (Ai fr2 sub2))
   clear st2 fr2 sub2 hto2 HH HFL d0
   cases dead
   ·have c3 : w2.cell? ⟨t, 3, none⟩ = some (.bool false) := HH2.out.1.tab.top.cell 3
    have c3f : w2.frozen? ⟨t, 3, none⟩ = false := HH2.out.1.tab.top.frozen 3
    have HDD := Lh (KTo.after HH2.out.2.1 HH2.out.2.2 (HH2.out.1.die true))
    clear HH2
    go_wp2_with fail
    refine (HWR.out _ _).mono ?_
    rintro e w9 ⟨rfl, -, hb9⟩
    have HD9 := Lh (HDD.out.below hb9)
    clear hb9
    go_wp2_with fail
    go_ret
    exact ⟨⟨_, rfl, .inr ⟨rfl, _, rfl⟩⟩, HD9.out⟩
   ·have c3 : w2.cell? ⟨t, 3, none⟩ = some (.bool true) := HH2.out.1.tab.top.cell 3
    have c3f : w2.frozen? ⟨t, 3, none⟩ = false := HH2.out.1.tab.top.frozen 3
    have HDD := Lh (KTo.after HH2.out.2.1 HH2.out.2.2 (HH2.out.1.die true))
    clear HH2
    go_wp2_with fail
    refine (HWR.out _ _).mono ?_
    rintro e w9 ⟨rfl, -, hb9⟩
    have HD9 := Lh (HDD.out.below hb9)
    clear hb9
    go_wp2_with fail
    go_ret
    exact ⟨⟨_, rfl, .inr ⟨rfl, _, rfl⟩⟩, HD9.out⟩
  ·have e1 : D.layOk = true := decide_eq_true ⟨h0, h1⟩
   have e2 : D.lay a l = (D.push a l 1).flushed := by unfold Dk.lay; rw [if_neg h0, if_neg h1]
   rw [e1, e2, Bool.not_true, Bool.or_false]
   have hW := (write_good b F D a 1 A c l w.drew h.disk hok (by omega) (by omega) hcm hS (fun _ a' ha' hF => hA a' ha' hF) (by omega) (by omega) h0 : Calls Tryz.prog _ #[.pointer (some ⟨b, 0, none⟩), .int .i64 a, .slice A 128 c] w.drew _)
   rw [hai] at hW
   have HW := Lh hW
   have hokp := hok.push a l 1 (by omega) (by omega)
   have HFL := Lh (fun F w hD => flush_good b F (D.push a l 1) w hD hokp (by simp only [Dk.push, List.length_append, parts, List.length_map, List.length_range]; omega) (by simp only [Dk.push, nextCalls]; split <;> omega))
   have HST := Lh h
   have HWR := Lh (fun k w => wrap_ok { data := #[107, 101, 121, 115] } k w)
   clear h hS hA hok hokp hfit hq hW
   go_enter Tryz.func127, Tryz.ntmps127
   go_wp2_with fail
   refine region_fast [(0, true), (1, true), (2, true), (3, true), (4, true), (5, true), (6, true), (7, true), (8, true), (9, true), (10, true), (11, true), (12, true), (13, true), (14, false), (15, true)] [4, 5, 6, 7, 8, 9, 10, 11, 12, 13] 16368 [(1024, 1, 0, 0), (2048, 1024, 1, 1), (4096, 2048, 2, 3), (8192, 4096, 4, 7), (16384, 1, 0, 0), (32768, 16384, 16, 16), (65536, 32768, 32, 48), (131072, 65536, 64, 112), (262144, 2, 0, 0), (524288, 262144, 256, 256), (1048576, 655360, 640, 1008), (2097152, 4, 0, 0), (4194304, 3145728, 3072, 4080), (8388608, 8, 0, 0), (16777216, 12591104, 12296, 16383), (512, 16777216, 32767, 32767)] (fun W => W.cell? ⟨t, 0, none⟩ = some (.pointer (some ⟨b, 0, none⟩)) /\ W.cell? ⟨t, 1, none⟩ = some (.int .i64 f)) (by kernel_rfl) (by kernel_rfl) (by kernel_rfl) rfl (by kernel_rfl) (by kernel_rfl) ⟨c0, c1⟩ (fun hS => ?_)
   repeat (first
    | (refine plan_read (v := ?_) rfl (fun _ _ _ h => h) rfl hS ?_ ?_; rotate_left 1; (focus (intro w' hS'; have q0 := hS'.1; have q1 := hS'.2; go_simp; try rfl)); (simp only [Act.put, pu1]; dsimp only [pu2, pu3]))
    | (refine plan_skip rfl (fun _ _ _ h => h) rfl hS ?_; (simp only [Act.put, pu1]; dsimp only [pu2, pu3])))
   refine plan_do (by rfl) (by rfl) (fun K hK => ?_)
   go_simp
   refine HW.out.mono ?_
   rintro e w1 ⟨rfl, hto⟩
   obtain ⟨F1, K1, G1, st1, fr1, sub1⟩ := (KSt.diskTo HST.out.drew hto).of_drew
   have HH := Lh (Ai st1 (Ai fr1 sub1))
   have d0 : w1.cell? ⟨t, 0, none⟩ = some (.pointer (some ⟨b, 0, none⟩)) := st1.tab.top.cell 0
   have d1 : w1.cell? ⟨t, 1, none⟩ = some (.int .i64 f) := st1.tab.top.cell 1
   clear st1 fr1 sub1 hto c0 c1 HW
   refine hK.out _ _ (fun h => by cases h) (fun _ => ?_); clear hK K; try (simp only [Act.put, pu1]; dsimp only [pu2, pu3])
   clear hS
   have hS := Ai d0 d1
   repeat (first
    | (refine plan_read (v := ?_) rfl (fun _ _ _ h => h) rfl hS ?_ ?_; rotate_left 1; (focus (intro w' hS'; have q0 := hS'.1; have q1 := hS'.2; go_simp; try rfl)); (simp only [Act.put, pu1]; dsimp only [pu2, pu3]))
    | (refine plan_skip rfl (fun _ _ _ h => h) rfl hS ?_; (simp only [Act.put, pu1]; dsimp only [pu2, pu3])))
   clear hS d1
   refine plan_nil ?_
   go_wp2_with fail
   refine (HFL.out _ _ HH.out.1.disk).mono ?_
   rintro e w2 ⟨rfl, hto2⟩
   obtain ⟨F2, K2, G2, st2, fr2, sub2⟩ := KTo.after HH.out.2.1 HH.out.2.2 (HH.out.1.diskTo hto2)
   have HH2 := Lh (Ai st2 (Ai fr2 sub2))
   clear st2 fr2 sub2 hto2 HH HFL d0
   cases dead
   ·have c3 : w2.cell? ⟨t, 3, none⟩ = some (.bool false) := HH2.out.1.tab.top.cell 3
    have c3f : w2.frozen? ⟨t, 3, none⟩ = false := HH2.out.1.tab.top.frozen 3
    have HDD := Lh (KTo.after HH2.out.2.1 HH2.out.2.2 (HH2.out.1.die false))
    clear HH2
    go_wp2_with fail
    refine (HWR.out _ _).mono ?_
    rintro e w9 ⟨rfl, rfl⟩
    go_wp2_with fail
    go_ret
    exact ⟨⟨_, rfl, .inl ⟨rfl, rfl⟩⟩, HDD.out⟩
   ·have c3 : w2.cell? ⟨t, 3, none⟩ = some (.bool true) := HH2.out.1.tab.top.cell 3
    have c3f : w2.frozen? ⟨t, 3, none⟩ = false := HH2.out.1.tab.top.frozen 3
    have HDD := Lh (KTo.after HH2.out.2.1 HH2.out.2.2 (HH2.out.1.die true))
    clear HH2
    go_wp2_with fail
    refine (HWR.out _ _).mono ?_
    rintro e w9 ⟨rfl, rfl⟩
    go_wp2_with fail
    go_ret
    exact ⟨⟨_, rfl, .inl ⟨rfl, rfl⟩⟩, HDD.out⟩
end
section
set_option maxRecDepth 4000
open Go.RowKit
def zer : List UInt8 := List.replicate 128 0
theorem zer_len : zer.length = 128 := by decide
theorem Dk.lay_queue (D : Dk) (a : Nat) (l : List UInt8) : (D.lay a l).queue.length <= D.queue.length + 1 := by
 unfold Dk.lay
 split
 ·omega
 ·split
  ·simp [Dk.push, parts]
  ·simp [Dk.flushed]
theorem Dk.lay_length (D : Dk) (h : D.Ok) (a : Nat) (l : List UInt8) (hl : 128 <= l.length) (ha : (a + 1) * 128 <= D.safe.length) : (D.lay a l).safe.length = D.safe.length := by
 unfold Dk.lay
 split
 ·rfl
 ·split
  ·rfl
  ·have := (h.push a l 1 (by omega) ha).image
   exact this
def Dk.two (D : Dk) (a : Nat) (l : List UInt8) : Dk := if D.layOk then (D.lay a l).lay (a + 1) l else D.lay a l
def Dk.twoOk (D : Dk) (a : Nat) (l : List UInt8) : Bool := D.layOk && (D.lay a l).layOk
set_option maxHeartbeats 1000000 in
theorem shred_one (t b sg : Nat) (f : Nat) (E : List (Option Ke)) (dead : Bool) (D : Dk) (F K G : Nat -> Prop) (i : Nat) (w : World)
  (h : KSt w t b sg f E dead D F K G) (hok : D.Ok) (hq : D.queue.length <= 900) (hf : f <= 1000000) (hi : i <= 1000000) (hfit : (f + 2 * i + 1 + 1) * 128 <= D.safe.length) :
  Calls Tryz.prog 98 #[.pointer (some ⟨t, 0, none⟩), .int .i64 i, .int .i64 1] w fun e w' => (∃ v, e = .returned v /\ ErrIs D.layOk v) /\ KTo w G t b sg f E (dead || !D.layOk) (D.lay (f + 2 * i + 1) zer) w' := by
 have hmk := make_bytes 128 (by omega)
 obtain ⟨Z, hZ⟩ : ∃ z : Array Value, z = (u8s (List.replicate 128 0)).toArray := ⟨_, rfl⟩
 rw [<- hZ] at hmk
 replace hmk : ∀ W : World, (Instr.makeSlice 22 (.int .i64 128) (.int .i64 128)).run Tryz.prog W = .ok (.slice (some ⟨W.heap.size, 0, none⟩) 128 128) (W.alloc (.cells Z 5)) := hmk
 have hal : Below w.heap.size w (w.alloc (.cells Z 5)) := (Below.refl _ _).alloc (Nat.le_refl _) _
 have HL := Lh (lay_any t b sg f E dead D F K G i 1 (some ⟨w.heap.size, 0, none⟩) 128 zer _ (h.below hal) hok (by omega) zer_len (by omega) (by decide)
  (by rw [hZ]; exact sees_mark w 5 (0, 0) (u8s zer) 128 (by rw [length_u8s, zer_len])) (fun a ha hF => by injection ha with ha; subst ha; exact Nat.lt_irrefl _ (h.fin _ hF).2) hf hi (by omega) hfit)
 have HB := Lh hal
 clear h hok hq hfit hal hZ
 generalize D.layOk = ok at *
 generalize D.lay (f + 2 * i + 1) zer = D' at *
 go_enter Tryz.func98, Tryz.ntmps98
 go_wp2_with fail
 refine wp_loop_rounds 2 ?_
 rw [rounds_succ]
 go_wp2_with (simp only [hmk])
 refine HL.out.mono ?_
 rintro e w1 ⟨⟨v, rfl, hv⟩, hto⟩
 have HT := Lh (KTo.after (Fr.of_below HB.out G) (fun _ _ h => h) hto)
 clear hto HL HB
 rcases hv with ⟨rfl, rfl⟩ | ⟨rfl, g, rfl⟩
 ·go_wp2_with fail
  rw [rounds_succ]
  go_wp2_with fail
  go_ret
  exact ⟨⟨_, rfl, .inl ⟨rfl, rfl⟩⟩, HT.out⟩
 ·go_wp2_with fail
  go_ret
  exact ⟨⟨_, rfl, .inr ⟨rfl, g, rfl⟩⟩, HT.out⟩
set_option maxHeartbeats 1000000 in
theorem shred_two (t b sg : Nat) (f : Nat) (E : List (Option Ke)) (dead : Bool) (D : Dk) (F K G : Nat -> Prop) (i : Nat) (w : World)
  (h : KSt w t b sg f E dead D F K G) (hok : D.Ok) (hq : D.queue.length <= 900) (hf : f <= 1000000) (hi : i <= 1000000) (hfit : (f + 2 * i + 1 + 1) * 128 <= D.safe.length) :
  Calls Tryz.prog 98 #[.pointer (some ⟨t, 0, none⟩), .int .i64 i, .int .i64 0] w fun e w' => (∃ v, e = .returned v /\ ErrIs (D.twoOk (f + 2 * i) zer) v) /\ KTo w G t b sg f E (dead || !(D.twoOk (f + 2 * i) zer)) (D.two (f + 2 * i) zer) w' := by
 have q1 : D.queue.length <= 1000 := Nat.le_trans hq (by decide)
 have q2 : (f + 2 * i + 0 + 1) * 128 <= D.safe.length := Nat.le_trans (Nat.mul_le_mul_right _ (by omega)) hfit
 have q3 : (f + 2 * i + 1) * 128 <= D.safe.length := q2
 have hl1 := hok.lay (f + 2 * i) zer (Nat.le_of_eq zer_len.symm) q3
 have hl2 := D.lay_length hok (f + 2 * i) zer (Nat.le_of_eq zer_len.symm) q3
 have hl3 := D.lay_queue (f + 2 * i) zer
 obtain ⟨D', hD'⟩ : ∃ D', D' = D.lay (f + 2 * i) zer := ⟨_, rfl⟩
 unfold Dk.two Dk.twoOk
 rw [<- hD'] at hl1 hl2 hl3 ⊢
 have q4 : D'.queue.length <= 1000 := Nat.le_trans hl3 (Nat.le_trans (Nat.succ_le_succ hq) (by decide))
 have q5 : (f + 2 * i + 1 + 1) * 128 <= D'.safe.length := hl2 ▸ hfit
 have hmk := make_bytes 128 (by omega)
 obtain ⟨Z, hZ⟩ : ∃ z : Array Value, z = (u8s (List.replicate 128 0)).toArray := ⟨_, rfl⟩
 rw [<- hZ] at hmk
 replace hmk : ∀ W : World, (Instr.makeSlice 22 (.int .i64 128) (.int .i64 128)).run Tryz.prog W = .ok (.slice (some ⟨W.heap.size, 0, none⟩) 128 128) (W.alloc (.cells Z 5)) := hmk
 have hal : ∀ W : World, Below W.heap.size W (W.alloc (.cells Z 5)) := fun W => (Below.refl _ _).alloc (Nat.le_refl _) _
 have hLay : ∀ (D : Dk) (dead : Bool) (F K G : Nat -> Prop) (wh : Nat) (w : World), KSt w t b sg f E dead D F K G -> D.Ok -> D.queue.length <= 1000 -> wh <= 1 -> (f + 2 * i + wh + 1) * 128 <= D.safe.length ->
   Calls Tryz.prog 127 #[.pointer (some ⟨t, 0, none⟩), .int .i64 i, .int .i64 wh, .slice (some ⟨w.heap.size, 0, none⟩) 128 128] (w.alloc (.cells Z 5)) fun e w' => (∃ v, e = .returned v /\ ErrIs D.layOk v) /\ KTo (w.alloc (.cells Z 5)) G t b sg f E (dead || !D.layOk) (D.lay (f + 2 * i + wh) zer) w' :=
  fun D dead F K G wh w h hok hq hw hfit => lay_any t b sg f E dead D F K G i wh (some ⟨w.heap.size, 0, none⟩) 128 zer _ (h.below (hal w)) hok hq zer_len (by omega) (by decide)
   (by rw [hZ]; exact sees_mark w 5 (0, 0) (u8s zer) 128 (by rw [length_u8s, zer_len])) (fun a ha hF => by injection ha with ha; subst ha; exact Nat.lt_irrefl _ (h.fin _ hF).2) hf hi hw hfit
 have HAL := Lh hal
 have hL0 := hLay D dead F K G 0 w h hok q1 (Nat.zero_le _) q2
 rw [Nat.add_zero, <- hD'] at hL0
 have HL := Lh hL0
 have HL1 := Lh (fun F K G w h => hLay D' dead F K G 1 w h hl1 q4 (Nat.le_refl _) q5)
 clear hL0 hD' q1 q2 q3 q4 q5 hl1 hl2 hl3
 clear h hok hq hfit hZ hLay hal
 generalize D.layOk = ok at *
 generalize D'.lay (f + 2 * i + 1) zer = D2 at *
 generalize D'.layOk = ok2 at *
 go_enter Tryz.func98, Tryz.ntmps98
 go_wp2_with fail
 refine wp_loop_rounds 3 ?_
 rw [rounds_succ]
 go_wp2_with (simp only [hmk])
 refine HL.out.mono ?_
 rintro e w1 ⟨⟨v, rfl, hv⟩, hto⟩
 have HT := Lh (KTo.after (Fr.of_below (HAL.out _) G) (fun _ _ h => h) hto)
 clear hto HL
 rcases hv with ⟨rfl, rfl⟩ | ⟨rfl, g, rfl⟩
 ·rw [Bool.not_true, Bool.or_false] at HT
  obtain ⟨F1, K1, G1, st1, fr1, sub1⟩ := HT.out
  have HX := Lh (HL1.out F1 K1 G1 w1 st1)
  have H1 := Lh (Ai fr1 sub1)
  clear HT HL1 st1 fr1 sub1
  go_wp2_with fail
  rw [rounds_succ]
  go_wp2_with (simp only [hmk])
  refine HX.out.mono ?_
  rintro e w2 ⟨⟨v, rfl, hv⟩, hto⟩
  have HT := Lh (KTo.after H1.out.1 H1.out.2 (KTo.after (Fr.of_below (HAL.out _) G1) (fun _ _ h => h) hto))
  clear hto HX H1
  rcases hv with ⟨rfl, rfl⟩ | ⟨rfl, g, rfl⟩
  ·go_wp2_with fail
   rw [rounds_succ]
   go_wp2_with fail
   go_ret
   exact ⟨⟨_, rfl, .inl ⟨rfl, rfl⟩⟩, by simpa using HT.out⟩
  ·go_wp2_with fail
   go_ret
   exact ⟨⟨_, rfl, .inr ⟨rfl, g, rfl⟩⟩, by simpa using HT.out⟩
 ·go_wp2_with fail
  go_ret
  exact ⟨⟨_, rfl, .inr ⟨rfl, g, rfl⟩⟩, by simpa using HT.out⟩
end
section
set_option maxRecDepth 4000
open Go.RowKit
def kbk : Option Ke -> Int
 | none => 0
 | some e => e.buck
def kval : Option Ke -> Value
 | none => .slice none 0 0
 | some e => .slice (some ⟨e.g, 0, none⟩) 32 e.cap
def keVal (e : Option Ke) : Value := .agg #[.bool e.isSome, .int .i64 (kbk e), kval e]
theorem keCells_eq (e : Option Ke) : keCells e = [.bool e.isSome, .int .i64 (kbk e), kval e] := by cases e <;> rfl
theorem kcs_get : ∀ {E : List (Option Ke)} {k : Nat} {e : Option Ke}, E[k]? = some e -> ∀ j, j < 3 -> (kcs E)[k * 3 + j]? = (keCells e)[j]?
 | [], k, e, h, j, hj => by simp at h
 | x :: E, 0, e, h, j, hj => by
   injection h with h; subst h
   show (keCells x ++ kcs E)[0 * 3 + j]? = _
   rw [Nat.zero_mul, Nat.zero_add, List.getElem?_append_left (by rw [keCells_length]; exact hj)]
 | x :: E, k + 1, e, h, j, hj => by
   show (keCells x ++ kcs E)[(k + 1) * 3 + j]? = _
   rw [List.getElem?_append_right (by rw [keCells_length]; omega), keCells_length, show (k + 1) * 3 + j - 3 = k * 3 + j by omega]
   exact kcs_get (by simpa using h) j hj
theorem in_ent {w : World} {A : Option Addr} {E : List (Option Ke)} (h : Sees w 3 A E.length (kcs E)) {k : Nat} {e : Option Ke} (hk : E[k]? = some e) :
  ∃ g o, A = some ⟨g, o, none⟩ /\ w.cell? ⟨g, o + k * 3, none⟩ = some (.bool e.isSome) /\ w.cell? ⟨g, o + k * 3 + 1, none⟩ = some (.int .i64 (kbk e)) /\ w.cell? ⟨g, o + k * 3 + 2, none⟩ = some (kval e) := by
 have hkl := (List.getElem?_eq_some_iff.1 hk).1
 obtain ⟨g, o, e', hc⟩ := h.2 (by omega)
 have hg : ∀ j u, j < 3 -> (keCells e)[j]? = some u -> w.cell? ⟨g, o + k * 3 + j, none⟩ = some u := fun j u hj hu => by
  have := hc (k * 3 + j) u (by rw [kcs_get hk j hj]; exact hu)
  rwa [<- Nat.add_assoc] at this
 rw [keCells_eq] at hg
 exact ⟨g, o, e', hg 0 _ (by omega) rfl, hg 1 _ (by omega) rfl, hg 2 _ (by omega) rfl⟩
theorem KAt.sees {w : World} {t b sg : Nat} {from_ : Int} {E : List (Option Ke)} {dead : Bool} {K : Nat -> Prop} (h : KAt w t b sg from_ E dead K) : Sees w 3 (some ⟨sg, 0, none⟩) E.length (kcs E) :=
 ⟨kcs_length E, fun _ => ⟨sg, 0, rfl, fun j u hu => by rw [Nat.zero_add, h.row.cell, List.getElem?_toArray]; exact hu⟩⟩
theorem find1_any (e : Option Ke) (g : Nat) (x : Int) (w : World) (hc : w.cell? ⟨g, 0, none⟩ = some (.int .i64 x)) :
  Calls Tryz.prog 140 #[keVal e, .pointer (some ⟨g, 0, none⟩)] w fun r w' => r = .returned (.bool (decide (e.isSome = true /\ kbk e = x))) /\ Below w.heap.size w w' := by
 unfold keVal
 have hc' : (w.alloc (.cells #[.bool e.isSome, .int .i64 (kbk e), kval e] 160)).cell? ⟨g, 0, none⟩ = some (.int .i64 x) := (World.cell?_of_block (a := ⟨g, 0, none⟩) (Below.heap_alloc w _ g (World.block_lt_of_cell? w _ hc))).trans hc
 generalize kval e = v at *
 generalize kbk e = y at *
 generalize e.isSome = s at *
 cases s
 ·go_enter Tryz.func140, Tryz.ntmps140
  go_wp2_with fail
  go_ret
  exact ⟨ret_bool (by simp), (Below.refl _ _).alloc (Nat.le_refl _) _⟩
 ·go_enter Tryz.func140, Tryz.ntmps140
  go_wp2_with fail
  go_ret
  exact ⟨ret_bool (by first | rfl | (rw [Bool.eq_iff_iff]; simp)), (Below.refl _ _).alloc (Nat.le_refl _) _⟩
theorem put1_any (e : Option Ke) (w : World) :
  Calls Tryz.prog 125 #[keVal e] w fun r w' => r = .returned (.bool (!e.isSome)) /\ Below w.heap.size w w' := by
 unfold keVal
 generalize kval e = v at *
 generalize kbk e = y at *
 generalize e.isSome = s at *
 go_enter Tryz.func125, Tryz.ntmps125
 go_wp2_with fail
 go_ret
 exact ⟨rfl, (Below.refl _ _).alloc (Nat.le_refl _) _⟩
theorem index_find (A : Option Addr) (E : List (Option Ke)) (c : Nat) (g0 : Nat) (x : Int) (w : World) (hst : Sees w 3 A E.length (kcs E)) (hsl : E.length <= 100000) (hc : w.cell? ⟨g0, 0, none⟩ = some (.int .i64 x)) :
  Calls Tryz.prog 124 #[.slice A E.length c, .func (.func 140) #[] #[.pointer (some ⟨g0, 0, none⟩)]] w fun r w' =>
   (∃ r' : Int, r = .returned (.int .i64 r') /\ ((r' = -1 /\ ∀ e ∈ E, ¬ (e.isSome = true /\ kbk e = x)) \/ ∃ (k : Nat) (e : Option Ke), r' = k /\ E[k]? = some e /\ (e.isSome = true /\ kbk e = x))) /\ Below w.heap.size w w' := by
 have H := Lh (Ai hst hc); clear hst hc
 go_enter Tryz.func124, Tryz.ntmps124
 go_wp2_with fail
 go_loopw [5, 8] (fun _ i wr => ∃ j : Nat, i = .int .i64 j /\ j <= E.length /\ Hid ((∀ i e, i < j -> E[i]? = some e -> ¬ (e.isSome = true /\ kbk e = x)) /\ Below w.heap.size w wr)) (fun _ i _ => E.length - (intOf i).toNat)
 case atStart => exact ⟨0, rfl, Nat.zero_le _, Lh ⟨fun i e hi => by omega, Below.refl _ _⟩⟩
 case round =>
  obtain ⟨j, rfl, hj, hr⟩ := hrel
  by_cases hlt : j < E.length
  ·have hget : E[j]? = some (E[j]'hlt) := List.getElem?_eq_getElem hlt
   generalize E[j] = e at hget
   obtain ⟨g, o, rfl, q0, q1, q2⟩ := in_ent (H.out.1.below hr.out.2) hget
   have hcw : wr.cell? ⟨g0, 0, none⟩ = some (.int .i64 x) := (World.cell?_of_block (a := ⟨g0, 0, none⟩) (hr.out.2.block g0 (World.block_lt_of_cell? _ _ H.out.2))).trans H.out.2
   have HS := Lh (find1_any e g0 x wr hcw)
   have HG := Lh hget
   have HRR := Lh hr.out
   unfold keVal at HS
   clear hget hr hcw
   by_cases he : e.isSome = true /\ kbk e = x
   ·have HD := Lh (decide_eq_true he : _ = true)
    have HE := Lh he; clear he
    rw [HD.out] at HS
    have HF : Hid (∃ (k : Nat) (e : Option Ke), (j : Int) = k /\ E[k]? = some e /\ (e.isSome = true /\ kbk e = x)) := Lh ⟨j, e, rfl, HG.out, HE.out⟩
    clear HE HG HD
    generalize e.isSome = b0 at *
    generalize kbk e = b1 at *
    generalize kval e = b2 at *
    go_wp2_with fail
    refine HS.out.mono ?_
    rintro e' w3 ⟨rfl, b3⟩
    go_wp2_with fail
    go_ret
    exact ⟨⟨j, rfl, .inr HF.out⟩, HRR.out.2.trans (b3.mono HRR.out.2.size)⟩
   ·have HD := Lh (decide_eq_false he : _ = false)
    have HE := Lh he; clear he
    rw [HD.out] at HS
    have HR3 : Hid (∀ w3, Below wr.heap.size wr w3 -> (∀ i z, i < j + 1 -> E[i]? = some z -> ¬ (z.isSome = true /\ kbk z = x)) /\ Below w.heap.size w w3) := Lh fun w3 b3 => ⟨fun i z hi hz => by
     rcases Nat.lt_or_ge i j with h1 | h1
     ·exact HRR.out.1 i z h1 hz
     ·obtain rfl : i = j := by omega
      rw [HG.out] at hz
      injection hz with hz
      subst hz
      exact HE.out, HRR.out.2.trans (b3.mono HRR.out.2.size)⟩
    clear HRR HE HG HD
    generalize e.isSome = b0 at *
    generalize kbk e = b1 at *
    generalize kval e = b2 at *
    go_wp2_with fail
    refine HS.out.mono ?_
    rintro e' w3 ⟨rfl, b3⟩
    have HR4 := Lh (HR3.out w3 b3)
    clear b3
    go_wp2_with fail
    go_roundw
    case rel => exact ⟨j + 1, by go_num, by omega, HR4⟩
    case measure => simp [intOf]; omega
  ·obtain rfl : j = E.length := by omega
   go_wp2_with fail
   go_ret
   refine ⟨⟨-1, rfl, .inl ⟨rfl, fun y hy => ?_⟩⟩, hr.out.2⟩
   obtain ⟨i, hi, e⟩ := List.mem_iff_getElem.1 hy
   exact hr.out.1 i y hi (by rw [List.getElem?_eq_getElem hi, e])
theorem index_free (A : Option Addr) (E : List (Option Ke)) (c : Nat) (w : World) (hst : Sees w 3 A E.length (kcs E)) (hsl : E.length <= 100000) :
  Calls Tryz.prog 124 #[.slice A E.length c, .func (.func 125) #[] #[]] w fun r w' =>
   (∃ r' : Int, r = .returned (.int .i64 r') /\ ((r' = -1 /\ ∀ e ∈ E, ¬ (e.isSome = false)) \/ ∃ (k : Nat) (e : Option Ke), r' = k /\ E[k]? = some e /\ (e.isSome = false))) /\ Below w.heap.size w w' := by
 have H := Lh (Ai hst trivial); clear hst
 go_enter Tryz.func124, Tryz.ntmps124
 go_wp2_with fail
 go_loopw [5, 8] (fun _ i wr => ∃ j : Nat, i = .int .i64 j /\ j <= E.length /\ Hid ((∀ i e, i < j -> E[i]? = some e -> ¬ (e.isSome = false)) /\ Below w.heap.size w wr)) (fun _ i _ => E.length - (intOf i).toNat)
 case atStart => exact ⟨0, rfl, Nat.zero_le _, Lh ⟨fun i e hi => by omega, Below.refl _ _⟩⟩
 case round =>
  obtain ⟨j, rfl, hj, hr⟩ := hrel
  by_cases hlt : j < E.length
  ·have hget : E[j]? = some (E[j]'hlt) := List.getElem?_eq_getElem hlt
   generalize E[j] = e at hget
   obtain ⟨g, o, rfl, q0, q1, q2⟩ := in_ent (H.out.1.below hr.out.2) hget
   have HS := Lh (put1_any e wr)
   have HG := Lh hget
   have HRR := Lh hr.out
   unfold keVal at HS
   clear hget hr
   by_cases he : e.isSome = false
   ·have HD := Lh (show (!e.isSome) = true by rw [he]; rfl)
    have HE := Lh he; clear he
    rw [HD.out] at HS
    have HF : Hid (∃ (k : Nat) (e : Option Ke), (j : Int) = k /\ E[k]? = some e /\ (e.isSome = false)) := Lh ⟨j, e, rfl, HG.out, HE.out⟩
    clear HE HG HD
    generalize e.isSome = b0 at *
    generalize kbk e = b1 at *
    generalize kval e = b2 at *
    go_wp2_with fail
    refine HS.out.mono ?_
    rintro e' w3 ⟨rfl, b3⟩
    go_wp2_with fail
    go_ret
    exact ⟨⟨j, rfl, .inr HF.out⟩, HRR.out.2.trans (b3.mono HRR.out.2.size)⟩
   ·have HD := Lh (show (!e.isSome) = false by cases h : e.isSome with | true => rfl | false => exact absurd h he)
    have HE := Lh he; clear he
    rw [HD.out] at HS
    have HR3 : Hid (∀ w3, Below wr.heap.size wr w3 -> (∀ i z, i < j + 1 -> E[i]? = some z -> ¬ (z.isSome = false)) /\ Below w.heap.size w w3) := Lh fun w3 b3 => ⟨fun i z hi hz => by
     rcases Nat.lt_or_ge i j with h1 | h1
     ·exact HRR.out.1 i z h1 hz
     ·obtain rfl : i = j := by omega
      rw [HG.out] at hz
      injection hz with hz
      subst hz
      exact HE.out, HRR.out.2.trans (b3.mono HRR.out.2.size)⟩
    clear HRR HE HG HD
    generalize e.isSome = b0 at *
    generalize kbk e = b1 at *
    generalize kval e = b2 at *
    go_wp2_with fail
    refine HS.out.mono ?_
    rintro e' w3 ⟨rfl, b3⟩
    have HR4 := Lh (HR3.out w3 b3)
    clear b3
    go_wp2_with fail
    go_roundw
    case rel => exact ⟨j + 1, by go_num, by omega, HR4⟩
    case measure => simp [intOf]; omega
  ·obtain rfl : j = E.length := by omega
   go_wp2_with fail
   go_ret
   refine ⟨⟨-1, rfl, .inl ⟨rfl, fun y hy => ?_⟩⟩, hr.out.2⟩
   obtain ⟨i, hi, e⟩ := List.mem_iff_getElem.1 hy
   exact hr.out.1 i y hi (by rw [List.getElem?_eq_getElem hi, e])
end
section
set_option maxRecDepth 4000
open Go.RowKit
def Found (E : List (Option Ke)) (x r : Int) : Prop := (r = -1 /\ ∀ e, some e ∈ E -> e.buck ≠ x) \/ ∃ (k : Nat) (e : Ke), r = k /\ E[k]? = some (some e) /\ e.buck = x
theorem kfind_any (t b sg : Nat) (f : Int) (E : List (Option Ke)) (dead : Bool) (K : Nat -> Prop) (x : Int) (w : World) (h : KAt w t b sg f E dead K) (hl : E.length <= 1000) :
  Calls Tryz.prog 97 #[.pointer (some ⟨t, 0, none⟩), .int .i64 x] w fun e w' => (∃ r, e = .returned (.int .i64 r) /\ Found E x r) /\ Below w.heap.size w w' := by
 have hb := (Below.refl w.heap.size w).alloc (Nat.le_refl _) (.cells #[.int .i64 x] 3)
 have h1 := h.below hb
 have c2 : (w.alloc (.cells #[.int .i64 x] 3)).cell? ⟨t, 2, none⟩ = some (.slice (some ⟨sg, 0, none⟩) E.length E.length) := h1.top.cell 2
 have HI := Lh (index_find (some ⟨sg, 0, none⟩) E E.length w.heap.size x _ h1.sees (by omega) ((Blk.new w 3 #[.int .i64 x]).cell 0))
 have HB := Lh hb
 clear h h1 hb
 go_enter Tryz.func97, Tryz.ntmps97
 go_wp2_with fail
 refine HI.out.mono ?_
 rintro e w1 ⟨⟨r, rfl, hr⟩, hb1⟩
 have HF : Hid (Found E x r) := Lh (by
  rcases hr with ⟨rfl, hno⟩ | ⟨k, e, rfl, hk, h1, h2⟩
  ·exact .inl ⟨rfl, fun e he hx => hno _ he ⟨rfl, hx⟩⟩
  ·match e, h1, h2, hk with
   | some e, _, h2, hk => exact .inr ⟨k, e, rfl, hk, h2⟩)
 have HB1 := Lh (HB.out.trans (hb1.mono HB.out.size))
 clear hr hb1 HI c2
 go_wp2_with fail
 go_ret
 exact ⟨⟨r, rfl, HF.out⟩, HB1.out⟩
set_option maxHeartbeats 1000000 in
theorem get_any (t b sg : Nat) (f : Int) (E : List (Option Ke)) (dead : Bool) (K : Nat -> Prop) (x : Int) (w : World) (h : KAt w t b sg f E dead K) (hl : E.length <= 1000) :
  Calls Tryz.prog 58 #[.pointer (some ⟨t, 0, none⟩), .int .i64 x] w fun e w' => Below w.heap.size w w' /\
   ((e = .returned (.tuple #[.slice none 0 0, .bool false]) /\ ∀ e, some e ∈ E -> e.buck ≠ x) \/ ∃ (v : Value) (k : Nat) (e' : Ke), e = .returned (.tuple #[v, .bool true]) /\ E[k]? = some (some e') /\ e'.buck = x /\ w'.ownsRow w.heap.size 5 1 v 32 (u8s e'.key)) := by
 have HF := Lh (kfind_any t b sg f E dead K x w h hl)
 have H := Lh h; clear h
 go_enter Tryz.func58, Tryz.ntmps58
 go_wp2_with fail
 refine HF.out.mono ?_
 rintro e w1 ⟨⟨r, rfl, hr⟩, hb1⟩
 have HT := Lh (Ai (H.out.below hb1) hb1)
 clear H hb1 HF
 rcases hr with ⟨rfl, hno⟩ | ⟨k, e, rfl, hk, hx⟩
 ·go_wp2_with fail
  go_ret2
  exact ⟨HT.out.2, .inl ⟨rfl, hno⟩⟩
 ·have hkl := (List.getElem?_eq_some_iff.1 hk).1
  obtain ⟨g, o, e1, q0, q1, q2⟩ := in_ent HT.out.1.sees hk
  injection e1 with e1
  injection e1 with e1 e2
  subst e1
  subst e2
  have c2 : w1.cell? ⟨t, 2, none⟩ = some (.slice (some ⟨sg, 0, none⟩) E.length E.length) := HT.out.1.top.cell 2
  replace q2 : w1.cell? ⟨sg, 0 + k * 3 + 2, none⟩ = some (.slice (some ⟨e.g, 0, none⟩) 32 e.cap) := q2
  rw [Nat.zero_add] at q2
  obtain ⟨ow, -, -⟩ := HT.out.1.keys e (List.mem_of_getElem? hk)
  have HC := Lh (clone_any ⟨e.g, 0, none⟩ 32 e.cap _ w1 (Sees.of_own ow) (u8s_one _) (by omega))
  have HE := Lh (Ai hk hx)
  clear q0 q1 ow hk hx
  go_wp2_with fail
  refine HC.out.mono ?_
  rintro e' w2 ⟨v, rfl, ho, hb2⟩
  have H2 := Lh (Ai ho (HT.out.2.trans (hb2.mono HT.out.2.size)))
  have hsz := HT.out.2.size
  clear ho hb2
  go_wp2_with fail
  go_ret2
  exact ⟨H2.out.2, .inr ⟨v, k, e, rfl, HE.out.1, HE.out.2, own_base H2.out.1 hsz⟩⟩
end
end Go.Proofs.YtkgaeoeibjoljaaGreatDoor
