/-
  Flush, of a log whose disk's power goes.
  A run's Flush and Shred, whatever the power.
  A run's disk, its Crash and Kept.
-/
import Derived.Test.YtkgaeoeibjoljaaGreatDoorGO
import Derived.Test.YtkgaeoeibjoljaaGreatDoorHH
import Derived.Test.YtkgaeoeibjoljaaGreatDoorHC
import Derived.Test.YtkgaeoeibjoljaaGreatDoorGH
namespace Go.Proofs.YtkgaeoeibjoljaaGreatDoor
section
set_option maxRecDepth 4000
open Go.RowKit
set_option maxHeartbeats 8000000 in
theorem flush_dead0 {w : World} {lb b f : Nat} {s : Lg} {bg cB : Nat} {A : Option Addr} {cT : Nat} {C : Option Addr} {cC : Nat} {vs : List Pt} {Kl F : Nat -> Prop} {D : Dk} (h : LD w lb b f s bg cB A cT C cC vs Kl D F) (hok : s.Ok) (hd : s.dead = false) (hs : s.sure ≠ s.texts.length) (hce : s.clean < s.end_) (hDk : D.Ok) (hc : D.calls = 0) (hq : D.queue.length <= 1000000) (hf : f <= 1000000) (hfit : (f + s.segs * s.size) * 128 <= D.safe.length) :
  Calls Tryz.prog 55 #[.pointer (some ⟨lb, 0, none⟩)] w fun e w' => (∃ g, e = .returned (.iface 110 (.pointer (some ⟨g, 0, none⟩)))) /\ ∃ F', LD w' lb b f { s with dead := true } bg cB A cT C cC vs Kl D F' /\ Fr (fun k => F k \/ Kl k) w w' /\ ∀ k, k < w.heap.size -> F' k -> F k := by
 have hal := hok.all_le
 have hel := hok.end_le
 have hsure := hok.sure
 have hmany := hok.many
 obtain ⟨T, hT⟩ : ∃ T, T = s.texts.length := ⟨_, rfl⟩
 obtain ⟨su, hSU⟩ : ∃ T, T = s.sure := ⟨_, rfl⟩
 obtain ⟨cl, hCL⟩ : ∃ T, T = s.clean := ⟨_, rfl⟩
 obtain ⟨E, hE⟩ : ∃ E, E = s.end_ := ⟨_, rfl⟩
 obtain ⟨L, hL⟩ : ∃ L, L = s.B.length := ⟨_, rfl⟩
 obtain ⟨a, ha⟩ : ∃ a, a = s.first := ⟨_, rfl⟩
 obtain ⟨z, hz⟩ : ∃ z, z = s.behind := ⟨_, rfl⟩
 have hLa : L = s.all := by rw [hL, hok.oct]
 have ha' : cl / 128 = a := by rw [ha, hCL]; rfl
 have hz' : (E + 127) / 128 = z := by rw [hz, hE]; rfl
 have hLP : L = (s.segs * s.size) * 128 := by rw [hLa]; unfold Lg.all Lg.n; rw [Nat.mul_assoc]
 rw [<- hE, <- hLa] at hel
 rw [<- hCL, <- hE] at hce
 rw [<- hLa] at hal
 have hnew : s.new = (s.B.drop (a * 128)).take ((z - a) * 128) := by rw [ha, hz]; rfl
 have hHE := fun W (hW : LgP W lb b f s bg cB A cT C cC vs Kl) => hE ▸ end_log hW hok
 have HE := Lh hHE
 obtain ⟨g, cap, cur, hv, -, hbl0, hcap1, hcap2, -⟩ := own_open h.log.oct (by have := hok.n_le; have := hok.all_le; rw [hok.oct]; omega)
 injection hv with hv1 hv2 hv3
 injection hv1 with hv1
 injection hv1 with hv1 _ _
 subst hv1
 subst hv3
 rw [<- hL] at hcap1
 have hcm := hcap2
 unfold maxLen at hcap2
 have hzL : z * 128 <= L := by
  have : z <= s.segs * s.size := by omega
  omega
 have haz : a < z := by omega
 have hal2 : (z - a) * 128 = z * 128 - a * 128 := by rw [Nat.sub_mul]
 have hnl : s.new.length = (z - a) * 128 := by rw [hnew, List.length_take, List.length_drop, <- hL]; omega
 have hpok : (D.pushed f s).Ok := by
  unfold Dk.pushed
  refine hDk.push _ _ _ (by rw [hnl, <- ha, <- hz]; exact Nat.le_refl _) ?_
  rw [<- ha, <- hz]
  refine Nat.le_trans (Nat.mul_le_mul_right _ ?_) hfit
  omega
 have HW : Hid (∀ (W : World), LD W lb b f s bg cB A cT C cC vs Kl D F -> Calls Tryz.prog 95 #[.pointer (some ⟨b, 0, none⟩), .int .i64 ((f : Int) + (a : Int)), .slice (some ⟨bg, a * 128, none⟩) (z * 128 - a * 128) (cB - a * 128)] W fun e w' => e = .returned (.int .i64 22) /\ DiskTo W b F D w') := Lh (by
  intro W hW
  have hws : D.writeE ((f : Int) + (a : Int)) s.new = 22 := by
   have hwh := hDk.whole
   have h1 : ¬ (s.new.length % 128 ≠ 0) := by rw [hnl]; omega
   have h2 : thereN ((f : Int) + (a : Int)) (s.new.length / 128) D.size = true := by
    unfold thereN thereB Dk.size
    rw [decide_eq_true_iff, hnl]
    omega
   unfold Dk.writeE
   rw [if_neg h1, if_neg (by rw [h2]; decide), if_pos hc]
  have := write_bad b F D ((f : Int) + (a : Int)) (some ⟨bg, a * 128, none⟩) (cB - a * 128) s.new W hW.disk hDk (by rw [hnl]; omega) (by rw [hws]; decide)
  rw [hws, hnl, hal2] at this
  exact this)
 have HH := Lh (Ai h hok)
 have HD := Lh hd
 have HN := Lh (Ai hT (Ai hSU (Ai hCL (Ai hE hL))))
 have c12 : w.cell? ⟨lb, 12, none⟩ = some (.bool false) := by rw [<- hd]; exact h.log.top.cell 12
 have hsT : ((su : Int) == (T : Int)) = false := by rw [beq_eq_false_iff_ne, hSU, hT]; omega
 have hsN : ¬ su = T := by rw [hSU, hT]; exact hs
 have hTb : T <= 100000000 := by rw [hT]; exact hmany
 have hsb : su <= 100000000 := by rw [hSU]; exact hsure
 have haL : a * 128 <= z * 128 := by omega
 have hac : ¬ cB = a * 128 := by omega
 have hzc : z * 128 <= cB := by omega
 have hai : (cl : Int) / 128 = (a : Int) := by omega
 have hzi : ((E : Int) + 128 - 1).tdiv 128 = (z : Int) := by rw [Int.tdiv_eq_ediv_of_nonneg (by omega)]; omega
 have hwa0 : IntKind.i64.wrap (a : Int) = (a : Int) := IntWalk.i64_in _ (by omega)
 have hwz0 : IntKind.i64.wrap (z : Int) = (z : Int) := IntWalk.i64_in _ (by omega)
 have hw1 : IntKind.i64.wrap ((E : Int) + 128) = (E : Int) + 128 := IntWalk.i64_in _ (by omega)
 have hw2 : IntKind.i64.wrap ((E : Int) + 128 - 1) = (E : Int) + 128 - 1 := IntWalk.i64_in _ (by omega)
 have hfa : IntKind.i64.wrap ((f : Int) + (a : Int)) = (f : Int) + (a : Int) := IntWalk.i64_in _ (by omega)
 have hwa : IntKind.i64.wrap ((a : Int) * 128) = (a : Int) * 128 := IntWalk.i64_in _ (by omega)
 have hwz : IntKind.i64.wrap ((z : Int) * 128) = (z : Int) * 128 := IntWalk.i64_in _ (by omega)
 have hti : ((a : Int) * 128).toNat = a * 128 := by omega
 have htz : ((z : Int) * 128).toNat = z * 128 := by omega
 have h0a : 0 <= (a : Int) * 128 := by omega
 have h0z : 0 <= (z : Int) * 128 := by omega
 have hla : (a : Int) * 128 <= (z : Int) * 128 := by omega
 have hlz : (z : Int) * 128 <= (cB : Int) := by omega
 have hnz : ¬ z < a := by omega
 have hmx : max ((z : Int) * 128) 0 = (z : Int) * 128 := by omega
 clear h hok hd hs hDk hc hq hfit hT hSU hCL hE hL ha hz hLa hHE hnew hal hmany hsure hpok hnl ha' hz' hLP
 go_enter Tryz.func55, Tryz.ntmps55
 go_wp2_with fail
 have H0 := Lh (HH.out.1.below (Below.refl _ _).drew)
 refine region_fast [(0, true), (1, true), (2, true), (3, true), (4, true), (5, true), (6, true), (7, true), (8, true), (9, true), (10, true)] [4, 5, 6, 7, 8] 496 [(16384, 1, 0, 0), (32768, 16384, 1, 1), (65536, 32768, 2, 3), (131072, 65536, 4, 7), (262144, 1, 0, 0), (524288, 262144, 16, 16), (1048576, 524288, 32, 48), (2097152, 1048576, 64, 112), (4194304, 2097152, 128, 240), (8388608, 4325376, 264, 511), (8192, 8388608, 512, 1023)] (fun W => W = w.drew) (by kernel_rfl) (by kernel_rfl) (by kernel_rfl) rfl (by kernel_rfl) (by kernel_rfl) rfl (fun hS => ?_)
 repeat (first
  | (refine plan_read (v := ?_) rfl (fun _ _ _ h => h) rfl hS ?_ ?_; rotate_left 1; (focus (intro w' hS'; subst hS'; have e8 : w.drew.cell? ⟨lb, 8, none⟩ = some (.slice A T cT) := (by rw [HN.out.1]; exact H0.out.log.top.cell 8); have e10 : w.drew.cell? ⟨lb, 10, none⟩ = some (.int .i64 su) := (by rw [HN.out.2.1]; exact H0.out.log.top.cell 10); go_simp; try rfl)); (simp only [Act.put, pu1]; dsimp only [pu2, pu3]))
  | (refine plan_skip rfl (fun _ _ _ h => h) rfl hS ?_; (simp only [Act.put, pu1]; dsimp only [pu2, pu3])))
 refine plan_nil ?_
 clear c12
 go_wp2_with fail
 have H1 := Lh (H0.out.below (Below.refl _ _).drew)
 refine region_fast [(0, true), (1, true), (2, true), (3, true), (4, true), (5, true), (6, false), (7, true), (8, true), (9, true), (10, true), (11, true)] [5, 6, 7, 8, 9, 10] 2016 [(16777216, 1, 0, 0), (33554432, 16777216, 1, 1), (67108864, 33554432, 2, 3), (134217728, 67108864, 4, 7), (268435456, 134217728, 8, 15), (536870912, 1, 0, 0), (1073741824, 536870912, 32, 32), (2147483648, 1073741824, 64, 96), (4294967296, 2147483648, 128, 224), (8589934592, 4294967296, 256, 480), (8, 268435456, 95, 127), (16, 8589934592, 2047, 2047)] (fun W => LD W lb b f s bg cB A cT C cC vs Kl D F /\ Below w.heap.size w W) (by kernel_rfl) (by kernel_rfl) (by kernel_rfl) rfl (by kernel_rfl) (by kernel_rfl) ⟨H1.out, ((Below.refl _ _).drew).drew⟩ (fun hS => ?_)
 repeat (first
  | (refine plan_read (v := ?_) rfl (fun _ _ _ h => h) rfl hS ?_ ?_; rotate_left 1; (focus (intro w' hS'; have e7 : w'.cell? ⟨lb, 7, none⟩ = some (.int .i64 cl) := (by rw [HN.out.2.2.1]; exact hS'.1.log.top.cell 7); go_simp; try rfl)); (simp only [Act.put, pu1]; dsimp only [pu2, pu3]))
  | (refine plan_skip rfl (fun _ _ _ h => h) rfl hS ?_; (simp only [Act.put, pu1]; dsimp only [pu2, pu3])))
 refine plan_do (by rfl) (by rfl) (fun K hK => ?_)
 go_simp
 refine (HE.out _ hS.1.log).mono ?_
 rintro e w1 ⟨rfl, bel1⟩
 refine hK.out _ _ (fun _ => ⟨hS.1.below bel1, hS.2.trans (bel1.mono hS.2.size)⟩) (fun hS => ?_); clear hK K; replace hS := hS rfl; try (simp only [Act.put, pu1]; dsimp only [pu2, pu3])
 repeat (first
  | (refine plan_read (v := ?_) rfl (fun _ _ _ h => h) rfl hS ?_ ?_; rotate_left 1; (focus (intro w' hS'; have e7 : w'.cell? ⟨lb, 7, none⟩ = some (.int .i64 cl) := (by rw [HN.out.2.2.1]; exact hS'.1.log.top.cell 7); go_simp; try rfl)); (simp only [Act.put, pu1]; dsimp only [pu2, pu3]))
  | (refine plan_skip rfl (fun _ _ _ h => h) rfl hS ?_; (simp only [Act.put, pu1]; dsimp only [pu2, pu3])))
 refine plan_nil ?_
 have H2 := Lh (Ai (hS.1.below (Below.refl _ _).drew) hS.2.drew)
 clear hS bel1
 go_wp2_with fail
 refine region_fast [(0, true), (1, true), (2, true), (3, true), (4, true), (5, true), (6, true), (7, true), (8, true), (9, true), (10, true), (11, true), (12, true), (13, true), (14, true), (15, true), (16, true), (17, true), (18, true), (19, true), (20, true), (21, false), (22, true)] [5, 6, 7, 8, 9, 10, 11, 12, 13, 14, 15, 16, 17, 18, 19, 20] 2097120 [(17179869184, 1, 0, 0), (34359738368, 17179869184, 1, 1), (68719476736, 34359738368, 2, 3), (137438953472, 68719476736, 4, 7), (274877906944, 137438953472, 8, 15), (549755813888, 1, 0, 0), (1099511627776, 549755813888, 32, 32), (2199023255552, 1099511627776, 64, 96), (4398046511104, 2199023255552, 128, 224), (8796093022208, 4398046511104, 256, 480), (17592186044416, 8, 0, 0), (35184372088832, 26388279066624, 1536, 2016), (70368744177664, 1, 0, 0), (140737488355328, 70368744177664, 4096, 4096), (281474976710656, 140737488355328, 8192, 12288), (562949953421312, 281474976710656, 16384, 28672), (1125899906842624, 8, 0, 0), (2251799813685248, 1125899906842624, 65536, 65536), (4503599627370496, 16, 0, 0), (9007199254740992, 4503599627370496, 262144, 262144), (18014398509481984, 11821949021847552, 688128, 1044480), (36028797018963968, 18049857759477760, 1050640, 2097151), (32, 36028797018963968, 4194303, 4194303)] (fun W => W.cell? ⟨lb, 0, none⟩ = some (.pointer (some ⟨b, 0, none⟩)) /\ W.cell? ⟨lb, 1, none⟩ = some (.int .i64 f) /\ W.cell? ⟨lb, 4, none⟩ = some (.slice (some ⟨bg, 0, none⟩) L cB)) (by kernel_rfl) (by kernel_rfl) (by kernel_rfl) rfl (by kernel_rfl) (by kernel_rfl) ⟨H2.out.1.log.top.cell 0, H2.out.1.log.top.cell 1, by rw [HN.out.2.2.2.2]; exact H2.out.1.log.top.cell 4⟩ (fun hS => ?_)
 iterate 20 (first
  | (refine plan_read (v := ?_) rfl (fun _ _ _ h => h) rfl hS ?_ ?_; rotate_left 1; (focus (intro w' hS'; have e0 := hS'.1; have e1 := hS'.2.1; have e4 := hS'.2.2; go_simp; try rfl)); (simp only [Act.put, pu1]; dsimp only [pu2, pu3]))
  | (refine plan_skip rfl (fun _ _ _ h => h) rfl hS ?_; (simp only [Act.put, pu1]; dsimp only [pu2, pu3])))
 refine plan_read (v := Value.slice (some ⟨bg, a * 128, none⟩) (z * 128 - a * 128) (cB - a * 128)) rfl (fun _ _ _ h => h) rfl hS ?_ ?_; (focus (intro w' hS'; go_simp; first | done | simp [hti, htz, h0a, h0z, hla, hlz, hac, hmx, hnz] | (simp; omega))); (simp only [Act.put, pu1]; dsimp only [pu2, pu3])
 refine plan_do (by rfl) (by rfl) (fun K hK => ?_)
 go_simp
 refine (HW.out _ H2.out.1).mono ?_
 rintro e w3 ⟨rfl, hd⟩
 obtain ⟨F3, l3, f3, s3⟩ := H2.out.1.move hd
 have H4 := Lh (Ai l3 (Ai f3 s3))
 clear hS
 have hS := Ai (l3.log.top.cell 0 : w3.cell? ⟨lb, 0, none⟩ = some (.pointer (some ⟨b, 0, none⟩))) (Ai (l3.log.top.cell 1 : w3.cell? ⟨lb, 1, none⟩ = some (.int .i64 f)) (by rw [HN.out.2.2.2.2]; exact l3.log.top.cell 4 : w3.cell? ⟨lb, 4, none⟩ = some (.slice (some ⟨bg, 0, none⟩) L cB)))
 clear hd l3 f3 s3
 refine hK.out _ _ (fun h => by cases h) (fun _ => ?_); clear hK K; try (simp only [Act.put, pu1]; dsimp only [pu2, pu3])
 repeat (first
  | (refine plan_read (v := ?_) rfl (fun _ _ _ h => h) rfl hS ?_ ?_; rotate_left 1; (focus (intro w' hS'; go_simp; try rfl)); (simp only [Act.put, pu1]; dsimp only [pu2, pu3]))
  | (refine plan_skip rfl (fun _ _ _ h => h) rfl hS ?_; (simp only [Act.put, pu1]; dsimp only [pu2, pu3])))
 refine plan_nil ?_
 clear hS
 have c12' : w3.cell? ⟨lb, 12, none⟩ = some (.bool false) := by rw [<- HD.out]; exact H4.out.1.log.top.cell 12
 have f12 : w3.frozen? ⟨lb, 12, none⟩ = false := H4.out.1.log.top.frozen 12
 have b6 : Blk (w3.setCell ⟨lb, 12, none⟩ (.bool true)) lb 150 (lgc b f s.segs s.size (.slice (some ⟨bg, 0, none⟩) s.B.length cB) s.last s.used s.clean (.slice A s.texts.length cT) (.slice C 32 cC) s.sure s.sealed_ true) := H4.out.1.log.top.set_ 12 (.bool true)
 have g6 : Fr (fun k => k = lb) w3 (w3.setCell ⟨lb, 12, none⟩ (.bool true)) := Fr.setCell _ _ _ rfl
 have HFA := Lh (fail_any lb b f s.segs s.size _ s.last s.used s.clean A s.texts.length cT _ s.sure s.sealed_ true 22 _ b6 (by have := HH.out.2.many; omega) (by decide) (by decide))
 have H6 := Lh (Ai b6 g6)
 clear b6 g6
 go_wp2_with fail
 refine HFA.out.mono ?_
 rintro e w7 ⟨⟨g, rfl⟩, bel7⟩
 have H7 := Lh bel7
 clear bel7 HFA
 go_wp2_with fail
 go_ret
 have k1 := H2.out.2.size
 have k5 := H6.out.2.size
 have k7 := H7.out.size
 have g67 : Fr (fun k => k = lb) w3 w7 := H6.out.2.trans (Fr.of_below H7.out _) (fun _ _ h => h)
 refine ⟨⟨g, rfl⟩, F3, ⟨?_, ?_, H4.out.1.apart, fun k hk => Nat.lt_of_lt_of_le (H4.out.1.flt k hk) g67.size, fun k hk => Nat.lt_of_lt_of_le (H4.out.1.klt k hk) g67.size⟩, ?_, ?_⟩
 ·exact H4.out.1.log.own (s' := { s with dead := true }) rfl rfl rfl (H6.out.1.below H7.out H6.out.1.lt) g67
 ·exact H4.out.1.disk.fr g67 (fun k hk e => H4.out.1.apart k hk (e ▸ H4.out.1.log.kl))
 ·have g1 : Fr (fun k => F k \/ Kl k) w w1.drew := Fr.of_below H2.out.2 _
  have g3 : Fr (fun k => F k \/ Kl k) w w3 := g1.trans (w3 := w3) (G := F) ⟨H4.out.2.1.os, H4.out.2.1.tape, H4.out.2.1.output, H4.out.2.1.size, H4.out.2.1.block⟩ (fun _ _ h => .inl h)
  exact g3.trans g67 (fun k hk e => by rw [e]; exact .inr H4.out.1.log.kl)
 ·intro k hk hF
  exact H4.out.2.2 k (Nat.lt_of_lt_of_le hk k1) hF
set_option maxHeartbeats 8000000 in
theorem flush_dead1 {w : World} {lb b f : Nat} {s : Lg} {bg cB : Nat} {A : Option Addr} {cT : Nat} {C : Option Addr} {cC : Nat} {vs : List Pt} {Kl F : Nat -> Prop} {D : Dk} (h : LD w lb b f s bg cB A cT C cC vs Kl D F) (hok : s.Ok) (hd : s.dead = false) (hs : s.sure ≠ s.texts.length) (hce : s.clean < s.end_) (hDk : D.Ok) (hc : D.calls ≠ 0) (hc1 : nextCalls D.calls = 0) (hq : D.queue.length <= 1000000) (hf : f <= 1000000) (hfit : (f + s.segs * s.size) * 128 <= D.safe.length) :
  Calls Tryz.prog 55 #[.pointer (some ⟨lb, 0, none⟩)] w fun e w' => (∃ g, e = .returned (.iface 110 (.pointer (some ⟨g, 0, none⟩)))) /\ ∃ F', LD w' lb b f { s with dead := true } bg cB A cT C cC vs Kl (D.pushed f s) F' /\ Fr (fun k => F k \/ Kl k) w w' /\ ∀ k, k < w.heap.size -> F' k -> F k := by
 have hal := hok.all_le
 have hel := hok.end_le
 have hsure := hok.sure
 have hmany := hok.many
 obtain ⟨T, hT⟩ : ∃ T, T = s.texts.length := ⟨_, rfl⟩
 obtain ⟨su, hSU⟩ : ∃ T, T = s.sure := ⟨_, rfl⟩
 obtain ⟨cl, hCL⟩ : ∃ T, T = s.clean := ⟨_, rfl⟩
 obtain ⟨E, hE⟩ : ∃ E, E = s.end_ := ⟨_, rfl⟩
 obtain ⟨L, hL⟩ : ∃ L, L = s.B.length := ⟨_, rfl⟩
 obtain ⟨a, ha⟩ : ∃ a, a = s.first := ⟨_, rfl⟩
 obtain ⟨z, hz⟩ : ∃ z, z = s.behind := ⟨_, rfl⟩
 have hLa : L = s.all := by rw [hL, hok.oct]
 have ha' : cl / 128 = a := by rw [ha, hCL]; rfl
 have hz' : (E + 127) / 128 = z := by rw [hz, hE]; rfl
 have hLP : L = (s.segs * s.size) * 128 := by rw [hLa]; unfold Lg.all Lg.n; rw [Nat.mul_assoc]
 rw [<- hE, <- hLa] at hel
 rw [<- hCL, <- hE] at hce
 rw [<- hLa] at hal
 have hnew : s.new = (s.B.drop (a * 128)).take ((z - a) * 128) := by rw [ha, hz]; rfl
 have hHE := fun W (hW : LgP W lb b f s bg cB A cT C cC vs Kl) => hE ▸ end_log hW hok
 have HE := Lh hHE
 obtain ⟨g, cap, cur, hv, -, hbl0, hcap1, hcap2, -⟩ := own_open h.log.oct (by have := hok.n_le; have := hok.all_le; rw [hok.oct]; omega)
 injection hv with hv1 hv2 hv3
 injection hv1 with hv1
 injection hv1 with hv1 _ _
 subst hv1
 subst hv3
 rw [<- hL] at hcap1
 have hcm := hcap2
 unfold maxLen at hcap2
 have hzL : z * 128 <= L := by
  have : z <= s.segs * s.size := by omega
  omega
 have haz : a < z := by omega
 have hal2 : (z - a) * 128 = z * 128 - a * 128 := by rw [Nat.sub_mul]
 have hnl : s.new.length = (z - a) * 128 := by rw [hnew, List.length_take, List.length_drop, <- hL]; omega
 have hpok : (D.pushed f s).Ok := by
  unfold Dk.pushed
  refine hDk.push _ _ _ (by rw [hnl, <- ha, <- hz]; exact Nat.le_refl _) ?_
  rw [<- ha, <- hz]
  refine Nat.le_trans (Nat.mul_le_mul_right _ ?_) hfit
  omega
 have HW : Hid (∀ (W : World), LD W lb b f s bg cB A cT C cC vs Kl D F -> Calls Tryz.prog 95 #[.pointer (some ⟨b, 0, none⟩), .int .i64 ((f : Int) + (a : Int)), .slice (some ⟨bg, a * 128, none⟩) (z * 128 - a * 128) (cB - a * 128)] W fun e w' => e = .returned (.int .i64 0) /\ DiskTo W b F (D.pushed f s) w') := Lh (by
  intro W hW
  have hpc := (Sees.of_own hW.log.oct).piece (a * 128) (z * 128 - a * 128) (by rw [<- hL]; omega)
  rw [Nat.zero_add, <- u8s_drop, <- u8s_take, <- hal2, <- hnew] at hpc
  rw [<- hal2]
  have := write_good b F D (f + a) (z - a) (some ⟨bg, a * 128, none⟩) (cB - a * 128) s.new W hW.disk hDk hnl (by omega) (by unfold maxLen; omega) hpc (fun _ ad hA hF2 => by injection hA with hA; subst hA; exact hW.apart bg hF2 hW.log.kb) (by omega) (Nat.le_trans (Nat.mul_le_mul_right _ (by omega)) hfit) hc
  rw [show ((f + a : Nat) : Int) = (f : Int) + (a : Int) by omega] at this
  unfold Dk.pushed
  rw [<- ha, <- hz]
  exact this)
 have hpq : (D.pushed f s).queue.length <= 1099511627776 := by
  show (D.queue ++ parts _ _ _).length <= _
  rw [List.length_append, parts, List.length_map, List.length_range, <- ha, <- hz]
  omega
 have HFL : Hid (∀ (W : World) (F' : Nat -> Prop), DiskAt W b F' (D.pushed f s) -> Calls Tryz.prog 96 #[.pointer (some ⟨b, 0, none⟩)] W fun e w' => e = .returned (.int .i64 22) /\ DiskTo W b F' (D.pushed f s) w') := Lh (fun W F' hD => flush_bad b F' (D.pushed f s) W hD hpok hc1)
 have HH := Lh (Ai h hok)
 have HD := Lh hd
 have HN := Lh (Ai hT (Ai hSU (Ai hCL (Ai hE hL))))
 have c12 : w.cell? ⟨lb, 12, none⟩ = some (.bool false) := by rw [<- hd]; exact h.log.top.cell 12
 have hsT : ((su : Int) == (T : Int)) = false := by rw [beq_eq_false_iff_ne, hSU, hT]; omega
 have hsN : ¬ su = T := by rw [hSU, hT]; exact hs
 have hTb : T <= 100000000 := by rw [hT]; exact hmany
 have hsb : su <= 100000000 := by rw [hSU]; exact hsure
 have haL : a * 128 <= z * 128 := by omega
 have hac : ¬ cB = a * 128 := by omega
 have hzc : z * 128 <= cB := by omega
 have hai : (cl : Int) / 128 = (a : Int) := by omega
 have hzi : ((E : Int) + 128 - 1).tdiv 128 = (z : Int) := by rw [Int.tdiv_eq_ediv_of_nonneg (by omega)]; omega
 have hwa0 : IntKind.i64.wrap (a : Int) = (a : Int) := IntWalk.i64_in _ (by omega)
 have hwz0 : IntKind.i64.wrap (z : Int) = (z : Int) := IntWalk.i64_in _ (by omega)
 have hw1 : IntKind.i64.wrap ((E : Int) + 128) = (E : Int) + 128 := IntWalk.i64_in _ (by omega)
 have hw2 : IntKind.i64.wrap ((E : Int) + 128 - 1) = (E : Int) + 128 - 1 := IntWalk.i64_in _ (by omega)
 have hfa : IntKind.i64.wrap ((f : Int) + (a : Int)) = (f : Int) + (a : Int) := IntWalk.i64_in _ (by omega)
 have hwa : IntKind.i64.wrap ((a : Int) * 128) = (a : Int) * 128 := IntWalk.i64_in _ (by omega)
 have hwz : IntKind.i64.wrap ((z : Int) * 128) = (z : Int) * 128 := IntWalk.i64_in _ (by omega)
 have hti : ((a : Int) * 128).toNat = a * 128 := by omega
 have htz : ((z : Int) * 128).toNat = z * 128 := by omega
 have h0a : 0 <= (a : Int) * 128 := by omega
 have h0z : 0 <= (z : Int) * 128 := by omega
 have hla : (a : Int) * 128 <= (z : Int) * 128 := by omega
 have hlz : (z : Int) * 128 <= (cB : Int) := by omega
 have hnz : ¬ z < a := by omega
 have hmx : max ((z : Int) * 128) 0 = (z : Int) * 128 := by omega
 clear h hok hd hs hDk hc hc1 hq hfit hT hSU hCL hE hL ha hz hLa hHE hnew hal hmany hsure hpok hpq hnl ha' hz' hLP
 go_enter Tryz.func55, Tryz.ntmps55
 go_wp2_with fail
 have H0 := Lh (HH.out.1.below (Below.refl _ _).drew)
 refine region_fast [(0, true), (1, true), (2, true), (3, true), (4, true), (5, true), (6, true), (7, true), (8, true), (9, true), (10, true)] [4, 5, 6, 7, 8] 496 [(16384, 1, 0, 0), (32768, 16384, 1, 1), (65536, 32768, 2, 3), (131072, 65536, 4, 7), (262144, 1, 0, 0), (524288, 262144, 16, 16), (1048576, 524288, 32, 48), (2097152, 1048576, 64, 112), (4194304, 2097152, 128, 240), (8388608, 4325376, 264, 511), (8192, 8388608, 512, 1023)] (fun W => W = w.drew) (by kernel_rfl) (by kernel_rfl) (by kernel_rfl) rfl (by kernel_rfl) (by kernel_rfl) rfl (fun hS => ?_)
 repeat (first
  | (refine plan_read (v := ?_) rfl (fun _ _ _ h => h) rfl hS ?_ ?_; rotate_left 1; (focus (intro w' hS'; subst hS'; have e8 : w.drew.cell? ⟨lb, 8, none⟩ = some (.slice A T cT) := (by rw [HN.out.1]; exact H0.out.log.top.cell 8); have e10 : w.drew.cell? ⟨lb, 10, none⟩ = some (.int .i64 su) := (by rw [HN.out.2.1]; exact H0.out.log.top.cell 10); go_simp; try rfl)); (simp only [Act.put, pu1]; dsimp only [pu2, pu3]))
  | (refine plan_skip rfl (fun _ _ _ h => h) rfl hS ?_; (simp only [Act.put, pu1]; dsimp only [pu2, pu3])))
 refine plan_nil ?_
 clear c12
 go_wp2_with fail
 have H1 := Lh (H0.out.below (Below.refl _ _).drew)
 refine region_fast [(0, true), (1, true), (2, true), (3, true), (4, true), (5, true), (6, false), (7, true), (8, true), (9, true), (10, true), (11, true)] [5, 6, 7, 8, 9, 10] 2016 [(16777216, 1, 0, 0), (33554432, 16777216, 1, 1), (67108864, 33554432, 2, 3), (134217728, 67108864, 4, 7), (268435456, 134217728, 8, 15), (536870912, 1, 0, 0), (1073741824, 536870912, 32, 32), (2147483648, 1073741824, 64, 96), (4294967296, 2147483648, 128, 224), (8589934592, 4294967296, 256, 480), (8, 268435456, 95, 127), (16, 8589934592, 2047, 2047)] (fun W => LD W lb b f s bg cB A cT C cC vs Kl D F /\ Below w.heap.size w W) (by kernel_rfl) (by kernel_rfl) (by kernel_rfl) rfl (by kernel_rfl) (by kernel_rfl) ⟨H1.out, ((Below.refl _ _).drew).drew⟩ (fun hS => ?_)
 repeat (first
  | (refine plan_read (v := ?_) rfl (fun _ _ _ h => h) rfl hS ?_ ?_; rotate_left 1; (focus (intro w' hS'; have e7 : w'.cell? ⟨lb, 7, none⟩ = some (.int .i64 cl) := (by rw [HN.out.2.2.1]; exact hS'.1.log.top.cell 7); go_simp; try rfl)); (simp only [Act.put, pu1]; dsimp only [pu2, pu3]))
  | (refine plan_skip rfl (fun _ _ _ h => h) rfl hS ?_; (simp only [Act.put, pu1]; dsimp only [pu2, pu3])))
 refine plan_do (by rfl) (by rfl) (fun K hK => ?_)
 go_simp
 refine (HE.out _ hS.1.log).mono ?_
 rintro e w1 ⟨rfl, bel1⟩
 refine hK.out _ _ (fun _ => ⟨hS.1.below bel1, hS.2.trans (bel1.mono hS.2.size)⟩) (fun hS => ?_); clear hK K; replace hS := hS rfl; try (simp only [Act.put, pu1]; dsimp only [pu2, pu3])
 repeat (first
  | (refine plan_read (v := ?_) rfl (fun _ _ _ h => h) rfl hS ?_ ?_; rotate_left 1; (focus (intro w' hS'; have e7 : w'.cell? ⟨lb, 7, none⟩ = some (.int .i64 cl) := (by rw [HN.out.2.2.1]; exact hS'.1.log.top.cell 7); go_simp; try rfl)); (simp only [Act.put, pu1]; dsimp only [pu2, pu3]))
  | (refine plan_skip rfl (fun _ _ _ h => h) rfl hS ?_; (simp only [Act.put, pu1]; dsimp only [pu2, pu3])))
 refine plan_nil ?_
 have H2 := Lh (Ai (hS.1.below (Below.refl _ _).drew) hS.2.drew)
 clear hS bel1
 go_wp2_with fail
 refine region_fast [(0, true), (1, true), (2, true), (3, true), (4, true), (5, true), (6, true), (7, true), (8, true), (9, true), (10, true), (11, true), (12, true), (13, true), (14, true), (15, true), (16, true), (17, true), (18, true), (19, true), (20, true), (21, false), (22, true)] [5, 6, 7, 8, 9, 10, 11, 12, 13, 14, 15, 16, 17, 18, 19, 20] 2097120 [(17179869184, 1, 0, 0), (34359738368, 17179869184, 1, 1), (68719476736, 34359738368, 2, 3), (137438953472, 68719476736, 4, 7), (274877906944, 137438953472, 8, 15), (549755813888, 1, 0, 0), (1099511627776, 549755813888, 32, 32), (2199023255552, 1099511627776, 64, 96), (4398046511104, 2199023255552, 128, 224), (8796093022208, 4398046511104, 256, 480), (17592186044416, 8, 0, 0), (35184372088832, 26388279066624, 1536, 2016), (70368744177664, 1, 0, 0), (140737488355328, 70368744177664, 4096, 4096), (281474976710656, 140737488355328, 8192, 12288), (562949953421312, 281474976710656, 16384, 28672), (1125899906842624, 8, 0, 0), (2251799813685248, 1125899906842624, 65536, 65536), (4503599627370496, 16, 0, 0), (9007199254740992, 4503599627370496, 262144, 262144), (18014398509481984, 11821949021847552, 688128, 1044480), (36028797018963968, 18049857759477760, 1050640, 2097151), (32, 36028797018963968, 4194303, 4194303)] (fun W => W.cell? ⟨lb, 0, none⟩ = some (.pointer (some ⟨b, 0, none⟩)) /\ W.cell? ⟨lb, 1, none⟩ = some (.int .i64 f) /\ W.cell? ⟨lb, 4, none⟩ = some (.slice (some ⟨bg, 0, none⟩) L cB)) (by kernel_rfl) (by kernel_rfl) (by kernel_rfl) rfl (by kernel_rfl) (by kernel_rfl) ⟨H2.out.1.log.top.cell 0, H2.out.1.log.top.cell 1, by rw [HN.out.2.2.2.2]; exact H2.out.1.log.top.cell 4⟩ (fun hS => ?_)
 iterate 20 (first
  | (refine plan_read (v := ?_) rfl (fun _ _ _ h => h) rfl hS ?_ ?_; rotate_left 1; (focus (intro w' hS'; have e0 := hS'.1; have e1 := hS'.2.1; have e4 := hS'.2.2; go_simp; try rfl)); (simp only [Act.put, pu1]; dsimp only [pu2, pu3]))
  | (refine plan_skip rfl (fun _ _ _ h => h) rfl hS ?_; (simp only [Act.put, pu1]; dsimp only [pu2, pu3])))
 refine plan_read (v := Value.slice (some ⟨bg, a * 128, none⟩) (z * 128 - a * 128) (cB - a * 128)) rfl (fun _ _ _ h => h) rfl hS ?_ ?_; (focus (intro w' hS'; go_simp; first | done | simp [hti, htz, h0a, h0z, hla, hlz, hac, hmx, hnz] | (simp; omega))); (simp only [Act.put, pu1]; dsimp only [pu2, pu3])
 refine plan_do (by rfl) (by rfl) (fun K hK => ?_)
 go_simp
 refine (HW.out _ H2.out.1).mono ?_
 rintro e w3 ⟨rfl, hd⟩
 obtain ⟨F3, l3, f3, s3⟩ := H2.out.1.move hd
 have HF3 := Lh (HFL.out w3 F3 l3.disk)
 have c0 : w3.cell? ⟨lb, 0, none⟩ = some (.pointer (some ⟨b, 0, none⟩)) := l3.log.top.cell 0
 have H4 := Lh (Ai l3 (Ai f3 s3))
 clear hS
 have hS := Ai c0 (Ai (l3.log.top.cell 1 : w3.cell? ⟨lb, 1, none⟩ = some (.int .i64 f)) (by rw [HN.out.2.2.2.2]; exact l3.log.top.cell 4 : w3.cell? ⟨lb, 4, none⟩ = some (.slice (some ⟨bg, 0, none⟩) L cB)))
 clear hd l3 f3 s3
 refine hK.out _ _ (fun h => by cases h) (fun _ => ?_); clear hK K; try (simp only [Act.put, pu1]; dsimp only [pu2, pu3])
 repeat (first
  | (refine plan_read (v := ?_) rfl (fun _ _ _ h => h) rfl hS ?_ ?_; rotate_left 1; (focus (intro w' hS'; go_simp; try rfl)); (simp only [Act.put, pu1]; dsimp only [pu2, pu3]))
  | (refine plan_skip rfl (fun _ _ _ h => h) rfl hS ?_; (simp only [Act.put, pu1]; dsimp only [pu2, pu3])))
 refine plan_nil ?_
 clear hS
 go_wp2_with fail
 refine HF3.out.mono ?_
 rintro e w4 ⟨rfl, hd⟩
 obtain ⟨F4, l4, f4, s4⟩ := H4.out.1.move hd
 have H5 := Lh (Ai l4 (Ai f4 s4))
 clear hd l4 f4 s4 c0
 have c12' : w4.cell? ⟨lb, 12, none⟩ = some (.bool false) := by rw [<- HD.out]; exact H5.out.1.log.top.cell 12
 have f12 : w4.frozen? ⟨lb, 12, none⟩ = false := H5.out.1.log.top.frozen 12
 have b6 : Blk (w4.setCell ⟨lb, 12, none⟩ (.bool true)) lb 150 (lgc b f s.segs s.size (.slice (some ⟨bg, 0, none⟩) s.B.length cB) s.last s.used s.clean (.slice A s.texts.length cT) (.slice C 32 cC) s.sure s.sealed_ true) := H5.out.1.log.top.set_ 12 (.bool true)
 have g6 : Fr (fun k => k = lb) w4 (w4.setCell ⟨lb, 12, none⟩ (.bool true)) := Fr.setCell _ _ _ rfl
 have HFA := Lh (fail_any lb b f s.segs s.size _ s.last s.used s.clean A s.texts.length cT _ s.sure s.sealed_ true 22 _ b6 (by have := HH.out.2.many; omega) (by decide) (by decide))
 have H6 := Lh (Ai b6 g6)
 clear b6 g6
 go_wp2_with fail
 refine HFA.out.mono ?_
 rintro e w7 ⟨⟨g, rfl⟩, bel7⟩
 have H7 := Lh bel7
 clear bel7 HFA
 go_wp2_with fail
 go_ret
 have k1 := H2.out.2.size
 have k5 := H6.out.2.size
 have k7 := H7.out.size
 have g67 : Fr (fun k => k = lb) w4 w7 := H6.out.2.trans (Fr.of_below H7.out _) (fun _ _ h => h)
 refine ⟨⟨g, rfl⟩, F4, ⟨?_, ?_, H5.out.1.apart, fun k hk => Nat.lt_of_lt_of_le (H5.out.1.flt k hk) g67.size, fun k hk => Nat.lt_of_lt_of_le (H5.out.1.klt k hk) g67.size⟩, ?_, ?_⟩
 ·exact H5.out.1.log.own (s' := { s with dead := true }) rfl rfl rfl (H6.out.1.below H7.out H6.out.1.lt) g67
 ·exact H5.out.1.disk.fr g67 (fun k hk e => H5.out.1.apart k hk (e ▸ H5.out.1.log.kl))
 ·have k2 := H4.out.2.1.size
  have g1 : Fr (fun k => F k \/ Kl k) w w1.drew := Fr.of_below H2.out.2 _
  have g3 : Fr (fun k => F k \/ Kl k) w w3 := g1.trans (w3 := w3) (G := F) ⟨H4.out.2.1.os, H4.out.2.1.tape, H4.out.2.1.output, H4.out.2.1.size, H4.out.2.1.block⟩ (fun _ _ h => .inl h)
  have g4 : Fr (fun k => F k \/ Kl k) w w4 := g3.trans H5.out.2.1 (fun k hk hF => .inl (H4.out.2.2 k (Nat.lt_of_lt_of_le hk k1) hF))
  exact g4.trans g67 (fun k hk e => by rw [e]; exact .inr H5.out.1.log.kl)
 ·intro k hk hF
  have k2 := H4.out.2.1.size
  have q1 : k < w1.drew.heap.size := Nat.lt_of_lt_of_le hk k1
  exact H4.out.2.2 k q1 (H5.out.2.2 k (Nat.lt_of_lt_of_le q1 k2) hF)
end
section
set_option maxRecDepth 4000
open Go.RowKit
theorem flush_dead {w : World} {lb b f : Nat} {s : Lg} {bg cB : Nat} {A : Option Addr} {cT : Nat} {C : Option Addr} {cC : Nat} {vs : List Pt} {Kl : Nat -> Prop} (h : LgP w lb b f s bg cB A cT C cC vs Kl) (hd : s.dead = true) (hm : s.texts.length <= 1000000000) :
  Calls Tryz.prog 55 #[.pointer (some ⟨lb, 0, none⟩)] w fun e w' => (∃ g, e = .returned (.iface 110 (.pointer (some ⟨g, 0, none⟩)))) /\ Below w.heap.size w w' := by
 have c12 : w.cell? ⟨lb, 12, none⟩ = some (.bool true) := by rw [<- hd]; exact h.top.cell 12
 have HF := Lh (fail_any lb b f s.segs s.size _ s.last s.used s.clean A s.texts.length cT _ s.sure s.sealed_ s.dead 22 w h.top hm (by decide) (by decide))
 clear h hd
 go_enter Tryz.func55, Tryz.ntmps55
 go_wp2_with fail
 refine HF.out.mono ?_
 rintro e w1 ⟨⟨g, rfl⟩, hb⟩
 have HB := Lh hb
 clear hb HF
 go_wp2_with fail
 go_ret
 exact ⟨⟨_, rfl⟩, HB.out⟩
theorem kshred_dead (t b sg : Nat) (f : Nat) (E : List (Option Ke)) (D : Dk) (F K G : Nat -> Prop) (x : Int) (w : World)
  (h : KSt w t b sg f E true D F K G) (hE : E.length <= 1000) :
  Calls Tryz.prog 56 #[.pointer (some ⟨t, 0, none⟩), .int .i64 x] w fun e w' => (∃ g, e = .returned (.iface 110 (.pointer (some ⟨g, 0, none⟩)))) /\ Below w.heap.size w w' := by
 have HFD := Lh (kfind_any t b sg f E true K x w h.tab hE)
 have HWR := Lh (fun k w => wrap_no { data := #[107, 101, 121, 115] } k 22 (by decide) w)
 have HH := Lh h
 clear h
 go_enter Tryz.func56, Tryz.ntmps56
 go_wp2_with fail
 refine HFD.out.mono ?_
 rintro e w1 ⟨⟨r, rfl, -⟩, hb1⟩
 have c3 : w1.cell? ⟨t, 3, none⟩ = some (.bool true) := (HH.out.below hb1).tab.top.cell 3
 have HB := Lh hb1
 clear hb1 HFD HH
 go_wp2_with fail
 refine (HWR.out _ _).mono ?_
 rintro e w2 ⟨rfl, -, hb2⟩
 have HB2 := Lh (HB.out.trans (hb2.mono HB.out.size))
 clear hb2
 go_wp2_with fail
 go_ret
 exact ⟨⟨_, rfl⟩, HB2.out⟩
def FlPost (base : Nat) (S : St) (a : Loc) (K L P : Nat -> Prop) (e : Ending) (w' : World) : Prop := ∃ v ok S' F' T', e = .returned v /\ ErrIs ok v /\ FlRel S S' ok /\ Rn w' base S' a F' K L P T'
def ShPost (base : Nat) (S : St) (a : Loc) (L P : Nat -> Prop) (bk : Nat) (e : Ending) (w' : World) : Prop := ∃ v S' F' K' T', e = .returned v /\ ShRel S S' bk /\ Rn w' base S' a F' K' L P T'
section
variable {w w' : World} {base : Nat} {S : St} {a : Loc} {F K L P : Nat -> Prop} {T : Nat -> Nat} {q p am : Nat}
theorem lflush_g (h : Rn w base S a F K L P T) (i : Inv S q p am) (hq : q <= 900) :
  Calls Tryz.prog 55 #[.pointer (some ⟨a.lb, 0, none⟩)] w fun e w' => FlPost base S a K L P e w' /\ Below base w w' := by
 have hm := i.txt
 cases hd : S.s.dead with
 | true =>
  refine (flush_dead h.log hd (by omega)).mono ?_
  rintro e' w' ⟨⟨g, rfl⟩, bel⟩
  exact ⟨⟨_, false, S, F, T, rfl, .inr ⟨rfl, g, rfl⟩, .inr ⟨rfl, .inl rfl⟩, h.below bel⟩, bel.mono h.base_le⟩
 | false =>
  by_cases hs : S.s.sure = S.s.texts.length
  ·refine (flush_idle h.log hd hs).mono ?_
   rintro e' w' ⟨rfl, bel⟩
   exact ⟨⟨_, true, S, F, T, rfl, .inl ⟨rfl, rfl⟩, .inl ⟨rfl, .inl ⟨hs, rfl⟩⟩, h.below bel⟩, bel.mono h.base_le⟩
  ·have hlt := i.log.lt hd hs
   have hqd := i.dq
   have hfw := i.few
   by_cases h0 : S.D.calls = 0
   ·refine (flush_dead0 h.ld i.log.sok hd hs hlt i.log.ok h0 (by omega) (by omega) i.log.fit).mono ?_
    rintro e' w' ⟨⟨g, rfl⟩, F', l5, fr, hF⟩
    obtain ⟨T', hR, bel⟩ := h.flushTo l5 fr hF
    exact ⟨⟨_, false, _, F', T', rfl, .inr ⟨rfl, g, rfl⟩, .inr ⟨rfl, .inr (.inl rfl)⟩, hR⟩, bel⟩
   ·by_cases h1 : nextCalls S.D.calls = 0
    ·refine (flush_dead1 h.ld i.log.sok hd hs hlt i.log.ok h0 h1 (by omega) (by omega) i.log.fit).mono ?_
     rintro e' w' ⟨⟨g, rfl⟩, F', l5, fr, hF⟩
     obtain ⟨T', hR, bel⟩ := h.flushTo l5 fr hF
     exact ⟨⟨_, false, _, F', T', rfl, .inr ⟨rfl, g, rfl⟩, .inr ⟨rfl, .inr (.inr rfl)⟩, hR⟩, bel⟩
    ·refine (flush_on h.ld i.log.sok hd hs hlt i.log.ok h0 h1 (by omega) (by omega) i.log.fit).mono ?_
     rintro e' w' ⟨rfl, F', l5, fr, hF⟩
     obtain ⟨T', hR, bel⟩ := h.flushTo l5 fr hF
     exact ⟨⟨_, true, _, F', T', rfl, .inl ⟨rfl, rfl⟩, .inl ⟨rfl, .inr rfl⟩, hR⟩, bel⟩
theorem sflush_g (h : Rn w base S a F K L P T) (i : Inv S q p am) (hq : q <= 900) :
  Calls Tryz.prog 18 #[.pointer (some ⟨a.r, 0, none⟩)] w fun e w' => FlPost base S a K L P e w' /\ Below base w w' := by
 have c5 : w.cell? ⟨a.r, 5, none⟩ = some (.pointer (some ⟨a.lb, 0, none⟩)) := h.top.cell 5
 have HF := Lh (lflush_g h i hq)
 clear h i
 go_enter Tryz.func18, Tryz.ntmps18
 go_wp2_with fail
 refine HF.out.mono ?_
 rintro e w1 ⟨⟨v, ok, S', F', T', rfl, h1⟩, h2⟩
 have H1 := Lh (Ai h1 h2)
 clear h1 h2 HF
 go_wp2_with fail
 go_ret
 exact ⟨⟨v, ok, S', F', T', rfl, H1.out.1⟩, H1.out.2⟩
theorem kshred_g (h : Rn w base S a F K L P T) (i : Inv S q p am) (hq : q <= 900) (bk : Nat) :
  Calls Tryz.prog 56 #[.pointer (some ⟨a.t, 0, none⟩), .int .i64 bk] w fun e w' => (∃ v S' F' K' T', e = .returned v /\ KShRel S S' bk /\ Rn w' base S' a F' K' L P T') /\ Below base w w' := by
 have hqd := i.dq
 have hfw := i.few
 have he := i.elen
 have hk := h.kst
 cases hd : S.dead with
 | true =>
  rw [hd] at hk
  refine (kshred_dead a.t a.b a.sg 0 S.E S.D F K _ bk w hk (by omega)).mono ?_
  rintro e w' ⟨⟨g, rfl⟩, bel⟩
  exact ⟨⟨_, S, F, K, T, rfl, .inl rfl, h.below bel⟩, bel.mono h.base_le⟩
 | false =>
  rw [hd] at hk
  by_cases hin : ∃ e, some e ∈ S.E /\ e.buck = (bk : Int)
  ·refine (shred_key a.t a.b a.sg 0 S.E S.D F K _ bk w hk i.log.ok (by omega) (by omega) (by omega) (by rw [Nat.zero_add]; exact i.key.fit) hin).mono ?_
   rintro e w' ⟨k, e0, hk0, hb0, ⟨v, rfl, herr⟩, hto⟩
   obtain ⟨F2, K2, T2, hR2, hb2⟩ := h.keysTo hto
   exact ⟨⟨v, _, F2, K2, T2, rfl, .inr ⟨hd, k, e0, hk0, hb0, rfl⟩, hR2⟩, hb2⟩
  ·refine (shred_none a.t a.b a.sg 0 S.E S.D F K _ bk w hk (by omega) (fun e he hb => hin ⟨e, he, hb⟩)).mono ?_
   rintro e w' ⟨⟨g, rfl⟩, bel⟩
   exact ⟨⟨_, S, F, K, T, rfl, .inl rfl, h.below bel⟩, bel.mono h.base_le⟩
set_option maxHeartbeats 1000000 in
theorem sshred_g (h : Rn w base S a F K L P T) (i : Inv S q p am) (hq : q <= 800) (bk : Nat) :
  Calls Tryz.prog 19 #[.pointer (some ⟨a.r, 0, none⟩), .int .i64 bk] w fun e w' => ShPost base S a L P bk e w' /\ Below base w w' := by
 have c5 : w.cell? ⟨a.r, 5, none⟩ = some (.pointer (some ⟨a.lb, 0, none⟩)) := h.top.cell 5
 have HF := Lh (lflush_g h i (by omega))
 have HI := Lh i
 clear h i
 go_enter Tryz.func19, Tryz.ntmps19
 go_wp2_with fail
 refine HF.out.mono ?_
 rintro e w1 ⟨⟨v, ok, S1, F1, T1, rfl, herr, hrel, hR1⟩, hb1⟩
 rcases herr with ⟨rfl, rfl⟩ | ⟨rfl, g, rfl⟩
 ·have i1 := (HI.out.flushTo hrel).1
  have d4 : w1.cell? ⟨a.r, 4, none⟩ = some (.pointer (some ⟨a.t, 0, none⟩)) := hR1.top.cell 4
  have HS := Lh (kshred_g hR1 i1 (by omega) bk)
  have H1 := Lh (Ai hrel hb1)
  clear hR1 hb1 hrel HF i1
  go_wp2_with fail
  refine HS.out.mono ?_
  rintro e w2 ⟨⟨v, S2, F2, K2, T2, rfl, hrel2, hR2⟩, hb2⟩
  have H2 := Lh (Ai hrel2 (Ai hR2 (H1.out.2.trans hb2)))
  clear hrel2 hR2 hb2 HS
  go_wp2_with fail
  go_ret
  exact ⟨⟨v, S2, F2, K2, T2, rfl, ⟨S1, true, H1.out.1, .inr H2.out.1⟩, H2.out.2.1⟩, H2.out.2.2⟩
 ·have H1 := Lh (Ai hrel (Ai hR1 hb1))
  clear hR1 hb1 hrel HF
  go_wp2_with fail
  go_ret
  exact ⟨⟨_, S1, F1, K, T1, rfl, ⟨S1, false, H1.out.1, .inl rfl⟩, H1.out.2.1⟩, H1.out.2.2⟩
theorem Rn.diskTo (h : Rn w base S a F K L P T) {D' : Dk} (hd : DiskTo w a.b F D' w') : ∃ F' T', Rn w' base { S with D := D' } a F' K L P T' /\ Below base w w' /\ ∀ k, k < w.heap.size -> F' k -> F k := by
 obtain ⟨F', h1, h2, h3⟩ := h.ld.move hd
 obtain ⟨T', hR, hb⟩ := h.flushTo h1 (h2.mono (fun k _ hk => .inl hk)) h3
 exact ⟨F', T', hR, hb, h3⟩
end
end
section
set_option maxRecDepth 4000
open Go.RowKit
theorem limit_all (b : Nat) (k : Int) (hk : -9223372036854775808 <= k /\ k <= 9223372036854775807) (F : Nat -> Prop) (D : Dk) (w : World) (hD : DiskAt w b F D) :
  Calls Tryz.prog 22 #[.pointer (some ⟨b, 0, none⟩), .int .i64 k] w fun e w' => e = .returned (.tuple #[]) /\ DiskTo w b F { D with calls := max k (-1) } w' := by
 have hD' := hD
 obtain ⟨s, sc, cur, qA, qc, Q, ⟨h1, h2⟩, -⟩ := hD
 have hc : w.cell? ⟨b, 2, none⟩ = some (.int .i64 D.calls) := h1.cell 2
 have hf : w.frozen? ⟨b, 2, none⟩ = false := h1.frozen 2
 have fin : ∀ m : Int, DiskTo w b F { D with calls := m } (w.setCell ⟨b, 2, none⟩ (.int .i64 m)) := fun m => by
  have hb := h1.set_ 2 (.int .i64 m)
  have hfr : Fr (· = b) w (w.setCell ⟨b, 2, none⟩ (.int .i64 m)) := Fr.setCell _ _ _ rfl
  exact ⟨F, hD'.set2 (u := (_, _)) h1 hb hfr, hfr.mono (fun j _ hj => by subst hj; exact h2), fun _ _ h => h⟩
 have HF := Lh fin
 clear h1 h2 hD' fin
 obtain ⟨m, hm⟩ : ∃ m, m = max k (-1) := ⟨_, rfl⟩
 rw [<- hm]
 by_cases hkl : k < -1
 ·have hm1 : m = -1 := by omega
  have hmx : max k (-1) = -1 := by omega
  subst hm1
  clear hm
  go_enter Tryz.func22, Tryz.ntmps22
  go_wp2_with fail
  refine bodyPost_end (results_none rfl _ _ _) rfl ?_
  exact ⟨rfl, HF.out _⟩
 ·have hmx : max k (-1) = k := by omega
  have hm1 : m = k := by omega
  subst hm1
  clear hm
  go_enter Tryz.func22, Tryz.ntmps22
  go_wp2_with fail
  refine bodyPost_end (results_none rfl _ _ _) rfl ?_
  exact ⟨rfl, HF.out _⟩
section
variable {w w' : World} {base : Nat} {S : St} {a : Loc} {F K L P : Nat -> Prop} {T : Nat -> Nat} {q p am : Nat}
theorem rundisk_any (h : Rn w base S a F K L P T) : Calls Tryz.prog 21 #[.pointer (some ⟨a.r, 0, none⟩)] w fun e w' => e = .returned (.pointer (some ⟨a.b, 0, none⟩)) /\ w = w' := by
 have c0 : w.cell? ⟨a.r, 0, none⟩ = some (.pointer (some ⟨a.b, 0, none⟩)) := h.top.cell 0
 clear h
 go_enter Tryz.func21, Tryz.ntmps21
 go_wp2_with fail
 go_ret
 exact ⟨rfl, rfl⟩
theorem kept_g (h : Rn w base S a F K L P T) (hE : S.E.length <= 1000) (bk : Int) (hin : ∃ e, some e ∈ S.E /\ e.buck = bk) :
  Calls Tryz.prog 25 #[.pointer (some ⟨a.r, 0, none⟩), .int .i64 bk] w fun e w' => e = .returned (.bool true) /\ Below w.heap.size w w' := by
 have c4 : w.cell? ⟨a.r, 4, none⟩ = some (.pointer (some ⟨a.t, 0, none⟩)) := h.top.cell 4
 have HG := Lh (get_any a.t a.b a.sg (0 : Nat) S.E S.dead K bk w h.tab hE)
 have HI := Lh hin
 clear h hin
 go_enter Tryz.func25, Tryz.ntmps25
 go_wp2_with fail
 refine HG.out.mono ?_
 rintro e w1 ⟨bel, ⟨-, hno⟩ | ⟨v, k, e', rfl, -, -, own⟩⟩
 ·obtain ⟨e', h1, h2⟩ := HI.out
  exact absurd h2 (hno e' h1)
 ·obtain ⟨A1, c1, rfl⟩ := own_shape own
  have HB := Lh bel
  clear bel own HG
  go_wp2_with fail
  go_ret
  exact ⟨rfl, HB.out⟩
theorem kopen_crash {keep : List Int} {w : World} (h : Rn w base { S with D := S.D.crashed keep } a F K L P T) (i : Inv S q p am) :
  Calls Tryz.prog 77 #[.pointer (some ⟨a.b, 0, none⟩), .int .i64 0, .int .i64 S.slots] w.drew fun e w' => ∃ t sg E D', e = .returned (.tuple #[.pointer (some ⟨t, 0, none⟩), Value.nilIface]) /\ KTo w.drew F t a.b sg (0 : Nat) E false D' w' /\ KOpened S keep E D' := by
 obtain ⟨P0, hP⟩ := i.key.slots keep
 have he := i.elen
 have hfw := i.few
 have hlen : (S.D.crashed keep).safe.length = S.D.safe.length := crash_length S.D i.log.ok keep
 have hok := i.log.ok.crashed keep
 have hkfit := i.key.fit
 have hPl : P0.length = S.slots := hP.len.trans he
 have hpc : (S.D.crashed keep).piece 0 (2 * P0.length) = slos P0 := by
  rw [hP.slos]
  unfold Dk.piece
  rw [image_idle (show (S.D.crashed keep).queue = [] from rfl), Nat.zero_mul, List.drop_zero]
  congr 1
  omega
 have hr := open_any2 a.b 0 P0 (S.D.crashed keep) F w.drew h.drew.disk (fun k hk => (h.drew.tF k hk).2.2) hok rfl rfl (by omega) (by omega) (by omega) (by rw [hP.len, hlen, Nat.zero_add]; exact hkfit) hP.ok hpc hP.uniq
 rw [hPl] at hr
 refine hr.mono ?_
 rintro e w' ⟨t, sg, E, D', rfl, hE1, hE2, hto, -, o1, o2, o3, o4, o5⟩
 have hop := hP.opened (hE1.trans hPl.symm) hE2 o1 o3 (by rw [o4, hlen]; exact hkfit) (fun k _ => o5 (2 * k) (.inl (by omega)))
 refine ⟨t, sg, E, D', rfl, hto, hop.1, hop.2.1, fun e he' => ?_, o1, o2, o3, o4.trans hlen, fun j hj => o5 _ (.inr (by omega))⟩
 obtain ⟨e', k1, k2, k3⟩ := hop.2.2 e he'
 obtain ⟨x, n, x1, -⟩ := i.key.keys e he'
 exact ⟨e', k1, by rw [k2, x1, Int.toNat_natCast], k3⟩
def CrPost (base : Nat) (S : St) (r : Nat) (keep : List Int) (P : Nat -> Prop) (w' : World) : Prop := ∃ E D' a' F' K' L' T', KOpened S keep E D' /\ a'.r = r /\ Rn w' base (S.again E D') a' F' K' L' P T'
set_option maxHeartbeats 2000000 in
theorem crash_g (h : Rn w base S a F K L P T) (i : Inv S q p am) (hq : q <= 900) (hT : TabsB base w) (hbt : ∀ k, base <= k -> k ≠ 3 /\ k ≠ 2) (A : Option Addr) (n c : Nat) (keep : List Int) (hlen : keep.length = n) (hn : n <= 1000) (hS : Sees w 1 A n (keep.map (Value.int .i64))) (hA : 0 < n -> ∀ ad, A = some ad -> ¬ F ad.block) :
  Calls Tryz.prog 23 #[.pointer (some ⟨a.r, 0, none⟩), .slice A n c] w fun e w' => e = .returned Value.nilIface /\ CrPost base S a.r keep P w' /\ Below base w w' := by
 have c0 : w.cell? ⟨a.r, 0, none⟩ = some (.pointer (some ⟨a.b, 0, none⟩)) := h.top.cell 0
 have hqd := i.dq
 have HC := Lh (crash_any a.b F S.D A n c keep w h.disk i.log.ok hlen (by unfold maxLen; omega) (by omega) hS hA)
 have HH := Lh (Ai h (Ai i (Ai hT hbt)))
 clear h i hT hbt hS hA hqd
 go_enter Tryz.func23, Tryz.ntmps23
 go_wp2_with fail
 refine HC.out.mono ?_
 rintro e w1 ⟨rfl, hd⟩
 obtain ⟨F1, T1, hR1, hb1, -⟩ := HH.out.1.diskTo hd
 have hi := HH.out.2.1
 have hfw := hi.few
 have hsg := hi.segs
 have hsz := hi.size
 have HO := Lh (open_r hR1.pre (HH.out.2.2.1.below hb1) HH.out.2.2.2 (show S.slots <= 8 by omega) (show 1 <= S.segs /\ S.segs <= 8 by omega) (show 2 <= S.size /\ S.size <= 16 by omega) (fun E D' => KOpened S keep E D') (kopen_crash hR1 hi) (fun E D' hk => ⟨hk.ok, hk.on, hk.idle, by show (2 * S.slots + S.segs * S.size) * 128 <= _; rw [hk.len, hi.len]; exact Nat.le_refl _⟩))
 have HB := Lh hb1
 clear hd hR1 hb1 hi HC c0
 go_wp2_with fail
 refine HO.out.mono ?_
 rintro e w2 ⟨rfl, ⟨E, D', a', F', K', L', T', hk, ha, hR⟩, hb2⟩
 have H2 := Lh (Ai hk (Ai hR (HB.out.trans hb2)))
 clear hk hR hb2 HO
 go_wp2_with fail
 go_ret
 exact ⟨rfl, ⟨E, D', a', F', K', L', T', H2.out.1, ha, H2.out.2.1⟩, H2.out.2.2⟩
end
end
end Go.Proofs.YtkgaeoeibjoljaaGreatDoor
