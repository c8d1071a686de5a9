/-
  Flush, of a log whose disk is on.
-/
import Derived.Test.YtldgnckchlbadaaDoorLog7
import Derived.Test.YtldgnckchlbadaaDoorGC
namespace Go.Proofs.YtldgnckchlbadaaDoor
set_option maxRecDepth 4000
open Go.RowKit

def Lg.first (s : Lg) : Nat := s.clean / 128
def Lg.behind (s : Lg) : Nat := (s.end_ + 127) / 128
def Lg.new (s : Lg) : List UInt8 := (s.B.drop (s.first * 128)).take ((s.behind - s.first) * 128)
def Dk.pushed (D : Dk) (f : Nat) (s : Lg) : Dk := D.push (f + s.first) s.new (s.behind - s.first)
def Lg.flushed (s : Lg) : Lg := { s with sure := s.texts.length, clean := s.end_ }
theorem Lg.Ok.flushed {s : Lg} (h : s.Ok) : s.flushed.Ok :=
  ⟨h.segs, h.size, h.last, h.used, h.end_le, h.oct, h.many, h.chain, h.many⟩

theorem flush_idle {w : World} {lb b f : Nat} {s : Lg} {bg cB : Nat} {A : Option Addr} {cT : Nat} {C : Option Addr} {cC : Nat} {vs : List Pt} {Kl : Nat → Prop} (h : LgP w lb b f s bg cB A cT C cC vs Kl) (hd : s.dead = false) (hs : s.sure = s.texts.length) :
    Calls Tryd.prog 8 #[.pointer (some ⟨lb, 0, none⟩)] w fun e w' => e = .returned Value.nilIface ∧ Below w.heap.size w w' := by
  obtain ⟨T, hT⟩ : ∃ T, T = s.texts.length := ⟨_, rfl⟩
  have c12 : w.cell? ⟨lb, 12, none⟩ = some (.bool false) := by rw [← hd]; exact h.top.cell 12
  have c8 : w.drew.cell? ⟨lb, 8, none⟩ = some (.slice A T cT) := by rw [hT]; exact h.top.cell 8
  have c10 : w.drew.cell? ⟨lb, 10, none⟩ = some (.int .i64 T) := by rw [hT, ← hs]; exact h.top.cell 10
  clear h hs hT hd
  go_enter Tryd.func8, Tryd.ntmps8
  go_wp2_with fail
  refine region_fast [(0, true), (1, true), (2, true), (3, true), (4, true), (5, true), (6, true), (7, true), (8, true), (9, true), (10, true)] [4, 5, 6, 7, 8] 496 [(16384, 1, 0, 0), (32768, 16384, 1, 1), (65536, 32768, 2, 3), (131072, 65536, 4, 7), (262144, 1, 0, 0), (524288, 262144, 16, 16), (1048576, 524288, 32, 48), (2097152, 1048576, 64, 112), (4194304, 2097152, 128, 240), (8388608, 4325376, 264, 511), (8192, 8388608, 512, 1023)] (fun W => W = w.drew) (by kernel_rfl) (by kernel_rfl) (by kernel_rfl) rfl (by kernel_rfl) (by kernel_rfl) rfl (fun hS => ?_)
  repeat (first
    | (refine plan_read (v := ?_) rfl (fun _ _ _ h => h) rfl hS ?_ ?_; rotate_left 1; (focus (intro w' hS'; subst hS'; go_simp; try rfl)); (simp only [Act.put, List.setIfInBounds_toArray]; dsimp only [List.set_cons_zero, List.set_cons_succ]))
    | (refine plan_skip rfl (fun _ _ _ h => h) rfl hS ?_; (simp only [Act.put, List.setIfInBounds_toArray]; dsimp only [List.set_cons_zero, List.set_cons_succ])))
  refine plan_nil ?_
  go_wp2_with fail
  go_ret
  exact ⟨rfl, (Below.refl _ _).drew⟩

set_option maxHeartbeats 8000000 in
theorem flush_on {w : World} {lb b f : Nat} {s : Lg} {bg cB : Nat} {A : Option Addr} {cT : Nat} {C : Option Addr} {cC : Nat} {vs : List Pt} {Kl F : Nat → Prop} {D : Dk} (h : LD w lb b f s bg cB A cT C cC vs Kl D F) (hok : s.Ok) (hd : s.dead = false) (hs : s.sure ≠ s.texts.length) (hce : s.clean < s.end_) (hDk : D.Ok) (hc : D.calls ≠ 0) (hc1 : nextCalls D.calls ≠ 0) (hq : D.queue.length ≤ 1000000) (hf : f ≤ 1000000) (hfit : (f + s.segs * s.size) * 128 ≤ D.safe.length) :
    Calls Tryd.prog 8 #[.pointer (some ⟨lb, 0, none⟩)] w fun e w' => e = .returned Value.nilIface ∧ ∃ F', LD w' lb b f s.flushed bg cB A cT C cC vs Kl (D.pushed f s).flushed F' ∧ Fr (fun k => F k ∨ Kl k) w w' ∧ ∀ k, k < w.heap.size → F' k → F k := by
  have hal := hok.all_le
  have hel := hok.end_le
  have hsure := hok.sure
  have hmany := hok.many
  obtain ⟨T, hT⟩ : ∃ T, T = s.texts.length := ⟨_, rfl⟩
  obtain ⟨su, hSU⟩ : ∃ T, T = s.sure := ⟨_, rfl⟩
  obtain ⟨cl, hCL⟩ : ∃ T, T = s.clean := ⟨_, rfl⟩
  obtain ⟨E, hE⟩ : ∃ E, E = s.end_ := ⟨_, rfl⟩
  obtain ⟨L, hL⟩ : ∃ L, L = s.B.length := ⟨_, rfl⟩
  obtain ⟨a, ha⟩ : ∃ a, a = s.first := ⟨_, rfl⟩
  obtain ⟨z, hz⟩ : ∃ z, z = s.behind := ⟨_, rfl⟩
  have hLa : L = s.all := by rw [hL, hok.oct]
  have ha' : cl / 128 = a := by rw [ha, hCL]; rfl
  have hz' : (E + 127) / 128 = z := by rw [hz, hE]; rfl
  have hLP : L = (s.segs * s.size) * 128 := by rw [hLa]; unfold Lg.all Lg.n; rw [Nat.mul_assoc]
  rw [← hE, ← hLa] at hel
  rw [← hCL, ← hE] at hce
  rw [← hLa] at hal
  have hnew : s.new = (s.B.drop (a * 128)).take ((z - a) * 128) := by rw [ha, hz]; rfl
  have hHE := fun W (hW : LgP W lb b f s bg cB A cT C cC vs Kl) => hE ▸ end_log hW hok
  have HE := Lib.hid hHE
  obtain ⟨g, cap, cur, hv, -, hbl0, hcap1, hcap2, -⟩ := own_open h.log.oct (by have := hok.n_le; have := hok.all_le; rw [hok.oct]; omega)
  injection hv with hv1 hv2 hv3
  injection hv1 with hv1
  injection hv1 with hv1 _ _
  subst hv1
  subst hv3
  rw [← hL] at hcap1
  have hcm := hcap2
  unfold maxLen at hcap2
  have hzL : z * 128 ≤ L := by
    have : z ≤ s.segs * s.size := by omega
    omega
  have haz : a < z := by omega
  have hal2 : (z - a) * 128 = z * 128 - a * 128 := by rw [Nat.sub_mul]
  have hnl : s.new.length = (z - a) * 128 := by rw [hnew, List.length_take, List.length_drop, ← hL]; omega
  have hpok : (D.pushed f s).Ok := by
    unfold Dk.pushed
    refine hDk.push _ _ _ (by rw [hnl, ← ha, ← hz]; exact Nat.le_refl _) ?_
    rw [← ha, ← hz]
    refine Nat.le_trans (Nat.mul_le_mul_right _ ?_) hfit
    omega
  have HW : Hid (∀ (W : World), LD W lb b f s bg cB A cT C cC vs Kl D F → Calls Tryd.prog 33 #[.pointer (some ⟨b, 0, none⟩), .int .i64 ((f : Int) + (a : Int)), .slice (some ⟨bg, a * 128, none⟩) (z * 128 - a * 128) (cB - a * 128)] W fun e w' => e = .returned (.int .i64 0) ∧ DiskTo W b F (D.pushed f s) w') := Lib.hid (by
    intro W hW
    have hpc := (Sees.of_own hW.log.oct).piece (a * 128) (z * 128 - a * 128) (by rw [← hL]; omega)
    rw [Nat.zero_add, ← u8s_drop, ← u8s_take, ← hal2, ← hnew] at hpc
    rw [← hal2]
    have := write_good b F D (f + a) (z - a) (some ⟨bg, a * 128, none⟩) (cB - a * 128) s.new W hW.disk hDk hnl (by omega) (by unfold maxLen; omega) hpc (fun _ ad hA hF2 => by injection hA with hA; subst hA; exact hW.apart bg hF2 hW.log.kb) (by omega) (Nat.le_trans (Nat.mul_le_mul_right _ (by omega)) hfit) hc
    rw [show ((f + a : Nat) : Int) = (f : Int) + (a : Int) by omega] at this
    unfold Dk.pushed
    rw [← ha, ← hz]
    exact this)
  have hpq : (D.pushed f s).queue.length ≤ 1099511627776 := by
    show (D.queue ++ parts _ _ _).length ≤ _
    rw [List.length_append, parts, List.length_map, List.length_range, ← ha, ← hz]
    omega
  have HFL : Hid (∀ (W : World) (F' : Nat → Prop), DiskAt W b F' (D.pushed f s) → Calls Tryd.prog 34 #[.pointer (some ⟨b, 0, none⟩)] W fun e w' => e = .returned (.int .i64 0) ∧ DiskTo W b F' (D.pushed f s).flushed w') := Lib.hid (fun W F' hD => flush_good b F' (D.pushed f s) W hD hpok hpq hc1)
  have HH := Lib.hid (And.intro h hok)
  have HN := Lib.hid (And.intro hT (And.intro hSU (And.intro hCL (And.intro hE hL))))
  have c12 : w.cell? ⟨lb, 12, none⟩ = some (.bool false) := by rw [← hd]; exact h.log.top.cell 12
  have hsT : ((su : Int) == (T : Int)) = false := by rw [beq_eq_false_iff_ne, hSU, hT]; omega
  have hsN : ¬ su = T := by rw [hSU, hT]; exact hs
  have hTb : T ≤ 100000000 := by rw [hT]; exact hmany
  have hsb : su ≤ 100000000 := by rw [hSU]; exact hsure
  have haL : a * 128 ≤ z * 128 := by omega
  have hac : ¬ cB = a * 128 := by omega
  have hzc : z * 128 ≤ cB := by omega
  have hai : (cl : Int) / 128 = (a : Int) := by omega
  have hzi : ((E : Int) + 128 - 1).tdiv 128 = (z : Int) := by rw [Int.tdiv_eq_ediv_of_nonneg (by omega)]; omega
  have hwa0 : IntKind.i64.wrap (a : Int) = (a : Int) := IntWalk.i64_in _ (by omega)
  have hwz0 : IntKind.i64.wrap (z : Int) = (z : Int) := IntWalk.i64_in _ (by omega)
  have hw1 : IntKind.i64.wrap ((E : Int) + 128) = (E : Int) + 128 := IntWalk.i64_in _ (by omega)
  have hw2 : IntKind.i64.wrap ((E : Int) + 128 - 1) = (E : Int) + 128 - 1 := IntWalk.i64_in _ (by omega)
  have hfa : IntKind.i64.wrap ((f : Int) + (a : Int)) = (f : Int) + (a : Int) := IntWalk.i64_in _ (by omega)
  have hwa : IntKind.i64.wrap ((a : Int) * 128) = (a : Int) * 128 := IntWalk.i64_in _ (by omega)
  have hwz : IntKind.i64.wrap ((z : Int) * 128) = (z : Int) * 128 := IntWalk.i64_in _ (by omega)
  have hti : ((a : Int) * 128).toNat = a * 128 := by omega
  have htz : ((z : Int) * 128).toNat = z * 128 := by omega
  have h0a : 0 ≤ (a : Int) * 128 := by omega
  have h0z : 0 ≤ (z : Int) * 128 := by omega
  have hla : (a : Int) * 128 ≤ (z : Int) * 128 := by omega
  have hlz : (z : Int) * 128 ≤ (cB : Int) := by omega
  have hnz : ¬ z < a := by omega
  have hmx : max ((z : Int) * 128) 0 = (z : Int) * 128 := by omega
  clear h hok hd hs hDk hc hc1 hq hfit hT hSU hCL hE hL ha hz hLa hHE hnew hal hmany hsure hpok hpq hnl ha' hz' hLP
  go_enter Tryd.func8, Tryd.ntmps8
  go_wp2_with fail
  have H0 := Lib.hid (HH.out.1.below (Below.refl _ _).drew)
  refine region_fast [(0, true), (1, true), (2, true), (3, true), (4, true), (5, true), (6, true), (7, true), (8, true), (9, true), (10, true)] [4, 5, 6, 7, 8] 496 [(16384, 1, 0, 0), (32768, 16384, 1, 1), (65536, 32768, 2, 3), (131072, 65536, 4, 7), (262144, 1, 0, 0), (524288, 262144, 16, 16), (1048576, 524288, 32, 48), (2097152, 1048576, 64, 112), (4194304, 2097152, 128, 240), (8388608, 4325376, 264, 511), (8192, 8388608, 512, 1023)] (fun W => W = w.drew) (by kernel_rfl) (by kernel_rfl) (by kernel_rfl) rfl (by kernel_rfl) (by kernel_rfl) rfl (fun hS => ?_)
  repeat (first
    | (refine plan_read (v := ?_) rfl (fun _ _ _ h => h) rfl hS ?_ ?_; rotate_left 1; (focus (intro w' hS'; subst hS'; have e8 : w.drew.cell? ⟨lb, 8, none⟩ = some (.slice A T cT) := (by rw [HN.out.1]; exact H0.out.log.top.cell 8); have e10 : w.drew.cell? ⟨lb, 10, none⟩ = some (.int .i64 su) := (by rw [HN.out.2.1]; exact H0.out.log.top.cell 10); go_simp; try rfl)); (simp only [Act.put, List.setIfInBounds_toArray]; dsimp only [List.set_cons_zero, List.set_cons_succ]))
    | (refine plan_skip rfl (fun _ _ _ h => h) rfl hS ?_; (simp only [Act.put, List.setIfInBounds_toArray]; dsimp only [List.set_cons_zero, List.set_cons_succ])))
  refine plan_nil ?_
  clear c12
  go_wp2_with fail
  have H1 := Lib.hid (H0.out.below (Below.refl _ _).drew)
  refine region_fast [(0, true), (1, true), (2, true), (3, true), (4, true), (5, true), (6, false), (7, true), (8, true), (9, true), (10, true), (11, true)] [5, 6, 7, 8, 9, 10] 2016 [(16777216, 1, 0, 0), (33554432, 16777216, 1, 1), (67108864, 33554432, 2, 3), (134217728, 67108864, 4, 7), (268435456, 134217728, 8, 15), (536870912, 1, 0, 0), (1073741824, 536870912, 32, 32), (2147483648, 1073741824, 64, 96), (4294967296, 2147483648, 128, 224), (8589934592, 4294967296, 256, 480), (8, 268435456, 95, 127), (16, 8589934592, 2047, 2047)] (fun W => LD W lb b f s bg cB A cT C cC vs Kl D F ∧ Below w.heap.size w W) (by kernel_rfl) (by kernel_rfl) (by kernel_rfl) rfl (by kernel_rfl) (by kernel_rfl) ⟨H1.out, ((Below.refl _ _).drew).drew⟩ (fun hS => ?_)
  repeat (first
    | (refine plan_read (v := ?_) rfl (fun _ _ _ h => h) rfl hS ?_ ?_; rotate_left 1; (focus (intro w' hS'; have e7 : w'.cell? ⟨lb, 7, none⟩ = some (.int .i64 cl) := (by rw [HN.out.2.2.1]; exact hS'.1.log.top.cell 7); go_simp; try rfl)); (simp only [Act.put, List.setIfInBounds_toArray]; dsimp only [List.set_cons_zero, List.set_cons_succ]))
    | (refine plan_skip rfl (fun _ _ _ h => h) rfl hS ?_; (simp only [Act.put, List.setIfInBounds_toArray]; dsimp only [List.set_cons_zero, List.set_cons_succ])))
  refine plan_do (by rfl) (by rfl) (fun K hK => ?_)
  go_simp
  refine (HE.out _ hS.1.log).mono ?_
  rintro e w1 ⟨rfl, bel1⟩
  refine hK.out _ _ (fun _ => ⟨hS.1.below bel1, hS.2.trans (bel1.mono hS.2.size)⟩) (fun hS => ?_); clear hK K; replace hS := hS rfl; try (simp only [Act.put, List.setIfInBounds_toArray]; dsimp only [List.set_cons_zero, List.set_cons_succ])
  repeat (first
    | (refine plan_read (v := ?_) rfl (fun _ _ _ h => h) rfl hS ?_ ?_; rotate_left 1; (focus (intro w' hS'; have e7 : w'.cell? ⟨lb, 7, none⟩ = some (.int .i64 cl) := (by rw [HN.out.2.2.1]; exact hS'.1.log.top.cell 7); go_simp; try rfl)); (simp only [Act.put, List.setIfInBounds_toArray]; dsimp only [List.set_cons_zero, List.set_cons_succ]))
    | (refine plan_skip rfl (fun _ _ _ h => h) rfl hS ?_; (simp only [Act.put, List.setIfInBounds_toArray]; dsimp only [List.set_cons_zero, List.set_cons_succ])))
  refine plan_nil ?_
  have H2 := Lib.hid (And.intro (hS.1.below (Below.refl _ _).drew) hS.2.drew)
  clear hS bel1
  go_wp2_with fail
  refine region_fast [(0, true), (1, true), (2, true), (3, true), (4, true), (5, true), (6, true), (7, true), (8, true), (9, true), (10, true), (11, true), (12, true), (13, true), (14, true), (15, true), (16, true), (17, true), (18, true), (19, true), (20, true), (21, false), (22, true)] [5, 6, 7, 8, 9, 10, 11, 12, 13, 14, 15, 16, 17, 18, 19, 20] 2097120 [(17179869184, 1, 0, 0), (34359738368, 17179869184, 1, 1), (68719476736, 34359738368, 2, 3), (137438953472, 68719476736, 4, 7), (274877906944, 137438953472, 8, 15), (549755813888, 1, 0, 0), (1099511627776, 549755813888, 32, 32), (2199023255552, 1099511627776, 64, 96), (4398046511104, 2199023255552, 128, 224), (8796093022208, 4398046511104, 256, 480), (17592186044416, 8, 0, 0), (35184372088832, 26388279066624, 1536, 2016), (70368744177664, 1, 0, 0), (140737488355328, 70368744177664, 4096, 4096), (281474976710656, 140737488355328, 8192, 12288), (562949953421312, 281474976710656, 16384, 28672), (1125899906842624, 8, 0, 0), (2251799813685248, 1125899906842624, 65536, 65536), (4503599627370496, 16, 0, 0), (9007199254740992, 4503599627370496, 262144, 262144), (18014398509481984, 11821949021847552, 688128, 1044480), (36028797018963968, 18049857759477760, 1050640, 2097151), (32, 36028797018963968, 4194303, 4194303)] (fun W => W.cell? ⟨lb, 0, none⟩ = some (.pointer (some ⟨b, 0, none⟩)) ∧ W.cell? ⟨lb, 1, none⟩ = some (.int .i64 f) ∧ W.cell? ⟨lb, 4, none⟩ = some (.slice (some ⟨bg, 0, none⟩) L cB)) (by kernel_rfl) (by kernel_rfl) (by kernel_rfl) rfl (by kernel_rfl) (by kernel_rfl) ⟨H2.out.1.log.top.cell 0, H2.out.1.log.top.cell 1, by rw [HN.out.2.2.2.2]; exact H2.out.1.log.top.cell 4⟩ (fun hS => ?_)
  iterate 20 (first
    | (refine plan_read (v := ?_) rfl (fun _ _ _ h => h) rfl hS ?_ ?_; rotate_left 1; (focus (intro w' hS'; have e0 := hS'.1; have e1 := hS'.2.1; have e4 := hS'.2.2; go_simp; try rfl)); (simp only [Act.put, List.setIfInBounds_toArray]; dsimp only [List.set_cons_zero, List.set_cons_succ]))
    | (refine plan_skip rfl (fun _ _ _ h => h) rfl hS ?_; (simp only [Act.put, List.setIfInBounds_toArray]; dsimp only [List.set_cons_zero, List.set_cons_succ])))
  refine plan_read (v := Value.slice (some ⟨bg, a * 128, none⟩) (z * 128 - a * 128) (cB - a * 128)) rfl (fun _ _ _ h => h) rfl hS ?_ ?_; (focus (intro w' hS'; go_simp; first | done | simp [hti, htz, h0a, h0z, hla, hlz, hac, hmx, hnz] | (simp; omega))); (simp only [Act.put, List.setIfInBounds_toArray]; dsimp only [List.set_cons_zero, List.set_cons_succ])
  refine plan_do (by rfl) (by rfl) (fun K hK => ?_)
  go_simp
  refine (HW.out _ H2.out.1).mono ?_
  rintro e w3 ⟨rfl, hd⟩
  obtain ⟨F3, l3, f3, s3⟩ := H2.out.1.move hd
  have HF3 := Lib.hid (HFL.out w3 F3 l3.disk)
  have c0 : w3.cell? ⟨lb, 0, none⟩ = some (.pointer (some ⟨b, 0, none⟩)) := l3.log.top.cell 0
  have H4 := Lib.hid (And.intro l3 (And.intro f3 s3))
  clear hS
  have hS := And.intro c0 (And.intro (l3.log.top.cell 1 : w3.cell? ⟨lb, 1, none⟩ = some (.int .i64 f)) (by rw [HN.out.2.2.2.2]; exact l3.log.top.cell 4 : w3.cell? ⟨lb, 4, none⟩ = some (.slice (some ⟨bg, 0, none⟩) L cB)))
  clear hd l3 f3 s3
  refine hK.out _ _ (fun h => by cases h) (fun _ => ?_); clear hK K; try (simp only [Act.put, List.setIfInBounds_toArray]; dsimp only [List.set_cons_zero, List.set_cons_succ])
  repeat (first
    | (refine plan_read (v := ?_) rfl (fun _ _ _ h => h) rfl hS ?_ ?_; rotate_left 1; (focus (intro w' hS'; go_simp; try rfl)); (simp only [Act.put, List.setIfInBounds_toArray]; dsimp only [List.set_cons_zero, List.set_cons_succ]))
    | (refine plan_skip rfl (fun _ _ _ h => h) rfl hS ?_; (simp only [Act.put, List.setIfInBounds_toArray]; dsimp only [List.set_cons_zero, List.set_cons_succ])))
  refine plan_nil ?_
  clear hS
  go_wp2_with fail
  refine HF3.out.mono ?_
  rintro e w4 ⟨rfl, hd⟩
  obtain ⟨F4, l4, f4, s4⟩ := H4.out.1.move hd
  have H5 := Lib.hid (And.intro l4 (And.intro f4 s4))
  clear hd l4 f4 s4 c0
  go_wp2_with fail
  have H5d := Lib.hid (H5.out.1.below (Below.refl _ _).drew)
  refine region_free [0, 1, 2, 7] [(3, true), (4, true), (5, true), (6, true), (8, false), (9, true), (10, true), (11, false), (12, false), (13, false), (14, false)] [8] 256 [(4722366482869645213696, 1, 0, 0), (9444732965739290427392, 1, 0, 0), (18889465931478580854784, 1, 0, 0), (37778931862957161709568, 18889465931478580854784, 4, 4), (75557863725914323419136, 37778931862957161709568, 8, 12), (151115727451828646838272, 75557863725914323419136, 16, 28), (302231454903657293676544, 151115727451828646838272, 32, 60), (604462909807314587353088, 1, 0, 0), (1208925819614629174706176, 604462909807314587353088, 128, 128), (2417851639229258349412352, 4722366482869645213696, 381, 509), (4835703278458516698824704, 2417851639229258349412352, 893, 1021), (0, 5137934733362173992501248, 1405, 2045), (9671406556917033397649408, 9444732965739290427392, 4095, 4095), (19342813113834066795298816, 9671406556917033397649408, 8191, 8191), (0, 20551738933448695970004992, 12287, 16383)] (fun W => LgP W lb b f s bg cB A cT C cC vs Kl ∧ Below w4.heap.size w4 W) (by kernel_rfl) (by kernel_rfl) (by kernel_rfl) rfl (by kernel_rfl) (by kernel_rfl) ⟨H5d.out.log, (Below.refl _ _).drew⟩ (fun hS => ?_)
  repeat (refine free_read (v := ?_) rfl (fun _ _ _ h => h) rfl ?_ ?_; rotate_left 1; (focus (intro w'; go_simp; try rfl)); (simp only [Act.put, List.setIfInBounds_toArray]; dsimp only [List.set_cons_zero, List.set_cons_succ]))
  refine free_nil ?_
  intro _
  repeat (first
    | (refine plan_read (v := ?_) rfl (fun _ _ _ h => h) rfl hS ?_ ?_; rotate_left 1; (focus (intro w' hS'; have e8 : w'.cell? ⟨lb, 8, none⟩ = some (.slice A T cT) := (by rw [HN.out.1]; exact hS'.1.top.cell 8); go_simp; try rfl)); (simp only [Act.put, List.setIfInBounds_toArray]; dsimp only [List.set_cons_zero, List.set_cons_succ]))
    | (refine plan_skip rfl (fun _ _ _ h => h) rfl hS ?_; (simp only [Act.put, List.setIfInBounds_toArray]; dsimp only [List.set_cons_zero, List.set_cons_succ])))
  refine plan_do (by rfl) (by rfl) (fun K hK => ?_)
  go_simp
  refine (HE.out _ hS.1).mono ?_
  rintro e w5 ⟨rfl, bel5⟩
  refine hK.out _ _ (fun _ => ⟨hS.1.below bel5, hS.2.trans (bel5.mono hS.2.size)⟩) (fun hS => ?_); clear hK K; replace hS := hS rfl; try (simp only [Act.put, List.setIfInBounds_toArray]; dsimp only [List.set_cons_zero, List.set_cons_succ])
  repeat (first
    | (refine plan_read (v := ?_) rfl (fun _ _ _ h => h) rfl hS ?_ ?_; rotate_left 1; (focus (intro w' hS'; go_simp; try rfl)); (simp only [Act.put, List.setIfInBounds_toArray]; dsimp only [List.set_cons_zero, List.set_cons_succ]))
    | (refine plan_skip rfl (fun _ _ _ h => h) rfl hS ?_; (simp only [Act.put, List.setIfInBounds_toArray]; dsimp only [List.set_cons_zero, List.set_cons_succ])))
  have b5 := hS.1.top
  have c10 : w5.cell? ⟨lb, 10, none⟩ = some (.int .i64 su) := by rw [HN.out.2.1]; exact b5.cell 10
  have f10 : w5.frozen? ⟨lb, 10, none⟩ = false := b5.frozen 10
  have H6 := Lib.hid hS
  refine plan_do (by rfl) (by rfl) (fun K hK => ?_)
  go_simp
  refine hK.out _ _ (fun h => by cases h) (fun _ => ?_); clear hK K; try (simp only [Act.put, List.setIfInBounds_toArray]; dsimp only [List.set_cons_zero, List.set_cons_succ])
  have b6 := b5.set_ 10 (.int .i64 T)
  have g6 : Fr (fun k => k = lb) w5 _ := Fr.setCell w5 ⟨lb, 10, none⟩ (.int .i64 T) rfl
  clear b5 hS
  refine plan_do (by rfl) (by rfl) (fun K hK => ?_)
  go_simp
  refine hK.out _ _ (fun h => by cases h) (fun _ => ?_); clear hK K; try (simp only [Act.put, List.setIfInBounds_toArray]; dsimp only [List.set_cons_zero, List.set_cons_succ])
  refine plan_do (by rfl) (by rfl) (fun K hK => ?_)
  go_simp
  refine hK.out _ _ (fun h => by cases h) (fun _ => ?_); clear hK K; try (simp only [Act.put, List.setIfInBounds_toArray]; dsimp only [List.set_cons_zero, List.set_cons_succ])
  have c7 : (w5.setCell ⟨lb, 10, none⟩ (.int .i64 T)).cell? ⟨lb, 7, none⟩ = some (.int .i64 cl) := by rw [HN.out.2.2.1]; exact b6.cell 7
  have f7 : (w5.setCell ⟨lb, 10, none⟩ (.int .i64 T)).frozen? ⟨lb, 7, none⟩ = false := b6.frozen 7
  refine plan_do (by rfl) (by rfl) (fun K hK => ?_)
  go_simp
  refine hK.out _ _ (fun h => by cases h) (fun _ => ?_); clear hK K; try (simp only [Act.put, List.setIfInBounds_toArray]; dsimp only [List.set_cons_zero, List.set_cons_succ])
  refine plan_nil ?_
  have b7 := b6.set_ 7 (.int .i64 E)
  have g7 : Fr (fun k => k = lb) w5 _ := g6.trans (Fr.setCell (F := fun k => k = lb) _ ⟨lb, 7, none⟩ (.int .i64 E) rfl) (fun _ _ h => h)
  go_wp2_with fail
  go_ret
  have k1 := H2.out.2.size
  have k2 := H4.out.2.1.size
  have k3 := H5.out.2.1.size
  have k4 := H6.out.2.size
  refine ⟨rfl, F4, ⟨?_, ?_, H5.out.1.apart, fun k hk => ?_, fun k hk => ?_⟩, ?_, fun k hk hF => ?_⟩
  · refine H6.out.1.own (s' := s.flushed) rfl rfl rfl ?_ g7
    rw [show s.flushed.sure = T from HN.out.1.symm, show s.flushed.clean = E from HN.out.2.2.2.1.symm]
    exact b7
  · exact ((H5.out.1.disk.fr (Fr.of_below H6.out.2 (fun _ => False)) (fun _ _ h => h)).fr g7 (fun k hk e => H5.out.1.apart k hk (e ▸ H5.out.1.log.kl)))
  · exact Nat.lt_of_lt_of_le (H5.out.1.flt k hk) (Nat.le_trans k4 g7.size)
  · exact Nat.lt_of_lt_of_le (H5.out.1.klt k hk) (Nat.le_trans k4 g7.size)
  · have g1 : Fr (fun k => F k ∨ Kl k) w w1.drew := Fr.of_below H2.out.2 _
    have g3 : Fr (fun k => F k ∨ Kl k) w w3 := g1.trans (w3 := w3) (G := F) ⟨H4.out.2.1.os, H4.out.2.1.tape, H4.out.2.1.output, H4.out.2.1.size, H4.out.2.1.block⟩ (fun _ _ h => .inl h)
    have g4 : Fr (fun k => F k ∨ Kl k) w w4 := g3.trans H5.out.2.1 (fun k hk hF => .inl (H4.out.2.2 k (Nat.lt_of_lt_of_le hk k1) hF))
    exact (g4.trans (Fr.of_below H6.out.2 Kl) (fun _ _ h => .inr h)).trans g7 (fun k hk e => by rw [e]; exact .inr H6.out.1.kl)
  · have q1 : k < w1.drew.heap.size := Nat.lt_of_lt_of_le hk k1
    exact H4.out.2.2 k q1 (H5.out.2.2 k (Nat.lt_of_lt_of_le q1 k2) hF)
end Go.Proofs.YtldgnckchlbadaaDoor
