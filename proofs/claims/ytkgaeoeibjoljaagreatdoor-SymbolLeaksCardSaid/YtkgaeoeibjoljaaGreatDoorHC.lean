/-
  awake.
  A run opens its table and its log.
-/
import Derived.Test.YtkgaeoeibjoljaaGreatDoorHB
import Derived.Test.YtkgaeoeibjoljaaGreatDoorGM
import Derived.Test.YtkgaeoeibjoljaaGreatDoorHA
namespace Go.Proofs.YtkgaeoeibjoljaaGreatDoor
section
set_option maxRecDepth 4000
open Go.RowKit
theorem keD_none {e : Option Ke} (h : keD e = none) : e = none := by
 cases e with
 | none => rfl
 | some e => cases h
end
section
set_option maxRecDepth 4000
open Go.RowKit
structure RPre (w : World) (base : Nat) (S : St) (a : Loc) (v4 v5 : Value) (F P : Nat -> Prop) (T : Nat -> Nat) : Prop where
 top : Blk w a.r 91 #[.pointer (some ⟨a.b, 0, none⟩), .int .i64 S.slots, .int .i64 S.segs, .int .i64 S.size, v4, v5, .pointer (some ⟨a.p, 0, none⟩), .int .i64 S.atoms, .slice a.eA S.eps.length a.eC]
 eps : w.ownsRow base 101 2 (.slice a.eA S.eps.length a.eC) S.eps.length (ecs S.eps)
 disk : DiskAt w a.b F S.D
 pool : PoolIn w base a.p S.l P
 tF : ∀ k, F k -> T k = 1 /\ base <= k /\ k < w.heap.size
 tP : ∀ k, P k -> T k = 4 /\ base <= k /\ k < w.heap.size
 tR : ∀ k, (k = a.r \/ (Value.slice a.eA S.eps.length a.eC).ownBlock = some k) -> T k = 5 /\ base <= k /\ k < w.heap.size
 tZ : ∀ k o, S.far k = some o -> T k = 0 /\ w.heap[k]? = some o
theorem RPre.below {w w' : World} {base : Nat} {S : St} {a : Loc} {v4 v5 : Value} {F P : Nat -> Prop} {T : Nat -> Nat} (h : RPre w base S a v4 v5 F P T) (hb : Below w.heap.size w w') : RPre w' base S a v4 v5 F P T :=
 ⟨h.top.below hb (h.tR _ (.inl rfl)).2.2, own_below h.eps hb, h.disk.below hb, h.pool.below hb,
  fun k hk => ⟨(h.tF k hk).1, (h.tF k hk).2.1, Nat.lt_of_lt_of_le (h.tF k hk).2.2 hb.size⟩, fun k hk => ⟨(h.tP k hk).1, (h.tP k hk).2.1, Nat.lt_of_lt_of_le (h.tP k hk).2.2 hb.size⟩,
  fun k hk => ⟨(h.tR k hk).1, (h.tR k hk).2.1, Nat.lt_of_lt_of_le (h.tR k hk).2.2 hb.size⟩, fun k o hk => ⟨(h.tZ k o hk).1, (hb.block k (heap_lt (h.tZ k o hk).2)).trans (h.tZ k o hk).2⟩⟩
theorem Rn.pre {w : World} {base : Nat} {S : St} {a : Loc} {F K L P : Nat -> Prop} {T : Nat -> Nat} (h : Rn w base S a F K L P T) : RPre w base S a (.pointer (some ⟨a.t, 0, none⟩)) (.pointer (some ⟨a.lb, 0, none⟩)) F P T := ⟨h.top, h.eps, h.disk, h.pool, h.tF, h.tP, h.tR, h.tZ⟩
open Classical in
theorem open_join {w w1 w2 : World} {base : Nat} {S : St} {a : Loc} {v4 v5 : Value} {F P : Nat -> Prop} {T : Nat -> Nat} (h : RPre w base S a v4 v5 F P T)
  {t sg : Nat} {E : List (Option Ke)} {D1 : Dk} {F1 K1 G1 : Nat -> Prop} (hst : KSt w1 t a.b sg (0 : Nat) E false D1 F1 K1 G1) (hf1 : Fr F w w1) (hG : ∀ k, k < w.heap.size -> G1 k -> F k)
  {lb : Nat} {s : Lg} {bg cB : Nat} {A : Option Addr} {cT : Nat} {C : Option Addr} {cC : Nat} {vs : List Pt} {L : Nat -> Prop} {D2 : Dk} {F2 : Nat -> Prop} (hl : LD w2 lb a.b (2 * S.slots) s bg cB A cT C cC vs L D2 F2) (hf2 : Fr F1 w1 w2) (hF2 : ∀ k, k < w1.heap.size -> F2 k -> F1 k) (hL : ∀ k, L k -> w1.heap.size <= k) :
  w2.frozen? ⟨a.r, 4, none⟩ = false /\ w2.cell? ⟨a.r, 4, none⟩ = some v4 /\ (w2.setCell ⟨a.r, 4, none⟩ (.pointer (some ⟨t, 0, none⟩))).frozen? ⟨a.r, 5, none⟩ = false /\ (w2.setCell ⟨a.r, 4, none⟩ (.pointer (some ⟨t, 0, none⟩))).cell? ⟨a.r, 5, none⟩ = some v5 /\
  ∃ T', Rn ((w2.setCell ⟨a.r, 4, none⟩ (.pointer (some ⟨t, 0, none⟩))).setCell ⟨a.r, 5, none⟩ (.pointer (some ⟨lb, 0, none⟩))) base { S with E := E, dead := false, D := D2, s := s } { a with t := t, sg := sg, lb := lb, bg := bg, cB := cB, A := A, cT := cT, C := C, cC := cC, vs := vs } F2 K1 L P T' /\
   Below base w ((w2.setCell ⟨a.r, 4, none⟩ (.pointer (some ⟨t, 0, none⟩))).setCell ⟨a.r, 5, none⟩ (.pointer (some ⟨lb, 0, none⟩))) := by
 have hr := h.tR a.r (.inl rfl)
 have hz1 := hf1.size
 have hz2 := hf2.size
 have hF1 : ∀ k, k < w.heap.size -> F1 k -> T k = 1 := fun k hk h1 => (h.tF k (hG k hk (hst.fin k h1).1)).1
 have hK1 : ∀ k, k < w.heap.size -> K1 k -> T k = 1 := fun k hk h1 => (h.tF k (hG k hk (hst.kin k h1).1)).1
 have hFb : ∀ k, F1 k -> base <= k := fun k h1 => by
  by_cases hk : k < w.heap.size
  ·exact (h.tF k (hG k hk (hst.fin k h1).1)).2.1
  ·omega
 have hKb : ∀ k, K1 k -> base <= k := fun k h1 => by
  by_cases hk : k < w.heap.size
  ·exact (h.tF k (hG k hk (hst.kin k h1).1)).2.1
  ·omega
 have hR1 : ∀ k, T k = 5 -> k < w.heap.size -> ¬ F1 k := fun k h5 hk h1 => by have := hF1 k hk h1; omega
 have hR0 : ∀ k, T k = 5 -> ¬ F k := fun k h5 h1 => by have := (h.tF k h1).1; omega
 have top2 := (h.top.fr hf1 (hR0 _ hr.1)).fr hf2 (hR1 _ hr.1 hr.2.2)
 have eps2 := own_fr (own_fr h.eps hf1 (fun g hg => hR0 g (h.tR g (.inr hg)).1)) hf2 (fun g hg => hR1 g (h.tR g (.inr hg)).1 (h.tR g (.inr hg)).2.2)
 have hpl := pool_fr (pool_restrict (pool_fr h.pool hf1 (fun k hk e => by have := (h.tP k hk).1; have := (h.tF k e).1; omega))) hf2 (fun k hk e => by have h1 := h.tP k hk.1; have := hF1 k h1.2.2 e; omega)
 have hpl2 : PoolIn w2 base a.p S.l P := hpl.mono (fun k hk => hk.1)
 have tab2 : KAt w2 t a.b sg (0 : Nat) E false K1 := hst.tab.fr hf2 (fun k hk e => hst.apart k e hk)
 have hrK : ¬ K1 a.r := fun e => by have := hK1 _ hr.2.2 e; omega
 have hrF : ¬ F2 a.r := fun e => by have := hF1 _ hr.2.2 (hF2 _ (by omega) e); omega
 have hrL : ¬ L a.r := fun e => by have := hL _ e; omega
 have hrP : ¬ P a.r := fun e => by have := (h.tP _ e).1; omega
 obtain ⟨wa, hwa⟩ : ∃ wa, wa = w2.setCell ⟨a.r, 4, none⟩ (.pointer (some ⟨t, 0, none⟩)) := ⟨_, rfl⟩
 have topa := hwa ▸ top2.set_ 4 (.pointer (some ⟨t, 0, none⟩))
 have hfa : Fr (· = a.r) w2 wa := hwa ▸ Fr.setCell (F := (· = a.r)) w2 ⟨a.r, 4, none⟩ _ rfl
 obtain ⟨wb, hwb⟩ : ∃ wb, wb = wa.setCell ⟨a.r, 5, none⟩ (.pointer (some ⟨lb, 0, none⟩)) := ⟨_, rfl⟩
 have topb := hwb ▸ topa.set_ 5 (.pointer (some ⟨lb, 0, none⟩))
 have hfb : Fr (· = a.r) wa wb := hwb ▸ Fr.setCell (F := (· = a.r)) wa ⟨a.r, 5, none⟩ _ rfl
 rw [<- hwa, <- hwb]
 have hfs : Fr (· = a.r) w2 wb := hfa.trans hfb (fun _ _ h => h)
 have hzb : wb.heap.size = w2.heap.size := by rw [hwb, hwa]; simp [World.setCell]
 have hT : ∀ k, k < w.heap.size -> T k ≠ 1 -> (if F2 k then 1 else if K1 k then 2 else if L k then 3 else T k) = T k := fun k hk h1 => by
  rw [if_neg (fun e => h1 (hF1 k hk (hF2 k (by omega) e))), if_neg (fun e => h1 (hK1 k hk e)), if_neg (fun e => by have := hL k e; omega)]
 refine ⟨top2.frozen 4, top2.cell 4, topa.frozen 5, ?_, fun k => if F2 k then 1 else if K1 k then 2 else if L k then 3 else T k, ⟨?_, ?_, ?_, ?_, ?_, ?_, fun k hk => ?_, fun k hk => ?_, fun k hk => ?_, fun k hk => ?_, fun k hk => ?_, fun k o hk => ?_⟩, ?_⟩
 ·have := topa.cell 5
  rw [this]
  simp
 ·have e : (((#[.pointer (some ⟨a.b, 0, none⟩), .int .i64 S.slots, .int .i64 S.segs, .int .i64 S.size, v4, v5, .pointer (some ⟨a.p, 0, none⟩), .int .i64 S.atoms, .slice a.eA S.eps.length a.eC] : Array Value).setIfInBounds 4 (.pointer (some ⟨t, 0, none⟩))).setIfInBounds 5 (.pointer (some ⟨lb, 0, none⟩))) = rcells { S with E := E, dead := false, D := D2, s := s } { a with t := t, sg := sg, lb := lb, bg := bg, cB := cB, A := A, cT := cT, C := C, cC := cC, vs := vs } := by unfold rcells; simp
  rw [e] at topb
  exact topb
 ·exact own_fr eps2 hfs (own_ne eps2 top2 (by decide))
 ·exact hl.disk.fr hfs (fun k hk e => hrF (by subst e; exact hk))
 ·exact tab2.fr hfs (fun k hk e => hrK (by subst e; exact hk))
 ·exact hl.log.fr hfs (fun k hk e => hrL (by subst e; exact hk))
 ·exact pool_fr hpl2 hfs (fun k hk e => hrP (by subst e; exact hk))
 ·rw [hzb]
  simp only [hk, if_true]
  refine ⟨trivial, ?_, hl.flt k hk⟩
  by_cases hkl : k < w1.heap.size
  ·exact hFb k (hF2 k hkl hk)
  ·omega
 ·rw [hzb]
  have hkl := (hst.kin k hk).2
  have hn : ¬ F2 k := fun e => hst.apart k (hF2 k hkl e) hk
  simp only [hn, hk, if_true, if_false]
  exact ⟨trivial, hKb k hk, by omega⟩
 ·rw [hzb]
  have h1 := hL k hk
  have hn : ¬ F2 k := fun e => hl.apart k e hk
  have hn2 : ¬ K1 k := fun e => by have := (hst.kin k e).2; omega
  simp only [hn, hn2, hk, if_true, if_false]
  exact ⟨trivial, by omega, hl.klt k hk⟩
 ·rw [hzb]
  have h1 := h.tP k hk
  rw [hT k h1.2.2 (by omega)]
  exact ⟨h1.1, h1.2.1, by omega⟩
 ·rw [hzb]
  have h1 := h.tR k hk
  rw [hT k h1.2.2 (by omega)]
  exact ⟨h1.1, h1.2.1, by omega⟩
 ·obtain ⟨g1, g2⟩ := h.tZ k o hk
  have g3 := heap_lt g2
  refine ⟨(hT k g3 (by omega)).trans g1, ?_⟩
  rw [hfs.block k (by omega) (fun e => by subst e; omega), hf2.block k (by omega) (fun e => by have := hF1 k g3 e; omega), hf1.block k g3 (fun e => by have := (h.tF k e).1; omega)]
  exact g2
 ·have hb : base <= w.heap.size := by omega
  exact ((hf1.below hb (fun k hk => (h.tF k hk).2.1)).trans (hf2.below (Nat.le_trans hb hz1) hFb)).trans (hfs.below (Nat.le_trans hb (Nat.le_trans hz1 hz2)) (fun k e => by rw [e]; exact hr.2.1))
theorem Fr.of_drew {F : Nat -> Prop} {w w' : World} (h : Fr F w.drew w') : Fr F w w' := ⟨h.os, h.tape, h.output, h.size, h.block⟩
set_option maxHeartbeats 4000000 in
theorem open_r {w : World} {base : Nat} {S : St} {a : Loc} {v4 v5 : Value} {F P : Nat -> Prop} {T : Nat -> Nat} (h : RPre w base S a v4 v5 F P T) (hT : TabsB base w) (hbt : ∀ k, base <= k -> k ≠ 3 /\ k ≠ 2) (hsl : S.slots <= 8) (hsg : 1 <= S.segs /\ S.segs <= 8) (hsz : 2 <= S.size /\ S.size <= 16)
  (Q : List (Option Ke) -> Dk -> Prop) (HK : Calls Tryz.prog 77 #[.pointer (some ⟨a.b, 0, none⟩), .int .i64 0, .int .i64 S.slots] w.drew fun e w' => ∃ t sg E D', e = .returned (.tuple #[.pointer (some ⟨t, 0, none⟩), Value.nilIface]) /\ KTo w.drew F t a.b sg (0 : Nat) E false D' w' /\ Q E D')
  (hQ : ∀ E D', Q E D' -> D'.Ok /\ D'.calls = -1 /\ D'.queue = [] /\ (2 * S.slots + S.segs * S.size) * 128 <= D'.safe.length) :
  Calls Tryz.prog 48 #[.pointer (some ⟨a.r, 0, none⟩)] w fun e w' => e = .returned Value.nilIface /\ (∃ E D' a' F' K' L' T', Q E D' /\ a'.r = a.r /\ Rn w' base { S with E := E, dead := false, D := D'.opened (2 * S.slots) S.segs S.size, s := Lg.opened S.segs S.size (D'.piece (2 * S.slots) (S.segs * S.size)) } a' F' K' L' P T') /\ Below base w w' := by
 have c0 : w.cell? ⟨a.r, 0, none⟩ = some (.pointer (some ⟨a.b, 0, none⟩)) := h.top.cell 0
 have c1 : w.cell? ⟨a.r, 1, none⟩ = some (.int .i64 S.slots) := h.top.cell 1
 obtain ⟨N, hN⟩ : ∃ N, N = S.slots := ⟨_, rfl⟩
 obtain ⟨M, hM⟩ : ∃ M, M = 2 * S.slots := ⟨_, rfl⟩
 obtain ⟨sg, hsgE⟩ : ∃ N, N = S.segs := ⟨_, rfl⟩
 obtain ⟨sz, hszE⟩ : ∃ N, N = S.size := ⟨_, rfl⟩
 have hmi : IntKind.i64.wrap (2 * (N : Int)) = (M : Int) := by
  rw [hM, hN]
  exact (IntWalk.i64_in _ (by omega)).trans (by omega)
 have hMb : M <= 1000000 := by omega
 have HM := Lh (Ai hN (Ai hM (Ai hsgE (Ai hszE (Ai hsg hsz)))))
 rw [<- hN] at c1 HK
 have HKO := Lh HK
 have HH := Lh (Ai h (Ai hT (Ai hbt hQ)))
 clear h hT hbt hQ HK hN hM hsgE hszE hsl hsg hsz
 go_enter Tryz.func48, Tryz.ntmps48
 go_wp2_with fail
 have c0d : w.drew.cell? ⟨a.r, 0, none⟩ = some (.pointer (some ⟨a.b, 0, none⟩)) := c0
 have c1d : w.drew.cell? ⟨a.r, 1, none⟩ = some (.int .i64 N) := c1
 refine region_fast [(0, true), (1, true), (2, true), (3, true), (4, true), (5, true), (6, true), (7, true), (8, false), (9, true), (10, true), (11, true), (12, true), (13, true)] [4, 5, 6, 7, 11, 12] 6384 [(128, 1, 0, 0), (256, 128, 1, 1), (512, 256, 2, 3), (1024, 512, 4, 7), (2048, 1, 0, 0), (4096, 2048, 16, 16), (8192, 4096, 32, 48), (16384, 8192, 64, 112), (32768, 17408, 136, 255), (64, 32768, 256, 511), (65536, 64, 512, 1023), (131072, 64, 512, 1023), (8, 65536, 2047, 2047), (16, 131072, 8191, 8191)] (fun W => W.cell? ⟨a.r, 0, none⟩ = some (.pointer (some ⟨a.b, 0, none⟩)) /\ W.cell? ⟨a.r, 1, none⟩ = some (.int .i64 N)) (by kernel_rfl) (by kernel_rfl) (by kernel_rfl) rfl (by kernel_rfl) (by kernel_rfl) ⟨c0d, c1d⟩ (fun hS => ?_)
 repeat (first
  | (refine plan_read (v := ?_) rfl (fun _ _ _ h => h) rfl hS ?_ ?_; rotate_left 1; (focus (intro w' hS'; have e0 := hS'.1; have e1 := hS'.2; go_simp; try rfl)); (simp only [Act.put, pu1]; dsimp only [pu2, pu3]))
  | (refine plan_skip rfl (fun _ _ _ h => h) rfl hS ?_; (simp only [Act.put, pu1]; dsimp only [pu2, pu3])))
 refine plan_do (by rfl) (by rfl) (fun K hK => ?_)
 go_simp
 refine HKO.out.mono ?_
 rintro e w1 ⟨t, sb, E, D1, rfl, ⟨F1, K1, G1, hst, hf1', hG⟩, hq⟩
 have hf1 : Fr F w w1 := Fr.of_drew hf1'
 have hr := HH.out.1.tR a.r (.inl rfl)
 have top1 := HH.out.1.top.fr hf1 (fun e => by have := (HH.out.1.tF _ e).1; omega)
 have d0 : w1.cell? ⟨a.r, 0, none⟩ = some (.pointer (some ⟨a.b, 0, none⟩)) := top1.cell 0
 have d1 : w1.cell? ⟨a.r, 1, none⟩ = some (.int .i64 N) := by rw [HM.out.1]; exact top1.cell 1
 have d2 : w1.cell? ⟨a.r, 2, none⟩ = some (.int .i64 sg) := by rw [HM.out.2.2.1]; exact top1.cell 2
 have d3 : w1.cell? ⟨a.r, 3, none⟩ = some (.int .i64 sz) := by rw [HM.out.2.2.2.1]; exact top1.cell 3
 have hD1 := HH.out.2.2.2 E D1 hq
 have hbw : base <= w.heap.size := by omega
 have hb1 : Below base w w1 := hf1.below hbw (fun k hk => (HH.out.1.tF k hk).2.1)
 have hFb : ∀ k, F1 k -> base <= k := fun k h1 => by
  by_cases hk : k < w.heap.size
  ·exact (HH.out.1.tF k (hG k hk (hst.fin k h1).1)).2.1
  ·omega
 have hdr : Below w1.heap.size w1 w1.drew := ⟨rfl, rfl, rfl, Nat.le_refl _, fun _ _ => rfl⟩
 have hlo := open_log a.b M sg sz D1 F1 w1.drew (hst.disk.below hdr) (fun k hk => (hst.fin k hk).2) hD1.1 hD1.2.1 hD1.2.2.1 hMb (by have := HM.out.2.2.2.2.1; rw [HM.out.2.2.1]; omega) (by have := HM.out.2.2.2.2.2; rw [HM.out.2.2.2.1]; omega) (by rw [HM.out.2.1, HM.out.2.2.1, HM.out.2.2.2.1]; exact hD1.2.2.2) ((HH.out.2.1.below hb1).below (hdr.mono hb1.size |> fun h => h.mono hbw)).here.sha (fun k hk => HH.out.2.2.1 k (hFb k hk))
 have HLO := Lh hlo
 have H1 := Lh (Ai hst (Ai hf1 (Ai hG (Ai hq hb1))))
 have hS := Ai d0 d1
 clear hst hf1' hf1 hG hq hb1 hlo hr top1 hD1 hFb hdr HKO
 refine hK.out _ _ (fun h => by cases h) (fun _ => ?_); clear hK K; try (simp only [Act.put, pu1]; dsimp only [pu2, pu3])
 repeat (first
  | (refine plan_read (v := ?_) rfl (fun _ _ _ h => h) rfl hS ?_ ?_; rotate_left 1; (focus (intro w' hS'; go_simp; try rfl)); (simp only [Act.put, pu1]; dsimp only [pu2, pu3]))
  | (refine plan_skip rfl (fun _ _ _ h => h) rfl hS ?_; (simp only [Act.put, pu1]; dsimp only [pu2, pu3])))
 refine plan_nil ?_
 go_wp2_with fail
 have q0 : w1.drew.cell? ⟨a.r, 0, none⟩ = some (.pointer (some ⟨a.b, 0, none⟩)) := d0
 have q1 : w1.drew.cell? ⟨a.r, 1, none⟩ = some (.int .i64 N) := d1
 have q2 : w1.drew.cell? ⟨a.r, 2, none⟩ = some (.int .i64 sg) := d2
 have q3 : w1.drew.cell? ⟨a.r, 3, none⟩ = some (.int .i64 sz) := d3
 refine region_fast [(0, true), (1, true), (2, true), (3, true), (4, true), (5, true), (6, true), (7, true), (8, true), (9, true), (10, true), (11, true), (12, true), (13, true), (14, true), (15, true), (16, true), (17, false), (18, true), (19, true), (20, true), (21, true), (22, true)] [4, 5, 6, 7, 8, 9, 10, 11, 12, 13, 14, 15, 16, 20, 21] 3276784 [(4194304, 1, 0, 0), (8388608, 4194304, 1, 1), (16777216, 8388608, 2, 3), (33554432, 16777216, 4, 7), (67108864, 1, 0, 0), (134217728, 67108864, 16, 16), (268435456, 134217728, 32, 48), (536870912, 268435456, 64, 112), (1073741824, 536870912, 128, 240), (2147483648, 1, 0, 0), (4294967296, 2147483648, 512, 512), (8589934592, 4294967296, 1024, 1536), (17179869184, 8589934592, 2048, 3584), (34359738368, 1, 0, 0), (68719476736, 34359738368, 8192, 8192), (137438953472, 68719476736, 16384, 24576), (274877906944, 137438953472, 32768, 57344), (549755813888, 293165072384, 69896, 131071), (2097152, 549755813888, 131072, 262143), (1099511627776, 2097152, 262144, 524287), (2199023255552, 2097152, 262144, 524287), (32, 1099511627776, 1048575, 1048575), (16, 2199023255552, 4194303, 4194303)] (fun W => (W.cell? ⟨a.r, 0, none⟩ = some (.pointer (some ⟨a.b, 0, none⟩)) /\ W.cell? ⟨a.r, 1, none⟩ = some (.int .i64 N)) /\ W.cell? ⟨a.r, 2, none⟩ = some (.int .i64 sg) /\ W.cell? ⟨a.r, 3, none⟩ = some (.int .i64 sz)) (by kernel_rfl) (by kernel_rfl) (by kernel_rfl) rfl (by kernel_rfl) (by kernel_rfl) ⟨⟨q0, q1⟩, q2, q3⟩ (fun hS => ?_)
 repeat (first
  | (refine plan_read (v := ?_) rfl (fun _ _ _ h => h) rfl hS ?_ ?_; rotate_left 1; (focus (intro w' hS'; have e0 := hS'.1.1; have e1 := hS'.1.2; have e2 := hS'.2.1; have e3 := hS'.2.2; go_simp; try rfl)); (simp only [Act.put, pu1]; dsimp only [pu2, pu3]))
  | (refine plan_skip rfl (fun _ _ _ h => h) rfl hS ?_; (simp only [Act.put, pu1]; dsimp only [pu2, pu3])))
 refine plan_do (by rfl) (by rfl) (fun K hK => ?_)
 go_simp
 refine HLO.out.mono ?_
 rintro e w2 ⟨lb, rfl, bg, cB, A, cT, C, cC, vs, K2, F2, hld, hf2', hF2, hL, -⟩
 have hf2 : Fr F1 w1 w2 := Fr.of_drew hf2'
 have hr := HH.out.1.tR a.r (.inl rfl)
 have top2 := (HH.out.1.top.fr H1.out.2.1 (fun e => by have := (HH.out.1.tF _ e).1; omega)).fr hf2 (fun e => by have := (HH.out.1.tF _ (H1.out.2.2.1 _ hr.2.2 (H1.out.1.fin _ e).1)).1; omega)
 have d0 : w2.cell? ⟨a.r, 0, none⟩ = some (.pointer (some ⟨a.b, 0, none⟩)) := top2.cell 0
 have d1 : w2.cell? ⟨a.r, 1, none⟩ = some (.int .i64 N) := by rw [HM.out.1]; exact top2.cell 1
 have d2 : w2.cell? ⟨a.r, 2, none⟩ = some (.int .i64 sg) := by rw [HM.out.2.2.1]; exact top2.cell 2
 have d3 : w2.cell? ⟨a.r, 3, none⟩ = some (.int .i64 sz) := by rw [HM.out.2.2.2.1]; exact top2.cell 3
 have hS : (_ /\ _) /\ _ /\ _ := ⟨⟨d0, d1⟩, d2, d3⟩
 rw [HM.out.2.1, HM.out.2.2.1, HM.out.2.2.2.1] at hld
 obtain ⟨x1, x2, x3, x4, T', hR, hbel⟩ := open_join HH.out.1 H1.out.1 H1.out.2.1 H1.out.2.2.1 hld hf2 hF2 hL
 have HX := Lh (Ai hR hbel)
 clear hld hf2 hf2' hF2 hL hr top2 hR hbel HLO q0 q1 q2 q3
 refine hK.out _ _ (fun h => by cases h) (fun _ => ?_); clear hK K; try (simp only [Act.put, pu1]; dsimp only [pu2, pu3])
 repeat (first
  | (refine plan_read (v := ?_) rfl (fun _ _ _ h => h) rfl hS ?_ ?_; rotate_left 1; (focus (intro w' hS'; go_simp; try rfl)); (simp only [Act.put, pu1]; dsimp only [pu2, pu3]))
  | (refine plan_skip rfl (fun _ _ _ h => h) rfl hS ?_; (simp only [Act.put, pu1]; dsimp only [pu2, pu3])))
 refine plan_nil ?_
 go_wp2_with fail
 go_ret
 exact ⟨rfl, ⟨E, D1, { a with t := t, sg := sb, lb := lb, bg := bg, cB := cB, A := A, cT := cT, C := C, cC := cC, vs := vs }, F2, K1, K2, T', H1.out.2.2.2.1, rfl, HX.out.1⟩, HX.out.2⟩
end
end Go.Proofs.YtkgaeoeibjoljaaGreatDoor
