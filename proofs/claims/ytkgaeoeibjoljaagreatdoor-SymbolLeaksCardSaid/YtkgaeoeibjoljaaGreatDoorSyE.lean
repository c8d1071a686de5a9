/-
  A run's new epoch.
-/
import Derived.Test.YtkgaeoeibjoljaaGreatDoorGW
import Derived.Test.YtkgaeoeibjoljaaGreatDoorLog5
import Derived.Test.YtkgaeoeibjoljaaGreatDoorGM
import Derived.Deep.DeepCutAuto
namespace Go.Proofs.YtkgaeoeibjoljaaGreatDoor
set_option maxRecDepth 4000
open Go.RowKit
theorem name_anyI (m : Int) (n : Nat) (hm : m = n) (w : World) (hn : n <= 9223372036854775807) :
  Calls Tryz.prog 7 #[.int .i64 m] w fun e w' => (∃ v, e = .returned v /\ w'.ownsRow w.heap.size 5 1 v 32 (u8s (nm n))) /\ Below w.heap.size w w' := by
 subst hm
 exact name_any n w hn
theorem own_addr {w : World} {base n c : Nat} {a : Addr} {xs : List Value} {e : TypeId} (h : w.ownsRow base e 1 (.slice (some a) n c) n xs) (h0 : 0 < n) : a.block < w.heap.size := by
 obtain ⟨g, cap, cur, hv, -⟩ := own_open h h0
 injection hv with hv
 injection hv with hv
 rw [hv] at h ⊢
 exact (h.lt g rfl).2
theorem nm_inj {n m : Nat} (hn : n < 18446744073709551616) (hm : m < 18446744073709551616) (h : nm n = nm m) : n = m := by
 have := congrArg (fun l => vl (l.drop 24)) h
 simp only [nm] at this
 rw [List.drop_left' mk24_length, List.drop_left' mk24_length, vl_be, vl_be] at this
 rw [Nat.mod_eq_of_lt hn, Nat.mod_eq_of_lt hm] at this
 exact this
def TabsB (base : Nat) (w : World) : Prop := ∀ w', Below base w w' -> TabsS w'
theorem TabsB.below {base : Nat} {w w' : World} (h : TabsB base w) (hb : Below base w w') : TabsB base w' := fun w2 h2 => h w2 (hb.trans h2)
theorem TabsB.here {base : Nat} {w : World} (h : TabsB base w) : TabsS w := h w (Below.refl _ _)
theorem TabsS.at_ {w : World} (h : TabsS w) : TabsB w.heap.size w := fun _ hb => h.below (Nat.le_refl _) hb
structure PlOk (S : St) (k : Nat) : Prop where
 pool : Pool S.l
 plen : S.l.length <= k
 fresh : ∀ t ∈ S.l, t.k = 1 -> t.a < S.atoms
 alen : S.atoms <= k
theorem fresh_snoc {l : List Tm} {n : Nat} (h : ∀ t ∈ l, t.k = 1 -> t.a < (n : Nat)) : ∀ t ∈ l ++ [atm n], t.k = 1 -> t.a < ((n + 1 : Nat) : Int) := fun t ht hk => by
 rcases List.mem_append.1 ht with ht | ht
 ·have := h t ht hk; omega
 ·obtain rfl := List.mem_singleton.1 ht
  show ((n : Nat) : Int) < _
  omega
theorem fit_atm (n : Nat) (h : n <= 1000000) : fitT (atm n) := by unfold fitT atm; simp only; omega
theorem PlOk.atom {S : St} {k : Nat} (h : PlOk S k) (hk : k <= 1000) : PlOk { S with l := S.l ++ [atm S.atoms], atoms := S.atoms + 1 } (k + 1) :=
 ⟨h.pool.snoc (okT_atm _ _) (atm_new h.fresh) (fit_atm _ (by have := h.alen; omega)), by have := h.plen; simp; omega, fresh_snoc h.fresh, by have := h.alen; show S.atoms + 1 <= k + 1; omega⟩
theorem StOk.pl {S : St} (h : StOk S) : PlOk S 900 := ⟨h.pool, h.plen, h.fresh, h.alen⟩
theorem KeyRel.keep {S S1 : St} {bk n : Nat} {ok : Bool} (ho : StOk S) (h : KeyRel S bk n S1 ok) : S1.slots = S.slots /\ S1.segs = S.segs /\ S1.size = S.size /\ S1.s = S.s /\ S1.eps = S.eps /\ PlOk S1 901 /\ n < S1.l.length := by
 rcases h with ⟨e0, h1, h2, h3, h4, rfl, rfl⟩ | ⟨h1, rfl, h3⟩
 ·refine ⟨rfl, rfl, rfl, rfl, rfl, ⟨ho.pool, by have := ho.plen; omega, ho.fresh, by have := ho.alen; omega⟩, ?_⟩
  obtain ⟨m, hm, hk⟩ := ho.keys e0 h1
  rw [hk] at h3
  have := nm_inj (by have := ho.plen; omega) (by omega) h3
  omega
 ·have hp := ho.pl.atom (by omega)
  rcases h3 with ⟨-, rfl, -⟩ | ⟨-, k, -, -, ⟨-, e', -, -, rfl⟩ | ⟨-, rfl⟩⟩
  ·exact ⟨rfl, rfl, rfl, rfl, rfl, hp, by simp⟩
  ·exact ⟨rfl, rfl, rfl, rfl, rfl, ⟨hp.pool, hp.plen, hp.fresh, hp.alen⟩, by simp⟩
  ·exact ⟨rfl, rfl, rfl, rfl, rfl, ⟨hp.pool, hp.plen, hp.fresh, hp.alen⟩, by simp⟩
def sel (n m : Nat) : Tm := ⟨4, 0, n, m⟩
theorem sel_new {l : List Tm} (h : Pool l) {n m : Nat} (hm : l.length <= m + 1) : sel n m ∉ l := fun hx => by
 obtain ⟨i, hi, he⟩ := List.mem_iff_getElem.1 hx
 have h1 := h.right i _ (List.getElem?_eq_getElem hi)
 rw [he] at h1
 have h2 := okT_y h1 (show (4 : Int) ≠ 1 by decide) (show (4 : Int) ≠ 3 by decide)
 simp only [sel] at h2
 omega
theorem okT_sel {k n m : Nat} (hn : n < k) (hm : m < k) : okT k (sel n m) = true := (okT_iff k (sel n m)).2 (.inr (.inr ⟨.inr rfl, rfl, by simp [sel], by simp only [sel]; omega, by simp [sel], by simp only [sel]; omega⟩))
theorem wfT_sel (n m : Nat) (hn : n <= 1000000) (hm : m <= 1000000) : wfT (sel n m) := ⟨show (Lit.int .i64 4).wf = true by decide, show (Lit.int .i64 0).wf = true by decide, WalkArith.wf_i64 (by show -9223372036854775808 <= (n : Int) /\ (n : Int) <= 9223372036854775807; omega), WalkArith.wf_i64 (by show -9223372036854775808 <= (m : Int) /\ (m : Int) <= 9223372036854775807; omega)⟩
theorem fit_sel (n m : Nat) : fitT (sel n m) := by unfold fitT sel; simp only; omega
def wrp (n : Nat) : List UInt8 := nm n ++ List.replicate 16 0
theorem wrp_length (n : Nat) : (wrp n).length = 48 := by rw [wrp, List.length_append, nm_length, List.length_replicate]
theorem wrp_u8s (n : Nat) : u8s (wrp n) = u8s (nm n) ++ List.replicate 16 (.int .u8 0) := by
 unfold wrp u8s
 rw [List.map_append, List.map_replicate]
 rfl
def EpRel (S : St) (bk res : Nat) (S' : St) (ok : Bool) : Prop :=
 (ok = false /\ res = 0 /\ ∃ n, KeyRel S bk n S' false) \/
 ∃ n S1, KeyRel S bk n S1 true /\
  ((ok = false /\ res = 0 /\ S1.s.err 144 ≠ 0 /\ S' = { S1 with l := S1.l ++ [atm S1.atoms] ++ [sel n S1.l.length], atoms := S1.atoms + 1 }) \/
   (ok = true /\ res = S1.eps.length /\ S1.s.err 144 = 0 /\ S' = { S1 with l := S1.l ++ [atm S1.atoms] ++ [sel n S1.l.length], atoms := S1.atoms + 1, s := S1.s.append (recb S1.eps.length bk (wrp (S1.l.length + 1))), eps := S1.eps ++ [((bk : Int), (S1.l.length : Int))] }))
def EpPost (base : Nat) (S : St) (r bk : Nat) (e : Ending) (w' : World) : Prop := ∃ res v ok S' a' F' K' L' P' T', e = .returned (.tuple #[.int .i64 (res : Nat), v]) /\ ErrIs ok v /\ EpRel S bk res S' ok /\ a'.r = r /\ Rn w' base S' a' F' K' L' P' T'
theorem Rn.epsTo {w w' : World} {base : Nat} {S : St} {a : Loc} {F K L P : Nat -> Prop} {T : Nat -> Nat} (h : Rn w base S a F K L P T) {x : Int × Int} {A8 : Option Addr} {c8 : Nat} (o1 : w'.ownsRow base 101 2 (.slice A8 (S.eps.length + 1) c8) (S.eps.length + 1) (ecs (S.eps ++ [x])))
  (o2 : w.grownBy w' (Value.slice a.eA S.eps.length a.eC).ownBlock) (o3 : (Value.slice A8 (S.eps.length + 1) c8).ownBlock = (Value.slice a.eA S.eps.length a.eC).ownBlock \/ (Value.slice A8 (S.eps.length + 1) c8).ownBlock = some w.heap.size) :
  ∃ T', Rn (w'.setCell ⟨a.r, 8, none⟩ (.slice A8 (S.eps.length + 1) c8)) base { S with eps := S.eps ++ [x] } { a with eA := A8, eC := c8 } F K L P T' /\ Below base w (w'.setCell ⟨a.r, 8, none⟩ (.slice A8 (S.eps.length + 1) c8)) := by
 have hb := h.base_le
 have hz := o2.size
 have hr := h.tR a.r (.inl rfl)
 have hf1 : Fr (fun k => (Value.slice a.eA S.eps.length a.eC).ownBlock = some k) w w' := Fr.of_grown o2 (fun k h => h)
 have hne := own_ne h.eps h.top (by decide)
 have top1 : Blk w' a.r 91 (rcells S a) := h.top.fr hf1 (fun e => hne _ e rfl)
 have hf2 : Fr (· = a.r) w' (w'.setCell ⟨a.r, 8, none⟩ (.slice A8 (S.eps.length + 1) c8)) := Fr.setCell (F := (· = a.r)) w' ⟨a.r, 8, none⟩ _ rfl
 have hf : Fr (fun k => (Value.slice a.eA S.eps.length a.eC).ownBlock = some k \/ k = a.r) w (w'.setCell ⟨a.r, 8, none⟩ (.slice A8 (S.eps.length + 1) c8)) := (hf1.mono (fun k _ h => .inl h)).trans (hf2.mono (fun k _ h => .inr h)) (fun _ _ h => h)
 have hz2 : (w'.setCell ⟨a.r, 8, none⟩ (.slice A8 (S.eps.length + 1) c8)).heap.size = w'.heap.size := by simp [World.setCell]
 have hT : ∀ k, k < w.heap.size -> (if k = w.heap.size then 5 else T k) = T k := fun k hk => if_neg (by omega)
 have hno : ∀ k n, T k = n -> n ≠ 5 -> ¬ ((Value.slice a.eA S.eps.length a.eC).ownBlock = some k \/ k = a.r) := fun k n h1 h2 e => by
  have := (h.tR k (e.elim .inr .inl)).1
  omega
 refine ⟨fun k => if k = w.heap.size then 5 else T k, ⟨?_, ?_, h.disk.fr hf (fun k hk => hno k 1 (h.tF k hk).1 (by omega)), h.tab.fr hf (fun k hk => hno k 2 (h.tK k hk).1 (by omega)), h.log.fr hf (fun k hk => hno k 3 (h.tL k hk).1 (by omega)), pool_fr h.pool hf (fun k hk => hno k 4 (h.tP k hk).1 (by omega)),
  fun k hk => ?_, fun k hk => ?_, fun k hk => ?_, fun k hk => ?_, fun k hk => ?_, h.farTo hf (fun k hk => by have := (h.tR k (hk.elim .inr .inl)).1; omega) (fun k hk h0 => by show (if k = w.heap.size then 5 else T k) = 0; rw [hT k hk]; exact h0)⟩, hf.below hb (fun k hk => (h.tR k (hk.elim .inr .inl)).2.1)⟩
 ·have := top1.set_ 8 (.slice A8 (S.eps.length + 1) c8)
  have e : (rcells S a).setIfInBounds 8 (.slice A8 (S.eps.length + 1) c8) = rcells { S with eps := S.eps ++ [x] } { a with eA := A8, eC := c8 } := by unfold rcells; simp
  rw [e] at this
  exact this
 ·have e : (S.eps ++ [x]).length = S.eps.length + 1 := by simp
  show World.ownsRow _ base 101 2 (.slice A8 (S.eps ++ [x]).length c8) (S.eps ++ [x]).length (ecs (S.eps ++ [x]))
  rw [e]
  exact own_fr o1 hf2 (own_ne o1 top1 (by decide))
 ·have h1 := h.tF k hk; rw [hT k h1.2.2, hz2]; exact ⟨h1.1, h1.2.1, by omega⟩
 ·have h1 := h.tK k hk; rw [hT k h1.2.2, hz2]; exact ⟨h1.1, h1.2.1, by omega⟩
 ·have h1 := h.tL k hk; rw [hT k h1.2.2, hz2]; exact ⟨h1.1, h1.2.1, by omega⟩
 ·have h1 := h.tP k hk; rw [hT k h1.2.2, hz2]; exact ⟨h1.1, h1.2.1, by omega⟩
 ·rw [hz2]
  have old : (k = a.r \/ (Value.slice a.eA S.eps.length a.eC).ownBlock = some k) -> (if k = w.heap.size then 5 else T k) = 5 /\ base <= k /\ k < w'.heap.size := fun e => by
   have h1 := h.tR k e
   rw [hT k h1.2.2]
   exact ⟨h1.1, h1.2.1, by omega⟩
  rcases hk with rfl | hk
  ·exact old (.inl rfl)
  ·have hk' : (Value.slice A8 (S.eps.length + 1) c8).ownBlock = some k := by
    have e : (S.eps ++ [x]).length = S.eps.length + 1 := by simp
    show (Value.slice A8 _ c8).ownBlock = some k
    rw [<- e]
    exact hk
   rcases o3 with o3 | o3
   ·exact old (.inr (o3 ▸ hk'))
   ·rw [o3] at hk'
    injection hk' with hk'
    subst hk'
    have := (o1.lt _ o3).2
    rw [if_pos rfl]
    exact ⟨rfl, hb, this⟩
theorem epsTo_pre {w w' : World} {base : Nat} {S : St} {a : Loc} {F K L P : Nat -> Prop} {T : Nat -> Nat} (h : Rn w base S a F K L P T) {EN : Nat} (hEN : EN = S.eps.length) {x : Int × Int} {A8 : Option Addr} {c8 : Nat} (o1 : w'.ownsRow base 101 2 (.slice A8 (EN + 1) c8) (EN + 1) (ecs S.eps ++ ecell x))
  (o2 : w.grownBy w' (Value.slice a.eA EN a.eC).ownBlock) (o3 : (Value.slice A8 (EN + 1) c8).ownBlock = (Value.slice a.eA EN a.eC).ownBlock \/ (Value.slice A8 (EN + 1) c8).ownBlock = some w.heap.size) :
  w'.frozen? ⟨a.r, 8, none⟩ = false /\ w'.cell? ⟨a.r, 8, none⟩ = some (.slice a.eA EN a.eC) /\ (w'.setCell ⟨a.r, 8, none⟩ (.slice A8 (EN + 1) c8)).cell? ⟨a.r, 8, none⟩ = some (.slice A8 (EN + 1) c8) /\
  ∃ T', Rn (w'.setCell ⟨a.r, 8, none⟩ (.slice A8 (EN + 1) c8)) base { S with eps := S.eps ++ [x] } { a with eA := A8, eC := c8 } F K L P T' /\ Below base w (w'.setCell ⟨a.r, 8, none⟩ (.slice A8 (EN + 1) c8)) := by
 subst hEN
 have hf1 : Fr (fun k => (Value.slice a.eA S.eps.length a.eC).ownBlock = some k) w w' := Fr.of_grown o2 (fun k h => h)
 have hne := own_ne h.eps h.top (by decide)
 have top1 : Blk w' a.r 91 (rcells S a) := h.top.fr hf1 (fun e => hne _ e rfl)
 have e : ecs (S.eps ++ [x]) = ecs S.eps ++ ecell x := by rw [ecs_append]; simp [ecs]
 obtain ⟨T', h1, h2⟩ := h.epsTo (x := x) (by rw [e]; exact o1) o2 o3
 refine ⟨top1.frozen 8, top1.cell 8, ?_, T', h1, h2⟩
 have := h1.top.cell 8
 rw [this]
 unfold rcells
 simp
theorem info_epoch : (Tryz.prog.info? 101).map (fun i => (i.zero, i.size, i.bytes)) = some (some (.agg #[.int .i64 0, .int .i64 0]), 2, 16) := by kernel_rfl
set_option maxRecDepth 20000 in
set_option maxHeartbeats 8000000 in
theorem epoch_any {w : World} {base : Nat} {S : St} {a : Loc} {F K L P : Nat -> Prop} {T : Nat -> Nat} (h : Rn w base S a F K L P T) (ho : StOk S) (hT : TabsB base w) (hbt : ∀ k, base <= k -> k ≠ 3 /\ k ≠ 2) (bk : Nat) (hx : bk <= 1099511627776) :
  Calls Tryz.prog 17 #[.pointer (some ⟨a.r, 0, none⟩), .int .i64 bk] w fun e w' => EpPost base S a.r bk e w' /\ Below base w w' := by
 obtain ⟨tA, tc, mb, dA, dc, sA, sc, hPP, -⟩ := h.pool
 have HLN := Lh (plen_any a.p tA S.l.length tc w (by have := ho.plen; unfold maxLen; omega) hPP.cell0)
 have c6 : w.cell? ⟨a.r, 6, none⟩ = some (.pointer (some ⟨a.p, 0, none⟩)) := h.top.cell 6
 have HKY := Lh (skey_any h ho hT.here bk hx)
 obtain ⟨N0, hN0⟩ : ∃ N, N = S.l.length := ⟨_, rfl⟩
 rw [<- hN0] at HLN
 have hN0b : N0 <= 900 := by rw [hN0]; exact ho.plen
 have HH := Lh (Ai h (Ai ho (Ai hT hbt)))
 have hbw := h.base_le
 clear h ho hT hbt hPP hN0
 go_enter Tryz.func17, Tryz.ntmps17
 go_wp2_with fail
 refine HLN.out.mono ?_
 rintro e w0 ⟨rfl, rfl⟩
 clear HLN
 go_wp2_with fail
 refine HKY.out.mono ?_
 rintro e w1 ⟨⟨n, v, ok, S1, F1, K1, P1, T1, rfl, herr, hrel, hR1⟩, bel1⟩
 rcases herr with ⟨rfl, rfl⟩ | ⟨rfl, g, rfl⟩
 ·have hk := hrel.keep HH.out.2.1
  have HA := Lh (atom_any hR1 hk.2.2.2.2.2.1.pool (by have := hk.2.2.2.2.2.1.plen; omega) (atm_new hk.2.2.2.2.2.1.fresh) (by have := hk.2.2.2.2.2.1.alen; omega) (HH.out.2.2.1.below bel1).here.ten)
  obtain ⟨N1, hN1⟩ : ∃ N, N = S1.l.length := ⟨_, rfl⟩
  rw [<- hN1] at HA
  have hN1b : N1 <= 901 := by rw [hN1]; exact hk.2.2.2.2.2.1.plen
  have H1 := Lh (Ai hrel (Ai hk (Ai bel1 hN1)))
  clear hrel hk hR1 bel1 hN1 HKY c6
  go_wp2_with fail
  refine HA.out.mono ?_
  rintro e w2 ⟨rfl, ⟨P2, T2, hR2⟩, bel2⟩
  have hb2 : Below base w w2 := H1.out.2.2.1.trans bel2
  have hp2 := H1.out.2.1.2.2.2.2.2.1.atom (by omega)
  have hl2 : (S1.l ++ [atm S1.atoms]).length = N1 + 1 := by rw [List.length_append, <- H1.out.2.2.2]; rfl
  have hlt : n < N1 := by rw [H1.out.2.2.2]; exact H1.out.2.1.2.2.2.2.2.2
  have HS := put_new a.p (sel n N1) (S1.l ++ [atm S1.atoms]) base w2 P2 hR2.pool hp2.pool (okT_sel (by rw [hl2]; omega) (by rw [hl2]; omega)) (sel_new hp2.pool (by rw [hl2]; exact Nat.le_refl _)) (by rw [hl2]; omega) (wfT_sel _ _ (by omega) (by omega)) (HH.out.2.2.1.below hb2).here.ten
  rw [hl2] at HS
  replace HS := Lh HS
  have d6 : w2.cell? ⟨a.r, 6, none⟩ = some (.pointer (some ⟨a.p, 0, none⟩)) := hR2.top.cell 6
  have H2 := Lh (Ai hR2 hb2)
  clear hR2 bel2 hb2 hp2 hl2 HA
  go_wp2_with fail
  refine HS.out.mono ?_
  rintro e w3 ⟨rfl, hpl3, fr3⟩
  obtain ⟨P3, T3, hR3, bel3⟩ := H2.out.1.poolTo hpl3 fr3
  have hb3 := H2.out.2.trans bel3
  have hmk := make_bytes 32 (by omega)
  obtain ⟨Z, hZ⟩ : ∃ z : Array Value, z = (u8s (List.replicate 32 0)).toArray := ⟨_, rfl⟩
  rw [<- hZ] at hmk
  replace hmk : ∀ W : World, (Instr.makeSlice 22 (.int .i64 32) (.int .i64 32)).run Tryz.prog W = .ok (.slice (some ⟨W.heap.size, 0, none⟩) 32 32) (W.alloc (.cells Z 5)) := hmk
  obtain ⟨w4, hw4⟩ : ∃ w4, w3.alloc (.cells Z 5) = w4 := ⟨_, rfl⟩
  have hb34 : Below w3.heap.size w3 w4 := hw4 ▸ (Below.refl _ _).alloc (Nat.le_refl _) _
  have hz4 : Sees w4 1 (some ⟨w3.heap.size, 0, none⟩) 32 (u8s (List.replicate 32 0)) := by rw [<- hw4, hZ]; exact sees_new w3 5 (u8s (List.replicate 32 0)) 1 32 (by simp)
  have hR4 := hR3.below hb34
  have hlt4 : w3.heap.size < w4.heap.size := by rw [<- hw4]; simp
  obtain ⟨zb, hzb⟩ : ∃ z, z = w3.heap.size := ⟨_, rfl⟩
  have HW4 := Lh hw4
  rw [<- hzb] at hlt4 hz4
  have hzbb : base <= zb := by rw [hzb]; exact Nat.le_trans hbw hb3.size
  have HZB := Lh hzb
  have d8 : w4.cell? ⟨a.r, 8, none⟩ = some (.slice a.eA S1.eps.length a.eC) := hR4.top.cell 8
  have H4 := Lh (Ai hR4 (Ai (hb3.trans (hb34.mono (Nat.le_trans hbw hb3.size))) (Ai hz4 hzbb)))
  obtain ⟨EN, hEN⟩ : ∃ n, n = S1.eps.length := ⟨_, rfl⟩
  rw [<- hEN] at d8
  have HEN := Lh hEN
  clear hpl3 fr3 hR3 bel3 hb3 hZ hb34 hz4 hR4 hw4 hzb hzbb hEN HS d6
  go_upto_region 9 with (simp only [hmk])
  rw [HW4.out, <- HZB.out]
  go_cut [12, 13] (fun x y w9 => y = .bool true /\ ∃ (A : Option Addr) (c : Nat), x = .slice A 144 c /\ Hid (w9.ownsRow w4.heap.size 5 1 (.slice A 144 c) 144 (u8s (recb EN bk (wrp (N1 + 1)))) /\ Below w4.heap.size w4 w9))
  case first =>
   have hrl : a.r < w4.heap.size := H4.out.1.r_lt
   have hZ : ∀ W, Below w4.heap.size w4 W -> Sees W 1 (some ⟨zb, 0, none⟩) 32 (u8s (List.replicate 32 0)) := fun W h => H4.out.2.2.1.below h
   have HZ4 := Lh hZ
   have hENb : EN <= 1000 := by rw [HEN.out, H1.out.2.1.2.2.2.2.1]; exact HH.out.2.1.elen2
   clear hZ
   refine region_tree (.read 2 (.read 3 (.read 4 (.read 5 (.read 6 (.read 7 (.read 8 (.read 9 (.read 10 (.two 0 (.two 1 (.one 11 (.one 12 (.read 13 (.one 14 (.read 15 (.read 16 (.read 17 (.read 18 (.read 19 .leaf))))))))) 11 (.two 1 (.one 12 (.read 13 (.one 14 (.read 15 (.read 16 (.read 17 (.read 18 (.read 19 .leaf)))))))) 12 (.one 1 (.read 13 (.one 14 (.read 15 (.read 16 (.read 17 (.read 18 (.read 19 .leaf)))))))))) 11 (.two 0 (.two 1 (.one 12 (.read 13 (.one 14 (.read 15 (.read 16 (.read 17 (.read 18 (.read 19 .leaf)))))))) 12 (.one 1 (.read 13 (.one 14 (.read 15 (.read 16 (.read 17 (.read 18 (.read 19 .leaf))))))))) 12 (.one 0 (.one 1 (.read 13 (.one 14 (.read 15 (.read 16 (.read 17 (.read 18 (.read 19 .leaf)))))))))))))))))))) [0, 1, 7, 8, 9, 10, 11, 12, 17, 18] 401283 [(140737488355328, 0, 0, 0), (281474976710656, 140737488355328, 1, 1), (562949953421312, 1, 0, 0), (1125899906842624, 562949953421312, 4, 4), (2251799813685248, 1125899906842624, 8, 12), (4503599627370496, 2251799813685248, 16, 28), (9007199254740992, 4503599627370496, 32, 60), (18014398509481984, 2, 0, 0), (36028797018963968, 2048, 0, 0), (72057594037927936, 2048, 0, 0), (144115188075855872, 512, 0, 0), (288230376151711744, 144115188075855872, 1024, 1024), (576460752303423488, 288230376151711744, 2048, 3072), (1152921504606846976, 711850216101249024, 5058, 8191), (2305843009213693952, 1152921504606846976, 12288, 16383), (70368744177664, 2305843009213693952, 16384, 32767), (4611686018427387904, 70368744177664, 32768, 65535), (9223372036854775808, 70368744177664, 32768, 65535), (4096, 4611686018427387904, 131071, 131071), (8192, 9223372036854775808, 524287, 524287)] (fun W => Below w4.heap.size w4 W) (by kernel_rfl) (by kernel_rfl) (by kernel_rfl) rfl (by kernel_rfl) (by kernel_rfl) (Below.refl _ _).drew (fun hS => ?_)
   repeat (first
    | (refine tree_read (v := ?_) rfl (fun _ _ _ h => by first | exact h | cases h.1) rfl hS ?_ ?_; rotate_left 1; (focus (intro w' hS'; have e8 := (hS'.cell (p := ⟨a.r, 8, none⟩) hrl).trans d8; go_simp; try rfl)); (simp only [Act.put, pu1]; dsimp only [pu2, pu3]))
    | (refine tree_skip rfl (fun _ _ _ h => by first | exact h | cases h.1) rfl hS ?_; (simp only [Act.put, pu1]; dsimp only [pu2, pu3])))
   refine tree_two ?_ ?_
   ·skip
    refine tree_do (by rfl) (by rfl) (fun K hK => ?_)
    go_simp
    obtain ⟨g0, hg0⟩ : ∃ p, w4.heap.size = p := ⟨_, rfl⟩
    have bel := (Below.refl _ _).alloc (Nat.le_refl w4.drew.heap.size) (.cells #[.int .u8 115] 5)
    have b0 : Blk (w4.drew.alloc (.cells #[.int .u8 115] 5)) g0 5 #[.int .u8 115] := (by rw [<- hg0]; exact Blk.new _ _ _)
    have hlo0 : w4.heap.size <= g0 := (by rw [<- hg0]; exact hS.size)
    rw [hg0]
    obtain ⟨w20, hw⟩ : ∃ w2, w4.drew.alloc (.cells #[.int .u8 115] 5) = w2 := ⟨_, rfl⟩
    rw [hw] at bel b0
    rw [show (w4.alloc (.cells #[.int .u8 115] 5)).drew = w20 from hw]
    have hS := hS.trans (bel.mono hS.size)
    clear hw hg0 bel
    refine hK.out _ _ (fun _ => hS) (fun hS => ?_); clear hK K; replace hS := hS rfl; try (simp only [Act.put, pu1]; dsimp only [pu2, pu3])
    repeat (first
     | (refine tree_read (v := ?_) rfl (fun _ _ _ h => by first | exact h | cases h.1) rfl hS ?_ ?_; rotate_left 1; (focus (intro w' hS'; go_simp; try rfl)); (simp only [Act.put, pu1]; dsimp only [pu2, pu3]))
     | (refine tree_skip rfl (fun _ _ _ h => by first | exact h | cases h.1) rfl hS ?_; (simp only [Act.put, pu1]; dsimp only [pu2, pu3])))
    refine tree_two ?_ ?_
    ·skip
     obtain ⟨w21, hrun, hm, hf⟩ := cv_mark_at w20 g0 #[.int .u8 115] 1 1 b0
     have hg0l : g0 < w21.heap.size := Nat.lt_of_lt_of_le b0.lt hf.size
     refine tree_do (by rfl) (by rfl) (fun K hK => ?_)
     go_simp
     have sG : Sees w21 1 (some ⟨g0, 0, none⟩) 1 (u8s [115]) := sees_marked (cs := u8s [115]) hm rfl
     have hS := hS.trans (hf.below hS.size (fun k e => by rw [e]; exact hlo0))
     clear hrun hm hf b0
     refine hK.out _ _ (fun _ => hS) (fun hS => ?_); clear hK K; replace hS := hS rfl; try (simp only [Act.put, pu1]; dsimp only [pu2, pu3])
     repeat (first
      | (refine tree_read (v := ?_) rfl (fun _ _ _ h => by first | exact h | cases h.1) rfl hS ?_ ?_; rotate_left 1; (focus (intro w' hS'; go_simp; try rfl)); (simp only [Act.put, pu1]; dsimp only [pu2, pu3]))
      | (refine tree_skip rfl (fun _ _ _ h => by first | exact h | cases h.1) rfl hS ?_; (simp only [Act.put, pu1]; dsimp only [pu2, pu3])))
     refine tree_do (by rfl) (by rfl) (fun K hK => ?_)
     go_simp
     refine (name_anyI ((N1 : Int) + 1) (N1 + 1) (by omega) w21 (by omega)).mono ?_
     rintro e w22 ⟨⟨v5, rfl, o5⟩, bel⟩
     obtain ⟨A5, c5, rfl⟩ := own_shape o5
     have hg0x : g0 < w21.heap.size := hg0l
     have hne5 : ∀ q, (Value.slice A5 32 c5).ownBlock = some q -> q ≠ g0 := fun q e => by have := (o5.lt q e).1; omega
     have nA := own_base (base' := w4.heap.size) o5 hS.size
     have sG := sG.below bel
     have hg0l : g0 < w22.heap.size := Nat.lt_of_lt_of_le hg0x bel.size
     have hS := hS.trans (bel.mono hS.size)
     clear o5 bel
     refine hK.out _ _ (fun _ => hS) (fun hS => ?_); clear hK K; replace hS := hS rfl; try (simp only [Act.put, pu1]; dsimp only [pu2, pu3])
     repeat (first
      | (refine tree_read (v := ?_) rfl (fun _ _ _ h => by first | exact h | cases h.1) rfl hS ?_ ?_; rotate_left 1; (focus (intro w' hS'; go_simp; try rfl)); (simp only [Act.put, pu1]; dsimp only [pu2, pu3]))
      | (refine tree_skip rfl (fun _ _ _ h => by first | exact h | cases h.1) rfl hS ?_; (simp only [Act.put, pu1]; dsimp only [pu2, pu3])))
     refine tree_do (by rfl) (by rfl) (fun K hK => ?_)
     refine wp_appz (.tmp 58) 22 3 5 16 rfl w4.heap.size Tryz.underlying22 Tryz.underlying3 info_byte (.slice A5 32 c5) 32 (u8s (nm (N1 + 1))) rfl nA (by omega) (by omega) hS.size ?_
     intro v6 w23 o1 o2 o3
     obtain ⟨A6, c6, hv6⟩ := own_shape o1
     have hv6 : v6 = .slice A6 48 c6 := hv6
     subst hv6
     have hf : Fr (fun k => (Value.slice A5 32 c5).ownBlock = some k) w22 w23 := Fr.of_grown o2 (fun k h => h)
     have hne6 : ∀ q, (Value.slice A6 48 c6).ownBlock = some q -> q ≠ g0 := fun q e => by
      rcases o3 with o3 | o3
      ·exact hne5 q (o3 ▸ e)
      ·rw [o3] at e; injection e with e; have : g0 < w22.heap.size := hg0l; omega
     have sG := sG.fr hf (fun _ a e => by injection e with e; subst e; exact fun h => hne5 _ h rfl)
     have hg0l : g0 < w23.heap.size := Nat.lt_of_lt_of_le hg0l hf.size
     have nB : w23.ownsRow w4.heap.size 5 1 (.slice A6 48 c6) 48 (u8s (wrp (N1 + 1))) := (by rw [wrp_u8s]; exact o1)
     have hS := hS.grown o2 hS.size (fun k hk => (nA.lt k hk).1)
     clear o1 o2 o3 nA hf
     refine hK.out _ _ (fun _ => hS) (fun hS => ?_); clear hK K; replace hS := hS rfl; try (simp only [Act.put, pu1]; dsimp only [pu2, pu3])
     repeat (first
      | (refine tree_read (v := ?_) rfl (fun _ _ _ h => by first | exact h | cases h.1) rfl hS ?_ ?_; rotate_left 1; (focus (intro w' hS'; go_simp; try rfl)); (simp only [Act.put, pu1]; dsimp only [pu2, pu3]))
      | (refine tree_skip rfl (fun _ _ _ h => by first | exact h | cases h.1) rfl hS ?_; (simp only [Act.put, pu1]; dsimp only [pu2, pu3])))
     refine tree_do (by rfl) (by rfl) (fun K hK => ?_)
     go_simp
     refine (write_rec (some ⟨g0, 0, none⟩) 1 EN bk (some ⟨zb, 0, none⟩) 32 A6 c6 (wrp (N1 + 1)) w23 (by omega) hx sG (HZ4.out _ hS) (Sees.of_own nB) (wrp_length _) (fun a e => by injection e with e; rw [<- e]; exact hg0l) (fun a e => by injection e with e; rw [<- e]; exact Nat.lt_of_lt_of_le hlt4 hS.size) (fun a e => by rw [e] at nB; exact own_addr nB (by omega))).mono ?_
     rintro e w24 ⟨v7, rfl, own7, bel⟩
     obtain ⟨A7, c7, rfl⟩ := own_shape own7
     have hfin := own_base (base' := w4.heap.size) own7 hS.size
     have hS := hS.trans (bel.mono hS.size)
     clear own7 bel
     refine hK.out _ _ (fun h => by cases h) (fun _ => ?_); clear hK K; try (simp only [Act.put, pu1]; dsimp only [pu2, pu3])
     repeat (first
      | (refine tree_read (v := ?_) rfl (fun _ _ _ h => by first | exact h | cases h.1) rfl hS ?_ ?_; rotate_left 1; (focus (intro w' hS'; go_simp; try rfl)); (simp only [Act.put, pu1]; dsimp only [pu2, pu3]))
      | (refine tree_skip rfl (fun _ _ _ h => by first | exact h | cases h.1) rfl hS ?_; (simp only [Act.put, pu1]; dsimp only [pu2, pu3])))
     refine tree_leaf ?_
     go_wp2_with fail
     go_meet
     exact ⟨rfl, A7, c7, rfl, Lh ⟨hfin, hS⟩⟩
    ·skip
     refine tree_do (by rfl) (by rfl) (fun K hK => ?_)
     go_simp
     refine (name_anyI ((N1 : Int) + 1) (N1 + 1) (by omega) w20 (by omega)).mono ?_
     rintro e w25 ⟨⟨v5, rfl, o5⟩, bel⟩
     obtain ⟨A5, c5, rfl⟩ := own_shape o5
     have hg0x : g0 < w20.heap.size := b0.lt
     have hne5 : ∀ q, (Value.slice A5 32 c5).ownBlock = some q -> q ≠ g0 := fun q e => by have := (o5.lt q e).1; omega
     have nA := own_base (base' := w4.heap.size) o5 hS.size
     have b0 := b0.below bel b0.lt
     have hS := hS.trans (bel.mono hS.size)
     clear o5 bel
     refine hK.out _ _ (fun _ => hS) (fun hS => ?_); clear hK K; replace hS := hS rfl; try (simp only [Act.put, pu1]; dsimp only [pu2, pu3])
     repeat (first
      | (refine tree_read (v := ?_) rfl (fun _ _ _ h => by first | exact h | cases h.1) rfl hS ?_ ?_; rotate_left 1; (focus (intro w' hS'; go_simp; try rfl)); (simp only [Act.put, pu1]; dsimp only [pu2, pu3]))
      | (refine tree_skip rfl (fun _ _ _ h => by first | exact h | cases h.1) rfl hS ?_; (simp only [Act.put, pu1]; dsimp only [pu2, pu3])))
     refine tree_two ?_ ?_
     ·skip
      obtain ⟨w26, hrun, hm, hf⟩ := cv_mark_at w25 g0 #[.int .u8 115] 1 1 b0
      have hg0l : g0 < w26.heap.size := Nat.lt_of_lt_of_le b0.lt hf.size
      refine tree_do (by rfl) (by rfl) (fun K hK => ?_)
      go_simp
      have sG : Sees w26 1 (some ⟨g0, 0, none⟩) 1 (u8s [115]) := sees_marked (cs := u8s [115]) hm rfl
      have nA := own_fr nA hf hne5
      have hS := hS.trans (hf.below hS.size (fun k e => by rw [e]; exact hlo0))
      clear hrun hm hf b0
      refine hK.out _ _ (fun _ => hS) (fun hS => ?_); clear hK K; replace hS := hS rfl; try (simp only [Act.put, pu1]; dsimp only [pu2, pu3])
      repeat (first
       | (refine tree_read (v := ?_) rfl (fun _ _ _ h => by first | exact h | cases h.1) rfl hS ?_ ?_; rotate_left 1; (focus (intro w' hS'; go_simp; try rfl)); (simp only [Act.put, pu1]; dsimp only [pu2, pu3]))
       | (refine tree_skip rfl (fun _ _ _ h => by first | exact h | cases h.1) rfl hS ?_; (simp only [Act.put, pu1]; dsimp only [pu2, pu3])))
      refine tree_do (by rfl) (by rfl) (fun K hK => ?_)
      refine wp_appz (.tmp 58) 22 3 5 16 rfl w4.heap.size Tryz.underlying22 Tryz.underlying3 info_byte (.slice A5 32 c5) 32 (u8s (nm (N1 + 1))) rfl nA (by omega) (by omega) hS.size ?_
      intro v6 w27 o1 o2 o3
      obtain ⟨A6, c6, hv6⟩ := own_shape o1
      have hv6 : v6 = .slice A6 48 c6 := hv6
      subst hv6
      have hf : Fr (fun k => (Value.slice A5 32 c5).ownBlock = some k) w26 w27 := Fr.of_grown o2 (fun k h => h)
      have hne6 : ∀ q, (Value.slice A6 48 c6).ownBlock = some q -> q ≠ g0 := fun q e => by
       rcases o3 with o3 | o3
       ·exact hne5 q (o3 ▸ e)
       ·rw [o3] at e; injection e with e; have : g0 < w26.heap.size := hg0l; omega
      have sG := sG.fr hf (fun _ a e => by injection e with e; subst e; exact fun h => hne5 _ h rfl)
      have hg0l : g0 < w27.heap.size := Nat.lt_of_lt_of_le hg0l hf.size
      have nB : w27.ownsRow w4.heap.size 5 1 (.slice A6 48 c6) 48 (u8s (wrp (N1 + 1))) := (by rw [wrp_u8s]; exact o1)
      have hS := hS.grown o2 hS.size (fun k hk => (nA.lt k hk).1)
      clear o1 o2 o3 nA hf
      refine hK.out _ _ (fun _ => hS) (fun hS => ?_); clear hK K; replace hS := hS rfl; try (simp only [Act.put, pu1]; dsimp only [pu2, pu3])
      repeat (first
       | (refine tree_read (v := ?_) rfl (fun _ _ _ h => by first | exact h | cases h.1) rfl hS ?_ ?_; rotate_left 1; (focus (intro w' hS'; go_simp; try rfl)); (simp only [Act.put, pu1]; dsimp only [pu2, pu3]))
       | (refine tree_skip rfl (fun _ _ _ h => by first | exact h | cases h.1) rfl hS ?_; (simp only [Act.put, pu1]; dsimp only [pu2, pu3])))
      refine tree_do (by rfl) (by rfl) (fun K hK => ?_)
      go_simp
      refine (write_rec (some ⟨g0, 0, none⟩) 1 EN bk (some ⟨zb, 0, none⟩) 32 A6 c6 (wrp (N1 + 1)) w27 (by omega) hx sG (HZ4.out _ hS) (Sees.of_own nB) (wrp_length _) (fun a e => by injection e with e; rw [<- e]; exact hg0l) (fun a e => by injection e with e; rw [<- e]; exact Nat.lt_of_lt_of_le hlt4 hS.size) (fun a e => by rw [e] at nB; exact own_addr nB (by omega))).mono ?_
      rintro e w28 ⟨v7, rfl, own7, bel⟩
      obtain ⟨A7, c7, rfl⟩ := own_shape own7
      have hfin := own_base (base' := w4.heap.size) own7 hS.size
      have hS := hS.trans (bel.mono hS.size)
      clear own7 bel
      refine hK.out _ _ (fun h => by cases h) (fun _ => ?_); clear hK K; try (simp only [Act.put, pu1]; dsimp only [pu2, pu3])
      repeat (first
       | (refine tree_read (v := ?_) rfl (fun _ _ _ h => by first | exact h | cases h.1) rfl hS ?_ ?_; rotate_left 1; (focus (intro w' hS'; go_simp; try rfl)); (simp only [Act.put, pu1]; dsimp only [pu2, pu3]))
       | (refine tree_skip rfl (fun _ _ _ h => by first | exact h | cases h.1) rfl hS ?_; (simp only [Act.put, pu1]; dsimp only [pu2, pu3])))
      refine tree_leaf ?_
      go_wp2_with fail
      go_meet
      exact ⟨rfl, A7, c7, rfl, Lh ⟨hfin, hS⟩⟩
     ·skip
      refine tree_do (by rfl) (by rfl) (fun K hK => ?_)
      refine wp_appz (.tmp 58) 22 3 5 16 rfl w4.heap.size Tryz.underlying22 Tryz.underlying3 info_byte (.slice A5 32 c5) 32 (u8s (nm (N1 + 1))) rfl nA (by omega) (by omega) hS.size ?_
      intro v6 w29 o1 o2 o3
      obtain ⟨A6, c6, hv6⟩ := own_shape o1
      have hv6 : v6 = .slice A6 48 c6 := hv6
      subst hv6
      have hf : Fr (fun k => (Value.slice A5 32 c5).ownBlock = some k) w25 w29 := Fr.of_grown o2 (fun k h => h)
      have hne6 : ∀ q, (Value.slice A6 48 c6).ownBlock = some q -> q ≠ g0 := fun q e => by
       rcases o3 with o3 | o3
       ·exact hne5 q (o3 ▸ e)
       ·rw [o3] at e; injection e with e; have : g0 < w25.heap.size := b0.lt; omega
      have b0 := b0.fr hf (fun e => hne5 _ e rfl)
      have nB : w29.ownsRow w4.heap.size 5 1 (.slice A6 48 c6) 48 (u8s (wrp (N1 + 1))) := (by rw [wrp_u8s]; exact o1)
      have hS := hS.grown o2 hS.size (fun k hk => (nA.lt k hk).1)
      clear o1 o2 o3 nA hf
      refine hK.out _ _ (fun _ => hS) (fun hS => ?_); clear hK K; replace hS := hS rfl; try (simp only [Act.put, pu1]; dsimp only [pu2, pu3])
      repeat (first
       | (refine tree_read (v := ?_) rfl (fun _ _ _ h => by first | exact h | cases h.1) rfl hS ?_ ?_; rotate_left 1; (focus (intro w' hS'; go_simp; try rfl)); (simp only [Act.put, pu1]; dsimp only [pu2, pu3]))
       | (refine tree_skip rfl (fun _ _ _ h => by first | exact h | cases h.1) rfl hS ?_; (simp only [Act.put, pu1]; dsimp only [pu2, pu3])))
      obtain ⟨w30, hrun, hm, hf⟩ := cv_mark_at w29 g0 #[.int .u8 115] 1 1 b0
      have hg0l : g0 < w30.heap.size := Nat.lt_of_lt_of_le b0.lt hf.size
      refine tree_do (by rfl) (by rfl) (fun K hK => ?_)
      go_simp
      have sG : Sees w30 1 (some ⟨g0, 0, none⟩) 1 (u8s [115]) := sees_marked (cs := u8s [115]) hm rfl
      have nB := own_fr nB hf hne6
      have hS := hS.trans (hf.below hS.size (fun k e => by rw [e]; exact hlo0))
      clear hrun hm hf b0
      refine hK.out _ _ (fun _ => hS) (fun hS => ?_); clear hK K; replace hS := hS rfl; try (simp only [Act.put, pu1]; dsimp only [pu2, pu3])
      repeat (first
       | (refine tree_read (v := ?_) rfl (fun _ _ _ h => by first | exact h | cases h.1) rfl hS ?_ ?_; rotate_left 1; (focus (intro w' hS'; go_simp; try rfl)); (simp only [Act.put, pu1]; dsimp only [pu2, pu3]))
       | (refine tree_skip rfl (fun _ _ _ h => by first | exact h | cases h.1) rfl hS ?_; (simp only [Act.put, pu1]; dsimp only [pu2, pu3])))
      refine tree_do (by rfl) (by rfl) (fun K hK => ?_)
      go_simp
      refine (write_rec (some ⟨g0, 0, none⟩) 1 EN bk (some ⟨zb, 0, none⟩) 32 A6 c6 (wrp (N1 + 1)) w30 (by omega) hx sG (HZ4.out _ hS) (Sees.of_own nB) (wrp_length _) (fun a e => by injection e with e; rw [<- e]; exact hg0l) (fun a e => by injection e with e; rw [<- e]; exact Nat.lt_of_lt_of_le hlt4 hS.size) (fun a e => by rw [e] at nB; exact own_addr nB (by omega))).mono ?_
      rintro e w31 ⟨v7, rfl, own7, bel⟩
      obtain ⟨A7, c7, rfl⟩ := own_shape own7
      have hfin := own_base (base' := w4.heap.size) own7 hS.size
      have hS := hS.trans (bel.mono hS.size)
      clear own7 bel
      refine hK.out _ _ (fun h => by cases h) (fun _ => ?_); clear hK K; try (simp only [Act.put, pu1]; dsimp only [pu2, pu3])
      repeat (first
       | (refine tree_read (v := ?_) rfl (fun _ _ _ h => by first | exact h | cases h.1) rfl hS ?_ ?_; rotate_left 1; (focus (intro w' hS'; go_simp; try rfl)); (simp only [Act.put, pu1]; dsimp only [pu2, pu3]))
       | (refine tree_skip rfl (fun _ _ _ h => by first | exact h | cases h.1) rfl hS ?_; (simp only [Act.put, pu1]; dsimp only [pu2, pu3])))
      refine tree_leaf ?_
      go_wp2_with fail
      go_meet
      exact ⟨rfl, A7, c7, rfl, Lh ⟨hfin, hS⟩⟩
   ·skip
    refine tree_do (by rfl) (by rfl) (fun K hK => ?_)
    go_simp
    refine (name_anyI ((N1 : Int) + 1) (N1 + 1) (by omega) w4.drew (by omega)).mono ?_
    rintro e w32 ⟨⟨v5, rfl, o5⟩, bel⟩
    obtain ⟨A5, c5, rfl⟩ := own_shape o5
    have nA := own_base (base' := w4.heap.size) o5 hS.size
    have hS := hS.trans (bel.mono hS.size)
    clear o5 bel
    refine hK.out _ _ (fun _ => hS) (fun hS => ?_); clear hK K; replace hS := hS rfl; try (simp only [Act.put, pu1]; dsimp only [pu2, pu3])
    repeat (first
     | (refine tree_read (v := ?_) rfl (fun _ _ _ h => by first | exact h | cases h.1) rfl hS ?_ ?_; rotate_left 1; (focus (intro w' hS'; go_simp; try rfl)); (simp only [Act.put, pu1]; dsimp only [pu2, pu3]))
     | (refine tree_skip rfl (fun _ _ _ h => by first | exact h | cases h.1) rfl hS ?_; (simp only [Act.put, pu1]; dsimp only [pu2, pu3])))
    refine tree_two ?_ ?_
    ·skip
     refine tree_do (by rfl) (by rfl) (fun K hK => ?_)
     go_simp
     obtain ⟨g0, hg0⟩ : ∃ p, w32.heap.size = p := ⟨_, rfl⟩
     have bel := (Below.refl _ _).alloc (Nat.le_refl w32.heap.size) (.cells #[.int .u8 115] 5)
     have b0 : Blk (w32.alloc (.cells #[.int .u8 115] 5)) g0 5 #[.int .u8 115] := (by rw [<- hg0]; exact Blk.new _ _ _)
     have hlo0 : w4.heap.size <= g0 := (by rw [<- hg0]; exact hS.size)
     have hne5 : ∀ q, (Value.slice A5 32 c5).ownBlock = some q -> q ≠ g0 := fun q e => by have := (nA.lt q e).2; omega
     rw [hg0]
     obtain ⟨w33, hw⟩ : ∃ w2, w32.alloc (.cells #[.int .u8 115] 5) = w2 := ⟨_, rfl⟩
     rw [hw] at bel b0
     rw [show w32.alloc (.cells #[.int .u8 115] 5) = w33 from hw]
     have nA := own_below nA bel
     have hS := hS.trans (bel.mono hS.size)
     clear hw hg0 bel
     refine hK.out _ _ (fun _ => hS) (fun hS => ?_); clear hK K; replace hS := hS rfl; try (simp only [Act.put, pu1]; dsimp only [pu2, pu3])
     repeat (first
      | (refine tree_read (v := ?_) rfl (fun _ _ _ h => by first | exact h | cases h.1) rfl hS ?_ ?_; rotate_left 1; (focus (intro w' hS'; go_simp; try rfl)); (simp only [Act.put, pu1]; dsimp only [pu2, pu3]))
      | (refine tree_skip rfl (fun _ _ _ h => by first | exact h | cases h.1) rfl hS ?_; (simp only [Act.put, pu1]; dsimp only [pu2, pu3])))
     refine tree_two ?_ ?_
     ·skip
      obtain ⟨w34, hrun, hm, hf⟩ := cv_mark_at w33 g0 #[.int .u8 115] 1 1 b0
      have hg0l : g0 < w34.heap.size := Nat.lt_of_lt_of_le b0.lt hf.size
      refine tree_do (by rfl) (by rfl) (fun K hK => ?_)
      go_simp
      have sG : Sees w34 1 (some ⟨g0, 0, none⟩) 1 (u8s [115]) := sees_marked (cs := u8s [115]) hm rfl
      have nA := own_fr nA hf hne5
      have hS := hS.trans (hf.below hS.size (fun k e => by rw [e]; exact hlo0))
      clear hrun hm hf b0
      refine hK.out _ _ (fun _ => hS) (fun hS => ?_); clear hK K; replace hS := hS rfl; try (simp only [Act.put, pu1]; dsimp only [pu2, pu3])
      repeat (first
       | (refine tree_read (v := ?_) rfl (fun _ _ _ h => by first | exact h | cases h.1) rfl hS ?_ ?_; rotate_left 1; (focus (intro w' hS'; go_simp; try rfl)); (simp only [Act.put, pu1]; dsimp only [pu2, pu3]))
       | (refine tree_skip rfl (fun _ _ _ h => by first | exact h | cases h.1) rfl hS ?_; (simp only [Act.put, pu1]; dsimp only [pu2, pu3])))
      refine tree_do (by rfl) (by rfl) (fun K hK => ?_)
      refine wp_appz (.tmp 58) 22 3 5 16 rfl w4.heap.size Tryz.underlying22 Tryz.underlying3 info_byte (.slice A5 32 c5) 32 (u8s (nm (N1 + 1))) rfl nA (by omega) (by omega) hS.size ?_
      intro v6 w35 o1 o2 o3
      obtain ⟨A6, c6, hv6⟩ := own_shape o1
      have hv6 : v6 = .slice A6 48 c6 := hv6
      subst hv6
      have hf : Fr (fun k => (Value.slice A5 32 c5).ownBlock = some k) w34 w35 := Fr.of_grown o2 (fun k h => h)
      have hne6 : ∀ q, (Value.slice A6 48 c6).ownBlock = some q -> q ≠ g0 := fun q e => by
       rcases o3 with o3 | o3
       ·exact hne5 q (o3 ▸ e)
       ·rw [o3] at e; injection e with e; have : g0 < w34.heap.size := hg0l; omega
      have sG := sG.fr hf (fun _ a e => by injection e with e; subst e; exact fun h => hne5 _ h rfl)
      have hg0l : g0 < w35.heap.size := Nat.lt_of_lt_of_le hg0l hf.size
      have nB : w35.ownsRow w4.heap.size 5 1 (.slice A6 48 c6) 48 (u8s (wrp (N1 + 1))) := (by rw [wrp_u8s]; exact o1)
      have hS := hS.grown o2 hS.size (fun k hk => (nA.lt k hk).1)
      clear o1 o2 o3 nA hf
      refine hK.out _ _ (fun _ => hS) (fun hS => ?_); clear hK K; replace hS := hS rfl; try (simp only [Act.put, pu1]; dsimp only [pu2, pu3])
      repeat (first
       | (refine tree_read (v := ?_) rfl (fun _ _ _ h => by first | exact h | cases h.1) rfl hS ?_ ?_; rotate_left 1; (focus (intro w' hS'; go_simp; try rfl)); (simp only [Act.put, pu1]; dsimp only [pu2, pu3]))
       | (refine tree_skip rfl (fun _ _ _ h => by first | exact h | cases h.1) rfl hS ?_; (simp only [Act.put, pu1]; dsimp only [pu2, pu3])))
      refine tree_do (by rfl) (by rfl) (fun K hK => ?_)
      go_simp
      refine (write_rec (some ⟨g0, 0, none⟩) 1 EN bk (some ⟨zb, 0, none⟩) 32 A6 c6 (wrp (N1 + 1)) w35 (by omega) hx sG (HZ4.out _ hS) (Sees.of_own nB) (wrp_length _) (fun a e => by injection e with e; rw [<- e]; exact hg0l) (fun a e => by injection e with e; rw [<- e]; exact Nat.lt_of_lt_of_le hlt4 hS.size) (fun a e => by rw [e] at nB; exact own_addr nB (by omega))).mono ?_
      rintro e w36 ⟨v7, rfl, own7, bel⟩
      obtain ⟨A7, c7, rfl⟩ := own_shape own7
      have hfin := own_base (base' := w4.heap.size) own7 hS.size
      have hS := hS.trans (bel.mono hS.size)
      clear own7 bel
      refine hK.out _ _ (fun h => by cases h) (fun _ => ?_); clear hK K; try (simp only [Act.put, pu1]; dsimp only [pu2, pu3])
      repeat (first
       | (refine tree_read (v := ?_) rfl (fun _ _ _ h => by first | exact h | cases h.1) rfl hS ?_ ?_; rotate_left 1; (focus (intro w' hS'; go_simp; try rfl)); (simp only [Act.put, pu1]; dsimp only [pu2, pu3]))
       | (refine tree_skip rfl (fun _ _ _ h => by first | exact h | cases h.1) rfl hS ?_; (simp only [Act.put, pu1]; dsimp only [pu2, pu3])))
      refine tree_leaf ?_
      go_wp2_with fail
      go_meet
      exact ⟨rfl, A7, c7, rfl, Lh ⟨hfin, hS⟩⟩
     ·skip
      refine tree_do (by rfl) (by rfl) (fun K hK => ?_)
      refine wp_appz (.tmp 58) 22 3 5 16 rfl w4.heap.size Tryz.underlying22 Tryz.underlying3 info_byte (.slice A5 32 c5) 32 (u8s (nm (N1 + 1))) rfl nA (by omega) (by omega) hS.size ?_
      intro v6 w37 o1 o2 o3
      obtain ⟨A6, c6, hv6⟩ := own_shape o1
      have hv6 : v6 = .slice A6 48 c6 := hv6
      subst hv6
      have hf : Fr (fun k => (Value.slice A5 32 c5).ownBlock = some k) w33 w37 := Fr.of_grown o2 (fun k h => h)
      have hne6 : ∀ q, (Value.slice A6 48 c6).ownBlock = some q -> q ≠ g0 := fun q e => by
       rcases o3 with o3 | o3
       ·exact hne5 q (o3 ▸ e)
       ·rw [o3] at e; injection e with e; have : g0 < w33.heap.size := b0.lt; omega
      have b0 := b0.fr hf (fun e => hne5 _ e rfl)
      have nB : w37.ownsRow w4.heap.size 5 1 (.slice A6 48 c6) 48 (u8s (wrp (N1 + 1))) := (by rw [wrp_u8s]; exact o1)
      have hS := hS.grown o2 hS.size (fun k hk => (nA.lt k hk).1)
      clear o1 o2 o3 nA hf
      refine hK.out _ _ (fun _ => hS) (fun hS => ?_); clear hK K; replace hS := hS rfl; try (simp only [Act.put, pu1]; dsimp only [pu2, pu3])
      repeat (first
       | (refine tree_read (v := ?_) rfl (fun _ _ _ h => by first | exact h | cases h.1) rfl hS ?_ ?_; rotate_left 1; (focus (intro w' hS'; go_simp; try rfl)); (simp only [Act.put, pu1]; dsimp only [pu2, pu3]))
       | (refine tree_skip rfl (fun _ _ _ h => by first | exact h | cases h.1) rfl hS ?_; (simp only [Act.put, pu1]; dsimp only [pu2, pu3])))
      obtain ⟨w38, hrun, hm, hf⟩ := cv_mark_at w37 g0 #[.int .u8 115] 1 1 b0
      have hg0l : g0 < w38.heap.size := Nat.lt_of_lt_of_le b0.lt hf.size
      refine tree_do (by rfl) (by rfl) (fun K hK => ?_)
      go_simp
      have sG : Sees w38 1 (some ⟨g0, 0, none⟩) 1 (u8s [115]) := sees_marked (cs := u8s [115]) hm rfl
      have nB := own_fr nB hf hne6
      have hS := hS.trans (hf.below hS.size (fun k e => by rw [e]; exact hlo0))
      clear hrun hm hf b0
      refine hK.out _ _ (fun _ => hS) (fun hS => ?_); clear hK K; replace hS := hS rfl; try (simp only [Act.put, pu1]; dsimp only [pu2, pu3])
      repeat (first
       | (refine tree_read (v := ?_) rfl (fun _ _ _ h => by first | exact h | cases h.1) rfl hS ?_ ?_; rotate_left 1; (focus (intro w' hS'; go_simp; try rfl)); (simp only [Act.put, pu1]; dsimp only [pu2, pu3]))
       | (refine tree_skip rfl (fun _ _ _ h => by first | exact h | cases h.1) rfl hS ?_; (simp only [Act.put, pu1]; dsimp only [pu2, pu3])))
      refine tree_do (by rfl) (by rfl) (fun K hK => ?_)
      go_simp
      refine (write_rec (some ⟨g0, 0, none⟩) 1 EN bk (some ⟨zb, 0, none⟩) 32 A6 c6 (wrp (N1 + 1)) w38 (by omega) hx sG (HZ4.out _ hS) (Sees.of_own nB) (wrp_length _) (fun a e => by injection e with e; rw [<- e]; exact hg0l) (fun a e => by injection e with e; rw [<- e]; exact Nat.lt_of_lt_of_le hlt4 hS.size) (fun a e => by rw [e] at nB; exact own_addr nB (by omega))).mono ?_
      rintro e w39 ⟨v7, rfl, own7, bel⟩
      obtain ⟨A7, c7, rfl⟩ := own_shape own7
      have hfin := own_base (base' := w4.heap.size) own7 hS.size
      have hS := hS.trans (bel.mono hS.size)
      clear own7 bel
      refine hK.out _ _ (fun h => by cases h) (fun _ => ?_); clear hK K; try (simp only [Act.put, pu1]; dsimp only [pu2, pu3])
      repeat (first
       | (refine tree_read (v := ?_) rfl (fun _ _ _ h => by first | exact h | cases h.1) rfl hS ?_ ?_; rotate_left 1; (focus (intro w' hS'; go_simp; try rfl)); (simp only [Act.put, pu1]; dsimp only [pu2, pu3]))
       | (refine tree_skip rfl (fun _ _ _ h => by first | exact h | cases h.1) rfl hS ?_; (simp only [Act.put, pu1]; dsimp only [pu2, pu3])))
      refine tree_leaf ?_
      go_wp2_with fail
      go_meet
      exact ⟨rfl, A7, c7, rfl, Lh ⟨hfin, hS⟩⟩
    ·skip
     refine tree_do (by rfl) (by rfl) (fun K hK => ?_)
     refine wp_appz (.tmp 58) 22 3 5 16 rfl w4.heap.size Tryz.underlying22 Tryz.underlying3 info_byte (.slice A5 32 c5) 32 (u8s (nm (N1 + 1))) rfl nA (by omega) (by omega) hS.size ?_
     intro v6 w40 o1 o2 o3
     obtain ⟨A6, c6, hv6⟩ := own_shape o1
     have hv6 : v6 = .slice A6 48 c6 := hv6
     subst hv6
     have nB : w40.ownsRow w4.heap.size 5 1 (.slice A6 48 c6) 48 (u8s (wrp (N1 + 1))) := (by rw [wrp_u8s]; exact o1)
     have hS := hS.grown o2 hS.size (fun k hk => (nA.lt k hk).1)
     clear o1 o2 o3 nA
     refine hK.out _ _ (fun _ => hS) (fun hS => ?_); clear hK K; replace hS := hS rfl; try (simp only [Act.put, pu1]; dsimp only [pu2, pu3])
     repeat (first
      | (refine tree_read (v := ?_) rfl (fun _ _ _ h => by first | exact h | cases h.1) rfl hS ?_ ?_; rotate_left 1; (focus (intro w' hS'; go_simp; try rfl)); (simp only [Act.put, pu1]; dsimp only [pu2, pu3]))
      | (refine tree_skip rfl (fun _ _ _ h => by first | exact h | cases h.1) rfl hS ?_; (simp only [Act.put, pu1]; dsimp only [pu2, pu3])))
     refine tree_do (by rfl) (by rfl) (fun K hK => ?_)
     go_simp
     obtain ⟨g0, hg0⟩ : ∃ p, w40.heap.size = p := ⟨_, rfl⟩
     have bel := (Below.refl _ _).alloc (Nat.le_refl w40.heap.size) (.cells #[.int .u8 115] 5)
     have b0 : Blk (w40.alloc (.cells #[.int .u8 115] 5)) g0 5 #[.int .u8 115] := (by rw [<- hg0]; exact Blk.new _ _ _)
     have hlo0 : w4.heap.size <= g0 := (by rw [<- hg0]; exact hS.size)
     have hne6 : ∀ q, (Value.slice A6 48 c6).ownBlock = some q -> q ≠ g0 := fun q e => by have := (nB.lt q e).2; omega
     rw [hg0]
     obtain ⟨w41, hw⟩ : ∃ w2, w40.alloc (.cells #[.int .u8 115] 5) = w2 := ⟨_, rfl⟩
     rw [hw] at bel b0
     rw [show w40.alloc (.cells #[.int .u8 115] 5) = w41 from hw]
     have nB := own_below nB bel
     have hS := hS.trans (bel.mono hS.size)
     clear hw hg0 bel
     refine hK.out _ _ (fun _ => hS) (fun hS => ?_); clear hK K; replace hS := hS rfl; try (simp only [Act.put, pu1]; dsimp only [pu2, pu3])
     repeat (first
      | (refine tree_read (v := ?_) rfl (fun _ _ _ h => by first | exact h | cases h.1) rfl hS ?_ ?_; rotate_left 1; (focus (intro w' hS'; go_simp; try rfl)); (simp only [Act.put, pu1]; dsimp only [pu2, pu3]))
      | (refine tree_skip rfl (fun _ _ _ h => by first | exact h | cases h.1) rfl hS ?_; (simp only [Act.put, pu1]; dsimp only [pu2, pu3])))
     obtain ⟨w42, hrun, hm, hf⟩ := cv_mark_at w41 g0 #[.int .u8 115] 1 1 b0
     have hg0l : g0 < w42.heap.size := Nat.lt_of_lt_of_le b0.lt hf.size
     refine tree_do (by rfl) (by rfl) (fun K hK => ?_)
     go_simp
     have sG : Sees w42 1 (some ⟨g0, 0, none⟩) 1 (u8s [115]) := sees_marked (cs := u8s [115]) hm rfl
     have nB := own_fr nB hf hne6
     have hS := hS.trans (hf.below hS.size (fun k e => by rw [e]; exact hlo0))
     clear hrun hm hf b0
     refine hK.out _ _ (fun _ => hS) (fun hS => ?_); clear hK K; replace hS := hS rfl; try (simp only [Act.put, pu1]; dsimp only [pu2, pu3])
     repeat (first
      | (refine tree_read (v := ?_) rfl (fun _ _ _ h => by first | exact h | cases h.1) rfl hS ?_ ?_; rotate_left 1; (focus (intro w' hS'; go_simp; try rfl)); (simp only [Act.put, pu1]; dsimp only [pu2, pu3]))
      | (refine tree_skip rfl (fun _ _ _ h => by first | exact h | cases h.1) rfl hS ?_; (simp only [Act.put, pu1]; dsimp only [pu2, pu3])))
     refine tree_do (by rfl) (by rfl) (fun K hK => ?_)
     go_simp
     refine (write_rec (some ⟨g0, 0, none⟩) 1 EN bk (some ⟨zb, 0, none⟩) 32 A6 c6 (wrp (N1 + 1)) w42 (by omega) hx sG (HZ4.out _ hS) (Sees.of_own nB) (wrp_length _) (fun a e => by injection e with e; rw [<- e]; exact hg0l) (fun a e => by injection e with e; rw [<- e]; exact Nat.lt_of_lt_of_le hlt4 hS.size) (fun a e => by rw [e] at nB; exact own_addr nB (by omega))).mono ?_
     rintro e w43 ⟨v7, rfl, own7, bel⟩
     obtain ⟨A7, c7, rfl⟩ := own_shape own7
     have hfin := own_base (base' := w4.heap.size) own7 hS.size
     have hS := hS.trans (bel.mono hS.size)
     clear own7 bel
     refine hK.out _ _ (fun h => by cases h) (fun _ => ?_); clear hK K; try (simp only [Act.put, pu1]; dsimp only [pu2, pu3])
     repeat (first
      | (refine tree_read (v := ?_) rfl (fun _ _ _ h => by first | exact h | cases h.1) rfl hS ?_ ?_; rotate_left 1; (focus (intro w' hS'; go_simp; try rfl)); (simp only [Act.put, pu1]; dsimp only [pu2, pu3]))
      | (refine tree_skip rfl (fun _ _ _ h => by first | exact h | cases h.1) rfl hS ?_; (simp only [Act.put, pu1]; dsimp only [pu2, pu3])))
     refine tree_leaf ?_
     go_wp2_with fail
     go_meet
     exact ⟨rfl, A7, c7, rfl, Lh ⟨hfin, hS⟩⟩
  case rest =>
   obtain ⟨rfl, A7, c7, rfl, hfin⟩ := hcut
   have hR5 := H4.out.1.below hfin.out.2
   have hb5 : Below base w wc := H4.out.2.1.trans (hfin.out.2.mono H4.out.1.base_le)
   have d5 : wc.cell? ⟨a.r, 5, none⟩ = some (.pointer (some ⟨a.lb, 0, none⟩)) := hR5.top.cell 5
   have hs : S1.s = S.s := H1.out.2.1.2.2.2.1
   have hTb := (HH.out.2.2.1.below hb5).here
   have HAP := Lh (append_any a.lb a.b (2 * S1.slots) S1.s a.bg a.cB a.A a.cT a.C a.cC a.vs L (recb EN bk (wrp (N1 + 1))) A7 144 c7 wc hR5.log (by rw [hs]; exact HH.out.2.1.sok) (by rw [hs]; exact HH.out.2.1.foot) (by rw [hs]; have := HH.out.2.1.stxt; omega) (Sees.of_own hfin.out.1) (recb_length _ _ _ (wrp_length _)) (by unfold maxLen; omega)
    (fun _ b hb hL => by
     have h1 := (H4.out.1.tL _ hL).2.2
     rw [hb] at hfin
     obtain ⟨g, cap, cur, hv, hlo, -⟩ := own_open hfin.out.1 (by omega)
     injection hv with hv
     injection hv with hv
     rw [hv] at h1
     have h1' : g < w4.heap.size := h1
     omega) hTb.sha (fun k hk => HH.out.2.2.2 k (hR5.tL k hk).2.1) (fun k hk => (hR5.tL k hk).2.2))
   have H5 := Lh (Ai hR5 hb5)
   clear hfin hR5 hb5 hs hTb d8
   go_wp2_with fail
   refine HAP.out.mono ?_
   rintro e w6 ⟨hne, heq⟩
   clear HAP
   by_cases he : S1.s.err 144 = 0
   ·obtain ⟨rfl, fr6, A', cT', C', cC', vs', hl6⟩ := heq he
    obtain ⟨L', T', hR6, bel6⟩ := H5.out.1.logTo hl6 fr6
    have hb6 := H5.out.2.trans bel6
    have d8 : w6.cell? ⟨a.r, 8, none⟩ = some (.slice a.eA S1.eps.length a.eC) := hR6.top.cell 8
    rw [<- HEN.out] at d8
    have HE := Lh he
    have H6 := Lh (Ai hR6 hb6)
    have hz6 := hb6.size
    have hal : Below w6.heap.size w6 (w6.alloc (.cells #[.int .i64 bk, .int .i64 N1] 101)) := (Below.refl _ _).alloc (Nat.le_refl _) _
    have hR7 := hR6.below hal
    have own7 := hR7.eps
    rw [<- HEN.out] at own7
    have hse : Sees (w6.alloc (.cells #[.int .i64 bk, .int .i64 N1] 101)) 2 (some ⟨w6.heap.size, 0, none⟩) 1 [.int .i64 bk, .int .i64 N1] := sees_new w6 101 [.int .i64 bk, .int .i64 N1] 2 1 rfl
    have H7 := Lh (Ai hR7 (hb6.trans (hal.mono (Nat.le_trans hbw hz6))))
    have hENb : EN <= 1000 := by rw [HEN.out, H1.out.2.1.2.2.2.2.1]; exact HH.out.2.1.elen2
    clear hne heq he fr6 hl6 hR6 bel6 hb6 hal hR7
    go_wp2_with (at_builtin; refine wpList_app rfl (.tmp 77) (.tmp 81) _ rfl base 101 _ 2 16 Tryz.underlying89 info_epoch rfl (by decide) (.slice a.eA EN a.eC) EN _ rfl own7 (some ⟨w6.heap.size, 0, none⟩) 1 1 [.int .i64 bk, .int .i64 N1] rfl hse (by simp [Value.oneCell']) (by unfold maxLen; omega) (by omega) (by simp; omega) ?_; intro v8 w8 o1 o2 o3 o4; obtain ⟨A8, c8, rfl⟩ := own_shape o1; have H8 := Lh (Ai o1 (Ai o2 o3)); clear o1 o2 o3 o4; have hx8 := epsTo_pre (x := ((bk : Int), (N1 : Int))) H7.out.1 HEN.out H8.out.1 H8.out.2.1 H8.out.2.2; have f8 := hx8.1; have g8 := hx8.2.1; have k8 := hx8.2.2.1; have HX8 := Lh hx8.2.2.2; clear hx8)
    go_ret2
    obtain ⟨T9, hR9, bel9⟩ := HX8.out
    refine ⟨?_, H7.out.2.trans bel9⟩
    unfold EpPost
    rw [HEN.out, H1.out.2.2.2] at hR9 ⊢
    exact ⟨S1.eps.length, _, true, _, ⟨a.r, a.b, a.t, a.sg, a.lb, a.p, A8, c8, a.bg, a.cB, A', cT', C', cC', vs'⟩, F1, K1, _, P3, T9, rfl, .inl ⟨rfl, rfl⟩, .inr ⟨n, S1, H1.out.1, .inr ⟨rfl, rfl, HE.out, rfl⟩⟩, rfl, hR9⟩
   ·obtain ⟨⟨g, rfl⟩, bel6⟩ := hne he
    have HE := Lh he
    have H6 := Lh (Ai (H5.out.1.below bel6) (H5.out.2.trans (bel6.mono H5.out.1.base_le)))
    clear hne heq he bel6
    go_wp2_with fail
    go_ret2
    rw [H1.out.2.2.2] at H6
    refine ⟨?_, H6.out.2⟩
    unfold EpPost
    exact ⟨0, _, false, _, a, F1, K1, L, P3, T3, rfl, .inr ⟨rfl, g, rfl⟩, .inr ⟨n, S1, H1.out.1, .inl ⟨rfl, rfl, HE.out, rfl⟩⟩, rfl, H6.out.1⟩
 ·have H1 := Lh (Ai hrel (Ai hR1 bel1))
  clear hrel hR1 bel1 HKY
  go_wp2_with fail
  go_ret2
  refine ⟨?_, H1.out.2.2⟩
  unfold EpPost
  exact ⟨0, _, false, S1, a, F1, K1, L, P1, T1, rfl, .inr ⟨rfl, g, rfl⟩, .inl ⟨rfl, rfl, n, H1.out.1⟩, rfl, H1.out.2.1⟩
end Go.Proofs.YtkgaeoeibjoljaaGreatDoor
