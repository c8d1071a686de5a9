/-
  The key of a run's bucket, walked.
  A record of a run, written.
  append(b, make([]byte, m)...) behind a row that is there.
  Octets of a constant, marked wherever they lie; noughts put behind octets, in a region that draws.
-/
import Derived.Test.YtkgaeoeibjoljaaGreatDoorGV
import Derived.Test.YtkgaeoeibjoljaaGreatDoorGS
import Derived.Test.YtkgaeoeibjoljaaGreatDoorGB
import Derived.Lib.AppendZeros
import Derived.Maps.AppendAt
import Derived.Test.YtkgaeoeibjoljaaGreatDoorGC
namespace Go.Proofs.YtkgaeoeibjoljaaGreatDoor
section
set_option maxRecDepth 4000
open Go.RowKit
def KeyRel (S : St) (bk n : Nat) (S' : St) (ok : Bool) : Prop :=
 (∃ e0 : Ke, some e0 ∈ S.E /\ e0.buck = bk /\ e0.key = nm n /\ n <= 900 /\ S' = S /\ ok = true) \/
 ((∀ e, some e ∈ S.E -> e.buck ≠ bk) /\ n = S.l.length /\ PutRel { S with l := S.l ++ [atm S.atoms], atoms := S.atoms + 1 } bk (nm n) S' ok)
structure StOk (S : St) : Prop where
 dok : S.D.Ok
 dq : S.D.queue.length <= 900
 elen : S.E.length = S.slots
 few : S.slots <= 8
 segs : 1 <= S.segs /\ S.segs <= 8
 size : 2 <= S.size /\ S.size <= 16
 fit : (2 * S.slots + S.segs * S.size) * 128 <= S.D.safe.length
 most : S.D.size <= 1000
 pool : Pool S.l
 plen : S.l.length <= 900
 fresh : ∀ t ∈ S.l, t.k = 1 -> t.a < S.atoms
 alen : S.atoms <= 900
 keys : ∀ e, some e ∈ S.E -> ∃ n, n < S.l.length /\ e.key = nm n
 ssegs : S.s.segs = S.segs
 ssize : S.s.size = S.size
 sok : S.s.Ok
 foot : S.s.sealed_ = false -> S.s.used + 48 <= S.s.n
 stxt : S.s.texts.length <= 100000
 elen2 : S.eps.length <= 1000
set_option maxHeartbeats 4000000 in
theorem skey_any {w : World} {base : Nat} {S : St} {a : Loc} {F K L P : Nat -> Prop} {T : Nat -> Nat} (h : Rn w base S a F K L P T) (ho : StOk S) (hT : TabsS w) (bk : Nat) (hx : bk <= 1099511627776) :
  Calls Tryz.prog 50 #[.pointer (some ⟨a.r, 0, none⟩), .int .i64 bk] w fun e w' => (∃ n v ok S' F' K' P' T', e = .returned (.tuple #[.int .i64 (n : Nat), v]) /\ ErrIs ok v /\ KeyRel S bk n S' ok /\ Rn w' base S' a F' K' L P' T') /\ Below base w w' := by
 have HG := Lh (get_any a.t a.b a.sg (0 : Nat) S.E S.dead K bk w h.tab (by have := ho.elen; have := ho.few; omega))
 have c4 : w.cell? ⟨a.r, 4, none⟩ = some (.pointer (some ⟨a.t, 0, none⟩)) := h.top.cell 4
 have HH := Lh (Ai h (Ai ho hT))
 have hbw := h.base_le
 clear h ho hT
 go_enter Tryz.func50, Tryz.ntmps50
 go_wp2_with fail
 refine HG.out.mono ?_
 rintro e w1 ⟨bel1, ⟨rfl, hno⟩ | ⟨v, i, e', rfl, hi, hbk, own1⟩⟩
 ·have hR1 := HH.out.1.below bel1
  have hT1 := HH.out.2.2.below (Nat.le_refl _) bel1
  have ho := HH.out.2.1
  have HA := Lh (atom_any hR1 ho.pool (by have := ho.plen; omega) (atm_new ho.fresh) (by have := ho.alen; omega) hT1.ten)
  have H1 := Lh (Ai bel1 hno)
  clear hR1 hT1 ho bel1 hno HG
  go_wp2_with fail
  refine HA.out.mono ?_
  rintro e w2 ⟨rfl, ⟨P2, T2, hR2⟩, bel2⟩
  obtain ⟨N, hN⟩ : ∃ N, N = S.l.length := ⟨_, rfl⟩
  rw [<- hN]
  have hNb : N <= 900 := by rw [hN]; exact HH.out.2.1.plen
  have hb2 : Below base w w2 := (H1.out.1.mono hbw).trans bel2
  have d4 : w2.cell? ⟨a.r, 4, none⟩ = some (.pointer (some ⟨a.t, 0, none⟩)) := hR2.top.cell 4
  have HNM := Lh (name_any N w2.drew (by omega))
  have H2 := Lh (Ai hR2 (Ai hb2 hN))
  clear hR2 bel2 hb2 hN HA
  go_wp2_with fail
  refine region_fast [(0, true), (1, true), (2, true), (3, true), (4, true), (5, true), (6, true), (7, false), (8, false), (9, true), (10, true)] [1, 2, 3, 4, 5, 6, 7, 8] 510 [(67108864, 256, 0, 0), (134217728, 1, 0, 0), (268435456, 134217728, 2, 2), (536870912, 268435456, 4, 6), (1073741824, 536870912, 8, 14), (2147483648, 2, 0, 0), (4294967296, 256, 0, 0), (8589934592, 4294967296, 64, 64), (17179869184, 11811160064, 176, 254), (16, 67108864, 257, 511), (32, 17179869184, 1023, 1023)] (fun W => W.cell? ⟨a.r, 4, none⟩ = some (.pointer (some ⟨a.t, 0, none⟩))) (by kernel_rfl) (by kernel_rfl) (by kernel_rfl) rfl (by kernel_rfl) (by kernel_rfl) d4 (fun hS => ?_)
  repeat (first
   | (refine plan_read (v := ?_) rfl (fun _ _ _ h => h) rfl hS ?_ ?_; rotate_left 1; (focus (intro w' hS'; have e0 := hS'; go_simp; try rfl)); (simp only [Act.put, pu1]; dsimp only [pu2, pu3]))
   | (refine plan_skip rfl (fun _ _ _ h => h) rfl hS ?_; (simp only [Act.put, pu1]; dsimp only [pu2, pu3])))
  refine plan_do (by rfl) (by rfl) (fun K hK => ?_)
  go_simp
  refine HNM.out.mono ?_
  rintro e w3 ⟨⟨v3, rfl, own3⟩, bel3⟩
  obtain ⟨g3, cap3, cur3, rfl, hgb3, -⟩ := own_open own3 (by omega)
  have hR3 := H2.out.1.drew.below bel3
  have e4 : w3.cell? ⟨a.r, 4, none⟩ = some (.pointer (some ⟨a.t, 0, none⟩)) := hR3.top.cell 4
  have hb3 : Below base w w3 := H2.out.2.1.trans (below_of_drew (bel3.mono H2.out.1.base_le))
  have hz3 := bel3.size
  have ho := HH.out.2.1
  have HPU := Lh (rput_any hR3 bk (nm N) ⟨g3, 0, none⟩ cap3 ho.dok ho.dq (by have := ho.elen; have := ho.few; show S.E.length <= 1000; omega) (by have h1 := ho.elen; have h2 := ho.fit; show (0 + 2 * S.E.length) * 128 <= S.D.safe.length; rw [h1]; have : (0 + 2 * S.slots) * 128 <= (2 * S.slots + S.segs * S.size) * 128 := Nat.mul_le_mul_right _ (by omega); omega) hx (nm_length N) (Sees.of_own own3)
   ⟨fun e => by have h1 := (H2.out.1.tF _ e).2.2; have h2 : w2.heap.size <= g3 := hgb3; have h3 : g3 < w2.heap.size := h1; omega, fun e => by have h1 := (H2.out.1.tK _ e).2.2; have h2 : w2.heap.size <= g3 := hgb3; have h3 : g3 < w2.heap.size := h1; omega⟩ H1.out.2)
  have H3 := Lh hb3
  clear own3 hR3 bel3 hb3 hz3 ho HNM hgb3
  refine hK.out _ _ (fun _ => e4) (fun hS => ?_); clear hK K; replace hS := hS rfl; try (simp only [Act.put, pu1]; dsimp only [pu2, pu3])
  repeat (first
   | (refine plan_read (v := ?_) rfl (fun _ _ _ h => h) rfl hS ?_ ?_; rotate_left 1; (focus (intro w' hS'; go_simp; try rfl)); (simp only [Act.put, pu1]; dsimp only [pu2, pu3]))
   | (refine plan_skip rfl (fun _ _ _ h => h) rfl hS ?_; (simp only [Act.put, pu1]; dsimp only [pu2, pu3])))
  refine plan_do (by rfl) (by rfl) (fun K hK => ?_)
  go_simp
  refine HPU.out.mono ?_
  rintro e w4 ⟨⟨v4, ok, S4, F4, K4, T4, rfl, herr, hrel, hR4⟩, bel4⟩
  have H4 := Lh (Ai herr (Ai hrel (Ai hR4 (H3.out.trans bel4))))
  have hS : w4.cell? ⟨a.r, 4, none⟩ = some (.pointer (some ⟨a.t, 0, none⟩)) := hR4.top.cell 4
  clear herr hrel hR4 bel4 HPU
  refine hK.out _ _ (fun _ => hS) (fun hS => ?_); clear hK K; replace hS := hS rfl; try (simp only [Act.put, pu1]; dsimp only [pu2, pu3])
  repeat (first
   | (refine plan_read (v := ?_) rfl (fun _ _ _ h => h) rfl hS ?_ ?_; rotate_left 1; (focus (intro w' hS'; go_simp; try rfl)); (simp only [Act.put, pu1]; dsimp only [pu2, pu3]))
   | (refine plan_skip rfl (fun _ _ _ h => h) rfl hS ?_; (simp only [Act.put, pu1]; dsimp only [pu2, pu3])))
  refine plan_nil ?_
  go_wp2_with fail
  go_ret2
  exact ⟨⟨N, v4, ok, S4, F4, K4, P2, T4, rfl, H4.out.1, .inr ⟨H1.out.2, H2.out.2.2, H4.out.2.1⟩, H4.out.2.2.1⟩, H4.out.2.2.2⟩
 ·obtain ⟨A1, c1, rfl⟩ := own_shape own1
  obtain ⟨n, hn, hkey⟩ := HH.out.2.1.keys e' (List.mem_of_getElem? hi)
  have hn9 : n <= 900 := by have := HH.out.2.1.plen; omega
  rw [hkey] at own1
  have hcp := own_caps own1
  have hT1 := HH.out.2.2.below (Nat.le_refl _) bel1
  have HNM := Lh (named_any (nm n) A1 32 c1 w1 (Sees.of_own own1) (nm_length n) hcp.1 (by omega) hcp.2.1 hcp.2.2 hT1.mx)
  have H1 := Lh (Ai bel1 (Ai hi (Ai hbk hkey)))
  have hz1 := bel1.size
  clear own1 hcp hT1 bel1 hi hbk hkey hn HG
  go_wp2_with fail
  refine HNM.out.mono ?_
  rintro e w2 ⟨v2, ss, rfl, own2, hpw, hin, bel2⟩
  obtain rfl : ss = [(n : Int)] := only_one hpw (fun y => by rw [hin y]; exact names_nm n (by omega) y)
  have hb2 : Below w.heap.size w w2 := H1.out.1.trans (bel2.mono hz1)
  have hse : Sees (w2.alloc (.cells #[.int .i64 0] 3)) 1 (some ⟨w2.heap.size, 0, none⟩) 1 [.int .i64 0] := sees_new w2 3 [.int .i64 0] 1 1 rfl
  have H2 := Lh (Ai own2 hb2)
  have hz2 := bel2.size
  clear own2 hpw hin bel2 hb2 HNM
  have own2 := H2.out.1
  go_wp2_with (at_builtin; refine wpList_app rfl (.tmp 20) (.tmp 21) _ rfl w1.heap.size 3 _ 1 8 Tryz.underlying28 info_int8 rfl (by decide) v2 1 [.int .i64 n] rfl (own_below own2 ((Below.refl _ _).alloc (Nat.le_refl _) _)) (some ⟨w2.heap.size, 0, none⟩) 1 1 [.int .i64 0] rfl hse (by simp [Value.oneCell']) (by unfold maxLen; omega) (by omega) (by simp; omega) ?_; intro v3 w3 o1 o2 o3 o4; obtain ⟨A3, c3, rfl⟩ := own_shape o1; have H3 := Lh (Ai o1 o2); clear o1 o2 o3 o4)
  have hb3 : Below w.heap.size w w3 := (H2.out.2.alloc H2.out.2.size _).grown H3.out.2 (by simp; omega) (fun q e => by have := (own2.lt q e).1; omega)
  have HMX := Lh (max_zero A3 [(n : Int)] c3 w3 (Sees.of_own H3.out.1) (by simp) n rfl)
  have H4 := Lh hb3
  clear hb3
  go_wp2_with fail
  refine HMX.out.mono ?_
  rintro e w4 ⟨rfl, rfl⟩
  go_wp2_with fail
  go_ret2
  exact ⟨⟨n, _, true, S, F, K, P, T, rfl, .inl ⟨rfl, rfl⟩, .inl ⟨e', List.mem_of_getElem? H1.out.2.1, H1.out.2.2.1, H1.out.2.2.2, hn9, rfl, rfl⟩, HH.out.1.below H4.out⟩, H4.out.mono hbw⟩
end
section
set_option maxRecDepth 4000
open Go.RowKit
theorem pu8_any (base p : Nat) (l : List UInt8) (n : Nat) (w : World) (hP : Pen w base p l) (hn : n < 256) (hl : l.length <= 1000000) :
  Calls Tryz.prog 84 #[.pointer (some ⟨p, 0, none⟩), .int .i64 n] w fun e w' => e = .returned (.tuple #[]) /\ Pen w' base p (l ++ be n 1) /\ Below base w w' := by
 have HN := Lh (small_any base p l n 1 w hP (by omega) (by omega) (by simpa using hn) hl)
 clear hP
 go_enter Tryz.func84, Tryz.ntmps84
 go_wp2_with fail
 refine HN.out.mono ?_
 rintro e w' ⟨rfl, h1, h2⟩
 go_wp2_with fail
 refine bodyPost_end (results_none rfl _ _ _) rfl ?_
 exact ⟨rfl, h1, h2⟩
theorem ptext_any (base p : Nat) (l m : List UInt8) (A : Option Addr) (n c k : Nat) (w : World) (hP : Pen w base p l) (hS : Sees w 1 A n (u8s m)) (hm : m.length = n) (hk : k <= 2) (hnk : n < 2 ^ (8 * k)) (hn : n <= 100000) (hl : l.length + n + k <= 900000) (hA : ∀ a, A = some a -> a.block < base) (hb : base <= w.heap.size) :
  Calls Tryz.prog 133 #[.pointer (some ⟨p, 0, none⟩), .slice A n c, .int .i64 k] w fun e w' => e = .returned (.tuple #[]) /\ Pen w' base p (l ++ (be n k ++ m)) /\ Below base w w' := by
 have HN := Lh (small_any base p l n k w hP (by omega) (by omega) hnk (by omega))
 have HS := Lh (Ai hS (Ai hm hA))
 clear hP hS hm hA hnk
 go_enter Tryz.func133, Tryz.ntmps133
 go_wp2_with fail
 refine HN.out.mono ?_
 rintro e w1 ⟨rfl, h1, h2⟩
 have hS1 : Sees w1 1 A n (u8s m) := HS.out.1.keep0 fun h0 g off e hg => h2.block g (HS.out.2.2 _ e)
 have HR := Lh (raw_any base p (l ++ be n k) m A n c w1 h1 hS1 HS.out.2.1 (by rw [List.length_append, length_be]; omega))
 have H1 := Lh h2
 clear h1 h2 hS1 HN
 go_wp2_with fail
 refine HR.out.mono ?_
 rintro e w2 ⟨rfl, h1, h2⟩
 rw [List.append_assoc] at h1
 have H2 := Lh (Ai h1 (H1.out.trans h2))
 clear h1 h2 HR
 go_wp2_with fail
 refine bodyPost_end (results_none rfl _ _ _) rfl ?_
 exact ⟨rfl, H2.out.1, H2.out.2⟩
theorem short_any (base p : Nat) (l m : List UInt8) (A : Option Addr) (n c : Nat) (w : World) (hP : Pen w base p l) (hS : Sees w 1 A n (u8s m)) (hm : m.length = n) (hn : n < 256) (hl : l.length <= 100000) (hA : ∀ a, A = some a -> a.block < base) (hb : base <= w.heap.size) :
  Calls Tryz.prog 85 #[.pointer (some ⟨p, 0, none⟩), .slice A n c] w fun e w' => e = .returned (.tuple #[]) /\ Pen w' base p (l ++ (be n 1 ++ m)) /\ Below base w w' := by
 have HN := Lh (ptext_any base p l m A n c 1 w hP hS hm (by omega) (by simpa using hn) (by omega) (by omega) hA hb)
 clear hP hS hA
 go_enter Tryz.func85, Tryz.ntmps85
 go_wp2_with fail
 refine HN.out.mono ?_
 rintro e w' ⟨rfl, h1, h2⟩
 go_wp2_with fail
 refine bodyPost_end (results_none rfl _ _ _) rfl ?_
 exact ⟨rfl, h1, h2⟩
theorem long_nil (base p : Nat) (l : List UInt8) (w : World) (hP : Pen w base p l) (hl : l.length <= 100000) (hb : base <= w.heap.size) :
  Calls Tryz.prog 86 #[.pointer (some ⟨p, 0, none⟩), .slice none 0 0] w fun e w' => e = .returned (.tuple #[]) /\ Pen w' base p (l ++ be 0 2) /\ Below base w w' := by
 have HN := Lh (ptext_any base p l [] none 0 0 2 w hP (Sees.none_ _ _ _) rfl (by omega) (by simp) (by omega) (by omega) (fun a h => by cases h) hb)
 clear hP
 go_enter Tryz.func86, Tryz.ntmps86
 go_wp2_with fail
 refine HN.out.mono ?_
 rintro e w' ⟨rfl, h1, h2⟩
 rw [List.append_nil] at h1
 go_wp2_with fail
 refine bodyPost_end (results_none rfl _ _ _) rfl ?_
 exact ⟨rfl, h1, h2⟩
theorem rwithin_any (n m : Nat) (w : World) (h : n <= m) : Calls Tryz.prog 131 #[.int .i64 n, .int .i64 m] w fun e w' => e = .returned (.bool true) /\ w = w' := by
 have h1 : (n : Int) <= (m : Int) := by omega
 have h0 : (0 : Int) <= (n : Int) := by omega
 go_enter Tryz.func131, Tryz.ntmps131
 go_wp2_with fail
 go_ret
 exact ⟨ret_bool (by first | rfl | (simp; done) | (simp; omega)), rfl⟩
def recv (G : Option Addr) (cg : Nat) (ep bk : Nat) (Z : Option Addr) (cz : Nat) (X : Option Addr) (cx : Nat) : Value :=
 .agg #[.int .i64 1, .slice G 1 cg, .int .i64 ep, .int .i64 0, .int .i64 bk, .slice none 0 0, .slice Z 32 cz, .slice Z 32 cz, .slice X 48 cx]
def recb (ep bk : Nat) (wr : List UInt8) : List UInt8 := be 1 1 ++ ((be 1 1 ++ [115]) ++ (be ep 8 ++ (be 0 8 ++ (be bk 8 ++ (be 0 2 ++ ((be 32 1 ++ List.replicate 32 0) ++ ((be 32 1 ++ List.replicate 32 0) ++ (be 48 1 ++ wr))))))))
theorem recb_length (ep bk : Nat) (wr : List UInt8) (h : wr.length = 48) : (recb ep bk wr).length = 144 := by
 simp [recb, length_be, h]
theorem right_rec (G : Option Addr) (cg ep bk : Nat) (Z : Option Addr) (cz : Nat) (X : Option Addr) (cx : Nat) (w : World) (he : ep <= 1048576) (hb : bk <= 1099511627776) :
  Calls Tryz.prog 83 #[recv G cg ep bk Z cz X cx] w fun e w' => e = .returned (.bool true) /\ Below w.heap.size w w' := by
 have H1 := Lh (fun w => rwithin_any ep 1048576 w he)
 have H2 := Lh (fun w => rwithin_any 0 1099511627776 w (by omega))
 have H3 := Lh (fun w => rwithin_any bk 1099511627776 w hb)
 unfold recv
 go_enter Tryz.func83, Tryz.ntmps83
 go_wp2_with fail
 refine (H1.out _).mono ?_
 rintro e w1 ⟨rfl, rfl⟩
 go_wp2_with fail
 refine (H2.out _).mono ?_
 rintro e w1 ⟨rfl, rfl⟩
 go_wp2_with fail
 refine (H3.out _).mono ?_
 rintro e w1 ⟨rfl, rfl⟩
 go_wp2_with fail
 go_ret
 exact ⟨rfl, (Below.refl _ _).alloc (Nat.le_refl _) _⟩
set_option maxHeartbeats 2000000 in
theorem write_rec (G : Option Addr) (cg ep bk : Nat) (Z : Option Addr) (cz : Nat) (X : Option Addr) (cx : Nat) (wr : List UInt8) (w : World) (he : ep <= 1048576) (hb : bk <= 1099511627776) (hG : Sees w 1 G 1 (u8s [115])) (hZ : Sees w 1 Z 32 (u8s (List.replicate 32 0))) (hX : Sees w 1 X 48 (u8s wr)) (hw : wr.length = 48) (hgl : ∀ a, G = some a -> a.block < w.heap.size) (hzl : ∀ a, Z = some a -> a.block < w.heap.size) (hxl : ∀ a, X = some a -> a.block < w.heap.size) :
  Calls Tryz.prog 53 #[recv G cg ep bk Z cz X cx] w fun e w' => ∃ v, e = .returned (.tuple #[v, .bool true]) /\ w'.ownsRow w.heap.size 5 1 v 144 (u8s (recb ep bk wr)) /\ Below w.heap.size w w' := by
 have HR := Lh (fun W => right_rec G cg ep bk Z cz X cx W he hb)
 have HN := Lh new_any
 have HI := Lh (Ai hG (Ai hZ (Ai hX (Ai hw (Ai hgl (Ai hzl hxl))))))
 have hwe : IntKind.u64.wrap (ep : Int) = (ep : Int) := by rw [IntKind.wrap_u64]; omega
 have hwb : IntKind.u64.wrap (bk : Int) = (bk : Int) := by rw [IntKind.wrap_u64]; omega
 clear hG hZ hX hw hgl hzl hxl
 obtain ⟨W0, hW0⟩ : ∃ W, w.alloc (.cells #[.int .i64 1, .slice G 1 cg, .int .i64 ep, .int .i64 0, .int .i64 bk, .slice none 0 0, .slice Z 32 cz, .slice Z 32 cz, .slice X 48 cx] 98) = W := ⟨_, rfl⟩
 have hB0 : Blk W0 w.heap.size 98 #[.int .i64 1, .slice G 1 cg, .int .i64 ep, .int .i64 0, .int .i64 bk, .slice none 0 0, .slice Z 32 cz, .slice Z 32 cz, .slice X 48 cx] := hW0 ▸ Blk.new _ _ _
 have hb0 : Below w.heap.size w W0 := hW0 ▸ (Below.refl _ _).alloc (Nat.le_refl _) _
 have HB0 := Lh (Ai hB0 hb0)
 have HW0 := Lh hW0
 clear hB0 hb0 hW0
 unfold recv at HR ⊢
 go_enter Tryz.func53, Tryz.ntmps53
 go_wp2_with fail
 rw [HW0.out]
 refine (HR.out _).mono ?_
 rintro e w1 ⟨rfl, bel1⟩
 have hB1 := HB0.out.1.below bel1 HB0.out.1.lt
 have hb1 : Below w.heap.size w w1 := HB0.out.2.trans (bel1.mono HB0.out.2.size)
 have hlt1 := hB1.lt
 have H1 := Lh (Ai hB1 hb1)
 clear hB1 bel1 HR HB0 HW0
 go_wp2_with fail
 refine (HN.out _).mono ?_
 rintro e w2 ⟨rfl, hp2, bel2⟩
 obtain ⟨nb, hnb⟩ : ∃ n, n = w1.heap.size := ⟨_, rfl⟩
 have hb1z := hb1.size
 rw [<- hnb] at hp2 bel2 hlt1 hb1z ⊢
 have hbase2 : nb <= w2.heap.size := by rw [hnb]; exact bel2.size
 have HNB := Lh hnb
 have HBx := Lh (fun (W : World) (h : Below nb w1 W) => (show Blk W w.heap.size 98 _ from H1.out.1.keep (h.block _ hlt1)))
 have HSx := Lh (fun (W : World) (h : Below nb w1 W) => (h : Below nb w1 W))
 have hx : ∀ (W : World) (A : Option Addr) (n : Nat) (xs : List Value), Below nb w1 W -> (∀ a, A = some a -> a.block < w.heap.size) -> Sees w 1 A n xs -> Sees W 1 A n xs := fun W A n xs hW ha hs => (hs.below H1.out.2).keep0 fun h0 g off e hg => hW.block g (Nat.lt_of_lt_of_le (ha _ e) hb1z)
 have HX := Lh hx
 have hlo : ∀ a : Addr, a.block < w.heap.size -> a.block < nb := fun a h => Nat.lt_of_lt_of_le h hb1z
 have HLO := Lh hlo
 have HP2 := Lh hp2
 have HL2 := Lh bel2
 clear hx hlo hp2 bel2 hb1 hnb
 have HC0 := Lh (pu8_any nb nb ([] : List UInt8) 1 w2 HP2.out (by omega) (by simp))
 have c0 : w2.cell? ⟨w.heap.size, 0, none⟩ = some (.int .i64 1) := (HBx.out _ HL2.out).cell 0
 go_wp2_with fail
 refine HC0.out.mono ?_
 rintro e w3 ⟨rfl, hp3, bel3⟩
 rw [List.nil_append] at hp3
 obtain ⟨l1, hl1⟩ : ∃ l, l = be 1 1 := ⟨_, rfl⟩
 rw [<- hl1] at hp3
 have HN1 := Lh (show l1.length = 1 by rw [hl1]; simp [length_be])
 have HE1 := Lh hl1
 have HP3 := Lh hp3
 have HL3 := Lh (HL2.out.trans bel3)
 have hbase3 : nb <= w3.heap.size := Nat.le_trans hbase2 bel3.size
 clear hp3 bel3 HC0 c0 hl1
 have HC1 := Lh (short_any nb nb l1 [115] G 1 cg w3 HP3.out (HX.out _ _ _ _ HL3.out HI.out.2.2.2.2.1 HI.out.1) rfl (by omega) (by rw [HN1.out]; omega) (fun a e => HLO.out _ (HI.out.2.2.2.2.1 a e)) hbase3)
 have c1 : w3.cell? ⟨w.heap.size, 1, none⟩ = some (.slice G 1 cg) := (HBx.out _ HL3.out).cell 1
 go_wp2_with fail
 refine HC1.out.mono ?_
 rintro e w4 ⟨rfl, hp4, bel4⟩
 obtain ⟨l2, hl2⟩ : ∃ l, l = l1 ++ (be 1 1 ++ [115]) := ⟨_, rfl⟩
 rw [<- hl2] at hp4
 have HN2 := Lh (show l2.length = 3 by rw [hl2]; rw [List.length_append, HN1.out]; simp [length_be])
 have HE2 := Lh hl2
 have HP4 := Lh hp4
 have HL4 := Lh (HL3.out.trans bel4)
 have hbase4 : nb <= w4.heap.size := Nat.le_trans hbase3 bel4.size
 clear hp4 bel4 HC1 c1 hl2
 have HC2 := Lh (u64_any nb nb l2 ep w4 HP4.out (by omega) (by rw [HN2.out]; omega))
 have c2 : w4.cell? ⟨w.heap.size, 2, none⟩ = some (.int .i64 ep) := (HBx.out _ HL4.out).cell 2
 go_wp2_with fail
 refine HC2.out.mono ?_
 rintro e w5 ⟨rfl, hp5, bel5⟩
 obtain ⟨l3, hl3⟩ : ∃ l, l = l2 ++ be ep 8 := ⟨_, rfl⟩
 rw [<- hl3] at hp5
 have HN3 := Lh (show l3.length = 11 by rw [hl3]; rw [List.length_append, HN2.out]; simp [length_be])
 have HE3 := Lh hl3
 have HP5 := Lh hp5
 have HL5 := Lh (HL4.out.trans bel5)
 have hbase5 : nb <= w5.heap.size := Nat.le_trans hbase4 bel5.size
 clear hp5 bel5 HC2 c2 hl3
 have HC3 := Lh (u64_any nb nb l3 0 w5 HP5.out (by omega) (by rw [HN3.out]; omega))
 have c3 : w5.cell? ⟨w.heap.size, 3, none⟩ = some (.int .i64 0) := (HBx.out _ HL5.out).cell 3
 go_wp2_with fail
 refine HC3.out.mono ?_
 rintro e w6 ⟨rfl, hp6, bel6⟩
 obtain ⟨l4, hl4⟩ : ∃ l, l = l3 ++ be 0 8 := ⟨_, rfl⟩
 rw [<- hl4] at hp6
 have HN4 := Lh (show l4.length = 19 by rw [hl4]; rw [List.length_append, HN3.out]; simp [length_be])
 have HE4 := Lh hl4
 have HP6 := Lh hp6
 have HL6 := Lh (HL5.out.trans bel6)
 have hbase6 : nb <= w6.heap.size := Nat.le_trans hbase5 bel6.size
 clear hp6 bel6 HC3 c3 hl4
 have HC4 := Lh (u64_any nb nb l4 bk w6 HP6.out (by omega) (by rw [HN4.out]; omega))
 have c4 : w6.cell? ⟨w.heap.size, 4, none⟩ = some (.int .i64 bk) := (HBx.out _ HL6.out).cell 4
 go_wp2_with fail
 refine HC4.out.mono ?_
 rintro e w7 ⟨rfl, hp7, bel7⟩
 obtain ⟨l5, hl5⟩ : ∃ l, l = l4 ++ be bk 8 := ⟨_, rfl⟩
 rw [<- hl5] at hp7
 have HN5 := Lh (show l5.length = 27 by rw [hl5]; rw [List.length_append, HN4.out]; simp [length_be])
 have HE5 := Lh hl5
 have HP7 := Lh hp7
 have HL7 := Lh (HL6.out.trans bel7)
 have hbase7 : nb <= w7.heap.size := Nat.le_trans hbase6 bel7.size
 clear hp7 bel7 HC4 c4 hl5
 have HC5 := Lh (long_nil nb nb l5 w7 HP7.out (by rw [HN5.out]; omega) hbase7)
 have c5 : w7.cell? ⟨w.heap.size, 5, none⟩ = some (.slice none 0 0) := (HBx.out _ HL7.out).cell 5
 go_wp2_with fail
 refine HC5.out.mono ?_
 rintro e w8 ⟨rfl, hp8, bel8⟩
 obtain ⟨l6, hl6⟩ : ∃ l, l = l5 ++ be 0 2 := ⟨_, rfl⟩
 rw [<- hl6] at hp8
 have HN6 := Lh (show l6.length = 29 by rw [hl6]; rw [List.length_append, HN5.out]; simp [length_be])
 have HE6 := Lh hl6
 have HP8 := Lh hp8
 have HL8 := Lh (HL7.out.trans bel8)
 have hbase8 : nb <= w8.heap.size := Nat.le_trans hbase7 bel8.size
 clear hp8 bel8 HC5 c5 hl6
 have HC6 := Lh (short_any nb nb l6 (List.replicate 32 0) Z 32 cz w8 HP8.out (HX.out _ _ _ _ HL8.out HI.out.2.2.2.2.2.1 HI.out.2.1) (by simp) (by omega) (by rw [HN6.out]; omega) (fun a e => HLO.out _ (HI.out.2.2.2.2.2.1 a e)) hbase8)
 have c6 : w8.cell? ⟨w.heap.size, 6, none⟩ = some (.slice Z 32 cz) := (HBx.out _ HL8.out).cell 6
 go_wp2_with fail
 refine HC6.out.mono ?_
 rintro e w9 ⟨rfl, hp9, bel9⟩
 obtain ⟨l7, hl7⟩ : ∃ l, l = l6 ++ (be 32 1 ++ List.replicate 32 0) := ⟨_, rfl⟩
 rw [<- hl7] at hp9
 have HN7 := Lh (show l7.length = 62 by rw [hl7]; rw [List.length_append, HN6.out]; simp [length_be])
 have HE7 := Lh hl7
 have HP9 := Lh hp9
 have HL9 := Lh (HL8.out.trans bel9)
 have hbase9 : nb <= w9.heap.size := Nat.le_trans hbase8 bel9.size
 clear hp9 bel9 HC6 c6 hl7
 have HC7 := Lh (short_any nb nb l7 (List.replicate 32 0) Z 32 cz w9 HP9.out (HX.out _ _ _ _ HL9.out HI.out.2.2.2.2.2.1 HI.out.2.1) (by simp) (by omega) (by rw [HN7.out]; omega) (fun a e => HLO.out _ (HI.out.2.2.2.2.2.1 a e)) hbase9)
 have c7 : w9.cell? ⟨w.heap.size, 7, none⟩ = some (.slice Z 32 cz) := (HBx.out _ HL9.out).cell 7
 go_wp2_with fail
 refine HC7.out.mono ?_
 rintro e w10 ⟨rfl, hp10, bel10⟩
 obtain ⟨l8, hl8⟩ : ∃ l, l = l7 ++ (be 32 1 ++ List.replicate 32 0) := ⟨_, rfl⟩
 rw [<- hl8] at hp10
 have HN8 := Lh (show l8.length = 95 by rw [hl8]; rw [List.length_append, HN7.out]; simp [length_be])
 have HE8 := Lh hl8
 have HP10 := Lh hp10
 have HL10 := Lh (HL9.out.trans bel10)
 have hbase10 : nb <= w10.heap.size := Nat.le_trans hbase9 bel10.size
 clear hp10 bel10 HC7 c7 hl8
 have HC8 := Lh (short_any nb nb l8 wr X 48 cx w10 HP10.out (HX.out _ _ _ _ HL10.out HI.out.2.2.2.2.2.2 HI.out.2.2.1) HI.out.2.2.2.1 (by omega) (by rw [HN8.out]; omega) (fun a e => HLO.out _ (HI.out.2.2.2.2.2.2 a e)) hbase10)
 have c8 : w10.cell? ⟨w.heap.size, 8, none⟩ = some (.slice X 48 cx) := (HBx.out _ HL10.out).cell 8
 go_wp2_with fail
 refine HC8.out.mono ?_
 rintro e w11 ⟨rfl, hp11, bel11⟩
 obtain ⟨l9, hl9⟩ : ∃ l, l = l8 ++ (be 48 1 ++ wr) := ⟨_, rfl⟩
 rw [<- hl9] at hp11
 have HE9 := Lh hl9
 have HP11 := Lh hp11
 have HL11 := Lh (HL10.out.trans bel11)
 have hbase11 : nb <= w11.heap.size := Nat.le_trans hbase10 bel11.size
 clear hp11 bel11 HC8 c8 hl9
 have hfin : l9 = recb ep bk wr := by
  rw [HE9.out, HE8.out, HE7.out, HE6.out, HE5.out, HE4.out, HE3.out, HE2.out, HE1.out]
  unfold recb
  simp only [List.append_assoc]
 have hl9 := recb_length ep bk wr HI.out.2.2.2.1
 rw [<- hfin] at hl9
 have hBY := bytes_any nb nb l9 w11 HP11.out (by omega) (by omega)
 rw [hl9] at hBY
 have HBY := Lh hBY
 have HF := Lh hfin
 have hbel11 := HL11.out
 clear hfin hl9 hBY
 go_wp2_with fail
 refine HBY.out.mono ?_
 rintro e w12 ⟨v, rfl, own, bel12⟩
 have HO := Lh (Ai own (H1.out.2.trans ((HL11.out.mono hb1z).trans (bel12.mono (Nat.le_trans hb1z hbase11)))))
 clear own bel12 HBY hbel11
 go_wp2_with fail
 go_ret2
 refine ⟨v, rfl, ?_, HO.out.2⟩
 rw [<- HF.out]
 exact own_base HO.out.1 (Nat.le_trans hb1z hbase11)
end
section
set_option maxRecDepth 4000
open Go.RowKit
section
variable {P : Program} {w : World}
theorem zero_list (m : Nat) : (Builtin.zeroCells #[Value.int .u8 0] m).toList = List.replicate m (.int .u8 0) := by
 apply List.ext_getElem?
 intro j
 simp only [Builtin.zeroCells, Array.toList_map, List.getElem?_map, Array.toList_range, List.getElem?_replicate]
 by_cases h : j < m
 ·rw [List.getElem?_range (by simpa using h), if_pos h]
  simp [Nat.mod_one]
 ·rw [List.getElem?_eq_none (by simp; omega), if_neg h]
  rfl
theorem run_app_zeros (base : Nat) (t tn ty e : TypeId) (ht : P.underlying t = some (.slice e)) (htn : P.underlying tn = some (.int .i64))
  (hi : (P.info? e).map (fun i => (i.zero, i.size, i.bytes)) = some (some (.int .u8 0), 1, 1))
  (v : Value) (n : Nat) (xs : List Value) (hown : w.ownsRow base e 1 v n xs) (h0 : 0 < n) (m : Nat) (h63 : n + m <= 1000000) (hbase : base <= w.heap.size) :
  ∃ v' w', (Builtin.append_ #[t, tn] ty #[v, .int .i64 m]).run P w = .ok v' w' /\ w'.ownsRow base e 1 v' (n + m) (xs ++ List.replicate m (.int .u8 0)) /\ w.grownBy w' v.ownBlock /\
   (v'.ownBlock = v.ownBlock \/ v'.ownBlock = some w.heap.size) := by
 obtain ⟨i, hi, hz, hs, hb⟩ := info_parts hi
 have hlen : (xs ++ List.replicate m (Value.int .u8 0)).length = (n + m) * 1 := by rw [List.length_append, hown.1, List.length_replicate]; omega
 obtain ⟨g, cap, cur, rfl, hbg, hg, hnc, hcm, hcs, htake⟩ := own_open hown h0
 have hw : IntKind.i64.wrap (m : Int) = m := by rw [IntKind.wrap_i64]; omega
 have hneg : ¬ ((m : Int) < 0) := by omega
 have h48i : ¬ (281474976710656 < (m : Int) * (i.bytes : Int)) := by rw [hb]; omega
 have hzc : (Builtin.zeroCells (Value.int .u8 0).cells m).toList = List.replicate m (.int .u8 0) := zero_list m
 by_cases hroom : n + m <= cap
 ·have hfit : n * 1 + (List.replicate m (Value.int .u8 0)).length <= cur.size := by rw [List.length_replicate, hcs]; omega
  have hst := run_storeCells_at P g (n * 1) e (List.replicate m (Value.int .u8 0)) 0 cur w hg (by simpa using hfit) (by intro u hu; rw [List.eq_of_mem_replicate hu]; rfl)
  simp only [Nat.add_zero, Nat.mul_one] at hst
  refine ⟨.slice (some ⟨g, 0, none⟩) (n + m) cap, w.setRow g (cur.toList.take n ++ List.replicate m (Value.int .u8 0) ++ cur.toList.drop (n + (List.replicate m (Value.int .u8 0)).length)).toArray, ?_, ⟨hlen, .inr ⟨g, cap, _, rfl, hbg, setRow_heap w g cur _ e _ hg, hroom, hcm, ?_, ?_⟩⟩, ⟨rfl, rfl, rfl, by simp, fun k _ hk => setRow_other w g k _ (fun e => hk (by simp [Value.ownBlock, e]))⟩, .inl rfl⟩
  ·rcases Nat.eq_zero_or_pos m with rfl | hm
   ·simp only [List.replicate_zero] at hst
    have hw0 : IntKind.i64.wrap 0 = 0 := by decide +kernel
    have hnc0 : n <= cap := hroom
    simp [Builtin.append_, run_underlying ht, run_underlying htn, sizeOf, typeInfo, hi, asInt, asIntOf, hw0, hnc0, hs]
    simp [Addr.add_lit, hst]
   ·have hm0 : m ≠ 0 := by omega
    rw [<- hzc] at hst
    simp [Builtin.append_, run_underlying ht, run_underlying htn, sizeOf, typeInfo, hi, hz, zeroValue, asInt, asIntOf, hw, hneg, h48i, hroom, hs, hm0]
    simp [Addr.add_lit, hst]
    have hzn : (Builtin.zeroCells (Value.int .u8 0).cells m).size = m := by rw [<- Array.length_toList, hzc, List.length_replicate]
    simp [hzc, hzn]
  ·simp only [List.size_toArray, List.length_append, List.length_take, List.length_drop, Array.length_toList, List.length_replicate]
   omega
  ·rw [Nat.mul_one] at htake
   rw [htake, List.toList_toArray, <- hlen]
   exact List.take_left
 ·have holds : ∀ j u, xs[j]? = some u -> w.cell? ((⟨g, 0, none⟩ : Addr).add j) = some u := hown.cells (g := g) rfl
  have hfo := run_firstCells_some (P := P) w.drew 1 n ⟨g, 0, none⟩ n cap xs hown.1 (by simpa using holds)
  have hge := grownCap_ge w (n + m) cap e
  have hcm2 : grownCap w (n + m) cap e <= maxLen := grownCap_le_maxLen w (n + m) cap e (by unfold maxLen; omega)
  have h63' : ¬ (9223372036854775807 < ((n : Int) + (m : Int))) := by omega
  have h48' : ¬ (281474976710656 < Builtin.nextslicecap (n + m) cap * i.bytes) := by have := growslice_fits (bytes := i.bytes) (show cap < n + m by omega) (by rw [hb]; omega); omega
  refine ⟨.slice (some ⟨w.heap.size, 0, none⟩) (n + m) (grownCap w (n + m) cap e), w.drew.alloc (.cells (xs.toArray ++ (List.replicate m (Value.int .u8 0)).toArray ++ Builtin.zeroCells (Value.int .u8 0).cells (grownCap w (n + m) cap e - (n + m))) e), ?_, ⟨hlen, .inr ⟨w.heap.size, _, _, rfl, hbase, heap_alloc_new w.drew _, hge, hcm2, ?_, ?_⟩⟩, ⟨rfl, rfl, rfl, by simp, fun k hk _ => Below.heap_alloc w.drew _ k hk⟩, .inr rfl⟩
  ·rcases Nat.eq_zero_or_pos m with rfl | hm
   ·omega
   ·have hm0 : m ≠ 0 := by omega
    have hza : Builtin.zeroCells (Value.int .u8 0).cells m = (List.replicate m (Value.int .u8 0)).toArray := by rw [<- hzc]
    simp [Builtin.append_, run_underlying ht, run_underlying htn, sizeOf, typeInfo, hi, hz, zeroValue, asInt, asIntOf, hw, hneg, h48i, hroom, hs, h63', h48', hm0, Question.forced, hfo, newRow, grownCap, hza]
  ·simp only [Array.size_append, List.size_toArray, size_zeroCells, hown.1, List.length_replicate, Value.cells, List.size_toArray, List.length_cons, List.length_nil]
   omega
  ·rw [Array.toList_append, Array.toList_append, List.append_assoc]
   simp only [List.toList_toArray]
   rw [<- List.append_assoc, <- hlen]
   exact List.take_left
end
end
section
set_option maxRecDepth 4000
open Go.RowKit
theorem cv_mark_at (W : World) (g : Nat) (C : Array Value) (n c : Nat) (h : Blk W g 5 C) : ∃ W', (convert 22 22 (.slice (some ⟨g, 0, none⟩) n c)).run Tryz.prog W = .ok (.slice (some ⟨g, 0, none⟩) n c) W' /\ W'.heap[g]? = some (.cells C 5 (C.size, C.size + 1)) /\ Fr (· = g) W W' := by
 have hsh : W.shape? g = some (5, C.size) := by
  unfold World.shape?
  have : W.heap[g]? = some (.cells C 5 (0, 0)) := h
  rw [this]
 refine ⟨W.freeze ⟨g, C.size, none⟩ 1, ?_, ?_, ?_⟩
 ·simp [convert, run_underlying Tryz.underlying22, run_underlying Tryz.underlying5, markStringish, hsh]
 ·unfold World.freeze
  rw [if_neg (by decide)]
  have : W.heap[g]? = some (.cells C 5 (0, 0)) := h
  simp [Array.getElem?_modify, this]
 ·unfold World.freeze
  rw [if_neg (by decide)]
  refine ⟨rfl, rfl, rfl, by simp, fun k hk hn => ?_⟩
  have : ¬ g = k := fun e => hn e.symm
  simp [Array.getElem?_modify, this]
theorem sees_marked {W : World} {g : Nat} {cs : List Value} {n : Nat} {t : TypeId} {fz : Nat × Nat} (h : W.heap[g]? = some (.cells cs.toArray t fz)) (hn : cs.length = n * 1) : Sees W 1 (some ⟨g, 0, none⟩) n cs :=
 ⟨hn, fun _ => ⟨_, 0, rfl, fun j u hu => by rw [Nat.zero_add, cell_of_row _ _ _ _ _ _ h, List.getElem?_toArray]; exact hu⟩⟩
theorem wp_appz {P : Program} {o : Oper} {a : Act} {w : World} {K : Act -> World -> Prop} {Q : Exit -> Act -> World -> Prop} (s : Operand) (t tn e : TypeId) (m : Nat)
  (ho : o.op = .call { callee := .builtin .append, args := #[s, .const (.int .i64 m)], argTypes := #[t, tn] }) (base : Nat) (ht : P.underlying t = some (.slice e)) (htn : P.underlying tn = some (.int .i64))
  (hi : (P.info? e).map (fun i => (i.zero, i.size, i.bytes)) = some (some (.int .u8 0), 1, 1)) (v : Value) (n : Nat) (xs : List Value) (hs : a.eval s = v) (hown : w.ownsRow base e 1 v n xs) (h0 : 0 < n) (h63 : n + m <= 1000000) (hbase : base <= w.heap.size)
  (h : ∀ v' w', w'.ownsRow base e 1 v' (n + m) (xs ++ List.replicate m (.int .u8 0)) -> w.grownBy w' v.ownBlock -> (v'.ownBlock = v.ownBlock \/ v'.ownBlock = some w.heap.size) -> K (a.put o.dst v') w') : o.wp P a w K Q := by
 obtain ⟨v', w', hrun, h2, h3, h4⟩ := run_app_zeros (P := P) (w := w) base t tn o.type e ht htn hi v n xs hown h0 m h63 hbase
 unfold Oper.wp execOp
 have he : a.eval (.const (.int .i64 m)) = .int .i64 m := rfl
 simp only [ho, resolve, invoke, builtin, Sem.run_bind, Sem.run_pure, Result.andThen_ok, List.map_toArray, List.map_cons, List.map_nil, hs, he, hrun]
 exact h v' w' h2 h3 h4
end
end Go.Proofs.YtkgaeoeibjoljaaGreatDoor
