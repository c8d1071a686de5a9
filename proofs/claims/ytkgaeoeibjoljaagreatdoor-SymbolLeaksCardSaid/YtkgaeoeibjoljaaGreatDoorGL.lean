/-
  The log in memory: octets, end, fail; segment.Fits.
  The log in memory, whole; put, begin.
  What is told is laid. No program in sight.
-/
import Derived.Test.YtkgaeoeibjoljaaGreatDoorGK
import Derived.Test.YtkgaeoeibjoljaaGreatDoorGD
import Derived.Test.YtkgaeoeibjoljaaGreatDoorGA
import Derived.Test.YtkgaeoeibjoljaaGreatDoorGJ
namespace Go.Proofs.YtkgaeoeibjoljaaGreatDoor
section
set_option maxRecDepth 4000
open Go.RowKit
theorem fits_any (a u t : Nat) (ha : a <= 100000) (hu : u <= 100000) (ht : t <= maxLen) (w : World) :
  Calls Tryz.prog 87 #[.int .i64 a, .int .i64 u, .int .i64 t] w fun e w' => e = .returned (.bool (fitsF a u t)) /\ w = w' := by
 unfold fitsF
 unfold maxLen at ht
 by_cases h1 : 1 <= t
 ·have h1i : (1 : Int) <= (t : Int) := by omega
  by_cases h2 : t <= 65535
  ·have h2i : (t : Int) <= 65535 := by omega
   by_cases h3 : u <= a
   ·have h3i : (u : Int) <= (a : Int) := by omega
    go_enter Tryz.func87, Tryz.ntmps87
    go_wp2_with fail
    go_ret
    refine ⟨ret_bool ?_, rfl⟩
    rw [Bool.eq_iff_iff, decide_eq_true_iff, decide_eq_true_iff]
    omega
   ·have h3i : ¬ ((u : Int) <= (a : Int)) := by omega
    go_enter Tryz.func87, Tryz.ntmps87
    go_wp2_with fail
    go_ret
    refine ⟨ret_bool ?_, rfl⟩
    first | rfl | (rw [eq_comm, decide_eq_false_iff_not]; omega)
  ·have h2i : ¬ ((t : Int) <= 65535) := by omega
   go_enter Tryz.func87, Tryz.ntmps87
   go_wp2_with fail
   go_ret
   refine ⟨ret_bool ?_, rfl⟩
   first | rfl | (rw [eq_comm, decide_eq_false_iff_not]; omega)
 ·have h1i : ¬ ((1 : Int) <= (t : Int)) := by omega
  go_enter Tryz.func87, Tryz.ntmps87
  go_wp2_with fail
  go_ret
  refine ⟨ret_bool ?_, rfl⟩
  first | rfl | (rw [eq_comm, decide_eq_false_iff_not]; omega)
theorem octets_any (v0 : Value) (f sg sz : Nat) (w : World) (hz : sz <= 1000) :
  Calls Tryz.prog 88 #[.agg #[v0, .int .i64 f, .int .i64 sg, .int .i64 sz]] w fun e w' => e = .returned (.int .i64 ((sz * 128 : Nat) : Int)) /\ Below w.heap.size w w' := by
 go_enter Tryz.func88, Tryz.ntmps88
 go_wp2_with fail
 go_ret
 exact ⟨ret_int (by omega), (Below.refl _ _).alloc (Nat.le_refl _) _⟩
def lgc (b f sg sz : Nat) (vB : Value) (la us cl : Nat) (vT vC : Value) (su : Nat) (se de : Bool) : Array Value :=
 #[.pointer (some ⟨b, 0, none⟩), .int .i64 f, .int .i64 sg, .int .i64 sz, vB, .int .i64 la, .int .i64 us, .int .i64 cl, vT, vC, .int .i64 su, .bool se, .bool de]
theorem end_any (lb b f sg sz : Nat) (vB : Value) (la us cl : Nat) (vT vC : Value) (su : Nat) (se de : Bool) (w : World) (h : Blk w lb 150 (lgc b f sg sz vB la us cl vT vC su se de)) (hz : sz <= 1000) (hla : la <= 1000) (hus : us <= 1000000) :
  Calls Tryz.prog 94 #[.pointer (some ⟨lb, 0, none⟩)] w fun e w' => e = .returned (.int .i64 ((la * (sz * 128) + us : Nat) : Int)) /\ Below w.heap.size w w' := by
 have HO := Lh (fun w => octets_any (.pointer (some ⟨b, 0, none⟩)) f sg sz w hz)
 have hm : la * (sz * 128) <= 1000 * 128000 := Nat.mul_le_mul hla (by omega)
 obtain ⟨N, hN⟩ : ∃ N, N = sz * 128 := ⟨_, rfl⟩
 obtain ⟨M, hM⟩ : ∃ M, M = la * N := ⟨_, rfl⟩
 rw [<- hN, <- hM] at hm ⊢
 rw [<- hN] at HO
 have hmi : (la : Int) * (N : Int) = (M : Int) := by rw [hM]; simp
 replace hN := Lh hN
 replace hM := Lh hM
 have H := Lh h
 clear h
 go_enter Tryz.func94, Tryz.ntmps94
 go_wp2_with fail
 refine region_fast [(0, true), (1, true), (2, true), (3, true), (4, true), (5, true), (6, true), (7, true), (10, true), (11, true), (12, true), (13, true), (8, false), (9, true), (14, true), (15, true)] [4, 5, 6, 7, 8, 9, 10, 11, 12, 13] 16368 [(8, 1, 0, 0), (16, 8, 1, 1), (32, 16, 2, 3), (64, 32, 4, 7), (128, 1, 0, 0), (256, 128, 16, 16), (512, 256, 32, 48), (1024, 512, 64, 112), (2048, 1024, 128, 240), (4096, 2112, 264, 511), (8192, 1, 0, 0), (16384, 8192, 1024, 1024), (32768, 16384, 2048, 3072), (65536, 32768, 4096, 7168), (131072, 69632, 8704, 16383), (4, 131072, 32767, 32767)] (fun W => Blk W lb 150 (lgc b f sg sz vB la us cl vT vC su se de) /\ Below w.heap.size w W) (by kernel_rfl) (by kernel_rfl) (by kernel_rfl) rfl (by kernel_rfl) (by kernel_rfl) ⟨H.out.drew, (Below.refl _ _).drew⟩ (fun hS => ?_)
 repeat (first
  | (refine plan_read (v := ?_) rfl (fun _ _ _ h => h) rfl hS ?_ ?_; rotate_left 1; (focus (intro w' hS'; have e0 : w'.cell? ⟨lb, 0, none⟩ = some (.pointer (some ⟨b, 0, none⟩)) := hS'.1.cell 0; have e1 : w'.cell? ⟨lb, 1, none⟩ = some (.int .i64 f) := hS'.1.cell 1; have e2 : w'.cell? ⟨lb, 2, none⟩ = some (.int .i64 sg) := hS'.1.cell 2; have e3 : w'.cell? ⟨lb, 3, none⟩ = some (.int .i64 sz) := hS'.1.cell 3; have e5 : w'.cell? ⟨lb, 5, none⟩ = some (.int .i64 la) := hS'.1.cell 5; have e6 : w'.cell? ⟨lb, 6, none⟩ = some (.int .i64 us) := hS'.1.cell 6; go_simp; try rfl)); (simp only [Act.put, pu1]; dsimp only [pu2, pu3]))
  | (refine plan_skip rfl (fun _ _ _ h => h) rfl hS ?_; (simp only [Act.put, pu1]; dsimp only [pu2, pu3])))
 refine plan_do (by rfl) (by rfl) (fun K hK => ?_)
 go_simp
 refine (HO.out _).mono ?_
 rintro e w1 ⟨rfl, bel⟩
 refine hK.out _ _ (fun _ => ⟨hS.1.below bel hS.1.lt, hS.2.trans (bel.mono hS.2.size)⟩) (fun hS => ?_); clear hK K; replace hS := hS rfl; try (simp only [Act.put, pu1]; dsimp only [pu2, pu3])
 repeat (first
  | (refine plan_read (v := ?_) rfl (fun _ _ _ h => h) rfl hS ?_ ?_; rotate_left 1; (focus (intro w' hS'; have e6 : w'.cell? ⟨lb, 6, none⟩ = some (.int .i64 us) := hS'.1.cell 6; go_simp; try rfl)); (simp only [Act.put, pu1]; dsimp only [pu2, pu3]))
  | (refine plan_skip rfl (fun _ _ _ h => h) rfl hS ?_; (simp only [Act.put, pu1]; dsimp only [pu2, pu3])))
 refine plan_nil ?_
 go_wp2_with fail
 go_ret
 refine ⟨ret_int ?_, hS.2⟩
 rw [IntWalk.i64_in (M : Int) (by omega), IntWalk.i64_in _ (by omega)]
 omega
theorem fail_any (lb b f sg sz : Nat) (vB : Value) (la us cl : Nat) (A : Option Addr) (k cT : Nat) (vC : Value) (su : Nat) (se de : Bool) (n : Nat) (w : World) (h : Blk w lb 150 (lgc b f sg sz vB la us cl (.slice A k cT) vC su se de)) (hk : k <= 1000000000) (hn : n ≠ 0) (hn2 : n <= 1000) :
  Calls Tryz.prog 89 #[.pointer (some ⟨lb, 0, none⟩), .int .i64 n] w fun e w' => (∃ g, e = .returned (.iface 110 (.pointer (some ⟨g, 0, none⟩)))) /\ Below w.heap.size w w' := by
 have c8 : w.cell? ⟨lb, 8, none⟩ = some (.slice A k cT) := h.cell 8
 have HW := Lh (wrap_no (str [108, 111, 103]) k n (by omega) w)
 clear h
 go_enter Tryz.func89, Tryz.ntmps89
 go_wp2_with fail
 refine HW.out.mono ?_
 rintro e w1 ⟨rfl, -, bel⟩
 go_wp2_with fail
 go_ret
 exact ⟨⟨_, rfl⟩, bel⟩
end
section
set_option maxRecDepth 4000
open Go.RowKit
structure Lg.Ok (s : Lg) : Prop where
 segs : 1 <= s.segs /\ s.segs <= 256
 size : 2 <= s.size /\ s.size <= 512
 last : s.last < s.segs
 used : s.used <= s.n
 clean : s.clean <= s.all
 oct : s.B.length = s.all
 many : s.texts.length <= 100000000
 chain : s.chain.length = 32
 sure : s.sure <= 100000000
theorem Lg.Ok.n_le {s : Lg} (h : s.Ok) : 256 <= s.n /\ s.n <= 65536 := by have := h.size; unfold Lg.n; omega
theorem Lg.Ok.all_le {s : Lg} (h : s.Ok) : s.n <= s.all /\ s.all <= 16777216 := by
 have h1 := h.segs
 have h2 := h.n_le
 unfold Lg.all
 exact ⟨by have := Nat.mul_le_mul_right s.n h1.1; omega, Nat.le_trans (Nat.mul_le_mul h1.2 h2.2) (by decide)⟩
theorem Lg.Ok.end_le {s : Lg} (h : s.Ok) : s.end_ <= s.all := by
 have h1 := h.last
 have h2 := h.used
 have h3 : (s.last + 1) * s.n <= s.segs * s.n := Nat.mul_le_mul_right _ h1
 rw [Nat.add_mul] at h3
 unfold Lg.end_ Lg.all
 omega
structure LgP (w : World) (lb b f : Nat) (s : Lg) (bg cB : Nat) (A : Option Addr) (cT : Nat) (C : Option Addr) (cC : Nat) (vs : List Pt) (K : Nat -> Prop) : Prop where
 top : Blk w lb 150 (lgc b f s.segs s.size (.slice (some ⟨bg, 0, none⟩) s.B.length cB) s.last s.used s.clean (.slice A s.texts.length cT) (.slice C 32 cC) s.sure s.sealed_ s.dead)
 oct : w.ownsRow 0 5 1 (.slice (some ⟨bg, 0, none⟩) s.B.length cB) s.B.length (u8s s.B)
 rows : w.ownsRow 0 22 1 (.slice A s.texts.length cT) s.texts.length (vs.map Pt.val)
 vals : vs.map (·.l) = s.texts
 each : ∀ p ∈ vs, p.l.length = p.n /\ w.ownsRow 0 5 1 p.val p.n (u8s p.l)
 chain : w.ownsRow 0 5 1 (.slice C 32 cC) 32 (u8s s.chain)
 nc : (Value.slice C 32 cC).ownBlock ≠ some bg
 nt : ∀ p ∈ vs, p.val.ownBlock ≠ some bg
 kl : K lb
 kb : K bg
 ka : ∀ g, (Value.slice A s.texts.length cT).ownBlock = some g -> K g
 kc : ∀ g, (Value.slice C 32 cC).ownBlock = some g -> K g
 kt : ∀ p ∈ vs, ∀ g, p.val.ownBlock = some g -> K g
section
variable {w w' : World} {lb b f : Nat} {s : Lg} {bg cB : Nat} {A : Option Addr} {cT : Nat} {C : Option Addr} {cC : Nat} {vs : List Pt} {K G : Nat -> Prop}
theorem LgP.keep (h : LgP w lb b f s bg cB A cT C cC vs K) (hk : ∀ k, K k -> k < w.heap.size -> w'.heap[k]? = w.heap[k]?) : LgP w' lb b f s bg cB A cT C cC vs K :=
 ⟨h.top.keep (hk lb h.kl h.top.lt), own_keep h.oct (fun g hg => (Option.some.inj hg : bg = g) ▸ hk bg h.kb (h.oct.lt bg rfl).2),
  own_keep h.rows (fun g hg => hk g (h.ka g hg) (h.rows.lt g hg).2), h.vals, fun p hp => ⟨(h.each p hp).1, own_keep (h.each p hp).2 (fun g hg => hk g (h.kt p hp g hg) ((h.each p hp).2.lt g hg).2)⟩,
  own_keep h.chain (fun g hg => hk g (h.kc g hg) (h.chain.lt g hg).2), h.nc, h.nt, h.kl, h.kb, h.ka, h.kc, h.kt⟩
theorem LgP.fr (h : LgP w lb b f s bg cB A cT C cC vs K) (hf : Fr G w w') (hn : ∀ k, K k -> ¬ G k) : LgP w' lb b f s bg cB A cT C cC vs K :=
 h.keep fun k hk hl => hf.block k hl (hn k hk)
theorem LgP.below (h : LgP w lb b f s bg cB A cT C cC vs K) (hb : Below w.heap.size w w') : LgP w' lb b f s bg cB A cT C cC vs K :=
 h.keep fun k _ hl => hb.block k hl
theorem LgP.mono (h : LgP w lb b f s bg cB A cT C cC vs K) (hs : ∀ k, K k -> G k) : LgP w lb b f s bg cB A cT C cC vs G :=
 ⟨h.top, h.oct, h.rows, h.vals, h.each, h.chain, h.nc, h.nt, hs _ h.kl, hs _ h.kb, fun g hg => hs _ (h.ka g hg), fun g hg => hs _ (h.kc g hg), fun p hp g hg => hs _ (h.kt p hp g hg)⟩
theorem LgP.restrict (h : LgP w lb b f s bg cB A cT C cC vs K) : LgP w lb b f s bg cB A cT C cC vs (fun k => K k /\ k < w.heap.size) :=
 ⟨h.top, h.oct, h.rows, h.vals, h.each, h.chain, h.nc, h.nt, ⟨h.kl, h.top.lt⟩, ⟨h.kb, (h.oct.lt bg rfl).2⟩, fun g hg => ⟨h.ka g hg, (h.rows.lt g hg).2⟩, fun g hg => ⟨h.kc g hg, (h.chain.lt g hg).2⟩, fun p hp g hg => ⟨h.kt p hp g hg, ((h.each p hp).2.lt g hg).2⟩⟩
theorem LgP.own (h : LgP w lb b f s bg cB A cT C cC vs K) {s' : Lg} (hB : s'.B = s.B) (hT : s'.texts = s.texts) (hC : s'.chain = s.chain)
  (ht : Blk w' lb 150 (lgc b f s'.segs s'.size (.slice (some ⟨bg, 0, none⟩) s.B.length cB) s'.last s'.used s'.clean (.slice A s.texts.length cT) (.slice C 32 cC) s'.sure s'.sealed_ s'.dead)) (hf : Fr (· = lb) w w') : LgP w' lb b f s' bg cB A cT C cC vs K := by
 refine ⟨by rw [hB, hT]; exact ht, by rw [hB]; exact own_fr h.oct hf (own_ne h.oct h.top (by decide)), by rw [hT]; exact own_fr h.rows hf (own_ne h.rows h.top (by decide)), by rw [hT]; exact h.vals,
  fun p hp => ⟨(h.each p hp).1, own_fr (h.each p hp).2 hf (own_ne (h.each p hp).2 h.top (by decide))⟩, by rw [hC]; exact own_fr h.chain hf (own_ne h.chain h.top (by decide)), h.nc, h.nt, h.kl, h.kb, by rw [hT]; exact h.ka, h.kc, h.kt⟩
theorem LgP.octs (h : LgP w lb b f s bg cB A cT C cC vs K) {B : List UInt8} (hl : B.length = s.B.length)
  (ho : w'.ownsRow 0 5 1 (.slice (some ⟨bg, 0, none⟩) s.B.length cB) s.B.length (u8s B)) (hf : Fr (· = bg) w w') : LgP w' lb b f { s with B := B } bg cB A cT C cC vs K := by
 have hne : lb ≠ bg := fun e => by
  have h1 := own_ne h.oct h.top (by decide) bg rfl
  exact h1 e.symm
 refine ⟨by rw [hl]; exact h.top.fr hf hne, by show w'.ownsRow 0 _ 1 (.slice _ B.length cB) B.length _; rw [hl]; exact ho, own_fr h.rows hf (fun g hg e => own_ne2 h.rows h.oct (by decide) g hg (by rw [e]; rfl)), h.vals,
  fun p hp => ⟨(h.each p hp).1, own_fr (h.each p hp).2 hf (fun g hg e => h.nt p hp (by rw [hg, e]))⟩, own_fr h.chain hf (fun g hg e => h.nc (by rw [hg, e])), h.nc, h.nt, h.kl, h.kb, h.ka, h.kc, h.kt⟩
end
theorem end_log {w : World} {lb b f : Nat} {s : Lg} {bg cB : Nat} {A : Option Addr} {cT : Nat} {C : Option Addr} {cC : Nat} {vs : List Pt} {K : Nat -> Prop} (h : LgP w lb b f s bg cB A cT C cC vs K) (hok : s.Ok) :
  Calls Tryz.prog 94 #[.pointer (some ⟨lb, 0, none⟩)] w fun e w' => e = .returned (.int .i64 (s.end_ : Nat)) /\ Below w.heap.size w w' := by
 have h1 := hok.segs; have h2 := hok.size; have h3 := hok.last; have h4 := hok.used; have h5 := hok.n_le
 exact end_any lb b f s.segs s.size _ s.last s.used s.clean _ _ s.sure s.sealed_ s.dead w h.top (by omega) (by omega) (by omega)
set_option maxHeartbeats 1000000 in
theorem put_any {w : World} {lb b f : Nat} {s : Lg} {bg cB : Nat} {A : Option Addr} {cT : Nat} {C : Option Addr} {cC : Nat} {vs : List Pt} {Kl : Nat -> Prop} (h : LgP w lb b f s bg cB A cT C cC vs Kl) (hok : s.Ok)
  (x : List UInt8) (X : Option Addr) (m c : Nat) (hS : Sees w 1 X m (u8s x)) (hm : x.length = m) (hm1 : 1 <= m) (hfit : s.end_ + m <= s.all) :
  Calls Tryz.prog 91 #[.pointer (some ⟨lb, 0, none⟩), .slice X m c] w fun e w' => e = .returned (.tuple #[]) /\ LgP w' lb b f (s.put x) bg cB A cT C cC vs Kl /\ Fr Kl w w' := by
 have hal := hok.all_le
 have hus := hok.used
 have hnl := hok.n_le
 obtain ⟨E, hE⟩ : ∃ E, E = s.end_ := ⟨_, rfl⟩
 have HE := Lh (fun W (hW : LgP W lb b f s bg cB A cT C cC vs Kl) => hE ▸ end_log hW hok)
 obtain ⟨L, hL⟩ : ∃ L, L = s.B.length := ⟨_, rfl⟩
 have hLa : L = s.all := by rw [hL, hok.oct]
 obtain ⟨g, cap, cur, hv, -, -, hcap1, hcap2, -⟩ := own_open h.oct (by rw [<- hL, hLa]; omega)
 injection hv with hv1 hv2 hv3
 injection hv1 with hv1
 injection hv1 with hv1 _ _
 subst hv1
 subst hv3
 rw [<- hE] at hfit
 have hfl : E + m <= L := by rw [hLa]; exact hfit
 have hLm : L <= 16777216 := by omega
 rw [<- hL] at hcap1
 have hcm := hcap2
 unfold maxLen at hcap2
 have hus' : s.used <= 65536 := by omega
 have hm6 : m <= 16777216 := by omega
 have hEc : ¬ cB = E := by omega
 have hEL : ¬ L < E := by omega
 replace hE := Lh hE
 replace hLa := Lh hLa
 replace hfit := Lh hfit
 have HS := Lh hS
 have HL := Lh hL
 have HM := Lh hm
 have HH := Lh h
 clear hS hm h hL hok hal hus hnl
 go_enter Tryz.func91, Tryz.ntmps91
 go_wp2_with fail
 refine region_fast [(0, true), (1, true), (2, true), (3, true), (4, true), (7, true), (5, false), (6, true), (8, false)] [4, 5, 6, 7] 240 [(16, 1, 0, 0), (32, 16, 1, 1), (64, 32, 2, 3), (128, 64, 4, 7), (256, 1, 0, 0), (512, 256, 16, 16), (1024, 640, 40, 63), (2048, 2, 0, 0), (4096, 3072, 224, 255)] (fun W => LgP W lb b f s bg cB A cT C cC vs Kl /\ Below w.heap.size w W) (by kernel_rfl) (by kernel_rfl) (by kernel_rfl) rfl (by kernel_rfl) (by kernel_rfl) ⟨HH.out.below (Below.refl _ _).drew, (Below.refl _ _).drew⟩ (fun hS => ?_)
 repeat (first
  | (refine plan_read (v := ?_) rfl (fun _ _ _ h => h) rfl hS ?_ ?_; rotate_left 1; (focus (intro w' hS'; have e4 : w'.cell? ⟨lb, 4, none⟩ = some (.slice (some ⟨bg, 0, none⟩) L cB) := (by rw [HL.out]; exact hS'.1.top.cell 4); go_simp; try rfl)); (simp only [Act.put, pu1]; dsimp only [pu2, pu3]))
  | (refine plan_skip rfl (fun _ _ _ h => h) rfl hS ?_; (simp only [Act.put, pu1]; dsimp only [pu2, pu3])))
 refine plan_do (by rfl) (by rfl) (fun K hK => ?_)
 go_simp
 refine (HE.out _ hS.1).mono ?_
 rintro e w1 ⟨rfl, bel⟩
 refine hK.out _ _ (fun _ => ⟨hS.1.below bel, hS.2.trans (bel.mono hS.2.size)⟩) (fun hS => ?_); clear hK K; replace hS := hS rfl; try (simp only [Act.put, pu1]; dsimp only [pu2, pu3])
 refine plan_read (v := Value.slice (some ⟨bg, E, none⟩) (L - E) (cB - E)) rfl (fun _ _ _ h => h) rfl hS ?_ ?_; (focus (intro w' hS'; go_simp; first | done | simp [hEL] | (simp; omega))); (simp only [Act.put, pu1]; dsimp only [pu2, pu3])
 refine plan_do (by rfl) (by rfl) (fun K hK => ?_)
 obtain ⟨g, cap, cur, hv, -, hbl, hcp, -, hcs, htk⟩ := own_open hS.1.oct (by rw [<- HL.out]; omega)
 injection hv with hv1 hv2 hv3
 injection hv1 with hv1
 injection hv1 with hv1 _ _
 subst hv1
 subst hv3
 refine wp_cpy (.tmp 10) (.tmp 11) 22 22 rfl 5 Tryz.underlying22 rfl bg E (L - E) (cB - E) X m c rfl rfl cur 5 hbl (u8s x) (HS.out.below hS.2) (by omega) (u8s_one _) ?_
 intro w2 hb2 hf2
 rw [List.take_of_length_le (by simp; have := HM.out; omega)] at hb2 ⊢
 have hlx : (splice s.B E x).length = s.B.length := length_splice _ _ _ (by rw [HM.out, <- HL.out]; omega)
 have ho2 : w2.ownsRow 0 5 1 (.slice (some ⟨bg, 0, none⟩) s.B.length cB) s.B.length (u8s (splice s.B E x)) := by
  refine own_mk (Nat.zero_le _) hb2 hcp hcm ?_ ?_
  ·simp only [List.size_toArray]
   rw [length_splice _ _ _ (by simp; have := HM.out; omega), Array.length_toList, hcs]
  ·rw [List.toList_toArray, take_splice _ _ _ _ (by simp; rw [HM.out, <- HL.out]; omega), htk, u8s_splice]
 have h2 := hS.1.octs hlx ho2 hf2
 have hK2 : Fr Kl w w2 := (Fr.of_below hS.2 Kl).trans (hf2.mono (fun k _ e => by subst e; exact hS.1.kb)) (fun _ _ h => h)
 have c6 : w2.cell? ⟨lb, 6, none⟩ = some (.int .i64 s.used) := h2.top.cell 6
 have f6 : w2.frozen? ⟨lb, 6, none⟩ = false := h2.top.frozen 6
 have H2 := Lh (Ai h2 hK2)
 clear h2 hK2 ho2 hlx hbl hcp hcs htk hb2 hf2 hS bel
 refine hK.out _ _ (fun h => by cases h) (fun _ => ?_); clear hK K; try (simp only [Act.put, pu1]; dsimp only [pu2, pu3])
 refine plan_nil ?_
 go_wp2_with fail
 refine bodyPost_end (results_none rfl _ _ _) rfl ?_
 refine ⟨rfl, ?_, H2.out.2.trans (Fr.setCell (F := Kl) _ _ _ H2.out.1.kl) (fun _ _ h => h)⟩
 have e1 : s.put x = { ({ s with B := splice s.B E x } : Lg) with used := s.used + m } := by unfold Lg.put; rw [hE.out, HM.out]
 rw [e1]
 refine H2.out.1.own rfl rfl rfl ?_ (Fr.setCell _ _ _ rfl)
 have := H2.out.1.top.set_ 6 (.int .i64 ((s.used : Int) + (m : Int)))
 exact this
theorem Lg.Ok.begun {s : Lg} (h : s.Ok) {k : Nat} (hk : k < s.segs) : ({ s with last := k, used := 0, sealed_ := false } : Lg).Ok :=
 ⟨h.segs, h.size, hk, Nat.zero_le _, h.clean, h.oct, h.many, h.chain, h.sure⟩
set_option maxHeartbeats 1000000 in
theorem begin_any {w : World} {lb b f : Nat} {s : Lg} {bg cB : Nat} {A : Option Addr} {cT : Nat} {C : Option Addr} {cC : Nat} {vs : List Pt} {Kl : Nat -> Prop} (h : LgP w lb b f s bg cB A cT C cC vs Kl) (hok : s.Ok) (k : Nat) (hk : k < s.segs) :
  Calls Tryz.prog 90 #[.pointer (some ⟨lb, 0, none⟩), .int .i64 k] w fun e w' => e = .returned (.tuple #[]) /\ LgP w' lb b f (s.begin_ k) bg cB A cT C cC vs Kl /\ Fr Kl w w' := by
 have c5 : w.cell? ⟨lb, 5, none⟩ = some (.int .i64 s.last) := h.top.cell 5
 have c6 : w.cell? ⟨lb, 6, none⟩ = some (.int .i64 s.used) := h.top.cell 6
 have c11 : w.cell? ⟨lb, 11, none⟩ = some (.bool s.sealed_) := h.top.cell 11
 have f5 : w.frozen? ⟨lb, 5, none⟩ = false := h.top.frozen 5
 have f6 : w.frozen? ⟨lb, 6, none⟩ = false := h.top.frozen 6
 have f11 : w.frozen? ⟨lb, 11, none⟩ = false := h.top.frozen 11
 obtain ⟨s1, hs1⟩ : ∃ s1 : Lg, s1 = { s with last := k, used := 0, sealed_ := false } := ⟨_, rfl⟩
 have hok1 : s1.Ok := hs1 ▸ hok.begun hk
 have hh := hok.chain
 have hmany := hok.many
 have hsegs := hok.segs
 have hx : (hd k s.texts.length s.chain).length = 128 := hd_len' _ _ _ hh
 have hbe : s.begin_ k = s1.put (hd k s.texts.length s.chain) := by rw [hs1]; rfl
 have hfit : s1.end_ + 128 <= s1.all := by
  have h3 : (k + 1) * s.n <= s.segs * s.n := Nat.mul_le_mul_right _ hk
  have h4 := hok.n_le
  rw [Nat.add_mul] at h3
  rw [hs1]
  show k * s.n + 0 + 128 <= s.segs * s.n
  omega
 have HP := Lh (fun W (hW : LgP W lb b f s1 bg cB A cT C cC vs Kl) X c hS => put_any hW hok1 (hd k s.texts.length s.chain) X 128 c hS hx (by omega) hfit)
 have HD := Lh (fun W c hS => head_ok k s.texts.length s.chain C c W hS hh (by omega) (by omega))
 obtain ⟨T, hT⟩ : ∃ T, T = s.texts.length := ⟨_, rfl⟩
 have hTl : T <= 100000000 := by omega
 have HH := Lh h
 rw [<- hT] at HD
 rw [<- hT] at HP hbe
 replace hs1 := Lh hs1
 replace hbe := Lh hbe
 replace hT := Lh hT
 clear h hok hok1 hh hx hfit hmany hsegs
 go_enter Tryz.func90, Tryz.ntmps90
 go_wp2_with fail
 have H1 : LgP (((w.setCell ⟨lb, 5, none⟩ (.int .i64 k)).setCell ⟨lb, 6, none⟩ (.int .i64 0)).setCell ⟨lb, 11, none⟩ (.bool false)) lb b f s1 bg cB A cT C cC vs Kl := by
  have := ((HH.out.top.set_ 5 (.int .i64 k)).set_ 6 (.int .i64 0)).set_ 11 (.bool false)
  refine HH.out.own (by rw [hs1.out]) (by rw [hs1.out]) (by rw [hs1.out]) (by rw [hs1.out]; exact this) ?_
  exact ((Fr.setCell (F := fun k => k = lb) _ _ _ rfl).trans (Fr.setCell (F := fun k => k = lb) _ _ _ rfl) (fun _ _ h => h)).trans (Fr.setCell (F := fun k => k = lb) _ _ _ rfl) (fun _ _ h => h)
 have F1 : Fr Kl w (((w.setCell ⟨lb, 5, none⟩ (.int .i64 k)).setCell ⟨lb, 6, none⟩ (.int .i64 0)).setCell ⟨lb, 11, none⟩ (.bool false)) :=
  ((Fr.setCell _ _ _ HH.out.kl).trans (Fr.setCell (F := Kl) _ _ _ HH.out.kl) (fun _ _ h => h)).trans (Fr.setCell (F := Kl) _ _ _ HH.out.kl) (fun _ _ h => h)
 generalize ((w.setCell ⟨lb, 5, none⟩ (.int .i64 k)).setCell ⟨lb, 6, none⟩ (.int .i64 0)).setCell ⟨lb, 11, none⟩ (.bool false) = W at *
 have hts : s1.texts.length = T := by rw [hs1.out, hT.out]
 replace hts := Lh hts
 replace H1 := Lh H1
 replace F1 := Lh F1
 refine region_fast [(0, true), (1, true), (2, true), (3, true), (4, true), (5, true), (6, true), (7, true), (8, true), (9, true), (10, true), (11, false), (12, false)] [1, 2, 3, 4, 5, 6, 7, 8, 9, 10, 11] 4094 [(16384, 1, 0, 0), (32768, 2, 0, 0), (65536, 1, 0, 0), (131072, 65536, 4, 4), (262144, 131072, 8, 12), (524288, 262144, 16, 28), (1048576, 524288, 32, 60), (2097152, 1, 0, 0), (4194304, 2097152, 128, 128), (8388608, 4194304, 256, 384), (16777216, 8388608, 512, 896), (33554432, 17858560, 1090, 2046), (67108864, 33570816, 2049, 4095)] (fun V => LgP V lb b f s1 bg cB A cT C cC vs Kl /\ Below W.heap.size W V) (by kernel_rfl) (by kernel_rfl) (by kernel_rfl) rfl (by kernel_rfl) (by kernel_rfl) ⟨H1.out.below (Below.refl _ _).drew, (Below.refl _ _).drew⟩ (fun hS => ?_)
 repeat (first
  | (refine plan_read (v := ?_) rfl (fun _ _ _ h => h) rfl hS ?_ ?_; rotate_left 1; (focus (intro w' hS'; have e8 : w'.cell? ⟨lb, 8, none⟩ = some (.slice A T cT) := (by rw [<- hts.out]; exact hS'.1.top.cell 8); have e9 : w'.cell? ⟨lb, 9, none⟩ = some (.slice C 32 cC) := hS'.1.top.cell 9; go_simp; try rfl)); (simp only [Act.put, pu1]; dsimp only [pu2, pu3]))
  | (refine plan_skip rfl (fun _ _ _ h => h) rfl hS ?_; (simp only [Act.put, pu1]; dsimp only [pu2, pu3])))
 refine plan_do (by rfl) (by rfl) (fun K hK => ?_)
 go_simp
 refine (HD.out _ cC (by have := Sees.of_own hS.1.chain; rwa [show s1.chain = s.chain by rw [hs1.out]] at this)).mono ?_
 rintro e w1 ⟨v, rfl, ho, bel⟩
 obtain ⟨X, cX, rfl⟩ := own_shape ho
 have HO := Lh (Ai ho (hS.2.trans (bel.mono hS.2.size)))
 have HL1 := Lh (hS.1.below bel)
 refine hK.out _ _ (fun _ => ⟨hS.1.below bel, hS.2.trans (bel.mono hS.2.size)⟩) (fun hS => ?_); clear hK K; replace hS := hS rfl; try (simp only [Act.put, pu1]; dsimp only [pu2, pu3])
 repeat (first
  | (refine plan_read (v := ?_) rfl (fun _ _ _ h => h) rfl hS ?_ ?_; rotate_left 1; (focus (intro w' hS'; go_simp; try rfl)); (simp only [Act.put, pu1]; dsimp only [pu2, pu3]))
  | (refine plan_skip rfl (fun _ _ _ h => h) rfl hS ?_; (simp only [Act.put, pu1]; dsimp only [pu2, pu3])))
 refine plan_do (by rfl) (by rfl) (fun K hK => ?_)
 go_simp
 refine (HP.out _ HL1.out X cX (Sees.of_own HO.out.1)).mono ?_
 rintro e w2 ⟨rfl, h2, f2⟩
 have H2 := Lh (Ai h2 ((F1.out.trans (Fr.of_below HO.out.2 Kl) (fun _ _ h => h)).trans f2 (fun _ _ h => h)))
 clear h2 f2
 refine hK.out _ _ (fun h => by cases h) (fun _ => ?_); clear hK K; try (simp only [Act.put, pu1]; dsimp only [pu2, pu3])
 refine plan_nil ?_
 go_wp2_with fail
 refine bodyPost_end (results_none rfl _ _ _) rfl ?_
 exact ⟨rfl, by rw [hbe.out]; exact H2.out.1, H2.out.2⟩
end
section
set_option maxRecDepth 4000
open Go.RowKit
theorem pref_rest {l q : List UInt8} (h : pref l q = true) : ∃ r, l = q ++ r := by
 have h1 := of_decide_eq_true h
 exact ⟨l.drop q.length, by conv => lhs; rw [<- List.take_append_drop q.length l, h1]⟩
theorem pzT_length {r : List UInt8} (h : ¬ pzBad r) : (pzT r).length = pzN r /\ 1 <= pzN r /\ pzN r <= 65535 := by
 unfold pzBad at h
 unfold pzT
 rw [List.length_take, List.length_drop]
 omega
theorem pz_run (b : List UInt8) (k : Nat) (r : List UInt8) : ∀ (ts : List (List UInt8)) (s : Pz) (f : Nat), Fine ts -> b.drop s.used = frs s.chain ts ++ r ->
  pz b k (f + ts.length) s = pz b k f ⟨s.texts ++ ts, chn s.chain ts, s.sealed_, s.used + (frs s.chain ts).length⟩
 | [], s, f, _, _ => by simp [frs, chn]
 | t :: ts, s, f, hf, hb => by
  have ht := hf t (by simp)
  rw [frs, List.append_assoc] at hb
  obtain ⟨e1, e2, e3⟩ := pzN_frm s.chain t (frs (sha (s.chain ++ t)) ts ++ r) ht.1 ht.2
  have h1 : pref (b.drop s.used) (ft (k + s.texts.length) s.chain) = false := by rw [hb]; exact pref_ft_frm _ _ _ _ _ ht.2
  have h3 : pref (b.drop s.used) (frm s.chain (pzT (b.drop s.used))) = true := by rw [hb, e2]; exact pref_append _ _
  have h2 : ¬ pzBad (b.drop s.used) := by rw [hb]; exact e3
  rw [List.length_cons, show f + (ts.length + 1) = f + ts.length + 1 by omega, pz_on b k _ s h1 h2 h3]
  have hd : b.drop (s.used + (pzN (b.drop s.used) + 40)) = frs (sha (s.chain ++ t)) ts ++ r := by
   rw [<- List.drop_drop, hb, e1, show t.length + 40 = (frm s.chain t).length from (frm_length _ _).symm, List.drop_left]
  have ih := pz_run b k r ts ⟨s.texts ++ [pzT (b.drop s.used)], sha (s.chain ++ pzT (b.drop s.used)), s.sealed_, s.used + (pzN (b.drop s.used) + 40)⟩ f (fun u hu => hf u (by simp [hu])) (by
   show b.drop (s.used + (pzN (b.drop s.used) + 40)) = _
   rw [hd, hb, e2])
  rw [ih, hb, e1, e2]
  simp only [List.append_assoc, List.singleton_append, chn, frs, List.length_append, frm_length]
  congr 2
  omega
theorem pzN_zeros (z : Nat) : pzN (zr z) = 0 := by
 unfold pzN eyeN
 split
 ·exact vl_zeros z
 ·rfl
theorem pref_ft_zeros (z n : Nat) (l : List UInt8) : pref (zr z) (ft n l) = false := by
 obtain ⟨r, hr⟩ := ft_front n l
 unfold pref
 refine decide_eq_false fun e => ?_
 have e4 := congrArg (fun x => x[0]?) e
 rw [hr, zr_take] at e4
 simp [be, zr, List.getElem?_replicate] at e4
theorem pz_zeros (b : List UInt8) (k : Nat) (s : Pz) (z f : Nat) (h : b.drop s.used = zr z) : pz b k (f + 1) s = s :=
 pz_stop b k f s (by rw [h]; exact pref_ft_zeros _ _ _) (by rw [h]; exact .inl (by rw [pzN_zeros]; omega))
theorem pz_told (b : List UInt8) (k : Nat) : ∀ (f : Nat) (s : Pz), s.sealed_ = false -> s.chain.length = 32 -> s.used <= b.length ->
  ∃ ts rest, (pz b k f s).texts = s.texts ++ ts /\ (pz b k f s).chain = chn s.chain ts /\ Fine ts /\
   b.drop s.used = frs s.chain ts ++ ((if (pz b k f s).sealed_ = true then ft (k + (s.texts.length + ts.length)) (chn s.chain ts) else []) ++ rest) /\
   (pz b k f s).used = s.used + (frs s.chain ts).length + (if (pz b k f s).sealed_ = true then 48 else 0) /\ (pz b k f s).used + rest.length = b.length
 | 0, s, hs, hc, hu => ⟨[], b.drop s.used, by simp [pz], rfl, fun t ht => by simp at ht, by simp [pz, hs, frs], by simp [pz, hs, frs], by simp [pz]; omega⟩
 | f + 1, s, hs, hc, hu => by
  by_cases h1 : pref (b.drop s.used) (ft (k + s.texts.length) s.chain) = true
  ·rw [pz_seal b k f s h1]
   obtain ⟨r, hr⟩ := pref_rest h1
   have hl := congrArg List.length hr
   rw [List.length_append, List.length_drop, ft_length] at hl
   exact ⟨[], r, by simp, rfl, fun t ht => by simp at ht, by simpa [frs, chn] using hr, by simp [frs], by show s.used + 48 + _ = _; omega⟩
  ·have h1' : pref (b.drop s.used) (ft (k + s.texts.length) s.chain) = false := by simpa using h1
   have stop : pz b k (f + 1) s = s -> ∃ ts rest, (pz b k (f + 1) s).texts = s.texts ++ ts /\ (pz b k (f + 1) s).chain = chn s.chain ts /\ Fine ts /\
     b.drop s.used = frs s.chain ts ++ ((if (pz b k (f + 1) s).sealed_ = true then ft (k + (s.texts.length + ts.length)) (chn s.chain ts) else []) ++ rest) /\
     (pz b k (f + 1) s).used = s.used + (frs s.chain ts).length + (if (pz b k (f + 1) s).sealed_ = true then 48 else 0) /\ (pz b k (f + 1) s).used + rest.length = b.length := fun e => by
    rw [e]
    exact ⟨[], b.drop s.used, by simp, rfl, fun t ht => by simp at ht, by simp [hs, frs], by simp [hs, frs], by simp; omega⟩
   by_cases h2 : pzBad (b.drop s.used)
   ·exact stop (pz_stop b k f s h1' h2)
   ·by_cases h3 : pref (b.drop s.used) (frm s.chain (pzT (b.drop s.used))) = true
    ·have hon := pz_on b k f s h1' h2 h3
     obtain ⟨r, hr⟩ := pref_rest h3
     obtain ⟨l1, l2, l3⟩ := pzT_length h2
     obtain ⟨t, ht⟩ : ∃ t, t = pzT (b.drop s.used) := ⟨_, rfl⟩
     rw [<- ht] at hon hr l1
     rw [<- l1] at hon l2 l3
     have hl := congrArg List.length hr
     rw [List.length_append, List.length_drop, frm_length] at hl
     obtain ⟨ts, rest, a1, a2, a3, a4, a5, a6⟩ := pz_told b k f ⟨s.texts ++ [t], sha (s.chain ++ t), s.sealed_, s.used + (t.length + 40)⟩ hs (sha_length _) (by show s.used + (t.length + 40) <= _; omega)
     have hd : b.drop (s.used + (t.length + 40)) = r := by rw [<- List.drop_drop, hr, show t.length + 40 = (frm s.chain t).length from (frm_length _ _).symm, List.drop_left]
     rw [hon]
     refine ⟨t :: ts, rest, by rw [a1]; simp, by rw [a2]; rfl, ?_, ?_, ?_, a6⟩
     ·intro u hu
      rcases List.mem_cons.1 hu with rfl | hu
      ·exact ⟨l2, l3⟩
      ·exact a3 u hu
     ·simp only [List.length_append, List.length_singleton] at a4
      rw [hd] at a4
      rw [hr, a4, frs, List.append_assoc, chn, List.length_cons, show s.texts.length + (ts.length + 1) = s.texts.length + 1 + ts.length by omega]
     ·rw [a5, frs, List.length_append, frm_length]
      dsimp only
      omega
    ·exact stop (pz_other b k f s h1' h2 (by simpa using h3))
theorem pz_in (b : List UInt8) (k f : Nat) (c : List UInt8) (hc : c.length = 32) (hb : 128 <= b.length) : (pz b k f (pz0 c)).used <= b.length /\ 128 <= (pz b k f (pz0 c)).used /\ (pz b k f (pz0 c)).chain.length = 32 /\ (pz b k f (pz0 c)).texts.length <= b.length := by
 obtain ⟨ts, rest, a1, a2, a3, a4, a5, a6⟩ := pz_told b k f (pz0 c) rfl hc hb
 have h1 := frs_many ts c
 have e : (pz0 c).used = 128 := rfl
 rw [e] at a5
 refine ⟨by omega, by omega, by rw [a2]; exact chn_length _ _ hc, ?_⟩
 rw [a1, show (pz0 c).texts = [] from rfl, List.nil_append]
 have h2 : (frs (pz0 c).chain ts).length = (frs c ts).length := rfl
 omega
end
end Go.Proofs.YtkgaeoeibjoljaaGreatDoor
