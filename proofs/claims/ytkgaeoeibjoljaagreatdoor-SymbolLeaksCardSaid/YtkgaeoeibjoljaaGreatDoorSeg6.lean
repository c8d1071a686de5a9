/-
  A segment's octets, parsed by the code.
-/
import Derived.Test.YtkgaeoeibjoljaaGreatDoorGK
import Derived.Test.YtkgaeoeibjoljaaGreatDoorGC
namespace Go.Proofs.YtkgaeoeibjoljaaGreatDoor
set_option maxRecDepth 4000
open Go.RowKit
theorem hd_len (q k : Nat) (l : List UInt8) (h : l.length = 32) : (hd q k l).length = 128 := by
 rw [hd, hd0, List.length_append, crcw_len]
 simp only [List.length_append, length_be, h, List.length_replicate, List.length_cons, List.length_nil]
theorem begins_at (l q : List UInt8) (ad : Addr) (B : Option Addr) (n c m c' : Nat) (w : World) (hA : Sees w 1 (some ad) n (u8s l)) (hB : Sees w 1 B m (u8s q)) (hl : l.length = n) (hq : q.length = m) (hnc : n <= c) (h : 0 < m) :
  Calls Tryz.prog 161 #[.slice (some ad) n c, .slice B m c'] w fun e w' => e = .returned (.bool (pref l q)) /\ w = w' := by
 have HP := Lh (prefix_any l q ad B n c m c' w hA hB hl hq hnc)
 clear hA hB
 have hm : (0 : Int) < (m : Int) := by omega
 go_enter Tryz.func161, Tryz.ntmps161
 go_wp2_with fail
 refine HP.out.mono ?_
 rintro e w' ⟨rfl, rfl⟩
 go_wp2_with fail
 go_ret
 exact ⟨rfl, rfl⟩
theorem info_bytesZ : (Tryz.prog.info? 22).map (fun i => (i.zero, i.size, i.bytes)) = some (some (.slice none 0 0), 1, 24) := by kernel_rfl
def PzRows (w : World) (base : Nat) (A : Option Addr) (m cT : Nat) (C : Option Addr) (cC : Nat) (texts : List (List UInt8)) (chain : List UInt8) : Prop :=
 ∃ vs : List Pt, vs.length = m /\ w.ownsRow base 22 1 (.slice A m cT) m (vs.map Pt.val) /\ vs.map (·.l) = texts /\ (∀ p ∈ vs, p.l.length = p.n /\ w.ownsRow base 5 1 p.val p.n (u8s p.l)) /\ w.ownsRow base 5 1 (.slice C 32 cC) 32 (u8s chain)
theorem PzRows.below {w w' : World} {base m cT cC : Nat} {A C : Option Addr} {texts : List (List UInt8)} {chain : List UInt8} (h : PzRows w base A m cT C cC texts chain) (hb : Below w.heap.size w w') : PzRows w' base A m cT C cC texts chain := by
 obtain ⟨vs, h1, h2, h3, h4, h5⟩ := h
 exact ⟨vs, h1, own_below h2 hb, h3, fun p hp => ⟨(h4 p hp).1, own_below (h4 p hp).2 hb⟩, own_below h5 hb⟩
theorem PzRows.other {w w' : World} {base m cT cC g : Nat} {A C : Option Addr} {cs : Array Value} {texts : List (List UInt8)} {chain : List UInt8} (h : PzRows w base A m cT C cC texts chain) (hg : Blk w g 229 cs) (hf : Fr (· = g) w w') : PzRows w' base A m cT C cC texts chain := by
 obtain ⟨vs, h1, h2, h3, h4, h5⟩ := h
 exact ⟨vs, h1, own_fr h2 hf (own_ne h2 hg (by decide)), h3, fun p hp => ⟨(h4 p hp).1, own_fr (h4 p hp).2 hf (own_ne (h4 p hp).2 hg (by decide))⟩, own_fr h5 hf (own_ne h5 hg (by decide))⟩
def PzAt (w : World) (base P : Nat) (s : Pz) : Prop := ∃ (A : Option Addr) (cT : Nat) (C : Option Addr) (cC : Nat),
 Blk w P 229 #[.slice A s.texts.length cT, .slice C 32 cC, .bool s.sealed_, .int .i64 s.used] /\ base <= P /\ PzRows w base A s.texts.length cT C cC s.texts s.chain
def PzRet (w : World) (base : Nat) (v : Value) (z : Pz) : Prop := ∃ (A : Option Addr) (cT : Nat) (C : Option Addr) (cC : Nat),
 v = .tuple #[.agg #[.slice A z.texts.length cT, .slice C 32 cC, .bool z.sealed_, .int .i64 z.used], .bool true] /\ PzRows w base A z.texts.length cT C cC z.texts z.chain
set_option maxHeartbeats 8000000 in
theorem parse_any (b l : List UInt8) (g off n c q k : Nat) (A : Option Addr) (c' : Nat) (w : World) (hb : Sees w 1 (some ⟨g, off, none⟩) n (u8s b)) (hn : b.length = n) (hnc : n <= c) (hn6 : n <= 1000000) (h128 : n % 128 = 0) (h256 : 256 <= n)
  (hA : Sees w 1 A 32 (u8s l)) (hl : l.length = 32) (hk : k <= 1000000000) (hq : q < 4294967296) (hp : pref b (hd q k l) = true) (hT : Tab w) :
  Calls Tryz.prog 153 #[.slice (some ⟨g, off, none⟩) n c, .int .i64 q, .int .i64 k, .slice A 32 c'] w fun e w' => ∃ v, e = .returned v /\ PzRet w' w.heap.size v (pz b k n (pz0 l)) /\ Below w.heap.size w w' := by
 obtain ⟨ga, oa, rfl, -⟩ := hA.2 (by omega)
 have hal : Below w.heap.size w (w.alloc (.cells #[.slice none 0 0, .slice none 0 0, .bool false, .int .i64 0] 229)) := (Below.refl _ _).alloc (Nat.le_refl _) _
 have HH := Lh (head_ok q k l (some ⟨ga, oa, none⟩) c' _ (hA.below hal) hl (by omega) hq)
 have HB := Lh hb; have HAL := Lh hal; have HA := Lh hA; have HT := Lh hT; have HL := Lh hl
 have HZ0 := Lh (Blk.new w 229 #[.slice none 0 0, .slice none 0 0, .bool false, .int .i64 0])
 have HSZ := Lh (show (Tryz.prog.info? 229).map (·.size) = some 4 by kernel_rfl)
 clear hb hal hA hT
 have e1 : ((n : Int) % 128 != 0) = false := by simp; omega
 have e2 : ¬ ((n : Int) < 256) := by omega
 go_enter Tryz.func153, Tryz.ntmps153
 go_wp2_with fail
 refine HH.out.mono ?_
 rintro e w1 ⟨v, rfl, hown, hb1⟩
 obtain ⟨A1, c1, rfl⟩ := own_shape hown
 have HG := Lh (begins_at b (hd q k l) ⟨g, off, none⟩ A1 n c 128 c1 w1 ((HB.out.below HAL.out).below hb1) (Sees.of_own hown) hn (hd_len _ _ _ hl) hnc (by omega))
 rw [hp] at HG
 have HB1 := Lh (HAL.out.trans (hb1.mono HAL.out.size))
 have HZ1 := Lh (HZ0.out.below hb1 HZ0.out.lt)
 have HC := Lh (bclone_any ⟨ga, oa, none⟩ 32 c' (u8s l) w1 (HA.out.below HB1.out) (u8s_one l) (by omega))
 clear hown hb1 HH HZ0 HAL hp
 go_wp2_with fail
 refine HG.out.mono ?_
 rintro e w' ⟨rfl, rfl⟩
 go_wp2_with fail
 refine HC.out.mono ?_
 rintro e w2 ⟨v2, rfl, hown2, hb2⟩
 obtain ⟨C2, c2, rfl⟩ := own_shape hown2
 have hK2 := Blk.new w2 229 #[.slice none 0 0, .slice none 0 0, .bool false, .int .i64 0]
 have HK2 := Lh hK2
 have hal2 : Below w2.heap.size w2 ((w2.alloc (.cells #[.slice none 0 0, .slice none 0 0, .bool false, .int .i64 0] 229)).setRow w2.heap.size #[.slice none 0 0, .slice C2 32 c2, .bool false, .int .i64 128]) := below_setRow ((Below.refl _ _).alloc (Nat.le_refl _) _) (Nat.le_refl _) _
 have hP2 := hK2.setRow #[.slice none 0 0, .slice C2 32 c2, .bool false, .int .i64 128]
 have hw12 : w.heap.size <= w2.heap.size := (HB1.out.trans (hb2.mono HB1.out.size)).size
 have HPZ := Lh (show PzAt ((w2.alloc (.cells #[.slice none 0 0, .slice none 0 0, .bool false, .int .i64 0] 229)).setRow w2.heap.size #[.slice none 0 0, .slice C2 32 c2, .bool false, .int .i64 128]) w.heap.size w2.heap.size (pz0 l) from
  ⟨none, 0, C2, c2, hP2, hw12, [], rfl, World.ownsRow_nil _ _ _ _, rfl, (fun p hp => by cases hp), own_base (own_below hown2 hal2) (HB1.out.size)⟩)
 have HB2 := Lh (HB1.out.trans ((hb2.trans (hal2.mono hb2.size)).mono HB1.out.size))
 have HZ2 := Lh (HZ1.out.below (hb2.trans (hal2.mono hb2.size)) HZ1.out.lt)
 clear hown2 hb2 hal2 hP2 HZ1 HB1 HC HG hK2
 go_wp2_with (have hk2 := HK2.out; refine wpList_store_row rfl 229 (.tmp 10) (.tmp 37) rfl w2.heap.size _ rfl rfl 229 _ hk2 (by exact HSZ.out) (Eq.refl 4) (by simp [Value.oneCell']) ?_; generalize (World.setRow _ _ _) = W at *; clear HK2 hk2)
 dsimp only [Act.put]
 go_loopw [] (fun wr => ∃ (s : Pz) (f : Nat), pz b k f s = pz b k n (pz0 l) /\ n < s.used + f /\ s.used <= n /\ s.chain.length = 32 /\ s.texts.length <= s.used /\ PzAt wr w.heap.size w2.heap.size s /\ Blk wr w.heap.size 229 #[.slice none 0 0, .slice none 0 0, .bool false, .int .i64 0] /\ Below w.heap.size w wr)
  (fun wr => n - (match wr.cell? ⟨w2.heap.size, 3, none⟩ with | some u => (intOf u).toNat | none => 0))
 case atStart => exact ⟨pz0 l, n, rfl, by show n < 128 + n; omega, by show 128 <= n; omega, HL.out, Nat.zero_le _, HPZ.out, HZ2.out, HB2.out⟩
 case round =>
  obtain ⟨s, f, hpz, hf, hu, hc32, htl, ⟨A, cT, C, cC, hblk, hbP, hrows⟩, hZ, hbr⟩ := hrel
  have c0 : wr.cell? ⟨w2.heap.size, 0, none⟩ = some (.slice A s.texts.length cT) := hblk.cell 0
  have c1 : wr.cell? ⟨w2.heap.size, 1, none⟩ = some (.slice C 32 cC) := hblk.cell 1
  have c2 : wr.cell? ⟨w2.heap.size, 2, none⟩ = some (.bool s.sealed_) := hblk.cell 2
  have c3 : wr.cell? ⟨w2.heap.size, 3, none⟩ = some (.int .i64 s.used) := hblk.cell 3
  have hFT := foot_ok (k + s.texts.length) s.chain C cC wr (by obtain ⟨vs, _, _, _, _, h5⟩ := hrows; exact Sees.of_own h5) hc32 (by omega)
  rw [Int.natCast_add] at hFT
  have HFT := Lh hFT
  have hwk : IntKind.i64.wrap ((k : Int) + (s.texts.length : Int)) = (k : Int) + (s.texts.length : Int) := IntWalk.i64_in _ (by omega)
  have hun : (s.used : Int) <= (n : Int) := by omega
  have huc : (s.used : Int) <= (c : Int) := by omega
  have hnc' : (n : Int) <= (c : Int) := by omega
  have huc' : s.used <= c := by omega
  have hwu : IntKind.i64.wrap ((s.used : Int) + 48) = (s.used : Int) + 48 := IntWalk.i64_in _ (by omega)
  have HNE : Hid (w.heap.size ≠ w2.heap.size) := Lh (fun e => by have h1 := (Blk.keep hZ rfl : Blk wr w.heap.size 229 _); rw [e] at h1; have := h1.symm.trans hblk; simp at this)
  have HC3 := Lh (show wr.cell? ⟨w2.heap.size, 3, none⟩ = some (.int .i64 s.used) from hblk.cell 3)
  have HX := Lh (Ai hblk (Ai hrows (Ai hZ hbr)))
  have HRB := Lh (HB.out.below hbr)
  obtain ⟨f, rfl⟩ : ∃ f', f = f' + 1 := ⟨f - 1, by omega⟩
  have HH := Lh (Ai hpz (Ai hf (Ai htl hbP)))
  clear hblk hrows hZ hbr hpz hf htl hbP hFT
  by_cases hcu : c = s.used
  ·obtain rfl : n = s.used := by omega
   obtain rfl : c = s.used := hcu
   have hr0 : b.drop s.used = [] := List.drop_eq_nil_of_le (by omega)
   have HRS := Lh (show Sees wr 1 (some ⟨g, off, none⟩) 0 (u8s (b.drop s.used)) by rw [hr0]; exact Sees.none_ _ _ _)
   have HRL := Lh (show (b.drop s.used).length = 0 by rw [hr0]; rfl)
   have HP0 := Lh (show pref (b.drop s.used) (ft (k + s.texts.length) s.chain) = false by
    rw [hr0]; unfold pref; refine decide_eq_false fun e => ?_; have := congrArg List.length e; rw [ft_length, hc32] at this; simp at this)
   have HBAD := Lh (show pzBad (b.drop s.used) by rw [hr0]; exact .inl (by decide))
   have HE0 := Lh (show eyeN (b.drop s.used) 0 4 = 0 by rw [hr0]; rfl)
   clear hr0
   go_wp2_with fail
   refine HFT.out.mono ?_
   rintro e w3 ⟨vf, rfl, hownF, hb3⟩
   obtain ⟨Af, cf, rfl⟩ := own_shape hownF
   have HG := Lh (begins_at (b.drop s.used) (ft (k + s.texts.length) s.chain) ⟨g, off, none⟩ Af 0 0 48 cf w3 (HRS.out.below hb3) (Sees.of_own hownF) HRL.out (by rw [ft_length, hc32]) (by omega) (by omega))
   have hK3 := HX.out.1.below hb3 HX.out.1.lt
   have HX3 := Lh (Ai hK3 (Ai (HX.out.2.1.below hb3) (Ai (HX.out.2.2.1.below hb3 HX.out.2.2.1.lt) (Ai (HX.out.2.2.2.trans (hb3.mono HX.out.2.2.2.size)) hb3))))
   have HRS3 := Lh (HRS.out.below hb3)
   clear hownF hb3 c0 c1 c2 c3 HFT HX HRS
   have c0 : w3.cell? ⟨w2.heap.size, 0, none⟩ = some (.slice A s.texts.length cT) := hK3.cell 0
   have c1 : w3.cell? ⟨w2.heap.size, 1, none⟩ = some (.slice C 32 cC) := hK3.cell 1
   have c2 : w3.cell? ⟨w2.heap.size, 2, none⟩ = some (.bool s.sealed_) := hK3.cell 2
   have c3 : w3.cell? ⟨w2.heap.size, 3, none⟩ = some (.int .i64 s.used) := hK3.cell 3
   clear hK3
   rw [HP0.out] at HG
   go_wp2_with fail
   refine HG.out.mono ?_
   rintro e w' ⟨rfl, rfl⟩
   have HOP := Lh (open_any (b.drop s.used) ⟨g, off, none⟩ 0 0 w3 HRS3.out HRL.out (by omega))
   go_wp2_with fail
   refine HOP.out.mono ?_
   rintro e w4 ⟨pe, rfl, hE4, hb4⟩
   have hU := e32_any w3.heap.size pe 0 (b.drop s.used) w4 hE4 (by omega) (by rw [HRL.out]; omega)
   rw [HE0.out] at hU
   have HU := Lh hU
   have HB4 := Lh hb4
   clear hE4 hb4 hU HOP HG c0 c1 c2 c3
   go_wp2_with fail
   refine HU.out.mono ?_
   rintro e w5 ⟨rfl, -, hb5⟩
   have hb35 := HB4.out.trans hb5
   have hK5 := HX3.out.1.below hb35 HX3.out.1.lt
   have HX5 := Lh (Ai hK5 (Ai (HX3.out.2.1.below hb35) (Ai (HX3.out.2.2.1.below hb35 HX3.out.2.2.1.lt) (Ai (HX3.out.2.2.2.1.trans (hb35.mono HX3.out.2.2.2.1.size)) hb35))))
   clear hb5 hb35 HX3 HU HB4
   have c0 : w5.cell? ⟨w2.heap.size, 0, none⟩ = some (.slice A s.texts.length cT) := hK5.cell 0
   have c1 : w5.cell? ⟨w2.heap.size, 1, none⟩ = some (.slice C 32 cC) := hK5.cell 1
   have c2 : w5.cell? ⟨w2.heap.size, 2, none⟩ = some (.bool s.sealed_) := hK5.cell 2
   have c3 : w5.cell? ⟨w2.heap.size, 3, none⟩ = some (.int .i64 s.used) := hK5.cell 3
   clear hK5
   have HZN := Lh (pz_stop b k f s HP0.out HBAD.out)
   go_wp2_with (have hzz := HX5.out.2.2.1; refine wpList_store_row rfl 229 (.tmp 8) (.tmp 77) rfl w.heap.size _ rfl rfl 229 _ hzz (by exact HSZ.out) (Eq.refl 4) (by simp [Value.oneCell']) ?_)
   refine bodyPost_ret (results_row_tmp rfl _ _ w.heap.size 229 _ (0, 0) _ rfl (HX5.out.2.2.1.setRow _) Tryz.underlying229 rfl (by exact HSZ.out)) rfl ?_
   have hpz := HH.out.1
   rw [HZN.out] at hpz
   exact ⟨_, rfl, ⟨A, cT, C, cC, by rw [<- hpz]; rfl, by rw [<- hpz]; exact HX5.out.2.1.other HX5.out.2.2.1 (Fr.setRow _ w.heap.size _ rfl)⟩, below_setRow HX5.out.2.2.2.1 (Nat.le_refl _) _⟩
  ·have hun2 : ¬ c = s.used := hcu
   obtain ⟨m, hmn⟩ : ∃ m, n - s.used = m := ⟨_, rfl⟩
   obtain ⟨cc, hcc⟩ : ∃ m, c - s.used = m := ⟨_, rfl⟩
   have hmc : m <= cc := by omega
   have hm6 : m <= 1000000 := by omega
   have HRS := Lh (show Sees wr 1 (some ⟨g, off + s.used, none⟩) m (u8s (b.drop s.used)) by
    have := HRB.out.piece s.used (n - s.used) (by omega)
    rwa [<- u8s_drop, <- u8s_take, List.take_of_length_le (by rw [List.length_drop]; omega), hmn] at this)
   have HRL := Lh (show (b.drop s.used).length = m by rw [List.length_drop, hn, hmn])
   go_wp2_with fail
   refine HFT.out.mono ?_
   rintro e w3 ⟨vf, rfl, hownF, hb3⟩
   obtain ⟨Af, cf, rfl⟩ := own_shape hownF
   have HG := Lh (begins_at (b.drop s.used) (ft (k + s.texts.length) s.chain) ⟨g, off + s.used, none⟩ Af m cc 48 cf w3 (HRS.out.below hb3) (Sees.of_own hownF) HRL.out (by rw [ft_length, hc32]) (by omega) (by omega))
   have hK3 := HX.out.1.below hb3 HX.out.1.lt
   have HX3 := Lh (Ai hK3 (Ai (HX.out.2.1.below hb3) (Ai (HX.out.2.2.1.below hb3 HX.out.2.2.1.lt) (Ai (HX.out.2.2.2.trans (hb3.mono HX.out.2.2.2.size)) hb3))))
   have HRS3 := Lh (HRS.out.below hb3)
   clear hownF hb3 c0 c1 c2 c3 HFT HX HRS
   have c0 : w3.cell? ⟨w2.heap.size, 0, none⟩ = some (.slice A s.texts.length cT) := hK3.cell 0
   have c1 : w3.cell? ⟨w2.heap.size, 1, none⟩ = some (.slice C 32 cC) := hK3.cell 1
   have c2 : w3.cell? ⟨w2.heap.size, 2, none⟩ = some (.bool s.sealed_) := hK3.cell 2
   have c3 : w3.cell? ⟨w2.heap.size, 3, none⟩ = some (.int .i64 s.used) := hK3.cell 3
   clear hK3
   by_cases hpf : pref (b.drop s.used) (ft (k + s.texts.length) s.chain) = true
   ·rw [hpf] at HG
    have HZN := Lh (pz_seal b k f s hpf)
    have f2 : w3.frozen? ⟨w2.heap.size, 2, none⟩ = false := HX3.out.1.frozen 2
    have f3 : w3.frozen? ⟨w2.heap.size, 3, none⟩ = false := HX3.out.1.frozen 3
    have hfr1 : Fr (· = w2.heap.size) w3 ((w3.setCell ⟨w2.heap.size, 2, none⟩ (.bool true)).setCell ⟨w2.heap.size, 3, none⟩ (.int .i64 (s.used + 48))) := (show Fr (· = w2.heap.size) w3 _ from Fr.setCell w3 ⟨w2.heap.size, 2, none⟩ (.bool true) rfl).trans (show Fr (· = w2.heap.size) _ _ from Fr.setCell _ ⟨w2.heap.size, 3, none⟩ (.int .i64 (s.used + 48)) rfl) (fun _ _ h => h)
    have hzz : Blk ((w3.setCell ⟨w2.heap.size, 2, none⟩ (.bool true)).setCell ⟨w2.heap.size, 3, none⟩ (.int .i64 (s.used + 48))) w.heap.size 229 #[.slice none 0 0, .slice none 0 0, .bool false, .int .i64 0] := (HX3.out.2.2.1.far HNE.out _).far HNE.out _
    have hbb : Below w.heap.size w ((w3.setCell ⟨w2.heap.size, 2, none⟩ (.bool true)).setCell ⟨w2.heap.size, 3, none⟩ (.int .i64 (s.used + 48))) := (HX3.out.2.2.2.1.setCell (by show w.heap.size <= w2.heap.size; exact HH.out.2.2.2) _).setCell (by show w.heap.size <= w2.heap.size; exact HH.out.2.2.2) _
    have HX4 := Lh (Ai (HX3.out.2.1.other HX3.out.1 hfr1) (Ai hzz hbb))
    clear hfr1 hzz hbb
    go_wp2_with fail
    refine HG.out.mono ?_
    rintro e w' ⟨rfl, rfl⟩
    go_wp2_with (have hzz := HX4.out.2.1; refine wpList_store_row rfl 229 (.tmp 8) (.tmp 60) rfl w.heap.size _ rfl rfl 229 _ hzz (by exact HSZ.out) (Eq.refl 4) (by simp [Value.oneCell']) ?_)
    refine bodyPost_ret (results_row_tmp rfl _ _ w.heap.size 229 _ (0, 0) _ rfl (HX4.out.2.1.setRow _) Tryz.underlying229 rfl (by exact HSZ.out)) rfl ?_
    have hpz := HH.out.1
    rw [HZN.out] at hpz
    exact ⟨_, rfl, ⟨A, cT, C, cC, by rw [<- hpz]; rfl, by rw [<- hpz]; exact HX4.out.1.other HX4.out.2.1 (Fr.setRow _ w.heap.size _ rfl)⟩, below_setRow HX4.out.2.2 (Nat.le_refl _) _⟩
   ·have hpf2 : pref (b.drop s.used) (ft (k + s.texts.length) s.chain) = false := by simpa using hpf
    rw [hpf2] at HG
    have HOP := Lh (open_any (b.drop s.used) ⟨g, off + s.used, none⟩ m cc w3 HRS3.out HRL.out (by omega))
    go_wp2_with fail
    refine HG.out.mono ?_
    rintro e w' ⟨rfl, rfl⟩
    go_wp2_with fail
    refine HOP.out.mono ?_
    rintro e w4 ⟨pe, rfl, hE4, hb4⟩
    have hU := e32_any w3.heap.size pe 0 (b.drop s.used) w4 hE4 (by omega) (by rw [HRL.out]; omega)
    have hNl := eyeN_lt (b.drop s.used) 0 4
    have h44 : (256 : Nat) ^ 4 = 4294967296 := by decide
    obtain ⟨N, hN⟩ : ∃ N, N = eyeN (b.drop s.used) 0 4 := ⟨_, rfl⟩
    rw [<- hN] at hU hNl
    rw [h44] at hNl
    have HN := Lh (show pzN (b.drop s.used) = N from hN.symm)
    have HU := Lh hU
    have HB4 := Lh hb4
    clear hE4 hb4 hU HOP HG c0 c1 c2 c3 hN h44
    go_wp2_with fail
    refine HU.out.mono ?_
    rintro e w5 ⟨rfl, -, hb5⟩
    have hb35 := HB4.out.trans hb5
    have hK5 := HX3.out.1.below hb35 HX3.out.1.lt
    have HX5 := Lh (Ai hK5 (Ai (HX3.out.2.1.below hb35) (Ai (HX3.out.2.2.1.below hb35 HX3.out.2.2.1.lt) (Ai (HX3.out.2.2.2.1.trans (hb35.mono HX3.out.2.2.2.1.size)) hb35))))
    have HRS5 := Lh (HRS3.out.below hb35)
    clear hb5 hb35 HX3 HU HB4 HRS3
    have c0 : w5.cell? ⟨w2.heap.size, 0, none⟩ = some (.slice A s.texts.length cT) := hK5.cell 0
    have c1 : w5.cell? ⟨w2.heap.size, 1, none⟩ = some (.slice C 32 cC) := hK5.cell 1
    have c2 : w5.cell? ⟨w2.heap.size, 2, none⟩ = some (.bool s.sealed_) := hK5.cell 2
    have c3 : w5.cell? ⟨w2.heap.size, 3, none⟩ = some (.int .i64 s.used) := hK5.cell 3
    clear hK5
    have hwN : IntKind.i64.wrap ((N : Int) + 40) = (N : Int) + 40 := IntWalk.i64_in _ (by omega)
    have hwN4 : IntKind.i64.wrap (4 + (N : Int)) = 4 + (N : Int) := IntWalk.i64_in _ (by omega)
    have hbd : pzBad (b.drop s.used) ↔ (N < 1 \/ 65535 < N \/ m < N + 40) := by unfold pzBad; rw [HN.out, HRL.out]
    by_cases hbad : pzBad (b.drop s.used)
    ·have HZN := Lh (pz_stop b k f s hpf2 hbad)
     have hcs := hbd.1 hbad
     clear hbd hbad hpf hpf2
     by_cases hq1 : N < 1
     ·have hq1i : (N : Int) < 1 := by omega
      go_wp2_with (have hzz := HX5.out.2.2.1; refine wpList_store_row rfl 229 (.tmp 8) (.tmp 77) rfl w.heap.size _ rfl rfl 229 _ hzz (by exact HSZ.out) (Eq.refl 4) (by simp [Value.oneCell']) ?_)
      refine bodyPost_ret (results_row_tmp rfl _ _ w.heap.size 229 _ (0, 0) _ rfl (HX5.out.2.2.1.setRow _) Tryz.underlying229 rfl (by exact HSZ.out)) rfl ?_
      have hpz := HH.out.1
      rw [HZN.out] at hpz
      exact ⟨_, rfl, ⟨A, cT, C, cC, by rw [<- hpz]; rfl, by rw [<- hpz]; exact HX5.out.2.1.other HX5.out.2.2.1 (Fr.setRow _ w.heap.size _ rfl)⟩, below_setRow HX5.out.2.2.2.1 (Nat.le_refl _) _⟩
     ·have hq1i : ¬ (N : Int) < 1 := by omega
      by_cases hq2 : 65535 < N
      ·have hq2i : (65535 : Int) < (N : Int) := by omega
       go_wp2_with (have hzz := HX5.out.2.2.1; refine wpList_store_row rfl 229 (.tmp 8) (.tmp 77) rfl w.heap.size _ rfl rfl 229 _ hzz (by exact HSZ.out) (Eq.refl 4) (by simp [Value.oneCell']) ?_)
       refine bodyPost_ret (results_row_tmp rfl _ _ w.heap.size 229 _ (0, 0) _ rfl (HX5.out.2.2.1.setRow _) Tryz.underlying229 rfl (by exact HSZ.out)) rfl ?_
       have hpz := HH.out.1
       rw [HZN.out] at hpz
       exact ⟨_, rfl, ⟨A, cT, C, cC, by rw [<- hpz]; rfl, by rw [<- hpz]; exact HX5.out.2.1.other HX5.out.2.2.1 (Fr.setRow _ w.heap.size _ rfl)⟩, below_setRow HX5.out.2.2.2.1 (Nat.le_refl _) _⟩
      ·have hq2i : ¬ (65535 : Int) < (N : Int) := by omega
       have hq3 : (m : Int) < (N : Int) + 40 := by omega
       go_wp2_with (have hzz := HX5.out.2.2.1; refine wpList_store_row rfl 229 (.tmp 8) (.tmp 77) rfl w.heap.size _ rfl rfl 229 _ hzz (by exact HSZ.out) (Eq.refl 4) (by simp [Value.oneCell']) ?_)
       refine bodyPost_ret (results_row_tmp rfl _ _ w.heap.size 229 _ (0, 0) _ rfl (HX5.out.2.2.1.setRow _) Tryz.underlying229 rfl (by exact HSZ.out)) rfl ?_
       have hpz := HH.out.1
       rw [HZN.out] at hpz
       exact ⟨_, rfl, ⟨A, cT, C, cC, by rw [<- hpz]; rfl, by rw [<- hpz]; exact HX5.out.2.1.other HX5.out.2.2.1 (Fr.setRow _ w.heap.size _ rfl)⟩, below_setRow HX5.out.2.2.2.1 (Nat.le_refl _) _⟩
    ·have hnb : 1 <= N /\ N <= 65535 /\ N + 40 <= m := by
      rcases Nat.lt_or_ge N 1 with h1 | h1
      ·exact absurd (hbd.2 (.inl h1)) hbad
      ·rcases Nat.lt_or_ge 65535 N with h2 | h2
       ·exact absurd (hbd.2 (.inr (.inl h2))) hbad
       ·rcases Nat.lt_or_ge m (N + 40) with h3 | h3
        ·exact absurd (hbd.2 (.inr (.inr h3))) hbad
        ·exact ⟨h1, h2, h3⟩
     obtain ⟨hb1, hb2, hb3⟩ := hnb
     have hq1i : ¬ (N : Int) < 1 := by omega
     have hq2i : ¬ (65535 : Int) < (N : Int) := by omega
     have hq3 : ¬ (m : Int) < (N : Int) + 40 := by omega
     have HT5 := Lh (HT.out.below HX5.out.2.2.2.1)
     have HNB := Lh (Ai hpf2 hbad)
     clear hbd hbad hpf hpf2
     obtain ⟨tx, htx⟩ : ∃ tx, tx = pzT (b.drop s.used) := ⟨_, rfl⟩
     have hTS := HRS5.out.piece 4 N (by omega)
     have hpt : (((b.drop s.used).drop 4).take N) = tx := by rw [htx]; unfold pzT; rw [HN.out]
     rw [<- u8s_drop, <- u8s_take, hpt] at hTS
     have htl : tx.length = N := by rw [<- hpt, List.length_take, List.length_drop, HRL.out]; omega
     have HTS := Lh hTS
     have HFR := Lh (fun w hA hB hT => frame_ok s.chain tx C (some ⟨g, off + s.used + 4, none⟩) cC N (cc - 4) w hA hB hc32 htl hb1 hb2 hT)
     have HTX := Lh (Ai htx htl)
     have hn4 : (4 + (N : Int)).toNat = 4 + N := by omega
     have hn5 : 4 + N - 4 = N := by omega
     have hn6 : 4 + (N : Int) <= (cc : Int) := by omega
     have hn7 : ¬ cc = 4 := by omega
     have hn8 : ¬ 4 + (N : Int) < 4 := by omega
     clear hTS hpt htx htl
     go_wp2_with fail
     have hd0 := (Below.refl w5.heap.size w5).drew
     refine region_fast [(0, true), (1, true), (2, true), (3, true), (4, true), (5, true), (6, false), (7, true), (8, true), (9, true), (10, true), (11, true)] [2, 3, 4, 5, 9, 10] 1596 [(604462909807314587353088, 1024, 0, 0), (1208925819614629174706176, 604462909807314587353088, 1, 1), (2417851639229258349412352, 2048, 0, 0), (4835703278458516698824704, 8192, 0, 0), (9671406556917033397649408, 4835703278458516698824704, 8, 8), (19342813113834066795298816, 12089258196146291747061760, 20, 28), (38685626227668133590597632, 20551738933448695970004992, 34, 63), (302231454903657293676544, 38685626227668133590597632, 64, 127), (77371252455336267181195264, 302231454903657293676544, 128, 255), (154742504910672534362390528, 302231454903657293676544, 128, 255), (16384, 77371252455336267181195264, 511, 511), (32768, 154742504910672534362390528, 2047, 2047)] (fun w' => w'.cell? ⟨w2.heap.size, 1, none⟩ = some (.slice C 32 cC)) (by kernel_rfl) (by kernel_rfl) (by kernel_rfl) rfl (by kernel_rfl) (by kernel_rfl) c1 (fun hS => ?_)
     repeat (first
      | (refine plan_read (v := ?_) rfl (fun _ _ _ h => h) rfl hS ?_ ?_; rotate_left 1; (focus (intro w' hS'; go_simp; try rfl)); (simp only [Act.put, pu1]; dsimp only [pu2, pu3]))
      | (refine plan_skip rfl (fun _ _ _ h => h) rfl hS ?_; (simp only [Act.put, pu1]; dsimp only [pu2, pu3])))
     refine plan_do (by rfl) (by rfl) (fun K hK => ?_)
     go_simp
     have hXd := HX5.out.2.1.below hd0
     refine (HFR.out _ (by obtain ⟨vs, _, _, _, _, h5⟩ := hXd; exact Sees.of_own h5) (HTS.out.below hd0) (HT5.out.below hd0)).mono ?_
     rintro e w6 ⟨vf, vn, rfl, hownf, hownn, hb6⟩
     obtain ⟨Ag, cg, rfl⟩ := own_shape hownf
     obtain ⟨An, cn, rfl⟩ := own_shape hownn
     have hb56 := hd0.trans (hb6.mono hd0.size)
     have hK6 := HX5.out.1.below hb56 HX5.out.1.lt
     have c1n : w6.cell? ⟨w2.heap.size, 1, none⟩ = some (.slice C 32 cC) := hK6.cell 1
     refine hK.out _ _ (fun h => by cases h) (fun _ => ?_); clear hK K; try (simp only [Act.put, pu1]; dsimp only [pu2, pu3])
     replace hS := c1n
     repeat (first
      | (refine plan_read (v := ?_) rfl (fun _ _ _ h => h) rfl hS ?_ ?_; rotate_left 1; (focus (intro w' hS'; go_simp; try rfl)); (simp only [Act.put, pu1]; dsimp only [pu2, pu3]))
      | (refine plan_skip rfl (fun _ _ _ h => h) rfl hS ?_; (simp only [Act.put, pu1]; dsimp only [pu2, pu3])))
     refine plan_nil ?_
     have HG6 := Lh (begins_at (b.drop s.used) (frm s.chain tx) ⟨g, off + s.used, none⟩ Ag m cc (N + 40) cg w6 (HRS5.out.below hb56) (Sees.of_own hownf) HRL.out (by rw [frm_length, HTX.out.2]) hmc (by omega))
     have hs5 := HX5.out.2.2.2.1.size
     have HX6 := Lh (Ai hK6 (Ai (HX5.out.2.1.below hb56) (Ai (HX5.out.2.2.1.below hb56 HX5.out.2.2.1.lt) (Ai (HX5.out.2.2.2.1.trans (hb56.mono hs5)) hb56))))
     have HNX := Lh (own_base hownn (show w.heap.size <= w5.drew.heap.size from hs5))
     have HTS6 := Lh (HTS.out.below hb56)
     clear hS hXd hownf hownn hb6 hb56 hd0 hs5 c0 c1 c2 c3 c1n HX5 HRS5 HT5 HTS HFR
     have c0 : w6.cell? ⟨w2.heap.size, 0, none⟩ = some (.slice A s.texts.length cT) := hK6.cell 0
     have c1 : w6.cell? ⟨w2.heap.size, 1, none⟩ = some (.slice C 32 cC) := hK6.cell 1
     have c2 : w6.cell? ⟨w2.heap.size, 2, none⟩ = some (.bool s.sealed_) := hK6.cell 2
     have c3 : w6.cell? ⟨w2.heap.size, 3, none⟩ = some (.int .i64 s.used) := hK6.cell 3
     clear hK6
     by_cases h3 : pref (b.drop s.used) (frm s.chain tx) = true
     ·rw [h3] at HG6
      have HZN := Lh (pz_on b k f s HNB.out.1 HNB.out.2 (by rw [<- HTX.out.1]; exact h3))
      rw [<- HTX.out.1, HN.out] at HZN
      clear h3
      go_wp2_with fail
      refine HG6.out.mono ?_
      rintro e w' ⟨rfl, rfl⟩
      have HCL := Lh (fun w hS => bclone_any ⟨g, off + s.used + 4, none⟩ N (cc - 4) (u8s tx) w hS (u8s_one tx) (by omega))
      have hd0 := (Below.refl w6.heap.size w6).drew
      clear HG6
      go_wp2_with fail
      refine region_fast [(0, true), (1, true), (2, true), (3, true), (4, true), (5, true), (6, false), (7, false), (8, false), (9, true), (10, false)] [2, 3, 4, 5, 6, 7] 252 [(9903520314283042199192993792, 1024, 0, 0), (19807040628566084398385987584, 9903520314283042199192993792, 1, 1), (39614081257132168796771975168, 2048, 0, 0), (79228162514264337593543950336, 8192, 0, 0), (158456325028528675187087900672, 79228162514264337593543950336, 8, 8), (316912650057057350374175801344, 198070406285660843983859875840, 20, 28), (633825300114114700748351602688, 316912650057057350374175801344, 32, 60), (1267650600228229401496703205376, 633825300114114700748351602688, 64, 124), (2535301200456458802993406410752, 1287457640856795485895089192960, 194, 255), (5070602400912917605986812821504, 1024, 511, 511), (0, 7605903601369376408980219232256, 1023, 1023)] (fun w' => w'.cell? ⟨w2.heap.size, 0, none⟩ = some (.slice A s.texts.length cT)) (by kernel_rfl) (by kernel_rfl) (by kernel_rfl) rfl (by kernel_rfl) (by kernel_rfl) c0 (fun hS => ?_)
      repeat (first
       | (refine plan_read (v := ?_) rfl (fun _ _ _ h => h) rfl hS ?_ ?_; rotate_left 1; (focus (intro w' hS'; go_simp; try rfl)); (simp only [Act.put, pu1]; dsimp only [pu2, pu3]))
       | (refine plan_skip rfl (fun _ _ _ h => h) rfl hS ?_; (simp only [Act.put, pu1]; dsimp only [pu2, pu3])))
      refine plan_do (by rfl) (by rfl) (fun K hK => ?_)
      go_simp
      refine (HCL.out _ (HTS6.out.below hd0)).mono ?_
      rintro e w7 ⟨vt, rfl, hownt, hb7⟩
      obtain ⟨At, ct, rfl⟩ := own_shape hownt
      have hb67 := hd0.trans (hb7.mono hd0.size)
      have hK7 := HX6.out.1.below hb67 HX6.out.1.lt
      have c07 : w7.cell? ⟨w2.heap.size, 0, none⟩ = some (.slice A s.texts.length cT) := hK7.cell 0
      refine hK.out _ _ (fun _ => c07) (fun hS => ?_); clear hK K; replace hS := hS rfl; try (simp only [Act.put, pu1]; dsimp only [pu2, pu3])
      refine plan_do (by rfl) (by rfl) (fun K hK => ?_)
      go_simp
      have hal7 : Below w7.heap.size w7 (w7.alloc (.cells #[.slice At N ct] 22)) := (Below.refl _ _).alloc (Nat.le_refl _) _
      have hK8 := hK7.below hal7 hK7.lt
      have c08 : (w7.alloc (.cells #[.slice At N ct] 22)).cell? ⟨w2.heap.size, 0, none⟩ = some (.slice A s.texts.length cT) := hK8.cell 0
      have hR8 := (HX6.out.2.1.below hb67).below hal7
      have hZ8 := (HX6.out.2.2.1.below hb67 HX6.out.2.2.1.lt).below hal7 (by have := (HX6.out.2.2.1.below hb67 HX6.out.2.2.1.lt).lt; exact this)
      have hs6 := HX6.out.2.2.2.1.size
      have hs67 := hb67.size
      have hB8 := (HX6.out.2.2.2.1.trans (hb67.mono hs6)).trans (hal7.mono (by omega))
      have hN8 := own_below (own_below HNX.out hb67) hal7
      have hT8 := own_base (own_below hownt hal7) (show w.heap.size <= w6.drew.heap.size from hs6)
      obtain ⟨vs, hv1, hv2, hv3, hv4, hv5⟩ := hR8
      have H8 := Lh (Ai hv1 (Ai hv2 (Ai hv3 (Ai hv4 (Ai hv5 (Ai hK8 (Ai hZ8 (Ai hB8 (Ai hN8 hT8)))))))))
      have hsz8 : (w7.alloc (.cells #[.slice At N ct] 22)).heap.size = w7.heap.size + 1 := by simp
      have HSN := Lh (sees_new w7 22 [.slice At N ct] 1 1 rfl)
      have hbase8 : w.heap.size <= w7.heap.size + 1 := by omega
      have htlen : s.texts.length <= 1000000 := by have := HH.out.2.2.1; omega
      have HSZ8 := Lh hsz8
      clear hv1 hv2 hv3 hv4 hv5 hK8 hZ8 hB8 hN8 hT8 hal7 hK7 hownt hb67 hb7 hs6 hs67 hsz8
      refine hK.out _ _ (fun _ => c08) (fun hS => ?_); clear hK K; replace hS := hS rfl; try (simp only [Act.put, pu1]; dsimp only [pu2, pu3])
      generalize hw8 : w7.alloc _ = W8 at *
      refine plan_do (by rfl) (by rfl) (fun K hK => ?_)
      refine wp_app (.tmp 94) (.tmp 100) 115 rfl w.heap.size 22 _ 1 24 Tryz.underlying115 info_bytesZ rfl (by decide) (.slice A s.texts.length cT) s.texts.length (vs.map Pt.val) rfl H8.out.2.1 (some ⟨w7.heap.size, 0, none⟩) 1 _ [.slice At N ct] rfl HSN.out (by simp [Value.oneCell']) (by unfold maxLen; omega) (by omega) (by rw [HSZ8.out]; exact hbase8) ?_
      intro v1 w9 hown9 hgr9 hat9 hnil9
      obtain ⟨A9, c9, rfl⟩ := own_shape hown9
      obtain ⟨hv1, hv2, hv3, hv4, hv5, hK8, hZ8, hB8, hN8, hT8⟩ := H8.out
      have hf9 := Fr.of_grown hgr9 (F := fun k => (Value.slice A s.texts.length cT).ownBlock = some k) (fun k h => h)
      have hK9 := hK8.fr hf9 (fun h => own_ne hv2 hK8 (by decide) _ h rfl)
      have hZ9 := hZ8.fr hf9 (fun h => own_ne hv2 hZ8 (by decide) _ h rfl)
      have hB9 := hB8.grown hgr9 (by rw [HSZ8.out]; exact hbase8) (fun k hk => (hv2.lt k hk).1)
      have hN9 := own_fr hN8 hf9 (fun g hg => own_ne2 hN8 hv2 (by decide) g hg)
      have hT9 := own_fr hT8 hf9 (fun g hg => own_ne2 hT8 hv2 (by decide) g hg)
      have hR9 : PzRows w9 w.heap.size A9 (s.texts.length + 1) c9 An cn (s.texts ++ [tx]) (sha (s.chain ++ tx)) := by
       refine ⟨vs ++ [⟨At, N, ct, tx⟩], by rw [List.length_append, hv1]; rfl, ?_, by rw [List.map_append, hv3]; rfl, fun p hp => ?_, hN9⟩
       ·rw [List.map_append]; exact hown9
       ·rcases List.mem_append.1 hp with hp | hp
        ·exact ⟨(hv4 p hp).1, own_fr (hv4 p hp).2 hf9 (fun g hg => own_ne2 (hv4 p hp).2 hv2 (by decide) g hg)⟩
        ·obtain rfl := List.mem_singleton.1 hp
         exact ⟨HTX.out.2, hT9⟩
      have H9 := Lh (Ai hR9 (Ai hK9 (Ai hZ9 hB9)))
      clear hown9 hgr9 hat9 hnil9 hv1 hv2 hv3 hv4 hv5 hK8 hZ8 hB8 hN8 hT8 hf9 hR9 hN9 hT9 hZ9 hB9 H8
      have d0 : w9.cell? ⟨w2.heap.size, 0, none⟩ = some (.slice A s.texts.length cT) := hK9.cell 0
      have d1 : w9.cell? ⟨w2.heap.size, 1, none⟩ = some (.slice C 32 cC) := hK9.cell 1
      have d3 : w9.cell? ⟨w2.heap.size, 3, none⟩ = some (.int .i64 s.used) := hK9.cell 3
      have g0 : w9.frozen? ⟨w2.heap.size, 0, none⟩ = false := hK9.frozen 0
      have g1 : w9.frozen? ⟨w2.heap.size, 1, none⟩ = false := hK9.frozen 1
      have g3 : w9.frozen? ⟨w2.heap.size, 3, none⟩ = false := hK9.frozen 3
      have hwuN : IntKind.i64.wrap ((s.used : Int) + ((N : Int) + 40)) = (s.used : Int) + ((N : Int) + 40) := IntWalk.i64_in _ (by omega)
      clear hK9 c0 c1 c2 c3 c07 c08 hS
      refine hK.out _ _ (fun h => by cases h) (fun _ => ?_); clear hK K; try (simp only [Act.put, pu1]; dsimp only [pu2, pu3])
      have hS := d0
      repeat (first
       | (refine plan_read (v := ?_) rfl (fun _ _ _ h => h) rfl hS ?_ ?_; rotate_left 1; (focus (intro w' hS'; go_simp; try rfl)); (simp only [Act.put, pu1]; dsimp only [pu2, pu3]))
       | (refine plan_skip rfl (fun _ _ _ h => h) rfl hS ?_; (simp only [Act.put, pu1]; dsimp only [pu2, pu3])))
      refine plan_do (by rfl) (by rfl) (fun K hK => ?_)
      go_simp
      refine hK.out _ _ (fun h => by cases h) (fun _ => ?_); clear hK K; try (simp only [Act.put, pu1]; dsimp only [pu2, pu3])
      refine plan_nil ?_
      go_wp2_with fail
      have hW : ∃ W', W' = ((w9.setCell ⟨w2.heap.size, 0, none⟩ (.slice A9 (s.texts.length + 1) c9)).setCell ⟨w2.heap.size, 1, none⟩ (.slice An 32 cn)).setCell ⟨w2.heap.size, 3, none⟩ (.int .i64 ((s.used : Int) + ((N : Int) + 40))) := ⟨_, rfl⟩
      obtain ⟨W', hW'⟩ := hW
      have hfrP : Fr (· = w2.heap.size) w9 W' := by
       rw [hW']
       exact ((show Fr (· = w2.heap.size) w9 _ from Fr.setCell w9 ⟨w2.heap.size, 0, none⟩ _ rfl).trans (show Fr (· = w2.heap.size) _ _ from Fr.setCell _ ⟨w2.heap.size, 1, none⟩ _ rfl) (fun _ _ h => h)).trans (show Fr (· = w2.heap.size) _ _ from Fr.setCell _ ⟨w2.heap.size, 3, none⟩ _ rfl) (fun _ _ h => h)
      have hKW : Blk W' w2.heap.size 229 #[.slice A9 (s.texts.length + 1) c9, .slice An 32 cn, .bool s.sealed_, .int .i64 ((s.used : Int) + ((N : Int) + 40))] := by
       rw [hW']
       exact ((H9.out.2.1.set_ 0 (.slice A9 (s.texts.length + 1) c9)).set_ 1 (.slice An 32 cn)).set_ 3 (.int .i64 ((s.used : Int) + ((N : Int) + 40)))
      have hZW : Blk W' w.heap.size 229 #[.slice none 0 0, .slice none 0 0, .bool false, .int .i64 0] := H9.out.2.2.1.fr hfrP HNE.out
      have hBW : Below w.heap.size w W' := by
       rw [hW']
       exact ((H9.out.2.2.2.setCell (by show w.heap.size <= w2.heap.size; exact HH.out.2.2.2) _).setCell (by show w.heap.size <= w2.heap.size; exact HH.out.2.2.2) _).setCell (by show w.heap.size <= w2.heap.size; exact HH.out.2.2.2) _
      have hRW := H9.out.1.other H9.out.2.1 hfrP
      have hlen1 : (s.texts ++ [tx]).length = s.texts.length + 1 := by rw [List.length_append]; rfl
      have h31 : W'.cell? ⟨w2.heap.size, 3, none⟩ = some (.int .i64 ((s.used : Int) + ((N : Int) + 40))) := hKW.cell 3
      have hun9 := HH.out.2.1
      have htl9 := HH.out.2.2.1
      rw [<- hW']
      refine ⟨⟨⟨s.texts ++ [tx], sha (s.chain ++ tx), s.sealed_, s.used + (N + 40)⟩, f, HZN.out.symm.trans HH.out.1, by show n < s.used + (N + 40) + f; omega, by show s.used + (N + 40) <= n; omega, sha_length _, ?_, ⟨A9, c9, An, cn, ?_, HH.out.2.2.2, ?_⟩, hZW, hBW⟩, ?_⟩
      ·show (s.texts ++ [tx]).length <= s.used + (N + 40)
       omega
      ·show Blk W' w2.heap.size 229 #[.slice A9 (s.texts ++ [tx]).length c9, .slice An 32 cn, .bool s.sealed_, .int .i64 ((s.used + (N + 40) : Nat) : Int)]
       rw [hlen1]
       have e : ((s.used + (N + 40) : Nat) : Int) = (s.used : Int) + ((N : Int) + 40) := by omega
       rw [e]
       exact hKW
      ·show PzRows W' w.heap.size A9 (s.texts ++ [tx]).length c9 An cn (s.texts ++ [tx]) (sha (s.chain ++ tx))
       rw [hlen1]
       exact hRW
      ·rw [h31, HC3.out]
       show n - ((s.used : Int) + ((N : Int) + 40)).toNat < n - (s.used : Int).toNat
       omega
     ·have h32 : pref (b.drop s.used) (frm s.chain tx) = false := by simpa using h3
      rw [h32] at HG6
      have HZN := Lh (pz_other b k f s HNB.out.1 HNB.out.2 (by rw [<- HTX.out.1]; exact h32))
      clear h3 h32
      go_wp2_with fail
      refine HG6.out.mono ?_
      rintro e w' ⟨rfl, rfl⟩
      go_wp2_with (have hzz := HX6.out.2.2.1; refine wpList_store_row rfl 229 (.tmp 8) (.tmp 92) rfl w.heap.size _ rfl rfl 229 _ hzz (by exact HSZ.out) (Eq.refl 4) (by simp [Value.oneCell']) ?_)
      refine bodyPost_ret (results_row_tmp rfl _ _ w.heap.size 229 _ (0, 0) _ rfl (HX6.out.2.2.1.setRow _) Tryz.underlying229 rfl (by exact HSZ.out)) rfl ?_
      have hpz := HH.out.1
      rw [HZN.out] at hpz
      exact ⟨_, rfl, ⟨A, cT, C, cC, by rw [<- hpz]; rfl, by rw [<- hpz]; exact HX6.out.2.1.other HX6.out.2.2.1 (Fr.setRow _ w.heap.size _ rfl)⟩, below_setRow HX6.out.2.2.2.1 (Nat.le_refl _) _⟩
end Go.Proofs.YtkgaeoeibjoljaaGreatDoor
