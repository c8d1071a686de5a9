/-
  Append.
-/
import Derived.Test.YtkgaeoeibjoljaaGreatDoorGM
import Derived.Test.YtkgaeoeibjoljaaGreatDoorGO
import Derived.Deep.DeepCutAuto
namespace Go.Proofs.YtkgaeoeibjoljaaGreatDoor
set_option maxRecDepth 4000
open Go.RowKit
theorem Lg.Ok.put {s : Lg} (h : s.Ok) {x : List UInt8} (hx : s.used + x.length <= s.n) : (s.put x).Ok := by
 have h1 := h.last
 have h3 : (s.last + 1) * s.n <= s.segs * s.n := Nat.mul_le_mul_right _ h1
 rw [Nat.add_mul] at h3
 have h4 := h.oct
 refine ⟨h.segs, h.size, h.last, hx, h.clean, ?_, h.many, h.chain, h.sure⟩
 show (splice s.B s.end_ x).length = s.all
 rw [length_splice _ _ _ (by rw [h4]; unfold Lg.all Lg.end_; omega), h4]
theorem Lg.Ok.begin_ {s : Lg} (h : s.Ok) {k : Nat} (hk : k < s.segs) : (s.begin_ k).Ok := by
 have h1 := h.n_le
 exact (h.begun hk).put (by rw [hd_len' _ _ _ h.chain]; show 0 + 128 <= s.n; omega)
theorem Lg.Ok.put_fit {s : Lg} (h : s.Ok) {m : Nat} (hx : s.used + m <= s.n) : s.end_ + m <= s.all := by
 have h1 := h.last
 have h3 : (s.last + 1) * s.n <= s.segs * s.n := Nat.mul_le_mul_right _ h1
 rw [Nat.add_mul] at h3
 unfold Lg.all Lg.end_
 omega
structure Lg.Room (s : Lg) (m : Nat) : Prop where
 ok : (s.room m).Ok
 fit : (s.room m).used + m + 88 <= s.n
 one : 1 <= m
 most : m <= 65535
 n : (s.room m).n = s.n
 texts : (s.room m).texts = s.texts
 chain : (s.room m).chain = s.chain
theorem Lg.fits_iff {s : Lg} {m : Nat} : s.fits m = true ↔ 0 < s.used /\ s.sealed_ = false /\ fitsF s.n s.used m = true := by
 unfold Lg.fits
 simp [and_assoc]
theorem Lg.Ok.room {s : Lg} (h : s.Ok) {m : Nat} (hf : s.sealed_ = false -> s.used + 48 <= s.n) (he : s.err m = 0) : s.Room m := by
 unfold Lg.err at he
 split at he
 ·omega
 ·split at he
  ·omega
  ·rename_i h1 h2
   have hf2 := fitsF_iff.1 (by simpa using h2)
   split at he
   ·omega
   ·rename_i h3
    have hn := h.n_le
    have hc := h.chain
    by_cases h4 : s.used = 0
    ·have hr : s.room m = s.begin_ 0 := by unfold Lg.room; rw [if_pos h4]
     have hu : (s.begin_ 0).used = 128 := by show 0 + (hd 0 s.texts.length s.chain).length = 128; rw [hd_len' _ _ _ hc]
     exact ⟨by rw [hr]; exact h.begin_ (by have := h.segs; omega), by rw [hr, hu]; omega, hf2.1, hf2.2.1, by rw [hr]; rfl, by rw [hr]; rfl, by rw [hr]; rfl⟩
    ·by_cases h5 : s.sealed_ = true
     ·have hr : s.room m = s.begin_ (s.last + 1) := by unfold Lg.room; rw [if_neg h4, if_pos h5]
      have hu : (s.begin_ (s.last + 1)).used = 128 := by show 0 + (hd _ s.texts.length s.chain).length = 128; rw [hd_len' _ _ _ hc]
      have hl : s.last + 1 < s.segs := by
       have := h.last
       have : ¬ (s.last + 1 = s.segs) := fun e => h3 ⟨by omega, by unfold Lg.fits; rw [h5]; simp, e⟩
       omega
      exact ⟨by rw [hr]; exact h.begin_ hl, by rw [hr, hu]; omega, hf2.1, hf2.2.1, by rw [hr]; rfl, by rw [hr]; rfl, by rw [hr]; rfl⟩
     ·have h5' : s.sealed_ = false := by simpa using h5
      by_cases h6 : s.fits m = false
      ·have hr : s.room m = (s.put (ft s.texts.length s.chain)).begin_ (s.last + 1) := by unfold Lg.room; rw [if_neg h4, h5', if_neg (by simp), if_pos h6]
       have hu : ((s.put (ft s.texts.length s.chain)).begin_ (s.last + 1)).used = 128 := by show 0 + (hd _ s.texts.length s.chain).length = 128; rw [hd_len' _ _ _ hc]
       have hl : s.last + 1 < s.segs := by
        have := h.last
        have : ¬ (s.last + 1 = s.segs) := fun e => h3 ⟨by omega, h6, e⟩
        omega
       have hp : (s.put (ft s.texts.length s.chain)).Ok := h.put (by rw [ft_length, hc]; exact hf h5')
       exact ⟨by rw [hr]; exact hp.begin_ hl, by rw [hr, hu]; omega, hf2.1, hf2.2.1, by rw [hr]; rfl, by rw [hr]; rfl, by rw [hr]; rfl⟩
      ·have h6' : s.fits m = true := by simpa using h6
       have hr : s.room m = s := by unfold Lg.room; rw [if_neg h4, h5', if_neg (by simp), if_neg h6]
       have h7 := fitsF_iff.1 (Lg.fits_iff.1 h6').2.2
       exact ⟨by rw [hr]; exact h, by rw [hr]; exact h7.2.2, hf2.1, hf2.2.1, by rw [hr], by rw [hr], by rw [hr]⟩
theorem Lg.Room.append {s : Lg} {t : List UInt8} (h : s.Room t.length) (hm : s.texts.length + 1 <= 100000000) : (s.append t).Ok := by
 have hp : ((s.room t.length).put (frm (s.room t.length).chain t)).Ok := h.ok.put (by rw [frm_length, h.n]; have := h.fit; omega)
 refine ⟨hp.segs, hp.size, hp.last, hp.used, hp.clean, hp.oct, ?_, sha_length _, hp.sure⟩
 show ((s.room t.length).texts ++ [t]).length <= 100000000
 rw [h.texts, List.length_append]
 exact hm
set_option maxHeartbeats 8000000 in
theorem append_any (lb b f : Nat) (s : Lg) (bg cB : Nat) (A : Option Addr) (cT : Nat) (C : Option Addr) (cC : Nat) (vs : List Pt) (K0 : Nat -> Prop) (t : List UInt8) (X : Option Addr) (m c : Nat) (w : World) (h : LgP w lb b f s bg cB A cT C cC vs K0) (hok : s.Ok) (hfoot : s.sealed_ = false -> s.used + 48 <= s.n) (hm : s.texts.length + 1 <= 100000000)
  (hS : Sees w 1 X m (u8s t)) (htm : t.length = m) (hmx : m <= maxLen) (hXK : 0 < m -> ∀ a, X = some a -> ¬ K0 a.block) (hT : Tab w) (hKT : ∀ k, K0 k -> k ≠ 3 /\ k ≠ 2) (hKlt : ∀ k, K0 k -> k < w.heap.size) :
  Calls Tryz.prog 54 #[.pointer (some ⟨lb, 0, none⟩), .slice X m c] w fun e w' => (s.err m ≠ 0 -> (∃ g, e = .returned (.iface 110 (.pointer (some ⟨g, 0, none⟩)))) /\ Below w.heap.size w w') /\
   (s.err m = 0 -> e = .returned Value.nilIface /\ Fr K0 w w' /\ ∃ A cT C cC vs, LgP w' lb b f (s.append t) bg cB A cT C cC vs (fun k => K0 k \/ w.heap.size <= k)) := by
 have hal := hok.all_le
 have hn := hok.n_le
 have hlst := hok.last
 have hsg := hok.segs
 have hsz := hok.size
 have hus := hok.used
 have hmx' := hmx
 unfold maxLen at hmx
 obtain ⟨N, hN⟩ : ∃ N, N = s.n := ⟨_, rfl⟩
 obtain ⟨T, hTl⟩ : ∃ T, T = s.texts.length := ⟨_, rfl⟩
 obtain ⟨sg, hSG⟩ : ∃ m, m = s.segs := ⟨_, rfl⟩
 obtain ⟨sz, hSZ⟩ : ∃ m, m = s.size := ⟨_, rfl⟩
 obtain ⟨la, hLA⟩ : ∃ m, m = s.last := ⟨_, rfl⟩
 obtain ⟨us, hUS⟩ : ∃ m, m = s.used := ⟨_, rfl⟩
 obtain ⟨se, hSE⟩ : ∃ m, m = s.sealed_ := ⟨_, rfl⟩
 obtain ⟨de, hDE⟩ : ∃ m, m = s.dead := ⟨_, rfl⟩
 have hO := fun w => octets_any (.pointer (some ⟨b, 0, none⟩)) f sg sz w (by omega)
 have hNz : sz * 128 = N := by rw [hN, hSZ]; rfl
 rw [hNz] at hO
 have HO := Lh hO
 have HF1 := Lh (fun w => fits_any N 128 m (by omega) (by omega) hmx' w)
 have HF2 := Lh (fun w => fits_any N us m (by omega) (by omega) hmx' w)
 obtain ⟨E1, hE1⟩ : ∃ E, E = fitsF N 128 m := ⟨_, rfl⟩
 obtain ⟨G2, hG2⟩ : ∃ E, E = fitsF N us m := ⟨_, rfl⟩
 obtain ⟨F2, hF2⟩ : ∃ E, E = s.fits m := ⟨_, rfl⟩
 have hF2' : F2 = (decide (0 < us) && !se && G2) := by rw [hF2, hG2, hSE, hN, hUS]; rfl
 have herr : s.err m = if de = true then 22 else if E1 = false then 11 else if 0 < us /\ F2 = false /\ la + 1 = sg then 21 else 0 := by
  unfold Lg.err; rw [<- hDE, <- hN, <- hE1, <- hUS, <- hF2, <- hLA, <- hSG]
 rw [<- hE1] at HF1
 rw [<- hG2] at HF2
 obtain ⟨ER, hER⟩ : ∃ e, e = s.err m := ⟨_, rfl⟩
 rw [<- hER] at herr ⊢
 have hroom : ER = 0 -> s.Room m := fun e => hok.room hfoot (by rw [<- hER]; exact e)
 have e5 : w.cell? ⟨lb, 0, none⟩ = some (.pointer (some ⟨b, 0, none⟩)) := h.top.cell 0
 have HCELLS : Hid (∀ W, LgP W lb b f s bg cB A cT C cC vs K0 -> W.cell? ⟨lb, 0, none⟩ = some (.pointer (some ⟨b, 0, none⟩)) /\ W.cell? ⟨lb, 1, none⟩ = some (.int .i64 f) /\ W.cell? ⟨lb, 2, none⟩ = some (.int .i64 sg) /\ W.cell? ⟨lb, 3, none⟩ = some (.int .i64 sz) /\ W.cell? ⟨lb, 5, none⟩ = some (.int .i64 la) /\ W.cell? ⟨lb, 6, none⟩ = some (.int .i64 us) /\
   W.cell? ⟨lb, 8, none⟩ = some (.slice A T cT) /\ W.cell? ⟨lb, 9, none⟩ = some (.slice C 32 cC) /\ W.cell? ⟨lb, 11, none⟩ = some (.bool se) /\ W.cell? ⟨lb, 12, none⟩ = some (.bool de)) := Lh (fun W hW => by
  rw [hSG, hSZ, hLA, hUS, hTl, hSE, hDE]
  exact ⟨hW.top.cell 0, hW.top.cell 1, hW.top.cell 2, hW.top.cell 3, hW.top.cell 5, hW.top.cell 6, hW.top.cell 8, hW.top.cell 9, hW.top.cell 11, hW.top.cell 12⟩)
 have HFAIL : Hid (∀ (W : World) (n : Nat), LgP W lb b f s bg cB A cT C cC vs K0 -> n ≠ 0 -> n <= 1000 -> Calls Tryz.prog 89 #[.pointer (some ⟨lb, 0, none⟩), .int .i64 n] W fun e w' => (∃ g, e = .returned (.iface 110 (.pointer (some ⟨g, 0, none⟩)))) /\ Below W.heap.size W w') :=
  Lh (fun W n hW h1 h2 => fail_any lb b f s.segs s.size _ s.last s.used s.clean A s.texts.length cT _ s.sure s.sealed_ s.dead n W hW.top (by omega) h1 h2)
 have HKlt := Lh hKlt
 have HSP := Lh (Ai hS (Ai htm (Ai hXK (Ai hT hKT))))
 have HOK := Lh (Ai hok (Ai hfoot (Ai hm hroom)))
 have HH := Lh h
 have HN := Lh (Ai hN (Ai hTl (Ai hSG (Ai hLA (Ai hUS (Ai hSE (Ai hF2 (Ai hER (Ai hDE hSZ)))))))))
 obtain ⟨c0, c1, c2, c3, -, c6, -, -, c11, c12⟩ := HCELLS.out w h
 have husb : us <= 65536 := by omega
 have hlab : la <= 256 := by omega
 have hsgb : sg <= 256 := by omega
 have herr := Lh herr
 have hwl : IntKind.i64.wrap ((la : Int) + 1) = (la : Int) + 1 := IntWalk.i64_in _ (by omega)
 have hws : IntKind.i64.wrap (sg : Int) = (sg : Int) := IntWalk.i64_in _ (by omega)
 have HF2' := Lh hF2'
 clear h hok hfoot hm hS htm hmx' hXK hT hKT hal hn hlst hsg hsz hus hN hTl hSG hSZ hLA hUS hSE hDE hO hNz hE1 hG2 hF2 hF2' hER hroom e5 hKlt
 go_enter Tryz.func54, Tryz.ntmps54
 go_wp2_with fail
 refine (HO.out _).mono ?_
 rintro e w1 ⟨rfl, bel1⟩
 have H1 := Lh (Ai (HH.out.below bel1) bel1)
 clear bel1 c0 c1 c2 c3 c6 c11 c12
 go_wp2_with fail
 refine (HF1.out _).mono ?_
 rintro e w1' ⟨rfl, rfl⟩
 go_upto_region 2 with fail
 go_cut [6] (fun x wc => x = .bool F2 /\ Hid (LgP wc lb b f s bg cB A cT C cC vs K0 /\ Below w.heap.size w wc))
 case first =>
  by_cases hu0 : us = 0
  ·subst hu0
   have hF : F2 = false := by rw [HF2'.out]; rfl
   refine region_fast [(0, true), (1, true), (2, true), (3, true), (4, true), (5, true), (6, true), (7, true), (8, true), (9, true), (10, true), (11, true), (12, true), (13, true), (14, true), (15, true), (16, true), (18, true), (19, true), (20, true), (21, true), (22, true), (23, true), (17, false), (24, false), (25, true), (26, true)] [17, 18, 19, 20, 21, 22, 23] 16646144 [(131072, 1, 0, 0), (262144, 131072, 1, 1), (524288, 262144, 2, 3), (1048576, 524288, 4, 7), (2097152, 1048576, 8, 15), (4194304, 2097152, 16, 31), (8388608, 4194305, 32, 63), (16777216, 12582912, 96, 127), (33554432, 20971520, 160, 255), (67108864, 37748736, 288, 511), (134217728, 71303168, 544, 1023), (268435456, 138412032, 1056, 2047), (536870912, 268435456, 2080, 4095), (1073741824, 536870913, 4096, 8191), (2147483648, 1610612736, 12288, 16383), (4294967296, 2684354560, 20480, 32767), (8589934592, 4831838208, 36864, 65535), (17179869184, 9126805504, 69632, 131071), (34359738368, 536870913, 4096, 8191), (68719476736, 34896609280, 266240, 270335), (137438953472, 69256347648, 528384, 794623), (274877906944, 137975824384, 1052672, 1843199), (549755813888, 536870914, 4096, 8191), (1099511627776, 550292684800, 4198400, 4202495), (2199023255552, 1392106274816, 10620928, 16777215), (4398046511104, 2199560126464, 16781312, 33554431), (64, 4398046511104, 67108863, 67108863)] (fun W => W = w1.drew) (by kernel_rfl) (by kernel_rfl) (by kernel_rfl) rfl (by kernel_rfl) (by kernel_rfl) rfl (fun hS => ?_)
   repeat (first
    | (refine plan_read (v := ?_) rfl (fun _ _ _ h => h) rfl hS ?_ ?_; rotate_left 1; (focus (intro w' hS'; subst hS'; obtain ⟨q0, q1, q2, q3, q5, q6, q8, q9, q11, q12⟩ := HCELLS.out w1.drew (H1.out.1.below (Below.refl _ _).drew); go_simp; try rfl)); (simp only [Act.put, pu1]; dsimp only [pu2, pu3]))
    | (refine plan_skip rfl (fun _ _ _ h => h) rfl hS ?_; (simp only [Act.put, pu1]; dsimp only [pu2, pu3])))
   refine plan_pass (by rfl) (by rfl) ((fun _ => rfl)) ?_; try (simp only [Act.put, pu1]; dsimp only [pu2, pu3])
   repeat (first
    | (refine plan_read (v := ?_) rfl (fun _ _ _ h => h) rfl hS ?_ ?_; rotate_left 1; (focus (intro w' hS'; subst hS'; obtain ⟨q0, q1, q2, q3, q5, q6, q8, q9, q11, q12⟩ := HCELLS.out w1.drew (H1.out.1.below (Below.refl _ _).drew); go_simp; try rfl)); (simp only [Act.put, pu1]; dsimp only [pu2, pu3]))
    | (refine plan_skip rfl (fun _ _ _ h => h) rfl hS ?_; (simp only [Act.put, pu1]; dsimp only [pu2, pu3])))
   refine plan_pass (by rfl) (by rfl) ((fun _ => rfl)) ?_; try (simp only [Act.put, pu1]; dsimp only [pu2, pu3])
   repeat (first
    | (refine plan_read (v := ?_) rfl (fun _ _ _ h => h) rfl hS ?_ ?_; rotate_left 1; (focus (intro w' hS'; subst hS'; obtain ⟨q0, q1, q2, q3, q5, q6, q8, q9, q11, q12⟩ := HCELLS.out w1.drew (H1.out.1.below (Below.refl _ _).drew); go_simp; try rfl)); (simp only [Act.put, pu1]; dsimp only [pu2, pu3]))
    | (refine plan_skip rfl (fun _ _ _ h => h) rfl hS ?_; (simp only [Act.put, pu1]; dsimp only [pu2, pu3])))
   refine plan_nil ?_
   go_wp2_with fail
   go_meet
   exact ⟨by rw [hF], Lh ⟨H1.out.1.below (Below.refl _ _).drew, H1.out.2.drew⟩⟩
  ·have hui : (0 : Int) < (us : Int) := by omega
   have huN : 0 < us := by omega
   have hu1 : ¬ us = 0 := by omega
   cases se with
   | true =>
    have hF : F2 = false := by rw [HF2'.out]; simp
    refine region_fast [(0, true), (1, true), (2, true), (3, true), (4, true), (5, true), (6, true), (7, true), (8, true), (9, true), (10, true), (11, true), (12, true), (13, true), (14, true), (15, true), (16, true), (18, true), (19, true), (20, true), (21, true), (22, true), (23, true), (17, false), (24, false), (25, true), (26, true)] [17, 18, 19, 20, 21, 22, 23] 16646144 [(131072, 1, 0, 0), (262144, 131072, 1, 1), (524288, 262144, 2, 3), (1048576, 524288, 4, 7), (2097152, 1048576, 8, 15), (4194304, 2097152, 16, 31), (8388608, 4194305, 32, 63), (16777216, 12582912, 96, 127), (33554432, 20971520, 160, 255), (67108864, 37748736, 288, 511), (134217728, 71303168, 544, 1023), (268435456, 138412032, 1056, 2047), (536870912, 268435456, 2080, 4095), (1073741824, 536870913, 4096, 8191), (2147483648, 1610612736, 12288, 16383), (4294967296, 2684354560, 20480, 32767), (8589934592, 4831838208, 36864, 65535), (17179869184, 9126805504, 69632, 131071), (34359738368, 536870913, 4096, 8191), (68719476736, 34896609280, 266240, 270335), (137438953472, 69256347648, 528384, 794623), (274877906944, 137975824384, 1052672, 1843199), (549755813888, 536870914, 4096, 8191), (1099511627776, 550292684800, 4198400, 4202495), (2199023255552, 1392106274816, 10620928, 16777215), (4398046511104, 2199560126464, 16781312, 33554431), (64, 4398046511104, 67108863, 67108863)] (fun W => W = w1.drew) (by kernel_rfl) (by kernel_rfl) (by kernel_rfl) rfl (by kernel_rfl) (by kernel_rfl) rfl (fun hS => ?_)
    repeat (first
     | (refine plan_read (v := ?_) rfl (fun _ _ _ h => h) rfl hS ?_ ?_; rotate_left 1; (focus (intro w' hS'; subst hS'; obtain ⟨q0, q1, q2, q3, q5, q6, q8, q9, q11, q12⟩ := HCELLS.out w1.drew (H1.out.1.below (Below.refl _ _).drew); go_simp; try rfl)); (simp only [Act.put, pu1]; dsimp only [pu2, pu3]))
     | (refine plan_skip rfl (fun _ _ _ h => h) rfl hS ?_; (simp only [Act.put, pu1]; dsimp only [pu2, pu3])))
    refine plan_pass (by rfl) (by rfl) ((fun _ => rfl)) ?_; try (simp only [Act.put, pu1]; dsimp only [pu2, pu3])
    repeat (first
     | (refine plan_read (v := ?_) rfl (fun _ _ _ h => h) rfl hS ?_ ?_; rotate_left 1; (focus (intro w' hS'; subst hS'; obtain ⟨q0, q1, q2, q3, q5, q6, q8, q9, q11, q12⟩ := HCELLS.out w1.drew (H1.out.1.below (Below.refl _ _).drew); go_simp; try rfl)); (simp only [Act.put, pu1]; dsimp only [pu2, pu3]))
     | (refine plan_skip rfl (fun _ _ _ h => h) rfl hS ?_; (simp only [Act.put, pu1]; dsimp only [pu2, pu3])))
    refine plan_pass (by rfl) (by rfl) ((fun _ => rfl)) ?_; try (simp only [Act.put, pu1]; dsimp only [pu2, pu3])
    repeat (first
     | (refine plan_read (v := ?_) rfl (fun _ _ _ h => h) rfl hS ?_ ?_; rotate_left 1; (focus (intro w' hS'; subst hS'; obtain ⟨q0, q1, q2, q3, q5, q6, q8, q9, q11, q12⟩ := HCELLS.out w1.drew (H1.out.1.below (Below.refl _ _).drew); go_simp; try rfl)); (simp only [Act.put, pu1]; dsimp only [pu2, pu3]))
     | (refine plan_skip rfl (fun _ _ _ h => h) rfl hS ?_; (simp only [Act.put, pu1]; dsimp only [pu2, pu3])))
    refine plan_nil ?_
    go_wp2_with fail
    go_meet
    exact ⟨by rw [hF], Lh ⟨H1.out.1.below (Below.refl _ _).drew, H1.out.2.drew⟩⟩
   | false =>
    have hF : F2 = G2 := by rw [HF2'.out, decide_eq_true (by omega : 0 < us)]; simp
    refine region_fast [(0, true), (1, true), (2, true), (3, true), (4, true), (5, true), (6, true), (7, true), (8, true), (9, true), (10, true), (11, true), (12, true), (13, true), (14, true), (15, true), (16, true), (18, true), (19, true), (20, true), (21, true), (22, true), (23, true), (17, false), (24, false), (25, true), (26, true)] [17, 18, 19, 20, 21, 22, 23] 16646144 [(131072, 1, 0, 0), (262144, 131072, 1, 1), (524288, 262144, 2, 3), (1048576, 524288, 4, 7), (2097152, 1048576, 8, 15), (4194304, 2097152, 16, 31), (8388608, 4194305, 32, 63), (16777216, 12582912, 96, 127), (33554432, 20971520, 160, 255), (67108864, 37748736, 288, 511), (134217728, 71303168, 544, 1023), (268435456, 138412032, 1056, 2047), (536870912, 268435456, 2080, 4095), (1073741824, 536870913, 4096, 8191), (2147483648, 1610612736, 12288, 16383), (4294967296, 2684354560, 20480, 32767), (8589934592, 4831838208, 36864, 65535), (17179869184, 9126805504, 69632, 131071), (34359738368, 536870913, 4096, 8191), (68719476736, 34896609280, 266240, 270335), (137438953472, 69256347648, 528384, 794623), (274877906944, 137975824384, 1052672, 1843199), (549755813888, 536870914, 4096, 8191), (1099511627776, 550292684800, 4198400, 4202495), (2199023255552, 1392106274816, 10620928, 16777215), (4398046511104, 2199560126464, 16781312, 33554431), (64, 4398046511104, 67108863, 67108863)] (fun W => LgP W lb b f s bg cB A cT C cC vs K0 /\ Below w.heap.size w W) (by kernel_rfl) (by kernel_rfl) (by kernel_rfl) rfl (by kernel_rfl) (by kernel_rfl) ⟨H1.out.1.below (Below.refl _ _).drew, H1.out.2.drew⟩ (fun hS => ?_)
    repeat (first
     | (refine plan_read (v := ?_) rfl (fun _ _ _ h => h) rfl hS ?_ ?_; rotate_left 1; (focus (intro w' hS'; obtain ⟨q0, q1, q2, q3, q5, q6, q8, q9, q11, q12⟩ := HCELLS.out _ hS'.1; go_simp; try rfl)); (simp only [Act.put, pu1]; dsimp only [pu2, pu3]))
     | (refine plan_skip rfl (fun _ _ _ h => h) rfl hS ?_; (simp only [Act.put, pu1]; dsimp only [pu2, pu3])))
    refine plan_do (by rfl) (by rfl) (fun K hK => ?_)
    go_simp
    refine (HO.out _).mono ?_
    rintro e w2 ⟨rfl, bel2⟩
    refine hK.out _ _ (fun _ => ⟨hS.1.below bel2, hS.2.trans (bel2.mono hS.2.size)⟩) (fun hS => ?_); clear hK K; replace hS := hS rfl; try (simp only [Act.put, pu1]; dsimp only [pu2, pu3])
    repeat (first
     | (refine plan_read (v := ?_) rfl (fun _ _ _ h => h) rfl hS ?_ ?_; rotate_left 1; (focus (intro w' hS'; obtain ⟨q0, q1, q2, q3, q5, q6, q8, q9, q11, q12⟩ := HCELLS.out _ hS'.1; go_simp; try rfl)); (simp only [Act.put, pu1]; dsimp only [pu2, pu3]))
     | (refine plan_skip rfl (fun _ _ _ h => h) rfl hS ?_; (simp only [Act.put, pu1]; dsimp only [pu2, pu3])))
    refine plan_do (by rfl) (by rfl) (fun K hK => ?_)
    go_simp
    refine (HF2.out _).mono ?_
    rintro e w3 ⟨rfl, rfl⟩
    have hS2 := hS
    refine hK.out _ _ (fun h => by cases h) (fun _ => ?_); clear hK K; try (simp only [Act.put, pu1]; dsimp only [pu2, pu3])
    repeat (first
     | (refine plan_read (v := ?_) rfl (fun _ _ _ h => h) rfl hS ?_ ?_; rotate_left 1; (focus (intro w' hS'; obtain ⟨q0, q1, q2, q3, q5, q6, q8, q9, q11, q12⟩ := HCELLS.out _ hS'.1; go_simp; try rfl)); (simp only [Act.put, pu1]; dsimp only [pu2, pu3]))
     | (refine plan_skip rfl (fun _ _ _ h => h) rfl hS ?_; (simp only [Act.put, pu1]; dsimp only [pu2, pu3])))
    refine plan_nil ?_
    go_wp2_with fail
    go_meet
    exact ⟨by rw [hF], Lh hS2⟩
 case rest =>
  obtain ⟨rfl, H2⟩ := hcut
  clear H1
  obtain ⟨c0, c1, c2, c3, c5, c6, c8, c9, c11, c12⟩ := HCELLS.out _ H2.out.1
  cases de with
  | true =>
   have hE : ER = 22 := by rw [herr.out]; rfl
   have HFL := Lh (HFAIL.out wc 22 H2.out.1 (by decide) (by decide))
   clear c0 c1 c2 c3 c5 c6 c8 c9 c11
   go_wp2_with fail
   refine HFL.out.mono ?_
   rintro e w3 ⟨⟨g, rfl⟩, bel3⟩
   go_wp2_with fail
   go_ret
   exact ⟨fun _ => ⟨⟨g, rfl⟩, H2.out.2.trans (bel3.mono H2.out.2.size)⟩, fun h0 => by omega⟩
  | false =>
   cases E1 with
   | false =>
    have hE : ER = 11 := by rw [herr.out]; rfl
    have HFL := Lh (HFAIL.out wc 11 H2.out.1 (by decide) (by decide))
    clear c0 c1 c2 c3 c5 c6 c8 c9 c11
    go_wp2_with fail
    refine HFL.out.mono ?_
    rintro e w3 ⟨⟨g, rfl⟩, bel3⟩
    go_wp2_with fail
    go_ret
    exact ⟨fun _ => ⟨⟨g, rfl⟩, H2.out.2.trans (bel3.mono H2.out.2.size)⟩, fun h0 => by omega⟩
   | true =>
    have hE : ER = if 0 < us /\ F2 = false /\ la + 1 = sg then 21 else 0 := by rw [herr.out]; rfl
    replace hE := Lh hE
    have H2d := Lh (Ai (H2.out.1.below (Below.refl _ _).drew) H2.out.2.drew)
    clear c0 c1 c2 c3 c5 c6 c8 c9 c11
    go_upto_region 7 with fail
    clear c12
    go_cut [55] (fun x wd => x = .bool (decide (0 < us /\ F2 = false /\ la + 1 = sg)) /\ wd = wc.drew)
    case first =>
     by_cases hu0 : us = 0
     ·subst hu0
      refine region_fast [(0, true), (1, true), (2, true), (3, true), (4, true), (5, true), (6, true), (7, true), (8, true), (9, true), (10, true), (11, true), (12, true), (13, true), (14, true), (15, true), (16, true), (17, true), (18, true), (19, true), (20, true), (21, true), (22, true)] [15, 16, 17, 18, 19] 1015808 [(72057594037927936, 1, 0, 0), (144115188075855872, 72057594037927936, 1, 1), (288230376151711744, 144115188075855872, 2, 3), (576460752303423488, 288230376151711744, 4, 7), (1152921504606846976, 576460752303423488, 8, 15), (2305843009213693952, 1152921504606846976, 16, 31), (4611686018427387904, 2305843009213694016, 32, 63), (9223372036854775808, 6917529027641081856, 96, 127), (18446744073709551616, 11529215046068469760, 160, 255), (36893488147419103232, 18446744073709551616, 288, 511), (73786976294838206464, 36893488147419103233, 512, 1023), (147573952589676412928, 110680464442257309696, 1536, 2047), (295147905179352825856, 184467440737095516160, 2560, 4095), (590295810358705651712, 332041393326771929088, 4608, 8191), (1180591620717411303424, 627189298506124754944, 8704, 16383), (2361183241434822606848, 36893488147419103233, 512, 1023), (4722366482869645213696, 2398076729582241710080, 33280, 33791), (9444732965739290427392, 4759259971017064316928, 66048, 99327), (18889465931478580854784, 9481626453886709530624, 131584, 230399), (37778931862957161709568, 18926359419625999958016, 262656, 492543), (75557863725914323419136, 38996416971821992116224, 541184, 1048575), (151115727451828646838272, 75594757214061742522368, 1049088, 2097151), (36028797018963968, 151115727451828646838272, 2097664, 4194303)] (fun W => W = wc.drew) (by kernel_rfl) (by kernel_rfl) (by kernel_rfl) rfl (by kernel_rfl) (by kernel_rfl) rfl (fun hS => ?_)
      repeat (first
       | (refine plan_read (v := ?_) rfl (fun _ _ _ h => h) rfl hS ?_ ?_; rotate_left 1; (focus (intro w' hS'; subst hS'; obtain ⟨q0, q1, q2, q3, q5, q6, q8, q9, q11, q12⟩ := HCELLS.out wc.drew H2d.out.1; go_simp; try rfl)); (simp only [Act.put, pu1]; dsimp only [pu2, pu3]))
       | (refine plan_skip rfl (fun _ _ _ h => h) rfl hS ?_; (simp only [Act.put, pu1]; dsimp only [pu2, pu3])))
      refine plan_nil ?_
      go_wp2_with fail
      go_meet
      exact ⟨by simp, rfl⟩
     ·have hui : (0 : Int) < (us : Int) := by omega
      have huN : 0 < us := by omega
      cases F2 with
      | true =>
       refine region_fast [(0, true), (1, true), (2, true), (3, true), (4, true), (5, true), (6, true), (7, true), (8, true), (9, true), (10, true), (11, true), (12, true), (13, true), (14, true), (15, true), (16, true), (17, true), (18, true), (19, true), (20, true), (21, true), (22, true)] [15, 16, 17, 18, 19] 1015808 [(72057594037927936, 1, 0, 0), (144115188075855872, 72057594037927936, 1, 1), (288230376151711744, 144115188075855872, 2, 3), (576460752303423488, 288230376151711744, 4, 7), (1152921504606846976, 576460752303423488, 8, 15), (2305843009213693952, 1152921504606846976, 16, 31), (4611686018427387904, 2305843009213694016, 32, 63), (9223372036854775808, 6917529027641081856, 96, 127), (18446744073709551616, 11529215046068469760, 160, 255), (36893488147419103232, 18446744073709551616, 288, 511), (73786976294838206464, 36893488147419103233, 512, 1023), (147573952589676412928, 110680464442257309696, 1536, 2047), (295147905179352825856, 184467440737095516160, 2560, 4095), (590295810358705651712, 332041393326771929088, 4608, 8191), (1180591620717411303424, 627189298506124754944, 8704, 16383), (2361183241434822606848, 36893488147419103233, 512, 1023), (4722366482869645213696, 2398076729582241710080, 33280, 33791), (9444732965739290427392, 4759259971017064316928, 66048, 99327), (18889465931478580854784, 9481626453886709530624, 131584, 230399), (37778931862957161709568, 18926359419625999958016, 262656, 492543), (75557863725914323419136, 38996416971821992116224, 541184, 1048575), (151115727451828646838272, 75594757214061742522368, 1049088, 2097151), (36028797018963968, 151115727451828646838272, 2097664, 4194303)] (fun W => W = wc.drew) (by kernel_rfl) (by kernel_rfl) (by kernel_rfl) rfl (by kernel_rfl) (by kernel_rfl) rfl (fun hS => ?_)
       repeat (first
        | (refine plan_read (v := ?_) rfl (fun _ _ _ h => h) rfl hS ?_ ?_; rotate_left 1; (focus (intro w' hS'; subst hS'; obtain ⟨q0, q1, q2, q3, q5, q6, q8, q9, q11, q12⟩ := HCELLS.out wc.drew H2d.out.1; go_simp; try rfl)); (simp only [Act.put, pu1]; dsimp only [pu2, pu3]))
        | (refine plan_skip rfl (fun _ _ _ h => h) rfl hS ?_; (simp only [Act.put, pu1]; dsimp only [pu2, pu3])))
       refine plan_nil ?_
       go_wp2_with fail
       go_meet
       exact ⟨by simp, rfl⟩
      | false =>
       by_cases hls : la + 1 = sg
       ·have hli : ((la : Int) + 1 = (sg : Int)) := by omega
        refine region_fast [(0, true), (1, true), (2, true), (3, true), (4, true), (5, true), (6, true), (7, true), (8, true), (9, true), (10, true), (11, true), (12, true), (13, true), (14, true), (15, true), (16, true), (17, true), (18, true), (19, true), (20, true), (21, true), (22, true)] [15, 16, 17, 18, 19] 1015808 [(72057594037927936, 1, 0, 0), (144115188075855872, 72057594037927936, 1, 1), (288230376151711744, 144115188075855872, 2, 3), (576460752303423488, 288230376151711744, 4, 7), (1152921504606846976, 576460752303423488, 8, 15), (2305843009213693952, 1152921504606846976, 16, 31), (4611686018427387904, 2305843009213694016, 32, 63), (9223372036854775808, 6917529027641081856, 96, 127), (18446744073709551616, 11529215046068469760, 160, 255), (36893488147419103232, 18446744073709551616, 288, 511), (73786976294838206464, 36893488147419103233, 512, 1023), (147573952589676412928, 110680464442257309696, 1536, 2047), (295147905179352825856, 184467440737095516160, 2560, 4095), (590295810358705651712, 332041393326771929088, 4608, 8191), (1180591620717411303424, 627189298506124754944, 8704, 16383), (2361183241434822606848, 36893488147419103233, 512, 1023), (4722366482869645213696, 2398076729582241710080, 33280, 33791), (9444732965739290427392, 4759259971017064316928, 66048, 99327), (18889465931478580854784, 9481626453886709530624, 131584, 230399), (37778931862957161709568, 18926359419625999958016, 262656, 492543), (75557863725914323419136, 38996416971821992116224, 541184, 1048575), (151115727451828646838272, 75594757214061742522368, 1049088, 2097151), (36028797018963968, 151115727451828646838272, 2097664, 4194303)] (fun W => W = wc.drew) (by kernel_rfl) (by kernel_rfl) (by kernel_rfl) rfl (by kernel_rfl) (by kernel_rfl) rfl (fun hS => ?_)
        repeat (first
         | (refine plan_read (v := ?_) rfl (fun _ _ _ h => h) rfl hS ?_ ?_; rotate_left 1; (focus (intro w' hS'; subst hS'; obtain ⟨q0, q1, q2, q3, q5, q6, q8, q9, q11, q12⟩ := HCELLS.out wc.drew H2d.out.1; go_simp; try rfl)); (simp only [Act.put, pu1]; dsimp only [pu2, pu3]))
         | (refine plan_skip rfl (fun _ _ _ h => h) rfl hS ?_; (simp only [Act.put, pu1]; dsimp only [pu2, pu3])))
        refine plan_nil ?_
        go_wp2_with fail
        go_meet
        exact ⟨by simp [huN, hls], rfl⟩
       ·have hli : (((la : Int) + 1) == (sg : Int)) = false := by rw [beq_eq_false_iff_ne]; omega
        refine region_fast [(0, true), (1, true), (2, true), (3, true), (4, true), (5, true), (6, true), (7, true), (8, true), (9, true), (10, true), (11, true), (12, true), (13, true), (14, true), (15, true), (16, true), (17, true), (18, true), (19, true), (20, true), (21, true), (22, true)] [15, 16, 17, 18, 19] 1015808 [(72057594037927936, 1, 0, 0), (144115188075855872, 72057594037927936, 1, 1), (288230376151711744, 144115188075855872, 2, 3), (576460752303423488, 288230376151711744, 4, 7), (1152921504606846976, 576460752303423488, 8, 15), (2305843009213693952, 1152921504606846976, 16, 31), (4611686018427387904, 2305843009213694016, 32, 63), (9223372036854775808, 6917529027641081856, 96, 127), (18446744073709551616, 11529215046068469760, 160, 255), (36893488147419103232, 18446744073709551616, 288, 511), (73786976294838206464, 36893488147419103233, 512, 1023), (147573952589676412928, 110680464442257309696, 1536, 2047), (295147905179352825856, 184467440737095516160, 2560, 4095), (590295810358705651712, 332041393326771929088, 4608, 8191), (1180591620717411303424, 627189298506124754944, 8704, 16383), (2361183241434822606848, 36893488147419103233, 512, 1023), (4722366482869645213696, 2398076729582241710080, 33280, 33791), (9444732965739290427392, 4759259971017064316928, 66048, 99327), (18889465931478580854784, 9481626453886709530624, 131584, 230399), (37778931862957161709568, 18926359419625999958016, 262656, 492543), (75557863725914323419136, 38996416971821992116224, 541184, 1048575), (151115727451828646838272, 75594757214061742522368, 1049088, 2097151), (36028797018963968, 151115727451828646838272, 2097664, 4194303)] (fun W => W = wc.drew) (by kernel_rfl) (by kernel_rfl) (by kernel_rfl) rfl (by kernel_rfl) (by kernel_rfl) rfl (fun hS => ?_)
        repeat (first
         | (refine plan_read (v := ?_) rfl (fun _ _ _ h => h) rfl hS ?_ ?_; rotate_left 1; (focus (intro w' hS'; subst hS'; obtain ⟨q0, q1, q2, q3, q5, q6, q8, q9, q11, q12⟩ := HCELLS.out wc.drew H2d.out.1; go_simp; try rfl)); (simp only [Act.put, pu1]; dsimp only [pu2, pu3]))
         | (refine plan_skip rfl (fun _ _ _ h => h) rfl hS ?_; (simp only [Act.put, pu1]; dsimp only [pu2, pu3])))
        refine plan_nil ?_
        go_wp2_with fail
        go_meet
        exact ⟨by simp [hls], rfl⟩
    case rest =>
     obtain ⟨rfl, hwd⟩ := hcut
     obtain rfl := hwd.symm
     by_cases h21 : 0 < us /\ F2 = false /\ la + 1 = sg
     ·rw [decide_eq_true h21]
      have hE2 : ER = 21 := by rw [hE.out, if_pos h21]
      have HFL := Lh (HFAIL.out wc.drew 21 H2d.out.1 (by decide) (by decide))
      clear h21
      go_wp2_with fail
      refine HFL.out.mono ?_
      rintro e w3 ⟨⟨g, rfl⟩, bel3⟩
      go_wp2_with fail
      go_ret
      exact ⟨fun _ => ⟨⟨g, rfl⟩, H2d.out.2.trans (bel3.mono H2d.out.2.size)⟩, fun h0 => by omega⟩
     ·rw [decide_eq_false h21]
      have hE2 : ER = 0 := by rw [hE.out, if_neg h21]
      have HR := Lh (HOK.out.2.2.2 hE2)
      replace h21 := Lh h21
      obtain ⟨c0, c1, c2, c3, c5, c6, c8, c9, c11, c12⟩ := HCELLS.out _ H2d.out.1
      have HE2 := Lh hE2
      clear hE2
      by_cases hu0 : us = 0
      ·subst hu0
       have hrm : s.room m = s.begin_ 0 := by unfold Lg.room; rw [<- HN.out.2.2.2.2.1, if_pos rfl]
       have HBG := Lh (begin_any H2d.out.1 HOK.out.1 0 (by have := HOK.out.1.segs; omega))
       rw [<- hrm] at HBG
       replace hrm := Lh hrm
       clear c0 c1 c2 c3 c5 c8 c9 c11 c12
       go_wp2_with fail
       refine HBG.out.mono ?_
       rintro e w5 ⟨rfl, h5, f5⟩
       have HQ := Lh (Ai h5 ((Fr.of_below H2d.out.2 K0).trans f5 (fun _ _ h => h)))
       clear h5 f5 HBG c6
       have c9 : w5.cell? ⟨lb, 9, none⟩ = some (.slice C 32 cC) := HQ.out.1.top.cell 9
       have HFR := Lh (frame_ok (s.room m).chain t C X cC m c w5 (Sees.of_own HQ.out.1.chain) (HSP.out.1.fr HQ.out.2 HSP.out.2.2.1) HR.out.ok.chain HSP.out.2.1 HR.out.one HR.out.most (HSP.out.2.2.2.1.fr HQ.out.2 HSP.out.2.2.2.2))
       go_wp2_with fail
       refine HFR.out.mono ?_
       rintro e w6 ⟨v, v', rfl, o1, o2, bel6⟩
       obtain ⟨Av, cv, rfl⟩ := own_shape o1
       obtain ⟨Cv, ccv, rfl⟩ := own_shape o2
       have hfit := HR.out.fit
       have hone := HR.out.one
       have hmost := HR.out.most
       have HPT := Lh (put_any (HQ.out.1.below bel6) HR.out.ok (frm (s.room m).chain t) Av (m + 40) cv (Sees.of_own o1) (by rw [frm_length, HSP.out.2.1]) (by omega) (HR.out.ok.put_fit (by rw [HR.out.n]; omega)))
       have HO2 := Lh o2
       have HB6 := Lh bel6
       clear o1 o2 bel6 c9 HFR
       go_wp2_with fail
       refine HPT.out.mono ?_
       rintro e w7 ⟨rfl, h7, f7⟩
       have f57 : Fr K0 w5 w7 := (Fr.of_below HB6.out K0).trans f7 (fun _ _ h => h)
       have hz5 := HQ.out.2.size
       have ho2 : w7.ownsRow w.heap.size 5 1 (.slice Cv 32 ccv) 32 (u8s (sha ((s.room m).chain ++ t))) := own_base (own_fr HO2.out f7 (fun g hg hK => by have := (HO2.out.lt g hg).1; have := HKlt.out g hK; omega)) hz5
       have hS7 : Sees w7 1 X m (u8s t) := HSP.out.1.fr (HQ.out.2.trans f57 (fun _ _ h => h)) HSP.out.2.2.1
       obtain ⟨gx, ox, rfl, -⟩ := hS7.2 (by omega)
       have HCL : Hid (∀ W, Below w7.heap.size w7 W -> Calls Tryz.prog 67 #[.slice (some ⟨gx, ox, none⟩) m c] W fun e w' => ∃ v, e = .returned v /\ w'.ownsRow W.heap.size 5 1 v m (u8s t) /\ Below W.heap.size W w') := Lh (fun W hW => clone_any ⟨gx, ox, none⟩ m c (u8s t) W (hS7.below hW) (u8s_one t) (by omega))
       have hTT : (s.room m).texts.length = T := by rw [HR.out.texts, <- HN.out.2.1]
       have hrw : w7.ownsRow 0 22 1 (.slice A T cT) T (vs.map Pt.val) := by rw [<- hTT]; exact h7.rows
       have c8 : w7.drew.cell? ⟨lb, 8, none⟩ = some (.slice A T cT) := by rw [<- hTT]; exact h7.top.cell 8
       have H7 := Lh (Ai h7 (Ai (HQ.out.2.trans f57 (fun _ _ h => h)) (Ai ho2 hrw)))
       have hTs : T <= 100000000 := by have := HOK.out.1.many; rw [<- HN.out.2.1] at this; exact this
       clear h7 f7 f57 hz5 ho2 hS7 hrw HPT HO2 HB6
       go_wp2_with fail
       refine region_free [0, 1, 2, 6, 10] [(3, true), (4, true), (5, true), (7, false), (8, false), (9, false), (11, true), (12, true), (13, false), (14, false), (15, false), (16, false)] [7, 8] 384 [(21778071482940061661655974875633165533184, 1, 0, 0), (43556142965880123323311949751266331066368, 1, 0, 0), (87112285931760246646623899502532662132736, 1, 0, 0), (174224571863520493293247799005065324265472, 87112285931760246646623899502532662132736, 4, 4), (348449143727040986586495598010130648530944, 174224571863520493293247799005065324265472, 8, 12), (696898287454081973172991196020261297061888, 348449143727040986586495598010130648530944, 16, 28), (1393796574908163946345982392040522594123776, 2, 0, 0), (2787593149816327892691964784081045188247552, 1393796574908163946345982392040522594123776, 64, 64), (5575186299632655785383929568162090376495104, 2787593149816327892691964784081045188247552, 128, 192), (11150372599265311570767859136324180752990208, 6272084587086737758556920764182351673556992, 416, 508), (22300745198530623141535718272648361505980416, 256, 0, 0), (44601490397061246283071436545296723011960832, 21778071482940061661655974875633165533184, 1021, 1021), (89202980794122492566142873090593446023921664, 44601490397061246283071436545296723011960832, 3069, 3069), (0, 100353353393387804136910732226917626776911872, 5117, 7165), (178405961588244985132285746181186892047843328, 43556142965880123323311949751266331066368, 16383, 16383), (356811923176489970264571492362373784095686656, 178405961588244985132285746181186892047843328, 32767, 32767), (0, 379112668375020593406107210635022145601667072, 49151, 65535)] (fun W => W.cell? ⟨lb, 8, none⟩ = some (.slice A T cT)) (by kernel_rfl) (by kernel_rfl) (by kernel_rfl) rfl (by kernel_rfl) (by kernel_rfl) c8 (fun hS => ?_)
       repeat (refine free_read (v := ?_) rfl (fun _ _ _ h => h) rfl ?_ ?_; rotate_left 1; (focus (intro w'; go_simp; try rfl)); (simp only [Act.put, pu1]; dsimp only [pu2, pu3]))
       refine free_nil ?_
       intro _
       repeat (first
        | (refine plan_read (v := ?_) rfl (fun _ _ _ h => h) rfl hS ?_ ?_; rotate_left 1; (focus (intro w' hS'; have e8 := hS'; go_simp; try rfl)); (simp only [Act.put, pu1]; dsimp only [pu2, pu3]))
        | (refine plan_skip rfl (fun _ _ _ h => h) rfl hS ?_; (simp only [Act.put, pu1]; dsimp only [pu2, pu3])))
       refine plan_do (by rfl) (by rfl) (fun K hK => ?_)
       go_simp
       refine (HCL.out _ (Below.refl _ _).drew).mono ?_
       rintro e w8 ⟨v, rfl, ho, bel8⟩
       obtain ⟨Ax, cx, rfl⟩ := own_shape ho
       have bel8' : Below w7.heap.size w7 w8 := ⟨bel8.os, bel8.tape, bel8.output, bel8.size, bel8.block⟩
       refine hK.out _ _ (fun _ => (bel8.cell (World.block_lt_of_cell? _ _ hS)).trans hS) (fun hS => ?_); clear hK K; replace hS := hS rfl; try (simp only [Act.put, pu1]; dsimp only [pu2, pu3])
       repeat (first
        | (refine plan_read (v := ?_) rfl (fun _ _ _ h => h) rfl hS ?_ ?_; rotate_left 1; (focus (intro w' hS'; have e8 := hS'; go_simp; try rfl)); (simp only [Act.put, pu1]; dsimp only [pu2, pu3]))
        | (refine plan_skip rfl (fun _ _ _ h => h) rfl hS ?_; (simp only [Act.put, pu1]; dsimp only [pu2, pu3])))
       refine plan_do (by rfl) (by rfl) (fun K hK => ?_)
       go_simp
       have bel9 := (Below.refl w8.heap.size w8).alloc (Nat.le_refl _) (.cells #[.slice Ax m cx] 22)
       refine hK.out _ _ (fun _ => (bel9.cell (World.block_lt_of_cell? _ _ hS)).trans hS) (fun hS => ?_); clear hK K; replace hS := hS rfl; try (simp only [Act.put, pu1]; dsimp only [pu2, pu3])
       repeat (first
        | (refine plan_read (v := ?_) rfl (fun _ _ _ h => h) rfl hS ?_ ?_; rotate_left 1; (focus (intro w' hS'; have e8 := hS'; go_simp; try rfl)); (simp only [Act.put, pu1]; dsimp only [pu2, pu3]))
        | (refine plan_skip rfl (fun _ _ _ h => h) rfl hS ?_; (simp only [Act.put, pu1]; dsimp only [pu2, pu3])))
       have bel79 : Below w7.heap.size w7 (w8.alloc (.cells #[.slice Ax m cx] 22)) := bel8'.trans (bel9.mono bel8'.size)
       refine plan_do (by rfl) (by rfl) (fun K hK => ?_)
       refine wp_app (.tmp 139) (.tmp 142) 115 rfl 0 22 _ 1 24 Tryz.underlying115 info_bytesZ rfl (by decide) (.slice A T cT) T (vs.map Pt.val) rfl (own_below H7.out.2.2.2 bel79) (some ⟨w8.heap.size, 0, none⟩) 1 _ [.slice Ax m cx] rfl (sees_new w8 22 [.slice Ax m cx] 1 1 rfl) (by simp [Value.oneCell']) (by unfold maxLen; omega) (by omega) (Nat.zero_le _) ?_
       intro v5 w10 o1 o2 o3 o4
       obtain ⟨A5, c5, rfl⟩ := own_shape o1
       have hf5 : Fr (fun k => (Value.slice A T cT).ownBlock = some k) (w8.alloc (.cells #[.slice Ax m cx] 22)) w10 := Fr.of_grown o2 (fun k h => h)
       have H9 := H7.out.1.below bel79
       have hrw9 := own_below H7.out.2.2.2 bel79
       have b10 : Blk w10 lb 150 _ := Blk.fr (F := fun k => (Value.slice A T cT).ownBlock = some k) H9.top hf5 (fun e => own_ne hrw9 H9.top (by decide) lb e rfl)
       have c8' : w10.cell? ⟨lb, 8, none⟩ = some (.slice A T cT) := by rw [<- hTT]; exact b10.cell 8
       have f8' : w10.frozen? ⟨lb, 8, none⟩ = false := b10.frozen 8
       clear hS
       have hS := c8'
       refine hK.out _ _ (fun h => by cases h) (fun _ => ?_); clear hK K; try (simp only [Act.put, pu1]; dsimp only [pu2, pu3])
       repeat (first
        | (refine plan_read (v := ?_) rfl (fun _ _ _ h => h) rfl hS ?_ ?_; rotate_left 1; (focus (intro w' hS'; go_simp; try rfl)); (simp only [Act.put, pu1]; dsimp only [pu2, pu3]))
        | (refine plan_skip rfl (fun _ _ _ h => h) rfl hS ?_; (simp only [Act.put, pu1]; dsimp only [pu2, pu3])))
       refine plan_do (by rfl) (by rfl) (fun K hK => ?_)
       go_simp
       refine hK.out _ _ (fun h => by cases h) (fun _ => ?_); clear hK K; try (simp only [Act.put, pu1]; dsimp only [pu2, pu3])
       refine plan_do (by rfl) (by rfl) (fun K hK => ?_)
       go_simp
       refine hK.out _ _ (fun h => by cases h) (fun _ => ?_); clear hK K; try (simp only [Act.put, pu1]; dsimp only [pu2, pu3])
       refine plan_do (by rfl) (by rfl) (fun K hK => ?_)
       go_simp
       refine hK.out _ _ (fun h => by cases h) (fun _ => ?_); clear hK K; try (simp only [Act.put, pu1]; dsimp only [pu2, pu3])
       have b11 := b10.set_ 8 (.slice A5 (T + 1) c5)
       have g11 : Fr (fun k => k = lb) w10 _ := Fr.setCell w10 ⟨lb, 8, none⟩ (.slice A5 (T + 1) c5) rfl
       have c9' : (w10.setCell ⟨lb, 8, none⟩ (.slice A5 (T + 1) c5)).cell? ⟨lb, 9, none⟩ = some (.slice C 32 cC) := b11.cell 9
       have f9' : (w10.setCell ⟨lb, 8, none⟩ (.slice A5 (T + 1) c5)).frozen? ⟨lb, 9, none⟩ = false := b11.frozen 9
       clear c8' f8'
       refine plan_do (by rfl) (by rfl) (fun K hK => ?_)
       go_simp
       refine hK.out _ _ (fun h => by cases h) (fun _ => ?_); clear hK K; try (simp only [Act.put, pu1]; dsimp only [pu2, pu3])
       refine plan_nil ?_
       have b12 := b11.set_ 9 (.slice Cv 32 ccv)
       have g12 : Fr (fun k => k = lb) w10 _ := g11.trans (Fr.setCell (F := fun k => k = lb) _ ⟨lb, 9, none⟩ (.slice Cv 32 ccv) rfl) (fun _ _ h => h)
       clear c9' f9' b11 g11
       go_wp2_with fail
       go_ret
       first
        | refine ⟨fun hne => absurd HE2.out hne, fun _ => ⟨rfl, ?_, A5, c5, Cv, ccv, vs ++ [⟨Ax, m, cx, t⟩], ?_⟩⟩
        | refine ⟨rfl, ?_, A5, c5, Cv, ccv, vs ++ [⟨Ax, m, cx, t⟩], ?_⟩
       ·refine ((H7.out.2.1.trans (Fr.of_below bel79 K0) (fun _ _ h => h)).trans hf5 (fun k hk e => H9.ka k (by rw [show ((s.room m).put (frm (s.room m).chain t)).texts.length = T from hTT]; exact e))).trans g12 (fun k hk e => by rw [e]; exact H9.kl)
       ·have ef : s.append t = (s.room m).lay t := by unfold Lg.append; rw [HSP.out.2.1]
        rw [ef]
        exact H9.took (B0 := w.heap.size) (vs2 := [⟨Ax, m, cx, t⟩]) (s2 := (s.room m).lay t) (by rw [<- hTT]; rfl) rfl HKlt.out (Nat.le_trans H7.out.2.1.size bel79.size)
         (fun p hp => by rw [List.mem_singleton.1 hp]; exact ⟨HSP.out.2.1, own_base (own_below ho bel9) (show w.heap.size <= w7.drew.heap.size from H7.out.2.1.size)⟩) (own_below H7.out.2.2.1 bel79) o1 hf5 o3 g12 b12 rfl rfl rfl (fun k hk => .inl hk) (fun k hk => .inr hk)
      ·have hui : (0 : Int) < (us : Int) := by omega
       have huN : 0 < us := by omega
       have hu1 : ¬ us = 0 := by omega
       cases se with
       | true =>
        have hF2 : F2 = false := by rw [HF2'.out]; simp
        have hls : ¬ (la + 1 = sg) := fun e => h21.out ⟨huN, hF2, e⟩
        have hrm : s.room m = s.begin_ (la + 1) := by unfold Lg.room; rw [<- HN.out.2.2.2.2.1, if_neg hu1, <- HN.out.2.2.2.2.2.1, if_pos rfl, HN.out.2.2.2.1]
        have HBG := Lh (begin_any H2d.out.1 HOK.out.1 (la + 1) (by have := HOK.out.1.last; rw [<- HN.out.2.2.2.1, <- HN.out.2.2.1] at this; rw [<- HN.out.2.2.1]; omega))
        rw [<- hrm] at HBG
        replace hrm := Lh hrm
        replace hF2 := Lh hF2
        clear c0 c1 c2 c3 c8 c9 c12
        go_wp2_with fail
        refine HBG.out.mono ?_
        rintro e w5 ⟨rfl, h5, f5⟩
        have HQ := Lh (Ai h5 ((Fr.of_below H2d.out.2 K0).trans f5 (fun _ _ h => h)))
        clear h5 f5 HBG c6 c5 c11
        have c9 : w5.cell? ⟨lb, 9, none⟩ = some (.slice C 32 cC) := HQ.out.1.top.cell 9
        have HFR := Lh (frame_ok (s.room m).chain t C X cC m c w5 (Sees.of_own HQ.out.1.chain) (HSP.out.1.fr HQ.out.2 HSP.out.2.2.1) HR.out.ok.chain HSP.out.2.1 HR.out.one HR.out.most (HSP.out.2.2.2.1.fr HQ.out.2 HSP.out.2.2.2.2))
        go_wp2_with fail
        refine HFR.out.mono ?_
        rintro e w6 ⟨v, v', rfl, o1, o2, bel6⟩
        obtain ⟨Av, cv, rfl⟩ := own_shape o1
        obtain ⟨Cv, ccv, rfl⟩ := own_shape o2
        have hfit := HR.out.fit
        have hone := HR.out.one
        have hmost := HR.out.most
        have HPT := Lh (put_any (HQ.out.1.below bel6) HR.out.ok (frm (s.room m).chain t) Av (m + 40) cv (Sees.of_own o1) (by rw [frm_length, HSP.out.2.1]) (by omega) (HR.out.ok.put_fit (by rw [HR.out.n]; omega)))
        have HO2 := Lh o2
        have HB6 := Lh bel6
        clear o1 o2 bel6 c9 HFR
        go_wp2_with fail
        refine HPT.out.mono ?_
        rintro e w7 ⟨rfl, h7, f7⟩
        have f57 : Fr K0 w5 w7 := (Fr.of_below HB6.out K0).trans f7 (fun _ _ h => h)
        have hz5 := HQ.out.2.size
        have ho2 : w7.ownsRow w.heap.size 5 1 (.slice Cv 32 ccv) 32 (u8s (sha ((s.room m).chain ++ t))) := own_base (own_fr HO2.out f7 (fun g hg hK => by have := (HO2.out.lt g hg).1; have := HKlt.out g hK; omega)) hz5
        have hS7 : Sees w7 1 X m (u8s t) := HSP.out.1.fr (HQ.out.2.trans f57 (fun _ _ h => h)) HSP.out.2.2.1
        obtain ⟨gx, ox, rfl, -⟩ := hS7.2 (by omega)
        have HCL : Hid (∀ W, Below w7.heap.size w7 W -> Calls Tryz.prog 67 #[.slice (some ⟨gx, ox, none⟩) m c] W fun e w' => ∃ v, e = .returned v /\ w'.ownsRow W.heap.size 5 1 v m (u8s t) /\ Below W.heap.size W w') := Lh (fun W hW => clone_any ⟨gx, ox, none⟩ m c (u8s t) W (hS7.below hW) (u8s_one t) (by omega))
        have hTT : (s.room m).texts.length = T := by rw [HR.out.texts, <- HN.out.2.1]
        have hrw : w7.ownsRow 0 22 1 (.slice A T cT) T (vs.map Pt.val) := by rw [<- hTT]; exact h7.rows
        have c8 : w7.drew.cell? ⟨lb, 8, none⟩ = some (.slice A T cT) := by rw [<- hTT]; exact h7.top.cell 8
        have H7 := Lh (Ai h7 (Ai (HQ.out.2.trans f57 (fun _ _ h => h)) (Ai ho2 hrw)))
        have hTs : T <= 100000000 := by have := HOK.out.1.many; rw [<- HN.out.2.1] at this; exact this
        clear h7 f7 f57 hz5 ho2 hS7 hrw HPT HO2 HB6
        go_wp2_with fail
        refine region_free [0, 1, 2, 6, 10] [(3, true), (4, true), (5, true), (7, false), (8, false), (9, false), (11, true), (12, true), (13, false), (14, false), (15, false), (16, false)] [7, 8] 384 [(21778071482940061661655974875633165533184, 1, 0, 0), (43556142965880123323311949751266331066368, 1, 0, 0), (87112285931760246646623899502532662132736, 1, 0, 0), (174224571863520493293247799005065324265472, 87112285931760246646623899502532662132736, 4, 4), (348449143727040986586495598010130648530944, 174224571863520493293247799005065324265472, 8, 12), (696898287454081973172991196020261297061888, 348449143727040986586495598010130648530944, 16, 28), (1393796574908163946345982392040522594123776, 2, 0, 0), (2787593149816327892691964784081045188247552, 1393796574908163946345982392040522594123776, 64, 64), (5575186299632655785383929568162090376495104, 2787593149816327892691964784081045188247552, 128, 192), (11150372599265311570767859136324180752990208, 6272084587086737758556920764182351673556992, 416, 508), (22300745198530623141535718272648361505980416, 256, 0, 0), (44601490397061246283071436545296723011960832, 21778071482940061661655974875633165533184, 1021, 1021), (89202980794122492566142873090593446023921664, 44601490397061246283071436545296723011960832, 3069, 3069), (0, 100353353393387804136910732226917626776911872, 5117, 7165), (178405961588244985132285746181186892047843328, 43556142965880123323311949751266331066368, 16383, 16383), (356811923176489970264571492362373784095686656, 178405961588244985132285746181186892047843328, 32767, 32767), (0, 379112668375020593406107210635022145601667072, 49151, 65535)] (fun W => W.cell? ⟨lb, 8, none⟩ = some (.slice A T cT)) (by kernel_rfl) (by kernel_rfl) (by kernel_rfl) rfl (by kernel_rfl) (by kernel_rfl) c8 (fun hS => ?_)
        repeat (refine free_read (v := ?_) rfl (fun _ _ _ h => h) rfl ?_ ?_; rotate_left 1; (focus (intro w'; go_simp; try rfl)); (simp only [Act.put, pu1]; dsimp only [pu2, pu3]))
        refine free_nil ?_
        intro _
        repeat (first
         | (refine plan_read (v := ?_) rfl (fun _ _ _ h => h) rfl hS ?_ ?_; rotate_left 1; (focus (intro w' hS'; have e8 := hS'; go_simp; try rfl)); (simp only [Act.put, pu1]; dsimp only [pu2, pu3]))
         | (refine plan_skip rfl (fun _ _ _ h => h) rfl hS ?_; (simp only [Act.put, pu1]; dsimp only [pu2, pu3])))
        refine plan_do (by rfl) (by rfl) (fun K hK => ?_)
        go_simp
        refine (HCL.out _ (Below.refl _ _).drew).mono ?_
        rintro e w8 ⟨v, rfl, ho, bel8⟩
        obtain ⟨Ax, cx, rfl⟩ := own_shape ho
        have bel8' : Below w7.heap.size w7 w8 := ⟨bel8.os, bel8.tape, bel8.output, bel8.size, bel8.block⟩
        refine hK.out _ _ (fun _ => (bel8.cell (World.block_lt_of_cell? _ _ hS)).trans hS) (fun hS => ?_); clear hK K; replace hS := hS rfl; try (simp only [Act.put, pu1]; dsimp only [pu2, pu3])
        repeat (first
         | (refine plan_read (v := ?_) rfl (fun _ _ _ h => h) rfl hS ?_ ?_; rotate_left 1; (focus (intro w' hS'; have e8 := hS'; go_simp; try rfl)); (simp only [Act.put, pu1]; dsimp only [pu2, pu3]))
         | (refine plan_skip rfl (fun _ _ _ h => h) rfl hS ?_; (simp only [Act.put, pu1]; dsimp only [pu2, pu3])))
        refine plan_do (by rfl) (by rfl) (fun K hK => ?_)
        go_simp
        have bel9 := (Below.refl w8.heap.size w8).alloc (Nat.le_refl _) (.cells #[.slice Ax m cx] 22)
        refine hK.out _ _ (fun _ => (bel9.cell (World.block_lt_of_cell? _ _ hS)).trans hS) (fun hS => ?_); clear hK K; replace hS := hS rfl; try (simp only [Act.put, pu1]; dsimp only [pu2, pu3])
        repeat (first
         | (refine plan_read (v := ?_) rfl (fun _ _ _ h => h) rfl hS ?_ ?_; rotate_left 1; (focus (intro w' hS'; have e8 := hS'; go_simp; try rfl)); (simp only [Act.put, pu1]; dsimp only [pu2, pu3]))
         | (refine plan_skip rfl (fun _ _ _ h => h) rfl hS ?_; (simp only [Act.put, pu1]; dsimp only [pu2, pu3])))
        have bel79 : Below w7.heap.size w7 (w8.alloc (.cells #[.slice Ax m cx] 22)) := bel8'.trans (bel9.mono bel8'.size)
        refine plan_do (by rfl) (by rfl) (fun K hK => ?_)
        refine wp_app (.tmp 139) (.tmp 142) 115 rfl 0 22 _ 1 24 Tryz.underlying115 info_bytesZ rfl (by decide) (.slice A T cT) T (vs.map Pt.val) rfl (own_below H7.out.2.2.2 bel79) (some ⟨w8.heap.size, 0, none⟩) 1 _ [.slice Ax m cx] rfl (sees_new w8 22 [.slice Ax m cx] 1 1 rfl) (by simp [Value.oneCell']) (by unfold maxLen; omega) (by omega) (Nat.zero_le _) ?_
        intro v5 w10 o1 o2 o3 o4
        obtain ⟨A5, c5, rfl⟩ := own_shape o1
        have hf5 : Fr (fun k => (Value.slice A T cT).ownBlock = some k) (w8.alloc (.cells #[.slice Ax m cx] 22)) w10 := Fr.of_grown o2 (fun k h => h)
        have H9 := H7.out.1.below bel79
        have hrw9 := own_below H7.out.2.2.2 bel79
        have b10 : Blk w10 lb 150 _ := Blk.fr (F := fun k => (Value.slice A T cT).ownBlock = some k) H9.top hf5 (fun e => own_ne hrw9 H9.top (by decide) lb e rfl)
        have c8' : w10.cell? ⟨lb, 8, none⟩ = some (.slice A T cT) := by rw [<- hTT]; exact b10.cell 8
        have f8' : w10.frozen? ⟨lb, 8, none⟩ = false := b10.frozen 8
        clear hS
        have hS := c8'
        refine hK.out _ _ (fun h => by cases h) (fun _ => ?_); clear hK K; try (simp only [Act.put, pu1]; dsimp only [pu2, pu3])
        repeat (first
         | (refine plan_read (v := ?_) rfl (fun _ _ _ h => h) rfl hS ?_ ?_; rotate_left 1; (focus (intro w' hS'; go_simp; try rfl)); (simp only [Act.put, pu1]; dsimp only [pu2, pu3]))
         | (refine plan_skip rfl (fun _ _ _ h => h) rfl hS ?_; (simp only [Act.put, pu1]; dsimp only [pu2, pu3])))
        refine plan_do (by rfl) (by rfl) (fun K hK => ?_)
        go_simp
        refine hK.out _ _ (fun h => by cases h) (fun _ => ?_); clear hK K; try (simp only [Act.put, pu1]; dsimp only [pu2, pu3])
        refine plan_do (by rfl) (by rfl) (fun K hK => ?_)
        go_simp
        refine hK.out _ _ (fun h => by cases h) (fun _ => ?_); clear hK K; try (simp only [Act.put, pu1]; dsimp only [pu2, pu3])
        refine plan_do (by rfl) (by rfl) (fun K hK => ?_)
        go_simp
        refine hK.out _ _ (fun h => by cases h) (fun _ => ?_); clear hK K; try (simp only [Act.put, pu1]; dsimp only [pu2, pu3])
        have b11 := b10.set_ 8 (.slice A5 (T + 1) c5)
        have g11 : Fr (fun k => k = lb) w10 _ := Fr.setCell w10 ⟨lb, 8, none⟩ (.slice A5 (T + 1) c5) rfl
        have c9' : (w10.setCell ⟨lb, 8, none⟩ (.slice A5 (T + 1) c5)).cell? ⟨lb, 9, none⟩ = some (.slice C 32 cC) := b11.cell 9
        have f9' : (w10.setCell ⟨lb, 8, none⟩ (.slice A5 (T + 1) c5)).frozen? ⟨lb, 9, none⟩ = false := b11.frozen 9
        clear c8' f8'
        refine plan_do (by rfl) (by rfl) (fun K hK => ?_)
        go_simp
        refine hK.out _ _ (fun h => by cases h) (fun _ => ?_); clear hK K; try (simp only [Act.put, pu1]; dsimp only [pu2, pu3])
        refine plan_nil ?_
        have b12 := b11.set_ 9 (.slice Cv 32 ccv)
        have g12 : Fr (fun k => k = lb) w10 _ := g11.trans (Fr.setCell (F := fun k => k = lb) _ ⟨lb, 9, none⟩ (.slice Cv 32 ccv) rfl) (fun _ _ h => h)
        clear c9' f9' b11 g11
        go_wp2_with fail
        go_ret
        first
         | refine ⟨fun hne => absurd HE2.out hne, fun _ => ⟨rfl, ?_, A5, c5, Cv, ccv, vs ++ [⟨Ax, m, cx, t⟩], ?_⟩⟩
         | refine ⟨rfl, ?_, A5, c5, Cv, ccv, vs ++ [⟨Ax, m, cx, t⟩], ?_⟩
        ·refine ((H7.out.2.1.trans (Fr.of_below bel79 K0) (fun _ _ h => h)).trans hf5 (fun k hk e => H9.ka k (by rw [show ((s.room m).put (frm (s.room m).chain t)).texts.length = T from hTT]; exact e))).trans g12 (fun k hk e => by rw [e]; exact H9.kl)
        ·have ef : s.append t = (s.room m).lay t := by unfold Lg.append; rw [HSP.out.2.1]
         rw [ef]
         exact H9.took (B0 := w.heap.size) (vs2 := [⟨Ax, m, cx, t⟩]) (s2 := (s.room m).lay t) (by rw [<- hTT]; rfl) rfl HKlt.out (Nat.le_trans H7.out.2.1.size bel79.size)
          (fun p hp => by rw [List.mem_singleton.1 hp]; exact ⟨HSP.out.2.1, own_base (own_below ho bel9) (show w.heap.size <= w7.drew.heap.size from H7.out.2.1.size)⟩) (own_below H7.out.2.2.1 bel79) o1 hf5 o3 g12 b12 rfl rfl rfl (fun k hk => .inl hk) (fun k hk => .inr hk)
       | false =>
        cases F2 with
        | true =>
         have hrm : s.room m = s := by unfold Lg.room; rw [<- HN.out.2.2.2.2.1, if_neg hu1, <- HN.out.2.2.2.2.2.1, if_neg (by simp), <- HN.out.2.2.2.2.2.2.1, if_neg (by simp)]
         have HQ : Hid (LgP wc.drew lb b f (s.room m) bg cB A cT C cC vs K0 /\ Fr K0 w wc.drew) := Lh ⟨by rw [hrm]; exact H2d.out.1, Fr.of_below H2d.out.2 K0⟩
         replace hrm := Lh hrm
         clear c0 c1 c2 c3 c5 c8 c9 c12
         obtain ⟨w5, hw5⟩ : ∃ w5, wc.drew = w5 := ⟨_, rfl⟩
         rw [hw5] at HQ c6 c11 ⊢
         have c9 : w5.cell? ⟨lb, 9, none⟩ = some (.slice C 32 cC) := HQ.out.1.top.cell 9
         have HFR := Lh (frame_ok (s.room m).chain t C X cC m c w5 (Sees.of_own HQ.out.1.chain) (HSP.out.1.fr HQ.out.2 HSP.out.2.2.1) HR.out.ok.chain HSP.out.2.1 HR.out.one HR.out.most (HSP.out.2.2.2.1.fr HQ.out.2 HSP.out.2.2.2.2))
         go_wp2_with fail
         refine HFR.out.mono ?_
         rintro e w6 ⟨v, v', rfl, o1, o2, bel6⟩
         obtain ⟨Av, cv, rfl⟩ := own_shape o1
         obtain ⟨Cv, ccv, rfl⟩ := own_shape o2
         have hfit := HR.out.fit
         have hone := HR.out.one
         have hmost := HR.out.most
         have HPT := Lh (put_any (HQ.out.1.below bel6) HR.out.ok (frm (s.room m).chain t) Av (m + 40) cv (Sees.of_own o1) (by rw [frm_length, HSP.out.2.1]) (by omega) (HR.out.ok.put_fit (by rw [HR.out.n]; omega)))
         have HO2 := Lh o2
         have HB6 := Lh bel6
         clear o1 o2 bel6 c9 HFR
         go_wp2_with fail
         refine HPT.out.mono ?_
         rintro e w7 ⟨rfl, h7, f7⟩
         have f57 : Fr K0 w5 w7 := (Fr.of_below HB6.out K0).trans f7 (fun _ _ h => h)
         have hz5 := HQ.out.2.size
         have ho2 : w7.ownsRow w.heap.size 5 1 (.slice Cv 32 ccv) 32 (u8s (sha ((s.room m).chain ++ t))) := own_base (own_fr HO2.out f7 (fun g hg hK => by have := (HO2.out.lt g hg).1; have := HKlt.out g hK; omega)) hz5
         have hS7 : Sees w7 1 X m (u8s t) := HSP.out.1.fr (HQ.out.2.trans f57 (fun _ _ h => h)) HSP.out.2.2.1
         obtain ⟨gx, ox, rfl, -⟩ := hS7.2 (by omega)
         have HCL : Hid (∀ W, Below w7.heap.size w7 W -> Calls Tryz.prog 67 #[.slice (some ⟨gx, ox, none⟩) m c] W fun e w' => ∃ v, e = .returned v /\ w'.ownsRow W.heap.size 5 1 v m (u8s t) /\ Below W.heap.size W w') := Lh (fun W hW => clone_any ⟨gx, ox, none⟩ m c (u8s t) W (hS7.below hW) (u8s_one t) (by omega))
         have hTT : (s.room m).texts.length = T := by rw [HR.out.texts, <- HN.out.2.1]
         have hrw : w7.ownsRow 0 22 1 (.slice A T cT) T (vs.map Pt.val) := by rw [<- hTT]; exact h7.rows
         have c8 : w7.drew.cell? ⟨lb, 8, none⟩ = some (.slice A T cT) := by rw [<- hTT]; exact h7.top.cell 8
         have H7 := Lh (Ai h7 (Ai (HQ.out.2.trans f57 (fun _ _ h => h)) (Ai ho2 hrw)))
         have hTs : T <= 100000000 := by have := HOK.out.1.many; rw [<- HN.out.2.1] at this; exact this
         clear h7 f7 f57 hz5 ho2 hS7 hrw HPT HO2 HB6
         go_wp2_with fail
         refine region_free [0, 1, 2, 6, 10] [(3, true), (4, true), (5, true), (7, false), (8, false), (9, false), (11, true), (12, true), (13, false), (14, false), (15, false), (16, false)] [7, 8] 384 [(21778071482940061661655974875633165533184, 1, 0, 0), (43556142965880123323311949751266331066368, 1, 0, 0), (87112285931760246646623899502532662132736, 1, 0, 0), (174224571863520493293247799005065324265472, 87112285931760246646623899502532662132736, 4, 4), (348449143727040986586495598010130648530944, 174224571863520493293247799005065324265472, 8, 12), (696898287454081973172991196020261297061888, 348449143727040986586495598010130648530944, 16, 28), (1393796574908163946345982392040522594123776, 2, 0, 0), (2787593149816327892691964784081045188247552, 1393796574908163946345982392040522594123776, 64, 64), (5575186299632655785383929568162090376495104, 2787593149816327892691964784081045188247552, 128, 192), (11150372599265311570767859136324180752990208, 6272084587086737758556920764182351673556992, 416, 508), (22300745198530623141535718272648361505980416, 256, 0, 0), (44601490397061246283071436545296723011960832, 21778071482940061661655974875633165533184, 1021, 1021), (89202980794122492566142873090593446023921664, 44601490397061246283071436545296723011960832, 3069, 3069), (0, 100353353393387804136910732226917626776911872, 5117, 7165), (178405961588244985132285746181186892047843328, 43556142965880123323311949751266331066368, 16383, 16383), (356811923176489970264571492362373784095686656, 178405961588244985132285746181186892047843328, 32767, 32767), (0, 379112668375020593406107210635022145601667072, 49151, 65535)] (fun W => W.cell? ⟨lb, 8, none⟩ = some (.slice A T cT)) (by kernel_rfl) (by kernel_rfl) (by kernel_rfl) rfl (by kernel_rfl) (by kernel_rfl) c8 (fun hS => ?_)
         repeat (refine free_read (v := ?_) rfl (fun _ _ _ h => h) rfl ?_ ?_; rotate_left 1; (focus (intro w'; go_simp; try rfl)); (simp only [Act.put, pu1]; dsimp only [pu2, pu3]))
         refine free_nil ?_
         intro _
         repeat (first
          | (refine plan_read (v := ?_) rfl (fun _ _ _ h => h) rfl hS ?_ ?_; rotate_left 1; (focus (intro w' hS'; have e8 := hS'; go_simp; try rfl)); (simp only [Act.put, pu1]; dsimp only [pu2, pu3]))
          | (refine plan_skip rfl (fun _ _ _ h => h) rfl hS ?_; (simp only [Act.put, pu1]; dsimp only [pu2, pu3])))
         refine plan_do (by rfl) (by rfl) (fun K hK => ?_)
         go_simp
         refine (HCL.out _ (Below.refl _ _).drew).mono ?_
         rintro e w8 ⟨v, rfl, ho, bel8⟩
         obtain ⟨Ax, cx, rfl⟩ := own_shape ho
         have bel8' : Below w7.heap.size w7 w8 := ⟨bel8.os, bel8.tape, bel8.output, bel8.size, bel8.block⟩
         refine hK.out _ _ (fun _ => (bel8.cell (World.block_lt_of_cell? _ _ hS)).trans hS) (fun hS => ?_); clear hK K; replace hS := hS rfl; try (simp only [Act.put, pu1]; dsimp only [pu2, pu3])
         repeat (first
          | (refine plan_read (v := ?_) rfl (fun _ _ _ h => h) rfl hS ?_ ?_; rotate_left 1; (focus (intro w' hS'; have e8 := hS'; go_simp; try rfl)); (simp only [Act.put, pu1]; dsimp only [pu2, pu3]))
          | (refine plan_skip rfl (fun _ _ _ h => h) rfl hS ?_; (simp only [Act.put, pu1]; dsimp only [pu2, pu3])))
         refine plan_do (by rfl) (by rfl) (fun K hK => ?_)
         go_simp
         have bel9 := (Below.refl w8.heap.size w8).alloc (Nat.le_refl _) (.cells #[.slice Ax m cx] 22)
         refine hK.out _ _ (fun _ => (bel9.cell (World.block_lt_of_cell? _ _ hS)).trans hS) (fun hS => ?_); clear hK K; replace hS := hS rfl; try (simp only [Act.put, pu1]; dsimp only [pu2, pu3])
         repeat (first
          | (refine plan_read (v := ?_) rfl (fun _ _ _ h => h) rfl hS ?_ ?_; rotate_left 1; (focus (intro w' hS'; have e8 := hS'; go_simp; try rfl)); (simp only [Act.put, pu1]; dsimp only [pu2, pu3]))
          | (refine plan_skip rfl (fun _ _ _ h => h) rfl hS ?_; (simp only [Act.put, pu1]; dsimp only [pu2, pu3])))
         have bel79 : Below w7.heap.size w7 (w8.alloc (.cells #[.slice Ax m cx] 22)) := bel8'.trans (bel9.mono bel8'.size)
         refine plan_do (by rfl) (by rfl) (fun K hK => ?_)
         refine wp_app (.tmp 139) (.tmp 142) 115 rfl 0 22 _ 1 24 Tryz.underlying115 info_bytesZ rfl (by decide) (.slice A T cT) T (vs.map Pt.val) rfl (own_below H7.out.2.2.2 bel79) (some ⟨w8.heap.size, 0, none⟩) 1 _ [.slice Ax m cx] rfl (sees_new w8 22 [.slice Ax m cx] 1 1 rfl) (by simp [Value.oneCell']) (by unfold maxLen; omega) (by omega) (Nat.zero_le _) ?_
         intro v5 w10 o1 o2 o3 o4
         obtain ⟨A5, c5, rfl⟩ := own_shape o1
         have hf5 : Fr (fun k => (Value.slice A T cT).ownBlock = some k) (w8.alloc (.cells #[.slice Ax m cx] 22)) w10 := Fr.of_grown o2 (fun k h => h)
         have H9 := H7.out.1.below bel79
         have hrw9 := own_below H7.out.2.2.2 bel79
         have b10 : Blk w10 lb 150 _ := Blk.fr (F := fun k => (Value.slice A T cT).ownBlock = some k) H9.top hf5 (fun e => own_ne hrw9 H9.top (by decide) lb e rfl)
         have c8' : w10.cell? ⟨lb, 8, none⟩ = some (.slice A T cT) := by rw [<- hTT]; exact b10.cell 8
         have f8' : w10.frozen? ⟨lb, 8, none⟩ = false := b10.frozen 8
         clear hS
         have hS := c8'
         refine hK.out _ _ (fun h => by cases h) (fun _ => ?_); clear hK K; try (simp only [Act.put, pu1]; dsimp only [pu2, pu3])
         repeat (first
          | (refine plan_read (v := ?_) rfl (fun _ _ _ h => h) rfl hS ?_ ?_; rotate_left 1; (focus (intro w' hS'; go_simp; try rfl)); (simp only [Act.put, pu1]; dsimp only [pu2, pu3]))
          | (refine plan_skip rfl (fun _ _ _ h => h) rfl hS ?_; (simp only [Act.put, pu1]; dsimp only [pu2, pu3])))
         refine plan_do (by rfl) (by rfl) (fun K hK => ?_)
         go_simp
         refine hK.out _ _ (fun h => by cases h) (fun _ => ?_); clear hK K; try (simp only [Act.put, pu1]; dsimp only [pu2, pu3])
         refine plan_do (by rfl) (by rfl) (fun K hK => ?_)
         go_simp
         refine hK.out _ _ (fun h => by cases h) (fun _ => ?_); clear hK K; try (simp only [Act.put, pu1]; dsimp only [pu2, pu3])
         refine plan_do (by rfl) (by rfl) (fun K hK => ?_)
         go_simp
         refine hK.out _ _ (fun h => by cases h) (fun _ => ?_); clear hK K; try (simp only [Act.put, pu1]; dsimp only [pu2, pu3])
         have b11 := b10.set_ 8 (.slice A5 (T + 1) c5)
         have g11 : Fr (fun k => k = lb) w10 _ := Fr.setCell w10 ⟨lb, 8, none⟩ (.slice A5 (T + 1) c5) rfl
         have c9' : (w10.setCell ⟨lb, 8, none⟩ (.slice A5 (T + 1) c5)).cell? ⟨lb, 9, none⟩ = some (.slice C 32 cC) := b11.cell 9
         have f9' : (w10.setCell ⟨lb, 8, none⟩ (.slice A5 (T + 1) c5)).frozen? ⟨lb, 9, none⟩ = false := b11.frozen 9
         clear c8' f8'
         refine plan_do (by rfl) (by rfl) (fun K hK => ?_)
         go_simp
         refine hK.out _ _ (fun h => by cases h) (fun _ => ?_); clear hK K; try (simp only [Act.put, pu1]; dsimp only [pu2, pu3])
         refine plan_nil ?_
         have b12 := b11.set_ 9 (.slice Cv 32 ccv)
         have g12 : Fr (fun k => k = lb) w10 _ := g11.trans (Fr.setCell (F := fun k => k = lb) _ ⟨lb, 9, none⟩ (.slice Cv 32 ccv) rfl) (fun _ _ h => h)
         clear c9' f9' b11 g11
         go_wp2_with fail
         go_ret
         first
          | refine ⟨fun hne => absurd HE2.out hne, fun _ => ⟨rfl, ?_, A5, c5, Cv, ccv, vs ++ [⟨Ax, m, cx, t⟩], ?_⟩⟩
          | refine ⟨rfl, ?_, A5, c5, Cv, ccv, vs ++ [⟨Ax, m, cx, t⟩], ?_⟩
         ·refine ((H7.out.2.1.trans (Fr.of_below bel79 K0) (fun _ _ h => h)).trans hf5 (fun k hk e => H9.ka k (by rw [show ((s.room m).put (frm (s.room m).chain t)).texts.length = T from hTT]; exact e))).trans g12 (fun k hk e => by rw [e]; exact H9.kl)
         ·have ef : s.append t = (s.room m).lay t := by unfold Lg.append; rw [HSP.out.2.1]
          rw [ef]
          exact H9.took (B0 := w.heap.size) (vs2 := [⟨Ax, m, cx, t⟩]) (s2 := (s.room m).lay t) (by rw [<- hTT]; rfl) rfl HKlt.out (Nat.le_trans H7.out.2.1.size bel79.size)
           (fun p hp => by rw [List.mem_singleton.1 hp]; exact ⟨HSP.out.2.1, own_base (own_below ho bel9) (show w.heap.size <= w7.drew.heap.size from H7.out.2.1.size)⟩) (own_below H7.out.2.2.1 bel79) o1 hf5 o3 g12 b12 rfl rfl rfl (fun k hk => .inl hk) (fun k hk => .inr hk)
        | false =>
         have hls : ¬ (la + 1 = sg) := fun e => h21.out ⟨huN, rfl, e⟩
         have hrm : s.room m = (s.put (ft s.texts.length s.chain)).begin_ (la + 1) := by unfold Lg.room; rw [<- HN.out.2.2.2.2.1, if_neg hu1, <- HN.out.2.2.2.2.2.1, if_neg (by simp), <- HN.out.2.2.2.2.2.2.1, if_pos rfl, HN.out.2.2.2.1]
         have hcl := HOK.out.1.chain
         have hft : (ft s.texts.length s.chain).length = 48 := by rw [ft_length, hcl]
         have hf48 := HOK.out.2.1 HN.out.2.2.2.2.2.1.symm
         have okp : (s.put (ft s.texts.length s.chain)).Ok := HOK.out.1.put (by rw [hft]; exact hf48)
         have HFT : Hid (∀ W c', Sees W 1 C 32 (u8s s.chain) -> Calls Tryz.prog 92 #[.int .i64 T, .slice C 32 c'] W fun e w' => ∃ v, e = .returned v /\ w'.ownsRow W.heap.size 5 1 v 48 (u8s (ft s.texts.length s.chain)) /\ Below W.heap.size W w') := Lh (fun W c' hS => by rw [HN.out.2.1]; exact foot_ok s.texts.length s.chain C c' W hS hcl (by have := HOK.out.1.many; omega))
         have HPU : Hid (∀ W X c, LgP W lb b f s bg cB A cT C cC vs K0 -> Sees W 1 X 48 (u8s (ft s.texts.length s.chain)) -> _) := Lh (fun W X c hW hS => put_any hW HOK.out.1 (ft s.texts.length s.chain) X 48 c hS hft (by omega) (HOK.out.1.put_fit hf48))
         have HBG : Hid (∀ W, LgP W lb b f (s.put (ft s.texts.length s.chain)) bg cB A cT C cC vs K0 -> _) := Lh (fun W hW => begin_any hW okp (la + 1) (by have := HOK.out.1.last; rw [<- HN.out.2.2.2.1, <- HN.out.2.2.1] at this; show la + 1 < s.segs; rw [<- HN.out.2.2.1]; omega))
         rw [<- hrm] at HBG
         replace hrm := Lh hrm
         clear c0 c1 c2 c3 c8 c9 c12 hcl hft hf48 okp
         go_wp2_with fail
         refine region_fast [(0, true), (1, true), (2, true), (3, true), (4, true), (5, true), (6, true), (7, true), (8, true), (9, true), (10, false), (11, false)] [1, 2, 3, 4, 5, 6, 7, 8, 9, 10] 2046 [(10141204801825835211973625643008, 1, 0, 0), (20282409603651670423947251286016, 1, 0, 0), (40564819207303340847894502572032, 20282409603651670423947251286016, 2, 2), (81129638414606681695789005144064, 40564819207303340847894502572032, 4, 6), (162259276829213363391578010288128, 81129638414606681695789005144064, 8, 14), (324518553658426726783156020576256, 162259276829213363391578010288128, 16, 30), (649037107316853453566312041152512, 1, 0, 0), (1298074214633706907132624082305024, 649037107316853453566312041152512, 64, 64), (2596148429267413814265248164610048, 1298074214633706907132624082305024, 128, 192), (5192296858534827628530496329220096, 2596148429267413814265248164610048, 256, 448), (10384593717069655257060992658440192, 5516815412193254355313652349796352, 544, 1022), (20769187434139310514121985316880384, 10394734921871481092272966284083200, 1025, 2047)] (fun W => LgP W lb b f s bg cB A cT C cC vs K0 /\ Below w.heap.size w W) (by kernel_rfl) (by kernel_rfl) (by kernel_rfl) rfl (by kernel_rfl) (by kernel_rfl) ⟨H2d.out.1.below (Below.refl _ _).drew, H2d.out.2.drew⟩ (fun hS => ?_)
         repeat (first
          | (refine plan_read (v := ?_) rfl (fun _ _ _ h => h) rfl hS ?_ ?_; rotate_left 1; (focus (intro w' hS'; obtain ⟨q0, q1, q2, q3, q5, q6, q8, q9, q11, q12⟩ := HCELLS.out _ hS'.1; go_simp; try rfl)); (simp only [Act.put, pu1]; dsimp only [pu2, pu3]))
          | (refine plan_skip rfl (fun _ _ _ h => h) rfl hS ?_; (simp only [Act.put, pu1]; dsimp only [pu2, pu3])))
         refine plan_do (by rfl) (by rfl) (fun K hK => ?_)
         go_simp
         refine (HFT.out _ cC (Sees.of_own hS.1.chain)).mono ?_
         rintro e w3 ⟨v, rfl, ho, bel3⟩
         obtain ⟨Af, cf, rfl⟩ := own_shape ho
         have HPU1 := Lh (HPU.out w3 Af cf (hS.1.below bel3) (Sees.of_own ho))
         have HB3 := Lh (hS.2.trans (bel3.mono hS.2.size))
         refine hK.out _ _ (fun _ => ⟨hS.1.below bel3, hS.2.trans (bel3.mono hS.2.size)⟩) (fun hS => ?_); clear hK K; replace hS := hS rfl; try (simp only [Act.put, pu1]; dsimp only [pu2, pu3])
         repeat (first
          | (refine plan_read (v := ?_) rfl (fun _ _ _ h => h) rfl hS ?_ ?_; rotate_left 1; (focus (intro w' hS'; go_simp; try rfl)); (simp only [Act.put, pu1]; dsimp only [pu2, pu3]))
          | (refine plan_skip rfl (fun _ _ _ h => h) rfl hS ?_; (simp only [Act.put, pu1]; dsimp only [pu2, pu3])))
         refine plan_do (by rfl) (by rfl) (fun K hK => ?_)
         go_simp
         refine HPU1.out.mono ?_
         rintro e w4 ⟨rfl, h4, f4⟩
         have H4 := Lh (Ai h4 ((Fr.of_below HB3.out K0).trans f4 (fun _ _ h => h)))
         have c5' : w4.cell? ⟨lb, 5, none⟩ = some (.int .i64 la) := by rw [HN.out.2.2.2.1]; exact h4.top.cell 5
         clear h4 f4 ho bel3 HPU HPU1 HFT c5 c6 c11
         refine hK.out _ _ (fun h => by cases h) (fun _ => ?_); clear hK K; try (simp only [Act.put, pu1]; dsimp only [pu2, pu3])
         refine plan_nil ?_
         go_wp2_with fail
         refine (HBG.out _ H4.out.1).mono ?_
         rintro e w5 ⟨rfl, h5, f5⟩
         have HQ := Lh (Ai h5 (H4.out.2.trans f5 (fun _ _ h => h)))
         clear h5 f5 HBG c5'
         have c9 : w5.cell? ⟨lb, 9, none⟩ = some (.slice C 32 cC) := HQ.out.1.top.cell 9
         have HFR := Lh (frame_ok (s.room m).chain t C X cC m c w5 (Sees.of_own HQ.out.1.chain) (HSP.out.1.fr HQ.out.2 HSP.out.2.2.1) HR.out.ok.chain HSP.out.2.1 HR.out.one HR.out.most (HSP.out.2.2.2.1.fr HQ.out.2 HSP.out.2.2.2.2))
         go_wp2_with fail
         refine HFR.out.mono ?_
         rintro e w6 ⟨v, v', rfl, o1, o2, bel6⟩
         obtain ⟨Av, cv, rfl⟩ := own_shape o1
         obtain ⟨Cv, ccv, rfl⟩ := own_shape o2
         have hfit := HR.out.fit
         have hone := HR.out.one
         have hmost := HR.out.most
         have HPT := Lh (put_any (HQ.out.1.below bel6) HR.out.ok (frm (s.room m).chain t) Av (m + 40) cv (Sees.of_own o1) (by rw [frm_length, HSP.out.2.1]) (by omega) (HR.out.ok.put_fit (by rw [HR.out.n]; omega)))
         have HO2 := Lh o2
         have HB6 := Lh bel6
         clear o1 o2 bel6 c9 HFR
         go_wp2_with fail
         refine HPT.out.mono ?_
         rintro e w7 ⟨rfl, h7, f7⟩
         have f57 : Fr K0 w5 w7 := (Fr.of_below HB6.out K0).trans f7 (fun _ _ h => h)
         have hz5 := HQ.out.2.size
         have ho2 : w7.ownsRow w.heap.size 5 1 (.slice Cv 32 ccv) 32 (u8s (sha ((s.room m).chain ++ t))) := own_base (own_fr HO2.out f7 (fun g hg hK => by have := (HO2.out.lt g hg).1; have := HKlt.out g hK; omega)) hz5
         have hS7 : Sees w7 1 X m (u8s t) := HSP.out.1.fr (HQ.out.2.trans f57 (fun _ _ h => h)) HSP.out.2.2.1
         obtain ⟨gx, ox, rfl, -⟩ := hS7.2 (by omega)
         have HCL : Hid (∀ W, Below w7.heap.size w7 W -> Calls Tryz.prog 67 #[.slice (some ⟨gx, ox, none⟩) m c] W fun e w' => ∃ v, e = .returned v /\ w'.ownsRow W.heap.size 5 1 v m (u8s t) /\ Below W.heap.size W w') := Lh (fun W hW => clone_any ⟨gx, ox, none⟩ m c (u8s t) W (hS7.below hW) (u8s_one t) (by omega))
         have hTT : (s.room m).texts.length = T := by rw [HR.out.texts, <- HN.out.2.1]
         have hrw : w7.ownsRow 0 22 1 (.slice A T cT) T (vs.map Pt.val) := by rw [<- hTT]; exact h7.rows
         have c8 : w7.drew.cell? ⟨lb, 8, none⟩ = some (.slice A T cT) := by rw [<- hTT]; exact h7.top.cell 8
         have H7 := Lh (Ai h7 (Ai (HQ.out.2.trans f57 (fun _ _ h => h)) (Ai ho2 hrw)))
         have hTs : T <= 100000000 := by have := HOK.out.1.many; rw [<- HN.out.2.1] at this; exact this
         clear h7 f7 f57 hz5 ho2 hS7 hrw HPT HO2 HB6
         go_wp2_with fail
         refine region_free [0, 1, 2, 6, 10] [(3, true), (4, true), (5, true), (7, false), (8, false), (9, false), (11, true), (12, true), (13, false), (14, false), (15, false), (16, false)] [7, 8] 384 [(21778071482940061661655974875633165533184, 1, 0, 0), (43556142965880123323311949751266331066368, 1, 0, 0), (87112285931760246646623899502532662132736, 1, 0, 0), (174224571863520493293247799005065324265472, 87112285931760246646623899502532662132736, 4, 4), (348449143727040986586495598010130648530944, 174224571863520493293247799005065324265472, 8, 12), (696898287454081973172991196020261297061888, 348449143727040986586495598010130648530944, 16, 28), (1393796574908163946345982392040522594123776, 2, 0, 0), (2787593149816327892691964784081045188247552, 1393796574908163946345982392040522594123776, 64, 64), (5575186299632655785383929568162090376495104, 2787593149816327892691964784081045188247552, 128, 192), (11150372599265311570767859136324180752990208, 6272084587086737758556920764182351673556992, 416, 508), (22300745198530623141535718272648361505980416, 256, 0, 0), (44601490397061246283071436545296723011960832, 21778071482940061661655974875633165533184, 1021, 1021), (89202980794122492566142873090593446023921664, 44601490397061246283071436545296723011960832, 3069, 3069), (0, 100353353393387804136910732226917626776911872, 5117, 7165), (178405961588244985132285746181186892047843328, 43556142965880123323311949751266331066368, 16383, 16383), (356811923176489970264571492362373784095686656, 178405961588244985132285746181186892047843328, 32767, 32767), (0, 379112668375020593406107210635022145601667072, 49151, 65535)] (fun W => W.cell? ⟨lb, 8, none⟩ = some (.slice A T cT)) (by kernel_rfl) (by kernel_rfl) (by kernel_rfl) rfl (by kernel_rfl) (by kernel_rfl) c8 (fun hS => ?_)
         repeat (refine free_read (v := ?_) rfl (fun _ _ _ h => h) rfl ?_ ?_; rotate_left 1; (focus (intro w'; go_simp; try rfl)); (simp only [Act.put, pu1]; dsimp only [pu2, pu3]))
         refine free_nil ?_
         intro _
         repeat (first
          | (refine plan_read (v := ?_) rfl (fun _ _ _ h => h) rfl hS ?_ ?_; rotate_left 1; (focus (intro w' hS'; have e8 := hS'; go_simp; try rfl)); (simp only [Act.put, pu1]; dsimp only [pu2, pu3]))
          | (refine plan_skip rfl (fun _ _ _ h => h) rfl hS ?_; (simp only [Act.put, pu1]; dsimp only [pu2, pu3])))
         refine plan_do (by rfl) (by rfl) (fun K hK => ?_)
         go_simp
         refine (HCL.out _ (Below.refl _ _).drew).mono ?_
         rintro e w8 ⟨v, rfl, ho, bel8⟩
         obtain ⟨Ax, cx, rfl⟩ := own_shape ho
         have bel8' : Below w7.heap.size w7 w8 := ⟨bel8.os, bel8.tape, bel8.output, bel8.size, bel8.block⟩
         refine hK.out _ _ (fun _ => (bel8.cell (World.block_lt_of_cell? _ _ hS)).trans hS) (fun hS => ?_); clear hK K; replace hS := hS rfl; try (simp only [Act.put, pu1]; dsimp only [pu2, pu3])
         repeat (first
          | (refine plan_read (v := ?_) rfl (fun _ _ _ h => h) rfl hS ?_ ?_; rotate_left 1; (focus (intro w' hS'; have e8 := hS'; go_simp; try rfl)); (simp only [Act.put, pu1]; dsimp only [pu2, pu3]))
          | (refine plan_skip rfl (fun _ _ _ h => h) rfl hS ?_; (simp only [Act.put, pu1]; dsimp only [pu2, pu3])))
         refine plan_do (by rfl) (by rfl) (fun K hK => ?_)
         go_simp
         have bel9 := (Below.refl w8.heap.size w8).alloc (Nat.le_refl _) (.cells #[.slice Ax m cx] 22)
         refine hK.out _ _ (fun _ => (bel9.cell (World.block_lt_of_cell? _ _ hS)).trans hS) (fun hS => ?_); clear hK K; replace hS := hS rfl; try (simp only [Act.put, pu1]; dsimp only [pu2, pu3])
         repeat (first
          | (refine plan_read (v := ?_) rfl (fun _ _ _ h => h) rfl hS ?_ ?_; rotate_left 1; (focus (intro w' hS'; have e8 := hS'; go_simp; try rfl)); (simp only [Act.put, pu1]; dsimp only [pu2, pu3]))
          | (refine plan_skip rfl (fun _ _ _ h => h) rfl hS ?_; (simp only [Act.put, pu1]; dsimp only [pu2, pu3])))
         have bel79 : Below w7.heap.size w7 (w8.alloc (.cells #[.slice Ax m cx] 22)) := bel8'.trans (bel9.mono bel8'.size)
         refine plan_do (by rfl) (by rfl) (fun K hK => ?_)
         refine wp_app (.tmp 139) (.tmp 142) 115 rfl 0 22 _ 1 24 Tryz.underlying115 info_bytesZ rfl (by decide) (.slice A T cT) T (vs.map Pt.val) rfl (own_below H7.out.2.2.2 bel79) (some ⟨w8.heap.size, 0, none⟩) 1 _ [.slice Ax m cx] rfl (sees_new w8 22 [.slice Ax m cx] 1 1 rfl) (by simp [Value.oneCell']) (by unfold maxLen; omega) (by omega) (Nat.zero_le _) ?_
         intro v5 w10 o1 o2 o3 o4
         obtain ⟨A5, c5, rfl⟩ := own_shape o1
         have hf5 : Fr (fun k => (Value.slice A T cT).ownBlock = some k) (w8.alloc (.cells #[.slice Ax m cx] 22)) w10 := Fr.of_grown o2 (fun k h => h)
         have H9 := H7.out.1.below bel79
         have hrw9 := own_below H7.out.2.2.2 bel79
         have b10 : Blk w10 lb 150 _ := Blk.fr (F := fun k => (Value.slice A T cT).ownBlock = some k) H9.top hf5 (fun e => own_ne hrw9 H9.top (by decide) lb e rfl)
         have c8' : w10.cell? ⟨lb, 8, none⟩ = some (.slice A T cT) := by rw [<- hTT]; exact b10.cell 8
         have f8' : w10.frozen? ⟨lb, 8, none⟩ = false := b10.frozen 8
         clear hS
         have hS := c8'
         refine hK.out _ _ (fun h => by cases h) (fun _ => ?_); clear hK K; try (simp only [Act.put, pu1]; dsimp only [pu2, pu3])
         repeat (first
          | (refine plan_read (v := ?_) rfl (fun _ _ _ h => h) rfl hS ?_ ?_; rotate_left 1; (focus (intro w' hS'; go_simp; try rfl)); (simp only [Act.put, pu1]; dsimp only [pu2, pu3]))
          | (refine plan_skip rfl (fun _ _ _ h => h) rfl hS ?_; (simp only [Act.put, pu1]; dsimp only [pu2, pu3])))
         refine plan_do (by rfl) (by rfl) (fun K hK => ?_)
         go_simp
         refine hK.out _ _ (fun h => by cases h) (fun _ => ?_); clear hK K; try (simp only [Act.put, pu1]; dsimp only [pu2, pu3])
         refine plan_do (by rfl) (by rfl) (fun K hK => ?_)
         go_simp
         refine hK.out _ _ (fun h => by cases h) (fun _ => ?_); clear hK K; try (simp only [Act.put, pu1]; dsimp only [pu2, pu3])
         refine plan_do (by rfl) (by rfl) (fun K hK => ?_)
         go_simp
         refine hK.out _ _ (fun h => by cases h) (fun _ => ?_); clear hK K; try (simp only [Act.put, pu1]; dsimp only [pu2, pu3])
         have b11 := b10.set_ 8 (.slice A5 (T + 1) c5)
         have g11 : Fr (fun k => k = lb) w10 _ := Fr.setCell w10 ⟨lb, 8, none⟩ (.slice A5 (T + 1) c5) rfl
         have c9' : (w10.setCell ⟨lb, 8, none⟩ (.slice A5 (T + 1) c5)).cell? ⟨lb, 9, none⟩ = some (.slice C 32 cC) := b11.cell 9
         have f9' : (w10.setCell ⟨lb, 8, none⟩ (.slice A5 (T + 1) c5)).frozen? ⟨lb, 9, none⟩ = false := b11.frozen 9
         clear c8' f8'
         refine plan_do (by rfl) (by rfl) (fun K hK => ?_)
         go_simp
         refine hK.out _ _ (fun h => by cases h) (fun _ => ?_); clear hK K; try (simp only [Act.put, pu1]; dsimp only [pu2, pu3])
         refine plan_nil ?_
         have b12 := b11.set_ 9 (.slice Cv 32 ccv)
         have g12 : Fr (fun k => k = lb) w10 _ := g11.trans (Fr.setCell (F := fun k => k = lb) _ ⟨lb, 9, none⟩ (.slice Cv 32 ccv) rfl) (fun _ _ h => h)
         clear c9' f9' b11 g11
         go_wp2_with fail
         go_ret
         first
          | refine ⟨fun hne => absurd HE2.out hne, fun _ => ⟨rfl, ?_, A5, c5, Cv, ccv, vs ++ [⟨Ax, m, cx, t⟩], ?_⟩⟩
          | refine ⟨rfl, ?_, A5, c5, Cv, ccv, vs ++ [⟨Ax, m, cx, t⟩], ?_⟩
         ·refine ((H7.out.2.1.trans (Fr.of_below bel79 K0) (fun _ _ h => h)).trans hf5 (fun k hk e => H9.ka k (by rw [show ((s.room m).put (frm (s.room m).chain t)).texts.length = T from hTT]; exact e))).trans g12 (fun k hk e => by rw [e]; exact H9.kl)
         ·have ef : s.append t = (s.room m).lay t := by unfold Lg.append; rw [HSP.out.2.1]
          rw [ef]
          exact H9.took (B0 := w.heap.size) (vs2 := [⟨Ax, m, cx, t⟩]) (s2 := (s.room m).lay t) (by rw [<- hTT]; rfl) rfl HKlt.out (Nat.le_trans H7.out.2.1.size bel79.size)
           (fun p hp => by rw [List.mem_singleton.1 hp]; exact ⟨HSP.out.2.1, own_base (own_below ho bel9) (show w.heap.size <= w7.drew.heap.size from H7.out.2.1.size)⟩) (own_below H7.out.2.2.1 bel79) o1 hf5 o3 g12 b12 rfl rfl rfl (fun k hk => .inl hk) (fun k hk => .inr hk)
end Go.Proofs.YtkgaeoeibjoljaaGreatDoor
