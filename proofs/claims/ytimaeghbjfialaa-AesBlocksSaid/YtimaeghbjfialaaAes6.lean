/-
  A block, mixed up.
-/
import Derived.Test.YtimaeghbjfialaaAes5
namespace Go.Proofs.Ytimaeghbjfialaa
open Go.RowKit

theorem plan_load {P : Program} {ops : Array Oper} {Q : Exit → Act → World → Prop} {S : World → Prop} {need : Nat → Bool} {i : Nat} {o : Oper} {rest : List (Nat × Bool)} {a : Act} {w : World}
    (ho : ops.toList[i]? = some o) (hQ : ∀ v c a w, Q (.panic c) (a.put o.dst v) w → Q (.panic c) a w) (hg : Region.wanted o (yielded ops a.tmps) = true) (hS : S w) (ty : TypeId) (x : Operand) (hop : o.op = .load ty x)
    (b off : Nat) (hx : a.eval x = .pointer (some ⟨b, off, none⟩)) (cs : List Value) (d : TypeDesc) (hc : ∀ w, S w → w.rangeAt b off cs) (hu : P.underlying ty = some d) (hd : d.isRow = true) (hi : (P.info? ty).map (·.size) = some cs.length)
    (h : wpPlan P ops Q S need rest (a.put o.dst (.agg cs.toArray)) w) : wpPlan P ops Q S need ((i, true) :: rest) a w :=
  ⟨o, _, at_list ho, yieldsIf_load_mid hg ty x hop b off hx cs d hc hu hd hi, hS, hQ _, h⟩

theorem range_all {w : World} {g : Nat} {t : TypeId} {l : List Nat} (h : Blk w g t (nbs l).toArray) : w.rangeAt g 0 (nbs l) :=
  range_blk h (by omega) fun i _ => by rw [Nat.zero_add]

set_option maxHeartbeats 1000000 in
theorem block_any (key b : List Nat) (hk : key.length = 16) (hb : b.length = 16) (hkb : byt key) (hbb : byt b) (w : World) :
    Calls Try.prog 9 #[.agg (nbs key).toArray, .agg (nbs b).toArray] w fun e w' => e = .returned (.agg (nbs (enc key b)).toArray) ∧ Below w.heap.size w w' := by
  obtain ⟨ck, hck⟩ : ∃ x, x = (nbs key).toArray := ⟨_, rfl⟩
  obtain ⟨cb, hcb⟩ : ∃ x, x = (nbs b).toArray := ⟨_, rfl⟩
  rw [← hck, ← hcb]
  have hks : ck.size = 16 := by rw [hck, nbs_size, hk]
  have hbs : cb.size = 16 := by rw [hcb, nbs_size, hb]
  have HCK := Lib.hid hck; clear hck
  have HCB := Lib.hid hcb; clear hcb
  obtain ⟨z, hz⟩ : ∃ z : Array Value, z = (nbs (tab 176 fun _ => 0)).toArray := ⟨_, rfl⟩
  have hzi : (Try.prog.info? 41).map (fun i => (i.zero, i.size)) = some (some (.agg (nbs (tab 176 fun _ => 0)).toArray), 176) := by kernel_rfl
  obtain ⟨hzero, hi176⟩ := zero_of_info hzi
  rw [← hz] at hzero
  have hzs : z.size = 176 := by rw [hz, nbs_size, tab_length]
  clear hz hzi
  obtain ⟨y, hy⟩ : ∃ y : Array Value, y = (nbs (boxg 0)).toArray := ⟨_, rfl⟩
  have hyi : (Try.prog.info? 39).map (fun i => (i.zero, i.size)) = some (some (.agg (nbs (boxg 0)).toArray), 256) := by kernel_rfl
  obtain ⟨hyzero, hi256⟩ := zero_of_info hyi
  rw [← hy] at hyzero
  have hys : y.size = 256 := by rw [hy, nbs_size, boxg, tab_length]
  clear hy hyi
  obtain ⟨tb, htb⟩ : ∃ x, x = (nbs sbox).toArray := ⟨_, rfl⟩
  have htbs : tb.size = 256 := by rw [htb, nbs_size, length_sbox]
  have HI176 := Lib.hid hi176; clear hi176
  have HI256 := Lib.hid hi256; clear hi256
  have hi16 : (Try.prog.info? 22).map (·.size) = some 16 := by kernel_rfl
  have HI16 := Lib.hid hi16; clear hi16
  have hK0 : Blk (((w.alloc (.cells ck 22)).alloc (.cells cb 22)).alloc (.cells (nbs (tab 16 fun _ => 0)).toArray 22)) w.heap.size 22 ck := ((Blk.new _ _ _).alloc _).alloc _
  have hB0 : Blk (((w.alloc (.cells ck 22)).alloc (.cells cb 22)).alloc (.cells (nbs (tab 16 fun _ => 0)).toArray 22)) (w.heap.size + 1) 22 cb := (Blk.new' (by simp) rfl).alloc _
  have hR0 : Blk (((w.alloc (.cells ck 22)).alloc (.cells cb 22)).alloc (.cells (nbs (tab 16 fun _ => 0)).toArray 22)) (w.heap.size + 1 + 1) 22 (nbs (tab 16 fun _ => 0)).toArray := Blk.new' (by simp) rfl
  have hbel0 : Below w.heap.size w (((w.alloc (.cells ck 22)).alloc (.cells cb 22)).alloc (.cells (nbs (tab 16 fun _ => 0)).toArray 22)) := (((Below.refl _ _).alloc (Nat.le_refl _) _).alloc (by simp) _).alloc (by simp; omega) _
  have HK0 := Lib.hid hK0; have HB0 := Lib.hid hB0; have HR0 := Lib.hid hR0; have HBEL0 := Lib.hid hbel0; clear hK0 hB0 hR0 hbel0
  have HE := Lib.hid (expand_any key hk hkb)
  have HX := Lib.hid boxes_any
  rw [← htb] at HX HE
  rw [← HCK.out] at HE
  have HA := Lib.hid (add_any b (kr key 0) hb (tab_length _ _) hbb (kr_byt hkb 0))
  rw [← HCB.out] at HA
  have HTB := Lib.hid htb; clear htb
  go_enter Try.func9, Try.ntmps9
  go_wp2_with fail
  refine (HX.out _).mono ?_
  rintro e w1 ⟨rfl, hb1⟩
  have hK1 := HK0.out.below hb1 HK0.out.lt
  have hB1 := HB0.out.below hb1 HB0.out.lt
  have hR1 := HR0.out.below hb1 HR0.out.lt
  have hbel1 : Below w.heap.size w w1 := HBEL0.out.trans (hb1.mono HBEL0.out.size)
  have hsz1 := hR1.lt
  obtain ⟨g5, hg5⟩ : ∃ g, g = w1.heap.size := ⟨_, rfl⟩
  have hT1 : Blk (w1.alloc (.cells y 39)) w1.heap.size 39 y := Blk.new _ _ _
  have hT2 := hT1.setRow tb
  have hF2 : Below g5 w1 ((w1.alloc (.cells y 39)).setRow w1.heap.size tb) := below_setRow ((Below.refl _ _).alloc (Nat.le_of_eq hg5) _) (Nat.le_of_eq hg5) _
  have hK2 := hK1.below hF2 (by omega)
  have hB2 := hB1.below hF2 (by omega)
  have hR2 := hR1.below hF2 (by omega)
  have hbel2 := hbel1.trans (hF2.mono (by omega))
  clear HK0 HB0 HR0 HBEL0 hb1 hK1 hB1 hR1 hbel1 hF2
  have HB2 := Lib.hid hB2; have HR2 := Lib.hid hR2; have HBEL2 := Lib.hid hbel2; clear hB2 hR2 hbel2
  go_wp2_with (first
    | (refine wpList_store_row rfl 39 (.tmp 5) (.tmp 9) rfl w1.heap.size _ rfl rfl 39 _ hT1 (by rw [htbs]; exact HI256.out) (by rw [hys, htbs]) (by rw [HTB.out]; exact nbs_one _) ?_)
    | (refine wpList_load_row rfl 22 (.tmp 2) rfl w.heap.size rfl 22 _ (0, 0) _ hK2 Try.underlying22 rfl (by rw [hks]; exact HI16.out) ?_)
    | (refine wpList_load_row rfl 39 (.tmp 5) rfl w1.heap.size rfl 39 _ (0, 0) _ hT2 Try.underlying39 rfl (by rw [htbs]; exact HI256.out) ?_))
  rw [← hg5]
  rw [← hg5] at hT2 HB2 HR2 HBEL2
  rw [← hg5] at hsz1
  clear hT1 hK2 hg5
  generalize (w1.alloc (.cells y 39)).setRow g5 tb = W2 at *
  refine (HE.out W2).mono ?_
  rintro e w3 ⟨rfl, hb3⟩
  have hT3 := hT2.below hb3 hT2.lt
  have hB3 := HB2.out.below hb3 HB2.out.lt
  have hR3 := HR2.out.below hb3 HR2.out.lt
  have hbel3 : Below w.heap.size w w3 := HBEL2.out.trans (hb3.mono HBEL2.out.size)
  have hsz3 := hT3.lt
  obtain ⟨g6, hg6⟩ : ∃ g, g = w3.heap.size := ⟨_, rfl⟩
  obtain ⟨kf, hkf⟩ : ∃ k, k = (nbs (KF key)).toArray := ⟨_, rfl⟩
  have hkfs : kf.size = 176 := by rw [hkf, nbs_size, KF_length hk]
  rw [← hkf]
  have HKF := Lib.hid hkf; clear hkf
  have hY3 : Blk (w3.alloc (.cells z 41)) w3.heap.size 41 z := Blk.new _ _ _
  have hY4 := hY3.setRow kf
  have hF4 : Below g6 w3 ((w3.alloc (.cells z 41)).setRow w3.heap.size kf) := below_setRow ((Below.refl _ _).alloc (Nat.le_of_eq hg6) _) (Nat.le_of_eq hg6) _
  have hT4 := hT3.below hF4 (by omega)
  have hB4 := hB3.below hF4 (by omega)
  have hR4 := hR3.below hF4 (by omega)
  have hbel4 := hbel3.trans (hF4.mono (by omega))
  have hrg4 : ((w3.alloc (.cells z 41)).setRow w3.heap.size kf).rangeAt w3.heap.size 0 (nbs (kr key 0)) := by
    rw [HKF.out] at hY4 ⊢
    refine range_blk hY4 (by rw [KF_length hk, kr, tab_length]; omega) (fun i hi => ?_)
    rw [kr, tab_length] at hi
    rw [kr_get key 0 hi, Nat.mul_zero]
  have hkl0 : (kr key 0).length = 16 := tab_length _ _
  clear hb3 hT3 hB3 hR3 hbel3 hF4 HB2 HR2 HBEL2 hT2
  have HT4 := Lib.hid hT4; have HR4 := Lib.hid hR4; have HBEL4 := Lib.hid hbel4; clear hT4 hR4 hbel4
  go_wp2_with (first
    | (refine wpList_store_row rfl 41 (.tmp 6) (.tmp 12) rfl w3.heap.size _ rfl rfl 41 _ hY3 (by rw [hkfs]; exact HI176.out) (by rw [hzs, hkfs]) (by rw [HKF.out]; exact nbs_one _) ?_)
    | (refine wpList_load_row rfl 22 (.tmp 3) rfl (w.heap.size + 1) rfl 22 _ (0, 0) _ hB4 Try.underlying22 rfl (by rw [hbs]; exact HI16.out) ?_)
    | (refine wpList_load_mid rfl 22 (.tmp 14) rfl w3.heap.size 0 rfl (nbs (kr key 0)) _ hrg4 Try.underlying22 rfl (by rw [length_nbs, hkl0]; exact HI16.out) ?_))
  rw [← hg6]
  rw [← hg6] at hY4 HT4 HR4 HBEL4
  rw [← hg6] at hsz3
  clear hY3 hB4 hrg4 hg6
  generalize (w3.alloc (.cells z 41)).setRow g6 kf = W4 at *
  refine (HA.out W4).mono ?_
  rintro e w5 ⟨rfl, hb5⟩
  have hT5 := HT4.out.below hb5 HT4.out.lt
  have hY5 := hY4.below hb5 hY4.lt
  have hR5 := HR4.out.below hb5 HR4.out.lt
  have hbel5 : Below w.heap.size w w5 := HBEL4.out.trans (hb5.mono HBEL4.out.size)
  have hsz5 := hY5.lt
  obtain ⟨g7, hg7⟩ : ∃ g, g = w5.heap.size := ⟨_, rfl⟩
  rw [show addk b (kr key 0) = st key b 0 from rfl]
  have hsl : ∀ r, (nbs (st key b r)).toArray.size = 16 := fun r => by rw [nbs_size, st_length]
  have hX5 : Blk (w5.alloc (.cells (nbs (tab 16 fun _ => 0)).toArray 22)) w5.heap.size 22 (nbs (tab 16 fun _ => 0)).toArray := Blk.new _ _ _
  have hX6 := hX5.setRow (nbs (st key b 0)).toArray
  have hF6 : Below g7 w5 ((w5.alloc (.cells (nbs (tab 16 fun _ => 0)).toArray 22)).setRow w5.heap.size (nbs (st key b 0)).toArray) := below_setRow ((Below.refl _ _).alloc (Nat.le_of_eq hg7) _) (Nat.le_of_eq hg7) _
  have hT6 := hT5.below hF6 (by omega)
  have hY6 := hY5.below hF6 (by omega)
  have hR6 := hR5.below hF6 (by omega)
  have hbel6 := hbel5.trans (hF6.mono (by omega))
  clear hb5 hT5 hY5 hR5 hbel5 hF6 HT4 HR4 HBEL4 hY4
  have HT6 := Lib.hid hT6; have HR6 := Lib.hid hR6; have HBEL6 := Lib.hid hbel6; have HY6 := Lib.hid hY6; have HX6 := Lib.hid hX6; clear hT6 hR6 hbel6 hY6 hX6
  go_wp2_with (refine wpList_store_row rfl 22 (.tmp 7) (.tmp 16) rfl w5.heap.size _ rfl rfl 22 _ hX5 (by rw [hsl]; exact HI16.out) (by rw [hsl]; rfl) (nbs_one _) ?_)
  clear hX5
  rw [← hg7] at HX6 HT6 HR6 HBEL6 HY6 hsz5
  have hz16 : (nbs (tab 16 fun _ => 0)).toArray = #[.int .u8 0, .int .u8 0, .int .u8 0, .int .u8 0, .int .u8 0, .int .u8 0, .int .u8 0, .int .u8 0, .int .u8 0, .int .u8 0, .int .u8 0, .int .u8 0, .int .u8 0, .int .u8 0, .int .u8 0, .int .u8 0] := rfl
  rw [← hz16, ← hg7]
  clear hg7
  generalize (w5.alloc (.cells (nbs (tab 16 fun _ => 0)).toArray 22)).setRow g7 (nbs (st key b 0)).toArray = W6 at *
  clear hz16
  go_loopw [8] (fun i wr => ∃ r : Nat, r ≤ 10 ∧ i = .int .i64 ((r : Int) + 1) ∧ Blk wr g5 39 tb ∧ Blk wr g6 41 kf ∧ Blk wr g7 22 (nbs (st key b r)).toArray ∧ Blk wr (w.heap.size + 1 + 1) 22 (nbs (tab 16 fun _ => 0)).toArray ∧ Below w.heap.size w wr) (fun i _ => 11 - (intOf i).toNat)
  case atStart => exact ⟨0, by omega, rfl, HT6.out, HY6.out, HX6.out, HR6.out, HBEL6.out⟩
  case round =>
    obtain ⟨r, hr, rfl, hT, hY, hX, hR, hbel⟩ := hrel
    clear HT6 HY6 HX6 HR6 HBEL6
    by_cases hlt : r < 10
    · have hlti : (r : Int) + 1 ≤ 10 := by omega
      have hlti2 : (r : Int) + 1 < 11 := by omega
      have hn1 : ((r : Int) + 1).toNat = r + 1 := by omega
      have hr0 : (0 : Int) ≤ (r : Int) + 1 := by omega
      obtain ⟨lb, hlb⟩ : ∃ lb, lb = (r + 1 == 10) := ⟨_, rfl⟩
      have hdec : ((r : Int) + 1 == 10) = lb := by
        rw [hlb]
        rw [Bool.eq_iff_iff]; simp; omega
      have hrg : ∀ w', Blk w' g6 41 kf → w'.rangeAt g6 ((r + 1) * 16) (nbs (kr key (r + 1))) := fun w' hY => by
        rw [HKF.out] at hY
        refine range_blk hY (by rw [KF_length hk, kr, tab_length]; omega) (fun i hi => ?_)
        rw [kr, tab_length] at hi
        rw [kr_get key _ hi, show 16 * (r + 1) + i = (r + 1) * 16 + i by omega]
      have HRG := Lib.hid hrg; clear hrg
      have hkl : (kr key (r + 1)).length = 16 := tab_length _ _
      have hstl := st_length key b r
      have HB7 := Lib.hid (round_any (st key b r) lb hstl (st_byt hkb hbb r))
      have HA7 := Lib.hid (add_any (rnd (st key b r) lb) (kr key (r + 1)) (tab_length _ _) hkl (rnd_byt _ _) (kr_byt hkb _))
      rw [show addk (rnd (st key b r) lb) (kr key (r + 1)) = st key b (r + 1) by rw [hlb]; rfl] at HA7
      clear hlb
      have HTA : Hid (∀ w', Blk w' g5 39 tb → w'.rangeAt g5 0 (nbs sbox)) := Lib.hid fun w' h => range_all (by rw [← HTB.out]; exact h)
      have HT := Lib.hid hT; have HY := Lib.hid hY; have HXX := Lib.hid hX; have HR := Lib.hid hR; have HBEL := Lib.hid hbel; clear hT hY hX hR hbel
      have HDEC := Lib.hid hdec; clear hdec
      go_wp2_with fail
      refine region_plan [(0, true), (1, true), (2, true), (3, true), (5, true), (6, true), (7, true), (4, false), (8, false), (9, false)] [1, 2, 3, 4, 5, 6, 7] (fun w' => Blk w' g7 22 (nbs (st key b r)).toArray ∧ Blk w' g5 39 tb ∧ Blk w' g6 41 kf) (by kernel_rfl) (by kernel_rfl) rfl (by kernel_rfl) ⟨HXX.out, HT.out, HY.out⟩ (fun hS => ?_)
      refine plan_load rfl (fun _ _ _ _ h => h) rfl hS 22 (.tmp 7) rfl g7 0 rfl (nbs (st key b r)) _ (fun w' h => range_all h.1) Try.underlying22 rfl (by rw [length_nbs, hstl]; exact HI16.out) ?_; simp only [Act.put, List.setIfInBounds_toArray, List.set_cons_zero, List.set_cons_succ]
      refine plan_load rfl (fun _ _ _ _ h => h) rfl hS 39 (.tmp 5) rfl g5 0 rfl (nbs sbox) _ (fun w' h => HTA.out w' h.2.1) Try.underlying39 rfl (by rw [length_nbs, length_sbox]; exact HI256.out) ?_; simp only [Act.put, List.setIfInBounds_toArray, List.set_cons_zero, List.set_cons_succ]
      refine plan_read (v := ?_) rfl (fun _ _ _ h => h) rfl hS ?_ ?_; rotate_left 1; (focus (intro w' hS'; go_simp; try rfl)); simp only [Act.put, List.setIfInBounds_toArray, List.set_cons_zero, List.set_cons_succ]
      refine plan_read (v := ?_) rfl (fun _ _ _ h => h) rfl hS ?_ ?_; rotate_left 1; (focus (intro w' hS'; go_simp; try rfl)); simp only [Act.put, List.setIfInBounds_toArray, List.set_cons_zero, List.set_cons_succ]
      refine plan_read (v := ?_) rfl (fun _ _ _ h => h) rfl hS ?_ ?_; rotate_left 1; (focus (intro w' hS'; go_simp; try rfl)); simp only [Act.put, List.setIfInBounds_toArray, List.set_cons_zero, List.set_cons_succ]
      refine plan_read (v := ?_) rfl (fun _ _ _ h => h) rfl hS ?_ ?_; rotate_left 1; (focus (intro w' hS'; go_simp; try rfl)); simp only [Act.put, List.setIfInBounds_toArray, List.set_cons_zero, List.set_cons_succ]
      refine plan_load rfl (fun _ _ _ _ h => h) rfl hS 22 (.tmp 27) rfl g6 ((r + 1) * 16) rfl (nbs (kr key (r + 1))) _ (fun w' h => HRG.out w' h.2.2) Try.underlying22 rfl (by rw [length_nbs, hkl]; exact HI16.out) ?_; simp only [Act.put, List.setIfInBounds_toArray, List.set_cons_zero, List.set_cons_succ]
      refine plan_do (by rfl) (by rfl) (fun K hK => ?_)
      go_simp
      rw [HDEC.out]
      refine (HB7.out _).mono ?_
      rintro e w6 ⟨rfl, hb6⟩
      have hs6 : Blk w6 g7 22 (nbs (st key b r)).toArray ∧ Blk w6 g5 39 tb ∧ Blk w6 g6 41 kf := ⟨hS.1.below hb6 hS.1.lt, hS.2.1.below hb6 hS.2.1.lt, hS.2.2.below hb6 hS.2.2.lt⟩
      have hR6 : Blk w6 (w.heap.size + 1 + 1) 22 (nbs (tab 16 fun _ => 0)).toArray := HR.out.drw.below hb6 HR.out.lt
      have hbel6 : Below w.heap.size w w6 := HBEL.out.drew.trans (hb6.mono HBEL.out.drew.size)
      refine hK.out _ _ (fun _ => hs6) (fun hS => ?_); clear hK K; replace hS := hS rfl; try simp only [Act.put, List.setIfInBounds_toArray, List.set_cons_zero, List.set_cons_succ]
      refine plan_do (by rfl) (by rfl) (fun K hK => ?_)
      go_simp
      refine (HA7.out _).mono ?_
      rintro e w7 ⟨rfl, hb7⟩
      have hX7 := hS.1.below hb7 hS.1.lt
      have hT7 := hS.2.1.below hb7 hS.2.1.lt
      have hY7 := hS.2.2.below hb7 hS.2.2.lt
      have hR7 := hR6.below hb7 hR6.lt
      have hbel7 : Below w.heap.size w w7 := hbel6.trans (hb7.mono hbel6.size)
      refine hK.out _ _ (fun h => by cases h) (fun _ => ?_); clear hK K; try simp only [Act.put, List.setIfInBounds_toArray, List.set_cons_zero, List.set_cons_succ]
      refine plan_do (by rfl) (by rfl) (fun K hK => ?_)
      refine wp_store_row 22 (.tmp 7) (.tmp 29) rfl g7 _ rfl rfl 22 _ hX7 (by rw [hsl]; exact HI16.out) (by rw [hsl, hsl]) (nbs_one _) ?_
      refine hK.out _ _ (fun h => by cases h) (fun _ => ?_); clear hK K; try simp only [Act.put, List.setIfInBounds_toArray, List.set_cons_zero, List.set_cons_succ]
      refine plan_nil ?_
      have hfr : Fr (· = g7) w7 (w7.setRow g7 (nbs (st key b (r + 1))).toArray) := Fr.setRow _ _ _ rfl
      have hT8 := hT7.fr hfr (Nat.ne_of_lt (by omega)); have hY8 := hY7.fr hfr (Nat.ne_of_lt (by omega)); have hR8 := hR7.fr hfr (Nat.ne_of_lt (by omega))
      have hX8 := hX7.setRow (nbs (st key b (r + 1))).toArray
      have hbel8 := below_setRow hbel7 (show w.heap.size ≤ g7 by omega) (nbs (st key b (r + 1))).toArray
      generalize w7.setRow g7 (nbs (st key b (r + 1))).toArray = w8 at *
      go_wp2_with fail
      go_roundw
      case rel => exact ⟨r + 1, by omega, by go_num, hT8, hY8, hX8, hR8, hbel8⟩
      case measure => simp [intOf]; omega
    · obtain rfl : r = 10 := by omega
      obtain ⟨C, hC⟩ : ∃ C, C = (nbs (st key b 10)).toArray := ⟨_, rfl⟩
      have hlen : C.size = 16 := by rw [hC, hsl]
      rw [← hC] at hX
      have HC := Lib.hid hC; clear hC
      go_wp2_with (first
        | (refine wpList_load_row rfl 22 (.tmp 7) rfl g7 rfl 22 _ (0, 0) _ hX Try.underlying22 rfl (by rw [hlen]; exact HI16.out) ?_)
        | (refine wpList_store_row rfl 22 (.tmp 4) (.tmp 30) rfl (w.heap.size + 1 + 1) _ rfl rfl 22 _ hR (by rw [hlen]; exact HI16.out) (by rw [hlen]; rfl) (by rw [HC.out]; exact nbs_one _) ?_))
      refine bodyPost_ret (v := .agg C) (results_cell_row rfl _ _ (w.heap.size + 1 + 1) 22 C (0, 0) _ rfl ?_ Try.underlying22 rfl ?_) rfl ⟨?_, below_setRow hbel (by omega) _⟩
      · exact hR.setRow C
      · rw [hlen]; exact HI16.out
      · rw [HC.out]; rfl
end Go.Proofs.Ytimaeghbjfialaa
