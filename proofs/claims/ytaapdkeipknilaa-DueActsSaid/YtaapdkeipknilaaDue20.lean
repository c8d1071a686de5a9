/-
  DueActs.
-/
import Derived.Test.YtaapdkeipknilaaDue19
namespace Go.Proofs.Ytaapdkeipknilaa
set_option maxRecDepth 4000
open Go.RowKit

set_option maxHeartbeats 4000000 in
theorem acts_walk (a : Option Addr) (ys : List (Int × Int)) (len cap : Nat) (b : Option Addr) (zs : List Da) (len2 cap2 : Nat) (W : World) (m : ys.length = len) (hS : Sees W 2 a ys.length (dcs ys)) (m2 : zs.length = len2) (hZ : Sees W 3 b zs.length (dacs zs) ∧ ∀ y ∈ zs, DaOk y) :
    Calls Try.prog 5 #[.slice a len cap, .slice b len2 cap2] W fun e W' => e = .returned (.bool true) ∧ Below W.heap.size W W' := by
  subst m
  subst m2
  have HA := Lib.hid (fun w => awake_any w)
  have HS := Lib.hid hS
  have HZ := Lib.hid hZ
  clear hS hZ
  by_cases hl : 40 < ys.length ∨ 60 < zs.length
  · by_cases h40 : 40 < ys.length
    · have hl2 : (40 : Int) < (ys.length : Int) := by omega
      clear hl h40
      go_enter Try.func5, Try.ntmps5
      go_wp2_with fail
      refine (HA.out _).mono ?_
      rintro e w1 ⟨rfl, b1⟩
      have H1 := Lib.hid b1
      clear b1
      go_wp2_with fail
      refine (HA.out _).mono ?_
      rintro e w2 ⟨rfl, b2⟩
      have H2 := Lib.hid (H1.out.trans (b2.mono H1.out.size))
      clear b2
      go_wp2_with fail
      go_ret
      exact ⟨rfl, H2.out⟩
    · have hl1 : ¬ ((40 : Int) < (ys.length : Int)) := by omega
      have hl2 : (60 : Int) < (zs.length : Int) := by omega
      clear hl h40
      go_enter Try.func5, Try.ntmps5
      go_wp2_with fail
      refine (HA.out _).mono ?_
      rintro e w1 ⟨rfl, b1⟩
      have H1 := Lib.hid b1
      clear b1
      go_wp2_with fail
      refine (HA.out _).mono ?_
      rintro e w2 ⟨rfl, b2⟩
      have H2 := Lib.hid (H1.out.trans (b2.mono H1.out.size))
      clear b2
      go_wp2_with fail
      go_ret
      exact ⟨rfl, H2.out⟩
  · have hl1 : ¬ ((40 : Int) < (ys.length : Int)) := by omega
    have hl2 : ¬ ((60 : Int) < (zs.length : Int)) := by omega
    have HL := Lib.hid (show ys.length ≤ 40 ∧ zs.length ≤ 60 by omega)
    clear hl
    go_enter Try.func5, Try.ntmps5
    go_wp2_with fail
    refine (HA.out _).mono ?_
    rintro e w1 ⟨rfl, b1⟩
    have HN := Lib.hid (new_any ys a cap w1 (HS.out.below b1) (by have := HL.out; omega))
    have H1 := Lib.hid b1
    clear b1
    go_wp2_with fail
    refine HN.out.mono ?_
    rintro e w2 ⟨rfl, ⟨v2, q2, g2⟩, b2⟩
    have H2 := Lib.hid (acts_start W w2 w1.heap.size v2 _ (QIn.start H1.out q2 g2 b2))
    obtain ⟨S0, hS0⟩ : ∃ S0, ys.foldl pushS [] = S0 := ⟨_, rfl⟩
    have HS0 := Lib.hid (show ys.foldl pushS [] = S0 from hS0)
    have HL0 := Lib.hid (show S0.length ≤ 40 by have := foldl_length ys []; have := HL.out; have h3 : ([] : List (Int × Int)).length = 0 := rfl; rw [← hS0]; omega)
    have HSO := Lib.hid (And.intro H2.out.q_.sorted trivial)
    rw [hS0] at H2 HSO
    clear q2 g2 b2 HN hS0
    obtain ⟨len, hlen⟩ : ∃ len, ys.length = len := ⟨_, rfl⟩
    obtain ⟨len2, hlen2⟩ : ∃ len2, zs.length = len2 := ⟨_, rfl⟩
    have HLN := Lib.hid (And.intro hlen hlen2)
    rw [hlen, hlen2] at HL
    rw [hlen] at hl1 ⊢
    rw [hlen2] at hl2 ⊢
    generalize w1.heap.size = q at *
    clear hlen hlen2
    go_wp2_with fail
    go_loopw [6, 7] (fun u ii wr => ∃ (i : Nat) (A : Option Addr) (c : Nat), ii = .int .i64 i ∧ i ≤ len ∧ u = .slice A ((ys.take i).foldl pushS []).length c ∧ Hid (LQ W wr q v2 A c S0 ((ys.take i).foldl pushS []) ∧ Sorted ((ys.take i).foldl pushS []))) (fun _ ii _ => len - (intOf ii).toNat)
    case atStart => exact ⟨0, none, 0, rfl, Nat.zero_le _, rfl, Lib.hid ⟨H2.out, .nil⟩⟩
    case round =>
      obtain ⟨i, A, c, rfl, hi, rfl, hr⟩ := hrel
      by_cases hlt : i < len
      · have hlti : (i : Int) < (len : Int) := by omega
        have hle2 : (len : Int) ≤ 40 := by have := HL.out; omega
        have hge := gg_get (l := ys) (k := i) (by rw [HLN.out.1]; exact hlt)
        obtain ⟨g, o, rfl, x0, x1⟩ := in_due (HS.out.below hr.out.1.q_.bel) hge
        have hfl := fold_small ys i (by have := HL.out; have := HLN.out; omega)
        have htk := (show ys.take (i + 1) = ys.take i ++ [gg ys i] by rw [List.take_add_one, hge]; rfl)
        have hT : (ys.take (i + 1)).foldl pushS [] = pushS ((ys.take i).foldl pushS []) (gg ys i) := by rw [htk, List.foldl_append]; rfl
        have HT := Lib.hid hT
        have HP := Lib.hid (lq_push hr.out.1 hr.out.2 hfl (gg ys i))
        have hso : Sorted (pushS ((ys.take i).foldl pushS []) (gg ys i)) := by
          unfold pushS
          split
          · exact hr.out.2
          · exact ins_sorted hr.out.2
        have HSO' := Lib.hid hso
        clear hge hfl htk hT hso
        generalize (ys.take i).foldl pushS [] = T at *
        generalize gg ys i = y at *
        obtain ⟨p, t⟩ := y
        simp only at x0 x1
        go_wp2_with fail
        refine HP.out.mono ?_
        rintro e w3 ⟨B, c', rfl, hq3, hb3⟩
        have H3 := Lib.hid (And.intro hq3 HSO'.out)
        clear hq3 hb3
        go_wp2_with fail
        go_roundw
        case rel => exact ⟨i + 1, B, c', by go_num, by omega, by rw [HT.out], Lib.hid (by rw [HT.out]; exact H3.out)⟩
        case measure => simp [intOf]; omega
      · obtain rfl : i = len := by omega
        have hq4 := hr.out.1
        rw [← HLN.out.1, List.take_length, HS0.out] at hq4
        have HQ4 := Lib.hid hq4
        have e4 : (ys.take i).foldl pushS [] = S0 := by rw [← HLN.out.1, List.take_length, HS0.out]
        rw [e4]
        clear hq4 e4 hr H2
        go_wp2_with fail
        go_loopw [6, 8, 9, 10, 11, 12, 13, 14, 15, 16, 17] (fun u ii _ _ _ _ _ _ _ _ _ wr => ∃ (i : Nat) (A : Option Addr) (c : Nat) (v : Value) (S : List (Int × Int)), ii = .int .i64 i ∧ i ≤ len2 ∧ u = .slice A S.length c ∧ Hid (LQ W wr q v A c S S ∧ S.length ≤ 40 + i)) (fun _ ii _ _ _ _ _ _ _ _ _ _ => len2 - (intOf ii).toNat)
        case atStart => exact ⟨0, A, c, v2, S0, rfl, Nat.zero_le _, rfl, Lib.hid ⟨HQ4.out, HL0.out⟩⟩
        case round =>
          obtain ⟨i2, A2, c2, v3, S, rfl, hi2, rfl, hr⟩ := hrel
          by_cases hlt2 : i2 < len2
          · have hlti2 : (i2 : Int) < (len2 : Int) := by omega
            have hle3 : (len2 : Int) ≤ 60 := by have := HL.out; omega
            obtain ⟨y, hy⟩ : ∃ y, zs[i2]? = some y := ⟨_, List.getElem?_eq_getElem (by rw [HLN.out.2]; exact hlt2)⟩
            obtain ⟨g2, o2, rfl, x0, x1, x2⟩ := in_dact (HZ.out.1.below hr.out.1.q_.bel) hy
            have hok := HZ.out.2 y (List.mem_of_getElem? hy)
            obtain ⟨kd, p, t⟩ := y
            have HRS := Lib.hid (fun w => rest_at kd 3 w hok.1 hok.2 (by decide) (by decide))
            have hrl := restN_lt kd 3 (by decide)
            obtain ⟨R, hR⟩ : ∃ R, restN kd 3 = R := ⟨_, rfl⟩
            rw [hR] at HRS hrl
            simp only at x0 x1 x2
            obtain ⟨w5, hw5⟩ : ∃ w5, wr.alloc (.cells #[.int .i64 p, .int .i64 t] 28) = w5 := ⟨_, rfl⟩
            have b5 : Below wr.heap.size wr w5 := hw5 ▸ (Below.refl _ _).alloc (Nat.le_refl _) _
            have k5 : Blk w5 wr.heap.size 28 #[.int .i64 p, .int .i64 t] := hw5 ▸ Blk.new _ _ _
            have hg2 := World.block_lt_of_cell? _ _ x0
            have y0 := (World.cell?_of_block (a := ⟨g2, o2 + i2 * 3, none⟩) (b5.block g2 hg2)).trans x0
            have H5 := Lib.hid (And.intro (hr.out.1.below b5) (And.intro k5 hr.out.2))
            have hap9 : ¬ QF q v3 wr.heap.size := fun h => by have := hr.out.1.q_.lt _ h; omega
            clear hy hok hR b5 k5 hr
            go_upto_region 13 with fail
            go_cut [64] (fun s w9 => s = .int .i64 (R : Nat) ∧ w9 = w5)
            case first =>
              go_wp2_with fail
              refine (HRS.out _).mono ?_
              rintro e w6 ⟨rfl, rfl⟩
              go_wp2_with fail
              go_meet
              exact ⟨rfl, rfl⟩
            case rest =>
              obtain ⟨rfl, hw⟩ := hcut
              obtain rfl := hw.symm
              clear x0 x1 x2 y0 HRS
              have ap9 := hap9
              go_step
              go_cut [6] (fun u w9 => ∃ (A : Option Addr) (c : Nat) (v : Value) (S : List (Int × Int)), u = .slice A S.length c ∧ Hid (LQ W w9 q v A c S S ∧ S.length ≤ 40 + (i2 + 1)))
              case first =>
                have x0 : w5.cell? ⟨wr.heap.size, 0, none⟩ = some (.int .i64 p) := H5.out.2.1.cell 0
                have x1 : w5.cell? ⟨wr.heap.size, 1, none⟩ = some (.int .i64 t) := H5.out.2.1.cell 1
                have hsl : S.length ≤ 100 := by have := H5.out.2.2; omega
                have hwl : wr.heap.size < w5.heap.size := H5.out.2.1.lt
                obtain rfl | rfl | rfl : R = 0 ∨ R = 1 ∨ R = 2 := by omega
                · have HP := Lib.hid (lq_push H5.out.1 H5.out.1.q_.sorted (by omega) (p, t))
                  have HPL := Lib.hid (pushS_length S (p, t))
                  obtain ⟨T, hT⟩ : ∃ T, pushS S (p, t) = T := ⟨_, rfl⟩
                  obtain ⟨hb, hhb⟩ : ∃ hb, (!hasB S t) = hb := ⟨_, rfl⟩
                  have HT := Lib.hid hT
                  have HHB := Lib.hid hhb
                  simp only [hT, hhb] at HP HPL
                  clear hT hhb
                  go_wp2_with fail
                  refine HP.out.mono ?_
                  rintro e w6 ⟨B, c', rfl, hq6, hb6⟩
                  have z0 := (World.cell?_of_block (a := ⟨wr.heap.size, 0, none⟩) (hb6.block _ hwl)).trans x0
                  have z1 := (World.cell?_of_block (a := ⟨wr.heap.size, 1, none⟩) (hb6.block _ hwl)).trans x1
                  have HQ := Lib.hid (qpush_any q v3 S (p, t) w6 hq6.q_.at_ (by omega))
                  have H6 := Lib.hid hq6
                  simp only [HHB.out] at HQ
                  clear hq6 hb6 x0 x1
                  go_wp2_with fail
                  refine HQ.out.mono ?_
                  rintro e w7 ⟨rfl, hq7⟩
                  obtain ⟨v7, l7⟩ := H6.out.qstep hq7
                  have H7 : Hid (LQ W w7 q v7 B c' T T) := Lib.hid (by rw [← HT.out] at l7 ⊢; exact l7)
                  clear hq7 l7 HP HQ
                  go_wp2_with fail
                  go_meet
                  exact ⟨B, c', v7, T, rfl, Lib.hid ⟨H7.out, by have := HPL.out; have := H5.out.2.2; omega⟩⟩
                · have hne := run_neq_due
                  cases S with
                  | nil =>
                    have HP := Lib.hid (qpop_none q v3 p w5 H5.out.1.q_.at_)
                    have H6 := Lib.hid H5.out.1
                    clear x1
                    go_wp2_with fail
                    refine HP.out.mono ?_
                    rintro e w6 ⟨rfl, hb6⟩
                    have b7 : Below w6.heap.size w6 (w6.alloc (.cells #[.int .i64 0, .int .i64 0] 28)) := (Below.refl _ _).alloc (Nat.le_refl _) _
                    have k7 := Blk.new w6 28 #[.int .i64 0, .int .i64 0]
                    have t0 : (w6.alloc (.cells #[.int .i64 0, .int .i64 0] 28)).cell? ⟨w6.heap.size, 0, none⟩ = some (.int .i64 0) := k7.cell 0
                    have t1 : (w6.alloc (.cells #[.int .i64 0, .int .i64 0] 28)).cell? ⟨w6.heap.size, 1, none⟩ = some (.int .i64 0) := k7.cell 1
                    have H7 := Lib.hid (H6.out.below (hb6.trans (b7.mono hb6.size)))
                    clear hb6 b7 k7 x0
                    go_wp2_with fail
                    refine region_fast [(0, true), (1, true), (2, true), (3, true), (4, true), (5, true), (6, true), (7, true), (8, true), (9, true), (10, true), (11, true), (12, true), (13, true), (14, true), (15, true), (16, true), (17, true), (18, true), (19, true), (20, true), (21, true), (22, true), (23, true), (24, true), (25, true), (26, true), (27, true), (28, true), (29, true), (30, true), (31, true), (32, true)] [1, 2, 3, 4, 5, 6, 7, 8, 9, 10, 11, 12, 18, 19, 20, 29] 538714110 [(309485009821345068724781056, 8192, 0, 0), (618970019642690137449562112, 64, 0, 0), (1237940039285380274899124224, 618970019642690137449562112, 2, 2), (2475880078570760549798248448, 1237940039285380274899124224, 4, 6), (4951760157141521099596496896, 2475880078570760549798248448, 8, 14), (9903520314283042199192993792, 4951760157141521099596496960, 16, 30), (19807040628566084398385987584, 14855280471424563298789490688, 48, 62), (39614081257132168796771975168, 24758800785707605497982484480, 80, 126), (79228162514264337593543950336, 44565841414273689896368472064, 144, 254), (158456325028528675187087900672, 4951760157141521099596497408, 16, 30), (316912650057057350374175801344, 163408085185670196286684397568, 528, 542), (633825300114114700748351602688, 401092572728463209067316248576, 1296, 2046), (1267650600228229401496703205376, 638777060271256221847948099584, 2064, 4094), (2535301200456458802993406410752, 1267960085238050746565427986432, 4097, 8191), (5070602400912917605986812821504, 2535301200456458802993406410752, 8208, 16383), (10141204801825835211973625643008, 5070602400912917605986812829696, 16384, 32767), (20282409603651670423947251286016, 15211807202738752817960438464512, 49152, 65535), (40564819207303340847894502572032, 20282409603651670423947251290112, 65536, 131071), (81129638414606681695789005144064, 20282409603651670423947251286080, 65536, 131071), (162259276829213363391578010288128, 101412048018258352119736256430080, 327680, 393215), (324518553658426726783156020576256, 182541686432865033815525261574144, 589824, 917503), (649037107316853453566312041152512, 385365782469381738054997774434304, 1245184, 2097151), (1298074214633706907132624082305024, 674390119321418041596246105260032, 2179072, 4194303), (2596148429267413814265248164610048, 1303144817034619824738610895126528, 4210688, 8388607), (5192296858534827628530496329220096, 2596148429267413814265248164610048, 8454144, 16777215), (10384593717069655257060992658440192, 5192296858534827628530496329228288, 16777216, 33554431), (20769187434139310514121985316880384, 15576890575604482885591488987660288, 50331648, 67108863), (41538374868278621028243970633760768, 25961484292674138142652481646100480, 83886080, 134217727), (83076749736557242056487941267521536, 41538374868278621028243970633764864, 134217728, 268435455), (166153499473114484112975882535043072, 41538374868278621028243970633760768, 134217728, 268435455), (332306998946228968225951765070086144, 290768624077950347197707794436325376, 939524096, 1073741823), (664613997892457936451903530140172288, 379037670673042416882726232033067008, 1224736768, 2147483647), (1329227995784915872903807060280344576, 669806294750992764080434026469392384, 2164260864, 4294967295)] (fun W' => W'.cell? ⟨w6.heap.size, 0, none⟩ = some (.int .i64 0) ∧ W'.cell? ⟨w6.heap.size, 1, none⟩ = some (.int .i64 0)) (by kernel_rfl) (by kernel_rfl) (by kernel_rfl) rfl (by kernel_rfl) (by kernel_rfl) ⟨t0, t1⟩ (fun hS => ?_)
                    repeat (first
                      | (refine plan_read (v := ?_) rfl (fun _ _ _ h => h) rfl hS ?_ ?_; rotate_left 1; (focus (intro w' hS'; have e0 := hS'.1; have e1 := hS'.2; go_simp; try rfl)); (simp only [Act.put, List.setIfInBounds_toArray]; dsimp only [List.set_cons_zero, List.set_cons_succ]))
                      | (refine plan_skip rfl (fun _ _ _ h => h) rfl hS ?_; (simp only [Act.put, List.setIfInBounds_toArray]; dsimp only [List.set_cons_zero, List.set_cons_succ])))
                    refine plan_nil ?_
                    go_wp2_with fail
                    go_meet
                    exact ⟨A2, c2, v3, [], rfl, Lib.hid ⟨H7.out.below (below_of_drew (Below.refl _ _)), by simp⟩⟩
                  | cons d T =>
                    obtain ⟨a0, b0⟩ := d
                    have hA2 := H5.out.1.r_.2.2
                    have hrl := H5.out.1.r_.2.1
                    rcases hA2 with ⟨rfl, rfl⟩ | ⟨gl, ol, rfl⟩
                    · simp at hrl
                    obtain ⟨g', o', e', u0, u1⟩ := in_due (k := 0) (y := (a0, b0)) H5.out.1.r_.1 rfl
                    injection e' with e'
                    injection e' with e1 e2 _
                    subst e1 e2
                    simp only [Nat.zero_mul, Nat.add_zero] at u0 u1
                    have hgl := World.block_lt_of_cell? _ _ u0
                    simp only [List.length_cons] at hsl hrl ⊢
                    have hp0 : 0 < (T.length : Int) + 1 := by omega
                    have hp60 : (T.length : Int) ≤ 100 := by omega
                    by_cases hw : p < a0
                    · have HP := Lib.hid (qpop_wait q v3 (a0, b0) T p w5 H5.out.1.q_.at_ (by simp only [List.length_cons]; omega) hw)
                      have H6 := Lib.hid H5.out.1
                      have HSL := Lib.hid H5.out.2.2
                      have hle : ¬ (a0 ≤ p) := by omega
                      clear hw x1
                      go_wp2_with fail
                      refine HP.out.mono ?_
                      rintro e w6 ⟨rfl, hb6⟩
                      have b7 : Below w6.heap.size w6 (w6.alloc (.cells #[.int .i64 0, .int .i64 0] 28)) := (Below.refl _ _).alloc (Nat.le_refl _) _
                      have k7 := Blk.new w6 28 #[.int .i64 0, .int .i64 0]
                      have t0 : (w6.alloc (.cells #[.int .i64 0, .int .i64 0] 28)).cell? ⟨w6.heap.size, 0, none⟩ = some (.int .i64 0) := k7.cell 0
                      have t1 : (w6.alloc (.cells #[.int .i64 0, .int .i64 0] 28)).cell? ⟨w6.heap.size, 1, none⟩ = some (.int .i64 0) := k7.cell 1
                      have b57 := hb6.trans (b7.mono hb6.size)
                      have H7 := Lib.hid (H6.out.below b57)
                      have y0 := (World.cell?_of_block (a := ⟨wr.heap.size, 0, none⟩) (b57.block _ hwl)).trans x0
                      have v0 := (World.cell?_of_block (a := ⟨gl, ol, none⟩) (b57.block _ hgl)).trans u0
                      clear hb6 b7 k7 b57 x0 u0 u1
                      go_wp2_with fail
                      refine region_fast [(0, true), (1, true), (2, true), (3, true), (4, true), (5, true), (6, true), (7, true), (8, true), (9, true), (10, true), (11, true), (12, true), (13, true), (14, true), (15, true), (16, true), (17, true), (18, true), (19, true), (20, true), (21, true), (22, true), (23, true), (24, true), (25, true), (26, true), (27, true), (28, true), (29, true), (30, true), (31, true), (32, true)] [1, 2, 3, 4, 5, 6, 7, 8, 9, 10, 11, 12, 18, 19, 20, 29] 538714110 [(309485009821345068724781056, 8192, 0, 0), (618970019642690137449562112, 64, 0, 0), (1237940039285380274899124224, 618970019642690137449562112, 2, 2), (2475880078570760549798248448, 1237940039285380274899124224, 4, 6), (4951760157141521099596496896, 2475880078570760549798248448, 8, 14), (9903520314283042199192993792, 4951760157141521099596496960, 16, 30), (19807040628566084398385987584, 14855280471424563298789490688, 48, 62), (39614081257132168796771975168, 24758800785707605497982484480, 80, 126), (79228162514264337593543950336, 44565841414273689896368472064, 144, 254), (158456325028528675187087900672, 4951760157141521099596497408, 16, 30), (316912650057057350374175801344, 163408085185670196286684397568, 528, 542), (633825300114114700748351602688, 401092572728463209067316248576, 1296, 2046), (1267650600228229401496703205376, 638777060271256221847948099584, 2064, 4094), (2535301200456458802993406410752, 1267960085238050746565427986432, 4097, 8191), (5070602400912917605986812821504, 2535301200456458802993406410752, 8208, 16383), (10141204801825835211973625643008, 5070602400912917605986812829696, 16384, 32767), (20282409603651670423947251286016, 15211807202738752817960438464512, 49152, 65535), (40564819207303340847894502572032, 20282409603651670423947251290112, 65536, 131071), (81129638414606681695789005144064, 20282409603651670423947251286080, 65536, 131071), (162259276829213363391578010288128, 101412048018258352119736256430080, 327680, 393215), (324518553658426726783156020576256, 182541686432865033815525261574144, 589824, 917503), (649037107316853453566312041152512, 385365782469381738054997774434304, 1245184, 2097151), (1298074214633706907132624082305024, 674390119321418041596246105260032, 2179072, 4194303), (2596148429267413814265248164610048, 1303144817034619824738610895126528, 4210688, 8388607), (5192296858534827628530496329220096, 2596148429267413814265248164610048, 8454144, 16777215), (10384593717069655257060992658440192, 5192296858534827628530496329228288, 16777216, 33554431), (20769187434139310514121985316880384, 15576890575604482885591488987660288, 50331648, 67108863), (41538374868278621028243970633760768, 25961484292674138142652481646100480, 83886080, 134217727), (83076749736557242056487941267521536, 41538374868278621028243970633764864, 134217728, 268435455), (166153499473114484112975882535043072, 41538374868278621028243970633760768, 134217728, 268435455), (332306998946228968225951765070086144, 290768624077950347197707794436325376, 939524096, 1073741823), (664613997892457936451903530140172288, 379037670673042416882726232033067008, 1224736768, 2147483647), (1329227995784915872903807060280344576, 669806294750992764080434026469392384, 2164260864, 4294967295)] (fun W' => W'.cell? ⟨w6.heap.size, 0, none⟩ = some (.int .i64 0) ∧ W'.cell? ⟨w6.heap.size, 1, none⟩ = some (.int .i64 0) ∧ W'.cell? ⟨wr.heap.size, 0, none⟩ = some (.int .i64 p) ∧ W'.cell? ⟨gl, ol, none⟩ = some (.int .i64 a0)) (by kernel_rfl) (by kernel_rfl) (by kernel_rfl) rfl (by kernel_rfl) (by kernel_rfl) ⟨t0, t1, y0, v0⟩ (fun hS => ?_)
                      iterate 3 (first
                        | (refine plan_read (v := ?_) rfl (fun _ _ _ h => h) rfl hS ?_ ?_; rotate_left 1; (focus (intro w' hS'; have e0 := hS'.1; have e1 := hS'.2.1; have e2 := hS'.2.2.1; have e3 := hS'.2.2.2; go_simp; try rfl)); (simp only [Act.put, List.setIfInBounds_toArray]; dsimp only [List.set_cons_zero, List.set_cons_succ]))
                        | (refine plan_skip rfl (fun _ _ _ h => h) rfl hS ?_; (simp only [Act.put, List.setIfInBounds_toArray]; dsimp only [List.set_cons_zero, List.set_cons_succ])))
                      refine plan_read (v := .bool true) rfl (fun _ _ _ h => h) rfl hS ?_ ?_; (focus (intro w' hS'; go_simp; first | done | simp [hp0] | (simp; omega))); (simp only [Act.put, List.setIfInBounds_toArray]; dsimp only [List.set_cons_zero, List.set_cons_succ])
                      iterate 7 (first
                        | (refine plan_read (v := ?_) rfl (fun _ _ _ h => h) rfl hS ?_ ?_; rotate_left 1; (focus (intro w' hS'; have e0 := hS'.1; have e1 := hS'.2.1; have e2 := hS'.2.2.1; have e3 := hS'.2.2.2; go_simp; try rfl)); (simp only [Act.put, List.setIfInBounds_toArray]; dsimp only [List.set_cons_zero, List.set_cons_succ]))
                        | (refine plan_skip rfl (fun _ _ _ h => h) rfl hS ?_; (simp only [Act.put, List.setIfInBounds_toArray]; dsimp only [List.set_cons_zero, List.set_cons_succ])))
                      refine plan_read (v := .bool false) rfl (fun _ _ _ h => h) rfl hS ?_ ?_; (focus (intro w' hS'; go_simp; first | done | simp [hle] | (simp; omega))); (simp only [Act.put, List.setIfInBounds_toArray]; dsimp only [List.set_cons_zero, List.set_cons_succ])
                      repeat (first
                        | (refine plan_read (v := ?_) rfl (fun _ _ _ h => h) rfl hS ?_ ?_; rotate_left 1; (focus (intro w' hS'; have e0 := hS'.1; have e1 := hS'.2.1; have e2 := hS'.2.2.1; have e3 := hS'.2.2.2; go_simp; try rfl)); (simp only [Act.put, List.setIfInBounds_toArray]; dsimp only [List.set_cons_zero, List.set_cons_succ]))
                        | (refine plan_skip rfl (fun _ _ _ h => h) rfl hS ?_; (simp only [Act.put, List.setIfInBounds_toArray]; dsimp only [List.set_cons_zero, List.set_cons_succ])))
                      refine plan_nil ?_
                      go_wp2_with fail
                      go_meet
                      exact ⟨some ⟨gl, ol, none⟩, c2, v3, (a0, b0) :: T, rfl, Lib.hid ⟨H7.out.below (below_of_drew (Below.refl _ _)), by have := HSL.out; omega⟩⟩
                    · have HP := Lib.hid (qpop_some q v3 (a0, b0) T p w5 H5.out.1.q_.at_ (by simp only [List.length_cons]; omega) hw)
                      have H6 := Lib.hid (And.intro H5.out.1 (And.intro H5.out.2.1 ap9))
                      have HSL := Lib.hid H5.out.2.2
                      have hle : a0 ≤ p := by omega
                      have hcc : (T.length : Int) + 1 ≤ (c2 : Int) := by omega
                      clear hw x1
                      go_wp2_with fail
                      refine HP.out.mono ?_
                      rintro e w6 ⟨rfl, hq6⟩
                      obtain ⟨v6, q6, f6, n6⟩ := H6.out.1.q_.step hq6
                      obtain ⟨v6', l6⟩ := H6.out.1.qstep hq6
                      have k6 := H6.out.2.1.fr f6 H6.out.2.2
                      obtain ⟨w7, hw7⟩ : ∃ w7, w6.alloc (.cells #[.int .i64 a0, .int .i64 b0] 28) = w7 := ⟨_, rfl⟩
                      have b7 : Below w6.heap.size w6 w7 := hw7 ▸ (Below.refl _ _).alloc (Nat.le_refl _) _
                      have k7 : Blk w7 w6.heap.size 28 #[.int .i64 a0, .int .i64 b0] := hw7 ▸ Blk.new _ _ _
                      have H7 := Lib.hid (l6.below b7)
                      have t0 : w7.cell? ⟨w6.heap.size, 0, none⟩ = some (.int .i64 a0) := k7.cell 0
                      have t1 : w7.cell? ⟨w6.heap.size, 1, none⟩ = some (.int .i64 b0) := k7.cell 1
                      have y0 : w7.cell? ⟨wr.heap.size, 0, none⟩ = some (.int .i64 p) := (k6.below b7 k6.lt).cell 0
                      obtain ⟨g', o', e', v0, v1⟩ := in_due (k := 0) (y := (a0, b0)) H7.out.r_.1 rfl
                      injection e' with e'
                      injection e' with e1 e2 _
                      subst e1 e2
                      simp only [Nat.zero_mul, Nat.add_zero] at v0 v1
                      clear hq6 q6 f6 n6 l6 k6 b7 k7 x0 u0 u1
                      go_wp2_with fail
                      clear hw7
                      refine region_fast [(0, true), (1, true), (2, true), (3, true), (4, true), (5, true), (6, true), (7, true), (8, true), (9, true), (10, true), (11, true), (12, true), (13, true), (14, true), (15, true), (16, true), (17, true), (18, true), (19, true), (20, true), (21, true), (22, true), (23, true), (24, true), (25, true), (26, true), (27, true), (28, true), (29, true), (30, true), (31, true), (32, true)] [1, 2, 3, 4, 5, 6, 7, 8, 9, 10, 11, 12, 18, 19, 20, 29] 538714110 [(309485009821345068724781056, 8192, 0, 0), (618970019642690137449562112, 64, 0, 0), (1237940039285380274899124224, 618970019642690137449562112, 2, 2), (2475880078570760549798248448, 1237940039285380274899124224, 4, 6), (4951760157141521099596496896, 2475880078570760549798248448, 8, 14), (9903520314283042199192993792, 4951760157141521099596496960, 16, 30), (19807040628566084398385987584, 14855280471424563298789490688, 48, 62), (39614081257132168796771975168, 24758800785707605497982484480, 80, 126), (79228162514264337593543950336, 44565841414273689896368472064, 144, 254), (158456325028528675187087900672, 4951760157141521099596497408, 16, 30), (316912650057057350374175801344, 163408085185670196286684397568, 528, 542), (633825300114114700748351602688, 401092572728463209067316248576, 1296, 2046), (1267650600228229401496703205376, 638777060271256221847948099584, 2064, 4094), (2535301200456458802993406410752, 1267960085238050746565427986432, 4097, 8191), (5070602400912917605986812821504, 2535301200456458802993406410752, 8208, 16383), (10141204801825835211973625643008, 5070602400912917605986812829696, 16384, 32767), (20282409603651670423947251286016, 15211807202738752817960438464512, 49152, 65535), (40564819207303340847894502572032, 20282409603651670423947251290112, 65536, 131071), (81129638414606681695789005144064, 20282409603651670423947251286080, 65536, 131071), (162259276829213363391578010288128, 101412048018258352119736256430080, 327680, 393215), (324518553658426726783156020576256, 182541686432865033815525261574144, 589824, 917503), (649037107316853453566312041152512, 385365782469381738054997774434304, 1245184, 2097151), (1298074214633706907132624082305024, 674390119321418041596246105260032, 2179072, 4194303), (2596148429267413814265248164610048, 1303144817034619824738610895126528, 4210688, 8388607), (5192296858534827628530496329220096, 2596148429267413814265248164610048, 8454144, 16777215), (10384593717069655257060992658440192, 5192296858534827628530496329228288, 16777216, 33554431), (20769187434139310514121985316880384, 15576890575604482885591488987660288, 50331648, 67108863), (41538374868278621028243970633760768, 25961484292674138142652481646100480, 83886080, 134217727), (83076749736557242056487941267521536, 41538374868278621028243970633764864, 134217728, 268435455), (166153499473114484112975882535043072, 41538374868278621028243970633760768, 134217728, 268435455), (332306998946228968225951765070086144, 290768624077950347197707794436325376, 939524096, 1073741823), (664613997892457936451903530140172288, 379037670673042416882726232033067008, 1224736768, 2147483647), (1329227995784915872903807060280344576, 669806294750992764080434026469392384, 2164260864, 4294967295)] (fun W' => W'.cell? ⟨w6.heap.size, 0, none⟩ = some (.int .i64 a0) ∧ W'.cell? ⟨w6.heap.size, 1, none⟩ = some (.int .i64 b0) ∧ W'.cell? ⟨wr.heap.size, 0, none⟩ = some (.int .i64 p) ∧ W'.cell? ⟨gl, ol, none⟩ = some (.int .i64 a0) ∧ W'.cell? ⟨gl, ol + 1, none⟩ = some (.int .i64 b0)) (by kernel_rfl) (by kernel_rfl) (by kernel_rfl) rfl (by kernel_rfl) (by kernel_rfl) ⟨t0, t1, y0, v0, v1⟩ (fun hS => ?_)
                      iterate 3 (first
                        | (refine plan_read (v := ?_) rfl (fun _ _ _ h => h) rfl hS ?_ ?_; rotate_left 1; (focus (intro w' hS'; have e0 := hS'.1; have e1 := hS'.2.1; have e2 := hS'.2.2.1; have e3 := hS'.2.2.2.1; have e4 := hS'.2.2.2.2; go_simp; try rfl)); (simp only [Act.put, List.setIfInBounds_toArray]; dsimp only [List.set_cons_zero, List.set_cons_succ]))
                        | (refine plan_skip rfl (fun _ _ _ h => h) rfl hS ?_; (simp only [Act.put, List.setIfInBounds_toArray]; dsimp only [List.set_cons_zero, List.set_cons_succ])))
                      refine plan_read (v := .bool true) rfl (fun _ _ _ h => h) rfl hS ?_ ?_; (focus (intro w' hS'; go_simp; first | done | simp [hp0] | (simp; omega))); (simp only [Act.put, List.setIfInBounds_toArray]; dsimp only [List.set_cons_zero, List.set_cons_succ])
                      iterate 7 (first
                        | (refine plan_read (v := ?_) rfl (fun _ _ _ h => h) rfl hS ?_ ?_; rotate_left 1; (focus (intro w' hS'; have e0 := hS'.1; have e1 := hS'.2.1; have e2 := hS'.2.2.1; have e3 := hS'.2.2.2.1; have e4 := hS'.2.2.2.2; go_simp; try rfl)); (simp only [Act.put, List.setIfInBounds_toArray]; dsimp only [List.set_cons_zero, List.set_cons_succ]))
                        | (refine plan_skip rfl (fun _ _ _ h => h) rfl hS ?_; (simp only [Act.put, List.setIfInBounds_toArray]; dsimp only [List.set_cons_zero, List.set_cons_succ])))
                      refine plan_read (v := .bool true) rfl (fun _ _ _ h => h) rfl hS ?_ ?_; (focus (intro w' hS'; go_simp; first | done | simp [hle] | (simp; omega))); (simp only [Act.put, List.setIfInBounds_toArray]; dsimp only [List.set_cons_zero, List.set_cons_succ])
                      repeat (first
                        | (refine plan_read (v := ?_) rfl (fun _ _ _ h => h) rfl hS ?_ ?_; rotate_left 1; (focus (intro w' hS'; have e0 := hS'.1; have e1 := hS'.2.1; have e2 := hS'.2.2.1; have e3 := hS'.2.2.2.1; have e4 := hS'.2.2.2.2; go_simp; try rfl)); (simp only [Act.put, List.setIfInBounds_toArray]; dsimp only [List.set_cons_zero, List.set_cons_succ]))
                        | (refine plan_skip rfl (fun _ _ _ h => h) rfl hS ?_; (simp only [Act.put, List.setIfInBounds_toArray]; dsimp only [List.set_cons_zero, List.set_cons_succ])))
                      refine plan_nil ?_
                      go_wp2_with fail
                      all_goals
                        go_meet
                        first
                          | exact ⟨some ⟨gl, ol, none⟩, 0, v6', T, rfl, Lib.hid ⟨(H7.out.tail1 (by omega)).below (below_of_drew (Below.refl _ _)), by have := HSL.out; simp only [List.length_cons] at this; omega⟩⟩
                          | exact ⟨some ⟨gl, ol + 2, none⟩, c2 - 1, v6', T, rfl, Lib.hid ⟨(H7.out.tail2 (by omega)).below (below_of_drew (Below.refl _ _)), by have := HSL.out; simp only [List.length_cons] at this; omega⟩⟩
                · have HP := Lib.hid (lq_drop H5.out.1 (by omega) t)
                  have HPL := Lib.hid (show (drp S t).length ≤ S.length from List.length_filter_le _ _)
                  obtain ⟨T, hT⟩ : ∃ T, drp S t = T := ⟨_, rfl⟩
                  obtain ⟨hb, hhb⟩ : ∃ hb, hasB S t = hb := ⟨_, rfl⟩
                  have HT := Lib.hid hT
                  have HHB := Lib.hid hhb
                  simp only [hT, hhb] at HP HPL
                  clear hT hhb
                  go_wp2_with fail
                  refine HP.out.mono ?_
                  rintro e w6 ⟨B, c', rfl, hq6, hb6⟩
                  have z0 := (World.cell?_of_block (a := ⟨wr.heap.size, 0, none⟩) (hb6.block _ hwl)).trans x0
                  have z1 := (World.cell?_of_block (a := ⟨wr.heap.size, 1, none⟩) (hb6.block _ hwl)).trans x1
                  have HQ := Lib.hid (qdrop_any q v3 S t w6 hq6.q_.at_ (by omega))
                  have H6 := Lib.hid hq6
                  simp only [HHB.out, HT.out] at HQ
                  clear hq6 hb6 x0 x1
                  go_wp2_with fail
                  refine HQ.out.mono ?_
                  rintro e w7 ⟨rfl, hq7⟩
                  obtain ⟨v7, l7⟩ := H6.out.qstep hq7
                  have H7 := Lib.hid l7
                  clear hq7 l7 HP HQ
                  go_wp2_with fail
                  go_meet
                  exact ⟨B, c', v7, T, rfl, Lib.hid ⟨H7.out, by have := HPL.out; have := H5.out.2.2; omega⟩⟩
              case rest =>
                obtain ⟨A9, c9, v9, S9, rfl, h9⟩ := hcut
                clear H5 hap9 ap9 hrl
                have hne := run_neq_due
                cases S9 with
                | nil =>
                  have HNX := Lib.hid (lq_next_none h9.out.1)
                  go_wp2_with fail
                  refine HNX.out.mono ?_
                  rintro e w10 ⟨rfl, hb10⟩
                  have b11 : Below w10.heap.size w10 (w10.alloc (.cells #[.int .i64 0, .int .i64 0] 28)) := (Below.refl _ _).alloc (Nat.le_refl _) _
                  have H11 := Lib.hid (h9.out.1.below (hb10.trans (b11.mono hb10.size)))
                  clear hb10 b11 HNX
                  go_wp2_with fail
                  refine region_fast [(0, true), (1, true), (2, true), (3, true), (4, true), (5, true), (6, true), (7, true), (8, true), (9, true), (10, true), (11, true), (12, true), (13, true), (14, true), (15, true), (16, true), (18, true), (19, true), (17, false), (20, true), (21, true), (22, true), (23, true), (25, true), (24, false), (26, false), (27, true), (28, true)] [1, 2, 3, 9, 10, 11, 17, 18, 19, 24, 25] 51252750 [(44601490397061246283071436545296723011960832, 131072, 0, 0), (89202980794122492566142873090593446023921664, 64, 0, 0), (178405961588244985132285746181186892047843328, 89202980794122492566142873090593446023921664, 2, 2), (356811923176489970264571492362373784095686656, 178405961588244985132285746181186892047843328, 4, 6), (713623846352979940529142984724747568191373312, 401413413573551216547642928907670507107647488, 9, 15), (1427247692705959881058285969449495136382746624, 713623846352979940529142984724747568191373312, 16, 31), (2854495385411919762116571938898990272765493248, 1427247692705959881058285969449495136382877696, 32, 63), (5708990770823839524233143877797980545530986496, 4281743078117879643174857908348485409148239872, 96, 127), (11417981541647679048466287755595961091061972992, 5708990770823839524233143877797980545531052032, 128, 255), (22835963083295358096932575511191922182123945984, 5708990770823839524233143877797980545530986560, 128, 255), (45671926166590716193865151022383844364247891968, 28544953854119197621165719388989902727654932480, 640, 767), (91343852333181432387730302044767688728495783936, 51380916937414555718098294900181824909778878464, 1152, 1791), (182687704666362864775460604089535377456991567872, 108470824645652950960429733678161630365088743424, 2432, 4095), (365375409332725729550921208179070754913983135744, 189823943129892664180752033936782853138905300992, 4256, 8191), (730750818665451459101842416358141509827966271488, 366802657025431689431979494148520250050365882368, 8224, 16383), (1461501637330902918203684832716283019655932542976, 730750818665451459101842416358141509827966271488, 16512, 32767), (2923003274661805836407369665432566039311865085952, 1461501637330902918203684832716283019655932543008, 32768, 65535), (5846006549323611672814739330865132078623730171904, 4384504911992708754611054498148849058967797628928, 98304, 131071), (11692013098647223345629478661730264157247460343808, 1461501637330902918203684832716283019655932543040, 32768, 65535), (23384026197294446691258957323460528314494920687616, 13153514735978126263833163494446547176903392886784, 294912, 327679), (46768052394588893382517914646921056628989841375232, 30691534383948961282277381487041943412774583402496, 688128, 1048575), (93536104789177786765035829293842113257979682750464, 48229554031919796300721599479637339648645773918208, 1081344, 2097151), (187072209578355573530071658587684226515959365500928, 93536104789177786765035829293842113257979682750464, 2228224, 4194303), (374144419156711147060143317175368453031918731001856, 187072209578355573530071658587684226515959365500960, 4194304, 8388607), (748288838313422294120286634350736906063837462003712, 561216628735066720590214975763052679547878096502784, 12582912, 16777215), (1496577676626844588240573268701473812127674924007424, 187072209578355573530071658587684226515959365500992, 4194304, 8388607), (2993155353253689176481146537402947624255349848014848, 2431938724518622455890931561639894944707471751512064, 54525952, 67108863), (5986310706507378352962293074805895248510699696029696, 3180227562832044750011218195990631850771309213515776, 71303168, 134217727), (11972621413014756705924586149611790497021399392059392, 6173382916085733926492364733393579475026659061530624, 138412032, 268435455)] (fun _ => True) (by kernel_rfl) (by kernel_rfl) (by kernel_rfl) rfl (by kernel_rfl) (by kernel_rfl) trivial (fun hS => ?_)
                  repeat (first
                    | (refine plan_read (v := ?_) rfl (fun _ _ _ h => h) rfl hS ?_ ?_; rotate_left 1; (focus (intro w' hS'; skip; go_simp; try rfl)); (simp only [Act.put, List.setIfInBounds_toArray]; dsimp only [List.set_cons_zero, List.set_cons_succ]))
                    | (refine plan_skip rfl (fun _ _ _ h => h) rfl hS ?_; (simp only [Act.put, List.setIfInBounds_toArray]; dsimp only [List.set_cons_zero, List.set_cons_succ])))
                  refine plan_do (by rfl) (by rfl) (fun K hK => ?_)
                  go_simp
                  refine (lq_len (H11.out.below (below_of_drew (Below.refl _ _)))).mono ?_
                  rintro e w12 ⟨rfl, rfl⟩
                  refine hK.out _ _ (fun _ => trivial) (fun hS => ?_); clear hK K; replace hS := hS rfl; try (simp only [Act.put, List.setIfInBounds_toArray]; dsimp only [List.set_cons_zero, List.set_cons_succ])
                  repeat (first
                    | (refine plan_read (v := ?_) rfl (fun _ _ _ h => h) rfl hS ?_ ?_; rotate_left 1; (focus (intro w' hS'; skip; go_simp; try rfl)); (simp only [Act.put, List.setIfInBounds_toArray]; dsimp only [List.set_cons_zero, List.set_cons_succ]))
                    | (refine plan_skip rfl (fun _ _ _ h => h) rfl hS ?_; (simp only [Act.put, List.setIfInBounds_toArray]; dsimp only [List.set_cons_zero, List.set_cons_succ])))
                  refine plan_do (by rfl) (by rfl) (fun K hK => ?_)
                  go_simp
                  refine (list_any q v9 [] _ (H11.out.q_.at_.below (below_of_drew (Below.refl _ _))) (by simp)).mono ?_
                  rintro e w13 ⟨A13, c13, rfl, ho13, hb13⟩
                  have H13 := Lib.hid (And.intro (H11.out.below (below_of_drew hb13)) (Sees.of_own ho13))
                  clear ho13 hb13
                  refine hK.out _ _ (fun _ => trivial) (fun hS => ?_); clear hK K; replace hS := hS rfl; try (simp only [Act.put, List.setIfInBounds_toArray]; dsimp only [List.set_cons_zero, List.set_cons_succ])
                  repeat (first
                    | (refine plan_read (v := ?_) rfl (fun _ _ _ h => h) rfl hS ?_ ?_; rotate_left 1; (focus (intro w' hS'; skip; go_simp; try rfl)); (simp only [Act.put, List.setIfInBounds_toArray]; dsimp only [List.set_cons_zero, List.set_cons_succ]))
                    | (refine plan_skip rfl (fun _ _ _ h => h) rfl hS ?_; (simp only [Act.put, List.setIfInBounds_toArray]; dsimp only [List.set_cons_zero, List.set_cons_succ])))
                  refine plan_do (by rfl) (by rfl) (fun K hK => ?_)
                  go_simp
                  refine (same_any A13 A9 c13 c9 [] _ H13.out.2 H13.out.1.r_.1 (by simp)).mono ?_
                  rintro e w14 ⟨rfl, hb14⟩
                  have H14 := Lib.hid (H13.out.1.below hb14)
                  clear hb14
                  refine hK.out _ _ (fun h => by cases h) (fun _ => ?_); clear hK K; try (simp only [Act.put, List.setIfInBounds_toArray]; dsimp only [List.set_cons_zero, List.set_cons_succ])
                  clear hS
                  have hS : True := trivial
                  repeat (first
                    | (refine plan_read (v := ?_) rfl (fun _ _ _ h => h) rfl hS ?_ ?_; rotate_left 1; (focus (intro w' hS'; skip; go_simp; try rfl)); (simp only [Act.put, List.setIfInBounds_toArray]; dsimp only [List.set_cons_zero, List.set_cons_succ]))
                    | (refine plan_skip rfl (fun _ _ _ h => h) rfl hS ?_; (simp only [Act.put, List.setIfInBounds_toArray]; dsimp only [List.set_cons_zero, List.set_cons_succ])))
                  refine plan_nil ?_
                  go_wp2_with fail
                  go_roundw
                  case rel => exact ⟨i2 + 1, A9, c9, v9, [], by go_num, by omega, rfl, Lib.hid ⟨H14.out, by simp⟩⟩
                  case measure => simp [intOf]; omega
                | cons d T =>
                  obtain ⟨a0, b0⟩ := d
                  have hA9 := h9.out.1.r_.2.2
                  have hrl := h9.out.1.r_.2.1
                  rcases hA9 with ⟨rfl, rfl⟩ | ⟨gl, ol, rfl⟩
                  · simp at hrl
                  have hsl9 := h9.out.2
                  simp only [List.length_cons] at hsl9 hrl ⊢
                  have hp0 : 0 < (T.length : Int) + 1 := by omega
                  have hp60 : (T.length : Int) ≤ 100 := by omega
                  have hle9 : (a0 :: b0 :: T.map (·.1)).length ≤ 900 := by simp; omega
                  have HNX := Lib.hid (lq_next_some h9.out.1 (by simp only [List.length_cons]; omega))
                  clear hle9
                  go_wp2_with fail
                  refine HNX.out.mono ?_
                  rintro e w10 ⟨rfl, hb10⟩
                  obtain ⟨w11, hw11⟩ : ∃ w11, w10.alloc (.cells #[.int .i64 a0, .int .i64 b0] 28) = w11 := ⟨_, rfl⟩
                  have b11 : Below w10.heap.size w10 w11 := hw11 ▸ (Below.refl _ _).alloc (Nat.le_refl _) _
                  have k11 : Blk w11 w10.heap.size 28 #[.int .i64 a0, .int .i64 b0] := hw11 ▸ Blk.new _ _ _
                  have H11 := Lib.hid (And.intro (h9.out.1.below (hb10.trans (b11.mono hb10.size))) k11)
                  have t0 : w11.cell? ⟨w10.heap.size, 0, none⟩ = some (.int .i64 a0) := k11.cell 0
                  have t1 : w11.cell? ⟨w10.heap.size, 1, none⟩ = some (.int .i64 b0) := k11.cell 1
                  obtain ⟨g', o', e', v0, v1⟩ := in_due (k := 0) (y := (a0, b0)) H11.out.1.r_.1 rfl
                  injection e' with e'
                  injection e' with e1 e2 _
                  subst e1 e2
                  simp only [Nat.zero_mul, Nat.add_zero] at v0 v1
                  have HLT := Lib.hid hsl9
                  have hkl := k11.lt
                  have hgl := World.block_lt_of_cell? _ _ v0
                  clear hb10 b11 k11 HNX hsl9 hrl
                  go_wp2_with fail
                  clear hw11
                  refine region_fast [(0, true), (1, true), (2, true), (3, true), (4, true), (5, true), (6, true), (7, true), (8, true), (9, true), (10, true), (11, true), (12, true), (13, true), (14, true), (15, true), (16, true), (18, true), (19, true), (17, false), (20, true), (21, true), (22, true), (23, true), (25, true), (24, false), (26, false), (27, true), (28, true)] [1, 2, 3, 9, 10, 11, 17, 18, 19, 24, 25] 51252750 [(44601490397061246283071436545296723011960832, 131072, 0, 0), (89202980794122492566142873090593446023921664, 64, 0, 0), (178405961588244985132285746181186892047843328, 89202980794122492566142873090593446023921664, 2, 2), (356811923176489970264571492362373784095686656, 178405961588244985132285746181186892047843328, 4, 6), (713623846352979940529142984724747568191373312, 401413413573551216547642928907670507107647488, 9, 15), (1427247692705959881058285969449495136382746624, 713623846352979940529142984724747568191373312, 16, 31), (2854495385411919762116571938898990272765493248, 1427247692705959881058285969449495136382877696, 32, 63), (5708990770823839524233143877797980545530986496, 4281743078117879643174857908348485409148239872, 96, 127), (11417981541647679048466287755595961091061972992, 5708990770823839524233143877797980545531052032, 128, 255), (22835963083295358096932575511191922182123945984, 5708990770823839524233143877797980545530986560, 128, 255), (45671926166590716193865151022383844364247891968, 28544953854119197621165719388989902727654932480, 640, 767), (91343852333181432387730302044767688728495783936, 51380916937414555718098294900181824909778878464, 1152, 1791), (182687704666362864775460604089535377456991567872, 108470824645652950960429733678161630365088743424, 2432, 4095), (365375409332725729550921208179070754913983135744, 189823943129892664180752033936782853138905300992, 4256, 8191), (730750818665451459101842416358141509827966271488, 366802657025431689431979494148520250050365882368, 8224, 16383), (1461501637330902918203684832716283019655932542976, 730750818665451459101842416358141509827966271488, 16512, 32767), (2923003274661805836407369665432566039311865085952, 1461501637330902918203684832716283019655932543008, 32768, 65535), (5846006549323611672814739330865132078623730171904, 4384504911992708754611054498148849058967797628928, 98304, 131071), (11692013098647223345629478661730264157247460343808, 1461501637330902918203684832716283019655932543040, 32768, 65535), (23384026197294446691258957323460528314494920687616, 13153514735978126263833163494446547176903392886784, 294912, 327679), (46768052394588893382517914646921056628989841375232, 30691534383948961282277381487041943412774583402496, 688128, 1048575), (93536104789177786765035829293842113257979682750464, 48229554031919796300721599479637339648645773918208, 1081344, 2097151), (187072209578355573530071658587684226515959365500928, 93536104789177786765035829293842113257979682750464, 2228224, 4194303), (374144419156711147060143317175368453031918731001856, 187072209578355573530071658587684226515959365500960, 4194304, 8388607), (748288838313422294120286634350736906063837462003712, 561216628735066720590214975763052679547878096502784, 12582912, 16777215), (1496577676626844588240573268701473812127674924007424, 187072209578355573530071658587684226515959365500992, 4194304, 8388607), (2993155353253689176481146537402947624255349848014848, 2431938724518622455890931561639894944707471751512064, 54525952, 67108863), (5986310706507378352962293074805895248510699696029696, 3180227562832044750011218195990631850771309213515776, 71303168, 134217727), (11972621413014756705924586149611790497021399392059392, 6173382916085733926492364733393579475026659061530624, 138412032, 268435455)] (fun W' => W'.cell? ⟨w10.heap.size, 0, none⟩ = some (.int .i64 a0) ∧ W'.cell? ⟨w10.heap.size, 1, none⟩ = some (.int .i64 b0) ∧ W'.cell? ⟨gl, ol, none⟩ = some (.int .i64 a0) ∧ W'.cell? ⟨gl, ol + 1, none⟩ = some (.int .i64 b0)) (by kernel_rfl) (by kernel_rfl) (by kernel_rfl) rfl (by kernel_rfl) (by kernel_rfl) ⟨t0, t1, v0, v1⟩ (fun hS => ?_)
                  iterate 3 (first
                    | (refine plan_read (v := ?_) rfl (fun _ _ _ h => h) rfl hS ?_ ?_; rotate_left 1; (focus (intro w' hS'; have e0 := hS'.1; have e1 := hS'.2.1; have e2 := hS'.2.2.1; have e3 := hS'.2.2.2; go_simp; try rfl)); (simp only [Act.put, List.setIfInBounds_toArray]; dsimp only [List.set_cons_zero, List.set_cons_succ]))
                    | (refine plan_skip rfl (fun _ _ _ h => h) rfl hS ?_; (simp only [Act.put, List.setIfInBounds_toArray]; dsimp only [List.set_cons_zero, List.set_cons_succ])))
                  refine plan_read (v := .bool true) rfl (fun _ _ _ h => h) rfl hS ?_ ?_; (focus (intro w' hS'; go_simp; first | done | simp [hp0] | (simp; omega))); (simp only [Act.put, List.setIfInBounds_toArray]; dsimp only [List.set_cons_zero, List.set_cons_succ])
                  repeat (first
                    | (refine plan_read (v := ?_) rfl (fun _ _ _ h => h) rfl hS ?_ ?_; rotate_left 1; (focus (intro w' hS'; have e0 := hS'.1; have e1 := hS'.2.1; have e2 := hS'.2.2.1; have e3 := hS'.2.2.2; go_simp; try rfl)); (simp only [Act.put, List.setIfInBounds_toArray]; dsimp only [List.set_cons_zero, List.set_cons_succ]))
                    | (refine plan_skip rfl (fun _ _ _ h => h) rfl hS ?_; (simp only [Act.put, List.setIfInBounds_toArray]; dsimp only [List.set_cons_zero, List.set_cons_succ])))
                  refine plan_do (by rfl) (by rfl) (fun K hK => ?_)
                  go_simp
                  refine (lq_len (H11.out.1.below (below_of_drew (Below.refl _ _)))).mono ?_
                  rintro e w12 ⟨rfl, rfl⟩
                  refine hK.out _ _ (fun _ => ⟨t0, t1, v0, v1⟩) (fun hS => ?_); clear hK K; replace hS := hS rfl; try (simp only [Act.put, List.setIfInBounds_toArray]; dsimp only [List.set_cons_zero, List.set_cons_succ])
                  repeat (first
                    | (refine plan_read (v := ?_) rfl (fun _ _ _ h => h) rfl hS ?_ ?_; rotate_left 1; (focus (intro w' hS'; have e0 := hS'.1; have e1 := hS'.2.1; have e2 := hS'.2.2.1; have e3 := hS'.2.2.2; go_simp; try rfl)); (simp only [Act.put, List.setIfInBounds_toArray]; dsimp only [List.set_cons_zero, List.set_cons_succ]))
                    | (refine plan_skip rfl (fun _ _ _ h => h) rfl hS ?_; (simp only [Act.put, List.setIfInBounds_toArray]; dsimp only [List.set_cons_zero, List.set_cons_succ])))
                  refine plan_do (by rfl) (by rfl) (fun K hK => ?_)
                  go_simp
                  refine (list_any q v9 ((a0, b0) :: T) _ (H11.out.1.q_.at_.below (below_of_drew (Below.refl _ _))) (by have := HLT.out; simp only [List.length_cons]; omega)).mono ?_
                  rintro e w13 ⟨A13, c13, rfl, ho13, hb13⟩
                  have hb13' := below_of_drew hb13
                  have H13 := Lib.hid (And.intro (H11.out.1.below hb13') (Sees.of_own ho13))
                  have hS13 := And.intro ((World.cell?_of_block (hb13'.block _ hkl)).trans t0) (And.intro ((World.cell?_of_block (hb13'.block _ hkl)).trans t1) (And.intro ((World.cell?_of_block (hb13'.block gl hgl)).trans v0) ((World.cell?_of_block (hb13'.block gl hgl)).trans v1)))
                  clear ho13 hb13 hb13'
                  refine hK.out _ _ (fun _ => hS13) (fun hS => ?_); clear hK K; replace hS := hS rfl; try (simp only [Act.put, List.setIfInBounds_toArray]; dsimp only [List.set_cons_zero, List.set_cons_succ])
                  repeat (first
                    | (refine plan_read (v := ?_) rfl (fun _ _ _ h => h) rfl hS ?_ ?_; rotate_left 1; (focus (intro w' hS'; have e0 := hS'.1; have e1 := hS'.2.1; have e2 := hS'.2.2.1; have e3 := hS'.2.2.2; go_simp; try rfl)); (simp only [Act.put, List.setIfInBounds_toArray]; dsimp only [List.set_cons_zero, List.set_cons_succ]))
                    | (refine plan_skip rfl (fun _ _ _ h => h) rfl hS ?_; (simp only [Act.put, List.setIfInBounds_toArray]; dsimp only [List.set_cons_zero, List.set_cons_succ])))
                  refine plan_do (by rfl) (by rfl) (fun K hK => ?_)
                  go_simp
                  refine (same_any A13 (some ⟨gl, ol, none⟩) c13 c9 ((a0, b0) :: T) _ H13.out.2 H13.out.1.r_.1 (by have := HLT.out; simp only [List.length_cons]; omega)).mono ?_
                  rintro e w14 ⟨rfl, hb14⟩
                  have H14 := Lib.hid (H13.out.1.below hb14)
                  have hk13 : w10.heap.size < w13.heap.size := World.block_lt_of_cell? _ _ hS13.1
                  have hg13 : gl < w13.heap.size := World.block_lt_of_cell? _ _ hS13.2.2.1
                  have hS14 := And.intro ((World.cell?_of_block (hb14.block _ hk13)).trans hS13.1) (And.intro ((World.cell?_of_block (hb14.block _ hk13)).trans hS13.2.1) (And.intro ((World.cell?_of_block (hb14.block gl hg13)).trans hS13.2.2.1) ((World.cell?_of_block (hb14.block gl hg13)).trans hS13.2.2.2)))
                  clear hb14
                  refine hK.out _ _ (fun h => by cases h) (fun _ => ?_); clear hK K; try (simp only [Act.put, List.setIfInBounds_toArray]; dsimp only [List.set_cons_zero, List.set_cons_succ])
                  clear hS
                  have hS := hS14
                  repeat (first
                    | (refine plan_read (v := ?_) rfl (fun _ _ _ h => h) rfl hS ?_ ?_; rotate_left 1; (focus (intro w' hS'; have e0 := hS'.1; have e1 := hS'.2.1; have e2 := hS'.2.2.1; have e3 := hS'.2.2.2; go_simp; try rfl)); (simp only [Act.put, List.setIfInBounds_toArray]; dsimp only [List.set_cons_zero, List.set_cons_succ]))
                    | (refine plan_skip rfl (fun _ _ _ h => h) rfl hS ?_; (simp only [Act.put, List.setIfInBounds_toArray]; dsimp only [List.set_cons_zero, List.set_cons_succ])))
                  refine plan_nil ?_
                  go_wp2_with fail
                  go_roundw
                  case rel => exact ⟨i2 + 1, some ⟨gl, ol, none⟩, c9, v9, (a0, b0) :: T, by go_num, by omega, rfl, Lib.hid ⟨H14.out, by simp only [List.length_cons]; exact HLT.out⟩⟩
                  case measure => simp [intOf]; omega
          · obtain rfl : i2 = len2 := by omega
            go_wp2_with fail
            go_ret
            exact ⟨rfl, hr.out.1.q_.bel⟩
end Go.Proofs.Ytaapdkeipknilaa
