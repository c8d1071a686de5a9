/-
  The law SymbolLeaks, walked.
-/
import Derived.Test.YtkgaeoeibjoljaaGreatDoorHJ
import Derived.Test.YtkgaeoeibjoljaaGreatDoorHE
import Derived.Test.YtkgaeoeibjoljaaGreatDoorHD
import Derived.Test.YtkgaeoeibjoljaaGreatDoorHB
import Derived.Deep.DeepCutAuto
import Derived.Deep.WholeRow
import Derived.Deep.MidRow
namespace Go.Proofs.YtkgaeoeibjoljaaGreatDoor
set_option maxRecDepth 4000
open Go.RowKit
def RunV (w0 wr : World) (rb r j : Nat) (As : Option Addr) (ns cs : Nat) (Ao : Option Addr) (no co : Nat) : Prop := ∃ sl ol : List Nat, sl.length = ns /\ ol.length = no /\ RunX w0 wr rb r j (.slice As ns cs) (.slice Ao no co) sl ol
theorem runX_v {w0 wr : World} {rb r j ns no : Nat} {vs vo : Value} {sl ol : List Nat} (h : RunX w0 wr rb r j vs vo sl ol) (h1 : sl.length = ns) (h2 : ol.length = no) : ∃ As cs Ao co, vs = .slice As ns cs /\ vo = .slice Ao no co /\ RunV w0 wr rb r j As ns cs Ao no co := by
 obtain ⟨S, a, F, K, L, P, T, hL⟩ := h
 have o1 := hL.b.ows
 have o2 := hL.b.owo
 rw [h1] at o1
 rw [h2] at o2
 obtain ⟨As, cs, rfl⟩ := own_shape o1
 obtain ⟨Ao, co, rfl⟩ := own_shape o2
 exact ⟨As, cs, Ao, co, rfl, rfl, sl, ol, h1, h2, S, a, F, K, L, P, T, hL⟩
theorem runX_o {w0 wr : World} {rb r j ns no cs : Nat} {As : Option Addr} {vo : Value} {sl ol : List Nat} (h : RunX w0 wr rb r j (.slice As ns cs) vo sl ol) (h1 : sl.length = ns) (h2 : ol.length = no) : ∃ Ao co, vo = .slice Ao no co /\ RunV w0 wr rb r j As ns cs Ao no co := by
 obtain ⟨As', cs', Ao, co, e1, rfl, hV⟩ := runX_v h h1 h2
 injection e1 with e1 e2 e3
 subst e1 e3
 exact ⟨Ao, co, rfl, hV⟩
theorem runL_start {w0 : World} {rb sl sg sz : Nat} {a : Loc} {F K L P : Nat -> Prop} {T : Nat -> Nat} (h : Rn w0 rb (St.fresh sl sg sz) a F K L P T) (h1 : 1 <= sl /\ sl <= 4) (h2 : 1 <= sg /\ sg <= 3) (h3 : 3 <= sz /\ sz <= 10) : RunV w0 w0 rb a.r 0 none 0 0 none 0 0 :=
 ⟨[], [], rfl, rfl, _, a, F, K, L, P, T, ⟨⟨h, rfl, inv_fresh h1 h2 h3, Nat.le_refl _, World.ownsRow_nil _ _ _ _, World.ownsRow_nil _ _ _ _, fun g hg => by simp [Value.ownBlock] at hg, fun g hg => by simp [Value.ownBlock] at hg, fun k hk => by simp at hk, Nat.le_refl _, Below.refl _ _⟩, (fun k hk => by cases hk), (fun k hk => by cases hk)⟩⟩
set_option maxHeartbeats 16000000 in
theorem leaks_any (z0 z1 z2 : Nat) (h0 : z0 < 256) (h1 : z1 < 256) (h2 : z2 < 256) (ys : List Sa) (A : Option Addr) (k c : Nat) (w : World) (hk : ys.length = k) (hI : Sees w 3 A k (sas ys)) (hok : ∀ y ∈ ys, SaOk w y) (hT : TabsS w) :
  Calls Tryz.prog 4 #[.agg #[.int .u8 z0, .int .u8 z1, .int .u8 z2], .slice A k c] w fun e w' => e = .returned (.bool true) /\ Below w.heap.size w w' := by
 have HAW := Lh (fun W (hW : Below w.heap.size w W) => awake_any W (hT.below (Nat.le_refl _) hW))
 have HT := Lh hT
 have HI := Lh hI
 have HK := Lh (Ai hk hok)
 have HZ := Lh (fun W => size_g z0 z1 z2 h0 h1 h2 W)
 obtain ⟨sl, hsl⟩ : ∃ m, m = 1 + z0 % 4 := ⟨_, rfl⟩
 obtain ⟨sg, hsg⟩ : ∃ m, m = 1 + z1 % 3 := ⟨_, rfl⟩
 obtain ⟨sz, hsz⟩ : ∃ m, m = 3 + z2 % 8 := ⟨_, rfl⟩
 rw [<- hsl, <- hsg, <- hsz] at HZ
 have b1 : 1 <= sl /\ sl <= 4 := by omega
 have b2 : 1 <= sg /\ sg <= 3 := by omega
 have b3 : 3 <= sz /\ sz <= 10 := by omega
 clear hT hI hk hok hsl hsg hsz h0 h1 h2
 obtain ⟨C, hC⟩ : ∃ C : Array Value, C = #[.int .u8 z0, .int .u8 z1, .int .u8 z2] := ⟨_, rfl⟩
 rw [<- hC] at HZ ⊢
 have hcs : C.size = 3 := by rw [hC]; rfl
 have hi3 : (Tryz.prog.info? 33).map (·.size) = some 3 := by kernel_rfl
 clear hC
 go_enter Tryz.func4, Tryz.ntmps4
 go_wp2_with fail
 have hbz : Below w.heap.size w (w.alloc (.cells C 33)) := (Below.refl _ _).alloc (Nat.le_refl _) _
 have kz : Blk (w.alloc (.cells C 33)) w.heap.size 33 C := Blk.new _ _ _
 refine (HAW.out _ hbz).mono ?_
 generalize w.alloc (.cells C 33) = wz at *
 rintro e w1 ⟨rfl, hb1⟩
 have hbw1 : Below w.heap.size w w1 := hbz.trans (hb1.mono hbz.size)
 have HAW1 := Lh (HAW.out w1 hbw1)
 have HSM := Lh (small_g ys A k c w1 HK.out.1 (HI.out.below hbw1))
 have kz1 := kz.below hb1 kz.lt
 have H1 := Lh (Ai hbw1 kz1)
 clear hbz kz hb1 hbw1 kz1
 go_wp2_with fail
 refine HSM.out.mono ?_
 rintro e w2 ⟨B, rfl, hB, rfl⟩
 clear HSM
 cases B with
 | false =>
  go_wp2_with fail
  refine HAW1.out.mono ?_
  rintro e w3 ⟨rfl, hb3⟩
  have HB3 := Lh (H1.out.1.trans (hb3.mono H1.out.1.size))
  clear hb3
  go_wp2_with fail
  go_ret
  exact ⟨rfl, HB3.out⟩
 | true =>
  have HSH := Lh (hB rfl)
  have k1 := H1.out.2
  clear hB HAW1 HAW
  go_wp2_with (refine wpList_load_row rfl 33 (.tmp 2) rfl w.heap.size rfl 33 _ (0, 0) _ k1 Tryz.underlying33 rfl (by rw [hcs]; exact hi3) ?_)
  refine (HZ.out _).mono ?_
  rintro e w3 ⟨rfl, hb3⟩
  have hbw3 : Below w.heap.size w w3 := H1.out.1.trans (hb3.mono H1.out.1.size)
  have hT3 := HT.out.below (Nat.le_refl _) hbw3
  have HN := Lh (new_r sl sg sz (by omega) (by omega) (by omega) w3 hT3 hT3.free)
  have H3 := Lh (Ai hbw3 (Ai hT3 hT3.free))
  clear hbw3 hT3 k1 hb3 HZ
  go_wp2_with fail
  refine HN.out.mono ?_
  rintro e w4 ⟨⟨a, F, K, L, P, T, rfl, hR⟩, hb4⟩
  have HS := Lh (runL_start hR b1 b2 b3)
  have hz34 := hb4.size
  have HT4 := Lh (Ai (H3.out.2.1.at_.below hb4) H3.out.2.2)
  have H4 := Lh (H3.out.1.trans (hb4.mono H3.out.1.size))
  obtain ⟨r, hr⟩ : ∃ r, r = a.r := ⟨_, rfl⟩
  obtain ⟨rb, hrb⟩ : ∃ r, r = w3.heap.size := ⟨_, rfl⟩
  rw [<- hr, <- hrb] at HS
  rw [<- hr]
  rw [<- hrb] at HT4
  have HRB := Lh hrb
  clear hR hb4 hr HN hrb hz34
  go_wp2_with fail
  go_loopw [10, 11, 12] (fun u v i wr => ∃ (j : Nat) (As : Option Addr) (ns cs : Nat) (Ao : Option Addr) (no co : Nat), i = .int .i64 j /\ j <= k /\ u = .slice As ns cs /\ v = .slice Ao no co /\ Hid (RunV w4 wr rb r j As ns cs Ao no co)) (fun _ _ i _ => k - (intOf i).toNat)
  case atStart => exact ⟨0, none, 0, 0, none, 0, 0, rfl, Nat.zero_le _, rfl, rfl, HS⟩
  case round =>
   obtain ⟨j, As, ns, cs, Ao, no, co, rfl, hj, rfl, rfl, hr⟩ := hrel
   clear HS
   by_cases hlt : j < k
   ·have hji : (j : Int) < (k : Int) := by omega
    have hk20 : k <= 20 := by rw [<- HK.out.1]; exact HSH.out.1
    obtain ⟨zs, zo, hzs, hzo, S, a, F, K, L, P, T, hL⟩ := hr.out
    have hb4 := H4.out.trans (hL.b.bel.mono (by have := H4.out.size; rw [HRB.out]; exact H3.out.1.size))
    have hjl : j < ys.length := by rw [HK.out.1]; exact hlt
    obtain ⟨y, hy⟩ : ∃ y, y = ys[j] := ⟨_, rfl⟩
    have hyj : ys[j]? = some y := by rw [List.getElem?_eq_getElem hjl, hy]
    have hym := List.mem_of_getElem? hyj
    have hyok := HK.out.2 y hym
    have hy20 := HSH.out.2 y hym
    obtain ⟨g, o, rfl, x0, x1, x2⟩ := in_sa (by rw [HK.out.1]; exact HI.out) hyj
    have hgl : g < w.heap.size := World.block_lt_of_cell? w _ x0
    have y0 := (hb4.cell hgl).trans x0
    have y1 := (hb4.cell hgl).trans x1
    have y2 := (hb4.cell hgl).trans x2
    have HR4 := Lh (fun W => rest_at y.n 4 W hyok.n.1 hyok.n.2 (by omega) (by omega))
    have HR5 := Lh (fun W => rest_at y.kd 5 W hyok.kd.1 hyok.kd.2 (by omega) (by omega))
    have hq4 := restN_lt y.n 4 (by omega)
    have hq5 := restN_lt y.kd 5 (by omega)
    obtain ⟨b, hb⟩ : ∃ q, q = restN y.n 4 := ⟨_, rfl⟩
    obtain ⟨q, hq⟩ : ∃ q, q = restN y.kd 5 := ⟨_, rfl⟩
    rw [<- hb] at HR4 hq4
    rw [<- hq] at HR5 hq5
    have HY := Lh (Ai hyok hy20)
    obtain ⟨kd, nn, pA, pl, pc, keep⟩ := y
    simp only at y0 y1 y2 HR4 HR5
    obtain ⟨w5, hw5⟩ : ∃ w5, wr.alloc (.cells #[.int .i64 kd, .int .i64 nn, .slice pA pl pc] 44) = w5 := ⟨_, rfl⟩
    have bl5 : Below wr.heap.size wr w5 := hw5 ▸ (Below.refl _ _).alloc (Nat.le_refl _) _
    have k5 : Blk w5 wr.heap.size 44 #[.int .i64 kd, .int .i64 nn, .slice pA pl pc] := hw5 ▸ Blk.new _ _ _
    have H5 := Lh (Ai (hL.below bl5) (Ai k5 (Ai hzs (Ai hzo (hb4.trans (bl5.mono hb4.size))))))
    have t1 : w5.cell? ⟨wr.heap.size, 1, none⟩ = some (.int .i64 nn) := k5.cell 1
    have t0 : w5.cell? ⟨wr.heap.size, 0, none⟩ = some (.int .i64 kd) := k5.cell 0
    clear hr hL hb4 hjl hy hyj hym hyok hy20 x0 x1 x2 hb hq bl5 k5 hzs hzo
    go_wp2_with fail
    refine (HR4.out _).mono ?_
    rintro e w6 ⟨rfl, rfl⟩
    go_upto_region 13 with fail
    go_cut [63] (fun s w9 => s = .int .i64 (q : Nat) /\ w9 = w5)
    case first =>
     go_wp2_with fail
     refine (HR5.out _).mono ?_
     rintro e w6 ⟨rfl, rfl⟩
     go_wp2_with fail
     go_meet
     exact ⟨rfl, rfl⟩
    case rest =>
     obtain ⟨rfl, hw⟩ := hcut
     obtain rfl := hw.symm
     clear HR4 HR5 y0 y1 y2 t0
     go_step
     go_cut [10, 11] (fun u v w9 => ∃ (As : Option Addr) (ns cs : Nat) (Ao : Option Addr) (no co : Nat), u = .slice As ns cs /\ v = .slice Ao no co /\ Hid (RunV w4 w9 rb r (j + 1) As ns cs Ao no co))
     case first =>
      obtain rfl | rfl | rfl | rfl | rfl : q = 0 \/ q = 1 \/ q = 2 \/ q = 3 \/ q = 4 := by omega
      ·have HE := Lh (H5.out.1.epoch (by omega) HT4.out.1 HT4.out.2 b (by omega))
       clear t1
       go_wp2_with fail
       refine HE.out.mono ?_
       rintro e w6 (⟨k6, S6, a6, F6, K6, L6, P6, T6, rfl, hL6, hep⟩ | ⟨k6, g6, rfl, hx⟩)
       ·have ho6 := hL6.b.owo
        have hlen := H5.out.1.b.len
        have hbs := hL6.b.rn.base_le
        rw [H5.out.2.2.2.1] at ho6
        have hno : no <= 1000 := by rw [<- H5.out.2.2.2.1]; omega
        have H6 := Lh (Ai hL6 (Ai hep ho6))
        have HLE := Lh hlen
        clear hL6 hep ho6 HE hlen
        go_wp2_with (at_builtin; refine wpList_app rfl (.tmp 74) (.tmp 76) _ rfl rb 3 _ 1 8 Tryz.underlying28 info_int8 rfl (by decide) _ no (nis zo) rfl (own_below H6.out.2.2 ((Below.refl _ _).alloc (Nat.le_refl _) _)) (some ⟨w6.heap.size, 0, none⟩) 1 1 [.int .i64 k6] rfl (sees_new w6 3 [.int .i64 k6] 1 1 rfl) (by simp [Value.oneCell']) (by unfold maxLen; omega) (by omega) (by simp; omega) ?_; intro v3 w7 o1 o2 o3 o4
                     have hx := H6.out.1.push (k := k6) (by rw [H5.out.2.2.2.1]; exact o1) o2 o3 H6.out.2.1 (by have := HLE.out; omega)
                     obtain ⟨A7, c7, rfl, hV⟩ := runX_o hx H5.out.2.2.1 (show (zo ++ [k6]).length = no + 1 by rw [List.length_append, H5.out.2.2.2.1]; rfl)
                     have H7 := Lh hV
                     clear o1 o2 o3 o4 hx hV)
        go_meet
        exact ⟨As, ns, cs, A7, no + 1, c7, rfl, rfl, H7⟩
       ·have H6 := Lh (show RunV w4 w6 rb r (j + 1) As ns cs Ao no co from ⟨zs, zo, H5.out.2.2.1, H5.out.2.2.2.1, hx⟩)
        clear hx HE
        go_wp2_with fail
        go_meet
        exact ⟨As, ns, cs, Ao, no, co, rfl, rfl, H6⟩
      ·have HF := Lh (H5.out.1.flush (by omega))
       clear t1
       go_wp2_with fail
       refine HF.out.mono ?_
       rintro e w6 (⟨S6, a6, F6, K6, L6, P6, T6, rfl, hL6, hop⟩ | ⟨g6, rfl, hx⟩)
       ·have ho6 := hL6.b.owo
        have hs6 := hL6.b.ows
        have hlen := hL6.b.len
        have hbs := hL6.b.rn.base_le
        rw [H5.out.2.2.2.1] at ho6
        rw [H5.out.2.2.1] at hs6
        rw [H5.out.2.2.2.1, H5.out.2.2.1] at hlen
        have hcp := own_caps ho6
        have H6 := Lh (Ai hL6 (Ai hop (Ai ho6 hs6)))
        clear hL6 hop ho6 hs6 HF
        go_wp2_with (at_builtin; refine wpList_app rfl (.tmp 83) (.tmp 84) _ rfl rb 3 _ 1 8 Tryz.underlying28 info_int8 rfl (by decide) _ ns (nis zs) rfl H6.out.2.2.2 Ao no co (nis zo) rfl (Sees.of_own H6.out.2.2.1) (i64s_one _) (by unfold maxLen; omega) (by omega) (by omega) ?_; intro v3 w7 o1 o2 o3 o4
                     have hx := H6.out.1.join (by rw [H5.out.2.2.2.1, H5.out.2.2.1]; exact o1) o2 o3 H6.out.2.1
                     obtain ⟨A7, c7, B7, d7, rfl, e7, hV⟩ := runX_v hx (show (zs ++ zo).length = ns + no by rw [List.length_append, H5.out.2.2.2.1, H5.out.2.2.1]) (show ([] : List Nat).length = 0 from rfl)
                     injection e7 with e7 e8 e9
                     subst e7 e9
                     have H7 := Lh hV
                     clear o1 o2 o3 o4 hx hV)
        go_meet
        exact ⟨A7, ns + no, c7, none, 0, 0, rfl, rfl, H7⟩
       ·have H6 := Lh (show RunV w4 w6 rb r (j + 1) As ns cs Ao no co from ⟨zs, zo, H5.out.2.2.1, H5.out.2.2.2.1, hx⟩)
        clear hx HF
        go_wp2_with fail
        go_meet
        exact ⟨As, ns, cs, Ao, no, co, rfl, rfl, H6⟩
      ·have HF := Lh (H5.out.1.shred (by omega) b)
       clear t1
       go_wp2_with fail
       refine HF.out.mono ?_
       rintro e w6 ⟨v6, S6, a6, F6, K6, L6, P6, T6, rfl, hB6, hs6, ho6⟩
       have HW := Lh (hB6.drop_ (by omega) (.inl ⟨rfl, rfl⟩) H5.out.2.2.1 (b : Int) (Below.refl _ _))
       have HW2 := Lh (fun w7 hb7 => hB6.drop_ (by omega) (.inr ⟨rfl, rfl⟩) H5.out.2.2.2.1 (b : Int) (w1 := w7) hb7)
       have H6 := Lh (Ai hB6 (Ai hs6 ho6))
       clear hB6 hs6 ho6 HF
       go_wp2_with fail
       refine HW.out.mono ?_
       rintro e w7 ⟨⟨v7, rfl, o7⟩, hb7⟩
       have HW3 := Lh (HW2.out w7 hb7)
       have H7 := Lh (Ai o7 hb7)
       obtain ⟨A7, c7, rfl⟩ := own_shape o7
       clear o7 hb7 HW HW2
       go_wp2_with fail
       refine HW3.out.mono ?_
       rintro e w8 ⟨⟨v8, rfl, o8⟩, hb8⟩
       have hx := H6.out.1.other H7.out.2 hb8 H7.out.1 o8 H6.out.2.1 H6.out.2.2 (Nat.le_trans (Nat.add_le_add (List.length_filter_le _ _) (List.length_filter_le _ _)) H6.out.1.len)
       obtain ⟨B8, d8, rfl, hV⟩ := runX_o hx rfl rfl
       have H8 := Lh hV
       clear o8 hb8 hx hV HW3
       go_wp2_with fail
       go_meet
       exact ⟨_, _, _, _, _, _, rfl, rfl, H8⟩
      ·have L5 := Lh (H5.out.1.below (show Below w5.heap.size w5 w5.drew from ⟨rfl, rfl, rfl, Nat.le_refl _, fun _ _ => rfl⟩))
       have hdk := rundisk_any L5.out.b.rn
       rw [L5.out.b.r_] at hdk
       have HD := Lh hdk
       have HL := Lh (L5.out.limit (by omega) nn HY.out.1.n)
       have t2 : w5.drew.cell? ⟨wr.heap.size, 1, none⟩ = some (.int .i64 nn) := t1
       clear hdk t1
       go_wp2_with fail
       refine region_fast [(0, true), (2, true), (3, true), (1, false), (4, false)] [1, 2, 3] 14 [(2535301200456458802993406410752, 256, 0, 0), (5070602400912917605986812821504, 2535301200456458802993406410752, 1, 1), (10141204801825835211973625643008, 8192, 0, 0), (20282409603651670423947251286016, 10141204801825835211973625643008, 4, 4), (40564819207303340847894502572032, 25353012004564588029934064107520, 10, 15)] (fun W => W = w5.drew) (by kernel_rfl) (by kernel_rfl) (by kernel_rfl) rfl (by kernel_rfl) (by kernel_rfl) rfl (fun hS => ?_)
       repeat (first
        | (refine plan_read (v := ?_) rfl (fun _ _ _ h => h) rfl hS ?_ ?_; rotate_left 1; (focus (intro w' hS'; subst hS'; go_simp; try rfl)); (simp only [Act.put, pu1]; dsimp only [pu2, pu3]))
        | (refine plan_skip rfl (fun _ _ _ h => h) rfl hS ?_; (simp only [Act.put, pu1]; dsimp only [pu2, pu3])))
       refine plan_do (by rfl) (by rfl) (fun K hK => ?_)
       go_simp
       refine HD.out.mono ?_
       rintro e w6 ⟨rfl, rfl⟩
       refine hK.out _ _ (fun _ => rfl) (fun hS => ?_); clear hK K; replace hS := hS rfl; try (simp only [Act.put, pu1]; dsimp only [pu2, pu3])
       repeat (first
        | (refine plan_read (v := ?_) rfl (fun _ _ _ h => h) rfl hS ?_ ?_; rotate_left 1; (focus (intro w' hS'; subst hS'; go_simp; try rfl)); (simp only [Act.put, pu1]; dsimp only [pu2, pu3]))
        | (refine plan_skip rfl (fun _ _ _ h => h) rfl hS ?_; (simp only [Act.put, pu1]; dsimp only [pu2, pu3])))
       refine plan_do (by rfl) (by rfl) (fun K hK => ?_)
       go_simp
       refine HL.out.mono ?_
       rintro e w6 ⟨rfl, hx⟩
       have H6 := Lh (show RunV w4 w6 rb r (j + 1) As ns cs Ao no co from ⟨zs, zo, H5.out.2.2.1, H5.out.2.2.2.1, hx⟩)
       clear hx HL HD t2
       have hS := trivial
       refine hK.out _ _ (fun h => by cases h) (fun _ => ?_); clear hK K; try (simp only [Act.put, pu1]; dsimp only [pu2, pu3])
       repeat (first
        | (refine plan_read (v := ?_) rfl (fun _ _ _ h => h) rfl hS ?_ ?_; rotate_left 1; (focus (intro w' hS'; go_simp; try rfl)); (simp only [Act.put, pu1]; dsimp only [pu2, pu3]))
        | (refine plan_skip rfl (fun _ _ _ h => h) rfl hS ?_; (simp only [Act.put, pu1]; dsimp only [pu2, pu3])))
       refine plan_nil ?_
       go_wp2_with fail
       go_meet
       exact ⟨As, ns, cs, Ao, no, co, rfl, rfl, H6⟩
      ·have HC := Lh (H5.out.1.crash (by omega) HT4.out.1 HT4.out.2 pA pl pc keep HY.out.1.len (by have := HY.out.2; omega) (HY.out.1.sees.below H5.out.2.2.2.2) (fun h0 ad e => by subst e; have := sees_lt HY.out.1.sees h0; have := H3.out.1.size; have := HRB.out; omega))
       have t2 : w5.cell? ⟨wr.heap.size, 2, none⟩ = some (.slice pA pl pc) := H5.out.2.1.cell 2
       clear t1
       go_wp2_with fail
       refine HC.out.mono ?_
       rintro e w6 ⟨rfl, hx⟩
       have H6 := Lh (show RunV w4 w6 rb r (j + 1) As ns cs none 0 0 from ⟨zs, [], H5.out.2.2.1, rfl, hx⟩)
       clear hx HC t2
       go_wp2_with fail
       go_meet
       exact ⟨As, ns, cs, none, 0, 0, rfl, rfl, H6⟩
     case rest =>
      obtain ⟨A7, n7, c7, B7, m7, d7, rfl, rfl, h7⟩ := hcut
      clear H5 HY t1
      go_wp2_with fail
      go_loopw [17, 18, 19, 20] (fun i _ _ _ wq => ∃ m : Nat, i = .int .i64 m /\ m <= n7 /\ Hid (RunV w4 wq rb r (j + 1) A7 n7 c7 B7 m7 d7)) (fun i _ _ _ _ => n7 - (intOf i).toNat)
      case atStart => exact ⟨0, rfl, Nat.zero_le _, h7⟩
      case round =>
       obtain ⟨m, rfl, hm, hq⟩ := hrel
       clear h7
       by_cases hlm : m < n7
       ·have hmi : (m : Int) < (n7 : Int) := by omega
        obtain ⟨z1, z2, hz1, hz2, S, a, F, K, L, P, T, hL⟩ := hq.out
        have hml : m < z1.length := by omega
        have hn7 : n7 <= 1000 := by have := hL.b.len; omega
        obtain ⟨z, hz⟩ : ∃ z, z = z1[m] := ⟨_, rfl⟩
        have hzm : z1[m]? = some z := by rw [List.getElem?_eq_getElem hml, hz]
        have how := hL.b.ows
        rw [hz1] at how
        have hse := Sees.of_own how
        obtain ⟨g7, f7, rfl, hc⟩ := hse.2 (by omega)
        have x0 : wr.cell? ⟨g7, f7 + m, none⟩ = some (.int .i64 (z : Int)) := hc m (.int .i64 (z : Int)) (by unfold nis i64s; rw [List.getElem?_map, List.getElem?_map, hzm]; rfl)
        have hgl := World.block_lt_of_cell? wr _ x0
        obtain ⟨bk, sec, hlook⟩ := hL.look (by omega) HT4.out.1 (List.mem_of_getElem? hzm)
        have HO := Lh (hlook wr (Below.refl _ _)).1
        have HLK := Lh hlook
        have HL := Lh (Ai hz1 (Ai hz2 hL))
        clear hml hz hzm how hse hc hlook hL hz1 hz2 hq
        go_wp2_with fail
        refine HO.out.mono ?_
        rintro e u1 ⟨rfl, hb1⟩
        have HKP := Lh (HLK.out u1 hb1).2.1
        have x1 := (hb1.cell hgl).trans x0
        have B1 := Lh hb1
        clear hb1 HO x0
        go_wp2_with fail
        refine HKP.out.mono ?_
        rintro e u2 ⟨rfl, hb2⟩
        have hb12 := B1.out.trans (hb2.mono B1.out.size)
        have HLE := Lh (HLK.out u2 hb12).2.2
        have x2 := (hb2.cell (Nat.lt_of_lt_of_le hgl B1.out.size)).trans x1
        have B2 := Lh hb12
        clear hb2 hb12 HKP x1
        go_wp2_with fail
        refine HLE.out.mono ?_
        rintro e u3 ⟨rfl, hb3⟩
        have H9 := Lh (show RunV w4 u3 rb r (j + 1) (some ⟨g7, f7, none⟩) n7 c7 B7 m7 d7 from ⟨z1, z2, HL.out.1, HL.out.2.1, S, a, F, K, L, P, T, HL.out.2.2.below (B2.out.trans (hb3.mono B2.out.size))⟩)
        clear hb3 HLE x2
        go_wp2_with fail
        go_roundw
        case rel => exact ⟨m + 1, by go_num, by omega, H9⟩
        case measure => simp [intOf]; omega
       ·obtain rfl : m = n7 := by omega
        have hge : ¬ ((m : Int) < (m : Int)) := by omega
        go_wp2_with fail
        go_roundw
        case rel => exact ⟨j + 1, A7, m, c7, B7, m7, d7, by go_num, by omega, rfl, rfl, hq⟩
        case measure => simp [intOf]; omega
   ·obtain rfl : j = k := by omega
    have hge : ¬ ((j : Int) < (j : Int)) := by omega
    obtain ⟨zs, zo, hzs, hzo, S, a, F, K, L, P, T, hL⟩ := hr.out
    have H9 := Lh (H4.out.trans (hL.b.bel.mono (by have := H4.out.size; rw [HRB.out]; exact H3.out.1.size)))
    clear hr hL
    go_wp2_with fail
    go_ret
    exact ⟨rfl, H9.out⟩
theorem leaks_walk (z0 : List Int) (a1 : Option Addr) (ys1 : List Sa) (len1 cap1 : Nat) (W : World) (hT : TabsS W) (l0 : z0.length = 3) (w0 : ∀ n ∈ z0, (Lit.int .u8 n).wf = true) (m1 : ys1.length = len1) (w1 : Sees W 3 a1 ys1.length (sas ys1) /\ (∀ y ∈ ys1, SaOk W y) /\ ys1.length <= maxLen) :
  Calls Tryz.prog 4 #[.agg (z0.map (.int .u8 ·)).toArray, .slice a1 len1 cap1] W fun e w' => e = .returned (.bool true) /\ Below W.heap.size W w' := by
 match z0, l0 with
 | [x, y, z], _ =>
  have hx := wf_u8 (w0 x (by simp))
  have hy := wf_u8 (w0 y (by simp))
  have hz := wf_u8 (w0 z (by simp))
  obtain ⟨x', rfl⟩ : ∃ n : Nat, x = n := ⟨x.toNat, by omega⟩
  obtain ⟨y', rfl⟩ : ∃ n : Nat, y = n := ⟨y.toNat, by omega⟩
  obtain ⟨z', rfl⟩ : ∃ n : Nat, z = n := ⟨z.toNat, by omega⟩
  rw [m1] at w1
  exact leaks_any x' y' z' (by omega) (by omega) (by omega) ys1 a1 len1 cap1 W m1 w1.1 w1.2.1 hT
end Go.Proofs.YtkgaeoeibjoljaaGreatDoor
