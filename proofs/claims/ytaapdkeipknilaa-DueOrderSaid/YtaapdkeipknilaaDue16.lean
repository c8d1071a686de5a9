/-
  DueOrder.
-/
import Derived.Test.YtaapdkeipknilaaDue15
import Derived.Test.YtaapdkeipknilaaRest
import Derived.Deep.DeepCutAuto
namespace Go.Proofs.Ytaapdkeipknilaa
set_option maxRecDepth 4000
open Go.RowKit

/-- What has come when k were pushed, in turned order. -/
def turned (ys : List (Int × Int)) (r k : Nat) : List (Int × Int) := ((List.range k).map fun i => gg ys ((i + r) % ys.length)).foldl pushS []
theorem turned_succ (ys : List (Int × Int)) (r k : Nat) : turned ys r (k + 1) = pushS (turned ys r k) (gg ys ((k + r) % ys.length)) := by
  unfold turned
  rw [List.range_succ, List.map_append, List.foldl_append]
  rfl
theorem turned_length (ys : List (Int × Int)) (r k : Nat) : (turned ys r k).length ≤ k := by
  have := foldl_length ((List.range k).map fun i => gg ys ((i + r) % ys.length)) []
  simpa [turned] using this
theorem strict {S : List (Int × Int)} (h : Sorted S) (ha : Apart S) {i : Nat} (hi : i + 1 < S.length) : ¬ LE (gg S (i + 1)) (gg S i) := by
  intro hle
  have h1 := (List.pairwise_iff_getElem.1 h) i (i + 1) (by omega) hi (by omega)
  have h2 := (List.pairwise_iff_getElem.1 ha) i (i + 1) (by omega) hi (by omega)
  rw [gg_eq hi, gg_eq (by omega : i < S.length)] at hle
  exact h2 (by rw [LE.anti h1 hle])
theorem drop_gg {S : List (Int × Int)} {i : Nat} (h : i < S.length) : S.drop i = gg S i :: S.drop (i + 1) := by
  rw [List.drop_eq_getElem_cons h, gg_eq h]

set_option maxHeartbeats 4000000 in
theorem order_walk (a : Option Addr) (ys : List (Int × Int)) (len cap : Nat) (turn : Int) (W : World) (m : ys.length = len) (hS : Sees W 2 a ys.length (dcs ys)) (wf : (Lit.int .i64 turn).wf = true) :
    Calls Try.prog 3 #[.slice a len cap, .int .i64 turn] W fun e W' => e = .returned (.bool true) ∧ Below W.heap.size W W' := by
  subst m
  have HA := Lib.hid (fun w => awake_any w)
  have HS := Lib.hid hS
  have HW := Lib.hid (wf_i64 wf)
  clear hS wf
  by_cases hl : 60 < ys.length
  · have hl2 : (60 : Int) < (ys.length : Int) := by omega
    go_enter Try.func3, Try.ntmps3
    go_wp2_with fail
    refine (HA.out _).mono ?_
    rintro e w1 ⟨rfl, b1⟩
    have H1 := Lib.hid b1
    clear b1
    go_wp2_with fail
    refine (HA.out _).mono ?_
    rintro e w2 ⟨rfl, b2⟩
    have H2 := Lib.hid (H1.out.trans (b2.mono H1.out.size))
    clear b2
    go_wp2_with fail
    go_ret
    exact ⟨rfl, H2.out⟩
  · have hl2 : ¬ ((60 : Int) < (ys.length : Int)) := by omega
    have HL := Lib.hid hl
    clear hl
    go_enter Try.func3, Try.ntmps3
    go_wp2_with fail
    refine (HA.out _).mono ?_
    rintro e w1 ⟨rfl, b1⟩
    have HN := Lib.hid (new_any [] none 0 w1 (Sees.none_ _ _ _) (by decide))
    have H1 := Lib.hid b1
    clear b1
    go_wp2_with fail
    refine HN.out.mono ?_
    rintro e w2 ⟨rfl, ⟨v2, q2, g2⟩, b2⟩
    have q2' : QAt w2 w1.heap.size v2 [] := q2
    have HQ : Hid (∃ v, QIn W w2 w1.heap.size v []) := Lib.hid ⟨v2, QIn.start H1.out q2' g2 b2⟩
    clear q2 q2' g2 b2 HN
    obtain ⟨len, hlen⟩ : ∃ len, ys.length = len := ⟨_, rfl⟩
    have HLN := Lib.hid hlen
    rw [hlen] at HL hl2 ⊢
    have hle2 : (len : Int) ≤ 60 := by omega
    generalize w1.heap.size = q at *
    clear hlen
    obtain ⟨r, hr⟩ : ∃ r, restN turn len = r := ⟨_, rfl⟩
    have HR := Lib.hid hr
    clear hr
    go_wp2_with fail
    go_loopw [6, 7] (fun nn ii wr => ∃ i : Nat, ii = .int .i64 i ∧ i ≤ len ∧ nn = .int .i64 (turned ys r i).length ∧ Hid (∃ v, QIn W wr q v (turned ys r i))) (fun _ ii _ => len - (intOf ii).toNat)
    case atStart => exact ⟨0, rfl, Nat.zero_le _, rfl, HQ⟩
    case round =>
      obtain ⟨i, rfl, hi, rfl, hq⟩ := hrel
      obtain ⟨v3, q3⟩ := hq.out
      have HQ3 := Lib.hid q3
      clear q3 hq
      by_cases hlt : i < len
      · have hlti : (i : Int) < (len : Int) := by omega
        have hpos : 0 < len := by omega
        have HR1 := Lib.hid (rest_at turn len wr HW.out.1 HW.out.2 hpos (by omega))
        rw [HR.out] at HR1
        have hrl : r < len := by rw [← HR.out]; exact restN_lt _ _ hpos
        have hrl2 : (r : Int) < (len : Int) := by omega
        have HR2 := Lib.hid (rest_at ((i : Int) + r) len wr (by omega) (by omega) hpos (by omega))
        obtain ⟨s, hs⟩ : ∃ s, restN ((i : Int) + r) len = s := ⟨_, rfl⟩
        have hs2 : s = (i + r) % len := by rw [← hs]; unfold restN; rw [show (i : Int) + r = ((i + r : Nat) : Int) by omega]; rfl
        have hsl : s < len := by rw [hs2]; exact Nat.mod_lt _ hpos
        have hsl2 : (s : Int) < (len : Int) := by omega
        rw [hs] at HR2
        have hts := turned_succ ys r i
        rw [HLN.out, ← hs2] at hts
        have hge := gg_get (l := ys) (k := s) (by rw [HLN.out]; exact hsl)
        obtain ⟨g, o, rfl, x0, x1⟩ := in_due (HS.out.below HQ3.out.bel) hge
        have HP := Lib.hid (qpush_any q v3 (turned ys r i) (gg ys s) wr HQ3.out.at_ (by have := turned_length ys r i; omega))
        have htl := turned_length ys r i
        have htl2 : ((turned ys r i).length : Int) ≤ 60 := by omega
        have HT := Lib.hid hts
        clear hs hs2 hge hts htl
        obtain ⟨S', hS1⟩ : ∃ S', turned ys r (i + 1) = S' := ⟨_, rfl⟩
        have HS1 := Lib.hid hS1
        rw [hS1] at HT
        generalize turned ys r i = S at *
        generalize gg ys s = y at *
        have HTL := Lib.hid htl2
        clear hS1
        obtain ⟨p, t⟩ := y
        simp only at x0 x1
        go_wp2_with fail
        refine HR1.out.mono ?_
        rintro e w4 ⟨rfl, rfl⟩
        go_wp2_with fail
        refine HR2.out.mono ?_
        rintro e w4 ⟨rfl, rfl⟩
        go_wp2_with fail
        refine HP.out.mono ?_
        rintro e w4 ⟨rfl, h4⟩
        obtain ⟨v4, q4, -, -⟩ := HQ3.out.step h4
        have H4 : Hid (∃ v, QIn W w4 q v S') := Lib.hid ⟨v4, by rw [HT.out]; exact q4⟩
        clear q4 h4
        clear x0 x1 htl2 HP HR1 HR2
        cases hb : hasB S t with
        | true =>
          have hS' : S' = S := by rw [HT.out]; simp [pushS, hb]
          subst hS'
          clear hb HT
          go_wp2_with fail
          go_roundw
          case rel => exact ⟨i + 1, by go_num, by omega, by rw [HS1.out], Lib.hid (by rw [HS1.out]; exact H4.out)⟩
          case measure => simp [intOf]; omega
        | false =>
          have hS' : S'.length = S.length + 1 := by rw [HT.out]; simp only [pushS, hb]; rw [if_neg (by simp), (ins_perm _ _).length_eq]; rfl
          have hS2 : ((S.length : Int) + 1) = (S'.length : Int) := by omega
          have hS3 : (S.length : Int) ≤ 60 := HTL.out
          have HSL := Lib.hid hS2
          clear hb HT hS' hS2
          go_wp2_with fail
          go_roundw
          case rel => exact ⟨i + 1, by go_num, by omega, by rw [HSL.out, HS1.out], Lib.hid (by rw [HS1.out]; exact H4.out)⟩
          case measure => simp [intOf]; omega
      · obtain rfl : i = len := by omega
        clear HQ
        have HLS := Lib.hid (list_any q v3 (turned ys r i) wr HQ3.out.at_ (by have := turned_length ys r i; omega))
        have htl := turned_length ys r i
        generalize turned ys r i = S at *
        have hsl : (S.length : Int) ≤ 60 := by omega
        clear htl
        go_wp2_with fail
        refine HLS.out.mono ?_
        rintro e w5 ⟨A, c, rfl, ho, hb5⟩
        have hap : ∀ g, (Value.slice A S.length c).ownBlock = some g → ¬ QF q v3 g := fun g hg hq => by
          have h1 := (ho.lt g hg).1
          have h2 := HQ3.out.lt g hq
          omega
        have H5 := Lib.hid (And.intro (HQ3.out.below hb5) (And.intro ho hap))
        have HSO := Lib.hid (And.intro HQ3.out.sorted HQ3.out.apart)
        generalize wr.heap.size = base at *
        clear ho hap hb5 HLS
        have HL2 := Lib.hid hsl
        go_wp2_with fail
        go_loopw [9, 10, 11] (fun ii _ _ wr => ∃ (i : Nat) (v : Value), ii = .int .i64 i ∧ i ≤ S.length ∧ Hid (QIn W wr q v (S.drop i) ∧ wr.ownsRow base 28 2 (.slice A S.length c) S.length (dcs S) ∧ ∀ g, (Value.slice A S.length c).ownBlock = some g → ¬ QF q v g)) (fun ii _ _ _ => S.length - (intOf ii).toNat)
        case atStart => exact ⟨0, v3, rfl, Nat.zero_le _, H5⟩
        case round =>
          obtain ⟨i, v6, rfl, hi, hr6⟩ := hrel
          clear H5
          by_cases hlt : i < S.length
          · have hlti : (i : Int) < (S.length : Int) := by omega
            have hne := run_neq_due
            have hgi := gg_get hlt
            obtain ⟨g, c', e⟩ := own_first (own_base hr6.out.2.1 (Nat.zero_le _)) (by omega)
            injection e with e _ hcc
            subst e
            subst hcc
            have HLT := Lib.hid hlt
            go_upto_region 16 with fail
            go_cut [70] (fun s w9 => s = .bool false ∧ Hid (QIn W w9 q v6 (S.drop i) ∧ w9.ownsRow base 28 2 (.slice (some ⟨g, 0, none⟩) S.length c) S.length (dcs S) ∧ ∀ g', (Value.slice (some ⟨g, 0, none⟩) S.length c).ownBlock = some g' → ¬ QF q v6 g'))
            case first =>
              obtain ⟨g', o', e', x0, x1⟩ := in_due (Sees.of_own hr6.out.2.1) hgi
              injection e' with e'
              injection e' with e1 e2 _
              subst e1 e2
              rw [Nat.zero_add] at x0 x1
              by_cases h0 : i = 0
              · have h0i : ¬ (0 < (i : Int)) := by omega
                clear hgi hlt
                refine region_fast [(0, true), (1, true), (2, true), (3, true), (4, true), (5, true), (6, true), (7, true), (8, true), (9, true), (10, true), (11, true), (12, false), (13, true), (14, true)] [4, 5, 8, 9, 10, 11] 3888 [(72057594037927936, 512, 0, 0), (144115188075855872, 72057594037927936, 1, 1), (288230376151711744, 144115188075855872, 2, 3), (576460752303423488, 288230376151712000, 4, 7), (1152921504606846976, 288230376151712256, 4, 7), (2305843009213693952, 1441151880758558720, 20, 23), (4611686018427387904, 3170534137668829184, 44, 63), (9223372036854775808, 4899916394579099648, 68, 127), (18446744073709551616, 288230376151712000, 4, 7), (36893488147419103232, 288230376151712256, 4, 7), (73786976294838206464, 55628462597280366592, 772, 775), (147573952589676412928, 74075206670989918208, 1028, 1799), (295147905179352825856, 157085555002682900480, 2180, 4095), (590295810358705651712, 295436135555504537600, 4100, 8191), (1180591620717411303424, 590584040734857363456, 8196, 16383)] (fun W' => W'.cell? ⟨g, i * 2, none⟩ = some (.int .i64 (gg S i).1) ∧ W'.cell? ⟨g, i * 2 + 1, none⟩ = some (.int .i64 (gg S i).2)) (by kernel_rfl) (by kernel_rfl) (by kernel_rfl) rfl (by kernel_rfl) (by kernel_rfl) ⟨x0, x1⟩ (fun hS => ?_)
                refine plan_read (v := .int .i64 i) rfl (fun _ _ _ h => h) rfl hS ?_ ?_; (focus (intro w' hS'; go_simp; first | done | simp [h0i] | (simp; omega))); (simp only [Act.put, List.setIfInBounds_toArray]; dsimp only [List.set_cons_zero, List.set_cons_succ])
                refine plan_read (v := .bool false) rfl (fun _ _ _ h => h) rfl hS ?_ ?_; (focus (intro w' hS'; go_simp; first | done | simp [h0i, h0] | (simp; omega))); (simp only [Act.put, List.setIfInBounds_toArray]; dsimp only [List.set_cons_zero, List.set_cons_succ])
                clear h0 h0i
                repeat (first
                  | (refine plan_read (v := ?_) rfl (fun _ _ _ h => h) rfl hS ?_ ?_; rotate_left 1; (focus (intro w' hS'; have e0 := hS'.1; have e1 := hS'.2; go_simp; try rfl)); (simp only [Act.put, List.setIfInBounds_toArray]; dsimp only [List.set_cons_zero, List.set_cons_succ]))
                  | (refine plan_skip rfl (fun _ _ _ h => h) rfl hS ?_; (simp only [Act.put, List.setIfInBounds_toArray]; dsimp only [List.set_cons_zero, List.set_cons_succ])))
                refine plan_pass (by rfl) (by rfl) (fun _ => hS) ?_; try (simp only [Act.put, List.setIfInBounds_toArray]; dsimp only [List.set_cons_zero, List.set_cons_succ])
                repeat (first
                  | (refine plan_read (v := ?_) rfl (fun _ _ _ h => h) rfl hS ?_ ?_; rotate_left 1; (focus (intro w' hS'; have e0 := hS'.1; have e1 := hS'.2; go_simp; try rfl)); (simp only [Act.put, List.setIfInBounds_toArray]; dsimp only [List.set_cons_zero, List.set_cons_succ]))
                  | (refine plan_skip rfl (fun _ _ _ h => h) rfl hS ?_; (simp only [Act.put, List.setIfInBounds_toArray]; dsimp only [List.set_cons_zero, List.set_cons_succ])))
                refine plan_nil ?_
                go_wp2_with fail
                go_meet
                exact ⟨rfl, Lib.hid ⟨hr6.out.1.below (below_of_drew (Below.refl _ _)), hr6.out.2.1.drew, hr6.out.2.2⟩⟩
              · have h0i : (0 < (i : Int)) := by omega
                obtain ⟨k, rfl⟩ : ∃ k, i = k + 1 := ⟨i - 1, by omega⟩
                obtain ⟨g', o', e', y0, y1⟩ := in_due (k := k) (Sees.of_own hr6.out.2.1) (gg_get (by omega))
                injection e' with e'
                injection e' with e1 e2 _
                subst e1 e2
                rw [Nat.zero_add] at y0 y1
                have hst := strict HSO.out.1 HSO.out.2 hlt
                have hki : (k : Int) < (S.length : Int) := by omega
                have hk60 : (k : Int) ≤ 60 := by omega
                have hk3 : (k : Int) + 1 < (S.length : Int) := by omega
                have hwk : IntKind.i64.wrap (k : Int) = k := IntWalk.i64_in _ (by omega)
                have HAH := Lib.hid (fun w => ahead_any (gg S k) (gg S (k + 1)) w)
                have HST := Lib.hid (show decide (¬ LE (gg S (k + 1)) (gg S k)) = true by simpa using hst)
                rw [HST.out] at HAH
                have hg6 := World.block_lt_of_cell? _ _ x0
                clear h0 hgi hlt hst
                generalize gg S (k + 1) = y at *
                generalize gg S k = z at *
                obtain ⟨a1, b1⟩ := y
                obtain ⟨a2, b2⟩ := z
                simp only at x0 x1 y0 y1 HAH
                refine region_fast [(0, true), (1, true), (2, true), (3, true), (4, true), (5, true), (6, true), (7, true), (8, true), (9, true), (10, true), (11, true), (12, false), (13, true), (14, true)] [4, 5, 8, 9, 10, 11] 3888 [(72057594037927936, 512, 0, 0), (144115188075855872, 72057594037927936, 1, 1), (288230376151711744, 144115188075855872, 2, 3), (576460752303423488, 288230376151712000, 4, 7), (1152921504606846976, 288230376151712256, 4, 7), (2305843009213693952, 1441151880758558720, 20, 23), (4611686018427387904, 3170534137668829184, 44, 63), (9223372036854775808, 4899916394579099648, 68, 127), (18446744073709551616, 288230376151712000, 4, 7), (36893488147419103232, 288230376151712256, 4, 7), (73786976294838206464, 55628462597280366592, 772, 775), (147573952589676412928, 74075206670989918208, 1028, 1799), (295147905179352825856, 157085555002682900480, 2180, 4095), (590295810358705651712, 295436135555504537600, 4100, 8191), (1180591620717411303424, 590584040734857363456, 8196, 16383)] (fun W' => W'.cell? ⟨g, (k + 1) * 2, none⟩ = some (.int .i64 a1) ∧ W'.cell? ⟨g, (k + 1) * 2 + 1, none⟩ = some (.int .i64 b1) ∧ W'.cell? ⟨g, k * 2, none⟩ = some (.int .i64 a2) ∧ W'.cell? ⟨g, k * 2 + 1, none⟩ = some (.int .i64 b2)) (by kernel_rfl) (by kernel_rfl) (by kernel_rfl) rfl (by kernel_rfl) (by kernel_rfl) ⟨x0, x1, y0, y1⟩ (fun hS => ?_)
                refine plan_read (v := .int .i64 (k + 1 : Nat)) rfl (fun _ _ _ h => h) rfl hS ?_ ?_; (focus (intro w' hS'; go_simp; first | done | simp [h0i] | (simp; omega))); (simp only [Act.put, List.setIfInBounds_toArray]; dsimp only [List.set_cons_zero, List.set_cons_succ])
                refine plan_read (v := .bool true) rfl (fun _ _ _ h => h) rfl hS ?_ ?_; (focus (intro w' hS'; go_simp; first | done | simp [h0i] | (simp; omega))); (simp only [Act.put, List.setIfInBounds_toArray]; dsimp only [List.set_cons_zero, List.set_cons_succ])
                repeat (first
                  | (refine plan_read (v := ?_) rfl (fun _ _ _ h => h) rfl hS ?_ ?_; rotate_left 1; (focus (intro w' hS'; have e0 := hS'.1; have e1 := hS'.2.1; have e2 := hS'.2.2.1; have e3 := hS'.2.2.2; go_simp; try rfl)); (simp only [Act.put, List.setIfInBounds_toArray]; dsimp only [List.set_cons_zero, List.set_cons_succ]))
                  | (refine plan_skip rfl (fun _ _ _ h => h) rfl hS ?_; (simp only [Act.put, List.setIfInBounds_toArray]; dsimp only [List.set_cons_zero, List.set_cons_succ])))
                refine plan_do (by rfl) (by rfl) (fun K hK => ?_)
                go_simp
                refine (HAH.out _).mono ?_
                rintro e w7 ⟨rfl, hb7⟩
                have hb7' := below_of_drew hb7
                have hS7 := And.intro ((World.cell?_of_block (hb7'.block g hg6)).trans x0) (And.intro ((World.cell?_of_block (hb7'.block g hg6)).trans x1) (And.intro ((World.cell?_of_block (hb7'.block g hg6)).trans y0) ((World.cell?_of_block (hb7'.block g hg6)).trans y1)))
                have H7 := Lib.hid hb7'
                clear hb7 hb7'
                refine hK.out _ _ (fun h => by cases h) (fun _ => ?_); clear hK K; try (simp only [Act.put, List.setIfInBounds_toArray]; dsimp only [List.set_cons_zero, List.set_cons_succ])
                clear hS
                have hS := hS7
                repeat (first
                  | (refine plan_read (v := ?_) rfl (fun _ _ _ h => h) rfl hS ?_ ?_; rotate_left 1; (focus (intro w' hS'; have e0 := hS'.1; have e1 := hS'.2.1; have e2 := hS'.2.2.1; have e3 := hS'.2.2.2; go_simp; try rfl)); (simp only [Act.put, List.setIfInBounds_toArray]; dsimp only [List.set_cons_zero, List.set_cons_succ]))
                  | (refine plan_skip rfl (fun _ _ _ h => h) rfl hS ?_; (simp only [Act.put, List.setIfInBounds_toArray]; dsimp only [List.set_cons_zero, List.set_cons_succ])))
                refine plan_nil ?_
                go_wp2_with fail
                go_meet
                exact ⟨rfl, Lib.hid ⟨hr6.out.1.below H7.out, own_below hr6.out.2.1 H7.out, hr6.out.2.2⟩⟩
            case rest =>
              obtain ⟨rfl, hc9⟩ := hcut
              clear hr6
              obtain ⟨g', o', e', x0, x1⟩ := in_due (Sees.of_own hc9.out.2.1) hgi
              injection e' with e'
              injection e' with e1 e2 _
              subst e1 e2
              rw [Nat.zero_add] at x0 x1
              have hdr := drop_gg hlt
              have HP := Lib.hid (qpop_some q v6 (gg S i) (S.drop (i + 1)) (gg S i).1 wc (by rw [← hdr]; exact hc9.out.1.at_) (by rw [List.length_cons, List.length_drop]; omega) (by omega))
              have HG := Lib.hid (gg_get hlt)
              clear hdr hgi hlt
              obtain ⟨y, hy⟩ : ∃ y, gg S i = y := ⟨_, rfl⟩
              rw [hy] at x0 x1 HP HG
              clear hy
              obtain ⟨a1, b1⟩ := y
              simp only at x0 x1 HP
              go_wp2_with fail
              refine HP.out.mono ?_
              rintro e w7 ⟨rfl, h7⟩
              obtain ⟨v8, q8, f8, n8⟩ := hc9.out.1.step h7
              have o8 := own_fr hc9.out.2.1 f8 hc9.out.2.2
              have ap8 : ∀ g', (Value.slice (some ⟨g, 0, none⟩) S.length c).ownBlock = some g' → ¬ QF q v8 g' := fun g' hg' hq' => by
                rcases hq' with rfl | hq'
                · exact hc9.out.2.2 _ hg' (.inl rfl)
                · rcases n8 _ hq' with h | h
                  · exact hc9.out.2.2 _ hg' (.inr h)
                  · have := (hc9.out.2.1.lt _ hg').2
                    omega
              obtain ⟨w8, hw8⟩ : ∃ w8, w7.alloc (.cells #[.int .i64 a1, .int .i64 b1] 28) = w8 := ⟨_, rfl⟩
              have b8 : Below w7.heap.size w7 w8 := hw8 ▸ (Below.refl _ _).alloc (Nat.le_refl _) _
              have k8 : Blk w8 w7.heap.size 28 #[.int .i64 a1, .int .i64 b1] := hw8 ▸ Blk.new _ _ _
              have H8 := Lib.hid (And.intro (q8.below b8) (And.intro (own_below o8 b8) ap8))
              obtain ⟨g', o', e', z0, z1⟩ := in_due (Sees.of_own H8.out.2.1) HG.out
              injection e' with e'
              injection e' with e1 e2 _
              subst e1 e2
              rw [Nat.zero_add] at z0 z1
              have t0 : w8.cell? ⟨w7.heap.size, 0, none⟩ = some (.int .i64 a1) := k8.cell 0
              have t1 : w8.cell? ⟨w7.heap.size, 1, none⟩ = some (.int .i64 b1) := k8.cell 1
              clear h7 q8 f8 n8 o8 ap8 b8 k8 x0 x1 HP
              go_wp2_with fail
              clear hw8
              refine region_fast [(0, true), (1, true), (2, true), (3, true), (4, true), (5, true), (6, true), (7, true), (8, true), (9, true)] [4, 5, 6, 7] 240 [(2417851639229258349412352, 2048, 0, 0), (4835703278458516698824704, 2417851639229258349412352, 1, 1), (9671406556917033397649408, 4835703278458516698824704, 2, 3), (19342813113834066795298816, 9671406556917033397650432, 4, 7), (38685626227668133590597632, 9671406556917033397649664, 4, 7), (77371252455336267181195264, 9671406556917033397649920, 4, 7), (154742504910672534362390528, 125728285239921434169442304, 52, 55), (309485009821345068724781056, 164413911467589567760039936, 68, 119), (618970019642690137449562112, 338499229492096168917729280, 140, 255), (1237940039285380274899124224, 628641426199607170847211520, 260, 511)] (fun W' => W'.cell? ⟨g, i * 2, none⟩ = some (.int .i64 a1) ∧ W'.cell? ⟨g, i * 2 + 1, none⟩ = some (.int .i64 b1) ∧ W'.cell? ⟨w7.heap.size, 0, none⟩ = some (.int .i64 a1) ∧ W'.cell? ⟨w7.heap.size, 1, none⟩ = some (.int .i64 b1)) (by kernel_rfl) (by kernel_rfl) (by kernel_rfl) rfl (by kernel_rfl) (by kernel_rfl) ⟨z0, z1, t0, t1⟩ (fun hS => ?_)
              repeat (first
                | (refine plan_read (v := ?_) rfl (fun _ _ _ h => h) rfl hS ?_ ?_; rotate_left 1; (focus (intro w' hS'; have e0 := hS'.1; have e1 := hS'.2.1; have e2 := hS'.2.2.1; have e3 := hS'.2.2.2; go_simp; try rfl)); (simp only [Act.put, List.setIfInBounds_toArray]; dsimp only [List.set_cons_zero, List.set_cons_succ]))
                | (refine plan_skip rfl (fun _ _ _ h => h) rfl hS ?_; (simp only [Act.put, List.setIfInBounds_toArray]; dsimp only [List.set_cons_zero, List.set_cons_succ])))
              refine plan_nil ?_
              go_wp2_with fail
              go_roundw
              case rel => exact ⟨i + 1, v8, by go_num, HLT.out, Lib.hid ⟨H8.out.1.below (below_of_drew (Below.refl _ _)), H8.out.2.1.drew, H8.out.2.2⟩⟩
              case measure => have := HLT.out; simp [intOf]; omega
          · obtain rfl : i = S.length := by omega
            have hq6 := hr6.out.1
            rw [List.drop_length] at hq6
            obtain ⟨l6, h6, p6⟩ := hq6.at_
            obtain rfl := p6.2.1.eq_nil
            have HN := Lib.hid (qnext_none q v6 wr h6)
            have H6 := Lib.hid (And.intro h6 hq6.bel)
            clear hq6 h6 p6
            go_wp2_with fail
            refine HN.out.mono ?_
            rintro e w7 ⟨rfl, hb7⟩
            have hb8 : Below w7.heap.size w7 (w7.alloc (.cells #[.int .i64 0, .int .i64 0] 28)) := (Below.refl _ _).alloc (Nat.le_refl _) _
            have hb9 := hb7.trans (hb8.mono hb7.size)
            have HQL := Lib.hid (qlen_any q v6 [] _ (H6.out.1.below hb9))
            have H9 := Lib.hid (H6.out.2.trans (hb9.mono H6.out.2.size))
            clear hb7 hb8 hb9
            go_wp2_with fail
            refine HQL.out.mono ?_
            rintro e w8 ⟨rfl, rfl⟩
            go_wp2_with fail
            go_ret
            exact ⟨rfl, H9.out⟩
end Go.Proofs.Ytaapdkeipknilaa
