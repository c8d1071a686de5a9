/-
  ShapePaths: the walk.
-/
import Derived.Test.YtcmdlaikdpiemaaDoorSh6
namespace Go.Proofs.YtcmdlaikdpiemaaDoor
open Go.RowKit

/-- n places from a on, marked. -/
def bump (S : List Int) (a : Nat) : Nat → List Int
  | 0 => S
  | n + 1 => (bump S a n).set (a + n) 1
def stt (leaf l : Int) : Nat → List Int × Int
  | 0 => ((List.replicate l.toNat 0).set leaf.toNat 1, 2 * leaf)
  | i + 1 => (bump (stt leaf l i).1 (under (beside (stt leaf l i).2 l).1).1.toNat ((under (beside (stt leaf l i).2 l).1).2 + 1 - (under (beside (stt leaf l i).2 l).1).1).toNat, (path leaf l).getD i 0)
theorem length_bump (S : List Int) (a n : Nat) : (bump S a n).length = S.length := by
  induction n with
  | zero => rfl
  | succ n ih => simp [bump, ih]
theorem bump_get (S : List Int) (a n j : Nat) (h : a + n ≤ j) : (bump S a n).getD j 0 = S.getD j 0 := by
  induction n with
  | zero => rfl
  | succ n ih =>
    unfold bump
    rw [List.getD_eq_getElem?_getD, List.getElem?_set_ne (by omega), ← List.getD_eq_getElem?_getD]
    exact ih (by omega)
theorem length_stt (leaf l : Int) (i : Nat) : (stt leaf l i).1.length = l.toNat := by
  induction i with
  | zero => simp [stt]
  | succ i ih => simp [stt, length_bump, ih]

def okAt (leaf l : Int) (i : Nat) : Bool :=
  (beside (stt leaf l i).2 l).2 && decide (0 ≤ (under (beside (stt leaf l i).2 l).1).1) && decide ((under (beside (stt leaf l i).2 l).1).2 < l)
    && decide ((under (beside (stt leaf l i).2 l).1).1 ≤ (under (beside (stt leaf l i).2 l).1).2 + 1)
    && (List.range ((under (beside (stt leaf l i).2 l).1).2 + 1 - (under (beside (stt leaf l i).2 l).1).1).toNat).all fun j => (stt leaf l i).1.getD ((under (beside (stt leaf l i).2 l).1).1.toNat + j) 0 == 0
theorem paths_all : (sizes.all fun l => (List.range 32).all fun n => decide (l ≤ (n : Int)) || ((List.range (path n l).length).all (okAt n l) && decide (stt n l (path n l).length = (List.replicate l.toNat 1, l - 1)))) = true := by decide +kernel
theorem paths_fact (n l : Int) (hl : fits l = true) (h0 : 0 ≤ n) (h1 : n < l) : (∀ i, i < (path n l).length → okAt n l i = true) ∧ stt n l (path n l).length = (List.replicate l.toNat 1, l - 1) := by
  have hr := of_decide_eq_true hl
  have h := List.all_eq_true.1 paths_all l (mem_sizes hl)
  have h := List.all_eq_true.1 h n.toNat (List.mem_range.2 (by omega))
  rw [show ((n.toNat : Nat) : Int) = n by omega] at h
  simp only [Bool.or_eq_true, Bool.and_eq_true, decide_eq_true_eq] at h
  rcases h with h | h
  · omega
  · exact ⟨fun i hi => List.all_eq_true.1 h.1 i (List.mem_range.2 hi), h.2⟩

set_option maxRecDepth 100000 in
set_option maxHeartbeats 4000000 in
theorem paths_walk (n l : Int) (wn : (Lit.int .i64 n).wf = true) (wl : (Lit.int .i64 l).wf = true) (w : World) (hT : Tab w) (hT0 : 1 < w.heap.size) :
    Calls Tryd.prog 5 #[.int .i64 n, .int .i64 l] w fun e w' => e = .returned (.bool true) ∧ Below w.heap.size w w' := by
  have hl1 : -9223372036854775808 ≤ l := (wf_i64 wl).1
  have hl2 : l ≤ 9223372036854775807 := (wf_i64 wl).2
  have ha := awake_any w hT hT0
  have hP := fun w hT hT0 => path_any n l w hT hT0 hl1 hl2
  have hR := fun w => rpath_any n l w hl1 hl2
  have hF := fun w => rfits_any l w
  have hplen : (path n l).length ≤ 7 := by
    unfold path
    split
    · have hpf : ∀ f n, (pathF f n l).length ≤ f := by
        intro f
        induction f with
        | zero => intro n; simp [pathF]
        | succ f ih => intro n; unfold pathF; split <;> simp; exact ih _
      exact hpf 7 _
    · simp
  have hpl : (path n l).length ≤ maxLen := by unfold maxLen; omega
  have hfact := paths_fact n l
  have hout : fits l = false ∨ n < 0 ∨ l ≤ n → (path n l).length = 0 := by
    intro h
    have : path n l = [] := if_neg (by
      rintro ⟨h1, h2, h3⟩
      rcases h with h | h | h
      · rw [h] at h1; cases h1
      · omega
      · omega)
    rw [this]; rfl
  obtain ⟨PT, hPT⟩ : ∃ PT, PT = path n l := ⟨_, rfl⟩
  rw [← hPT] at hP hR hplen hpl hout hfact
  have HPT := Lib.hid hPT; clear hPT
  have HAW := Lib.hid ha; clear ha
  have HP := Lib.hid hP; clear hP
  have HR := Lib.hid hR; clear hR
  have HF := Lib.hid hF; clear hF
  have HFA := Lib.hid hfact; clear hfact
  have HOUT := Lib.hid hout; clear hout
  have HPLEN := Lib.hid hplen; clear hplen
  have HPL := Lib.hid hpl; clear hpl
  go_enter Tryd.func5, Tryd.ntmps5
  go_wp2_with fail
  refine HAW.out.mono ?_
  rintro e w1 ⟨rfl, hb1⟩
  have hT1 : Tab w1 := hT.below hb1 hT0
  have hs1 := hb1.size
  go_wp2_with fail
  refine (HP.out _ hT1 (by omega)).mono ?_
  rintro e w2 ⟨⟨v, rfl, hown⟩, hb2⟩
  obtain ⟨A, c, rfl, hS⟩ := own_slice hown
  have HO := Lib.hid hown; clear hown
  have HS := Lib.hid hS; clear hS
  go_wp2_with fail
  refine (HR.out _).mono ?_
  rintro e w3 ⟨⟨v3, rfl, hown3⟩, hb3⟩
  obtain ⟨A3, c3, rfl, hS3⟩ := own_slice hown3
  have HO3 := Lib.hid hown3; clear hown3
  have HS3 := Lib.hid hS3; clear hS3
  go_wp2_with fail
  refine (ints_any A A3 PT PT c c3 _ (HS.out.below hb3) HS3.out HPL.out HPL.out).mono ?_
  rintro e w4 ⟨rfl, hb4⟩
  rw [decide_eq_true rfl]
  have hb4w : Below w.heap.size w w4 := ((hb1.trans (hb2.mono hb1.size)).trans (hb3.mono (Nat.le_trans hb1.size hb2.size))).trans (hb4.mono (Nat.le_trans (Nat.le_trans hb1.size hb2.size) hb3.size))
  have HS4 := Lib.hid (((HS.out.below hb3)).below hb4); clear HS HS3 HO HO3
  go_wp2_with fail
  refine (HF.out _).mono ?_
  rintro e w' ⟨rfl, rfl⟩
  by_cases hin : fits l = false ∨ n < 0 ∨ l ≤ n
  · have h0 := HOUT.out hin
    have h0i : ((PT.length : Int) == 0) = true := by simp [h0]
    have H0 := Lib.hid h0; clear h0
    cases hf : fits l with
    | false =>
      clear hin
      go_wp2_with fail
      go_ret
      exact ⟨rfl, hb4w⟩
    | true =>
      rw [hf] at hin
      by_cases hn : n < 0
      · clear hin
        go_wp2_with fail
        go_ret
        exact ⟨rfl, hb4w⟩
      · have hn2 : l ≤ n := by
          rcases hin with h | h | h
          · cases h
          · omega
          · exact h
        clear hin
        go_wp2_with fail
        go_ret
        exact ⟨rfl, hb4w⟩
  · have hf : fits l = true := by
      cases h : fits l with
      | true => rfl
      | false => exact absurd (.inl h) hin
    have hn0 : ¬ n < 0 := fun h => hin (.inr (.inl h))
    have hn1 : ¬ l ≤ n := fun h => hin (.inr (.inr h))
    have hr := of_decide_eq_true hf
    have hl3 : 1 ≤ l := by omega
    have hl4 : l ≤ 32 := by omega
    clear hr hin
    have HFI := Lib.hid hf
    rw [hf]
    clear hf
    obtain ⟨N, rfl⟩ := Int.eq_ofNat_of_zero_le (by omega : 0 ≤ n)
    obtain ⟨L, rfl⟩ := Int.eq_ofNat_of_zero_le (by omega : 0 ≤ l)
    have hNL : N < L := by omega
    have hNLi : (N : Int) < (L : Int) := by omega
    have hL32 : L ≤ 32 := by omega
    have hmk : ∀ W : World, (Instr.makeSlice 33 (.int .i64 (L : Int)) (.int .i64 (L : Int))).run Tryd.prog W = .ok (.slice (some ⟨W.heap.size, 0, none⟩) L L) (W.alloc (.cells (i64s (List.replicate L 0)).toArray 3)) := fun W => by
      obtain ⟨i, hi, hz, hs, hb⟩ := info_parts info_int
      have h := run_make (P := Tryd.prog) W 33 3 i (.int .i64 0) Tryd.underlying33 hi hz .i64 .i64 (L : Int) (L : Int) (by omega) (by omega) (by rw [hb]; omega) (by omega)
      have e1 : madeCells (Value.int .i64 0).cells ((L : Int).toNat * i.size) = (i64s (List.replicate L 0)).toArray := by
        rw [hs, Int.toNat_natCast, Nat.mul_one, i64s, List.map_replicate, ← toList_madeCells_one (.int .i64 0) L]
        rfl
      rw [e1, Int.toNat_natCast] at h
      exact h
    obtain ⟨cs, hcs⟩ : ∃ cs, cs = (i64s (List.replicate L 0)).toArray := ⟨_, rfl⟩
    rw [← hcs] at hmk
    have hcN : cs[N]? = some (.int .i64 0) := by
      rw [hcs, List.getElem?_toArray, i64s_get _ N (by simp; exact hNL)]
      simp
    have hset : cs.setIfInBounds N (.int .i64 1) = (i64s (stt N L 0).1).toArray := by
      rw [hcs, List.setIfInBounds_toArray]
      congr 1
      show (i64s (List.replicate L 0)).set N (.int .i64 1) = i64s ((List.replicate ((L : Int)).toNat 0).set ((N : Int)).toNat 1)
      simp only [Int.toNat_natCast, i64s, List.map_set]
    have HSET := Lib.hid hset; clear hset
    have HCS := Lib.hid hcs; clear hcs
    have hb5 : Blk (w4.alloc (.cells cs 3)) w4.heap.size 3 cs := Blk.new _ _ _
    have hc5 : (w4.alloc (.cells cs 3)).cell? ⟨w4.heap.size, N, none⟩ = some (.int .i64 0) := (hb5.cell N).trans hcN
    have hf5 := hb5.frozen N
    have hb6 : Blk (w4.alloc (.cells (cs.setIfInBounds N (.int .i64 1)) 3)) w4.heap.size 3 (i64s (stt N L 0).1).toArray := by rw [← HSET.out]; exact Blk.new _ _ _
    have hbel6 : Below w4.heap.size w4 (w4.alloc (.cells (cs.setIfInBounds N (.int .i64 1)) 3)) := (Below.refl _ _).alloc (Nat.le_refl _) _
    have HB5 := Lib.hid hb5; clear hb5
    have HB6 := Lib.hid hb6; clear hb6
    have HBEL6 := Lib.hid hbel6; clear hbel6
    go_wp2_with fail
    go_loopw [7, 8] (fun nd i wr => ∃ k : Nat, k ≤ PT.length ∧ i = .int .i64 k ∧ nd = .int .i64 (stt N L k).2 ∧ Blk wr w4.heap.size 3 (i64s (stt N L k).1).toArray ∧ Below w4.heap.size w4 wr) (fun _ i _ => PT.length - (intOf i).toNat)
    case atStart => exact ⟨0, Nat.zero_le _, rfl, rfl, HB6.out, HBEL6.out⟩
    case round =>
      obtain ⟨k, hk, rfl, rfl, hblk, hbr⟩ := hrel
      have hbw : Below w.heap.size w wr := hb4w.trans (hbr.mono hb4w.size)
      have hTr : Tab wr := hT.below hbw hT0
      have hlenk := length_stt N L k
      by_cases hlt : k < PT.length
      · have hlti : (k : Int) < (PT.length : Int) := by omega
        have hok := (HFA.out HFI.out (by omega) (by omega)).1 k hlt
        unfold okAt at hok
        simp only [Bool.and_eq_true, decide_eq_true_eq] at hok
        obtain ⟨⟨⟨⟨hk2, hu1⟩, hu2⟩, hu3⟩, hall⟩ := hok
        have hnext : stt N L (k + 1) = (bump (stt N L k).1 (under (beside (stt N L k).2 L).1).1.toNat ((under (beside (stt N L k).2 L).1).2 + 1 - (under (beside (stt N L k).2 L).1).1).toNat, PT.getD k 0) := by rw [HPT.out]; rfl
        have hB := beside_any (stt N L k).2 L wr hTr (by omega) (by omega)
        rw [hk2] at hB
        have hU := under_any (beside (stt N L k).2 L).1 wr hTr
        obtain ⟨nd, hnd⟩ : ∃ nd, nd = (stt N L k).2 := ⟨_, rfl⟩
        rw [← hnd] at hB hU hnext hall hu1 hu2 hu3 hk2 ⊢
        obtain ⟨b, hb⟩ : ∃ b, b = (beside nd L).1 := ⟨_, rfl⟩
        rw [← hb] at hB hU hnext hall hu1 hu2 hu3
        obtain ⟨U1, hU1⟩ := Int.eq_ofNat_of_zero_le hu1
        obtain ⟨cn, hcn⟩ := Int.eq_ofNat_of_zero_le (by omega : 0 ≤ (under b).2 + 1 - (under b).1)
        have hU2 : (under b).2 = (U1 : Int) + (cn : Int) - 1 := by omega
        have hsum : U1 + cn ≤ L := by omega
        rw [hcn, hU1, Int.toNat_natCast, Int.toNat_natCast] at hnext hall
        rw [hU1, hU2] at hU
        obtain ⟨S, hS⟩ : ∃ S, S = (stt N L k).1 := ⟨_, rfl⟩
        rw [← hS] at hnext hall hblk hlenk
        rw [Int.toNat_natCast] at hlenk
        have hzero : ∀ j, j < cn → S.getD (U1 + j) 0 = 0 := fun j hj => beq_iff_eq.1 (List.all_eq_true.1 hall j (List.mem_range.2 hj))
        have HNEXT := Lib.hid hnext; clear hnext
        have HZ := Lib.hid hzero; clear hzero
        have HB := Lib.hid hB; clear hB
        have HU := Lib.hid hU; clear hU
        have HLK := Lib.hid hlenk; clear hlenk
        have HBLK := Lib.hid hblk; clear hblk
        clear hall hu1 hu2 hu3 hk2 hU1 hcn hU2 hS hnd hb HBEL6 HB6 HSET HCS hc5 hf5 hcN HB5
        go_wp2_with fail
        refine HB.out.mono ?_
        rintro e w' ⟨rfl, rfl⟩
        go_wp2_with fail
        refine HU.out.mono ?_
        rintro e w' ⟨rfl, rfl⟩
        have hge1 : ¬ ((L : Int) ≤ (U1 : Int) + (cn : Int) - 1) := by omega
        go_wp2_with fail
        go_loopw [13] (fun i wq => ∃ j : Nat, j ≤ cn ∧ i = .int .i64 ((U1 : Int) + (j : Int)) ∧ Blk wq w4.heap.size 3 (i64s (bump S U1 j)).toArray ∧ Below w4.heap.size w4 wq) (fun i _ => U1 + cn - (intOf i).toNat)
        case atStart => exact ⟨0, Nat.zero_le _, by simp, HBLK.out, hbr⟩
        case round =>
          obtain ⟨j, hj, rfl, hbk, hbq⟩ := hrel
          by_cases hjc : j < cn
          · have hle : (U1 : Int) + (j : Int) ≤ (U1 : Int) + (cn : Int) - 1 := by omega
            have hlb : (bump S U1 j).length = L := by rw [length_bump]; exact HLK.out
            have hc : wr.cell? ⟨w4.heap.size, U1 + j, none⟩ = some (.int .i64 0) := by
              have hg := bump_get S U1 j (U1 + j) (Nat.le_refl _)
              rw [HZ.out j hjc, List.getD_eq_getElem?_getD, List.getElem?_eq_getElem (by omega)] at hg
              rw [hbk.cell, List.getElem?_toArray, i64s_get _ (U1 + j) (by omega)]
              simp only [Option.getD_some] at hg
              rw [hg]
            have hf := hbk.frozen (U1 + j)
            have hsetj : (i64s (bump S U1 j)).toArray.setIfInBounds (U1 + j) (.int .i64 1) = (i64s (bump S U1 (j + 1))).toArray := by
              rw [List.setIfInBounds_toArray]
              congr 1
              show (i64s (bump S U1 j)).set (U1 + j) (.int .i64 1) = i64s ((bump S U1 j).set (U1 + j) 1)
              simp only [i64s, List.map_set]
            have hblk2 := hbk.set_ (U1 + j) (.int .i64 1)
            rw [hsetj] at hblk2
            have HBK2 := Lib.hid hblk2; clear hblk2 hsetj hbk
            have hnat : ((U1 : Int) + (j : Int)).toNat = U1 + j := by omega
            have hjL : (U1 : Int) + (j : Int) < (L : Int) := by omega
            go_wp2_with fail
            go_roundw
            case rel => exact ⟨j + 1, by omega, by go_num, HBK2.out, hbq.setCell (Nat.le_refl _) _⟩
            case measure => simp [intOf]; omega
          · obtain rfl : j = cn := by omega
            have hgt : ¬ ((U1 : Int) + (j : Int) ≤ (U1 : Int) + (j : Int) - 1) := by omega
            obtain ⟨g, off, rfl, hc⟩ := (HS4.out.keep (w' := wr) (fun g _ _ hg => hbq.block g hg)).at _ _ _ k hlt
            obtain ⟨x, hx⟩ : ∃ x, x = PT[k]'hlt := ⟨_, rfl⟩
            rw [← hx] at hc
            have hxe : PT.getD k 0 = x := by rw [hx, List.getD_eq_getElem?_getD, List.getElem?_eq_getElem hlt]; rfl
            have HXE := Lib.hid hxe; clear hxe hx
            have HBK := Lib.hid hbk; clear hbk
            go_wp2_with fail
            have hp7 := HPLEN.out
            have hw : wrap64 ((k : Int) + 1) = (k : Int) + 1 := by unfold wrap64; omega
            rw [hw]
            refine ⟨⟨_, _, _, ⟨k + 1, by omega, ?_, ?_, ?_⟩, rfl, rfl, rfl⟩, ?_⟩
            · rfl
            · rw [HNEXT.out, HXE.out]
            · rw [HNEXT.out]; exact HBK.out
            · simp only [intOf]
              omega
      · obtain rfl : k = PT.length := by omega
        have hge : ¬ ((PT.length : Int) < (PT.length : Int)) := by omega
        have hend := (HFA.out HFI.out (by omega) (by omega)).2
        rw [hend] at hblk ⊢
        simp only at hblk ⊢
        have HE := Lib.hid hend; clear hend
        have HBLK := Lib.hid hblk; clear hblk
        go_wp2_with fail
        go_loop [14] (fun i => ∃ j : Nat, j ≤ L ∧ i = .int .i64 j) (fun i => L - (intOf i).toNat)
        case atStart => exact ⟨0, Nat.zero_le _, rfl⟩
        case round =>
          obtain ⟨j, hj, rfl⟩ := hrel
          by_cases hjl : j < L
          · have hjli : (j : Int) < (L : Int) := by omega
            have hc : wr.cell? ⟨w4.heap.size, j, none⟩ = some (.int .i64 1) := by
              rw [HBLK.out.cell j, List.getElem?_toArray, i64s_get _ j (by simp; omega)]
              simp
            go_wp2_with fail
            go_round
            case rel => exact ⟨j + 1, by omega, by go_num⟩
            case measure => simp [intOf]; omega
          · obtain rfl : j = L := by omega
            have hgel : ¬ ((j : Int) < (j : Int)) := by omega
            go_wp2_with fail
            go_ret
            exact ⟨ret_bool (by simp), hbw⟩
end Go.Proofs.YtcmdlaikdpiemaaDoor
