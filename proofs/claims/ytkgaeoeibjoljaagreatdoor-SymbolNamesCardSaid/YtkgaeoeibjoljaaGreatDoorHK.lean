/-
  The document's names.
  SymbolNames.
-/
import Derived.Test.YtkgaeoeibjoljaaGreatDoorGT
import Derived.Test.YtkgaeoeibjoljaaGreatDoorGZ
import Derived.Test.YtkgaeoeibjoljaaGreatDoorGA
import Derived.Test.YtkgaeoeibjoljaaGreatDoorHE
import Derived.Test.YtkgaeoeibjoljaaGreatDoorGM
import Derived.Deep.DeepCutAuto
namespace Go.Proofs.YtkgaeoeibjoljaaGreatDoor
set_option maxRecDepth 4000
open Go.RowKit

theorem strx (l : List UInt8) (a b : Nat) : (str l).extract a b = str ((l.drop a).take (b - a)) := by
  apply ByteArray.ext
  simp [str]
theorem value_any (l : List UInt8) (hl : l.length ≤ 8) (w : World) : Calls Tryz.prog 38 #[.string (str l)] w fun e w' => e = .returned (.int .u64 (vl l)) ∧ w = w' := by
  go_enter Tryz.func38, Tryz.ntmps38
  go_wp2_with fail
  go_loop [3, 4] (fun x i => ∃ k : Nat, k ≤ l.length ∧ i = .int .i64 k ∧ x = .int .u64 (vl (l.take k) : Nat)) (fun _ i => l.length - (intOf i).toNat)
  case atStart => exact ⟨0, by omega, rfl, rfl⟩
  case round =>
    obtain ⟨k, hk, rfl, rfl⟩ := hrel
    by_cases hlt : k < l.length
    · have hlti : (k : Int) < (l.length : Int) := by omega
      obtain ⟨c, hc⟩ : ∃ c, c = (l[k]'hlt).toNat := ⟨_, rfl⟩
      have hc256 : c < 256 := by rw [hc]; exact UInt8.toNat_lt _
      have hget : ∀ h, ((str l)[k]'h).toNat = c := fun h => hc.symm
      have hget2 : (l[k]'hlt).toNat = c := hc.symm
      have hn : vl (l.take (k + 1)) = vl (l.take k) * 256 + c := by
        rw [List.take_add_one, List.getElem?_eq_getElem hlt, Option.toList_some, vl_snoc, hc]
      have hv := vl_lt (l.take k)
      have hp : 256 ^ (l.take k).length ≤ 256 ^ 7 := Nat.pow_le_pow_right (by omega) (by rw [List.length_take]; omega)
      have h7 : (256 : Nat) ^ 7 = 72057594037927936 := by decide
      have HC := Lib.hid hc; have HN := Lib.hid hn; clear hc hn
      generalize vl (l.take k) = x at *
      have hx : x < 72057594037927936 := by omega
      clear hv hp h7
      have e1 : IntKind.u64.wrap ((x : Int) * 256) = (x : Int) * 256 := by rw [IntKind.wrap_u64]; omega
      have e2 : IntKind.u64.wrap ((x : Int) * 256 + (c : Int)) = (x : Int) * 256 + (c : Int) := by rw [IntKind.wrap_u64]; omega
      have e3 : IntKind.u64.wrap (c : Int) = (c : Int) := by rw [IntKind.wrap_u64]; omega
      go_wp2_with fail
      go_round
      case rel => exact ⟨k + 1, by omega, by go_num, by rw [HN.out]; go_num⟩
      case measure => simp [intOf]; omega
    · obtain rfl : k = l.length := by omega
      have hge : ¬ ((l.length : Int) < (l.length : Int)) := by omega
      rw [List.take_length]
      go_wp2_with fail
      go_ret
      exact ⟨rfl, rfl⟩
theorem rname_any (n : Nat) (hn : n ≤ 9223372036854775807) (w : World) : Calls Tryz.prog 8 #[.int .i64 n] w fun e w' => e = .returned (.string (str (nm n))) ∧ Below w.heap.size w w' := by
  have hi : IntKind.u64.wrap (n : Int) = (n : Int) := by rw [IntKind.wrap_u64]; omega
  have HN := Lib.hid (number_any n 8 (by omega) (by omega) w)
  have HK := Lib.hid (str_cat mk24 (be n 8))
  obtain ⟨X, hX⟩ : ∃ X, X = be n 8 := ⟨_, rfl⟩
  have HX := Lib.hid hX
  have hlen : ¬ 9223372036854775807 < 24 + X.length := by rw [hX, length_be]; omega
  rw [← hX] at HN HK
  clear hX
  go_enter Tryz.func8, Tryz.ntmps8
  go_wp2_with fail
  refine HN.out.mono ?_
  rintro e w1 ⟨rfl, hb1⟩
  have HB := Lib.hid hb1
  clear hb1 HN
  go_wp2_with fail
  go_ret
  refine ⟨?_, HB.out⟩
  unfold nm
  rw [← HX.out, ← HK.out]
  rfl

/-! ### Marks -/
def mrk1 (l : List UInt8) (k : List Bool) (i : Nat) : List Bool := if (l.drop i).take 24 = mk24 ∧ vl ((l.drop (i + 24)).take 8) < k.length then k.set (vl ((l.drop (i + 24)).take 8)) true else k
def mrk (l : List UInt8) (k : List Bool) : Nat → List Bool
  | 0 => k
  | i + 1 => mrk1 l (mrk l k i) i
theorem mrk_length (l : List UInt8) (k : List Bool) : ∀ j, (mrk l k j).length = k.length
  | 0 => rfl
  | i + 1 => by
    rw [mrk, mrk1]
    split
    · rw [List.length_set, mrk_length l k i]
    · exact mrk_length l k i
theorem mrk_at {l : List UInt8} {k : List Bool} {x : Nat} (hx : x < k.length) : ∀ j, (∀ i, i < j → i + 32 ≤ l.length) → (at_ (mrk l k j) x = true ↔ at_ k x = true ∨ ∃ i, i < j ∧ at32 l i x)
  | 0, _ => ⟨fun h => .inl h, fun h => h.elim id (fun ⟨i, hi, _⟩ => by omega)⟩
  | j + 1, hj => by
    have ih := mrk_at (l := l) hx j (fun i hi => hj i (by omega))
    have hl := hj j (by omega)
    have hlen := mrk_length l k j
    rw [mrk, mrk1]
    by_cases hc : (l.drop j).take 24 = mk24 ∧ vl ((l.drop (j + 24)).take 8) < (mrk l k j).length
    · rw [if_pos hc, at_set]
      simp only [Bool.or_eq_true, Bool.and_eq_true, decide_eq_true_eq, ih]
      constructor
      · rintro ((h | ⟨i, hi, h⟩) | ⟨h, _⟩)
        · exact .inl h
        · exact .inr ⟨i, by omega, h⟩
        · exact .inr ⟨j, by omega, hc.1, hl, h⟩
      · rintro (h | ⟨i, hi, h⟩)
        · exact .inl (.inl h)
        · rcases Nat.lt_or_ge i j with h1 | h1
          · exact .inl (.inr ⟨i, h1, h⟩)
          · obtain rfl : i = j := by omega
            exact .inr ⟨h.2.2, hc.2⟩
    · rw [if_neg hc, ih]
      constructor
      · rintro (h | ⟨i, hi, h⟩)
        · exact .inl h
        · exact .inr ⟨i, by omega, h⟩
      · rintro (h | ⟨i, hi, h⟩)
        · exact .inl h
        · rcases Nat.lt_or_ge i j with h1 | h1
          · exact .inr ⟨i, h1, h⟩
          · obtain rfl : i = j := by omega
            exact absurd ⟨h.1, by rw [h.2.2, hlen]; exact hx⟩ hc
set_option maxHeartbeats 4000000 in
theorem rmark_any (hb : Nat) (k : List Bool) (l : List UInt8) (w : World) (h : Blk w hb 4 (bls k).toArray) (hk : k.length = 4096) (hl : l.length ≤ 1000) :
    Calls Tryz.prog 9 #[.slice (some ⟨hb, 0, none⟩) 4096 4096, .string (str l)] w fun e w' => e = .returned (.tuple #[]) ∧ ∃ k', k'.length = 4096 ∧ (∀ x, x < 4096 → (at_ k' x = true ↔ at_ k x = true ∨ ∃ i, at32 l i x)) ∧ Blk w' hb 4 (bls k').toArray ∧ Fr (· = hb) w w' := by
  obtain ⟨m, hm⟩ : ∃ m, m = l.length := ⟨_, rfl⟩
  have hsz : (str l).size = m := by rw [size_str, hm]
  have HX := Lib.hid (strx l)
  have HV := Lib.hid value_any
  have HM := Lib.hid (And.intro hm (And.intro hk (show str mk24 = ⟨#[97, 45, 116, 101, 114, 109, 45, 111, 102, 45, 116, 104, 101, 45, 101, 110, 103, 114, 111, 115, 115, 101, 114, 58]⟩ from rfl)))
  obtain ⟨Z, hZ⟩ : ∃ Z, Z = str l := ⟨_, rfl⟩
  rw [← hZ] at hsz HX ⊢
  have H0 := Lib.hid (And.intro h (Fr.refl (· = hb) w))
  have hmb : m ≤ 1000 := by omega
  clear h hm hk hZ hl
  go_enter Tryz.func9, Tryz.ntmps9
  go_wp2_with fail
  go_loopw [4] (fun i wr => ∃ j : Nat, i = .int .i64 j ∧ j ≤ m ∧ Hid ((∀ i, i < j → i + 32 ≤ l.length) ∧ Blk wr hb 4 (bls (mrk l k j)).toArray ∧ Fr (· = hb) w wr)) (fun i _ => m - (intOf i).toNat)
  case atStart => exact ⟨0, rfl, by omega, Lib.hid ⟨fun i hi => by omega, H0.out.1, H0.out.2⟩⟩
  case round =>
    obtain ⟨j, rfl, hj, hr⟩ := hrel
    clear H0
    by_cases hlt : j + 32 ≤ m
    · have h1 : (j : Int) + 32 ≤ (m : Int) := by omega
      have i1 : IntKind.i64.wrap ((j : Int) + 32) = (j : Int) + 32 := IntWalk.i64_in _ (by omega)
      have i2 : IntKind.i64.wrap ((j : Int) + 24) = (j : Int) + 24 := IntWalk.i64_in _ (by omega)
      have i3 : IntKind.i64.wrap ((j : Int) + 1) = (j : Int) + 1 := IntWalk.i64_in _ (by omega)
      have x1 := HX.out j (j + 24)
      rw [Nat.add_sub_cancel_left] at x1
      have x2 := HX.out (j + 24) (j + 32)
      rw [show j + 32 - (j + 24) = 8 by omega] at x2
      have hsub : (mrk l k (j + 1)) = mrk1 l (mrk l k j) j := rfl
      have hml : (mrk l k j).length = 4096 := by rw [mrk_length]; exact HM.out.2.1
      have HJ := Lib.hid (show ∀ i, i < j + 1 → i + 32 ≤ l.length from fun i hi => by have := HM.out.1; omega)
      have hr' := Lib.hid (And.intro hr.out.2.1 hr.out.2.2)
      by_cases hmk : (l.drop j).take 24 = mk24
      · rw [hmk, HM.out.2.2] at x1
        obtain ⟨N, hN⟩ : ∃ N, N = vl ((l.drop (j + 24)).take 8) := ⟨_, rfl⟩
        have hNb : N < 18446744073709551616 := by
          have h1 := vl_lt ((l.drop (j + 24)).take 8)
          have h2 : 256 ^ ((l.drop (j + 24)).take 8).length ≤ 256 ^ 8 := Nat.pow_le_pow_right (by omega) (by rw [List.length_take]; omega)
          have h3 : (256 : Nat) ^ 8 = 18446744073709551616 := by decide
          omega
        have HVW := Lib.hid (value_any ((l.drop (j + 24)).take 8) (by rw [List.length_take]; omega) wr)
        obtain ⟨Y, hY⟩ : ∃ Y, Y = str ((l.drop (j + 24)).take 8) := ⟨_, rfl⟩
        rw [← hN, ← hY] at HVW
        rw [← hY] at x2
        have HN := Lib.hid (And.intro hN hmk)
        clear hN hY hmk hr
        go_wp2_with fail
        refine HVW.out.mono ?_
        rintro e w1 ⟨rfl, rfl⟩
        by_cases h4 : N < 4096
        · have h5 : (N : Int) < 4096 := by omega
          have f0 := hr'.out.1.frozen N
          obtain ⟨u, hu⟩ : ∃ u, wr.cell? ⟨hb, N, none⟩ = some u := ⟨_, hr'.out.1.cell N |>.trans (by rw [List.getElem?_toArray, bls_get (by omega)])⟩
          have hnx : Hid ((∀ i, i < j + 1 → i + 32 ≤ l.length) ∧ Blk (wr.setCell ⟨hb, N, none⟩ (.bool true)) hb 4 (bls (mrk l k (j + 1))).toArray ∧ Fr (· = hb) w (wr.setCell ⟨hb, N, none⟩ (.bool true))) := Lib.hid (by
            refine ⟨HJ.out, ?_, hr'.out.2.trans (Fr.setCell (F := (· = hb)) wr ⟨hb, N, none⟩ _ rfl) (fun _ _ h => h)⟩
            rw [hsub, mrk1, if_pos ⟨HN.out.2, by rw [← HN.out.1, hml]; exact h4⟩, ← bls_set, ← HN.out.1]
            exact hr'.out.1.set_ N _)
          clear hr' hsub hml HVW
          go_wp2_with fail
          go_roundw
          case rel => exact ⟨j + 1, by go_num, by omega, hnx⟩
          case measure => simp [intOf]; omega
        · have h5 : ¬ (N : Int) < 4096 := by omega
          have hnx : Hid ((∀ i, i < j + 1 → i + 32 ≤ l.length) ∧ Blk wr hb 4 (bls (mrk l k (j + 1))).toArray ∧ Fr (· = hb) w wr) := Lib.hid (by
            refine ⟨HJ.out, ?_, hr'.out.2⟩
            rw [hsub, mrk1, if_neg (fun h => h4 (by have := h.2; rw [← HN.out.1, hml] at this; exact this))]
            exact hr'.out.1)
          clear hr' hsub hml HVW h4
          set_option maxRecDepth 20000 in go_wp2_with fail
          go_roundw
          case rel => exact ⟨j + 1, by go_num, by omega, hnx⟩
          case measure => simp [intOf]; omega
      · have hne : ((str ((l.drop j).take 24)).toList == [97, 45, 116, 101, 114, 109, 45, 111, 102, 45, 116, 104, 101, 45, 101, 110, 103, 114, 111, 115, 115, 101, 114, 58]) = false := by
          rw [str_toList]
          exact beq_eq_false_iff_ne.2 hmk
        obtain ⟨Y, hY⟩ : ∃ Y, Y = str ((l.drop j).take 24) := ⟨_, rfl⟩
        rw [← hY] at x1 hne
        have hnx : Hid ((∀ i, i < j + 1 → i + 32 ≤ l.length) ∧ Blk wr hb 4 (bls (mrk l k (j + 1))).toArray ∧ Fr (· = hb) w wr) := Lib.hid (by
          refine ⟨HJ.out, ?_, hr'.out.2⟩
          rw [hsub, mrk1, if_neg (fun h => hmk h.1)]
          exact hr'.out.1)
        clear hr hr' hsub hml hY hmk
        go_wp2_with fail
        go_roundw
        case rel => exact ⟨j + 1, by go_num, by omega, hnx⟩
        case measure => simp [intOf]; omega
    · have h1 : ¬ (j : Int) + 32 ≤ (m : Int) := by omega
      have i1 : IntKind.i64.wrap ((j : Int) + 32) = (j : Int) + 32 := IntWalk.i64_in _ (by omega)
      have hml : (mrk l k j).length = 4096 := by rw [mrk_length]; exact HM.out.2.1
      have hfin : ∃ k' : List Bool, k'.length = 4096 ∧ (∀ x, x < 4096 → (at_ k' x = true ↔ at_ k x = true ∨ ∃ i, at32 l i x)) ∧ Blk wr hb 4 (bls k').toArray ∧ Fr (· = hb) w wr := by
        refine ⟨mrk l k j, hml, fun x hx => ?_, hr.out.2.1, hr.out.2.2⟩
        rw [mrk_at (by rw [HM.out.2.1]; exact hx) j hr.out.1]
        constructor
        · rintro (h | ⟨i, _, h⟩)
          · exact .inl h
          · exact .inr ⟨i, h⟩
        · rintro (h | ⟨i, h⟩)
          · exact .inl h
          · exact .inr ⟨i, by have := h.2.1; have := HM.out.1; omega, h⟩
      have HF := Lib.hid hfin
      clear hfin hr hml
      go_wp2_with fail
      refine bodyPost_end (results_none rfl _ _ _) rfl ?_
      exact ⟨rfl, HF.out⟩
end Go.Proofs.YtkgaeoeibjoljaaGreatDoor

namespace Go.Proofs.YtkgaeoeibjoljaaGreatDoor
set_option maxRecDepth 4000
open Go.RowKit

theorem own_empty (w : World) (e : TypeId) : (w.alloc (.cells #[] e)).ownsRow w.heap.size e 1 (.slice (some ⟨w.heap.size, 0, none⟩) 0 0) 0 [] := by
  refine ⟨rfl, .inr ⟨w.heap.size, 0, #[], rfl, Nat.le_refl _, ?_, by omega, by unfold maxLen; omega, rfl, rfl⟩⟩
  exact Blk.new w e #[]
theorem run_empty (W : World) : (Instr.buildSlice 22 0 #[]).run Tryz.prog W = .ok (.slice (some ⟨W.heap.size, 0, none⟩) 0 0) (W.alloc (.cells #[] 5)) := by kernel_rfl
theorem wpList_emptyS {ops : Array Oper} {rest : List Oper} {o : Oper} {a : Act} {w : World} {Q : Exit → Act → World → Prop} (hgd : o.guard = none) (ho : o.op = .buildSlice 22 0 #[])
    (h : wpList Tryz.prog ops Q rest (a.put o.dst (.slice (some ⟨w.heap.size, 0, none⟩) 0 0)) (w.alloc (.cells #[] 5))) : wpList Tryz.prog ops Q (o :: rest) a w := by
  refine wpList_plain hgd fun K hK => ?_
  unfold Oper.wp execOp
  have e := run_empty w
  simp only [ho, resolve, invoke, Sem.run_bind, Sem.run_pure, Result.andThen_ok, Array.map_empty, List.map_toArray, List.map_nil]
  rw [e]
  simp only [Result.andThen_ok]
  exact hK _ _ h
theorem asc_eq {a b : List Int} (ha : a.Pairwise (· < ·)) (hb : b.Pairwise (· < ·)) (h : ∀ x, x ∈ a ↔ x ∈ b) : a = b := by
  induction a generalizing b with
  | nil =>
    cases b with
    | nil => rfl
    | cons y t => exact absurd ((h y).2 List.mem_cons_self) List.not_mem_nil
  | cons x s ih =>
    cases b with
    | nil => exact absurd ((h x).1 List.mem_cons_self) List.not_mem_nil
    | cons y t =>
      obtain ⟨ha1, ha2⟩ := List.pairwise_cons.1 ha
      obtain ⟨hb1, hb2⟩ := List.pairwise_cons.1 hb
      have hxy : x = y := by
        rcases List.mem_cons.1 ((h x).1 List.mem_cons_self) with e | e
        · exact e
        · rcases List.mem_cons.1 ((h y).2 List.mem_cons_self) with e2 | e2
          · exact e2.symm
          · have := hb1 x e; have := ha1 y e2; omega
      subst hxy
      congr 1
      refine ih ha2 hb2 fun z => ⟨fun hz => ?_, fun hz => ?_⟩
      · rcases List.mem_cons.1 ((h z).1 (List.mem_cons_of_mem _ hz)) with e | e
        · have := ha1 z hz; omega
        · exact e
      · rcases List.mem_cons.1 ((h z).2 (List.mem_cons_of_mem _ hz)) with e | e
        · have := hb1 z hz; omega
        · exact e
theorem numsTo_asc (k : List Bool) : ∀ j, (numsTo k j).Pairwise (· < ·)
  | 0 => by rw [numsTo_zero]; exact List.Pairwise.nil
  | j + 1 => by
    unfold numsTo
    refine List.Pairwise.map (fun n : Nat => (n : Int)) (fun a b h => by omega) (R := (· < ·)) ?_
    exact (List.pairwise_lt_range).filter _
theorem names_same {k' : List Bool} {l : List UInt8} {ss : List Int} (hk : k'.length = 4096) (h : ∀ x, x < 4096 → (at_ k' x = true ↔ at_ (List.replicate 4096 false) x = true ∨ ∃ i, at32 l i x)) (hs : ss.Pairwise (· < ·)) (hin : ∀ x, x ∈ ss ↔ NamesOf l x) : ss = nums k' := by
  refine asc_eq hs (numsTo_asc _ _) fun x => ?_
  rw [hin x, mem_nums]
  have h0 : ∀ n, at_ (List.replicate 4096 false) n = false := fun n => by
    unfold at_
    rw [List.getD_eq_getElem?_getD, List.getElem?_replicate]
    split <;> rfl
  constructor
  · rintro ⟨n, rfl, hn, i, hi⟩
    exact ⟨by omega, by rw [Int.toNat_natCast]; exact (h n hn).2 (.inr ⟨i, hi⟩)⟩
  · rintro ⟨hx, ha⟩
    have hn : x.toNat < 4096 := by
      rcases Nat.lt_or_ge x.toNat 4096 with h1 | h1
      · exact h1
      · unfold at_ at ha
        rw [List.getD_eq_getElem?_getD, List.getElem?_eq_none (by omega)] at ha
        cases ha
    rcases (h _ hn).1 ha with e | ⟨i, hi⟩
    · rw [h0] at e; cases e
    · exact ⟨x.toNat, by omega, hn, i, hi⟩
theorem cat3 {w : World} {base n c : Nat} {A : Option Addr} {x y z : List UInt8} (h : w.ownsRow base 5 1 (.slice A n c) n (u8s x ++ u8s y ++ u8s z)) : w.ownsRow base 5 1 (.slice A n c) n (u8s (x ++ y ++ z)) := by
  have e : u8s (x ++ y ++ z) = u8s x ++ u8s y ++ u8s z := by simp [u8s]
  rw [e]
  exact h
theorem at32_mid (x y : List UInt8) (m : Nat) (hm : m < 18446744073709551616) : at32 (x ++ nm m ++ y) x.length m := by
  have e0 : (x ++ nm m ++ y).drop x.length = nm m ++ y := by rw [List.append_assoc]; exact List.drop_left' rfl
  have e1 : (x ++ nm m ++ y).drop (x.length + 24) = be m 8 ++ y := by
    rw [← List.drop_drop, e0]
    unfold nm
    rw [List.append_assoc]
    exact List.drop_left' mk24_length
  refine ⟨?_, ?_, ?_⟩
  · unfold mkAt
    rw [e0]
    unfold nm
    rw [List.append_assoc]
    exact List.take_left' mk24_length
  · rw [List.length_append, List.length_append, nm_length]; omega
  · rw [e1, List.take_left' (length_be m 8), vl_be]
    exact Nat.mod_eq_of_lt hm
set_option maxHeartbeats 8000000 in
theorem names_walk (n : Int) (a0 : Option Addr) (len0 cap0 : Nat) (z0 : List Int) (a1 : Option Addr) (len1 cap1 : Nat) (z1 : List Int) (W : World) (hT : TabsS W) (wn : (Lit.int .i64 n).wf = true) (w0 : IsRow .u8 W a0 len0 cap0 z0 ∧ cap0 ≤ 140737488351232) (w1 : IsRow .u8 W a1 len1 cap1 z1 ∧ cap1 ≤ 140737488351232) :
    Calls Tryz.prog 3 #[.int .i64 n, .slice a0 len0 cap0, .slice a1 len1 cap1] W fun e W' => e = .returned (.bool true) ∧ Below W.heap.size W W' := by
  obtain ⟨la, hla, hSa, ha1, -⟩ := w0.1.bytes
  obtain ⟨lb, hlb, hSb, hb1, -⟩ := w1.1.bytes
  have ha2 := w0.2
  have hb2 := w1.2
  have hsum : IntKind.i64.wrap ((len0 : Int) + (len1 : Int)) = (len0 : Int) + (len1 : Int) := IntWalk.i64_in _ (by omega)
  have HA := Lib.hid (fun w hT => awake_any w hT)
  have HT := Lib.hid hT
  have HR := Lib.hid (And.intro (And.intro hla hSa) (And.intro hlb hSb))
  clear hT w0 w1 hla hSa hlb hSb ha1 ha2 hb1 hb2
  by_cases h4 : len0 + len1 ≤ 400
  · have h4i : ¬ (400 : Int) < (len0 : Int) + (len1 : Int) := by omega
    by_cases hneg : n < 0
    · have HN := Lib.hid (fun w => name_neg n w hneg)
      go_enter Tryz.func3, Tryz.ntmps3
      go_wp2_with fail
      refine (HA.out W HT.out).mono ?_
      rintro e W1 ⟨rfl, hb1⟩
      have HBp := Lib.hid hb1
      clear hb1
      go_wp2_with fail
      refine (HN.out _).mono ?_
      rintro e W2 ⟨rfl, rfl⟩
--BEGIN NEG
      have HL := Lib.hid (show ∀ W', Below W1.heap.size W1 W' → Sees W' 1 a0 len0 (u8s la) ∧ Sees W' 1 a1 len1 (u8s lb) ∧ Sees W' 1 none 0 (u8s []) from fun W' h => ⟨HR.out.1.2.below (HBp.out.trans (h.mono HBp.out.size)), HR.out.2.2.below (HBp.out.trans (h.mono HBp.out.size)), Sees.none_ _ _ _⟩)
      have HAL := Lib.hid (show Below W1.heap.size W1 (W1.alloc (.cells #[] 5)) from (Below.refl _ _).alloc (Nat.le_refl _) _)
      go_wp2_with (first
        | (refine wpList_emptyS rfl rfl ?_)
        | (at_builtin; refine wpList_app rfl (.tmp 34) (.tmp 35) 22 rfl W1.heap.size 5 _ 1 1 Tryz.underlying22 info_byte rfl (by decide) _ 0 [] rfl (own_empty W1 5) a0 len0 cap0 (u8s la) rfl (HL.out _ HAL.out).1 (u8s_one la) (by unfold maxLen; omega) (by omega) (by simp) ?_; intro v36 w36 o1 o2 o3 o4; rw [Nat.zero_add, List.nil_append] at o1; obtain ⟨A36, c36, rfl⟩ := own_shape o1; have H36 := Lib.hid (And.intro o1 (HAL.out.grown o2 HAL.out.size (fun k hk => by cases hk; exact Nat.le_refl _))); clear o1 o2 o3 o4)
        | (at_builtin; refine wpList_app rfl (.tmp 36) (.tmp 37) 22 rfl W1.heap.size 5 _ 1 1 Tryz.underlying22 info_byte rfl (by decide) _ len0 (u8s la) rfl H36.out.1 none 0 0 (u8s []) rfl (HL.out _ H36.out.2).2.2 (u8s_one _) (by unfold maxLen; omega) (by omega) H36.out.2.size ?_; intro v38 w38 o1 o2 o3 o4; rw [Nat.add_zero] at o1; obtain ⟨A38, c38, rfl⟩ := own_shape o1; have H38 := Lib.hid (And.intro o1 (H36.out.2.grown o2 H36.out.2.size (fun k hk => (H36.out.1.lt k hk).1))); clear o1 o2 o3 o4)
        | (at_builtin; refine wpList_app rfl (.tmp 38) (.tmp 39) 22 rfl W1.heap.size 5 _ 1 1 Tryz.underlying22 info_byte rfl (by decide) _ len0 (u8s la ++ u8s []) rfl H38.out.1 a1 len1 cap1 (u8s lb) rfl (HL.out _ H38.out.2).2.1 (u8s_one lb) (by unfold maxLen; omega) (by omega) H38.out.2.size ?_; intro v40 w40 o1 o2 o3 o4; obtain ⟨A40, c40, rfl⟩ := own_shape o1; have H40 := Lib.hid (And.intro o1 (H38.out.2.grown o2 H38.out.2.size (fun k hk => (H38.out.1.lt k hk).1))); clear o1 o2 o3 o4; have hmk := make_bools 4096 (by omega) w40; obtain ⟨Z, hZ⟩ : ∃ Z, Z = (bls (List.replicate 4096 false)).toArray := ⟨_, rfl⟩; rw [← hZ] at hmk; replace hmk : (Instr.makeSlice 26 (.int .i64 4096) (.int .i64 4096)).run Tryz.prog w40 = .ok (.slice (some ⟨w40.heap.size, 0, none⟩) 4096 4096) (w40.alloc (.cells Z 4)) := hmk; have HZ := Lib.hid hZ; clear hZ; have hal := (Below.refl w40.heap.size w40).alloc (Nat.le_refl _) (.cells Z 4); have hcv := run_to_string (P := Tryz.prog) Tryz.underlying22 Tryz.underlying5 Tryz.underlying9 c40 (l := la ++ [] ++ lb) (Sees.of_own (cat3 (own_below H40.out.1 hal))); obtain ⟨AS, hAS⟩ : ∃ AS, AS = str (la ++ [] ++ lb) := ⟨_, rfl⟩; rw [← hAS] at hcv; have HAS := Lib.hid hAS; clear hal hAS))
      have hbk : Blk (w40.alloc (.cells Z 4)) w40.heap.size 4 (bls (List.replicate 4096 false)).toArray := HZ.out ▸ Blk.new w40 4 Z
      have hlen : (la ++ [] ++ lb).length = len0 + len1 := by rw [List.append_nil, List.length_append, HR.out.1.1, HR.out.2.1]
      have hmr := rmark_any w40.heap.size (List.replicate 4096 false) (la ++ [] ++ lb) (w40.alloc (.cells Z 4)) hbk List.length_replicate (by rw [hlen]; omega)
      rw [← HAS.out] at hmr
      have HMR := Lib.hid hmr
      have hal40 : Below w40.heap.size w40 (w40.alloc (.cells Z 4)) := (Below.refl _ _).alloc (Nat.le_refl _) _
      have H41 := Lib.hid (And.intro (cat3 (own_below H40.out.1 hal40)) (And.intro (H40.out.2.trans (hal40.mono H40.out.2.size)) hlen))
      have hz40 := H40.out.2.size
      clear hbk hmr hal40 hmk hcv hlen
      obtain ⟨hb, hhb⟩ : ∃ hb, hb = w40.heap.size := ⟨_, rfl⟩
      have HHB := Lib.hid hhb
      rw [← hhb] at HMR ⊢
      clear hhb
      refine HMR.out.mono ?_
      rintro e w43 ⟨rfl, k', hk', hat, hblk, hfr⟩
      have hne : ∀ q, (Value.slice A40 (len0 + len1) c40).ownBlock = some q → q ≠ hb := fun q hq => by have := (H40.out.1.lt q hq).2; have := HHB.out; omega
      have own43 := own_fr H41.out.1 hfr hne
      have hb43 : Below W1.heap.size W1 w43 := H41.out.2.1.trans (hfr.below H41.out.2.1.size (fun k e => by rw [e, HHB.out]; exact hz40))
      have hcp := own_caps own43
      have hT43 := ((HT.out.at_.below HBp.out).below (hb43.mono HBp.out.size)).here
      have HNM2 := Lib.hid (named_any (la ++ [] ++ lb) A40 (len0 + len1) c40 w43 (Sees.of_own own43) H41.out.2.2 hcp.1 (by omega) hcp.2.1 hcp.2.2 hT43.mx)
      have H43 := Lib.hid (And.intro hk' (And.intro hat (And.intro hblk hb43)))
      clear hk' hat hblk hfr hne own43 hb43 hcp hT43 HMR
      go_wp2_with fail
      refine HNM2.out.mono ?_
      rintro e w44 ⟨v44, ss, rfl, own44, hpw, hin, hb44⟩
      obtain ⟨A44, c44, rfl⟩ := own_shape own44
      have heq := names_same H43.out.1 H43.out.2.1 hpw hin
      have hblk44 := H43.out.2.2.1.below hb44 H43.out.2.2.1.lt
      have hsee : Sees w44 1 (some ⟨hb, 0, none⟩) k'.length (bls k') := ⟨by rw [length_bls]; omega, fun _ => ⟨hb, 0, rfl, fun j u hu => by rw [Nat.zero_add, hblk44.cell j, List.getElem?_toArray]; exact hu⟩⟩
      have hli := list_any (some ⟨hb, 0, none⟩) k' 4096 w44 hsee (by rw [H43.out.1]; omega)
      rw [H43.out.1] at hli
      have HLI := Lib.hid hli
      have hssl : ss.length ≤ 4096 := pairwise_few (a := 0) (n := 4096) hpw (fun y hy => by obtain ⟨m, rfl, hm, -⟩ := (hin y).1 hy; omega)
      have H44 := Lib.hid (And.intro own44 (And.intro heq (And.intro hblk44 (H43.out.2.2.2.trans (hb44.mono H43.out.2.2.2.size)))))
      have hz44 := H43.out.2.2.2.size
      clear own44 hpw hin hb44 heq hblk44 hsee hli HNM2
      go_wp2_with fail
      refine HLI.out.mono ?_
      rintro e w45 ⟨v45, rfl, hN45, hb45⟩
      rw [← H44.out.2.1] at hN45
      obtain ⟨A45, c45, rfl⟩ := own_shape hN45
      have HIN := Lib.hid (ints_any A44 A45 ss ss c44 c45 w45 (Sees.of_own (own_below H44.out.1 hb45)) hN45.sees (by omega) (by omega))
      have H45 := Lib.hid (And.intro (H44.out.2.2.1.below hb45 H44.out.2.2.1.lt) (H44.out.2.2.2.trans (hb45.mono H44.out.2.2.2.size)))
      clear hN45 hb45 HLI
      go_wp2_with fail
      refine HIN.out.mono ?_
      rintro e w46 ⟨rfl, hb46⟩
      have H46 := Lib.hid (And.intro (H45.out.1.below hb46 H45.out.1.lt) (HBp.out.trans ((H45.out.2.trans (hb46.mono H45.out.2.size)).mono HBp.out.size)))
      clear hb46 HIN
      go_wp2_with fail
      go_ret
      exact ⟨rfl, H46.out.2⟩
--END NEG
    · obtain ⟨M, hM⟩ : ∃ M : Nat, n = M := ⟨n.toNat, by omega⟩
      subst hM
      have hMb : M ≤ 9223372036854775807 := by
        have h : -9223372036854775808 ≤ (M : Int) ∧ (M : Int) ≤ 9223372036854775807 := by simpa [Lit.wf, IntKind.min, IntKind.max, IntKind.signed, IntKind.bits] using wn
        omega
      have HN := Lib.hid (fun w => name_any M w hMb)
      have hrn := fun w => rname_any M hMb w
      obtain ⟨NS, hNS⟩ : ∃ NS, NS = str (nm M) := ⟨_, rfl⟩
      rw [← hNS] at hrn
      have HRN := Lib.hid hrn
      have HNS := Lib.hid hNS
      clear hrn hNS
      go_enter Tryz.func3, Tryz.ntmps3
      go_wp2_with fail
      refine (HA.out W HT.out).mono ?_
      rintro e W1 ⟨rfl, hb1⟩
      have HB1 := Lib.hid hb1
      clear hb1
      go_wp2_with fail
      refine (HN.out _).mono ?_
      rintro e W2 ⟨⟨v3, rfl, own3⟩, hb2⟩
      obtain ⟨A3, c3, rfl⟩ := own_shape own3
      have HB2 := Lib.hid (HB1.out.trans (hb2.mono HB1.out.size))
      have HS3 := Lib.hid (Sees.of_own own3)
      have hcv : ∀ W', Below W2.heap.size W2 W' → (convert 22 9 (.slice A3 32 c3)).run Tryz.prog W' = .ok (.string NS) W' := fun W' h => by rw [HNS.out]; exact run_to_string Tryz.underlying22 Tryz.underlying5 Tryz.underlying9 c3 (HS3.out.below h)
      have HCV := Lib.hid hcv
      clear hcv own3 hb2 HN
      go_wp2_with fail
      refine region_fast [(0, true), (1, true), (2, true), (3, false), (4, true)] [2, 3] 12 [(536870912, 128, 0, 0), (1073741824, 536870912, 1, 1), (2147483648, 1, 0, 0), (4294967296, 2147483648, 4, 4), (8589934592, 5368709120, 10, 15)] (fun W' => Below W2.heap.size W2 W') (by kernel_rfl) (by kernel_rfl) (by kernel_rfl) rfl (by kernel_rfl) (by kernel_rfl) (Below.refl _ _).drew (fun hS => ?_)
      repeat (first
        | (refine plan_read (v := ?_) rfl (fun _ _ _ h => h) rfl hS ?_ ?_; rotate_left 1; (focus (intro w' hS'; have hc := HCV.out _ hS'; go_simp; try rfl)); (simp only [Act.put, List.setIfInBounds_toArray]; dsimp only [List.set_cons_zero, List.set_cons_succ]))
        | (refine plan_skip rfl (fun _ _ _ h => h) rfl hS ?_; (simp only [Act.put, List.setIfInBounds_toArray]; dsimp only [List.set_cons_zero, List.set_cons_succ])))
      refine plan_do (by rfl) (by rfl) (fun K hK => ?_)
      go_simp
      refine (HRN.out _).mono ?_
      rintro e wc ⟨rfl, hbw⟩
      have hS := hS.trans (hbw.mono hS.size)
      clear hbw
      refine hK.out _ _ (fun _ => hS) (fun hS => ?_); clear hK K; replace hS := hS rfl; try (simp only [Act.put, List.setIfInBounds_toArray]; dsimp only [List.set_cons_zero, List.set_cons_succ])
      repeat (first
        | (refine plan_read (v := ?_) rfl (fun _ _ _ h => h) rfl hS ?_ ?_; rotate_left 1; (focus (intro w' hS'; have hc := HCV.out _ hS'; go_simp; try rfl)); (simp only [Act.put, List.setIfInBounds_toArray]; dsimp only [List.set_cons_zero, List.set_cons_succ]))
        | (refine plan_skip rfl (fun _ _ _ h => h) rfl hS ?_; (simp only [Act.put, List.setIfInBounds_toArray]; dsimp only [List.set_cons_zero, List.set_cons_succ])))
      refine plan_nil ?_
      have hbc := Lib.hid hS
      have HBp := Lib.hid (HB2.out.trans (hbc.out.mono HB2.out.size))
      have HNM := Lib.hid (show ∀ W', Below wc.heap.size wc W' → Sees W' 1 A3 32 (u8s (nm M)) from fun W' h => HS3.out.below (hbc.out.trans (h.mono hbc.out.size)))
      clear hbc HS3
--BEGIN POS
      have HL := Lib.hid (show ∀ W', Below wc.heap.size wc W' → Sees W' 1 a0 len0 (u8s la) ∧ Sees W' 1 a1 len1 (u8s lb) ∧ Sees W' 1 A3 32 (u8s (nm M)) from fun W' h => ⟨HR.out.1.2.below (HBp.out.trans (h.mono HBp.out.size)), HR.out.2.2.below (HBp.out.trans (h.mono HBp.out.size)), HNM.out W' h⟩)
      have HAL := Lib.hid (show Below wc.heap.size wc (wc.alloc (.cells #[] 5)) from (Below.refl _ _).alloc (Nat.le_refl _) _)
      go_wp2_with (first
        | (refine wpList_emptyS rfl rfl ?_)
        | (at_builtin; refine wpList_app rfl (.tmp 34) (.tmp 35) 22 rfl wc.heap.size 5 _ 1 1 Tryz.underlying22 info_byte rfl (by decide) _ 0 [] rfl (own_empty wc 5) a0 len0 cap0 (u8s la) rfl (HL.out _ HAL.out).1 (u8s_one la) (by unfold maxLen; omega) (by omega) (by simp) ?_; intro v36 w36 o1 o2 o3 o4; rw [Nat.zero_add, List.nil_append] at o1; obtain ⟨A36, c36, rfl⟩ := own_shape o1; have H36 := Lib.hid (And.intro o1 (HAL.out.grown o2 HAL.out.size (fun k hk => by cases hk; exact Nat.le_refl _))); clear o1 o2 o3 o4)
        | (at_builtin; refine wpList_app rfl (.tmp 36) (.tmp 37) 22 rfl wc.heap.size 5 _ 1 1 Tryz.underlying22 info_byte rfl (by decide) _ len0 (u8s la) rfl H36.out.1 A3 32 c3 (u8s (nm M)) rfl (HL.out _ H36.out.2).2.2 (u8s_one _) (by unfold maxLen; omega) (by omega) H36.out.2.size ?_; intro v38 w38 o1 o2 o3 o4; obtain ⟨A38, c38, rfl⟩ := own_shape o1; have H38 := Lib.hid (And.intro o1 (H36.out.2.grown o2 H36.out.2.size (fun k hk => (H36.out.1.lt k hk).1))); clear o1 o2 o3 o4)
        | (at_builtin; refine wpList_app rfl (.tmp 38) (.tmp 39) 22 rfl wc.heap.size 5 _ 1 1 Tryz.underlying22 info_byte rfl (by decide) _ (len0 + 32) (u8s la ++ u8s (nm M)) rfl H38.out.1 a1 len1 cap1 (u8s lb) rfl (HL.out _ H38.out.2).2.1 (u8s_one lb) (by unfold maxLen; omega) (by omega) H38.out.2.size ?_; intro v40 w40 o1 o2 o3 o4; obtain ⟨A40, c40, rfl⟩ := own_shape o1; have H40 := Lib.hid (And.intro o1 (H38.out.2.grown o2 H38.out.2.size (fun k hk => (H38.out.1.lt k hk).1))); clear o1 o2 o3 o4; have hmk := make_bools 4096 (by omega) w40; obtain ⟨Z, hZ⟩ : ∃ Z, Z = (bls (List.replicate 4096 false)).toArray := ⟨_, rfl⟩; rw [← hZ] at hmk; replace hmk : (Instr.makeSlice 26 (.int .i64 4096) (.int .i64 4096)).run Tryz.prog w40 = .ok (.slice (some ⟨w40.heap.size, 0, none⟩) 4096 4096) (w40.alloc (.cells Z 4)) := hmk; have HZ := Lib.hid hZ; clear hZ; have hal := (Below.refl w40.heap.size w40).alloc (Nat.le_refl _) (.cells Z 4); have hcv := run_to_string (P := Tryz.prog) Tryz.underlying22 Tryz.underlying5 Tryz.underlying9 c40 (l := la ++ (nm M) ++ lb) (Sees.of_own (cat3 (own_below H40.out.1 hal))); obtain ⟨AS, hAS⟩ : ∃ AS, AS = str (la ++ (nm M) ++ lb) := ⟨_, rfl⟩; rw [← hAS] at hcv; have HAS := Lib.hid hAS; clear hal hAS))
      have hbk : Blk (w40.alloc (.cells Z 4)) w40.heap.size 4 (bls (List.replicate 4096 false)).toArray := HZ.out ▸ Blk.new w40 4 Z
      have hlen : (la ++ (nm M) ++ lb).length = (len0 + 32) + len1 := by rw [List.length_append, List.length_append, HR.out.1.1, HR.out.2.1, nm_length]
      have hmr := rmark_any w40.heap.size (List.replicate 4096 false) (la ++ (nm M) ++ lb) (w40.alloc (.cells Z 4)) hbk List.length_replicate (by rw [hlen]; omega)
      rw [← HAS.out] at hmr
      have HMR := Lib.hid hmr
      have hal40 : Below w40.heap.size w40 (w40.alloc (.cells Z 4)) := (Below.refl _ _).alloc (Nat.le_refl _) _
      have H41 := Lib.hid (And.intro (cat3 (own_below H40.out.1 hal40)) (And.intro (H40.out.2.trans (hal40.mono H40.out.2.size)) hlen))
      have hz40 := H40.out.2.size
      clear hbk hmr hal40 hmk hcv hlen
      obtain ⟨hb, hhb⟩ : ∃ hb, hb = w40.heap.size := ⟨_, rfl⟩
      have HHB := Lib.hid hhb
      rw [← hhb] at HMR ⊢
      clear hhb
      refine HMR.out.mono ?_
      rintro e w43 ⟨rfl, k', hk', hat, hblk, hfr⟩
      have hne : ∀ q, (Value.slice A40 ((len0 + 32) + len1) c40).ownBlock = some q → q ≠ hb := fun q hq => by have := (H40.out.1.lt q hq).2; have := HHB.out; omega
      have own43 := own_fr H41.out.1 hfr hne
      have hb43 : Below wc.heap.size wc w43 := H41.out.2.1.trans (hfr.below H41.out.2.1.size (fun k e => by rw [e, HHB.out]; exact hz40))
      have hcp := own_caps own43
      have hT43 := ((HT.out.at_.below HBp.out).below (hb43.mono HBp.out.size)).here
      have HNM2 := Lib.hid (named_any (la ++ (nm M) ++ lb) A40 ((len0 + 32) + len1) c40 w43 (Sees.of_own own43) H41.out.2.2 hcp.1 (by omega) hcp.2.1 hcp.2.2 hT43.mx)
      have H43 := Lib.hid (And.intro hk' (And.intro hat (And.intro hblk hb43)))
      clear hk' hat hblk hfr hne own43 hb43 hcp hT43 HMR
      go_wp2_with fail
      refine HNM2.out.mono ?_
      rintro e w44 ⟨v44, ss, rfl, own44, hpw, hin, hb44⟩
      obtain ⟨A44, c44, rfl⟩ := own_shape own44
      have heq := names_same H43.out.1 H43.out.2.1 hpw hin
      have hblk44 := H43.out.2.2.1.below hb44 H43.out.2.2.1.lt
      have hsee : Sees w44 1 (some ⟨hb, 0, none⟩) k'.length (bls k') := ⟨by rw [length_bls]; omega, fun _ => ⟨hb, 0, rfl, fun j u hu => by rw [Nat.zero_add, hblk44.cell j, List.getElem?_toArray]; exact hu⟩⟩
      have hli := list_any (some ⟨hb, 0, none⟩) k' 4096 w44 hsee (by rw [H43.out.1]; omega)
      rw [H43.out.1] at hli
      have HLI := Lib.hid hli
      have hssl : ss.length ≤ 4096 := pairwise_few (a := 0) (n := 4096) hpw (fun y hy => by obtain ⟨m, rfl, hm, -⟩ := (hin y).1 hy; omega)
      have H44 := Lib.hid (And.intro own44 (And.intro heq (And.intro hblk44 (H43.out.2.2.2.trans (hb44.mono H43.out.2.2.2.size)))))
      have hz44 := H43.out.2.2.2.size
      clear own44 hpw hin hb44 heq hblk44 hsee hli HNM2
      go_wp2_with fail
      refine HLI.out.mono ?_
      rintro e w45 ⟨v45, rfl, hN45, hb45⟩
      rw [← H44.out.2.1] at hN45
      obtain ⟨A45, c45, rfl⟩ := own_shape hN45
      have HIN := Lib.hid (ints_any A44 A45 ss ss c44 c45 w45 (Sees.of_own (own_below H44.out.1 hb45)) hN45.sees (by omega) (by omega))
      have H45 := Lib.hid (And.intro (H44.out.2.2.1.below hb45 H44.out.2.2.1.lt) (H44.out.2.2.2.trans (hb45.mono H44.out.2.2.2.size)))
      clear hN45 hb45 HLI
      go_wp2_with fail
      refine HIN.out.mono ?_
      rintro e w46 ⟨rfl, hb46⟩
      have H46 := Lib.hid (And.intro (H45.out.1.below hb46 H45.out.1.lt) (HBp.out.trans ((H45.out.2.trans (hb46.mono H45.out.2.size)).mono HBp.out.size)))
      clear hb46 HIN
      by_cases hbig : M < 4096
      · have hbi : (M : Int) < 4096 := by omega
        have hat : at_ k' M = true := (H43.out.2.1 M hbig).2 (.inr ⟨la.length, at32_mid la lb M (by omega)⟩)
        have c46 : w46.cell? ⟨hb, M, none⟩ = some (.bool true) := by rw [H46.out.1.cell M, List.getElem?_toArray, bls_get (by rw [H43.out.1]; exact hbig), hat]
        clear hat
        go_wp2_with fail
        go_ret
        exact ⟨rfl, H46.out.2⟩
      · have hbi : ¬ (M : Int) < 4096 := by omega
        go_wp2_with fail
        go_ret
        exact ⟨rfl, H46.out.2⟩
--END POS
  · have h4i : (400 : Int) < (len0 : Int) + (len1 : Int) := by omega
    have h4i2 : ¬ (len0 : Int) + (len1 : Int) ≤ 400 := by omega
    go_enter Tryz.func3, Tryz.ntmps3
    go_wp2_with fail
    refine (HA.out W HT.out).mono ?_
    rintro e W1 ⟨rfl, hb1⟩
    have HA2 := Lib.hid (HA.out W1 (HT.out.below (Nat.le_refl _) hb1))
    have HB1 := Lib.hid hb1
    clear hb1 HA
    go_wp2_with fail
    refine HA2.out.mono ?_
    rintro e W2 ⟨rfl, hb2⟩
    have HB2 := Lib.hid (HB1.out.trans (hb2.mono HB1.out.size))
    go_wp2_with fail
    go_ret
    exact ⟨rfl, HB2.out⟩
end Go.Proofs.YtkgaeoeibjoljaaGreatDoor
