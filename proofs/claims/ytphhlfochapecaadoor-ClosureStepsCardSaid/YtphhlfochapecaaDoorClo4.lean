/-
  A search until nothing more follows.
-/
import Derived.Test.YtphhlfochapecaaDoorClo3
import Derived.Laws.MakeOwn
namespace Go.Proofs.YtphhlfochapecaaDoor
set_option maxRecDepth 4000
open Go.RowKit

theorem info_bool : (Tryd.prog.info? 4).map (fun i => (i.zero, i.size, i.bytes)) = some (some (.bool false), 1, 1) := by kernel_rfl
theorem make_bools (n : Nat) (hn : n ≤ 100000) (W : World) : (Instr.makeSlice 29 (.int .i64 (n : Int)) (.int .i64 (n : Int))).run Tryd.prog W = .ok (.slice (some ⟨W.heap.size, 0, none⟩) n n) (W.alloc (.cells (bls (List.replicate n false)).toArray 4)) := by
  obtain ⟨i, hi, hz, hs, hb⟩ := info_parts info_bool
  have h := run_make (P := Tryd.prog) W 29 4 i (.bool false) Tryd.underlying29 hi hz .i64 .i64 (n : Int) (n : Int) (by omega) (by omega) (by rw [hb]; omega) (by omega)
  have e0 : bls (List.replicate n false) = List.replicate n (Value.bool false) := by simp [bls]
  have e1 : madeCells (Value.bool false).cells ((n : Int).toNat * i.size) = (bls (List.replicate n false)).toArray := by
    rw [hs, Int.toNat_natCast, Nat.mul_one, e0, ← toList_madeCells_one (.bool false) n]
    rfl
  rw [e1, Int.toNat_natCast] at h
  exact h

/-- A search under way. -/
structure RunAt (w W : World) (l : List Tm) (gv : List Int) (b p kb : Nat) (s : Sr) : Prop where
  srch : SearchIs W w.heap.size b p s kb l.length
  good : Good l gv s
  bel : Below w.heap.size w W
theorem RunAt.step {w W W' : World} {l : List Tm} {gv : List Int} {b p kb : Nat} {s s' : Sr} (h : RunAt w W l gv b p kb s) (h1 : SearchIs W' w.heap.size b p s' kb l.length) (h2 : Below w.heap.size W W') (h3 : Good l gv s') : RunAt w W' l gv b p kb s' :=
  ⟨h1, h3, h.bel.trans h2⟩
/-- What was given so far is known. -/
def Gave (l : List Tm) (gv : List Int) (j : Nat) (s : Sr) : Prop := ∀ (i : Nat) (x : Int), i < j → gv[i]? = some x → 0 ≤ x → x < l.length → at_ s.kn x.toNat = true

theorem shut_next {l : List Tm} {s s' : Sr} {j : Nat} (h1 : Grow s s') (h2 : s' = s → ∀ m, m < j → ShutAt l s.kn m) : bodyS l s' j = s → ∀ m, m < j + 1 → ShutAt l s.kn m := by
  intro e m hm
  have hg := bodyS_grow l s' j
  have e1 : s' = s := by
    refine h1.eq ?_
    have := hg.le
    rw [e] at this
    exact this
  subst e1
  rcases Nat.lt_or_ge m j with h | h
  · exact h2 rfl m h
  · obtain rfl : m = j := by omega
    exact shut_of_body e

set_option maxHeartbeats 1000000 in
theorem run_any (p : Nat) (l : List Tm) (A : Option Addr) (gv : List Int) (c pb : Nat) (w : World) (hP : PoolIs w pb p l) (hp : Pool l) (hll : l.length ≤ 1000) (hgl : gv.length ≤ 10000) (hg : Sees w 1 A gv.length (i64s gv)) (hwf : ∀ x ∈ gv, (Lit.int .i64 x).wf = true) :
    Calls Tryd.prog 20 #[.pointer (some ⟨p, 0, none⟩), .slice A gv.length c] w fun e w' => ∃ b kb s, e = .returned (.pointer (some ⟨b, 0, none⟩)) ∧ RunAt w w' l gv b p kb s ∧ s.kn = clo l gv := by
  have hlen : Calls Tryd.prog 31 #[.pointer (some ⟨p, 0, none⟩)] w fun e w' => e = .returned (.int .i64 l.length) ∧ w = w' := by
    obtain ⟨tA, tc, mb, dA, dc, sA, sc, h⟩ := hP
    exact plen_any p tA l.length tc w (own_len h.ts) h.cell0
  have hlen2 : ∀ W, Below w.heap.size w W → Calls Tryd.prog 31 #[.pointer (some ⟨p, 0, none⟩)] W fun e w' => e = .returned (.int .i64 l.length) ∧ W = w' := fun W hW => by
    obtain ⟨tA, tc, mb, dA, dc, sA, sc, h⟩ := hP.below hW
    exact plen_any p tA l.length tc W (own_len h.ts) h.cell0
  have HLEN := Lib.hid hlen; have HLEN2 := Lib.hid hlen2; clear hlen hlen2
  have HP := Lib.hid (And.intro hP hp); clear hP hp
  have hmk := make_bools l.length (by omega) w
  have HGV := Lib.hid hg; clear hg
  have HWF := Lib.hid hwf; clear hwf
  go_enter Tryd.func20, Tryd.ntmps20
  go_wp2_with fail
  refine HLEN.out.mono ?_
  rintro e w1 ⟨rfl, rfl⟩
  go_wp2_with fail
  go_loopw [7, 19] (fun _ i wr => ∃ j : Nat, i = .int .i64 j ∧ j ≤ gv.length ∧ Hid (∃ s, RunAt w wr l gv (w.heap.size + 1) p w.heap.size s ∧ Gave l gv j s)) (fun _ i _ => gv.length - (intOf i).toNat)
  case atStart =>
    refine ⟨0, rfl, Nat.zero_le _, Lib.hid ⟨⟨List.replicate l.length false, []⟩, ⟨⟨none, 0, ⟨?_, ?_, World.ownsRow_nil _ _ _ _, by omega, by omega⟩⟩, Good.start _ rfl, ?_⟩, fun i x hi => by omega⟩⟩
    · have := Blk.new (w.alloc (.cells (bls (List.replicate l.length false)).toArray 4)) 53 #[.pointer (some ⟨p, 0, none⟩), .slice (some ⟨w.heap.size, 0, none⟩) l.length l.length, .slice none 0 0]
      simpa using this
    · exact Blk.alloc (Blk.new w 4 (bls (List.replicate l.length false)).toArray) _
    · exact ((Below.refl _ _).alloc (Nat.le_refl _) _).alloc (by simp) _
  case round =>
    obtain ⟨j, rfl, hj, hr⟩ := hrel
    by_cases hlt : j < gv.length
    · have hget : gv[j]? = some (gv[j]'hlt) := List.getElem?_eq_getElem hlt
      generalize gv[j] = x at hget
      obtain ⟨s, hr1, hr2⟩ := hr.out
      have hgs := HGV.out.below hr1.bel
      obtain ⟨gg, go, hAe, hgc⟩ := hgs.2 (by omega)
      have q0 : wr.cell? ⟨gg, go + j, none⟩ = some (.int .i64 x) := hgc j _ (by simp [i64s, hget])
      subst hAe
      have hsl := hr1.good.le
      have hkl := hr1.good.len
      have hwx := wf_i64 (HWF.out x (List.mem_of_getElem? hget))
      have hxm := List.mem_of_getElem? hget
      have HR := Lib.hid (And.intro hr1 (And.intro hr2 (And.intro hget hxm))); clear hr1 hr2 hget hgs hgc hr hxm
      by_cases h0 : 0 ≤ x
      · by_cases h1 : x < l.length
        · obtain ⟨X, rfl⟩ : ∃ X : Nat, x = X := ⟨x.toNat, by omega⟩
          go_wp2_with fail
          refine (HLEN2.out wr HR.out.1.bel).mono ?_
          rintro e w1 ⟨rfl, rfl⟩
          go_wp2_with fail
          refine (learn_any (w.heap.size + 1) p X 0 0 s w.heap.size l.length w.heap.size wr HR.out.1.srch (by omega) (by omega) (by omega)).mono ?_
          rintro e w2 ⟨rfl, h2, h3⟩
          have HR2 : Hid (∃ s, RunAt w w2 l gv (w.heap.size + 1) p w.heap.size s ∧ Gave l gv (j + 1) s) := Lib.hid ⟨_, HR.out.1.step h2 h3 (HR.out.1.good.giv HR.out.2.2.2 h0 h1), fun i y hi hy h4 h5 => by
            rcases Nat.lt_or_ge i j with h6 | h6
            · exact learnS_keep _ _ _ _ (HR.out.2.1 i y h6 hy h4 h5)
            · obtain rfl : i = j := by omega
              rw [HR.out.2.2.1] at hy
              injection hy with hy
              subst hy
              exact learnS_at _ _ _ _ (by rw [HR.out.1.good.len]; omega)⟩
          clear h2 h3
          go_wp2_with fail
          go_roundw
          case rel => exact ⟨j + 1, by go_num, by omega, HR2⟩
          case measure => simp [intOf]; omega
        · go_wp2_with fail
          refine (HLEN2.out wr HR.out.1.bel).mono ?_
          rintro e w1 ⟨rfl, rfl⟩
          have HR2 : Hid (∃ s, RunAt w wr l gv (w.heap.size + 1) p w.heap.size s ∧ Gave l gv (j + 1) s) := Lib.hid ⟨_, HR.out.1, fun i y hi hy h4 h5 => by
            rcases Nat.lt_or_ge i j with h6 | h6
            · exact HR.out.2.1 i y h6 hy h4 h5
            · obtain rfl : i = j := by omega
              rw [HR.out.2.2.1] at hy
              injection hy with hy
              omega⟩
          go_wp2_with fail
          go_roundw
          case rel => exact ⟨j + 1, by go_num, by omega, HR2⟩
          case measure => simp [intOf]; omega
      · have HR2 : Hid (∃ s, RunAt w wr l gv (w.heap.size + 1) p w.heap.size s ∧ Gave l gv (j + 1) s) := Lib.hid ⟨_, HR.out.1, fun i y hi hy h4 h5 => by
            rcases Nat.lt_or_ge i j with h6 | h6
            · exact HR.out.2.1 i y h6 hy h4 h5
            · obtain rfl : i = j := by omega
              rw [HR.out.2.2.1] at hy
              injection hy with hy
              omega⟩
        go_wp2_with fail
        go_roundw
        case rel => exact ⟨j + 1, by go_num, by omega, HR2⟩
        case measure => simp [intOf]; omega
    · obtain rfl : j = gv.length := by omega
      go_wp2_with fail
      go_loopw [8, 9, 10, 52] (fun z _ _ _ wr => ∃ y : Int, z = .int .i64 y ∧ -1 ≤ y ∧ y ≤ l.length ∧ Hid (∃ s, RunAt w wr l gv (w.heap.size + 1) p w.heap.size s ∧ Gave l gv gv.length s ∧ y ≤ s.st.length ∧ (y = s.st.length → ∀ n, n < l.length → ShutAt l s.kn n))) (fun z _ _ _ _ => (l.length + 1 - intOf z).toNat)
      case atStart =>
        obtain ⟨s, h1, h2⟩ := hr.out
        exact ⟨-1, rfl, by omega, by omega, Lib.hid ⟨s, h1, h2, by omega, fun h => by omega⟩⟩
      case round =>
        obtain ⟨y, rfl, hy0, hy1, hr'⟩ := hrel
        obtain ⟨s, h1, h2, h3, h4⟩ := hr'.out
        have hsl := h1.good.le
        have c2 := (show ∃ sA sc, wr.cell? ⟨w.heap.size + 1, 2, none⟩ = some (.slice sA s.st.length sc) by obtain ⟨_, _, h⟩ := h1.srch; exact ⟨_, _, h.cell2⟩)
        have c1 := (show wr.cell? ⟨w.heap.size + 1, 1, none⟩ = some (.slice (some ⟨w.heap.size, 0, none⟩) s.kn.length l.length) by obtain ⟨_, _, h⟩ := h1.srch; exact h.cell1)
        rw [h1.good.len] at c1
        obtain ⟨sA, sc, c2⟩ := c2
        have HR := Lib.hid (And.intro h1 (And.intro h2 h4)); clear h1 h2 h4 hr'
        by_cases hlt2 : y < s.st.length
        · go_wp2_with fail
          have hy : y < l.length := by omega
          go_loopw [9, 10, 52] (fun _ _ i wr => ∃ j : Nat, i = .int .i64 j ∧ j ≤ l.length ∧ Hid (∃ s', RunAt w wr l gv (w.heap.size + 1) p w.heap.size s' ∧ Grow s s' ∧ keepS s s' ∧ (s' = s → ∀ m, m < j → ShutAt l s.kn m))) (fun _ _ i _ => l.length - (intOf i).toNat)
          case atStart => exact ⟨0, rfl, Nat.zero_le _, Lib.hid ⟨s, HR.out.1, Grow.refl _, fun _ h => h, fun _ m hm => by omega⟩⟩
          case round =>
            obtain ⟨j, rfl, hj, hi'⟩ := hrel
            obtain ⟨s', g1, g2, g3, g4⟩ := hi'.out
            by_cases hlt3 : j < l.length
            · have hsl' := g1.good.le
              have hkl' := g1.good.len
              have m0 := (show wr.cell? ⟨w.heap.size, j, none⟩ = some (.bool (at_ s'.kn j)) by obtain ⟨_, _, h⟩ := g1.srch; exact h.mark (by omega))
              have HI := Lib.hid (And.intro g1 (And.intro g2 (And.intro g3 g4))); clear g1 g2 g3 g4 hi'
              have hbody : bodyS l s' j = togS l (if at_ s'.kn j = true then apartS l s' j else s') j := rfl
              obtain ⟨K, hK⟩ : ∃ K, at_ s'.kn j = K := ⟨_, rfl⟩
              rw [hK] at m0 hbody
              have HK := Lib.hid hK; clear hK
              cases K with
              | true =>
                rw [if_pos rfl] at hbody
                have HB := Lib.hid hbody; clear hbody
                go_wp2_with fail
                refine (apart_any (w.heap.size + 1) p j l s' w.heap.size l.length w.heap.size pb wr HI.out.1.srch (HP.out.1.below HI.out.1.bel) HP.out.2 HI.out.1.good.len hlt3 (by omega) (by omega)).mono ?_
                rintro e w2 ⟨rfl, a1, a2⟩
                have ha := apartS_grow l s' j
                have hag := HI.out.1.good.apart HP.out.2 HK.out
                have HI2 := Lib.hid (And.intro (HI.out.1.step a1 a2 hag) ha); clear a1 a2 ha hag
                have hsl2 := HI2.out.1.good.le
                go_wp2_with fail
                refine (together_any (w.heap.size + 1) p j l _ w.heap.size l.length w.heap.size pb w2 HI2.out.1.srch (HP.out.1.below HI2.out.1.bel) HP.out.2 HI2.out.1.good.len hlt3 (by omega) (by omega)).mono ?_
                rintro e w3 ⟨rfl, a1, a2⟩
                rw [← HB.out] at a1
                have HI3 : Hid (∃ s', RunAt w w3 l gv (w.heap.size + 1) p w.heap.size s' ∧ Grow s s' ∧ keepS s s' ∧ (s' = s → ∀ m, m < j + 1 → ShutAt l s.kn m)) := Lib.hid ⟨_, HI2.out.1.step a1 a2 (HI.out.1.good.body HP.out.2 j), HI.out.2.1.trans (bodyS_grow _ _ _), fun m hm => bodyS_keep l s' j m (HI.out.2.2.1 m hm), shut_next HI.out.2.1 HI.out.2.2.2⟩
                clear a1 a2
                go_wp2_with fail
                go_roundw
                case rel => exact ⟨j + 1, by go_num, by omega, HI3⟩
                case measure => simp [intOf]; omega
              | false =>
                rw [if_neg (by simp)] at hbody
                have HB := Lib.hid hbody; clear hbody
                go_wp2_with fail
                refine (together_any (w.heap.size + 1) p j l _ w.heap.size l.length w.heap.size pb wr HI.out.1.srch (HP.out.1.below HI.out.1.bel) HP.out.2 HI.out.1.good.len hlt3 (by omega) (by omega)).mono ?_
                rintro e w3 ⟨rfl, a1, a2⟩
                rw [← HB.out] at a1
                have HI3 : Hid (∃ s', RunAt w w3 l gv (w.heap.size + 1) p w.heap.size s' ∧ Grow s s' ∧ keepS s s' ∧ (s' = s → ∀ m, m < j + 1 → ShutAt l s.kn m)) := Lib.hid ⟨_, HI.out.1.step a1 a2 (HI.out.1.good.body HP.out.2 j), HI.out.2.1.trans (bodyS_grow _ _ _), fun m hm => bodyS_keep l s' j m (HI.out.2.2.1 m hm), shut_next HI.out.2.1 HI.out.2.2.2⟩
                clear a1 a2
                go_wp2_with fail
                go_roundw
                case rel => exact ⟨j + 1, by go_num, by omega, HI3⟩
                case measure => simp [intOf]; omega
            · obtain rfl : j = l.length := by omega
              have HI3 : Hid (∃ s'', RunAt w wr l gv (w.heap.size + 1) p w.heap.size s'' ∧ Gave l gv gv.length s'' ∧ (s.st.length : Int) ≤ s''.st.length ∧ ((s.st.length : Int) = s''.st.length → ∀ n, n < l.length → ShutAt l s''.kn n)) := Lib.hid ⟨s', g1, fun i x h1 h2 h3 h4 => g3 _ (HR.out.2.1 i x h1 h2 h3 h4), by have := g2.le; omega, fun he n hn => by
                have e := g2.eq (by omega)
                rw [e]
                exact g4 e n hn⟩
              clear g1 g2 g3 g4 hi'
              go_wp2_with fail
              go_roundw
              case rel => exact ⟨s.st.length, rfl, by omega, by omega, HI3⟩
              case measure => simp [intOf]; omega
        · obtain rfl : y = s.st.length := by omega
          go_wp2_with fail
          go_ret
          refine ⟨w.heap.size + 1, rfl, w.heap.size, s, HR.out.1, HR.out.1.good.done HP.out.2 (fun n hn hl => ?_) (HR.out.2.2 (by trivial))⟩
          obtain ⟨i, hi, e⟩ := List.mem_iff_getElem.1 hn
          have := HR.out.2.1 i n hi (by rw [List.getElem?_eq_getElem hi, e]) (by omega) (by omega)
          simpa using this
end Go.Proofs.YtphhlfochapecaaDoor
