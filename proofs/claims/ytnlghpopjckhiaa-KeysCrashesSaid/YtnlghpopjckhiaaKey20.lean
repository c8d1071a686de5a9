/-
  The law KeysCrashes, walked.
-/
import Derived.Test.YtnlghpopjckhiaaKey19
import Derived.Deep.DeepCutAuto
namespace Go.Proofs.Ytnlghpopjckhiaa
set_option maxRecDepth 4000
open Go.RowKit

theorem info_bool : (Try.prog.info? 4).map (fun i => (i.zero, i.size, i.bytes)) = some (some (.bool false), 1, 1) := by kernel_rfl
theorem make_bools8 (W : World) : (Instr.makeSlice 35 (.int .i64 8) (.int .i64 8)).run Try.prog W = .ok (.slice (some ⟨W.heap.size, 0, none⟩) 8 8) (W.alloc (.cells (bls (List.replicate 8 false)).toArray 4)) := by
  obtain ⟨i, hi, hz, hs, hb⟩ := info_parts info_bool
  have h := run_make (P := Try.prog) W 35 4 i (.bool false) Try.underlying35 hi hz .i64 .i64 8 8 (by omega) (by omega) (by rw [hb]; omega) (by omega)
  have e0 : bls (List.replicate 8 false) = List.replicate 8 (Value.bool false) := by simp [bls]
  have e1 : madeCells (Value.bool false).cells ((8 : Int).toNat * i.size) = (bls (List.replicate 8 false)).toArray := by
    rw [hs, e0, show (8 : Int).toNat * 1 = 8 from rfl, ← toList_madeCells_one (.bool false) 8]
    rfl
  rw [e1] at h
  exact h
theorem good_start : Good (List.replicate 8 none) (List.replicate 8 false) := by
  have hn : ∀ (k : Nat) (p : Nat × List UInt8), (List.replicate 8 (none : Kd))[k]? ≠ some (some p) := fun k p h => by
    rw [List.getElem?_replicate] at h
    split at h <;> cases h
  refine ⟨by simp, by simp, fun k p h => absurd h (hn k p), fun i j p q h => absurd h (hn i p), fun b hb => ?_⟩
  rw [List.getElem?_replicate, if_pos hb]
  exact ⟨(fun h => by cases h), fun ⟨k, p, h, _⟩ => absurd h (hn k p)⟩
theorem limit_nrm {w wr : World} {t b sg kg : Nat} {Q : List Kd} {kept kr : List Bool} (h : Nrm w wr t b sg kg Q kept kr (-1)) (c : Nat) (hc : c ≤ 1000) :
    Calls Try.prog 10 #[.pointer (some ⟨b, 0, none⟩), .int .i64 c] wr fun e w' => e = .returned (.tuple #[]) ∧ Nrm w w' t b sg kg Q kept kr c := by
  obtain ⟨E, F, K, G, h1, h2, h3, h4⟩ := h.ex
  refine (limit_any b c hc F _ wr h1.disk).mono ?_
  rintro e w' ⟨he, hto⟩
  obtain ⟨F', K', G', st, fr, sub⟩ := h1.diskTo hto
  exact ⟨he, ⟨E, F', K', G', st, h2, fun hg => h3 (sub kg h.row.lt hg), fun k hk hg => h4 k hk (sub k (Nat.lt_of_lt_of_le hk h.bel.size) hg)⟩, h.row.keep (fr.block kg h.row.lt h3), h.bel.trans (fr.below h.bel.size (fun k hk => Nat.not_lt.1 fun hl => h4 k hl hk)), h.good, h.kge⟩

/-- The law's loop. -/
def LR (w : World) (t b sg kg n : Nat) (keep : List Int) (j : Nat) (u : Value) (wr : World) : Prop :=
  (u = .int .i64 (-1) ∧ ∃ Q kept, Nrm w wr t b sg kg Q kept kept (-1)) ∨ (j = n ∧ ∃ (u' : Int) (kept : List Bool), u = .int .i64 u' ∧ Fin w wr b kg keep kept kept u')
theorem LR.done {w : World} {t b sg kg n : Nat} {keep : List Int} {u : Value} {wr : World} (h : LR w t b sg kg n keep n u wr) : ∃ (u' : Int) (kept : List Bool), u = .int .i64 u' ∧ Fin w wr b kg keep kept kept u' := by
  rcases h with ⟨rfl, Q, kept, h⟩ | ⟨-, h⟩
  · exact ⟨-1, kept, rfl, h.fin keep⟩
  · exact h
theorem LR.more {w : World} {t b sg kg n : Nat} {keep : List Int} {j : Nat} {u : Value} {wr : World} (h : LR w t b sg kg n keep j u wr) (hj : j < n) : u = .int .i64 (-1) ∧ ∃ Q kept, Nrm w wr t b sg kg Q kept kept (-1) := by
  rcases h with h | ⟨h, -⟩
  · exact h
  · omega

set_option maxHeartbeats 4000000 in
theorem crashes_any (ys : List Ac) (AA : Option Addr) (cap : Nat) (calls : Int) (KA : Option Addr) (keep : List Int) (kcap : Nat) (w : World) (hS : Sees w 5 AA ys.length (acs ys)) (hok : ∀ y ∈ ys, AcOk y) (hmax : ys.length ≤ maxLen)
    (hcalls : 0 ≤ calls ∧ calls ≤ 255) (hkeep : Sees w 1 KA keep.length (keep.map (Value.int .i64))) :
    Calls Try.prog 3 #[.slice AA ys.length cap, .int .u8 calls, .slice KA keep.length kcap] w fun e w' => e = .returned (.bool true) ∧ Below w.heap.size w w' := by
  have HAW := Lib.hid awake_any
  have HSM := Lib.hid (fun w h => smalls_any ys AA cap 20 w h hok (by omega) hmax)
  have HK := Lib.hid hkeep
  have HS := Lib.hid hS
  have HOK := Lib.hid hok
  clear hkeep hS hok
  by_cases h20 : keep.length ≤ 20
  · have hi : ¬ ((20 : Int) < (keep.length : Int)) := by omega
    go_enter Try.func3, Try.ntmps3
    go_wp2_with fail
    refine (HAW.out _).mono ?_
    rintro e w1 ⟨rfl, hb1⟩
    have HX := Lib.hid (HSM.out w1 (HS.out.below hb1))
    have HB1 := Lib.hid hb1; clear hb1
    go_wp2_with fail
    refine HX.out.mono ?_
    rintro e w2 ⟨hr, hb2⟩
    have HB2 := Lib.hid (HB1.out.trans (hb2.mono HB1.out.size)); clear hb2 HX HB1
    rcases hr with rfl | ⟨rfl, hlen⟩
    · go_wp2_with fail
      refine (HAW.out _).mono ?_
      rintro e w3 ⟨rfl, hb3⟩
      have HB3 := Lib.hid (HB2.out.trans (hb3.mono HB2.out.size)); clear hb3
      go_wp2_with fail
      go_ret
      exact ⟨rfl, HB3.out⟩
    · have HN := Lib.hid (fun w => new_good 16 w (by omega) (by omega))
      have HO := Lib.hid (open_fresh 8 (by omega) (by omega))
      have HLN := hlen
      clear hlen
      go_wp2_with fail
      refine (HN.out _).mono ?_
      rintro e w3 ⟨⟨b, F, rfl, hD, hF⟩, hb3⟩
      have HOX := Lib.hid (HO.out b F w3 hD (fun k hk => (hF k hk).2))
      have HB3 := Lib.hid (HB2.out.trans (hb3.mono HB2.out.size))
      have HF3 := Lib.hid (fun k hk => Nat.le_trans HB2.out.size (hF k hk).1)
      clear hD hF hb3 HN HO HB2
      go_wp2_with fail
      refine HOX.out.mono ?_
      rintro e w4 ⟨t, sg, rfl, F4, K4, G4, st, fr, sub⟩
      have hn4 : ∀ k, k < w.heap.size → ¬ G4 k := fun k hk hg => Nat.not_le.2 hk (HF3.out k (sub k (Nat.lt_of_lt_of_le hk HB3.out.size) hg))
      have hb4 : Below w.heap.size w w4 := HB3.out.trans (fr.below HB3.out.size (fun k hk => HF3.out k hk))
      have H4 := Lib.hid (And.intro st.tight (And.intro hb4 (fun k (hk : k < w.heap.size) (hg : F4 k ∨ K4 k) => hn4 k hk (hg.elim (fun h => (st.fin k h).1) (fun h => (st.kin k h).1)))))
      have hkg : ¬ (F4 w4.heap.size ∨ K4 w4.heap.size) := fun hg => Nat.lt_irrefl _ (hg.elim (fun h => (st.fin _ h).2) (fun h => (st.kin _ h).2))
      have HKG := Lib.hid hkg
      clear st fr sub hn4 hb4 hkg HOX HB3 HF3
      have hmk := make_bools8
      have hz : ∃ Z, Z = (bls (List.replicate 8 false)).toArray := ⟨_, rfl⟩
      obtain ⟨Z, hZ⟩ := hz
      rw [← hZ] at hmk
      have HZ := Lib.hid hZ; clear hZ
      have HMK := Lib.hid hmk; clear hmk
      go_wp2_with (simp only [HMK.out])
      have hbA : Below w4.heap.size w4 (w4.alloc (.cells Z 4)) := (Below.refl _ _).alloc (Nat.le_refl _) _
      have hN0 : Nrm w (w4.alloc (.cells Z 4)) t b sg w4.heap.size (List.replicate 8 none) (List.replicate 8 false) (List.replicate 8 false) (-1) :=
        ⟨⟨_, F4, K4, _, H4.out.1.below hbA, by rw [List.map_replicate, List.map_replicate]; rfl, HKG.out, H4.out.2.2⟩, by rw [← HZ.out]; exact Blk.new w4 4 Z, H4.out.2.1.trans (hbA.mono H4.out.2.1.size), good_start, H4.out.2.1.size⟩
      have HN0 := Lib.hid hN0
      clear hbA hN0 H4 HKG HMK HZ
      obtain ⟨kg, hkg⟩ : ∃ kg, kg = w4.heap.size := ⟨_, rfl⟩
      rw [← hkg] at HN0 ⊢
      clear hkg
      generalize w4.alloc (.cells Z 4) = w5 at *
      clear w4 Z
      go_loopw [12, 13] (fun u i wr => ∃ j : Nat, i = .int .i64 j ∧ j ≤ ys.length ∧ Hid (LR w t b sg kg ys.length keep j u wr)) (fun _ i _ => ys.length - (intOf i).toNat)
      case atStart => exact ⟨0, rfl, Nat.zero_le _, Lib.hid (.inl ⟨rfl, _, _, HN0.out⟩)⟩
      case round =>
        obtain ⟨j, rfl, hj, hr⟩ := hrel
        by_cases hlt : j < ys.length
        · skip
          obtain ⟨rfl, Q, kept, hN⟩ := hr.out.more hlt
          have hl20 : ys.length ≤ 20 := HLN.out
          have hget : ys[j]? = some (ys[j]'hlt) := List.getElem?_eq_getElem hlt
          generalize ys[j] = y at hget
          obtain ⟨g, o, rfl, q0, q1, q2, q3, q4⟩ := in_act (HS.out.below hN.bel) hget
          have hy := (HOK.out y (List.mem_of_getElem? hget)).2.1
          have HR := Lib.hid (rest_at y.bk 8 wr hy.1 hy.2 (by omega) (by omega))
          have hx : restN y.bk 8 < 8 := restN_lt _ _ (by omega)
          generalize restN y.bk 8 = x at HR hx
          have hkl : x < kept.length := by rw [hN.good.klen]; exact hx
          have hkx : kept[x]? = some (kept[x]'hkl) := List.getElem?_eq_getElem hkl
          generalize kept[x] = v at hkx
          have hbit := hN.bit x v hkx
          have hu : (40 * (x : Int)) % 256 = ((UInt8.ofNat (40 * x)).toNat : Nat) := by rw [UInt8.toNat_ofNat']; omega
          replace hu := Lib.hid hu
          have HKY := Lib.hid (fun w => key_any (UInt8.ofNat (40 * x)) w)
          obtain ⟨yb, hyb⟩ : ∃ yb, yb = y.bk := ⟨_, rfl⟩
          rw [← hyb] at q1 HR
          have HNN := Lib.hid hN
          have HKX := Lib.hid hkx
          have HGE := Lib.hid hget
          clear q0 q2 q3 q4 hy hyb hr hN hget hkl hkx
          by_cases hlast : j + 1 = ys.length
          · have hlb : ((j : Int) == (ys.length : Int) - 1) = true := by rw [beq_iff_eq]; omega
            have hm5 : (calls.tmod 5) = ((calls.toNat % 5 : Nat) : Int) := by rw [Int.tmod_eq_emod_of_nonneg hcalls.1]; omega
            have hm4 : calls.toNat % 5 ≤ 4 := by omega
            have HLIM := Lib.hid (limit_nrm HNN.out (calls.toNat % 5) (by omega))
            generalize calls.toNat % 5 = m at HLIM hm4 hm5
            have hmI : Lim (m : Int) := .inr ⟨by omega, by omega⟩
            have hmN : (m : Int) ≠ -1 := by omega
            replace hmI := Lib.hid hmI
            replace hmN := Lib.hid hmN
            have hjn : j + 1 = ys.length := hlast
            replace hlast := Lib.hid hlast
            clear hjn
            cases v with
            | true =>
              clear hu HKY
              go_wp2_with fail
              refine HR.out.mono ?_
              rintro e w6 ⟨rfl, rfl⟩
              go_wp2_with fail
              refine HLIM.out.mono ?_
              rintro e wl ⟨rfl, hNL⟩
              have hbl := hNL.bit x true HKX.out
              have HSH := Lib.hid (shred_nrm hNL hmI.out x hx HKX.out keep)
              clear hNL hbit HNN HLIM
              go_wp2_with fail
              refine HSH.out.mono ?_
              rintro e w7 ⟨ok, v, rfl, hv, -, h1⟩
              have h1 := h1 hmN.out
              rcases hv with ⟨rfl, rfl⟩ | ⟨rfl, gf, rfl⟩
              · rw [if_pos rfl] at h1
                have hbit' : w7.cell? ⟨kg, x, none⟩ = some (.bool true) := by
                  rw [h1.row.cell, List.getElem?_toArray]
                  unfold bls
                  rw [List.getElem?_map, HKX.out]
                  rfl
                have hfz := h1.row.frozen x
                have HST := Lib.hid (h1.store x false)
                clear h1 HSH
                go_wp2_with fail
                go_roundw
                case rel => exact ⟨j + 1, by go_num, by omega, Lib.hid (.inr ⟨hlast.out, _, _, rfl, HST.out⟩)⟩
                case measure => simp [intOf]; omega
              · rw [if_neg (by decide)] at h1
                have HST := Lib.hid h1
                clear h1 HSH
                go_wp2_with fail
                go_roundw
                case rel => exact ⟨j + 1, by go_num, by omega, Lib.hid (.inr ⟨hlast.out, _, _, rfl, HST.out⟩)⟩
                case measure => simp [intOf]; omega
            | false =>
              go_wp2_with fail
              refine HR.out.mono ?_
              rintro e w6 ⟨rfl, rfl⟩
              go_wp2_with fail
              refine HLIM.out.mono ?_
              rintro e wl ⟨rfl, hNL⟩
              have hbl := hNL.bit x false HKX.out
              have HNL := Lib.hid hNL
              clear hNL hbit HNN HLIM
              go_wp2_with fail
              rw [hu.out]
              refine (HKY.out _).mono ?_
              rintro e w6 ⟨⟨v6, rfl, ho6⟩, hb6⟩
              obtain ⟨g6, c6, cur6, rfl, hg6, -, -, -, -⟩ := own_open ho6 (by omega)
              have HPT := Lib.hid (put_nrm HNL.out hmI.out x hx HKX.out keep w6 ⟨g6, 0, none⟩ c6 hb6 (Sees.of_own ho6) hg6)
              clear ho6 hb6 hg6
              go_wp2_with fail
              refine HPT.out.mono ?_
              rintro e w7 ⟨ok, v, rfl, hv, -, h1⟩
              have h1 := h1 hmN.out
              rcases hv with ⟨rfl, rfl⟩ | ⟨rfl, gf, rfl⟩
              · rw [if_pos rfl] at h1
                have hbit' : w7.cell? ⟨kg, x, none⟩ = some (.bool false) := by
                  rw [h1.row.cell, List.getElem?_toArray]
                  unfold bls
                  rw [List.getElem?_map, HKX.out]
                  rfl
                have hfz := h1.row.frozen x
                have HST := Lib.hid (h1.store x true)
                clear h1 HPT
                go_wp2_with fail
                go_roundw
                case rel => exact ⟨j + 1, by go_num, by omega, Lib.hid (.inr ⟨hlast.out, _, _, rfl, HST.out⟩)⟩
                case measure => simp [intOf]; omega
              · rw [if_neg (by decide)] at h1
                have HST := Lib.hid h1
                clear h1 HPT
                go_wp2_with fail
                go_roundw
                case rel => exact ⟨j + 1, by go_num, by omega, Lib.hid (.inr ⟨hlast.out, _, _, rfl, HST.out⟩)⟩
                case measure => simp [intOf]; omega
          · have hlb : ((j : Int) == (ys.length : Int) - 1) = false := by rw [beq_eq_false_iff_ne]; omega
            cases v with
            | true =>
              have HSH := Lib.hid (shred_nrm HNN.out (.inl rfl) x hx HKX.out [])
              clear hu HKY
              go_wp2_with fail
              refine HR.out.mono ?_
              rintro e w6 ⟨rfl, rfl⟩
              go_wp2_with fail
              refine HSH.out.mono ?_
              rintro e w7 ⟨ok, v, rfl, hv, h1, -⟩
              obtain ⟨rfl, Q', hN'⟩ := h1 (by first | rfl | trivial)
              have hv' : v = Value.nilIface := by
                rcases hv with ⟨-, h⟩ | ⟨h, -⟩
                · exact h
                · cases h
              subst hv'
              have hbit' := hN'.bit x true HKX.out
              have hfz := hN'.row.frozen x
              have HST := Lib.hid (hN'.store x false)
              clear hv h1 hN' HSH HNN
              go_wp2_with fail
              go_roundw
              case rel => exact ⟨j + 1, by go_num, by omega, Lib.hid (.inl ⟨rfl, _, _, HST.out⟩)⟩
              case measure => simp [intOf]; omega
            | false =>
              go_wp2_with fail
              refine HR.out.mono ?_
              rintro e w6 ⟨rfl, rfl⟩
              go_wp2_with fail
              rw [hu.out]
              refine (HKY.out _).mono ?_
              rintro e w6 ⟨⟨v6, rfl, ho6⟩, hb6⟩
              obtain ⟨g6, c6, cur6, rfl, hg6, -, -, -, -⟩ := own_open ho6 (by omega)
              have HPT := Lib.hid (put_nrm HNN.out (.inl rfl) x hx HKX.out [] w6 ⟨g6, 0, none⟩ c6 hb6 (Sees.of_own ho6) hg6)
              clear ho6 hb6 hg6
              go_wp2_with fail
              refine HPT.out.mono ?_
              rintro e w7 ⟨ok, v, rfl, hv, h1, -⟩
              obtain ⟨rfl, Q', hN'⟩ := h1 (by first | rfl | trivial)
              have hv' : v = Value.nilIface := by
                rcases hv with ⟨-, h⟩ | ⟨h, -⟩
                · exact h
                · cases h
              subst hv'
              have hbit' := hN'.bit x false HKX.out
              have hfz := hN'.row.frozen x
              have HST := Lib.hid (hN'.store x true)
              clear hv h1 hN' HPT HNN
              go_wp2_with fail
              go_roundw
              case rel => exact ⟨j + 1, by go_num, by omega, Lib.hid (.inl ⟨rfl, _, _, HST.out⟩)⟩
              case measure => simp [intOf]; omega
        · obtain rfl : j = ys.length := by omega
          obtain ⟨u, kept, rfl, hfin⟩ := hr.out.done
          have HC := Lib.hid (crash_fin hfin KA kcap HK.out (by omega))
          clear hfin hr
          go_wp2_with fail
          refine HC.out.mono ?_
          rintro e w6 ⟨⟨z, rfl⟩, P, F6, d1, d2, d3, d4, d5, d6⟩
          have HOP := Lib.hid (open_final d1 d2 d3 d4 d5 d6)
          clear d1 d2 d3 d4 d5 d6 HC
          go_wp2_with fail
          refine HOP.out.mono ?_
          rintro e w7 ⟨t2, sg2, E, K, rfl, ho⟩
          have HO7 := Lib.hid ho
          clear ho HOP
          go_wp2_with fail
          go_loopw [16] (fun i wr => ∃ j : Nat, i = .int .i64 j ∧ j ≤ 8 ∧ Hid (Opn w wr t2 b sg2 kg P kept u E K)) (fun i _ => 8 - (intOf i).toNat)
          case atStart => exact ⟨0, rfl, Nat.zero_le _, HO7⟩
          case round =>
            obtain ⟨j, rfl, hj, hr⟩ := hrel
            by_cases hlt : j < 8
            · have hu : (40 * (j : Int)) % 256 = ((UInt8.ofNat (40 * j)).toNat : Nat) := by rw [UInt8.toNat_ofNat']; omega
              have hu2 : IntKind.u8.wrap (IntKind.i64.wrap (40 * (j : Int))) = ((UInt8.ofNat (40 * j)).toNat : Nat) := by rw [IntWalk.i64_in _ (by omega), IntKind.wrap_u8]; exact hu
              replace hu2 := Lib.hid hu2
              clear hu
              have HKY := Lib.hid (fun w => key_any (UInt8.ofNat (40 * j)) w)
              have HG := Lib.hid (get_final hr.out j hlt)
              have hkl : j < kept.length := by rw [hr.out.fin.klen]; exact hlt
              have hkx : kept[j]? = some (kept[j]'hkl) := List.getElem?_eq_getElem hkl
              generalize kept[j] = v at hkx
              have HKX := Lib.hid hkx
              have HR := Lib.hid hr.out
              clear hkl hkx hr
              go_wp2_with fail
              refine HG.out.mono ?_
              rintro e w8 ⟨hb8, hg⟩
              have HO8 := Lib.hid (HR.out.below hb8)
              have hbit : ∀ W, Blk W kg 4 (bls kept).toArray → W.cell? ⟨kg, j, none⟩ = some (.bool v) := fun W hW => by
                rw [hW.cell, List.getElem?_toArray]
                unfold bls
                rw [List.getElem?_map, HKX.out]
                rfl
              rcases hg with ⟨rfl, hk⟩ | ⟨vr, rfl, hk, ho⟩
              · clear HR HG HKY hu2 hb8
                by_cases hju : (j : Int) = u
                · have hju' : ((j : Int) != u) = false := by rw [bne_eq_false_iff_eq]; exact hju
                  clear hju hk
                  go_wp2_with fail
                  refine region_fast [(0, true), (1, true), (2, true), (3, true), (4, true), (5, true), (6, true), (7, true), (8, true), (9, true), (10, true), (11, true), (12, true), (13, true), (14, true), (15, true), (16, true), (17, true), (18, true), (19, false), (20, false), (21, true), (22, true), (23, true)] [1, 5, 6, 7, 8, 16, 17, 18, 19, 20] 2032098 [(41538374868278621028243970633760768, 65536, 0, 0), (83076749736557242056487941267521536, 4096, 0, 0), (166153499473114484112975882535043072, 124615124604835863084731911901282304, 3, 3), (332306998946228968225951765070086144, 166153499473114484112975882535043072, 4, 7), (664613997892457936451903530140172288, 332306998946228968225951765070348288, 8, 15), (1329227995784915872903807060280344576, 332306998946228968225951765070088192, 8, 15), (2658455991569831745807614120560689152, 332306998946228968225951765070151680, 8, 15), (5316911983139663491615228241121378304, 4319990986300976586937372945911119872, 104, 111), (10633823966279326983230456482242756608, 5649218982085892459841180006191464448, 136, 239), (21267647932558653966460912964485513216, 11630744963118013887908311777453015040, 280, 511), (42535295865117307932921825928971026432, 21599954931504882934686864729555599360, 520, 1023), (85070591730234615865843651857942052864, 42535295865117307932921825928971026432, 1032, 2047), (170141183460469231731687303715884105728, 85070591730234615865843651857942315008, 2048, 4095), (340282366920938463463374607431768211456, 255211775190703847597530955573826158592, 6144, 8191), (680564733841876926926749214863536422912, 340282366920938463463374607431768342528, 8192, 16383), (1361129467683753853853498429727072845824, 1020847100762815390390123822295304634368, 24576, 32767), (2722258935367507707706996859454145691648, 340282366920938463463374607431768276992, 8192, 16383), (5444517870735015415413993718908291383296, 3062541302288446171170371466885913903104, 73728, 81919), (10889035741470030830827987437816582766592, 5784800237655953878877368326340059594752, 139264, 212991), (21778071482940061661655974875633165533184, 11229318108390969294291362045248350978048, 270336, 475135), (43556142965880123323311949751266331066368, 22118353849861000125119349483064933744640, 532480, 999423), (87112285931760246646623899502532662132736, 45257554800484815640628822788425172123648, 1089536, 2097151), (174224571863520493293247799005065324265472, 87537638890411419725953117761822372397056, 2107392, 4194303), (348449143727040986586495598010130648530944, 174309642455250727909113642656923266318336, 4196352, 8388607)] (fun W => Blk W kg 4 (bls kept).toArray) (by kernel_rfl) (by kernel_rfl) (by kernel_rfl) rfl (by kernel_rfl) (by kernel_rfl) HO8.out.row (fun hS => ?_)
                  repeat (first
                    | (refine plan_read (v := ?_) rfl (fun _ _ _ h => h) rfl hS ?_ ?_; rotate_left 1; (focus (intro w' hS'; have e0 := hbit _ hS'; go_simp; try rfl)); (simp only [Act.put, List.setIfInBounds_toArray]; dsimp only [List.set_cons_zero, List.set_cons_succ]))
                    | (refine plan_skip rfl (fun _ _ _ h => h) rfl hS ?_; (simp only [Act.put, List.setIfInBounds_toArray]; dsimp only [List.set_cons_zero, List.set_cons_succ])))
                  refine plan_pass (by rfl) (by rfl) (fun _ => hS) ?_; try (simp only [Act.put, List.setIfInBounds_toArray]; dsimp only [List.set_cons_zero, List.set_cons_succ])
                  refine plan_pass (by rfl) (by rfl) (fun _ => hS) ?_; try (simp only [Act.put, List.setIfInBounds_toArray]; dsimp only [List.set_cons_zero, List.set_cons_succ])
                  repeat (first
                    | (refine plan_read (v := ?_) rfl (fun _ _ _ h => h) rfl hS ?_ ?_; rotate_left 1; (focus (intro w' hS'; have e0 := hbit _ hS'; go_simp; try rfl)); (simp only [Act.put, List.setIfInBounds_toArray]; dsimp only [List.set_cons_zero, List.set_cons_succ]))
                    | (refine plan_skip rfl (fun _ _ _ h => h) rfl hS ?_; (simp only [Act.put, List.setIfInBounds_toArray]; dsimp only [List.set_cons_zero, List.set_cons_succ])))
                  refine plan_nil ?_
                  go_wp2_with fail
                  go_roundw
                  case rel => exact ⟨j + 1, by go_num, by omega, Lib.hid (HO8.out.below (Below.refl _ _).drew)⟩
                  case measure => simp [intOf]; omega
                · have hju' : ((j : Int) != u) = true := by rw [bne_iff_ne]; exact hju
                  have hv : v = false := by have := hk hju; rw [HKX.out] at this; injection this
                  subst hv
                  clear hju hk
                  go_wp2_with fail
                  refine region_fast [(0, true), (1, true), (2, true), (3, true), (4, true), (5, true), (6, true), (7, true), (8, true), (9, true), (10, true), (11, true), (12, true), (13, true), (14, true), (15, true), (16, true), (17, true), (18, true), (19, false), (20, false), (21, true), (22, true), (23, true)] [1, 5, 6, 7, 8, 16, 17, 18, 19, 20] 2032098 [(41538374868278621028243970633760768, 65536, 0, 0), (83076749736557242056487941267521536, 4096, 0, 0), (166153499473114484112975882535043072, 124615124604835863084731911901282304, 3, 3), (332306998946228968225951765070086144, 166153499473114484112975882535043072, 4, 7), (664613997892457936451903530140172288, 332306998946228968225951765070348288, 8, 15), (1329227995784915872903807060280344576, 332306998946228968225951765070088192, 8, 15), (2658455991569831745807614120560689152, 332306998946228968225951765070151680, 8, 15), (5316911983139663491615228241121378304, 4319990986300976586937372945911119872, 104, 111), (10633823966279326983230456482242756608, 5649218982085892459841180006191464448, 136, 239), (21267647932558653966460912964485513216, 11630744963118013887908311777453015040, 280, 511), (42535295865117307932921825928971026432, 21599954931504882934686864729555599360, 520, 1023), (85070591730234615865843651857942052864, 42535295865117307932921825928971026432, 1032, 2047), (170141183460469231731687303715884105728, 85070591730234615865843651857942315008, 2048, 4095), (340282366920938463463374607431768211456, 255211775190703847597530955573826158592, 6144, 8191), (680564733841876926926749214863536422912, 340282366920938463463374607431768342528, 8192, 16383), (1361129467683753853853498429727072845824, 1020847100762815390390123822295304634368, 24576, 32767), (2722258935367507707706996859454145691648, 340282366920938463463374607431768276992, 8192, 16383), (5444517870735015415413993718908291383296, 3062541302288446171170371466885913903104, 73728, 81919), (10889035741470030830827987437816582766592, 5784800237655953878877368326340059594752, 139264, 212991), (21778071482940061661655974875633165533184, 11229318108390969294291362045248350978048, 270336, 475135), (43556142965880123323311949751266331066368, 22118353849861000125119349483064933744640, 532480, 999423), (87112285931760246646623899502532662132736, 45257554800484815640628822788425172123648, 1089536, 2097151), (174224571863520493293247799005065324265472, 87537638890411419725953117761822372397056, 2107392, 4194303), (348449143727040986586495598010130648530944, 174309642455250727909113642656923266318336, 4196352, 8388607)] (fun W => Blk W kg 4 (bls kept).toArray) (by kernel_rfl) (by kernel_rfl) (by kernel_rfl) rfl (by kernel_rfl) (by kernel_rfl) HO8.out.row (fun hS => ?_)
                  repeat (first
                    | (refine plan_read (v := ?_) rfl (fun _ _ _ h => h) rfl hS ?_ ?_; rotate_left 1; (focus (intro w' hS'; have e0 := hbit _ hS'; go_simp; try rfl)); (simp only [Act.put, List.setIfInBounds_toArray]; dsimp only [List.set_cons_zero, List.set_cons_succ]))
                    | (refine plan_skip rfl (fun _ _ _ h => h) rfl hS ?_; (simp only [Act.put, List.setIfInBounds_toArray]; dsimp only [List.set_cons_zero, List.set_cons_succ])))
                  refine plan_pass (by rfl) (by rfl) (fun _ => hS) ?_; try (simp only [Act.put, List.setIfInBounds_toArray]; dsimp only [List.set_cons_zero, List.set_cons_succ])
                  refine plan_pass (by rfl) (by rfl) (fun _ => hS) ?_; try (simp only [Act.put, List.setIfInBounds_toArray]; dsimp only [List.set_cons_zero, List.set_cons_succ])
                  repeat (first
                    | (refine plan_read (v := ?_) rfl (fun _ _ _ h => h) rfl hS ?_ ?_; rotate_left 1; (focus (intro w' hS'; have e0 := hbit _ hS'; go_simp; try rfl)); (simp only [Act.put, List.setIfInBounds_toArray]; dsimp only [List.set_cons_zero, List.set_cons_succ]))
                    | (refine plan_skip rfl (fun _ _ _ h => h) rfl hS ?_; (simp only [Act.put, List.setIfInBounds_toArray]; dsimp only [List.set_cons_zero, List.set_cons_succ])))
                  refine plan_nil ?_
                  go_wp2_with fail
                  go_roundw
                  case rel => exact ⟨j + 1, by go_num, by omega, Lib.hid (HO8.out.below (Below.refl _ _).drew)⟩
                  case measure => simp [intOf]; omega
              · obtain ⟨A8, c8, rfl⟩ := own_shape ho
                have hs8 := Sees.of_own ho
                obtain ⟨X, hX⟩ : ∃ X, str (kof j) = X := ⟨_, rfl⟩
                have hcv : ∀ W, Sees W 1 A8 32 (u8s (kof j)) → (convert 37 9 (.slice A8 32 c8)).run Try.prog W = .ok (.string X) W := fun W h => by rw [← hX]; exact run_to_string Try.underlying37 Try.underlying5 Try.underlying9 c8 h
                have HCV := Lib.hid hcv
                have HX := Lib.hid hX
                have HS8 := Lib.hid hs8
                clear HR HG hcv hX hs8 ho hb8
                by_cases hju : (j : Int) = u
                · have hju' : ((j : Int) != u) = false := by rw [bne_eq_false_iff_eq]; exact hju
                  clear hju hk
                  go_wp2_with fail
                  refine region_fast [(0, true), (1, true), (2, true), (3, true), (4, true), (5, true), (6, true), (7, true), (8, true), (9, true), (10, true), (11, true), (12, true), (13, true), (14, true), (15, true), (16, true), (17, true), (18, true), (19, false), (20, false), (21, true), (22, true), (23, true)] [1, 5, 6, 7, 8, 16, 17, 18, 19, 20] 2032098 [(41538374868278621028243970633760768, 65536, 0, 0), (83076749736557242056487941267521536, 4096, 0, 0), (166153499473114484112975882535043072, 124615124604835863084731911901282304, 3, 3), (332306998946228968225951765070086144, 166153499473114484112975882535043072, 4, 7), (664613997892457936451903530140172288, 332306998946228968225951765070348288, 8, 15), (1329227995784915872903807060280344576, 332306998946228968225951765070088192, 8, 15), (2658455991569831745807614120560689152, 332306998946228968225951765070151680, 8, 15), (5316911983139663491615228241121378304, 4319990986300976586937372945911119872, 104, 111), (10633823966279326983230456482242756608, 5649218982085892459841180006191464448, 136, 239), (21267647932558653966460912964485513216, 11630744963118013887908311777453015040, 280, 511), (42535295865117307932921825928971026432, 21599954931504882934686864729555599360, 520, 1023), (85070591730234615865843651857942052864, 42535295865117307932921825928971026432, 1032, 2047), (170141183460469231731687303715884105728, 85070591730234615865843651857942315008, 2048, 4095), (340282366920938463463374607431768211456, 255211775190703847597530955573826158592, 6144, 8191), (680564733841876926926749214863536422912, 340282366920938463463374607431768342528, 8192, 16383), (1361129467683753853853498429727072845824, 1020847100762815390390123822295304634368, 24576, 32767), (2722258935367507707706996859454145691648, 340282366920938463463374607431768276992, 8192, 16383), (5444517870735015415413993718908291383296, 3062541302288446171170371466885913903104, 73728, 81919), (10889035741470030830827987437816582766592, 5784800237655953878877368326340059594752, 139264, 212991), (21778071482940061661655974875633165533184, 11229318108390969294291362045248350978048, 270336, 475135), (43556142965880123323311949751266331066368, 22118353849861000125119349483064933744640, 532480, 999423), (87112285931760246646623899502532662132736, 45257554800484815640628822788425172123648, 1089536, 2097151), (174224571863520493293247799005065324265472, 87537638890411419725953117761822372397056, 2107392, 4194303), (348449143727040986586495598010130648530944, 174309642455250727909113642656923266318336, 4196352, 8388607)] (fun W => Blk W kg 4 (bls kept).toArray ∧ Sees W 1 A8 32 (u8s (kof j))) (by kernel_rfl) (by kernel_rfl) (by kernel_rfl) rfl (by kernel_rfl) (by kernel_rfl) ⟨HO8.out.row, HS8.out⟩ (fun hS => ?_)
                  repeat (first
                    | (refine plan_read (v := ?_) rfl (fun _ _ _ h => h) rfl hS ?_ ?_; rotate_left 1; (focus (intro w' hS'; have e0 := hbit _ hS'.1; have e1 := HCV.out _ hS'.2; go_simp; try rfl)); (simp only [Act.put, List.setIfInBounds_toArray]; dsimp only [List.set_cons_zero, List.set_cons_succ]))
                    | (refine plan_skip rfl (fun _ _ _ h => h) rfl hS ?_; (simp only [Act.put, List.setIfInBounds_toArray]; dsimp only [List.set_cons_zero, List.set_cons_succ])))
                  rw [hu2.out]
                  refine plan_do (by rfl) (by rfl) (fun K hK => ?_)
                  go_simp
                  refine (HKY.out _).mono ?_
                  rintro e w9 ⟨⟨v9, rfl, ho9⟩, hb9⟩
                  obtain ⟨A9, c9, rfl⟩ := own_shape ho9
                  have hcv9 := run_to_string Try.underlying37 Try.underlying5 Try.underlying9 c9 (Sees.of_own ho9)
                  rw [show str (keyc (UInt8.ofNat (40 * j))) = X from HX.out] at hcv9
                  have HO9 := Lib.hid (HO8.out.below (below_of_drew hb9))
                  have HS9 := Lib.hid (HS8.out.below (below_of_drew hb9))
                  clear ho9 hb9 HO8 HS8
                  refine hK.out _ _ (fun _ => And.intro HO9.out.row HS9.out) (fun hS => ?_); clear hK K; replace hS := hS rfl; try (simp only [Act.put, List.setIfInBounds_toArray]; dsimp only [List.set_cons_zero, List.set_cons_succ])
                  refine plan_do (by rfl) (by rfl) (fun K hK => ?_)
                  go_simp
                  clear hcv9
                  refine hK.out _ _ (fun _ => And.intro HO9.out.row HS9.out) (fun hS => ?_); clear hK K; replace hS := hS rfl; try (simp only [Act.put, List.setIfInBounds_toArray]; dsimp only [List.set_cons_zero, List.set_cons_succ])
                  repeat (first
                    | (refine plan_read (v := ?_) rfl (fun _ _ _ h => h) rfl hS ?_ ?_; rotate_left 1; (focus (intro w' hS'; have e0 := hbit _ hS'.1; have e1 := HCV.out _ hS'.2; go_simp; try rfl)); (simp only [Act.put, List.setIfInBounds_toArray]; dsimp only [List.set_cons_zero, List.set_cons_succ]))
                    | (refine plan_skip rfl (fun _ _ _ h => h) rfl hS ?_; (simp only [Act.put, List.setIfInBounds_toArray]; dsimp only [List.set_cons_zero, List.set_cons_succ])))
                  refine plan_nil ?_
                  go_wp2_with fail
                  go_roundw
                  case rel => exact ⟨j + 1, by go_num, by omega, Lib.hid HO9.out⟩
                  case measure => simp [intOf]; omega
                · have hju' : ((j : Int) != u) = true := by rw [bne_iff_ne]; exact hju
                  have hv : v = true := by have := hk hju; rw [HKX.out] at this; injection this
                  subst hv
                  clear hju hk
                  go_wp2_with fail
                  refine region_fast [(0, true), (1, true), (2, true), (3, true), (4, true), (5, true), (6, true), (7, true), (8, true), (9, true), (10, true), (11, true), (12, true), (13, true), (14, true), (15, true), (16, true), (17, true), (18, true), (19, false), (20, false), (21, true), (22, true), (23, true)] [1, 5, 6, 7, 8, 16, 17, 18, 19, 20] 2032098 [(41538374868278621028243970633760768, 65536, 0, 0), (83076749736557242056487941267521536, 4096, 0, 0), (166153499473114484112975882535043072, 124615124604835863084731911901282304, 3, 3), (332306998946228968225951765070086144, 166153499473114484112975882535043072, 4, 7), (664613997892457936451903530140172288, 332306998946228968225951765070348288, 8, 15), (1329227995784915872903807060280344576, 332306998946228968225951765070088192, 8, 15), (2658455991569831745807614120560689152, 332306998946228968225951765070151680, 8, 15), (5316911983139663491615228241121378304, 4319990986300976586937372945911119872, 104, 111), (10633823966279326983230456482242756608, 5649218982085892459841180006191464448, 136, 239), (21267647932558653966460912964485513216, 11630744963118013887908311777453015040, 280, 511), (42535295865117307932921825928971026432, 21599954931504882934686864729555599360, 520, 1023), (85070591730234615865843651857942052864, 42535295865117307932921825928971026432, 1032, 2047), (170141183460469231731687303715884105728, 85070591730234615865843651857942315008, 2048, 4095), (340282366920938463463374607431768211456, 255211775190703847597530955573826158592, 6144, 8191), (680564733841876926926749214863536422912, 340282366920938463463374607431768342528, 8192, 16383), (1361129467683753853853498429727072845824, 1020847100762815390390123822295304634368, 24576, 32767), (2722258935367507707706996859454145691648, 340282366920938463463374607431768276992, 8192, 16383), (5444517870735015415413993718908291383296, 3062541302288446171170371466885913903104, 73728, 81919), (10889035741470030830827987437816582766592, 5784800237655953878877368326340059594752, 139264, 212991), (21778071482940061661655974875633165533184, 11229318108390969294291362045248350978048, 270336, 475135), (43556142965880123323311949751266331066368, 22118353849861000125119349483064933744640, 532480, 999423), (87112285931760246646623899502532662132736, 45257554800484815640628822788425172123648, 1089536, 2097151), (174224571863520493293247799005065324265472, 87537638890411419725953117761822372397056, 2107392, 4194303), (348449143727040986586495598010130648530944, 174309642455250727909113642656923266318336, 4196352, 8388607)] (fun W => Blk W kg 4 (bls kept).toArray ∧ Sees W 1 A8 32 (u8s (kof j))) (by kernel_rfl) (by kernel_rfl) (by kernel_rfl) rfl (by kernel_rfl) (by kernel_rfl) ⟨HO8.out.row, HS8.out⟩ (fun hS => ?_)
                  repeat (first
                    | (refine plan_read (v := ?_) rfl (fun _ _ _ h => h) rfl hS ?_ ?_; rotate_left 1; (focus (intro w' hS'; have e0 := hbit _ hS'.1; have e1 := HCV.out _ hS'.2; go_simp; try rfl)); (simp only [Act.put, List.setIfInBounds_toArray]; dsimp only [List.set_cons_zero, List.set_cons_succ]))
                    | (refine plan_skip rfl (fun _ _ _ h => h) rfl hS ?_; (simp only [Act.put, List.setIfInBounds_toArray]; dsimp only [List.set_cons_zero, List.set_cons_succ])))
                  rw [hu2.out]
                  refine plan_do (by rfl) (by rfl) (fun K hK => ?_)
                  go_simp
                  refine (HKY.out _).mono ?_
                  rintro e w9 ⟨⟨v9, rfl, ho9⟩, hb9⟩
                  obtain ⟨A9, c9, rfl⟩ := own_shape ho9
                  have hcv9 := run_to_string Try.underlying37 Try.underlying5 Try.underlying9 c9 (Sees.of_own ho9)
                  rw [show str (keyc (UInt8.ofNat (40 * j))) = X from HX.out] at hcv9
                  have HO9 := Lib.hid (HO8.out.below (below_of_drew hb9))
                  have HS9 := Lib.hid (HS8.out.below (below_of_drew hb9))
                  clear ho9 hb9 HO8 HS8
                  refine hK.out _ _ (fun _ => And.intro HO9.out.row HS9.out) (fun hS => ?_); clear hK K; replace hS := hS rfl; try (simp only [Act.put, List.setIfInBounds_toArray]; dsimp only [List.set_cons_zero, List.set_cons_succ])
                  refine plan_do (by rfl) (by rfl) (fun K hK => ?_)
                  go_simp
                  clear hcv9
                  refine hK.out _ _ (fun _ => And.intro HO9.out.row HS9.out) (fun hS => ?_); clear hK K; replace hS := hS rfl; try (simp only [Act.put, List.setIfInBounds_toArray]; dsimp only [List.set_cons_zero, List.set_cons_succ])
                  repeat (first
                    | (refine plan_read (v := ?_) rfl (fun _ _ _ h => h) rfl hS ?_ ?_; rotate_left 1; (focus (intro w' hS'; have e0 := hbit _ hS'.1; have e1 := HCV.out _ hS'.2; go_simp; try rfl)); (simp only [Act.put, List.setIfInBounds_toArray]; dsimp only [List.set_cons_zero, List.set_cons_succ]))
                    | (refine plan_skip rfl (fun _ _ _ h => h) rfl hS ?_; (simp only [Act.put, List.setIfInBounds_toArray]; dsimp only [List.set_cons_zero, List.set_cons_succ])))
                  refine plan_nil ?_
                  go_wp2_with fail
                  go_roundw
                  case rel => exact ⟨j + 1, by go_num, by omega, Lib.hid HO9.out⟩
                  case measure => simp [intOf]; omega
            · obtain rfl : j = 8 := by omega
              go_wp2_with fail
              go_ret
              exact ⟨rfl, hr.out.bel⟩
  · have hi : ((20 : Int) < (keep.length : Int)) := by omega
    go_enter Try.func3, Try.ntmps3
    go_wp2_with fail
    refine (HAW.out _).mono ?_
    rintro e w1 ⟨rfl, hb1⟩
    have HX := Lib.hid (HSM.out w1 (HS.out.below hb1))
    have HB1 := Lib.hid hb1; clear hb1
    go_wp2_with fail
    refine HX.out.mono ?_
    rintro e w2 ⟨hr, hb2⟩
    have HB2 := Lib.hid (HB1.out.trans (hb2.mono HB1.out.size)); clear hb2 HX HB1
    rcases hr with rfl | ⟨rfl, -⟩
    all_goals
      go_wp2_with fail
      refine (HAW.out _).mono ?_
      rintro e w3 ⟨rfl, hb3⟩
      have HB3 := Lib.hid (HB2.out.trans (hb3.mono HB2.out.size)); clear hb3
      go_wp2_with fail
      go_ret
      exact ⟨rfl, HB3.out⟩

theorem crashes_walk (a0 : Option Addr) (ys0 : List Ac) (len0 cap0 : Nat) (a1 : Int) (a2 : Option Addr) (len2 cap2 : Nat) (z2 : List Int) (W : World) (m0 : ys0.length = len0) (w0 : Sees W 5 a0 ys0.length (acs ys0) ∧ (∀ y ∈ ys0, AcOk y) ∧ ys0.length ≤ maxLen) (w1 : (Lit.int .u8 a1).wf = true) (w2 : IsRow .i64 W a2 len2 cap2 z2) :
    Calls Try.prog 3 #[.slice a0 len0 cap0, .int .u8 a1, .slice a2 len2 cap2] W fun e w' => e = .returned (.bool true) ∧ Below W.heap.size W w' := by
  subst m0
  obtain ⟨h2, h1, -, -, -⟩ := w2.sees
  have h := crashes_any ys0 a0 cap0 a1 a2 (z2.take len2) cap2 W w0.1 w0.2.1 w0.2.2 (wf_u8 w1) (by rw [h1]; exact h2)
  rw [h1] at h
  exact h
end Go.Proofs.Ytnlghpopjckhiaa
