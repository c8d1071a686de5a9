/-
  The law SegmentBack, walked.
-/
import Derived.Test.YtjlkgkfheaihpaaDoorSeg6
import Derived.Test.YtjlkgkfheaihpaaDoorSeg7
import Derived.Test.YtjlkgkfheaihpaaDoorApZ
import Derived.Test.YtjlkgkfheaihpaaDoorRowsArg
namespace Go.Proofs.YtjlkgkfheaihpaaDoor
set_option maxRecDepth 4000
open Go.RowKit

theorem back_long (A : Option Addr) (k c : Nat) (sec : Int) (fin : Bool) (w : World) (hT : Tab w) (hk : 20 < k) :
    Calls Tryd.prog 5 #[.slice A k c, .int .u8 sec, .bool fin] w fun e w' => e = .returned (.bool true) ∧ Below w.heap.size w w' := by
  have hki : (20 : Int) < (k : Int) := by omega
  have HAW := Lib.hid (back_awake w hT)
  go_enter Tryd.func5, Tryd.ntmps5
  go_wp2_with fail
  refine HAW.out.mono ?_
  rintro e w1 ⟨rfl, hb1⟩
  have HAW1 := Lib.hid (back_awake w1 (hT.below hb1))
  have HB1 := Lib.hid hb1
  clear hb1
  go_wp2_with fail
  refine HAW1.out.mono ?_
  rintro e w2 ⟨rfl, hb2⟩
  have HB2 := Lib.hid (HB1.out.trans (hb2.mono HB1.out.size))
  go_wp2_with fail
  go_ret
  exact ⟨rfl, HB2.out⟩

theorem back_alloc (w : World) (T : TypeId) (Z CS : Array Value) : Blk ((w.alloc (.cells Z T)).setRow w.heap.size CS) w.heap.size T CS ∧ Below w.heap.size w ((w.alloc (.cells Z T)).setRow w.heap.size CS) :=
  ⟨(Blk.new w T Z).setRow CS, below_setRow ((Below.refl _ _).alloc (Nat.le_refl _) _) (Nat.le_refl _) _⟩
theorem rws_of_own {w : World} {base m c : Nat} {e : TypeId} {A : Option Addr} {ps : List Pt} (h : w.ownsRow base e 1 (.slice A m c) m (ps.map Pt.val)) (hl : ps.length = m) : Rws w A ps := fun h0 => by
  obtain ⟨g, cap, cur, e, -⟩ := own_open h (by omega)
  injection e with e1 _ _
  subst e1
  exact ⟨g, 0, rfl, fun j p hj => by rw [Nat.zero_add]; exact own_cell h (by rw [List.getElem?_map, hj]; rfl)⟩

def z32 : List UInt8 := List.replicate 32 0
theorem z32_length : z32.length = 32 := List.length_replicate
/-- What the law has laid: the octets, the chain, the texts. -/
structure BackAt (w wr : World) (S : Nat) (ts : List (List UInt8)) (j : Nat) (b ch ld : Value) : Prop where
  octets : wr.ownsRow w.heap.size 5 1 b (128 + (frs z32 (ts.take j)).length) (u8s (hd 7 3 z32 ++ frs z32 (ts.take j)))
  chain : wr.ownsRow w.heap.size 5 1 ch 32 (u8s (chn z32 (ts.take j)))
  laid : wr.ownsRow w.heap.size 9 1 ld j (strs (ts.take j))
  apart : ∀ g, b.ownBlock = some g → ch.ownBlock ≠ some g
  each : ∀ t ∈ ts.take j, 1 ≤ t.length ∧ t.length ≤ 65535
  fits : 128 + (frs z32 (ts.take j)).length + 48 ≤ S
  below : Below w.heap.size w wr

set_option maxHeartbeats 8000000 in
theorem back_any (ps : List Pt) (A : Option Addr) (k c : Nat) (sec : Int) (fin : Bool) (w : World) (hk : ps.length = k) (hI : InRows w A ps c) (hT : Tab w) (hsec : 0 ≤ sec ∧ sec ≤ 255) (h20 : k ≤ 20) :
    Calls Tryd.prog 5 #[.slice A k c, .int .u8 sec, .bool fin] w fun e w' => e = .returned (.bool true) ∧ Below w.heap.size w w' := by
  have hki : ¬ (20 : Int) < (k : Int) := by omega
  have HAW := Lib.hid (back_awake w hT)
  have HT := Lib.hid hT; have HI := Lib.hid hI; have HK := Lib.hid hk
  obtain ⟨r, hr⟩ : ∃ r : Nat, r = (sec.tmod 14).toNat := ⟨_, rfl⟩
  have hrm : sec.tmod 14 = (r : Int) := by rw [hr, Int.tmod_eq_emod_of_nonneg hsec.1]; omega
  have hr14 : r < 14 := by rw [hr, Int.tmod_eq_emod_of_nonneg hsec.1]; omega
  obtain ⟨S, hSe⟩ : ∃ S, S = 128 * (2 + r) := ⟨_, rfl⟩
  have hS1 : 256 ≤ S ∧ S ≤ 1920 := by omega
  have hS2 : S % 128 = 0 := by omega
  have hS3 : (128 : Int) * (2 + (r : Int)) = (S : Int) := by omega
  have hw0 : IntKind.i64.wrap sec = sec := IntWalk.i64_in _ (by omega)
  have hw1 : IntKind.i64.wrap (r : Int) = (r : Int) := IntWalk.i64_in _ (by omega)
  have hw2 : IntKind.i64.wrap (2 + (r : Int)) = 2 + (r : Int) := IntWalk.i64_in _ (by omega)
  have hw3 : IntKind.i64.wrap (S : Int) = (S : Int) := IntWalk.i64_in _ (by omega)
  have hmk := make_bytes 32 (by omega)
  obtain ⟨Z, hZ⟩ : ∃ z : Array Value, z = (u8s z32).toArray := ⟨_, rfl⟩
  rw [show (u8s (List.replicate 32 0)).toArray = Z from hZ.symm] at hmk
  replace hmk : ∀ W : World, (Instr.makeSlice 22 (.int .i64 32) (.int .i64 32)).run Tryd.prog W = .ok (.slice (some ⟨W.heap.size, 0, none⟩) 32 32) (W.alloc (.cells Z 5)) := hmk
  have HZ := Lib.hid hZ
  have HSZ := Lib.hid (show (Tryd.prog.info? 36).map (·.size) = some 4 by kernel_rfl)
  clear hT hI hk hr hSe hZ
  go_enter Tryd.func5, Tryd.ntmps5
  go_wp2_with fail
  refine HAW.out.mono ?_
  rintro e w1 ⟨rfl, hb1⟩
  have hal1 : Below w1.heap.size w1 (w1.alloc (.cells Z 5)) := (Below.refl _ _).alloc (Nat.le_refl _) _
  have hb11 := hb1.trans (hal1.mono hb1.size)
  have hS1s : Sees (w1.alloc (.cells Z 5)) 1 (some ⟨w1.heap.size, 0, none⟩) 32 (u8s z32) := by rw [HZ.out]; exact sees_new w1 5 (u8s z32) 1 32 (by rw [length_u8s]; rfl)
  have HH := Lib.hid (head_ok 7 3 z32 (some ⟨w1.heap.size, 0, none⟩) 32 _ hS1s z32_length (by omega) (by omega))
  have HB11 := Lib.hid hb11
  clear hb1 hal1 hb11 hS1s HAW
  go_wp2_with (simp only [hmk])
  refine HH.out.mono ?_
  rintro e w2 ⟨v2, rfl, hown2, hb2⟩
  obtain ⟨A2, c2, rfl⟩ := own_shape hown2
  have hs11 := HB11.out.size
  have hb02 := HB11.out.trans (hb2.mono hs11)
  have hal2 : Below w2.heap.size w2 (w2.alloc (.cells Z 5)) := (Below.refl _ _).alloc (Nat.le_refl _) _
  have HBA := Lib.hid (show BackAt w (w2.alloc (.cells Z 5)) S (ps.map (·.l)) 0 (.slice A2 128 c2) (.slice (some ⟨w2.heap.size, 0, none⟩) 32 32) (.slice none 0 0) from
    { octets := by simpa [frs] using own_base (own_below hown2 hal2) hs11
      chain := own_mk hb02.size (Blk.newAt rfl HZ.out) (Nat.le_refl _) (by unfold maxLen; omega) (by rw [List.size_toArray, length_u8s]; rfl) (by rw [List.toList_toArray]; exact List.take_of_length_le (by rw [length_u8s]; exact Nat.le_refl _))
      laid := World.ownsRow_nil _ _ _ _
      apart := fun g hg h => by
        have h1 := (hown2.lt g hg).2
        have h2 : w2.heap.size = g := by simpa [Value.ownBlock] using h
        omega
      each := fun t ht => by simp at ht
      fits := by simp [frs]; omega
      below := hb02.trans (hal2.mono hb02.size) })
  clear hown2 hb2 hs11 hb02 hal2 HH HB11
  go_wp2_with (simp only [hmk])
  go_loopw [8, 9, 10, 11] (fun b ch ld i wr => ∃ j : Nat, j ≤ k ∧ i = .int .i64 j ∧ BackAt w wr S (ps.map (·.l)) j b ch ld) (fun _ _ _ i _ => k - (intOf i).toNat)
  case atStart => exact ⟨0, by omega, rfl, HBA.out⟩
  case round =>
    obtain ⟨j, hj, rfl, hB⟩ := hrel
    obtain ⟨Ab, cb, eb⟩ := own_shape hB.octets
    obtain ⟨Ac, cc, ec⟩ := own_shape hB.chain
    obtain ⟨Al, cl, el⟩ := own_shape hB.laid
    obtain ⟨L, hL⟩ : ∃ L, L = (frs z32 ((ps.map (·.l)).take j)).length := ⟨_, rfl⟩
    rw [← hL] at eb
    subst eb ec el
    have HB := Lib.hid hB; have HL := Lib.hid hL
    have hfit := hB.fits
    rw [← hL] at hfit
    clear hB hL
    by_cases hlt : j < k
    · have hlti : (j : Int) < (k : Int) := by omega
      have hp := List.getElem?_eq_getElem (l := ps) (i := j) (by rw [HK.out]; exact hlt)
      obtain ⟨⟨B, n, c', l⟩, hpe⟩ : ∃ p, p = ps[j]'(by rw [HK.out]; exact hlt) := ⟨_, rfl⟩
      rw [← hpe] at hp
      obtain ⟨g, off, rfl, hcs⟩ := HI.out.row (by rw [HK.out]; omega)
      have hcw := hcs j _ hp
      have hc0 := (HB.out.below.cell (World.block_lt_of_cell? w _ hcw)).trans hcw
      simp only [Pt.val] at hc0 hcw
      obtain ⟨hS, hll⟩ := HI.out.pts _ (List.mem_of_getElem? hp)
      obtain ⟨hcap1, hcap2⟩ := HI.out.caps _ (List.mem_of_getElem? hp)
      simp only at hS hll hcap1 hcap2
      have HF := Lib.hid (fits_any S (128 + L) n (by omega) (by omega) (by omega) wr)
      have HP := Lib.hid hp; have HS := Lib.hid hS; have HCW := Lib.hid hcw
      clear hpe hp hcs hS hcw
      by_cases hff : 1 ≤ n ∧ n ≤ 65535 ∧ 128 + L + n + 88 ≤ S
      · rw [decide_eq_true hff] at HF
        obtain ⟨hf1, hf2, hf3⟩ := hff
        have hHF := frame_ok (chn z32 ((ps.map (·.l)).take j)) l Ac B cc n c' wr (Sees.of_own HB.out.chain) (HS.out.below HB.out.below) (chn_length _ _ z32_length) hll hf1 hf2 (HT.out.below HB.out.below)
        have HFR := Lib.hid hHF
        clear hHF
        go_wp2_with fail
        refine HF.out.mono ?_
        rintro e w' ⟨rfl, rfl⟩
        go_wp2_with fail
        refine HFR.out.mono ?_
        rintro e w6 ⟨vf, vn, rfl, hownf, hownn, hb6⟩
        obtain ⟨Af, cf, rfl⟩ := own_shape hownf
        obtain ⟨An, cn, rfl⟩ := own_shape hownn
        have hBO := HB.out.octets
        rw [← HL.out] at hBO
        have hBb := own_below hBO hb6
        have hwrs := HB.out.below.size
        have hbel6 := HB.out.below.trans (hb6.mono hwrs)
        obtain ⟨v7, w7, hrun7, hown7, hgr7, hat7, -⟩ := run_app (P := Tryd.prog) (w := w6) w.heap.size 22 22 5 (.int .u8 0) 1 1 Tryd.underlying22 info_byte rfl (by decide) (.slice Ab (128 + L) cb) (128 + L) _ hBb Af (n + 40) cf (u8s (frm (chn z32 ((ps.map (·.l)).take j)) l)) (Sees.of_own hownf) (u8s_one _) (by unfold maxLen; omega) (by omega) hbel6.size
        have hbel7 : Below w.heap.size w w7 := hbel6.grown hgr7 hbel6.size (fun k hk => (hBb.lt k hk).1)
        have hf7 := Fr.of_grown hgr7 (F := fun k => (Value.slice Ab (128 + L) cb).ownBlock = some k) (fun k h => h)
        have hcha7 := own_fr hownn hf7 (fun g hg h => by have h1 := (hownn.lt g hg).1; have h2 := (hBO.lt g h).2; omega)
        have hlai6 := own_below HB.out.laid hb6
        have hlai7 := own_fr hlai6 hf7 (own_ne2 hlai6 hBb (by decide))
        obtain ⟨A7, c7, rfl⟩ := own_shape hown7
        obtain ⟨X, hX⟩ : ∃ X, X = str l := ⟨_, rfl⟩
        have hcv7 := run_to_string (P := Tryd.prog) (w := w7) Tryd.underlying22 Tryd.underlying5 Tryd.underlying9 c' (HS.out.below hbel7)
        rw [← hX] at hcv7
        have hal7 : Below w7.heap.size w7 (w7.alloc (.cells #[.string X] 9)) := (Below.refl _ _).alloc (Nat.le_refl _) _
        have hlai7' := own_below hlai7 hal7
        obtain ⟨v8, w8, hrun8, hown8, hgr8, -, -⟩ := run_app (P := Tryd.prog) (w := w7.alloc (.cells #[.string X] 9)) w.heap.size 39 39 9 (.string ⟨#[]⟩) 1 16 Tryd.underlying39 info_string rfl (by decide) (.slice Al j cl) j _ hlai7' (some ⟨w7.heap.size, 0, none⟩) 1 1 [.string X] (sees_new w7 _ [.string X] 1 1 rfl) (by simp [Value.oneCell']) (by unfold maxLen; omega) (by omega) (Nat.le_trans hbel7.size hal7.size)
        have hf8 := Fr.of_grown hgr8 (F := fun k => (Value.slice Al j cl).ownBlock = some k) (fun k h => h)
        have hown7' := own_below hown7 hal7
        have hcha7' := own_below hcha7 hal7
        have hbel8 := (hbel7.trans (hal7.mono hbel7.size)).grown hgr8 (Nat.le_trans hbel7.size hal7.size) (fun k hk => (hlai7'.lt k hk).1)
        have hp1 : (ps.map (·.l))[j]? = some l := by rw [List.getElem?_map, HP.out]; rfl
        have htk : (ps.map (·.l)).take (j + 1) = (ps.map (·.l)).take j ++ [l] := by rw [List.take_add_one, hp1]; rfl
        have hfl : (frs z32 ((ps.map (·.l)).take (j + 1))).length = L + (n + 40) := by rw [htk, frs_snoc, List.length_append, frm_length, ← HL.out, hll]
        obtain ⟨A8, c8, rfl⟩ := own_shape hown8
        have HNB := Lib.hid (show BackAt w w8 S (ps.map (·.l)) (j + 1) (.slice A7 (128 + L + (n + 40)) c7) (.slice An 32 cn) (.slice A8 (j + 1) c8) from
          { octets := by
              have e : 128 + (L + (n + 40)) = 128 + L + (n + 40) := by omega
              rw [hfl, htk, frs_snoc, ← List.append_assoc, u8s_append (hd 7 3 z32 ++ frs z32 ((ps.map (·.l)).take j)), e]
              exact own_fr hown7' hf8 (own_ne2 hown7' hlai7' (by decide))
            chain := by
              rw [htk, chn_snoc]
              exact own_base (own_fr hcha7' hf8 (own_ne2 hcha7' hlai7' (by decide))) hwrs
            laid := by
              rw [htk]
              have e : strs ((ps.map (·.l)).take j ++ [l]) = strs ((ps.map (·.l)).take j) ++ [.string X] := by rw [hX]; simp [strs]
              rw [e]
              exact hown8
            apart := fun g hg h => by
              have h1 := hownn.lt g h
              rcases hat7 with e | e
              · have h2 := (hBO.lt g (by rw [← e]; exact hg)).2
                omega
              · rw [e] at hg
                injection hg with hg
                omega
            each := fun t ht => by
              rw [htk] at ht
              rcases List.mem_append.1 ht with ht | ht
              · exact HB.out.each t ht
              · obtain rfl := List.mem_singleton.1 ht
                omega
            fits := by rw [hfl]; omega
            below := hbel8 })
        have HR7 := Lib.hid hrun7; have HR8 := Lib.hid hrun8
        have hc7 : w7.cell? ⟨g, off + j, none⟩ = some (.slice B n c') := (hbel7.cell (World.block_lt_of_cell? w _ HCW.out)).trans HCW.out
        clear hownf hownn hb6 hBO hBb hwrs hbel6 hrun7 hown7 hgr7 hat7 hbel7 hf7 hcha7 hlai6 hlai7 hal7 hlai7' hrun8 hown8 hgr8 hf8 hown7' hcha7' hbel8 hp1 htk hfl hX hc0 HB HF HFR
        go_wp2_with first
          | (at_builtin; have h7 := HR7.out; refine Lib.wpList_append_run _ rfl _ _ _ _ rfl _ _ rfl rfl _ _ h7 ?_; clear HR7 h7)
          | (at_builtin; have h8 := HR8.out; refine Lib.wpList_append_run _ rfl _ _ _ _ rfl _ _ rfl rfl _ _ h8 ?_; clear HR8 h8)
        go_roundw
        case rel => exact ⟨j + 1, by omega, by go_num, HNB.out⟩
        case measure => simp [intOf]; omega
      · rw [decide_eq_false hff] at HF
        go_wp2_with fail
        refine HF.out.mono ?_
        rintro e w' ⟨rfl, rfl⟩
        clear HF hff HP HS HCW hc0
        cases fin with
        | false =>
          have HBO := HB.out.octets
          rw [← HL.out] at HBO
          have hbel := HB.out.below
          have hcha := HB.out.chain
          have hlai := HB.out.laid
          have hapa := HB.out.apart
          obtain ⟨z, hz⟩ : ∃ z, S - (128 + L) = z := ⟨_, rfl⟩
          have hzS : 128 + L + z = S := by omega
          have hzi : (S : Int) - (128 + (L : Int)) = (z : Int) := by omega
          have hwz : IntKind.i64.wrap (z : Int) = (z : Int) := IntWalk.i64_in _ (by omega)
          have hgt : ¬ (S : Int) < 128 + (L : Int) := by omega
          obtain ⟨U, hU⟩ : ∃ U, 128 + L = U := ⟨_, rfl⟩
          obtain ⟨vz, wz, hrun, hownz, hgrz, -⟩ := run_app_zeros (P := Tryd.prog) (w := wr) w.heap.size 22 3 22 5 Tryd.underlying22 Tryd.underlying3 info_byte (.slice Ab (128 + L) cb) (128 + L) _ HBO (by omega) z (by omega) hbel.size
          have hbw : Below w.heap.size w wz := hbel.grown hgrz hbel.size (fun k hk => (HBO.lt k hk).1)
          have hfz := Fr.of_grown hgrz (F := fun k => ((.slice Ab (128 + L) cb) : Value).ownBlock = some k) (fun k h => h)
          have hch := own_fr hcha hfz (fun g hg h => hapa g h hg)
          have hld := own_fr hlai hfz (own_ne2 hlai HBO (by decide))
          rw [hzS] at hownz
          have hbb : u8s (hd 7 3 z32 ++ (frs z32 ((ps.map (·.l)).take j))) ++ List.replicate z (Value.int .u8 0) = u8s (hd 7 3 z32 ++ (frs z32 ((ps.map (·.l)).take j) ++ tl (3 + j) (chn z32 ((ps.map (·.l)).take j)) false z)) := by
            have e : List.replicate z (Value.int .u8 0) = u8s (List.replicate z 0) := by simp [u8s]
            rw [e, ← u8s_append]
            congr 1 <;> simp [tl, List.append_assoc]
          rw [hbb] at hownz
          obtain ⟨bb, hbbe⟩ : ∃ bb, bb = hd 7 3 z32 ++ (frs z32 ((ps.map (·.l)).take j) ++ tl (3 + j) (chn z32 ((ps.map (·.l)).take j)) false z) := ⟨_, rfl⟩
          rw [← hbbe] at hownz
          have hbl : bb.length = S := by have := hownz.1; rw [length_u8s] at this; omega
          have hpz := pz_frames bb 3 false z (fun h => by omega) ((ps.map (·.l)).take j) (pz0 z32) S rfl z32_length HB.out.each (by rw [List.length_take, List.length_map, HK.out]; omega) (by
            show bb.drop 128 = _
            rw [hbbe, ← hd_len 7 3 z32 z32_length, List.drop_left]
            have e : ((ps.map (·.l)).take j).length = j := by rw [List.length_take, List.length_map, HK.out]; omega
            show _ = frs z32 _ ++ tl (3 + 0 + ((ps.map (·.l)).take j).length) (chn z32 _) false z
            rw [e])
          obtain ⟨gz, cz, curz, rfl, hgz, -, hcz, hczm, -⟩ := own_open hownz (by omega)
          have halz : Below wz.heap.size wz (wz.alloc (.cells Z 5)) := (Below.refl _ _).alloc (Nat.le_refl _) _
          have hbz := hbw.trans (halz.mono hbw.size)
          have hPA := parse_any bb z32 gz 0 S cz 7 3 (some ⟨wz.heap.size, 0, none⟩) 32 (wz.alloc (.cells Z 5)) (Sees.of_own (own_below hownz halz)) hbl hcz (by omega) hS2 hS1.1 (by rw [HZ.out]; exact sees_new wz 5 (u8s z32) 1 32 (by rw [length_u8s]; rfl)) z32_length (by omega) (by omega) (by rw [hbbe]; exact pref_append _ _) (HT.out.below hbz)
          have hjl : ((ps.map (·.l)).take j).length = j := by rw [List.length_take, List.length_map, HK.out]; omega
          have hze : (⟨(pz0 z32).texts ++ (ps.map (·.l)).take j, chn (pz0 z32).chain ((ps.map (·.l)).take j), false, (pz0 z32).used + (frs (pz0 z32).chain ((ps.map (·.l)).take j)).length + if false = true then 48 else 0⟩ : Pz) = ⟨(ps.map (·.l)).take j, chn z32 ((ps.map (·.l)).take j), false, U⟩ := by rw [← hU, HL.out]; rfl
          rw [hpz, hze] at hPA
          have HPA := Lib.hid hPA
          have HRZ := Lib.hid hrun
          have HCH := Lib.hid (own_below hch halz); have HLD := Lib.hid (own_below hld halz); have HBZ := Lib.hid hbz
          have HUU := Lib.hid hU
          clear hU hPA hpz hze hrun hownz hgrz hfz hch hld hbw hbz halz hbbe hbl hgz hczm HBO hbel hcha hlai hapa
          have HBS := Lib.hid HB.out.below
          clear HB HL
          generalize hts : (ps.map (·.l)).take j = ts at *
          clear hts
          go_wp2_with first
            | (at_builtin; have hbr0 := HRB.out; refine Lib.wpList_append_run _ rfl _ _ _ _ rfl _ _ rfl rfl _ _ hbr0 ?_; clear HRB hbr0)
            | (at_builtin; have hzr := HRZ.out; refine Lib.wpList_append_run _ rfl _ _ _ _ rfl _ _ rfl rfl _ _ hzr ?_; clear HRZ hzr)
            | (simp only [hmk])
          refine HPA.out.mono ?_
          rintro e w4 ⟨v, rfl, ⟨At, ct, Cc, ccc, rfl, hrows⟩, hb4⟩
          simp only [hjl] at hrows
          have hal4 := back_alloc w4 36 #[.slice none 0 0, .slice none 0 0, .bool false, .int .i64 0] #[.slice At j ct, .slice Cc 32 ccc, .bool false, .int .i64 U]
          have hbz4 := hb4.trans (hal4.2.mono hb4.size)
          have HK4 := Lib.hid (Blk.new w4 36 #[.slice none 0 0, .slice none 0 0, .bool false, .int .i64 0])
          obtain ⟨vs, hv1, hv2, hv3, hv4, hv5⟩ := hrows
          have hv2' := own_below hv2 hal4.2
          have HTX := Lib.hid (texts_any vs At j ct _ hv1 (by omega) (rws_of_own hv2' hv1) (fun p hp => ⟨Sees.of_own (own_below (hv4 p hp).2 hal4.2), (hv4 p hp).1⟩))
          rw [hv3] at HTX
          have HPC := Lib.hid (own_below hv5 hal4.2)
          have HCH4 := Lib.hid (own_below HCH.out hbz4); have HLD4 := Lib.hid (own_below HLD.out hbz4)
          have HB4 := Lib.hid (HBZ.out.trans (hbz4.mono HBZ.out.size))
          have HBK := Lib.hid hal4.1
          clear hal4 hbz4 hv1 hv2 hv3 hv4 hv5 hv2' hb4 HPA HCH HLD HBZ
          go_wp2_with (have hk4 := HK4.out; refine wpList_store_row rfl 36 (.tmp 15) (.tmp 104) rfl w4.heap.size _ rfl rfl 36 _ hk4 (by exact HSZ.out) (Eq.refl 4) (by simp [Value.oneCell']) ?_; generalize (World.setRow _ _ _) = W4 at *; clear HK4 hk4; have c0 : W4.cell? ⟨w4.heap.size, 0, none⟩ = some (.slice At j ct) := HBK.out.cell 0)
          refine HTX.out.mono ?_
          rintro e w5 ⟨v5, rfl, hown5, hb5⟩
          obtain ⟨A5, c5, rfl⟩ := own_shape hown5
          have HSM := Lib.hid (same_eq ts A5 Al j c5 cl w5 hjl (by omega) (Sees.of_own hown5) (Sees.of_own (own_below HLD4.out hb5)))
          have HB5 := Lib.hid (And.intro (HB4.out.trans (hb5.mono HB4.out.size)) hb5)
          clear hown5 hb5 HTX
          go_wp2_with fail
          refine HSM.out.mono ?_
          rintro e w6 ⟨rfl, hb6⟩
          have hb46 := HB5.out.2.trans (hb6.mono HB5.out.2.size)
          have hcv1 := run_to_string (P := Tryd.prog) (w := w6) Tryd.underlying22 Tryd.underlying5 Tryd.underlying9 ccc (Sees.of_own (own_below HPC.out hb46))
          have hcv2 := run_to_string (P := Tryd.prog) (w := w6) Tryd.underlying22 Tryd.underlying5 Tryd.underlying9 cc (Sees.of_own (own_below HCH4.out hb46))
          have hbk6 := HBK.out.below hb46 HBK.out.lt
          have k1 : w6.cell? ⟨w4.heap.size, 1, none⟩ = some (.slice Cc 32 ccc) := hbk6.cell 1
          have k2 : w6.cell? ⟨w4.heap.size, 2, none⟩ = some (.bool false) := hbk6.cell 2
          have k3 : w6.cell? ⟨w4.heap.size, 3, none⟩ = some (.int .i64 U) := hbk6.cell 3
          have hUi : (U : Int) = 128 + (L : Int) := by have := HUU.out; omega
          rw [hUi] at k3
          have HB6 := Lib.hid (HB5.out.1.trans (hb6.mono HB5.out.1.size))
          clear hb6 hb46 hbk6 hUi HSM HB5 c0
          go_wp2_with fail
          go_ret
          exact ⟨rfl, HB6.out⟩
        | true =>
          have HBO0 := HB.out.octets
          rw [← HL.out] at HBO0
          have hchl := chn_length ((ps.map (·.l)).take j) z32 z32_length
          have hFT := foot_ok (3 + j) (chn z32 ((ps.map (·.l)).take j)) Ac cc wr (Sees.of_own HB.out.chain) hchl (by omega)
          rw [Int.natCast_add] at hFT
          have HFT := Lib.hid hFT
          have hwj : IntKind.i64.wrap (3 + (j : Int)) = 3 + (j : Int) := IntWalk.i64_in _ (by omega)
          have hwl : IntKind.i64.wrap (128 + (L : Int) + 48) = 128 + (L : Int) + 48 := IntWalk.i64_in _ (by omega)
          have HBO1 := Lib.hid HBO0
          clear hFT HBO0
          go_wp2_with fail
          refine HFT.out.mono ?_
          rintro e wf ⟨vf, rfl, hownf, hbf⟩
          obtain ⟨Af, cf, rfl⟩ := own_shape hownf
          have hwrs := HB.out.below.size
          have hbelf := HB.out.below.trans (hbf.mono hwrs)
          have hBOf := own_below HBO1.out hbf
          obtain ⟨vb, wb, hrunb, HBO, hgrb, hatb, -⟩ := run_app (P := Tryd.prog) (w := wf) w.heap.size 22 22 5 (.int .u8 0) 1 1 Tryd.underlying22 info_byte rfl (by decide) (.slice Ab (128 + L) cb) (128 + L) _ hBOf Af 48 cf (u8s (ft (3 + j) (chn z32 ((ps.map (·.l)).take j)))) (Sees.of_own hownf) (u8s_one _) (by unfold maxLen; omega) (by omega) hbelf.size
          rw [← u8s_append, List.append_assoc] at HBO
          have hbel : Below w.heap.size w wb := hbelf.grown hgrb hbelf.size (fun k hk => (hBOf.lt k hk).1)
          have hfb := Fr.of_grown hgrb (F := fun k => (Value.slice Ab (128 + L) cb).ownBlock = some k) (fun k h => h)
          have hcha := own_fr (own_below HB.out.chain hbf) hfb (fun g hg h => HB.out.apart g h hg)
          have hlai := own_fr (own_below HB.out.laid hbf) hfb (own_ne2 (own_below HB.out.laid hbf) hBOf (by decide))
          have hapa : ∀ g, vb.ownBlock = some g → (Value.slice Ac 32 cc).ownBlock ≠ some g := fun g hg h => by
            rcases hatb with e | e
            · exact HB.out.apart g (by rw [← e]; exact hg) h
            · have h1 := (HB.out.chain.lt g h).2
              rw [e] at hg
              injection hg with hg
              have := hbf.size
              omega
          obtain ⟨Ab2, cb2, rfl⟩ := own_shape HBO
          have HRB := Lib.hid hrunb
          clear hrunb hgrb hatb hfb hownf HFT
          obtain ⟨z, hz⟩ : ∃ z, S - (128 + L + 48) = z := ⟨_, rfl⟩
          have hzS : 128 + L + 48 + z = S := by omega
          have hzi : (S : Int) - (128 + (L : Int) + 48) = (z : Int) := by omega
          have hwz : IntKind.i64.wrap (z : Int) = (z : Int) := IntWalk.i64_in _ (by omega)
          have hgt : ¬ (S : Int) < 128 + (L : Int) + 48 := by omega
          obtain ⟨U, hU⟩ : ∃ U, 128 + L + 48 = U := ⟨_, rfl⟩
          obtain ⟨vz, wz, hrun, hownz, hgrz, -⟩ := run_app_zeros (P := Tryd.prog) (w := wb) w.heap.size 22 3 22 5 Tryd.underlying22 Tryd.underlying3 info_byte (.slice Ab2 (128 + L + 48) cb2) (128 + L + 48) _ HBO (by omega) z (by omega) hbel.size
          have hbw : Below w.heap.size w wz := hbel.grown hgrz hbel.size (fun k hk => (HBO.lt k hk).1)
          have hfz := Fr.of_grown hgrz (F := fun k => ((.slice Ab2 (128 + L + 48) cb2) : Value).ownBlock = some k) (fun k h => h)
          have hch := own_fr hcha hfz (fun g hg h => hapa g h hg)
          have hld := own_fr hlai hfz (own_ne2 hlai HBO (by decide))
          rw [hzS] at hownz
          have hbb : u8s (hd 7 3 z32 ++ (frs z32 ((ps.map (·.l)).take j) ++ ft (3 + j) (chn z32 ((ps.map (·.l)).take j)))) ++ List.replicate z (Value.int .u8 0) = u8s (hd 7 3 z32 ++ (frs z32 ((ps.map (·.l)).take j) ++ tl (3 + j) (chn z32 ((ps.map (·.l)).take j)) true z)) := by
            have e : List.replicate z (Value.int .u8 0) = u8s (List.replicate z 0) := by simp [u8s]
            rw [e, ← u8s_append]
            congr 1 <;> simp [tl, List.append_assoc]
          rw [hbb] at hownz
          obtain ⟨bb, hbbe⟩ : ∃ bb, bb = hd 7 3 z32 ++ (frs z32 ((ps.map (·.l)).take j) ++ tl (3 + j) (chn z32 ((ps.map (·.l)).take j)) true z) := ⟨_, rfl⟩
          rw [← hbbe] at hownz
          have hbl : bb.length = S := by have := hownz.1; rw [length_u8s] at this; omega
          have hpz := pz_frames bb 3 true z (fun h => by cases h) ((ps.map (·.l)).take j) (pz0 z32) S rfl z32_length HB.out.each (by rw [List.length_take, List.length_map, HK.out]; omega) (by
            show bb.drop 128 = _
            rw [hbbe, ← hd_len 7 3 z32 z32_length, List.drop_left]
            have e : ((ps.map (·.l)).take j).length = j := by rw [List.length_take, List.length_map, HK.out]; omega
            show _ = frs z32 _ ++ tl (3 + 0 + ((ps.map (·.l)).take j).length) (chn z32 _) true z
            rw [e])
          obtain ⟨gz, cz, curz, rfl, hgz, -, hcz, hczm, -⟩ := own_open hownz (by omega)
          have halz : Below wz.heap.size wz (wz.alloc (.cells Z 5)) := (Below.refl _ _).alloc (Nat.le_refl _) _
          have hbz := hbw.trans (halz.mono hbw.size)
          have hPA := parse_any bb z32 gz 0 S cz 7 3 (some ⟨wz.heap.size, 0, none⟩) 32 (wz.alloc (.cells Z 5)) (Sees.of_own (own_below hownz halz)) hbl hcz (by omega) hS2 hS1.1 (by rw [HZ.out]; exact sees_new wz 5 (u8s z32) 1 32 (by rw [length_u8s]; rfl)) z32_length (by omega) (by omega) (by rw [hbbe]; exact pref_append _ _) (HT.out.below hbz)
          have hjl : ((ps.map (·.l)).take j).length = j := by rw [List.length_take, List.length_map, HK.out]; omega
          have hze : (⟨(pz0 z32).texts ++ (ps.map (·.l)).take j, chn (pz0 z32).chain ((ps.map (·.l)).take j), true, (pz0 z32).used + (frs (pz0 z32).chain ((ps.map (·.l)).take j)).length + if true = true then 48 else 0⟩ : Pz) = ⟨(ps.map (·.l)).take j, chn z32 ((ps.map (·.l)).take j), true, U⟩ := by rw [← hU, HL.out]; rfl
          rw [hpz, hze] at hPA
          have HPA := Lib.hid hPA
          have HRZ := Lib.hid hrun
          have HCH := Lib.hid (own_below hch halz); have HLD := Lib.hid (own_below hld halz); have HBZ := Lib.hid hbz
          have HUU := Lib.hid hU
          clear hU hPA hpz hze hrun hownz hgrz hfz hch hld hbw hbz halz hbbe hbl hgz hczm HBO hbel hcha hlai hapa
          have HBS := Lib.hid HB.out.below
          clear HB HL
          generalize hts : (ps.map (·.l)).take j = ts at *
          clear hts
          go_wp2_with first
            | (at_builtin; have hbr0 := HRB.out; refine Lib.wpList_append_run _ rfl _ _ _ _ rfl _ _ rfl rfl _ _ hbr0 ?_; clear HRB hbr0)
            | (at_builtin; have hzr := HRZ.out; refine Lib.wpList_append_run _ rfl _ _ _ _ rfl _ _ rfl rfl _ _ hzr ?_; clear HRZ hzr)
            | (simp only [hmk])
          refine HPA.out.mono ?_
          rintro e w4 ⟨v, rfl, ⟨At, ct, Cc, ccc, rfl, hrows⟩, hb4⟩
          simp only [hjl] at hrows
          have hal4 := back_alloc w4 36 #[.slice none 0 0, .slice none 0 0, .bool false, .int .i64 0] #[.slice At j ct, .slice Cc 32 ccc, .bool true, .int .i64 U]
          have hbz4 := hb4.trans (hal4.2.mono hb4.size)
          have HK4 := Lib.hid (Blk.new w4 36 #[.slice none 0 0, .slice none 0 0, .bool false, .int .i64 0])
          obtain ⟨vs, hv1, hv2, hv3, hv4, hv5⟩ := hrows
          have hv2' := own_below hv2 hal4.2
          have HTX := Lib.hid (texts_any vs At j ct _ hv1 (by omega) (rws_of_own hv2' hv1) (fun p hp => ⟨Sees.of_own (own_below (hv4 p hp).2 hal4.2), (hv4 p hp).1⟩))
          rw [hv3] at HTX
          have HPC := Lib.hid (own_below hv5 hal4.2)
          have HCH4 := Lib.hid (own_below HCH.out hbz4); have HLD4 := Lib.hid (own_below HLD.out hbz4)
          have HB4 := Lib.hid (HBZ.out.trans (hbz4.mono HBZ.out.size))
          have HBK := Lib.hid hal4.1
          clear hal4 hbz4 hv1 hv2 hv3 hv4 hv5 hv2' hb4 HPA HCH HLD HBZ
          go_wp2_with (have hk4 := HK4.out; refine wpList_store_row rfl 36 (.tmp 15) (.tmp 104) rfl w4.heap.size _ rfl rfl 36 _ hk4 (by exact HSZ.out) (Eq.refl 4) (by simp [Value.oneCell']) ?_; generalize (World.setRow _ _ _) = W4 at *; clear HK4 hk4; have c0 : W4.cell? ⟨w4.heap.size, 0, none⟩ = some (.slice At j ct) := HBK.out.cell 0)
          refine HTX.out.mono ?_
          rintro e w5 ⟨v5, rfl, hown5, hb5⟩
          obtain ⟨A5, c5, rfl⟩ := own_shape hown5
          have HSM := Lib.hid (same_eq ts A5 Al j c5 cl w5 hjl (by omega) (Sees.of_own hown5) (Sees.of_own (own_below HLD4.out hb5)))
          have HB5 := Lib.hid (And.intro (HB4.out.trans (hb5.mono HB4.out.size)) hb5)
          clear hown5 hb5 HTX
          go_wp2_with fail
          refine HSM.out.mono ?_
          rintro e w6 ⟨rfl, hb6⟩
          have hb46 := HB5.out.2.trans (hb6.mono HB5.out.2.size)
          have hcv1 := run_to_string (P := Tryd.prog) (w := w6) Tryd.underlying22 Tryd.underlying5 Tryd.underlying9 ccc (Sees.of_own (own_below HPC.out hb46))
          have hcv2 := run_to_string (P := Tryd.prog) (w := w6) Tryd.underlying22 Tryd.underlying5 Tryd.underlying9 cc (Sees.of_own (own_below HCH4.out hb46))
          have hbk6 := HBK.out.below hb46 HBK.out.lt
          have k1 : w6.cell? ⟨w4.heap.size, 1, none⟩ = some (.slice Cc 32 ccc) := hbk6.cell 1
          have k2 : w6.cell? ⟨w4.heap.size, 2, none⟩ = some (.bool true) := hbk6.cell 2
          have k3 : w6.cell? ⟨w4.heap.size, 3, none⟩ = some (.int .i64 U) := hbk6.cell 3
          have hUi : (U : Int) = 128 + (L : Int) + 48 := by have := HUU.out; omega
          rw [hUi] at k3
          have HB6 := Lib.hid (HB5.out.1.trans (hb6.mono HB5.out.1.size))
          clear hb6 hb46 hbk6 hUi HSM HB5 c0
          go_wp2_with fail
          go_ret
          exact ⟨rfl, HB6.out⟩
    · obtain rfl : j = k := by omega
      have hge : ¬ ((j : Int) < (j : Int)) := by omega
      cases fin with
      | false =>
        have HBO := HB.out.octets
        rw [← HL.out] at HBO
        have hbel := HB.out.below
        have hcha := HB.out.chain
        have hlai := HB.out.laid
        have hapa := HB.out.apart
        obtain ⟨z, hz⟩ : ∃ z, S - (128 + L) = z := ⟨_, rfl⟩
        have hzS : 128 + L + z = S := by omega
        have hzi : (S : Int) - (128 + (L : Int)) = (z : Int) := by omega
        have hwz : IntKind.i64.wrap (z : Int) = (z : Int) := IntWalk.i64_in _ (by omega)
        have hgt : ¬ (S : Int) < 128 + (L : Int) := by omega
        obtain ⟨U, hU⟩ : ∃ U, 128 + L = U := ⟨_, rfl⟩
        obtain ⟨vz, wz, hrun, hownz, hgrz, -⟩ := run_app_zeros (P := Tryd.prog) (w := wr) w.heap.size 22 3 22 5 Tryd.underlying22 Tryd.underlying3 info_byte (.slice Ab (128 + L) cb) (128 + L) _ HBO (by omega) z (by omega) hbel.size
        have hbw : Below w.heap.size w wz := hbel.grown hgrz hbel.size (fun k hk => (HBO.lt k hk).1)
        have hfz := Fr.of_grown hgrz (F := fun k => ((.slice Ab (128 + L) cb) : Value).ownBlock = some k) (fun k h => h)
        have hch := own_fr hcha hfz (fun g hg h => hapa g h hg)
        have hld := own_fr hlai hfz (own_ne2 hlai HBO (by decide))
        rw [hzS] at hownz
        have hbb : u8s (hd 7 3 z32 ++ (frs z32 ((ps.map (·.l)).take j))) ++ List.replicate z (Value.int .u8 0) = u8s (hd 7 3 z32 ++ (frs z32 ((ps.map (·.l)).take j) ++ tl (3 + j) (chn z32 ((ps.map (·.l)).take j)) false z)) := by
          have e : List.replicate z (Value.int .u8 0) = u8s (List.replicate z 0) := by simp [u8s]
          rw [e, ← u8s_append]
          congr 1 <;> simp [tl, List.append_assoc]
        rw [hbb] at hownz
        obtain ⟨bb, hbbe⟩ : ∃ bb, bb = hd 7 3 z32 ++ (frs z32 ((ps.map (·.l)).take j) ++ tl (3 + j) (chn z32 ((ps.map (·.l)).take j)) false z) := ⟨_, rfl⟩
        rw [← hbbe] at hownz
        have hbl : bb.length = S := by have := hownz.1; rw [length_u8s] at this; omega
        have hpz := pz_frames bb 3 false z (fun h => by omega) ((ps.map (·.l)).take j) (pz0 z32) S rfl z32_length HB.out.each (by rw [List.length_take, List.length_map, HK.out]; omega) (by
          show bb.drop 128 = _
          rw [hbbe, ← hd_len 7 3 z32 z32_length, List.drop_left]
          have e : ((ps.map (·.l)).take j).length = j := by rw [List.length_take, List.length_map, HK.out]; omega
          show _ = frs z32 _ ++ tl (3 + 0 + ((ps.map (·.l)).take j).length) (chn z32 _) false z
          rw [e])
        obtain ⟨gz, cz, curz, rfl, hgz, -, hcz, hczm, -⟩ := own_open hownz (by omega)
        have halz : Below wz.heap.size wz (wz.alloc (.cells Z 5)) := (Below.refl _ _).alloc (Nat.le_refl _) _
        have hbz := hbw.trans (halz.mono hbw.size)
        have hPA := parse_any bb z32 gz 0 S cz 7 3 (some ⟨wz.heap.size, 0, none⟩) 32 (wz.alloc (.cells Z 5)) (Sees.of_own (own_below hownz halz)) hbl hcz (by omega) hS2 hS1.1 (by rw [HZ.out]; exact sees_new wz 5 (u8s z32) 1 32 (by rw [length_u8s]; rfl)) z32_length (by omega) (by omega) (by rw [hbbe]; exact pref_append _ _) (HT.out.below hbz)
        have hjl : ((ps.map (·.l)).take j).length = j := by rw [List.length_take, List.length_map, HK.out]; omega
        have hze : (⟨(pz0 z32).texts ++ (ps.map (·.l)).take j, chn (pz0 z32).chain ((ps.map (·.l)).take j), false, (pz0 z32).used + (frs (pz0 z32).chain ((ps.map (·.l)).take j)).length + if false = true then 48 else 0⟩ : Pz) = ⟨(ps.map (·.l)).take j, chn z32 ((ps.map (·.l)).take j), false, U⟩ := by rw [← hU, HL.out]; rfl
        rw [hpz, hze] at hPA
        have HPA := Lib.hid hPA
        have HRZ := Lib.hid hrun
        have HCH := Lib.hid (own_below hch halz); have HLD := Lib.hid (own_below hld halz); have HBZ := Lib.hid hbz
        have HUU := Lib.hid hU
        clear hU hPA hpz hze hrun hownz hgrz hfz hch hld hbw hbz halz hbbe hbl hgz hczm HBO hbel hcha hlai hapa
        have HBS := Lib.hid HB.out.below
        clear HB HL
        generalize hts : (ps.map (·.l)).take j = ts at *
        clear hts
        go_wp2_with first
          | (at_builtin; have hbr0 := HRB.out; refine Lib.wpList_append_run _ rfl _ _ _ _ rfl _ _ rfl rfl _ _ hbr0 ?_; clear HRB hbr0)
          | (at_builtin; have hzr := HRZ.out; refine Lib.wpList_append_run _ rfl _ _ _ _ rfl _ _ rfl rfl _ _ hzr ?_; clear HRZ hzr)
          | (simp only [hmk])
        refine HPA.out.mono ?_
        rintro e w4 ⟨v, rfl, ⟨At, ct, Cc, ccc, rfl, hrows⟩, hb4⟩
        simp only [hjl] at hrows
        have hal4 := back_alloc w4 36 #[.slice none 0 0, .slice none 0 0, .bool false, .int .i64 0] #[.slice At j ct, .slice Cc 32 ccc, .bool false, .int .i64 U]
        have hbz4 := hb4.trans (hal4.2.mono hb4.size)
        have HK4 := Lib.hid (Blk.new w4 36 #[.slice none 0 0, .slice none 0 0, .bool false, .int .i64 0])
        obtain ⟨vs, hv1, hv2, hv3, hv4, hv5⟩ := hrows
        have hv2' := own_below hv2 hal4.2
        have HTX := Lib.hid (texts_any vs At j ct _ hv1 (by omega) (rws_of_own hv2' hv1) (fun p hp => ⟨Sees.of_own (own_below (hv4 p hp).2 hal4.2), (hv4 p hp).1⟩))
        rw [hv3] at HTX
        have HPC := Lib.hid (own_below hv5 hal4.2)
        have HCH4 := Lib.hid (own_below HCH.out hbz4); have HLD4 := Lib.hid (own_below HLD.out hbz4)
        have HB4 := Lib.hid (HBZ.out.trans (hbz4.mono HBZ.out.size))
        have HBK := Lib.hid hal4.1
        clear hal4 hbz4 hv1 hv2 hv3 hv4 hv5 hv2' hb4 HPA HCH HLD HBZ
        go_wp2_with (have hk4 := HK4.out; refine wpList_store_row rfl 36 (.tmp 15) (.tmp 104) rfl w4.heap.size _ rfl rfl 36 _ hk4 (by exact HSZ.out) (Eq.refl 4) (by simp [Value.oneCell']) ?_; generalize (World.setRow _ _ _) = W4 at *; clear HK4 hk4; have c0 : W4.cell? ⟨w4.heap.size, 0, none⟩ = some (.slice At j ct) := HBK.out.cell 0)
        refine HTX.out.mono ?_
        rintro e w5 ⟨v5, rfl, hown5, hb5⟩
        obtain ⟨A5, c5, rfl⟩ := own_shape hown5
        have HSM := Lib.hid (same_eq ts A5 Al j c5 cl w5 hjl (by omega) (Sees.of_own hown5) (Sees.of_own (own_below HLD4.out hb5)))
        have HB5 := Lib.hid (And.intro (HB4.out.trans (hb5.mono HB4.out.size)) hb5)
        clear hown5 hb5 HTX
        go_wp2_with fail
        refine HSM.out.mono ?_
        rintro e w6 ⟨rfl, hb6⟩
        have hb46 := HB5.out.2.trans (hb6.mono HB5.out.2.size)
        have hcv1 := run_to_string (P := Tryd.prog) (w := w6) Tryd.underlying22 Tryd.underlying5 Tryd.underlying9 ccc (Sees.of_own (own_below HPC.out hb46))
        have hcv2 := run_to_string (P := Tryd.prog) (w := w6) Tryd.underlying22 Tryd.underlying5 Tryd.underlying9 cc (Sees.of_own (own_below HCH4.out hb46))
        have hbk6 := HBK.out.below hb46 HBK.out.lt
        have k1 : w6.cell? ⟨w4.heap.size, 1, none⟩ = some (.slice Cc 32 ccc) := hbk6.cell 1
        have k2 : w6.cell? ⟨w4.heap.size, 2, none⟩ = some (.bool false) := hbk6.cell 2
        have k3 : w6.cell? ⟨w4.heap.size, 3, none⟩ = some (.int .i64 U) := hbk6.cell 3
        have hUi : (U : Int) = 128 + (L : Int) := by have := HUU.out; omega
        rw [hUi] at k3
        have HB6 := Lib.hid (HB5.out.1.trans (hb6.mono HB5.out.1.size))
        clear hb6 hb46 hbk6 hUi HSM HB5 c0
        go_wp2_with fail
        go_ret
        exact ⟨rfl, HB6.out⟩
      | true =>
        have HBO0 := HB.out.octets
        rw [← HL.out] at HBO0
        have hchl := chn_length ((ps.map (·.l)).take j) z32 z32_length
        have hFT := foot_ok (3 + j) (chn z32 ((ps.map (·.l)).take j)) Ac cc wr (Sees.of_own HB.out.chain) hchl (by omega)
        rw [Int.natCast_add] at hFT
        have HFT := Lib.hid hFT
        have hwj : IntKind.i64.wrap (3 + (j : Int)) = 3 + (j : Int) := IntWalk.i64_in _ (by omega)
        have hwl : IntKind.i64.wrap (128 + (L : Int) + 48) = 128 + (L : Int) + 48 := IntWalk.i64_in _ (by omega)
        have HBO1 := Lib.hid HBO0
        clear hFT HBO0
        go_wp2_with fail
        refine HFT.out.mono ?_
        rintro e wf ⟨vf, rfl, hownf, hbf⟩
        obtain ⟨Af, cf, rfl⟩ := own_shape hownf
        have hwrs := HB.out.below.size
        have hbelf := HB.out.below.trans (hbf.mono hwrs)
        have hBOf := own_below HBO1.out hbf
        obtain ⟨vb, wb, hrunb, HBO, hgrb, hatb, -⟩ := run_app (P := Tryd.prog) (w := wf) w.heap.size 22 22 5 (.int .u8 0) 1 1 Tryd.underlying22 info_byte rfl (by decide) (.slice Ab (128 + L) cb) (128 + L) _ hBOf Af 48 cf (u8s (ft (3 + j) (chn z32 ((ps.map (·.l)).take j)))) (Sees.of_own hownf) (u8s_one _) (by unfold maxLen; omega) (by omega) hbelf.size
        rw [← u8s_append, List.append_assoc] at HBO
        have hbel : Below w.heap.size w wb := hbelf.grown hgrb hbelf.size (fun k hk => (hBOf.lt k hk).1)
        have hfb := Fr.of_grown hgrb (F := fun k => (Value.slice Ab (128 + L) cb).ownBlock = some k) (fun k h => h)
        have hcha := own_fr (own_below HB.out.chain hbf) hfb (fun g hg h => HB.out.apart g h hg)
        have hlai := own_fr (own_below HB.out.laid hbf) hfb (own_ne2 (own_below HB.out.laid hbf) hBOf (by decide))
        have hapa : ∀ g, vb.ownBlock = some g → (Value.slice Ac 32 cc).ownBlock ≠ some g := fun g hg h => by
          rcases hatb with e | e
          · exact HB.out.apart g (by rw [← e]; exact hg) h
          · have h1 := (HB.out.chain.lt g h).2
            rw [e] at hg
            injection hg with hg
            have := hbf.size
            omega
        obtain ⟨Ab2, cb2, rfl⟩ := own_shape HBO
        have HRB := Lib.hid hrunb
        clear hrunb hgrb hatb hfb hownf HFT
        obtain ⟨z, hz⟩ : ∃ z, S - (128 + L + 48) = z := ⟨_, rfl⟩
        have hzS : 128 + L + 48 + z = S := by omega
        have hzi : (S : Int) - (128 + (L : Int) + 48) = (z : Int) := by omega
        have hwz : IntKind.i64.wrap (z : Int) = (z : Int) := IntWalk.i64_in _ (by omega)
        have hgt : ¬ (S : Int) < 128 + (L : Int) + 48 := by omega
        obtain ⟨U, hU⟩ : ∃ U, 128 + L + 48 = U := ⟨_, rfl⟩
        obtain ⟨vz, wz, hrun, hownz, hgrz, -⟩ := run_app_zeros (P := Tryd.prog) (w := wb) w.heap.size 22 3 22 5 Tryd.underlying22 Tryd.underlying3 info_byte (.slice Ab2 (128 + L + 48) cb2) (128 + L + 48) _ HBO (by omega) z (by omega) hbel.size
        have hbw : Below w.heap.size w wz := hbel.grown hgrz hbel.size (fun k hk => (HBO.lt k hk).1)
        have hfz := Fr.of_grown hgrz (F := fun k => ((.slice Ab2 (128 + L + 48) cb2) : Value).ownBlock = some k) (fun k h => h)
        have hch := own_fr hcha hfz (fun g hg h => hapa g h hg)
        have hld := own_fr hlai hfz (own_ne2 hlai HBO (by decide))
        rw [hzS] at hownz
        have hbb : u8s (hd 7 3 z32 ++ (frs z32 ((ps.map (·.l)).take j) ++ ft (3 + j) (chn z32 ((ps.map (·.l)).take j)))) ++ List.replicate z (Value.int .u8 0) = u8s (hd 7 3 z32 ++ (frs z32 ((ps.map (·.l)).take j) ++ tl (3 + j) (chn z32 ((ps.map (·.l)).take j)) true z)) := by
          have e : List.replicate z (Value.int .u8 0) = u8s (List.replicate z 0) := by simp [u8s]
          rw [e, ← u8s_append]
          congr 1 <;> simp [tl, List.append_assoc]
        rw [hbb] at hownz
        obtain ⟨bb, hbbe⟩ : ∃ bb, bb = hd 7 3 z32 ++ (frs z32 ((ps.map (·.l)).take j) ++ tl (3 + j) (chn z32 ((ps.map (·.l)).take j)) true z) := ⟨_, rfl⟩
        rw [← hbbe] at hownz
        have hbl : bb.length = S := by have := hownz.1; rw [length_u8s] at this; omega
        have hpz := pz_frames bb 3 true z (fun h => by cases h) ((ps.map (·.l)).take j) (pz0 z32) S rfl z32_length HB.out.each (by rw [List.length_take, List.length_map, HK.out]; omega) (by
          show bb.drop 128 = _
          rw [hbbe, ← hd_len 7 3 z32 z32_length, List.drop_left]
          have e : ((ps.map (·.l)).take j).length = j := by rw [List.length_take, List.length_map, HK.out]; omega
          show _ = frs z32 _ ++ tl (3 + 0 + ((ps.map (·.l)).take j).length) (chn z32 _) true z
          rw [e])
        obtain ⟨gz, cz, curz, rfl, hgz, -, hcz, hczm, -⟩ := own_open hownz (by omega)
        have halz : Below wz.heap.size wz (wz.alloc (.cells Z 5)) := (Below.refl _ _).alloc (Nat.le_refl _) _
        have hbz := hbw.trans (halz.mono hbw.size)
        have hPA := parse_any bb z32 gz 0 S cz 7 3 (some ⟨wz.heap.size, 0, none⟩) 32 (wz.alloc (.cells Z 5)) (Sees.of_own (own_below hownz halz)) hbl hcz (by omega) hS2 hS1.1 (by rw [HZ.out]; exact sees_new wz 5 (u8s z32) 1 32 (by rw [length_u8s]; rfl)) z32_length (by omega) (by omega) (by rw [hbbe]; exact pref_append _ _) (HT.out.below hbz)
        have hjl : ((ps.map (·.l)).take j).length = j := by rw [List.length_take, List.length_map, HK.out]; omega
        have hze : (⟨(pz0 z32).texts ++ (ps.map (·.l)).take j, chn (pz0 z32).chain ((ps.map (·.l)).take j), true, (pz0 z32).used + (frs (pz0 z32).chain ((ps.map (·.l)).take j)).length + if true = true then 48 else 0⟩ : Pz) = ⟨(ps.map (·.l)).take j, chn z32 ((ps.map (·.l)).take j), true, U⟩ := by rw [← hU, HL.out]; rfl
        rw [hpz, hze] at hPA
        have HPA := Lib.hid hPA
        have HRZ := Lib.hid hrun
        have HCH := Lib.hid (own_below hch halz); have HLD := Lib.hid (own_below hld halz); have HBZ := Lib.hid hbz
        have HUU := Lib.hid hU
        clear hU hPA hpz hze hrun hownz hgrz hfz hch hld hbw hbz halz hbbe hbl hgz hczm HBO hbel hcha hlai hapa
        have HBS := Lib.hid HB.out.below
        clear HB HL
        generalize hts : (ps.map (·.l)).take j = ts at *
        clear hts
        go_wp2_with first
          | (at_builtin; have hbr0 := HRB.out; refine Lib.wpList_append_run _ rfl _ _ _ _ rfl _ _ rfl rfl _ _ hbr0 ?_; clear HRB hbr0)
          | (at_builtin; have hzr := HRZ.out; refine Lib.wpList_append_run _ rfl _ _ _ _ rfl _ _ rfl rfl _ _ hzr ?_; clear HRZ hzr)
          | (simp only [hmk])
        refine HPA.out.mono ?_
        rintro e w4 ⟨v, rfl, ⟨At, ct, Cc, ccc, rfl, hrows⟩, hb4⟩
        simp only [hjl] at hrows
        have hal4 := back_alloc w4 36 #[.slice none 0 0, .slice none 0 0, .bool false, .int .i64 0] #[.slice At j ct, .slice Cc 32 ccc, .bool true, .int .i64 U]
        have hbz4 := hb4.trans (hal4.2.mono hb4.size)
        have HK4 := Lib.hid (Blk.new w4 36 #[.slice none 0 0, .slice none 0 0, .bool false, .int .i64 0])
        obtain ⟨vs, hv1, hv2, hv3, hv4, hv5⟩ := hrows
        have hv2' := own_below hv2 hal4.2
        have HTX := Lib.hid (texts_any vs At j ct _ hv1 (by omega) (rws_of_own hv2' hv1) (fun p hp => ⟨Sees.of_own (own_below (hv4 p hp).2 hal4.2), (hv4 p hp).1⟩))
        rw [hv3] at HTX
        have HPC := Lib.hid (own_below hv5 hal4.2)
        have HCH4 := Lib.hid (own_below HCH.out hbz4); have HLD4 := Lib.hid (own_below HLD.out hbz4)
        have HB4 := Lib.hid (HBZ.out.trans (hbz4.mono HBZ.out.size))
        have HBK := Lib.hid hal4.1
        clear hal4 hbz4 hv1 hv2 hv3 hv4 hv5 hv2' hb4 HPA HCH HLD HBZ
        go_wp2_with (have hk4 := HK4.out; refine wpList_store_row rfl 36 (.tmp 15) (.tmp 104) rfl w4.heap.size _ rfl rfl 36 _ hk4 (by exact HSZ.out) (Eq.refl 4) (by simp [Value.oneCell']) ?_; generalize (World.setRow _ _ _) = W4 at *; clear HK4 hk4; have c0 : W4.cell? ⟨w4.heap.size, 0, none⟩ = some (.slice At j ct) := HBK.out.cell 0)
        refine HTX.out.mono ?_
        rintro e w5 ⟨v5, rfl, hown5, hb5⟩
        obtain ⟨A5, c5, rfl⟩ := own_shape hown5
        have HSM := Lib.hid (same_eq ts A5 Al j c5 cl w5 hjl (by omega) (Sees.of_own hown5) (Sees.of_own (own_below HLD4.out hb5)))
        have HB5 := Lib.hid (And.intro (HB4.out.trans (hb5.mono HB4.out.size)) hb5)
        clear hown5 hb5 HTX
        go_wp2_with fail
        refine HSM.out.mono ?_
        rintro e w6 ⟨rfl, hb6⟩
        have hb46 := HB5.out.2.trans (hb6.mono HB5.out.2.size)
        have hcv1 := run_to_string (P := Tryd.prog) (w := w6) Tryd.underlying22 Tryd.underlying5 Tryd.underlying9 ccc (Sees.of_own (own_below HPC.out hb46))
        have hcv2 := run_to_string (P := Tryd.prog) (w := w6) Tryd.underlying22 Tryd.underlying5 Tryd.underlying9 cc (Sees.of_own (own_below HCH4.out hb46))
        have hbk6 := HBK.out.below hb46 HBK.out.lt
        have k1 : w6.cell? ⟨w4.heap.size, 1, none⟩ = some (.slice Cc 32 ccc) := hbk6.cell 1
        have k2 : w6.cell? ⟨w4.heap.size, 2, none⟩ = some (.bool true) := hbk6.cell 2
        have k3 : w6.cell? ⟨w4.heap.size, 3, none⟩ = some (.int .i64 U) := hbk6.cell 3
        have hUi : (U : Int) = 128 + (L : Int) + 48 := by have := HUU.out; omega
        rw [hUi] at k3
        have HB6 := Lib.hid (HB5.out.1.trans (hb6.mono HB5.out.1.size))
        clear hb6 hb46 hbk6 hUi HSM HB5 c0
        go_wp2_with fail
        go_ret
        exact ⟨rfl, HB6.out⟩


theorem back_walk (A : Option Addr) (ps : List Pt) (len cap : Nat) (sec : Int) (fin : Bool) (W : World) (hT : Tab W) (hk : ps.length = len) (hI : InRows W A ps cap) (hsec : (Lit.int .u8 sec).wf = true) :
    Calls Tryd.prog 5 #[.slice A len cap, .int .u8 sec, .bool fin] W fun e W' => e = .returned (.bool true) ∧ Below W.heap.size W W' := by
  rcases Nat.lt_or_ge 20 len with h | h
  · exact back_long A len cap sec fin W hT h
  · exact back_any ps A len cap sec fin W hk hI hT (wf_u8 hsec) h
end Go.Proofs.YtjlkgkfheaihpaaDoor

