/-
  The round keys.
-/
import Derived.Test.YtimaeghbjfialaaAes4
namespace Go.Proofs.Ytimaeghbjfialaa
open Go.RowKit

theorem length_splice' {α : Type} (l vs : List α) (o : Nat) (h : o + vs.length ≤ l.length) : (splice l o vs).length = l.length := by
  simp [splice]; omega
theorem splice_cons {α : Type} (l : List α) (o : Nat) (v : α) (r : List α) (h : o + (r.length + 1) ≤ l.length) : splice (l.set o v) (o + 1) r = splice l o (v :: r) := by
  unfold splice
  rw [List.length_cons, List.drop_set_of_lt (by omega), show o + 1 + r.length = o + (r.length + 1) by omega]
  rw [show (l.set o v).take (o + 1) = l.take o ++ [v] by
    rw [List.take_succ_eq_append_getElem (by simp; omega)]
    simp [List.take_set_of_le]]
  simp
theorem Blk.setCells {g : Nat} {t : TypeId} : ∀ (vs : List Value) (o : Nat) (w : World) (l : List Value), Blk w g t l.toArray → o + vs.length ≤ l.length → Blk (w.setCells g o vs) g t (splice l o vs).toArray
  | [], o, w, l, h, _ => by simpa [World.setCells, splice] using h
  | v :: r, o, w, l, h, hf => by
    rw [World.setCells, ← splice_cons l o v r hf]
    refine Blk.setCells r (o + 1) _ _ ?_ (by simp at hf ⊢; omega)
    have := h.set_ o v
    rwa [List.setIfInBounds_toArray] at this
theorem Fr.setCells {g : Nat} : ∀ (vs : List Value) (o : Nat) (w : World), Fr (· = g) w (w.setCells g o vs)
  | [], _, w => Fr.refl _ w
  | v :: r, o, w => by
    rw [World.setCells]
    exact (Fr.setCell (F := (· = g)) w ⟨g, o, none⟩ v rfl).trans (Fr.setCells r (o + 1) _) (fun k _ h => h)
theorem there_blk {w : World} {g : Nat} {t : TypeId} {cs : Array Value} {o n : Nat} (h : Blk w g t cs) (hn : o + n ≤ cs.size) : w.there g o n := fun j hj =>
  ⟨by rw [h.cell, Array.getElem?_eq_getElem (by omega)]; rfl, h.frozen _⟩
theorem range_blk {w : World} {g : Nat} {t : TypeId} {l m : List Nat} {o : Nat} (h : Blk w g t (nbs l).toArray) (hl : o + m.length ≤ l.length) (hm : ∀ i, i < m.length → m.getD i 0 = l.getD (o + i) 0) : w.rangeAt g o (nbs m) := fun j v hv => by
  have hj : j < m.length := by have := (List.getElem?_eq_some_iff.1 hv).1; rwa [length_nbs] at this
  rw [nbs_get hj] at hv
  rw [← hv, hm j hj]
  exact blk_cell h (by omega)

/-- N octets of the keys are laid. -/
def xo (key : List Nat) (N : Nat) : List Nat := tab 176 fun j => if j < N then (KF key).getD j 0 else 0
/-- The first ones of a round key, the first without its power. -/
def xp (key : List Nat) (q i : Nat) : List Nat := tab 176 fun j => if j < 16 * (q + 1) then (KF key).getD j 0 else if j < 16 * (q + 1) + i then (KF key).getD j 0 ^^^ (if j = 16 * (q + 1) then pw q else 0) else 0
section
variable {key : List Nat}
theorem xo_zero (key : List Nat) : xo key 0 = tab 176 fun _ => 0 := tab_ext fun i _ => if_neg (by omega)
theorem xo_all (hk : key.length = 16) : xo key 176 = KF key := by
  rw [← tab_self (KF_length hk)]
  exact tab_ext fun i hi => if_pos hi
theorem xo_first (hk : key.length = 16) : splice (nbs (tab 176 fun _ => 0)) 0 (nbs key) = nbs (xo key 16) := by
  have h : splice (nbs (tab 176 fun _ => 0)) 0 (nbs key) = nbs (key ++ (tab 176 fun _ => 0).drop 16) := by simp [splice, nbs, hk, List.map_drop]
  rw [h]
  refine congrArg nbs (list_ext (by simp [tab, xo, hk]) fun i hi => ?_)
  have hi : i < 176 := by simp [tab, hk] at hi; omega
  have hr : (xo key 16).getD i 0 = if i < 16 then (KF key).getD i 0 else 0 := tab_get _ hi
  rw [hr]
  by_cases h1 : i < 16
  · rw [if_pos h1, getD_left (by omega), KF_key (by omega)]
  · rw [if_neg h1, List.getD_eq_getElem?_getD, List.getElem?_append_right (by omega), List.getElem?_drop]
    rw [show 16 + (i - key.length) = i by omega, ← List.getD_eq_getElem?_getD, tab_get _ hi]
theorem xp_zero (key : List Nat) (q : Nat) : xp key q 0 = xo key (16 * (q + 1)) := tab_ext fun i _ => by
  by_cases h : i < 16 * (q + 1)
  · rw [if_pos h, if_pos h]
  · rw [if_neg h, if_neg (by omega), if_neg h]
theorem xp_next (hk : key.length = 16) {q i : Nat} (hq : q < 10) (hi : i < 4) : (xp key q i).set (16 * (q + 1) + i) ((KF key).getD (16 * q + i) 0 ^^^ sb ((KF key).getD (16 * q + (12 + (i + 1) % 4)) 0)) = xp key q (i + 1) := by
  rw [xp, tab_set]
  refine tab_ext fun j hj => ?_
  by_cases e : j = 16 * (q + 1) + i
  · rw [if_pos e, if_neg (by omega), if_pos (by omega), KF_step hk (j := j) (by omega) hj]
    unfold kb
    rw [if_pos (by omega), show j - 16 = 16 * q + i by omega, show 4 * (j / 4) - 4 + (j % 4 + 1) % 4 = 16 * q + (12 + (i + 1) % 4) by omega, show j / 16 - 1 = q by omega]
    by_cases h0 : i = 0
    · rw [if_pos (by omega), if_pos (by omega), Nat.xor_assoc, Nat.xor_assoc, Nat.xor_self, Nat.xor_zero]
    · rw [if_neg (by omega), if_neg (by omega), Nat.xor_zero, Nat.xor_zero]
  · rw [if_neg e]
    by_cases h1 : j < 16 * (q + 1)
    · rw [if_pos h1, if_pos h1]
    · rw [if_neg h1, if_neg h1]
      by_cases h2 : j < 16 * (q + 1) + i
      · rw [if_pos h2, if_pos (show j < 16 * (q + 1) + (i + 1) by omega)]
      · rw [if_neg h2, if_neg (show ¬ j < 16 * (q + 1) + (i + 1) by omega)]
theorem xp_get (key : List Nat) {q : Nat} (hq : q < 10) : (xp key q 4).getD (16 * (q + 1)) 0 = (KF key).getD (16 * (q + 1)) 0 ^^^ pw q := by
  have h : (xp key q 4).getD (16 * (q + 1)) 0 = _ := tab_get _ (by omega)
  rw [h, if_neg (by omega), if_pos (by omega), if_pos rfl]
theorem xp_power (key : List Nat) {q : Nat} (hq : q < 10) : (xp key q 4).set (16 * (q + 1)) ((KF key).getD (16 * (q + 1)) 0 ^^^ pw q ^^^ pw q) = xo key (16 * (q + 1) + 4) := by
  rw [xp, tab_set, Nat.xor_assoc, Nat.xor_self, Nat.xor_zero]
  refine tab_ext fun j hj => ?_
  by_cases e : j = 16 * (q + 1)
  · rw [if_pos e, if_pos (by omega), e]
  · rw [if_neg e, if_neg e, Nat.xor_zero]
    by_cases h1 : j < 16 * (q + 1)
    · rw [if_pos h1, if_pos (by omega)]
    · rw [if_neg h1]
theorem xo_next (hk : key.length = 16) {q i : Nat} (hq : q < 10) (h4 : 4 ≤ i) (hi : i < 16) : (xo key (16 * (q + 1) + i)).set (16 * (q + 1) + i) ((KF key).getD (16 * q + i) 0 ^^^ (KF key).getD (16 * (q + 1) + (i - 4)) 0) = xo key (16 * (q + 1) + (i + 1)) := by
  rw [xo, tab_set]
  refine tab_ext fun j hj => ?_
  by_cases e : j = 16 * (q + 1) + i
  · rw [if_pos e, if_pos (by omega), KF_step hk (j := j) (by omega) hj]
    unfold kb
    rw [if_neg (by omega), show j - 16 = 16 * q + i by omega, show j - 4 = 16 * (q + 1) + (i - 4) by omega]
  · rw [if_neg e]
    by_cases h2 : j < 16 * (q + 1) + i
    · rw [if_pos h2, if_pos (by omega)]
    · rw [if_neg h2, if_neg (by omega)]
theorem xo_get (key : List Nat) {N j : Nat} (h : j < N) (hj : j < 176) : (xo key N).getD j 0 = (KF key).getD j 0 := by
  have h' : (xo key N).getD j 0 = _ := tab_get _ hj
  rw [h', if_pos h]
theorem kr_get (key : List Nat) (q : Nat) {i : Nat} (hi : i < 16) : (kr key q).getD i 0 = (KF key).getD (16 * q + i) 0 := tab_get _ hi
end

set_option maxHeartbeats 1000000 in
theorem expand_any (key : List Nat) (hk : key.length = 16) (hkb : byt key) (w : World) :
    Calls Try.prog 18 #[.agg (nbs key).toArray, .agg (nbs sbox).toArray] w fun e w' => e = .returned (.agg (nbs (KF key)).toArray) ∧ Below w.heap.size w w' := by
  obtain ⟨ck, hck⟩ : ∃ x, x = (nbs key).toArray := ⟨_, rfl⟩
  obtain ⟨ct, hct⟩ : ∃ x, x = (nbs sbox).toArray := ⟨_, rfl⟩
  rw [← hck, ← hct]
  have hks : ck.size = 16 := by rw [hck, nbs_size, hk]
  have HCK := Lib.hid hck; clear hck
  have HCT := Lib.hid hct; clear hct
  obtain ⟨z, hz⟩ : ∃ z : Array Value, z = (nbs (tab 176 fun _ => 0)).toArray := ⟨_, rfl⟩
  have hzi : (Try.prog.info? 41).map (fun i => (i.zero, i.size)) = some (some (.agg (nbs (tab 176 fun _ => 0)).toArray), 176) := by kernel_rfl
  obtain ⟨hzero, hi176⟩ := zero_of_info hzi
  rw [← hz] at hzero
  have HZ := Lib.hid hz; clear hz hzi
  have HI176 := Lib.hid hi176; clear hi176
  have hi16 : (Try.prog.info? 22).map (·.size) = some 16 := by kernel_rfl
  have HI16 := Lib.hid hi16; clear hi16
  have hB0 : Blk ((((w.alloc (.cells ck 22)).alloc (.cells ct 39)).alloc (.cells z 41)).alloc (.cells z 41)) w.heap.size 22 ck := (((Blk.new _ _ _).alloc _).alloc _).alloc _
  have hT0 : Blk ((((w.alloc (.cells ck 22)).alloc (.cells ct 39)).alloc (.cells z 41)).alloc (.cells z 41)) (w.heap.size + 1) 39 ct := ((Blk.new' (by simp) rfl).alloc _).alloc _
  have hR0 : Blk ((((w.alloc (.cells ck 22)).alloc (.cells ct 39)).alloc (.cells z 41)).alloc (.cells z 41)) (w.heap.size + 1 + 1) 41 z := (Blk.new' (by simp) rfl).alloc _
  have hO0 : Blk ((((w.alloc (.cells ck 22)).alloc (.cells ct 39)).alloc (.cells z 41)).alloc (.cells z 41)) (w.heap.size + 1 + 1 + 1) 41 z := Blk.new' (by simp) rfl
  have hbel0 : Below w.heap.size w ((((w.alloc (.cells ck 22)).alloc (.cells ct 39)).alloc (.cells z 41)).alloc (.cells z 41)) := ((((Below.refl _ _).alloc (Nat.le_refl _) _).alloc (by simp) _).alloc (by simp; omega) _).alloc (by simp; omega) _
  have HBEL0 := Lib.hid hbel0; clear hbel0
  have HT0 := Lib.hid hT0; clear hT0
  have HR0 := Lib.hid hR0; clear hR0
  have hthere := there_blk (o := 0) (n := 16) hO0 (by rw [HZ.out, nbs_size, tab_length]; omega)
  have hO1 := Blk.setCells (nbs key) 0 _ (nbs (tab 176 fun _ => 0)) (by rw [← HZ.out]; exact hO0) (by rw [length_nbs, length_nbs, tab_length, hk]; omega)
  rw [xo_first hk] at hO1
  have hF1 := Fr.setCells (g := w.heap.size + 1 + 1 + 1) (nbs key) 0 ((((w.alloc (.cells ck 22)).alloc (.cells ct 39)).alloc (.cells z 41)).alloc (.cells z 41))
  have e1 : (nbs key) = ck.toList := by rw [HCK.out]
  rw [e1] at hO1 hF1
  have HO1 := Lib.hid hO1; clear hO1
  have HF1 := Lib.hid hF1; clear hF1 e1
  have HO0 := Lib.hid hO0; clear hO0
  have HTH := Lib.hid hthere; clear hthere
  have HB0 := Lib.hid hB0; clear hB0
  go_enter Try.func18, Try.ntmps18
  go_wp2_with (first
    | (refine wpList_load_row rfl 22 (.tmp 2) rfl w.heap.size rfl 22 _ (0, 0) _ HB0.out Try.underlying22 rfl (by rw [hks]; exact HI16.out) ?_)
    | (refine wpList_store_mid rfl 22 (.tmp 13) (.tmp 12) rfl (w.heap.size + 1 + 1 + 1) 0 ck rfl rfl (by rw [hks]; exact HTH.out) (by rw [hks]; exact HI16.out) (by rw [HCK.out]; exact nbs_one _) ?_))
  go_loopw [6, 7] (fun p r wr => ∃ q : Nat, q ≤ 10 ∧ r = .int .i64 ((q : Int) + 1) ∧ p = .int .u8 (pw q : Nat) ∧ Blk wr (w.heap.size + 1) 39 (nbs sbox).toArray ∧ Blk wr (w.heap.size + 1 + 1) 41 z ∧ Blk wr (w.heap.size + 1 + 1 + 1) 41 (nbs (xo key (16 * (q + 1)))).toArray ∧ Below w.heap.size w wr) (fun _ r _ => 11 - (intOf r).toNat)
  case atStart =>
    refine ⟨0, by omega, rfl, rfl, ?_, ?_, HO1.out, ?_⟩
    · rw [← HCT.out]; exact HT0.out.fr HF1.out (Nat.ne_of_lt (by omega))
    · exact HR0.out.fr HF1.out (Nat.ne_of_lt (by omega))
    · exact HBEL0.out.trans (HF1.out.below HBEL0.out.size (fun k hk => hk ▸ (by omega)))
  case round =>
    obtain ⟨q, hq, rfl, rfl, hT, hR, hO, hbel⟩ := hrel
    clear HO1 HF1 HTH HB0 HO0 HT0 HR0 HBEL0
    have hsz := hO.lt
    by_cases hlt : q < 10
    · have hlti : (q : Int) + 1 ≤ 10 := by omega
      have hlti2 : (q : Int) < 11 := by omega
      have hxl : (xo key (16 * (q + 1))).length = 176 := tab_length _ _
      have hrg : wr.rangeAt (w.heap.size + 1 + 1 + 1) (q * 16) (nbs (kr key q)) := range_blk hO (by rw [hxl, kr, tab_length]; omega) (fun i hi => by
        rw [kr, tab_length] at hi
        rw [kr_get key q hi, xo_get key (by omega) (by omega), show q * 16 + i = 16 * q + i by omega])
      have hkl : (kr key q).length = 16 := tab_length _ _
      obtain ⟨g, hg⟩ : ∃ g, g = wr.heap.size := ⟨_, rfl⟩
      obtain ⟨W0, hW0⟩ : ∃ W0, W0 = wr.alloc (.cells (nbs (tab 16 fun _ => 0)).toArray 22) := ⟨_, rfl⟩
      have hw0 : Blk W0 g 22 (nbs (tab 16 fun _ => 0)).toArray := by rw [hW0]; exact Blk.new' hg rfl
      have hb0 : Below g wr W0 := by rw [hW0]; exact (Below.refl _ _).alloc (Nat.le_of_eq hg) _
      have hWas := hw0.setRow (nbs (kr key q)).toArray
      have hb1 := below_setRow hb0 (Nat.le_refl g) (nbs (kr key q)).toArray
      have hT1 := hT.below hb1 (by omega)
      have hR1 := hR.below hb1 (by omega)
      have hO1 := hO.below hb1 (by omega)
      have hbel1 := hbel.trans (hb1.mono (by omega))
      have hz16 : (nbs (tab 16 fun _ => 0)).toArray = #[.int .u8 0, .int .u8 0, .int .u8 0, .int .u8 0, .int .u8 0, .int .u8 0, .int .u8 0, .int .u8 0, .int .u8 0, .int .u8 0, .int .u8 0, .int .u8 0, .int .u8 0, .int .u8 0, .int .u8 0, .int .u8 0] := rfl
      rw [hz16] at hw0 hW0
      obtain ⟨W1, hW1⟩ : ∃ W1, W1 = W0.setRow g (nbs (kr key q)).toArray := ⟨_, rfl⟩
      rw [← hW1] at hWas hb1 hT1 hR1 hO1 hbel1
      rw [hW0, hg] at hW1
      rw [hW0, hg] at hw0
      have hgg : w.heap.size + 1 + 1 + 1 < g := by omega
      have HG := Lib.hid hg; clear hg
      have HW1 := Lib.hid hW1; clear hW1 hW0 hb0
      have HW0 := Lib.hid hw0; clear hw0
      have HWAS := Lib.hid hWas; have HT1 := Lib.hid hT1; have HR1 := Lib.hid hR1; have HO1 := Lib.hid hO1; clear hWas hT1 hR1 hO1 hT hR hO hz16 hb1
      have hnat : ((q : Int) + 1).toNat = q + 1 := by omega
      go_wp2_with (first
        | (refine wpList_load_mid rfl 22 (.tmp 20) rfl (w.heap.size + 1 + 1 + 1) (q * 16) rfl (nbs (kr key q)) _ hrg Try.underlying22 rfl (by rw [length_nbs, hkl]; exact HI16.out) ?_)
        | (refine wpList_store_row rfl 22 (.tmp 8) (.tmp 21) rfl wr.heap.size _ rfl rfl 22 _ HW0.out (by rw [nbs_size, hkl]; exact HI16.out) (by rw [nbs_size, hkl]; rfl) (nbs_one _) ?_))
      rw [← HW1.out, ← HG.out]
      go_loopw [10, 24] (fun _ i wq => ∃ m : Nat, m ≤ 4 ∧ i = .int .i64 m ∧ Blk wq (w.heap.size + 1 + 1 + 1) 41 (nbs (xp key q m)).toArray ∧ Fr (· = w.heap.size + 1 + 1 + 1) W1 wq) (fun _ i _ => 4 - (intOf i).toNat)
      case atStart => exact ⟨0, by omega, rfl, by rw [xp_zero]; exact HO1.out, Fr.refl _ _⟩
      case round =>
        obtain ⟨m, hm, rfl, hX, hF⟩ := hrel
        have hxpl : (xp key q m).length = 176 := tab_length _ _
        by_cases hlm : m < 4
        · have hlmi : (m : Int) < 4 := by omega
          obtain ⟨d, hd⟩ : ∃ d, d = (m + 1) % 4 := ⟨_, rfl⟩
          have hdl : d < 4 := by omega
          have hdm : ((m : Int) + 1).tmod 4 = (d : Int) := by
            rw [Int.tmod_eq_emod_of_nonneg (by omega)]; omega
          have hw1 : IntKind.i64.wrap ((m : Int) + 1) = (m : Int) + 1 := IntWalk.i64_in _ (by omega)
          have hw2 : IntKind.i64.wrap (12 + (d : Int)) = 12 + (d : Int) := IntWalk.i64_in _ (by omega)
          have hn2 : (12 + (d : Int)).toNat = 12 + d := by omega
          have hd0 : (0 : Int) ≤ 12 + (d : Int) := by omega
          have hd16 : 12 + (d : Int) < 16 := by omega
          have hm16 : (m : Int) < 16 := by omega
          have hc1 : wr.cell? ⟨g, m, none⟩ = some (.int .u8 ((KF key).getD (16 * q + m) 0 : Nat)) := by
            rw [← kr_get key q (by omega)]
            exact blk_cell (HWAS.out.fr hF (Nat.ne_of_gt (by omega))) (by omega)
          have hc2 : wr.cell? ⟨g, 12 + d, none⟩ = some (.int .u8 ((KF key).getD (16 * q + (12 + d)) 0 : Nat)) := by
            rw [← kr_get key q (by omega)]
            exact blk_cell (HWAS.out.fr hF (Nat.ne_of_gt (by omega))) (by omega)
          have hy := KF_byt hkb (16 * q + (12 + d))
          have hc3 : wr.cell? ⟨w.heap.size + 1, (KF key).getD (16 * q + (12 + d)) 0, none⟩ = some (.int .u8 (sb ((KF key).getD (16 * q + (12 + d)) 0) : Nat)) := blk_cell (HT1.out.fr hF (Nat.ne_of_lt (by omega))) (by rw [length_sbox]; exact hy)
          have hfz : wr.frozen? ⟨w.heap.size + 1 + 1 + 1, (q + 1) * 16 + m, none⟩ = false := hX.frozen _
          obtain ⟨u, hxc⟩ : ∃ u, wr.cell? ⟨w.heap.size + 1 + 1 + 1, (q + 1) * 16 + m, none⟩ = some u := ⟨_, blk_cell hX (by omega)⟩
          have hX2 := hX.set_ ((q + 1) * 16 + m) (.int .u8 ((KF key).getD (16 * q + m) 0 ^^^ sb ((KF key).getD (16 * q + (12 + d)) 0) : Nat))
          rw [nbs_arr_set, hd, show (q + 1) * 16 + m = 16 * (q + 1) + m by omega, xp_next hk hlt hlm, ← hd, show 16 * (q + 1) + m = (q + 1) * 16 + m by omega] at hX2
          have HXR := Lib.hid (u8_xor_nat _ _ (KF_byt hkb (16 * q + m)) (sb_lt ((KF key).getD (16 * q + (12 + d)) 0)))
          have HX2 := Lib.hid hX2; clear hX2 hX hd
          generalize (KF key).getD (16 * q + (12 + d)) 0 = y at *
          generalize (KF key).getD (16 * q + m) 0 = x at *
          generalize sb y = v at *
          have hyi : (y : Int) < 256 := by omega
          go_wp2_with fail
          refine region_plan [(0, true), (1, true), (2, true), (3, true), (4, true), (5, true), (6, true), (7, true), (8, true), (9, true), (10, true), (11, true), (12, true), (13, true), (14, true), (15, true), (16, false)] [1, 2, 3, 4, 5, 6, 7, 8, 9, 10, 11, 12, 13, 14] (fun w' => w'.cell? ⟨g, m, none⟩ = some (.int .u8 x) ∧ w'.cell? ⟨g, 12 + d, none⟩ = some (.int .u8 y) ∧ w'.cell? ⟨w.heap.size + 1, y, none⟩ = some (.int .u8 v)) (by kernel_rfl) (by kernel_rfl) rfl (by kernel_rfl) ⟨hc1, hc2, hc3⟩ (fun hS => ?_)
          repeat (first
            | (refine plan_read (v := ?_) rfl (fun _ _ _ h => h) rfl hS ?_ ?_; rotate_left 1; (focus (intro w' hS'; obtain ⟨hc1, hc2, hc3⟩ := hS'; go_simp; try rfl)); simp only [Act.put, List.setIfInBounds_toArray, List.set_cons_zero, List.set_cons_succ])
            | (refine plan_skip rfl (fun _ _ _ h => h) rfl hS ?_; simp only [Act.put, List.setIfInBounds_toArray, List.set_cons_zero, List.set_cons_succ]))
          refine plan_do (by rfl) (by rfl) (fun K hK => ?_)
          go_simp
          rw [HXR.out]
          refine hK.out _ _ (fun h => by cases h) (fun _ => ?_); clear hK K; try simp only [Act.put, List.setIfInBounds_toArray, List.set_cons_zero, List.set_cons_succ]
          refine plan_nil ?_
          go_wp2_with fail
          go_roundw
          case rel => exact ⟨m + 1, by omega, by go_num, HX2.out, (hF.trans (Fr.setCell (F := (· = w.heap.size + 1 + 1 + 1)) _ _ _ rfl) (fun k _ h => h)).drew⟩
          case measure => simp [intOf]; omega
        · obtain rfl : m = 4 := by omega
          have hc1 : wr.cell? ⟨w.heap.size + 1 + 1 + 1, (q + 1) * 16, none⟩ = some (.int .u8 ((KF key).getD (16 * (q + 1)) 0 ^^^ pw q : Nat)) := by
            rw [← xp_get key hlt, show (q + 1) * 16 = 16 * (q + 1) by omega]
            exact blk_cell hX (by omega)
          have hfz : wr.frozen? ⟨w.heap.size + 1 + 1 + 1, (q + 1) * 16, none⟩ = false := hX.frozen _
          have hX2 := hX.set_ (16 * (q + 1)) (.int .u8 ((KF key).getD (16 * (q + 1)) 0 ^^^ pw q ^^^ pw q : Nat))
          rw [nbs_arr_set, xp_power key hlt, show 16 * (q + 1) = (q + 1) * 16 by omega] at hX2
          have HXR := Lib.hid (u8_xor_nat _ _ (xor_lt (KF_byt hkb (16 * (q + 1))) (pw_lt q)) (pw_lt q))
          rw [show (KF key).getD ((q + 1) * 16) 0 = (KF key).getD (16 * (q + 1)) 0 by rw [Nat.mul_comm]] at hX2
          have HX2 := Lib.hid hX2; clear hX2 hX
          generalize (KF key).getD (16 * (q + 1)) 0 ^^^ pw q = x at *
          go_wp2_with fail
          refine region_plan [(0, true), (1, true), (2, true), (3, true), (4, true), (5, true), (6, true), (7, true), (8, false)] [4, 6] (fun w' => w'.cell? ⟨w.heap.size + 1 + 1 + 1, (q + 1) * 16, none⟩ = some (.int .u8 x)) (by kernel_rfl) (by kernel_rfl) rfl (by kernel_rfl) hc1 (fun hS => ?_)
          repeat (first
            | (refine plan_read (v := ?_) rfl (fun _ _ _ h => h) rfl hS ?_ ?_; rotate_left 1; (focus (intro w' hS'; go_simp; try rfl)); simp only [Act.put, List.setIfInBounds_toArray, List.set_cons_zero, List.set_cons_succ])
            | (refine plan_skip rfl (fun _ _ _ h => h) rfl hS ?_; simp only [Act.put, List.setIfInBounds_toArray, List.set_cons_zero, List.set_cons_succ]))
          refine plan_do (by rfl) (by rfl) (fun K hK => ?_)
          go_simp
          rw [HXR.out]
          refine hK.out _ _ (fun h => by cases h) (fun _ => ?_); clear hK K; try simp only [Act.put, List.setIfInBounds_toArray, List.set_cons_zero, List.set_cons_succ]
          refine plan_nil ?_
          have hF2 : Fr (· = w.heap.size + 1 + 1 + 1) W1 (wr.setCell ⟨w.heap.size + 1 + 1 + 1, (q + 1) * 16, none⟩ (.int .u8 (x ^^^ pw q : Nat))).drew := (hF.trans (Fr.setCell (F := (· = w.heap.size + 1 + 1 + 1)) _ _ _ rfl) (fun k _ h => h)).drew
          have HF2 := Lib.hid hF2; clear hF2 hF
          go_wp2_with fail
          go_loopw [11] (fun i wq => ∃ m : Nat, m ≤ 12 ∧ i = .int .i64 ((m : Int) + 4) ∧ Blk wq (w.heap.size + 1 + 1 + 1) 41 (nbs (xo key (16 * (q + 1) + (m + 4)))).toArray ∧ Fr (· = w.heap.size + 1 + 1 + 1) W1 wq) (fun i _ => 16 - (intOf i).toNat)
          case atStart => exact ⟨0, by omega, rfl, by rw [show 16 * (q + 1) + (0 + 4) = (q + 1) * 16 + 4 by omega]; exact HX2.out, HF2.out⟩
          case round =>
            obtain ⟨m, hm, rfl, hX, hF⟩ := hrel
            have hxpl : (xo key (16 * (q + 1) + (m + 4))).length = 176 := tab_length _ _
            by_cases hlm : m < 12
            · have hlmi : (m : Int) + 4 < 16 := by omega
              have hw1 : IntKind.i64.wrap ((m : Int) + 4 - 4) = (m : Int) := by rw [show (m : Int) + 4 - 4 = m by omega]; exact IntWalk.i64_in _ (by omega)
              have hw2 : IntKind.i64.wrap (m : Int) = (m : Int) := IntWalk.i64_in _ (by omega)
              have hn2 : ((m : Int) + 4).toNat = m + 4 := by omega
              have hd0 : (0 : Int) ≤ (m : Int) + 4 := by omega
              have hm16 : (m : Int) < 16 := by omega
              have hc1 : wr.cell? ⟨g, m + 4, none⟩ = some (.int .u8 ((KF key).getD (16 * q + (m + 4)) 0 : Nat)) := by
                rw [← kr_get key q (by omega)]
                exact blk_cell (HWAS.out.fr hF (Nat.ne_of_gt (by omega))) (by omega)
              have hc2 : wr.cell? ⟨w.heap.size + 1 + 1 + 1, (q + 1) * 16 + m, none⟩ = some (.int .u8 ((KF key).getD (16 * (q + 1) + m) 0 : Nat)) := by
                rw [← xo_get key (show 16 * (q + 1) + m < 16 * (q + 1) + (m + 4) by omega) (by omega), show (q + 1) * 16 + m = 16 * (q + 1) + m by omega]
                exact blk_cell hX (by omega)
              have hfz : wr.frozen? ⟨w.heap.size + 1 + 1 + 1, (q + 1) * 16 + (m + 4), none⟩ = false := hX.frozen _
              obtain ⟨u, hxc⟩ : ∃ u, wr.cell? ⟨w.heap.size + 1 + 1 + 1, (q + 1) * 16 + (m + 4), none⟩ = some u := ⟨_, blk_cell hX (by omega)⟩
              have hX2 := hX.set_ (16 * (q + 1) + (m + 4)) (.int .u8 ((KF key).getD (16 * q + (m + 4)) 0 ^^^ (KF key).getD (16 * (q + 1) + m) 0 : Nat))
              have hnx := xo_next hk hlt (show 4 ≤ m + 4 by omega) (show m + 4 < 16 by omega)
              rw [show m + 4 - 4 = m by omega] at hnx
              rw [nbs_arr_set, hnx, show (16 * (q + 1) + (m + 4)) = (q + 1) * 16 + (m + 4) by omega] at hX2
              have HXR := Lib.hid (u8_xor_nat _ _ (KF_byt hkb (16 * q + (m + 4))) (KF_byt hkb (16 * (q + 1) + m)))
              have HX2 := Lib.hid hX2; clear hX2 hX hnx
              generalize (KF key).getD (16 * q + (m + 4)) 0 = x at *
              generalize (KF key).getD (16 * (q + 1) + m) 0 = y at *
              go_wp2_with fail
              refine region_plan [(0, true), (1, true), (2, true), (3, true), (4, true), (5, true), (6, true), (7, true), (8, true), (9, true), (10, true), (11, true), (12, true), (13, true), (14, false)] [1, 2, 3, 4, 5, 6, 7, 8, 9, 10, 11, 12] (fun w' => w'.cell? ⟨g, m + 4, none⟩ = some (.int .u8 x) ∧ w'.cell? ⟨w.heap.size + 1 + 1 + 1, (q + 1) * 16 + m, none⟩ = some (.int .u8 y)) (by kernel_rfl) (by kernel_rfl) rfl (by kernel_rfl) ⟨hc1, hc2⟩ (fun hS => ?_)
              repeat (first
                | (refine plan_read (v := ?_) rfl (fun _ _ _ h => h) rfl hS ?_ ?_; rotate_left 1; (focus (intro w' hS'; obtain ⟨hc1, hc2⟩ := hS'; go_simp; try rfl)); simp only [Act.put, List.setIfInBounds_toArray, List.set_cons_zero, List.set_cons_succ])
                | (refine plan_skip rfl (fun _ _ _ h => h) rfl hS ?_; simp only [Act.put, List.setIfInBounds_toArray, List.set_cons_zero, List.set_cons_succ]))
              refine plan_do (by rfl) (by rfl) (fun K hK => ?_)
              go_simp
              rw [HXR.out]
              refine hK.out _ _ (fun h => by cases h) (fun _ => ?_); clear hK K; try simp only [Act.put, List.setIfInBounds_toArray, List.set_cons_zero, List.set_cons_succ]
              refine plan_nil ?_
              go_wp2_with fail
              go_roundw
              case rel => exact ⟨m + 1, by omega, by go_num, by rw [show m + 1 + 4 = m + 4 + 1 by omega]; exact HX2.out, (hF.trans (Fr.setCell (F := (· = w.heap.size + 1 + 1 + 1)) _ _ _ rfl) (fun k _ h => h)).drew⟩
              case measure => simp [intOf]; omega
            · obtain rfl : m = 12 := by omega
              have HXX := Lib.hid hX; clear hX
              go_wp2_with fail
              refine (dbl_any (pw q) (pw_lt q) _).mono ?_
              rintro e w' ⟨rfl, rfl⟩
              go_wp2_with fail
              go_roundw
              case rel => exact ⟨q + 1, by omega, by go_num, rfl, HT1.out.fr hF (Nat.ne_of_lt (by omega)), HR1.out.fr hF (Nat.ne_of_lt (by omega)), by rw [show 16 * (q + 1 + 1) = 16 * (q + 1) + (12 + 4) by omega]; exact HXX.out, hbel1.trans (hF.below hbel1.size (fun k hk => hk ▸ (by omega)))⟩
              case measure => simp [intOf]; omega
    · obtain rfl : q = 10 := by omega
      have hlen : (nbs (xo key 176)).toArray.size = 176 := by rw [nbs_size, xo, tab_length]
      have hzl : z.size = 176 := by rw [HZ.out, nbs_size, tab_length]
      obtain ⟨C, hC⟩ : ∃ C, C = (nbs (xo key 176)).toArray := ⟨_, rfl⟩
      have hO : Blk wr (w.heap.size + 1 + 1 + 1) 41 (nbs (xo key 176)).toArray := hO
      rw [← hC] at hlen hO
      have HC := Lib.hid hC; clear hC
      go_wp2_with (first
        | (refine wpList_load_row rfl 41 (.tmp 5) rfl (w.heap.size + 1 + 1 + 1) rfl 41 _ (0, 0) _ hO Try.underlying41 rfl (by rw [hlen]; exact HI176.out) ?_)
        | (refine wpList_store_row rfl 41 (.tmp 4) (.tmp 72) rfl (w.heap.size + 1 + 1) _ rfl rfl 41 _ hR (by rw [hlen]; exact HI176.out) (by rw [hlen]; exact hzl) (by rw [HC.out]; exact nbs_one _) ?_))
      refine bodyPost_ret (v := .agg C) (results_cell_row rfl _ _ (w.heap.size + 1 + 1) 41 C (0, 0) _ rfl ?_ Try.underlying41 rfl ?_) rfl ⟨?_, below_setRow hbel (by omega) _⟩
      · exact hR.setRow C
      · rw [hlen]; exact HI176.out
      · rw [HC.out, xo_all hk]
end Go.Proofs.Ytimaeghbjfialaa
