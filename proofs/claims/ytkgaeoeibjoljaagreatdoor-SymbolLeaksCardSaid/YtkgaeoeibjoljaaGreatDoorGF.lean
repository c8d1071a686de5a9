/-
  A slot is set.
  Put.
-/
import Derived.Test.YtkgaeoeibjoljaaGreatDoorGE
import Derived.Deep.MidRow
namespace Go.Proofs.YtkgaeoeibjoljaaGreatDoor
section
set_option maxRecDepth 4000
open Go.RowKit
theorem kcs_set : ∀ (E : List (Option Ke)) (k : Nat) (e : Option Ke), k < E.length -> ((((kcs E).set (k * 3) (.bool e.isSome)).set (k * 3 + 1) (.int .i64 (kbk e))).set (k * 3 + 2) (kval e)) = kcs (E.set k e)
 | [], k, e, h => by simp at h
 | x :: E, 0, e, h => by
   show ((((keCells x ++ kcs E).set (0 * 3) _).set (0 * 3 + 1) _).set (0 * 3 + 2) _) = keCells e ++ kcs E
   rw [keCells_eq x, keCells_eq e]
   rfl
 | x :: E, k + 1, e, h => by
   have ih := kcs_set E k e (by simpa using h)
   show ((((keCells x ++ kcs E).set ((k + 1) * 3) _).set ((k + 1) * 3 + 1) _).set ((k + 1) * 3 + 2) _) = keCells x ++ kcs (E.set k e)
   rw [<- ih, keCells_eq x, show (k + 1) * 3 = k * 3 + 1 + 1 + 1 by omega]
   rfl
theorem blk_slot {w : World} {sg : Nat} {E : List (Option Ke)} (h : Blk w sg 160 (kcs E).toArray) (k : Nat) (e : Option Ke) (hk : k < E.length) :
  Blk (w.setCells sg (k * 3) (keCells e)) sg 160 (kcs (E.set k e)).toArray /\ Fr (· = sg) w (w.setCells sg (k * 3) (keCells e)) := by
 rw [keCells_eq e]
 refine ⟨?_, ?_⟩
 ·have := ((h.set_ (k * 3) (.bool e.isSome)).set_ (k * 3 + 1) (.int .i64 (kbk e))).set_ (k * 3 + 2) (kval e)
  simp only [List.setIfInBounds_toArray, kcs_set E k e hk] at this
  exact this
 ·have f1 : Fr (· = sg) w (w.setCell ⟨sg, k * 3, none⟩ (.bool e.isSome)) := Fr.setCell _ _ _ rfl
  have f2 := f1.trans (Fr.setCell (F := (· = sg)) _ ⟨sg, k * 3 + 1, none⟩ (.int .i64 (kbk e)) rfl) (fun _ _ h => h)
  exact f2.trans (Fr.setCell (F := (· = sg)) _ ⟨sg, k * 3 + 2, none⟩ (kval e) rfl) (fun _ _ h => h)
theorem KAt.there {w : World} {t b sg : Nat} {from_ : Int} {E : List (Option Ke)} {dead : Bool} {K : Nat -> Prop} (h : KAt w t b sg from_ E dead K) (k : Nat) (hk : k < E.length) : w.there sg (k * 3) 3 := fun j hj => by
 refine ⟨?_, h.row.frozen _⟩
 rw [h.row.cell, List.getElem?_toArray, List.getElem?_eq_getElem (by rw [kcs_length]; omega)]
 rfl
def KeyIn (w : World) (K : Nat -> Prop) : Option Ke -> Prop
 | none => True
 | some e => w.ownsRow 0 5 1 (.slice (some ⟨e.g, 0, none⟩) 32 e.cap) 32 (u8s e.key) /\ e.key.length = 32 /\ ¬ K e.g
theorem KSt.slot {w : World} {t b sg : Nat} {from_ : Int} {E : List (Option Ke)} {dead : Bool} {D : Dk} {F K G : Nat -> Prop} (h : KSt w t b sg from_ E dead D F K G) (k : Nat) (hk : k < E.length) (e : Option Ke) (he : KeyIn w K e) (hF : ∀ x, e = some x -> ¬ F x.g) :
  ∃ K', KSt (w.setCells sg (k * 3) (keCells e)) t b sg from_ (E.set k e) dead D F K' (fun j => G j \/ ∃ x, e = some x /\ x.g = j) /\ Fr G w (w.setCells sg (k * 3) (keCells e)) := by
 obtain ⟨hb, hf⟩ := blk_slot h.tab.row k e hk
 have htn : t ≠ sg := h.tab.top.same h.tab.row (by decide)
 have hz := hf.size
 refine ⟨fun j => K j \/ ∃ x, e = some x /\ x.g = j, ⟨h.disk.fr hf (fun k hk e => h.apart k hk (e ▸ h.tab.sin)), ⟨?_, hb, ?_, ?_, .inl h.tab.tin, .inl h.tab.sin⟩, ?_, ?_, ?_⟩, hf.mono (fun j _ e => by subst e; exact (h.kin _ h.tab.sin).1)⟩
 ·rw [List.length_set]
  exact h.tab.top.keep (hf.block t h.tab.top.lt htn)
 ·intro x hx
  rcases List.mem_or_eq_of_mem_set hx with hx | hx
  ·obtain ⟨a1, a2, a3⟩ := h.tab.keys x hx
   exact ⟨own_fr a1 hf (own_ne a1 h.tab.row (by decide)), .inl a2, a3⟩
  ·subst hx
   obtain ⟨a1, a2, a3⟩ := he
   exact ⟨own_fr a1 hf (own_ne a1 h.tab.row (by decide)), .inr ⟨x, rfl, rfl⟩, a2⟩
 ·intro i j x y hi hj hg
  rw [List.getElem?_set] at hi hj
  split at hi
  ·rename_i hki
   split at hj
   ·rename_i hkj
    omega
   ·injection hi with hi
    subst hi
    exact absurd (hg ▸ (h.tab.keys y (List.mem_of_getElem? hj)).2.1) he.2.2
  ·split at hj
   ·injection hj with hj
    subst hj
    exact absurd (hg ▸ (h.tab.keys x (List.mem_of_getElem? hi)).2.1) he.2.2
   ·exact h.tab.once i j x y hi hj hg
 ·rintro j hj (hK | ⟨x, rfl, rfl⟩)
  ·exact h.apart j hj hK
  ·exact hF x rfl hj
 ·intro j hj
  exact ⟨.inl (h.fin j hj).1, Nat.lt_of_lt_of_le (h.fin j hj).2 hz⟩
 ·rintro j (hK | ⟨x, rfl, rfl⟩)
  ·exact ⟨.inl (h.kin j hK).1, Nat.lt_of_lt_of_le (h.kin j hK).2 hz⟩
  ·exact ⟨.inr ⟨x, rfl, rfl⟩, Nat.lt_of_lt_of_le (he.1.lt x.g rfl).2 hz⟩
end
section
set_option maxRecDepth 4000
open Go.RowKit
theorem KSt.tight {w : World} {t b sg : Nat} {from_ : Int} {E : List (Option Ke)} {dead : Bool} {D : Dk} {F K G : Nat -> Prop} (h : KSt w t b sg from_ E dead D F K G) : KSt w t b sg from_ E dead D F K (fun k => F k \/ K k) :=
 ⟨h.disk, h.tab, h.apart, fun k hk => ⟨.inl hk, (h.fin k hk).2⟩, fun k hk => ⟨.inr hk, (h.kin k hk).2⟩⟩
theorem KTo.widen {w w1 : World} {t b sg : Nat} {from_ : Int} {E : List (Option Ke)} {dead : Bool} {D : Dk} {G G1 : Nat -> Prop} (h : KTo w G1 t b sg from_ E dead D w1) (hs : ∀ k, G1 k -> G k) : KTo w G t b sg from_ E dead D w1 := by
 obtain ⟨F', K', G', h1, h2, h3⟩ := h
 exact ⟨F', K', G', h1, h2.mono (fun k _ hk => hs k hk), fun k hk hg => hs k (h3 k hk hg)⟩
theorem sees_lt {w : World} {ad : Addr} {n : Nat} {xs : List Value} (h : Sees w 1 (some ad) n xs) (h0 : 0 < n) : ad.block < w.heap.size := by
 obtain ⟨g, o, e, hc⟩ := h.2 (by omega)
 injection e with e
 subst e
 have hl := h.1
 obtain ⟨u, hu⟩ : ∃ u, xs[0]? = some u := ⟨_, List.getElem?_eq_getElem (by omega)⟩
 exact World.block_lt_of_cell? w _ (hc 0 u hu)
set_option maxHeartbeats 1000000 in
theorem kput_any (t b sg : Nat) (f : Nat) (E : List (Option Ke)) (D : Dk) (F K G : Nat -> Prop) (x : Nat) (l : List UInt8) (ad : Addr) (c : Nat) (w : World)
  (h : KSt w t b sg f E false D F K G) (hok : D.Ok) (hq : D.queue.length <= 900) (hf : f <= 1000000) (hE : E.length <= 1000) (hfit : (f + 2 * E.length) * 128 <= D.safe.length)
  (hx : x <= 1099511627776) (hl : l.length = 32) (hS : Sees w 1 (some ad) 32 (u8s l)) (hA : ¬ F ad.block /\ ¬ K ad.block) (hno : ∀ e, some e ∈ E -> e.buck ≠ x) (hfr : none ∈ E) :
  Calls Tryz.prog 80 #[.pointer (some ⟨t, 0, none⟩), .int .i64 x, .slice (some ad) 32 c] w fun e w' => ∃ (k : Nat) (v : Value), E[k]? = some none /\ e = .returned v /\ ErrIs (D.twoOk (f + 2 * k) (keyo x l)) v /\
   ((D.twoOk (f + 2 * k) (keyo x l) = true /\ ∃ e' : Ke, e'.buck = x /\ e'.key = l /\ KTo w G t b sg f (E.set k (some e')) false (D.two (f + 2 * k) (keyo x l)) w') \/
    (D.twoOk (f + 2 * k) (keyo x l) = false /\ KTo w G t b sg f E true (D.two (f + 2 * k) (keyo x l)) w')) := by
 obtain ⟨L, hLe⟩ : ∃ L, L = keyo x l := ⟨_, rfl⟩
 have hLl : L.length = 128 := by rw [hLe]; exact keyo_length x l hl
 have c2 : w.cell? ⟨t, 2, none⟩ = some (.slice (some ⟨sg, 0, none⟩) E.length E.length) := h.tab.top.cell 2
 have HI := Lh (index_free (some ⟨sg, 0, none⟩) E E.length w h.tab.sees (by omega))
 have HR := Lh (fun w => kright_any x (some ad) 32 c w)
 rw [decide_eq_true (show keyRight (x : Int) 32 from ⟨by omega, by omega, rfl⟩)] at HR
 have HFD := Lh (fun w h => kfind_any t b sg f E false K x w h hE)
 have HO := Lh (fun w hS => koctets_any x l (some ad) c w hx hl hS)
 rw [<- hLe] at HO ⊢
 clear hLe
 have HH := Lh (Ai h hS)
 have HN := Lh (Ai hno hfr)
 clear h hS hno hfr
 go_enter Tryz.func80, Tryz.ntmps80
 go_wp2_with fail
 refine HI.out.mono ?_
 rintro e w1 ⟨⟨r, rfl, hr⟩, hb1⟩
 have hk : ∃ k : Nat, r = k /\ E[k]? = some none := by
  rcases hr with ⟨-, hno⟩ | ⟨k, e, rfl, hk, he⟩
  ·exact absurd rfl (hno none HN.out.2)
  ·match e, he, hk with
   | none, _, hk => exact ⟨k, rfl, hk⟩
 obtain ⟨k, rfl, hk⟩ := hk
 have hkl := (List.getElem?_eq_some_iff.1 hk).1
 have H1 := Lh (Ai (HH.out.1.below hb1) (Ai (HH.out.2.below hb1) hb1))
 have c3 : w1.cell? ⟨t, 3, none⟩ = some (.bool false) := H1.out.1.tab.top.cell 3
 have HK := Lh hk
 clear hr hb1 HI HH c2 hk
 go_wp2_with fail
 refine (HR.out _).mono ?_
 rintro e w2 ⟨rfl, rfl⟩
 go_wp2_with fail
 refine (HFD.out _ H1.out.1.tab).mono ?_
 rintro e w2 ⟨⟨r, rfl, hr⟩, hb2⟩
 have hr1 : r = -1 := by
  rcases hr with ⟨rfl, -⟩ | ⟨j, e, rfl, hj, he⟩
  ·rfl
  ·exact absurd he (HN.out.1 e (List.mem_of_getElem? hj))
 subst hr1
 have H2 := Lh (Ai (H1.out.1.below hb2) (Ai (H1.out.2.1.below hb2) (H1.out.2.2.trans (hb2.mono H1.out.2.2.size))))
 clear hr hb2 H1 c3 HFD HR
 go_wp2_with fail
 have hadl := sees_lt H2.out.2.1 (by omega)
 have q2 : (f + 2 * k + 0 + 1) * 128 <= D.safe.length := Nat.le_trans (Nat.mul_le_mul_right _ (by omega)) hfit
 have q3 : (f + 2 * k + 1) * 128 <= D.safe.length := q2
 have q6 : (f + 2 * k + 1 + 1) * 128 <= D.safe.length := Nat.le_trans (Nat.mul_le_mul_right _ (by omega)) hfit
 have hl1 := hok.lay (f + 2 * k) L (Nat.le_of_eq hLl.symm) q3
 have hl2 := D.lay_length hok (f + 2 * k) L (Nat.le_of_eq hLl.symm) q3
 have hl3 := D.lay_queue (f + 2 * k) L
 have q1 : D.queue.length <= 1000 := Nat.le_trans hq (by decide)
 have hk1 : k <= 1000000 := by omega
 have HL1 := Lh (fun F K G A c w h h3 h4 h5 h6 => lay_any t b sg f E false D F K G k 0 A c L w h hok q1 hLl h3 h4 h5 h6 hf hk1 (Nat.zero_le _) q2)
 obtain ⟨D1, hD1⟩ : ∃ D1, D1 = D.lay (f + 2 * k) L := ⟨_, rfl⟩
 have HT2 := Lh (show D.two (f + 2 * k) L = if D.layOk then D1.lay (f + 2 * k + 1) L else D1 by rw [hD1]; rfl)
 have HT3 := Lh (show D.twoOk (f + 2 * k) L = (D.layOk && D1.layOk) by rw [hD1]; rfl)
 rw [Nat.add_zero, <- hD1] at HL1
 rw [<- hD1] at hl1 hl2 hl3
 have q4 : D1.queue.length <= 1000 := Nat.le_trans hl3 (Nat.le_trans (Nat.succ_le_succ hq) (by decide))
 have q5 : (f + 2 * k + 1 + 1) * 128 <= D1.safe.length := hl2 ▸ q6
 have HL2 := Lh (fun F K G A c w h h3 h4 h5 h6 => lay_any t b sg f E false D1 F K G k 1 A c L w h hl1 q4 hLl h3 h4 h5 h6 hf hk1 (Nat.le_refl _) q5)
 clear hD1 q1 q2 q3 q4 q5 q6 hl1 hl2 hl3 hok hq hfit
 generalize D1.lay (f + 2 * k + 1) L = D2' at *
 refine wp_loop_rounds 3 ?_
 rw [rounds_succ]
 go_wp2_with fail
 refine (HO.out _ H2.out.2.1).mono ?_
 rintro e w3 ⟨v3, rfl, ho3, hb3⟩
 obtain ⟨g3, c3', cur3, rfl, hg3, -, hc3, hcm3, -⟩ := own_open ho3 (by omega)
 have st3 := (H2.out.1.below hb3).tight
 have HX := Lh (HL1.out _ _ _ (some ⟨g3, 0, none⟩) c3' w3 st3 hc3 hcm3 (Sees.of_own ho3) (fun a ha hF => by injection ha with ha; subst ha; exact absurd (H2.out.1.fin _ hF).2 (Nat.not_lt.2 hg3)))
 have H3 := Lh (Ai (H2.out.2.1.below hb3) (H2.out.2.2.trans (hb3.mono H2.out.2.2.size)))
 have hs3 := hb3.size
 clear ho3 hb3 hc3 hcm3 hg3 st3 HL1
 go_wp2_with fail
 refine HX.out.mono ?_
 rintro e w4 ⟨⟨v4, rfl, hv4⟩, hto4⟩
 have HT4 := Lh hto4
 clear hto4 HX
 rcases hv4 with ⟨hok4, rfl⟩ | ⟨hok4, g4, rfl⟩
 ·have hd4 : (false || !D.layOk) = false := by rw [hok4]; rfl
  rw [hd4] at HT4
  rw [hok4] at HT2 HT3
  obtain ⟨F1, K1, G1, st4, fr4, sub4⟩ := HT4.out
  have s4 : Sees w4 1 (some ad) 32 (u8s l) := H3.out.1.fr fr4 (fun _ a ha hF => by injection ha with ha; subst ha; exact hF.elim hA.1 hA.2)
  have HOX := Lh (HO.out _ s4)
  have hn4 : ¬ G1 ad.block := fun hg => (sub4 _ (Nat.lt_of_lt_of_le hadl hs3) hg).elim hA.1 hA.2
  have H4 := Lh (Ai st4 (Ai fr4 (Ai sub4 s4)))
  clear st4 fr4 sub4 s4 HT4 hd4
  go_wp2_with fail
  rw [rounds_succ]
  go_wp2_with fail
  refine HOX.out.mono ?_
  rintro e w5 ⟨v5, rfl, ho5, hb5⟩
  obtain ⟨g5, c5', cur5, rfl, hg5, -, hc5, hcm5, -⟩ := own_open ho5 (by omega)
  have HX := Lh (HL2.out _ _ _ (some ⟨g5, 0, none⟩) c5' w5 (H4.out.1.below hb5) hc5 hcm5 (Sees.of_own ho5) (fun a ha hF => by injection ha with ha; subst ha; exact absurd (H4.out.1.fin _ hF).2 (Nat.not_lt.2 hg5)))
  have H5 := Lh (Ai (H4.out.2.2.2.below hb5) hb5)
  have hs5 := hb5.size
  have hs4 := H4.out.2.1.size
  clear ho5 hb5 hc5 hcm5 hg5 HL2 HOX HO
  go_wp2_with fail
  refine HX.out.mono ?_
  rintro e w6 ⟨⟨v6, rfl, hv6⟩, hto6⟩
  have HT6 := Lh hto6
  have hFK : ∀ k, F k \/ K k -> G k := fun k h => h.elim (fun h => (H2.out.1.fin k h).1) (fun h => (H2.out.1.kin k h).1)
  have f04 : Fr G w w4 := (Fr.of_below H3.out.2 G).trans (H4.out.2.1.mono (fun k _ h => hFK k h)) (fun _ _ h => h)
  have s04 : ∀ k, k < w.heap.size -> G1 k -> G k := fun k hk hg => hFK k (H4.out.2.2.1 k (Nat.lt_of_lt_of_le hk H3.out.2.size) hg)
  have HT := Lh (KTo.after (f04.trans (Fr.of_below H5.out.2 G) (fun _ _ h => h)) s04 HT6.out)
  clear hto6 HX f04 s04
  rcases hv6 with ⟨hok6, rfl⟩ | ⟨hok6, g6, rfl⟩
  ·have hd6 : (false || !D1.layOk) = false := by rw [hok6]; rfl
   rw [hd6] at HT HT6
   rw [hok6] at HT3
   have s6 : Sees w6 1 (some ad) 32 (u8s l) := by
    obtain ⟨_, _, _, -, f6, -⟩ := HT6.out
    exact H5.out.1.fr f6 (fun _ a ha hF => by injection ha with ha; subst ha; exact hn4 hF)
   obtain ⟨F6, K6, G6, st6, fr6, sub6⟩ := HT.out
   have c6 : w6.cell? ⟨t, 2, none⟩ = some (.slice (some ⟨sg, 0, none⟩) E.length E.length) := st6.tab.top.cell 2
   have hkl' : (k : Int) < (E.length : Int) := by omega
   have H6 := Lh (Ai st6 (Ai fr6 (Ai sub6 s6)))
   have HC := Lh (fun w h => clone_any ad 32 c (u8s l) w h (u8s_one _) (by omega))
   clear st6 fr6 sub6 s6 HT HT6 H5 H4 H3 hn4
   go_wp2_with fail
   rw [rounds_succ]
   go_wp2_with fail
   refine region_fast [(0, true), (1, true), (2, true), (3, true), (4, true), (5, true), (6, true), (7, false), (8, true), (9, true), (10, false)] [4, 5, 6, 7, 8] 496 [(2251799813685248, 1, 0, 0), (4503599627370496, 2251799813685248, 1, 1), (9007199254740992, 4503599627370496, 2, 3), (18014398509481984, 9007199254740992, 4, 7), (36028797018963968, 128, 0, 0), (72057594037927936, 2, 0, 0), (144115188075855872, 4, 0, 0), (288230376151711744, 144115188075855872, 64, 64), (576460752303423488, 360287970189639680, 160, 224), (1152921504606846976, 54043195528445952, 511, 511), (0, 1729382256910270464, 1023, 1023)] (fun W => W.cell? ⟨t, 2, none⟩ = some (.slice (some ⟨sg, 0, none⟩) E.length E.length) /\ Sees W 1 (some ad) 32 (u8s l)) (by kernel_rfl) (by kernel_rfl) (by kernel_rfl) rfl (by kernel_rfl) (by kernel_rfl) ⟨c6, H6.out.2.2.2⟩ (fun hS => ?_)
   repeat (first
    | (refine plan_read (v := ?_) rfl (fun _ _ _ h => h) rfl hS ?_ ?_; rotate_left 1; (focus (intro w' hS'; have q0 := hS'.1; have q1 := hS'.2; go_simp; try rfl)); (simp only [Act.put, pu1]; dsimp only [pu2, pu3]))
    | (refine plan_skip rfl (fun _ _ _ h => h) rfl hS ?_; (simp only [Act.put, pu1]; dsimp only [pu2, pu3])))
   refine plan_do (by rfl) (by rfl) (fun K hK => ?_)
   go_simp
   refine (HC.out _ hS.2).mono ?_
   rintro e w7 ⟨v7, rfl, ho7, hb7⟩
   obtain ⟨g7, c7', cur7, rfl, hg7, -, -, -, -⟩ := own_open ho7 (by omega)
   have hb7' := below_of_drew hb7
   have H7 := Lh (Ai (H6.out.1.below hb7') (Ai (H6.out.2.1.trans (Fr.of_below hb7' G) (fun _ _ h => h)) (Ai H6.out.2.2.1 (own_base (base' := 0) ho7 (Nat.zero_le _)))))
   have d7 : w7.cell? ⟨t, 2, none⟩ = some (.slice (some ⟨sg, 0, none⟩) E.length E.length) := H7.out.1.tab.top.cell 2
   have s7 : Sees w7 1 (some ad) 32 (u8s l) := H6.out.2.2.2.below hb7'
   have hgG : w6.heap.size <= g7 := hg7
   clear ho7 hb7 hb7' hg7 HC c6
   clear hS
   refine hK.out _ _ (fun _ => Ai d7 s7) (fun hS => ?_); clear hK K; replace hS := hS rfl; try (simp only [Act.put, pu1]; dsimp only [pu2, pu3])
   repeat (first
    | (refine plan_read (v := ?_) rfl (fun _ _ _ h => h) rfl hS ?_ ?_; rotate_left 1; (focus (intro w' hS'; have q0 := hS'.1; have q1 := hS'.2; go_simp; try rfl)); (simp only [Act.put, pu1]; dsimp only [pu2, pu3]))
    | (refine plan_skip rfl (fun _ _ _ h => h) rfl hS ?_; (simp only [Act.put, pu1]; dsimp only [pu2, pu3])))
   refine plan_do (by rfl) (by rfl) (fun K hK => ?_)
   have hsl := H7.out.1.slot k hkl (some ⟨x, g7, c7', l⟩) ⟨H7.out.2.2.2, hl, fun hK => absurd (H6.out.1.kin g7 hK).2 (Nat.not_lt.2 hgG)⟩ (fun y hy hF => by injection hy with hy; subst hy; exact absurd (H6.out.1.fin g7 hF).2 (Nat.not_lt.2 hgG))
   have HTH := Lh (H7.out.1.tab.there k hkl)
   have HSL := Lh hsl
   have HSZ := Lh (show (Tryz.prog.info? 160).map (·.size) = some 3 by kernel_rfl)
   clear hsl
   refine wp_store_mid 160 (.tmp 60) (.tmp 59) rfl sg (k * 3) #[.bool true, .int .i64 x, .slice (some ⟨g7, 0, none⟩) 32 c7'] rfl rfl HTH.out HSZ.out (by simp [Value.oneCell']) ?_
   refine hK.out _ _ (fun h => by cases h) (fun _ => ?_); clear hK K; try (simp only [Act.put, pu1]; dsimp only [pu2, pu3])
   try refine plan_nil ?_
   go_wp2_with fail
   go_ret
   obtain ⟨K8, st8, fr8⟩ := HSL.out
   refine ⟨k, HK.out, _, rfl, by rw [HT3.out]; exact .inl ⟨rfl, rfl⟩, .inl ⟨by rw [HT3.out]; rfl, ⟨x, g7, c7', l⟩, rfl, rfl, ?_⟩⟩
   rw [HT2.out]
   have hw6 := H6.out.2.1.size
   refine ⟨F6, K8, _, st8, H7.out.2.1.trans fr8 (fun j hj hg => H7.out.2.2.1 j hj hg), fun j hj hg => ?_⟩
   rcases hg with hg | ⟨y, hy, hyg⟩
   ·exact H7.out.2.2.1 j hj hg
   ·injection hy with hy
    subst hy
    subst hyg
    exact absurd (Nat.lt_of_lt_of_le hj hw6) (Nat.not_lt.2 hgG)
  ·have hd6 : (false || !D1.layOk) = true := by rw [hok6]; rfl
   rw [hd6] at HT
   rw [hok6] at HT3
   go_wp2_with fail
   go_ret
   exact ⟨k, _, HK.out, rfl, by rw [HT3.out]; exact .inr ⟨rfl, g6, rfl⟩, .inr ⟨by rw [HT3.out]; rfl, by rw [HT2.out]; exact HT.out⟩⟩
 ·have hd4 : (false || !D.layOk) = true := by rw [hok4]; rfl
  rw [hd4] at HT4
  rw [hok4] at HT2 HT3
  have hFK : ∀ k, F k \/ K k -> G k := fun k h => h.elim (fun h => (H2.out.1.fin k h).1) (fun h => (H2.out.1.kin k h).1)
  have HT := Lh (KTo.after (Fr.of_below H3.out.2 G) (fun _ _ h => h) (HT4.out.widen hFK))
  clear hFK HT4
  go_wp2_with fail
  go_ret
  exact ⟨k, _, HK.out, rfl, by rw [HT3.out]; exact .inr ⟨rfl, g4, rfl⟩, .inr ⟨by rw [HT3.out]; rfl, by rw [HT2.out]; exact HT.out⟩⟩
end
end Go.Proofs.YtkgaeoeibjoljaaGreatDoor
