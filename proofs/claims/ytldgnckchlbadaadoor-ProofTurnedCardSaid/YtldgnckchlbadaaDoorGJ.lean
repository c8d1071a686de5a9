/-
  Parse, whatever the octets: the rows that it hands back.
  proof.Scan and proof.Prove, of any disk that is on.
  proof.Prove, of any disk that is on.
-/
import Derived.Test.YtldgnckchlbadaaDoorLog6
import Derived.Test.YtldgnckchlbadaaDoorLcP
import Derived.Test.YtldgnckchlbadaaDoorPf2
import Derived.Test.YtldgnckchlbadaaDoorLog9
namespace Go.Proofs.YtldgnckchlbadaaDoor
set_option maxRecDepth 4000
open Go.RowKit

theorem pz_chain (b : List UInt8) (k n : Nat) (c : List UInt8) (hc : c.length = 32) (hb : 128 ≤ b.length) : (pz b k n (pz0 c)).chain = chn c (pz b k n (pz0 c)).texts ∧ Fine (pz b k n (pz0 c)).texts := by
  obtain ⟨ts, rest, a1, a2, a3, _⟩ := pz_told b k n (pz0 c) rfl hc hb
  have e1 : (pz0 c).texts = [] := rfl
  rw [e1, List.nil_append] at a1
  rw [a1]
  exact ⟨a2, a3⟩

/-- Rows of octets, each of them owned. -/
def RowsOf (w : World) (base : Nat) (A : Option Addr) (m c : Nat) (M : List (List UInt8)) : Prop :=
  ∃ vs : List Pt, w.ownsRow base 35 1 (.slice A m c) m (vs.map Pt.val) ∧ vs.map (·.l) = M ∧ ∀ p ∈ vs, p.l.length = p.n ∧ w.ownsRow base 5 1 p.val p.n (u8s p.l)
theorem RowsOf.below {w w' : World} {base m c : Nat} {A : Option Addr} {M : List (List UInt8)} (h : RowsOf w base A m c M) (hb : Below w.heap.size w w') : RowsOf w' base A m c M := by
  obtain ⟨vs, h1, h2, h3⟩ := h
  exact ⟨vs, own_below h1 hb, h2, fun p hp => ⟨(h3 p hp).1, own_below (h3 p hp).2 hb⟩⟩
theorem RowsOf.lower {w : World} {base base' m c : Nat} {A : Option Addr} {M : List (List UInt8)} (h : RowsOf w base A m c M) (hb : base' ≤ base) : RowsOf w base' A m c M := by
  obtain ⟨vs, h1, h2, h3⟩ := h
  exact ⟨vs, own_base h1 hb, h2, fun p hp => ⟨(h3 p hp).1, own_base (h3 p hp).2 hb⟩⟩
theorem RowsOf.other {w w' : World} {base m c g : Nat} {A : Option Addr} {M : List (List UInt8)} {cs : Array Value} (h : RowsOf w base A m c M) (hg : Blk w g 97 cs) (hf : Fr (fun k => k = g) w w') : RowsOf w' base A m c M := by
  obtain ⟨vs, h1, h2, h3⟩ := h
  exact ⟨vs, own_fr h1 hf (own_ne h1 hg (by decide)), h2, fun p hp => ⟨(h3 p hp).1, own_fr (h3 p hp).2 hf (own_ne (h3 p hp).2 hg (by decide))⟩⟩
theorem RowsOf.len {w : World} {base m c : Nat} {A : Option Addr} {M : List (List UInt8)} (h : RowsOf w base A m c M) : M.length = m := by
  obtain ⟨vs, h1, h2, h3⟩ := h
  have := h1.1
  rw [List.length_map] at this
  rw [← h2, List.length_map]
  omega
theorem RowsOf.use {w : World} {base m c : Nat} {A : Option Addr} {M : List (List UInt8)} (h : RowsOf w base A m c M) : ∃ ps : List Pt, ps.length = m ∧ ps.map (·.l) = M ∧ Rws w A ps ∧ Pts w ps := by
  have hm := h.len
  obtain ⟨vs, h1, h2, h3⟩ := h
  have hl : vs.length = m := by rw [← hm, ← h2, List.length_map]
  refine ⟨vs, hl, h2, fun h0 => ?_, fun p hp => ⟨Sees.of_own (h3 p hp).2, (h3 p hp).1⟩⟩
  obtain ⟨g, off, e, hc⟩ := (Sees.of_own h1).2 (by omega)
  exact ⟨g, off, e, fun j p hj => hc j _ (by rw [List.getElem?_map, hj]; rfl)⟩
theorem RowsOf.nil (w : World) (base : Nat) : RowsOf w base none 0 0 [] := ⟨[], World.ownsRow_nil _ _ _ _, rfl, fun p hp => by cases hp⟩
theorem val_one (vs : List Pt) : ∀ u ∈ vs.map Pt.val, u.oneCell' = true := by
  intro u hu
  obtain ⟨c, _, rfl⟩ := List.mem_map.1 hu
  rfl
/-- One row of rows behind the other. -/
theorem RowsOf.add {w w' : World} {base m m' c : Nat} {A : Option Addr} {L M : List (List UInt8)} {vs vs2 : List Pt} (h1 : w.ownsRow base 35 1 (.slice A m c) m (vs.map Pt.val)) (h2 : vs.map (·.l) = L) (h3 : ∀ p ∈ vs, p.l.length = p.n ∧ w.ownsRow base 5 1 p.val p.n (u8s p.l))
    (g2 : vs2.map (·.l) = M) (g3 : ∀ p ∈ vs2, p.l.length = p.n ∧ w.ownsRow base 5 1 p.val p.n (u8s p.l)) {A5 : Option Addr} {c5 : Nat}
    (o1 : w'.ownsRow base 35 1 (.slice A5 (m + m') c5) (m + m') (vs.map Pt.val ++ vs2.map Pt.val)) (o2 : w.grownBy w' (Value.slice A m c).ownBlock) : RowsOf w' base A5 (m + m') c5 (L ++ M) := by
  have hf : Fr (fun k => (Value.slice A m c).ownBlock = some k) w w' := Fr.of_grown o2 (fun k h => h)
  refine ⟨vs ++ vs2, by rw [List.map_append]; exact o1, by rw [List.map_append, h2, g2], fun p hp => ?_⟩
  rcases List.mem_append.1 hp with hp | hp
  · exact ⟨(h3 p hp).1, own_fr (h3 p hp).2 hf (own_ne2 (h3 p hp).2 h1 (by decide))⟩
  · exact ⟨(g3 p hp).1, own_fr (g3 p hp).2 hf (own_ne2 (g3 p hp).2 h1 (by decide))⟩

theorem parse_rows (b l : List UInt8) (g off n c q k : Nat) (A : Option Addr) (c' : Nat) (w : World) (hb : Sees w 1 (some ⟨g, off, none⟩) n (u8s b)) (hn : b.length = n) (hnc : n ≤ c) (hn6 : n ≤ 1000000) (h128 : n % 128 = 0) (h256 : 256 ≤ n)
    (hA : Sees w 1 A 32 (u8s l)) (hl : l.length = 32) (hk : k ≤ 1000000000) (hq : q < 4294967296) (hT : Tab w) :
    Calls Tryd.prog 46 #[.slice (some ⟨g, off, none⟩) n c, .int .i64 q, .int .i64 k, .slice A 32 c'] w fun e w' => ∃ (A : Option Addr) (m cT : Nat) (C : Option Addr) (kk cC : Nat) (us : Nat),
      e = .returned (.tuple #[.agg #[.slice A m cT, .slice C kk cC, .bool (pref b (hd q k l) && (pz b k n (pz0 l)).sealed_), .int .i64 us], .bool (pref b (hd q k l))]) ∧ RowsOf w' w.heap.size A m cT (if pref b (hd q k l) = true then (pz b k n (pz0 l)).texts else []) ∧ Below w.heap.size w w' := by
  cases hp : pref b (hd q k l) with
  | true =>
    refine (parse_any b l g off n c q k A c' w hb hn hnc hn6 h128 h256 hA hl hk hq hp hT).mono ?_
    rintro e w' ⟨v, rfl, ⟨A, cT, C, cC, rfl, vs, v1, v2, v3, v4, v5⟩, bel⟩
    refine ⟨A, _, cT, C, 32, cC, _, by rw [Bool.true_and], ?_, bel⟩
    rw [if_pos rfl]
    exact ⟨vs, v2, v3, v4⟩
  | false =>
    refine (parse_not b l ⟨g, off, none⟩ n c q k A c' w hb hn hnc h128 h256 hA hl (by omega) hq hp).mono ?_
    rintro e w' ⟨rfl, bel⟩
    refine ⟨none, 0, 0, none, 0, 0, 0, by rw [Bool.false_and]; rfl, ?_, bel⟩
    rw [if_neg (by decide)]
    exact RowsOf.nil _ _
end Go.Proofs.YtldgnckchlbadaaDoor

namespace Go.Proofs.YtldgnckchlbadaaDoor
set_option maxRecDepth 4000
open Go.RowKit

theorem hdc_app (L M : List (List UInt8)) : hdc (L ++ M) = chn (hdc L) M := by
  have h : ∀ (M : List (List UInt8)) (c : List UInt8), M.foldl (fun c t => sha (c ++ t)) c = chn c M := by
    intro M
    induction M with
    | nil => intro c; rfl
    | cons t M ih => intro c; exact ih _
  unfold hdc
  rw [List.foldl_append, h M]

theorem scan_case {s1 TD : Lg} {j sg N : Nat} {z : Pz} {O : Bool} (hn : s1.n = N) (hj : j < sg) (e1 : TD = s1.scan j (sg - j)) (hz : z = pz (s1.seg j) s1.texts.length N (pz0 s1.chain)) (hO : O = pref (s1.seg j) (hd j s1.texts.length s1.chain)) :
    (O = true → (s1.scan1 j).1.texts = s1.texts ++ z.texts ∧ (s1.scan1 j).1.chain = z.chain) ∧ (O = true → z.sealed_ = true → TD = (s1.scan1 j).1.scan (j + 1) (sg - (j + 1))) ∧ (O = true → z.sealed_ = false → TD = (s1.scan1 j).1) ∧ (O = false → TD = s1) := by
  rw [show sg - j = (sg - (j + 1)) + 1 by omega] at e1
  rw [← hn] at hz
  refine ⟨fun h => ?_, fun h h2 => ?_, fun h h2 => ?_, fun h => ?_⟩
  · rw [h] at hO
    rw [Lg.scan1_yes hO.symm, ← hz]
    exact ⟨rfl, rfl⟩
  · rw [h] at hO
    rw [e1, Lg.scan_yes hO.symm, ← hz, if_pos h2]
  · rw [h] at hO
    rw [e1, Lg.scan_yes hO.symm, ← hz, if_neg (by rw [h2]; decide)]
  · rw [h] at hO
    rw [e1, Lg.scan_no hO.symm]

set_option maxHeartbeats 8000000 in
theorem pscan_any (b f sg sz : Nat) (D : Dk) (F : Nat → Prop) (w : World) (hD : DiskAt w b F D) (hDk : D.Ok) (hc : D.calls = -1) (hq : D.queue = []) (hf : f ≤ 1000000) (hsg : 1 ≤ sg ∧ sg ≤ 16) (hsz : 2 ≤ sz ∧ sz ≤ 16) (hfit : (f + sg * sz) * 128 ≤ D.safe.length) (hT : Tab w) (hKT : ∀ k, F k → k ≠ 1 ∧ k ≠ 0) :
    Calls Tryd.prog 37 #[.pointer (some ⟨b, 0, none⟩), .int .i64 f, .int .i64 sg, .int .i64 sz] w fun e w' => ∃ A c, e = .returned (.tuple #[.slice A (Lg.told sg sz (D.piece f (sg * sz))).texts.length c, .int .i64 0]) ∧ RowsOf w' w.heap.size A (Lg.told sg sz (D.piece f (sg * sz))).texts.length c (Lg.told sg sz (D.piece f (sg * sz))).texts ∧ Fr F w w' ∧ DiskAt w' b F D := by
  have hPb : sg * sz ≤ 16 * 16 := Nat.mul_le_mul hsg.2 hsz.2
  obtain ⟨P, hP⟩ : ∃ P, P = sg * sz := ⟨_, rfl⟩
  have hpi : IntKind.i64.wrap ((sg : Int) * (sz : Int)) = (P : Int) := by
    rw [hP, show (sg : Int) * (sz : Int) = ((sg * sz : Nat) : Int) by simp]
    exact IntWalk.i64_in _ (by omega)
  have htk : D.ticked = D := by cases D; simp at hc; simp [Dk.ticked, nextCalls, hc]
  have hP0 : 0 < P := by rw [hP]; exact Nat.mul_pos (by omega) (by omega)
  obtain ⟨X, hX⟩ : ∃ X, X = D.piece f (sg * sz) := ⟨_, rfl⟩
  have hXl : X.length = sg * sz * 128 := by
    rw [hX, Dk.piece, List.length_take, List.length_drop, hDk.image]
    rw [Nat.add_mul] at hfit
    omega
  have hr := read_good b F D f (sg * sz) w hD hDk (by rw [hq]; exact Nat.zero_le _) (by rw [hc]; decide) hfit
  rw [← hX, htk, ← hP] at hr
  have HR := Lib.hid hr
  rw [← hX]
  obtain ⟨TD, hTD⟩ : ∃ t, t = Lg.told sg sz X := ⟨_, rfl⟩
  rw [← hTD]
  have hok0 := Lg.init_ok (segs := sg) (size := sz) (X := X) (by omega) (by omega) hXl
  obtain ⟨N, hN⟩ : ∃ N, N = sz * 128 := ⟨_, rfl⟩
  have hNb : sg * N ≤ 16 * 2048 := Nat.mul_le_mul hsg.2 (by omega)
  have hPN : P * 128 = sg * N := by rw [hP, hN, Nat.mul_assoc]
  have hg1 : ¬ ((sg : Int) < 1) := by omega
  have hg2 : ¬ ((256 : Int) < (sg : Int)) := by omega
  have hg3 : ¬ ((sz : Int) < 2) := by omega
  have hg4 : ¬ ((512 : Int) < (sz : Int)) := by omega
  have hwn : IntKind.i64.wrap ((sz : Int) * 128) = (N : Int) := by rw [show (sz : Int) * 128 = (N : Int) by omega]; exact IntWalk.i64_in _ (by omega)
  have hN256 : 256 ≤ N := by omega
  have hN6 : N ≤ 65536 := by omega
  have hNm : N % 128 = 0 := by omega
  have HT := Lib.hid (And.intro hT hKT)
  have HW := Lib.hid (And.intro hok0 (And.intro hTD (And.intro hN (And.intro hPN (And.intro hXl hNb)))))
  have HSZ := Lib.hid info_prs
  clear hr htk hD hDk hc hq hfit hT hKT hXl hok0 hP hX hTD hN hPN hPb hNb
  go_enter Tryd.func37, Tryd.ntmps37
  go_wp2_with fail
  refine HR.out.mono ?_
  rintro e w1 ⟨v, rfl, hown, hD1, hF1⟩
  obtain ⟨g, cap, cur, rfl, hg, hblk, hcap, hcm, -, -⟩ := own_open hown (by omega)
  unfold maxLen at hcm
  have hT1 : Tab w1 := HT.out.1.fr hF1 HT.out.2
  have H1 := Lib.hid (And.intro hown (And.intro hD1 (And.intro hF1 hT1)))
  have hz1 := hF1.size
  clear hown hD1 hF1 hT1 hblk HR
  go_wp2_with fail
  go_loopw [12, 52] (fun o i wr => ∃ j : Nat, i = .int .i64 j ∧ j ≤ sg ∧ Hid (∃ (s1 : Lg) (A : Option Addr) (c : Nat), o = .slice A s1.texts.length c ∧ RowsOf wr w1.heap.size A s1.texts.length c s1.texts ∧ s1.Ok ∧ TD = s1.scan j (sg - j) ∧ s1.B = X ∧ s1.segs = sg ∧ s1.size = sz ∧ s1.chain = hdc s1.texts ∧ Fine s1.texts ∧ s1.texts.length ≤ j * N ∧ Below w1.heap.size w1 wr)) (fun _ i _ => sg - (intOf i).toNat)
  case atStart => exact ⟨0, rfl, Nat.zero_le _, Lib.hid ⟨Lg.init sg sz X, none, 0, rfl, RowsOf.nil _ _, HW.out.1, HW.out.2.1, rfl, rfl, rfl, rfl, (fun t ht => by cases ht), Nat.zero_le _, Below.refl _ _⟩⟩
  case round =>
    obtain ⟨j, rfl, hj, hr⟩ := hrel
    obtain ⟨s1, A, c, rfl, rows1, ok1, e1, eB, eS, eZ, eC, fine1, m1, bel1⟩ := hr.out
    clear hr
    by_cases hlt : j < sg
    · have hji : (j : Int) < (sg : Int) := by omega
      have hn1 : s1.n = N := by unfold Lg.n; rw [eZ]; exact HW.out.2.2.1.symm
      have hjs : j < s1.segs := by rw [eS]; exact hlt
      have hsl1 := ok1.seg hjs
      rw [hn1] at hsl1
      obtain ⟨M1, hM1⟩ : ∃ M, M = j * N := ⟨_, rfl⟩
      obtain ⟨M2, hM2⟩ : ∃ M, M = (j + 1) * N := ⟨_, rfl⟩
      have hmb : (j + 1) * N ≤ sg * N := Nat.mul_le_mul_right _ hlt
      rw [← hM1, ← hM2] at hsl1
      rw [← hM1] at m1
      have hNb := HW.out.2.2.2.2.2
      have hPN := HW.out.2.2.2.1
      have hs1 := ok1.scan1 hjs (by rw [hn1]; omega)
      have hz := pz_in' (s1.seg j) s1.texts.length s1.n s1.chain ok1.chain (by rw [hn1]; exact hsl1.1) ok1.n_le.1
      have hpc := pz_chain (s1.seg j) s1.texts.length s1.n s1.chain ok1.chain (by rw [hsl1.1]; omega)
      rw [hn1] at hz hs1 hpc
      obtain ⟨z, hzd⟩ : ∃ z, z = pz (s1.seg j) s1.texts.length N (pz0 s1.chain) := ⟨_, rfl⟩
      rw [← hzd] at hz hpc
      obtain ⟨T, hTl⟩ : ∃ T, T = s1.texts.length := ⟨_, rfl⟩
      rw [← hTl] at m1 ⊢
      have hTb : T ≤ 100000 := by omega
      obtain ⟨ps, hpl, hpm, hpr, hpp⟩ := rows1.use
      have HHD := Lib.hid (head_any' ps A T c wr (by rw [hpl, hTl]) hTb hpr hpp (fun p hp => by
        have := (fine1 p.l (by rw [← hpm]; exact List.mem_map_of_mem hp)).2
        omega) (H1.out.2.2.2.below bel1))
      rw [hpm, ← eC] at HHD
      have hSg : ∀ W, Below w1.heap.size w1 W → Sees W 1 (some ⟨g, M1, none⟩) (M2 - M1) (u8s (s1.seg j)) := fun W hW => by
        have h5 := Sees.of_own (own_below H1.out.1 hW)
        have h6 := Sees.piece h5 M1 (M2 - M1) (by omega)
        rw [← u8s_drop, ← u8s_take, Nat.zero_add] at h6
        have e6 : (X.drop M1).take (M2 - M1) = s1.seg j := by unfold Lg.seg; rw [hn1, ← hM1, eB, show M2 - M1 = N by omega]
        rwa [e6] at h6
      have HSG := Lib.hid hSg
      have hm1 : IntKind.i64.wrap ((j : Int) * (N : Int)) = (M1 : Int) := by rw [hM1]; rw [show (j : Int) * (N : Int) = ((j * N : Nat) : Int) by simp]; exact IntWalk.i64_in _ (by omega)
      have hm2 : IntKind.i64.wrap (((j : Int) + 1) * (N : Int)) = (M2 : Int) := by rw [hM2]; rw [show ((j : Int) + 1) * (N : Int) = (((j + 1) * N : Nat) : Int) by simp]; exact IntWalk.i64_in _ (by omega)
      have hj1 : IntKind.i64.wrap ((j : Int) + 1) = (j : Int) + 1 := IntWalk.i64_in _ (by omega)
      have hsl : ¬ (cap = M1) := by omega
      have hslA : M2 ≤ cap := by omega
      have hslAi : (M2 : Int) ≤ (cap : Int) := by omega
      have hslB : M1 ≤ M2 := by omega
      have hslBi : (M1 : Int) ≤ (M2 : Int) := by omega
      have hMN : M2 - M1 = N := by omega
      have HM := Lib.hid (And.intro hM1 hM2)
      have HS := Lib.hid (And.intro rows1 (And.intro ok1 (And.intro e1 (And.intro eB (And.intro eS (And.intro eZ (And.intro eC (And.intro fine1 (And.intro m1 bel1)))))))))
      have HS2 := Lib.hid (And.intro hn1 (And.intro hsl1 (And.intro hs1 (And.intro hz (And.intro hpc (And.intro hzd hTl))))))
      clear rows1 ok1 e1 eB eS eZ eC fine1 bel1 hn1 hsl1 hs1 hz hpc hzd hTl hpl hpm hpr hpp hM1 hM2 hmb hNb hPN hjs hSg
      go_wp2_with fail
      refine HHD.out.mono ?_
      rintro e w2 ⟨v2, rfl, own2, bel2⟩
      obtain ⟨A2, c2, rfl⟩ := own_shape own2
      have hb12 : Below w1.heap.size w1 w2 := HS.out.2.2.2.2.2.2.2.2.2.trans (bel2.mono HS.out.2.2.2.2.2.2.2.2.2.size)
      have hSs := Sees.of_own own2
      have hPR := parse_rows (s1.seg j) s1.chain g M1 (M2 - M1) (cap - M1) j T A2 c2 w2 (HSG.out w2 hb12) (by rw [hMN]; exact HS2.out.2.1.1) (by omega) (by omega) (by omega) (by omega) hSs HS.out.2.1.chain (by omega) (by omega) (H1.out.2.2.2.below hb12)
      rw [hMN, HS2.out.2.2.2.2.2.2, ← HS2.out.2.2.2.2.2.1] at hPR
      obtain ⟨O, hO⟩ : ∃ O, O = pref (s1.seg j) (hd j s1.texts.length s1.chain) := ⟨_, rfl⟩
      rw [← hO] at hPR
      rw [← HS2.out.2.2.2.2.2.2] at hPR
      obtain ⟨ZT, hZT⟩ : ∃ M, M = (if O = true then z.texts else []) := ⟨_, rfl⟩
      rw [← hZT] at hPR
      have HP := Lib.hid hPR
      have H2 := Lib.hid (And.intro bel2 (And.intro hb12 (And.intro hO hZT)))
      clear own2 bel2 hb12 hSs hPR hO hZT HHD
      have hbs := HS.out.2.2.2.2.2.2.2.2.2.size
      go_wp2_with fail
      refine HP.out.mono ?_
      rintro e w3 ⟨A', m, cT', C', kk, cC', us, rfl, rows3, bel3⟩
      have hR0 : Blk (w3.alloc (.cells #[.slice none 0 0, .slice none 0 0, .bool false, .int .i64 0] 97)) w3.heap.size 97 #[.slice none 0 0, .slice none 0 0, .bool false, .int .i64 0] := Blk.new _ _ _
      have belr3 : Below wr.heap.size wr w3 := H2.out.1.trans (bel3.mono H2.out.1.size)
      have hz23 := belr3.size
      have hz2w := H2.out.2.1.size
      have hW : Below w3.heap.size w3 ((w3.alloc (.cells #[.slice none 0 0, .slice none 0 0, .bool false, .int .i64 0] 97)).setRow w3.heap.size #[.slice A' m cT', .slice C' kk cC', .bool (O && z.sealed_), .int .i64 us]) := below_setRow ((Below.refl _ _).alloc (Nat.le_refl _) _) (Nat.le_refl _) _
      have hmM := rows3.len
      have hmb : m ≤ 65536 := by
        rw [← hmM, H2.out.2.2.2]
        split
        · have := HS2.out.2.2.2.1.2.2.2; omega
        · simp
      have rows3w := (rows3.below hW).lower (base' := w1.heap.size) hz2w
      have rows1w := (HS.out.1.below belr3).below hW
      rw [← HS2.out.2.2.2.2.2.2] at rows1w
      obtain ⟨vs, q1, q2, q3⟩ := rows1w
      obtain ⟨vs2, g1, g2, g3⟩ := rows3w
      have HQ := Lib.hid (And.intro q1 (And.intro q2 (And.intro q3 (And.intro g1 (And.intro g2 g3)))))
      have HB := Lib.hid (And.intro belr3 hW)
      have HR0 := Lib.hid hR0
      have hhw : w1.heap.size ≤ w3.heap.size := by omega
      have HDONE : Hid (∀ (w5 : World) (A5 : Option Addr) (c5 : Nat), w5.ownsRow w1.heap.size 35 1 (.slice A5 (T + m) c5) (T + m) (vs.map Pt.val ++ vs2.map Pt.val) → ((w3.alloc (.cells #[.slice none 0 0, .slice none 0 0, .bool false, .int .i64 0] 97)).setRow w3.heap.size #[.slice A' m cT', .slice C' kk cC', .bool (O && z.sealed_), .int .i64 us]).grownBy w5 (Value.slice A T c).ownBlock →
          RowsOf w5 w1.heap.size A5 (s1.texts ++ ZT).length c5 (s1.texts ++ ZT) ∧ T + m = (s1.texts ++ ZT).length ∧ Below w1.heap.size w1 w5 ∧ w5.cell? ⟨w3.heap.size, 2, none⟩ = some (.bool (O && z.sealed_))) := Lib.hid (by
        intro w5 A5 c5 o1 o2
        have hlen : T + m = (s1.texts ++ ZT).length := by rw [List.length_append, ← HS2.out.2.2.2.2.2.2, hmM]
        have hra := RowsOf.add HQ.out.1 HQ.out.2.1 HQ.out.2.2.1 HQ.out.2.2.2.2.1 HQ.out.2.2.2.2.2 o1 o2
        rw [← hlen]
        have hR1 := HR0.out.setRow #[.slice A' m cT', .slice C' kk cC', .bool (O && z.sealed_), .int .i64 us]
        have hR5 := hR1.fr (Fr.of_grown o2 (F := fun k => (Value.slice A T c).ownBlock = some k) (fun k h => h)) (fun e => own_ne HQ.out.1 hR1 (by decide) _ e rfl)
        refine ⟨hra, rfl, ?_, hR5.cell 2⟩
        exact ((HS.out.2.2.2.2.2.2.2.2.2.trans (HB.out.1.mono hbs)).trans (HB.out.2.mono hhw)).grown o2 (Nat.le_trans hhw HB.out.2.size) (fun k hk => (HQ.out.1.lt k hk).1))
      have hTm : T + m ≤ 200000 := by omega
      have hW0 := hW.size
      clear rows3 bel3 belr3 hW q1 q2 q3 g1 g2 g3 hR0 HP
      go_wp2_with (first
        | (have hR0 := HR0.out; refine wpList_store_row rfl 97 (.tmp 17) (.tmp 74) rfl w3.heap.size _ rfl rfl 97 _ hR0 (by exact HSZ.out) (Eq.refl 4) (by simp [Value.oneCell']) ?_; have hR := hR0.setRow #[.slice A' m cT', .slice C' kk cC', .bool (O && z.sealed_), .int .i64 us]; clear HR0 hR0; generalize hWe : World.setRow _ _ _ = W at hR HQ HB HDONE ⊢; clear hWe; have c0 : W.cell? ⟨w3.heap.size, 0, none⟩ = some (.slice A' m cT') := hR.cell 0)
        | (at_builtin; refine wpList_app rfl (.tmp 76) (.tmp 78) _ rfl w1.heap.size 35 _ 1 24 Tryd.underlying22 info_bytes rfl (by decide) (.slice A T c) T (vs.map Pt.val) rfl HQ.out.1 A' m cT' (vs2.map Pt.val) rfl (Sees.of_own HQ.out.2.2.2.1) (val_one _) (by unfold maxLen; omega) (by omega) (Nat.le_trans hhw HB.out.2.size) ?_; intro v' w5 o1 o2 o3 o4; obtain ⟨A5, c5, rfl⟩ := own_shape o1; have hD5 := HDONE.out w5 A5 c5 o1 o2; have c2 := hD5.2.2.2; have H5 := Lib.hid hD5; clear o1 o2 o3 o4 hD5))
      all_goals
        have hsc := scan_case HS2.out.1 hlt HS.out.2.2.1 HS2.out.2.2.2.2.2.1 H2.out.2.2.1
        have hM := HM.out.1
        have hM2' := HM.out.2
        first
        | (rename_i hOt hse
           have hse' : z.sealed_ = true := by cases hz9 : z.sealed_ with
             | true => rfl
             | false => rw [hz9] at hse; cases hse
           have hZ : ZT = z.texts := by rw [H2.out.2.2.2, if_pos hOt]
           have h9 := H5.out
           rw [hZ, ← (hsc.1 hOt).1] at h9
           refine ⟨⟨j + 1, by go_num, by omega, Lib.hid ⟨(s1.scan1 j).1, A5, c5, by rw [h9.2.1], h9.1, HS2.out.2.2.1.1, hsc.2.1 hOt hse', by rw [HS2.out.2.2.1.2.2.1]; exact HS.out.2.2.2.1, by rw [HS2.out.2.2.1.2.2.2.1]; exact HS.out.2.2.2.2.1, by rw [HS2.out.2.2.1.2.2.2.2]; exact HS.out.2.2.2.2.2.1, ?_, ?_, ?_, h9.2.2.1⟩⟩, by simp [intOf]; omega⟩
           · rw [(hsc.1 hOt).2, (hsc.1 hOt).1, hdc_app, HS2.out.2.2.2.2.1.1, ← HS.out.2.2.2.2.2.2.1]
           · rw [(hsc.1 hOt).1]
             intro t ht
             rcases List.mem_append.1 ht with h | h
             · exact HS.out.2.2.2.2.2.2.2.1 t h
             · exact HS2.out.2.2.2.2.1.2 t h
           · have := HS2.out.2.2.1.2.1
             have := HS2.out.2.2.2.2.2.2
             rw [Nat.add_mul, Nat.one_mul]
             omega)
        | (rename_i hOf
           have hOf' : O = false := by cases O with
             | false => rfl
             | true => exact absurd rfl hOf
           have hZ : ZT = [] := by rw [H2.out.2.2.2, if_neg hOf]
           have h9 := H5.out
           rw [hZ, List.append_nil, ← hsc.2.2.2 hOf'] at h9
           have hl9 := h9.2.1
           go_ret2
           exact ⟨A5, c5, by rw [hl9]; rfl, h9.1.lower hz1, (H1.out.2.2.1.trans (Fr.of_below h9.2.2.1 F) (fun _ _ h => h)), H1.out.2.1.below h9.2.2.1⟩)
        | (rename_i hOt hse
           have hse' : z.sealed_ = false := by cases hz9 : z.sealed_ with
             | false => rfl
             | true => rw [hz9] at hse; cases hse
           have hZ : ZT = z.texts := by rw [H2.out.2.2.2, if_pos hOt]
           have h9 := H5.out
           rw [hZ, ← (hsc.1 hOt).1, ← hsc.2.2.1 hOt hse'] at h9
           have hl9 := h9.2.1
           go_ret2
           exact ⟨A5, c5, by rw [hl9]; rfl, h9.1.lower hz1, (H1.out.2.2.1.trans (Fr.of_below h9.2.2.1 F) (fun _ _ h => h)), H1.out.2.1.below h9.2.2.1⟩)
    · obtain rfl : j = sg := by omega
      have hge : ¬ ((j : Int) < (j : Int)) := by omega
      rw [Nat.sub_self] at e1
      have HE := Lib.hid (And.intro e1 (And.intro rows1 bel1))
      clear rows1 ok1 e1 eB eS eZ eC fine1 m1 bel1
      go_wp2_with fail
      go_ret2
      rw [show TD = s1 from HE.out.1]
      exact ⟨A, c, rfl, HE.out.2.1.lower hz1, (H1.out.2.2.1.trans (Fr.of_below HE.out.2.2 F) (fun _ _ h => h)), H1.out.2.1.below HE.out.2.2⟩
end Go.Proofs.YtldgnckchlbadaaDoor

namespace Go.Proofs.YtldgnckchlbadaaDoor
set_option maxRecDepth 4000
open Go.RowKit

/-- What Prove answers: how many texts, where, why not. -/
def PV (L : List (List UInt8)) (n : Nat) (ch : List UInt8) (m at_ er : Nat) : Prop :=
  (L.length < n ∧ m = 0 ∧ at_ = L.length ∧ er = 23) ∨ (n ≤ L.length ∧ hdc (L.take n) ≠ ch ∧ m = 0 ∧ at_ = 0 ∧ er = 24) ∨ (n ≤ L.length ∧ hdc (L.take n) = ch ∧ m = n ∧ at_ = n ∧ er = 0)

/-- A slice up to n, and no more room. -/
theorem slice_hm {P : Program} {t : TypeId} (ht : P.underlying t = some (.slice (P.elem t))) (hs : (P.info? (P.elem t)).isSome) (A : Option Addr) (k c n : Nat) (hn : n ≤ c) :
    ∃ A', (∀ W, (Instr.slice t (.slice A k c) none (some (.int .i64 (n : Int))) (some (.int .i64 (n : Int)))).run P W = .ok (.slice A' n n) W) ∧ ∀ g off, A = some ⟨g, off, none⟩ → A' = A := by
  obtain ⟨i, hi⟩ := Option.isSome_iff_exists.1 hs
  refine ⟨if n = 0 then A else A.map (·.add 0), fun W => ?_, fun g off e => ?_⟩
  · rw [run_slice_hm W t A k c ht .i64 .i64 n n (by omega) (by omega) (by omega)]
    simp [sizeOf, typeInfo, hi, sliced, Sem.run_bind]
  · subst e
    split
    · rfl
    · rfl
theorem rws_take {w : World} {A : Option Addr} {ps : List Pt} (h : Rws w A ps) (j : Nat) : Rws w A (ps.take j) := fun h0 => by
  obtain ⟨g, off, e, hc⟩ := h (by rw [List.length_take] at h0; omega)
  refine ⟨g, off, e, fun i p hi => hc i p ?_⟩
  rw [List.getElem?_take] at hi
  split at hi
  · exact hi
  · cases hi
theorem info_rowel : (Tryd.prog.info? (Tryd.prog.elem 22)).isSome := by kernel_rfl

set_option maxHeartbeats 4000000 in
theorem pprove_any (b f sg sz n : Nat) (D : Dk) (F : Nat → Prop) (A : Option Addr) (c : Nat) (ch : List UInt8) (w : World) (hD : DiskAt w b F D) (hDk : D.Ok) (hc : D.calls = -1) (hq : D.queue = []) (hf : f ≤ 1000000) (hsg : 1 ≤ sg ∧ sg ≤ 16) (hsz : 2 ≤ sz ∧ sz ≤ 16) (hfit : (f + sg * sz) * 128 ≤ D.safe.length) (hT : Tab w) (hKT : ∀ k, F k → k ≠ 1 ∧ k ≠ 0)
    (hA : Sees w 1 A 32 (u8s ch)) (hch : ch.length = 32) (hn : ∀ a, A = some a → ¬ F a.block) (hnb : n ≤ 100000) :
    Calls Tryd.prog 14 #[.pointer (some ⟨b, 0, none⟩), .int .i64 f, .int .i64 sg, .int .i64 sz, .int .i64 n, .slice A 32 c] w fun e w' => ∃ (B : Option Addr) (m cB at_ er : Nat), e = .returned (.tuple #[.slice B m cB, .int .i64 at_, .int .i64 er]) ∧ PV (Lg.told sg sz (D.piece f (sg * sz))).texts n ch m at_ er ∧
      (er = 0 → ∃ ps : List Pt, ps.length = n ∧ ps.map (·.l) = (Lg.told sg sz (D.piece f (sg * sz))).texts.take n ∧ Rws w' B ps ∧ Pts w' ps) ∧ Fr F w w' := by
  have hXl : (D.piece f (sg * sz)).length = sg * sz * 128 := by
    rw [Dk.piece, List.length_take, List.length_drop, hDk.image]
    rw [Nat.add_mul] at hfit
    omega
  have hfn := opened_fine (segs := sg) (size := sz) (X := D.piece f (sg * sz)) hsg hsz hXl
  rw [← opened_texts] at hfn
  have HS := Lib.hid (pscan_any b f sg sz D F w hD hDk hc hq hf hsg hsz hfit hT hKT)
  obtain ⟨L, hL⟩ : ∃ L, L = (Lg.told sg sz (D.piece f (sg * sz))).texts := ⟨_, rfl⟩
  rw [← hL] at HS hfn ⊢
  obtain ⟨T, hTl⟩ : ∃ T, T = L.length := ⟨_, rfl⟩
  rw [← hTl] at HS
  have hTb : T ≤ 100000 := by rw [hTl]; exact hfn.2
  have HT := Lib.hid (And.intro hT (And.intro hKT (And.intro hA (And.intro hch (And.intro hn (And.intro hfn hTl))))))
  have hn0 : ¬ (n : Int) < 0 := by omega
  clear hD hDk hc hq hf hsg hsz hfit hT hKT hA hch hn hXl hfn hL hTl
  go_enter Tryd.func14, Tryd.ntmps14
  go_wp2_with fail
  refine HS.out.mono ?_
  rintro e w1 ⟨B1, c1, rfl, rows1, fr1, hD1⟩
  by_cases hlt : T < n
  · have hlti : (T : Int) < (n : Int) := by omega
    have H1 := Lib.hid fr1
    clear rows1 fr1 hD1 HS
    go_wp2_with fail
    go_ret3
    exact ⟨none, 0, 0, T, 23, rfl, .inl ⟨by rw [← HT.out.2.2.2.2.2.2]; exact hlt, rfl, HT.out.2.2.2.2.2.2, rfl⟩, (fun h => by cases h), H1.out⟩
  · have hlti : ¬ (T : Int) < (n : Int) := by omega
    have hni : (n : Int) ≤ (T : Int) := by omega
    obtain ⟨ps, hl, hm, hr, hp⟩ := rows1.use
    have hcap : T ≤ c1 := by
      obtain ⟨vs, q1, -, -⟩ := rows1
      rcases q1.2 with ⟨e, h0⟩ | ⟨g, cap, cur, e, -, -, h1, -⟩
      · omega
      · injection e with _ _ e3
        omega
    have hci : (n : Int) ≤ (c1 : Int) := by omega
    have hT1 : Tab w1 := HT.out.1.fr fr1 HT.out.2.1
    have hA1 : Sees w1 1 A 32 (u8s ch) := HT.out.2.2.1.fr fr1 (fun _ => HT.out.2.2.2.2.1)
    have hfine := HT.out.2.2.2.2.2.1.1
    obtain ⟨B2, hsl, hB2⟩ := slice_hm (P := Tryd.prog) (t := 22) Tryd.underlying22 info_rowel B1 T c1 n (by omega)
    have hr2 : Rws w1 B2 (ps.take n) := fun h0 => by
      obtain ⟨g, off, e, hc⟩ := rws_take hr n h0
      exact ⟨g, off, (hB2 g off e).trans e, hc⟩
    have hp2 : Pts w1 (ps.take n) := fun p hp' => hp p (List.mem_of_mem_take hp')
    have hl2 : (ps.take n).length = n := by rw [List.length_take]; omega
    have hm2 : (ps.take n).map (·.l) = L.take n := by rw [List.map_take, hm]
    have HH := Lib.hid (head_any' (ps.take n) B2 n n w1 hl2 hnb hr2 hp2 (fun p hp' => by
      have := (hfine p.l (by rw [← hm]; exact List.mem_map_of_mem (List.mem_of_mem_take hp'))).2
      omega) hT1)
    rw [hm2] at HH
    have H1 := Lib.hid (And.intro fr1 (And.intro hA1 (And.intro hl2 (And.intro hm2 (And.intro hr2 hp2)))))
    have H1n := Lib.hid (show n ≤ L.length by rw [← HT.out.2.2.2.2.2.2]; omega)
    clear rows1 fr1 hD1 HS hl hm hr hp hT1 hA1 hfine hr2 hp2 hl2 hm2 hB2
    obtain ⟨LN, hLN⟩ : ∃ x, x = L.take n := ⟨_, rfl⟩
    have HLN := Lib.hid hLN
    rw [← hLN] at HH
    clear hLN
    go_wp2_with (simp only [hsl])
    refine HH.out.mono ?_
    rintro e w2 ⟨v, rfl, own2, bel2⟩
    obtain ⟨A3, c3, rfl⟩ := own_shape own2
    have HE := Lib.hid (equal_any (hdc LN) ch A3 A 32 c3 32 c w2 (Sees.of_own own2) (H1.out.2.1.below bel2))
    obtain ⟨E, hE⟩ : ∃ E, E = decide (hdc LN = ch) := ⟨_, rfl⟩
    rw [← hE] at HE
    have H2 := Lib.hid bel2
    have HEE := Lib.hid hE
    clear own2 bel2 hE HH hsl
    go_wp2_with fail
    refine HE.out.mono ?_
    rintro e w3 ⟨rfl, rfl⟩
    clear HE
    cases E with
    | false =>
      go_wp2_with fail
      go_ret3
      have he : hdc LN ≠ ch := of_decide_eq_false HEE.out.symm
      rw [HLN.out] at he
      exact ⟨none, 0, 0, 0, 24, rfl, .inr (.inl ⟨H1n.out, he, rfl, rfl, rfl⟩), (fun h => by cases h), H1.out.1.trans (Fr.of_below H2.out F) (fun _ _ h => h)⟩
    | true =>
      go_wp2_with fail
      go_ret3
      have he : hdc LN = ch := of_decide_eq_true HEE.out.symm
      rw [HLN.out] at he
      exact ⟨B2, n, n, n, 0, rfl, .inr (.inr ⟨H1n.out, he, rfl, rfl, rfl⟩), (fun _ => ⟨_, H1.out.2.2.1, H1.out.2.2.2.1, H1.out.2.2.2.2.1.below H2.out, H1.out.2.2.2.2.2.below H2.out⟩), H1.out.1.trans (Fr.of_below H2.out F) (fun _ _ h => h)⟩
end Go.Proofs.YtldgnckchlbadaaDoor
