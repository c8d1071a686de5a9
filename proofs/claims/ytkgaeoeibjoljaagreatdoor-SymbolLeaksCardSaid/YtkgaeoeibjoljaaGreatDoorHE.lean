/-
  The document's example of a run, in plain numbers: evaluated by the kernel.
  The document's example of a run, walked.
-/
import Derived.Test.YtkgaeoeibjoljaaGreatDoorHD
namespace Go.Proofs.YtkgaeoeibjoljaaGreatDoor
section
set_option maxRecDepth 4000
open Go.RowKit
def hasN (n : Nat) : List UInt8 -> Bool
 | [] => false
 | x :: t => (decide ((x :: t).take 24 = mk24) && decide (32 <= (x :: t).length) && decide (vl (((x :: t).drop 24).take 8) = n)) || hasN n t
theorem at32_nil (i n : Nat) : ¬ at32 [] i n := fun h => by have := h.2.1; simp at this
theorem at32_cons (x : UInt8) (t : List UInt8) (i n : Nat) : at32 (x :: t) (i + 1) n ↔ at32 t i n := by
 unfold at32 mkAt
 rw [show i + 1 + 24 = (i + 24) + 1 by omega, List.drop_succ_cons, List.drop_succ_cons, List.length_cons, show (i + 1 + 32 <= t.length + 1) = (i + 32 <= t.length) from propext (by omega)]
theorem hasN_iff (n : Nat) : ∀ l, hasN n l = true ↔ ∃ i, at32 l i n := by
 intro l
 induction l with
 | nil => exact ⟨(fun h => by cases h), (fun ⟨i, h⟩ => absurd h (at32_nil i n))⟩
 | cons x t ih =>
  rw [hasN, Bool.or_eq_true, ih]
  have h0 : (decide ((x :: t).take 24 = mk24) && decide (32 <= (x :: t).length) && decide (vl (((x :: t).drop 24).take 8) = n)) = true ↔ at32 (x :: t) 0 n := by
   unfold at32 mkAt
   simp only [Bool.and_eq_true, decide_eq_true_eq, List.drop_zero, Nat.zero_add]
   exact ⟨fun h => ⟨h.1.1, h.1.2, h.2⟩, fun h => ⟨⟨h.1, h.2.1⟩, h.2.2⟩⟩
  rw [h0]
  constructor
  ·rintro (h | ⟨i, h⟩)
   ·exact ⟨0, h⟩
   ·exact ⟨i + 1, (at32_cons x t i n).2 h⟩
  ·rintro ⟨i, h⟩
   cases i with
   | zero => exact .inl h
   | succ i => exact .inr ⟨i, (at32_cons x t i n).1 h⟩
def aD0 : Dk := Dk.new 13
def aS0 : Lg := Lg.opened 1 9 (zr 1152)
def aS1 : Lg := aS0.append (recb 0 3 (wrp 2))
def aD1 (k : Nat) : Dk := aD0.two (0 + 2 * k) (keyo 3 (nm 0))
def aD2 (k : Nat) : Dk := ((aD1 k).pushed 4 aS1).flushed
def aD3 (k : Nat) : Dk := (aD2 k).two (0 + 2 * k) zer
set_option maxRecDepth 100000 in
theorem aw_plain : aS0.err 144 = 0 /\ aS0.sure = 0 /\ aS1.sure ≠ aS1.texts.length := by decide +kernel
def awOk (k : Nat) : Bool := hasN 0 (aD2 k).safe && hasN 2 (aD2 k).safe && !hasN 0 (aD3 k).safe && !hasN 1 (aD3 k).safe && aD0.twoOk (0 + 2 * k) (keyo 3 (nm 0)) && (aD2 k).twoOk (0 + 2 * k) zer &&
 decide ((aD1 k).safe.length = 1664) && decide ((aD1 k).queue = []) && decide ((aD1 k).calls = -1) && decide ((aD1 k).piece 4 9 = aD0.piece 4 9) &&
 decide ((aD3 k).safe.length = 1664) && decide ((aD3 k).queue = []) && decide ((aD3 k).calls = -1) && decide ((aD2 k).safe.length = 1664)
set_option maxRecDepth 100000 in
theorem aw_calc0 : awOk 0 = true := by decide +kernel
set_option maxRecDepth 100000 in
theorem aw_calc1 : awOk 1 = true := by decide +kernel
theorem aw_calc {k : Nat} (hk : k < 2) : awOk k = true := by
 match k, hk with
 | 0, _ => exact aw_calc0
 | 1, _ => exact aw_calc1
theorem dk_fine {D : Dk} {n : Nat} (h1 : D.safe.length = n * 128) (h2 : D.queue = []) (h3 : D.calls = -1) (hn : 1 <= n /\ n <= 1000) : D.Ok :=
 ⟨by rw [h1]; exact ⟨n, by omega⟩, by rw [h1]; omega, by rw [h1]; omega, (fun q hq => by rw [h2] at hq; cases hq), by rw [h3]; omega, by rw [h3]; omega⟩
/-! ### Names in parts -/
theorem at32_take {l : List UInt8} {m i n : Nat} (h : at32 (l.take m) i n) : at32 l i n := by
 obtain ⟨h1, h2, h3⟩ := h
 rw [List.length_take] at h2
 unfold mkAt at h1
 rw [List.drop_take, List.take_take, Nat.min_eq_left (by omega)] at h1
 rw [List.drop_take, List.take_take, Nat.min_eq_left (by omega)] at h3
 exact ⟨h1, by omega, h3⟩
theorem at32_drop {l : List UInt8} {m i n : Nat} (h : at32 (l.drop m) i n) : at32 l (m + i) n := by
 obtain ⟨h1, h2, h3⟩ := h
 rw [List.length_drop] at h2
 unfold mkAt at h1
 rw [List.drop_drop] at h1 h3
 exact ⟨h1, by omega, by rw [show m + i + 24 = m + (i + 24) by omega]; exact h3⟩
theorem seen_safe {D : Dk} {x : Int} (h : NamesOf D.safe x) : SeenOf D x := ⟨_, by unfold pieces; simp, h⟩
theorem seen_idle {D : Dk} (hq : D.queue = []) {x : Int} (h : SeenOf D x) : NamesOf D.safe x := by
 obtain ⟨l, hl, n, hx, hn, i, hi⟩ := h
 unfold pieces at hl
 rw [hq, image_idle hq] at hl
 rcases List.mem_append.1 hl with hl | hl
 ·rcases List.mem_append.1 hl with hl | hl
  ·obtain ⟨j, -, rfl⟩ := List.mem_map.1 hl
   exact ⟨n, hx, hn, _, at32_drop (at32_take hi)⟩
  ·cases hl
 ·have : l = D.safe := by
   rcases List.mem_cons.1 hl with h | h
   ·exact h
   ·exact List.mem_singleton.1 h
  subst this
  exact ⟨n, hx, hn, i, hi⟩
theorem names_has {l : List UInt8} {n : Nat} (hn : n < 4096) : NamesOf l n ↔ hasN n l = true := by
 rw [hasN_iff]
 constructor
 ·rintro ⟨m, hm, _, i, h⟩
  have : n = m := by omega
  subst this
  exact ⟨i, h⟩
 ·rintro ⟨i, h⟩
  exact ⟨n, rfl, hn, i, h⟩
/-! ### The example's terms -/
def aTms : List Tm := [atm 0, atm 1, sel 0 1]
theorem aTms_pool : Pool aTms := by
 have p1 : Pool [atm 0] := Pool.nil.snoc (okT_atm _ _) (by simp) (fit_atm 0 (by omega))
 have p2 : Pool ([atm 0] ++ [atm 1]) := p1.snoc (okT_atm _ _) (by decide) (fit_atm 1 (by omega))
 exact p2.snoc (okT_sel (by decide) (by decide)) (by decide) (fit_sel 0 1)
theorem aTms_two {i : Nat} {t : Tm} (h : aTms[i]? = some t) : (i = 0 /\ t = atm 0) \/ (i = 1 /\ t = atm 1) \/ (i = 2 /\ t = sel 0 1) := by
 match i, h with
 | 0, h => injection h with h; exact .inl ⟨rfl, h.symm⟩
 | 1, h => injection h with h; exact .inr (.inl ⟨rfl, h.symm⟩)
 | 2, h => injection h with h; exact .inr (.inr ⟨rfl, h.symm⟩)
 | n + 3, h => cases h
theorem aFol_no {ss : List Int} (h0 : (0 : Int) ∉ ss) (h1 : (1 : Int) ∉ ss) {n : Nat} (h : Fol aTms ss n) : n = 2 := by
 have hk : ∀ {p : Nat} {t : Tm}, aTms[p]? = some t -> t.k ≠ 2 /\ t.k ≠ 3 /\ (t.k = 4 -> p = 2 /\ t = sel 0 1) := fun {p t} h => by
  rcases aTms_two h with ⟨_, rfl⟩ | ⟨_, rfl⟩ | ⟨hp, rfl⟩
  ·exact ⟨by decide, by decide, fun h => absurd h (by decide)⟩
  ·exact ⟨by decide, by decide, fun h => absurd h (by decide)⟩
  ·exact ⟨by decide, by decide, fun _ => ⟨hp, rfl⟩⟩
 induction h with
 | given n h2 h3 =>
  have h3 : n < 3 := h3
  match n, h2, h3 with
  | 0, h2, _ => exact absurd h2 h0
  | 1, h2, _ => exact absurd h2 h1
  | 2, _, _ => rfl
 | left p t h1 h2 _ _ => exact absurd h2 (hk h1).1
 | right p t h1 h2 _ _ => exact absurd h2 (hk h1).1
 | open_ p t h1 h2 _ _ _ i2 =>
  obtain ⟨_, rfl⟩ := (hk h1).2.2 h2
  exact absurd i2 (by decide)
 | hash n t h1 h2 _ _ => exact absurd h2 (hk h1).2.1
 | pair n t h1 h2 _ _ _ _ => exact absurd h2 (hk h1).1
 | sealed n t h1 h2 _ _ _ _ => exact ((hk h1).2.2 h2).1
theorem aFol_yes {ss : List Int} (h0 : (0 : Int) ∈ ss) (h2 : (2 : Int) ∈ ss) : Fol aTms ss 1 :=
 .open_ 2 (sel 0 1) rfl rfl (.given 2 h2 (by decide)) (.given 0 h0 (by decide))
theorem leakB_iff {l : List Tm} (hp : Pool l) (n : Nat) (ss : List Int) : decide ((n : Int) ∈ nums (clo l ss)) = true ↔ Fol l ss n := by
 rw [decide_eq_true_eq, mem_nums, clo_iff hp, Int.toNat_natCast]
 exact ⟨fun h => h.2, fun h => ⟨by omega, h⟩⟩
end
section
set_option maxRecDepth 4000
open Go.RowKit
theorem awOk_out {k : Nat} (hk : k < 2) : (hasN 0 (aD2 k).safe = true /\ hasN 2 (aD2 k).safe = true /\ hasN 0 (aD3 k).safe = false /\ hasN 1 (aD3 k).safe = false /\ aD0.twoOk (0 + 2 * k) (keyo 3 (nm 0)) = true /\ (aD2 k).twoOk (0 + 2 * k) zer = true) /\
  (aD1 k).safe.length = 1664 /\ (aD1 k).queue = [] /\ (aD1 k).calls = -1 /\ (aD1 k).piece 4 9 = aD0.piece 4 9 /\ (aD3 k).safe.length = 1664 /\ (aD3 k).queue = [] /\ (aD3 k).calls = -1 /\ (aD2 k).safe.length = 1664 := by
 have h := aw_calc hk
 unfold awOk at h
 simp only [Bool.and_eq_true, Bool.not_eq_true', decide_eq_true_eq] at h
 obtain ⟨⟨⟨⟨⟨⟨⟨⟨⟨⟨⟨⟨⟨h1, h2⟩, h3⟩, h4⟩, h5⟩, h6⟩, h7⟩, h8⟩, h9⟩, h10⟩, h11⟩, h12⟩, h13⟩, h14⟩ := h
 exact ⟨⟨h1, h2, h3, h4, h5, h6⟩, h7, h8, h9, h10, h11, h12, h13, h14⟩
theorem aOk0 : aS0.Ok := ⟨by decide +kernel, by decide +kernel, by decide +kernel, by decide +kernel, by decide +kernel, by decide +kernel, by decide +kernel, by decide +kernel, by decide +kernel⟩
theorem aOk1 : aS1.Ok := ⟨by decide +kernel, by decide +kernel, by decide +kernel, by decide +kernel, by decide +kernel, by decide +kernel, by decide +kernel, by decide +kernel, by decide +kernel⟩
theorem aKp1 {k : Nat} (hk : k < 2) : Kq aS1 (aD1 k) 4 := by
 have h := awOk_out hk
 have e : aS1.segs * aS1.size = 9 := by decide +kernel
 refine ⟨aOk1, by decide +kernel, fun _ => by decide +kernel, dk_fine (n := 13) h.2.1 h.2.2.1 h.2.2.2.1 (by omega), h.2.2.2.1, h.2.2.1, ?_⟩
 rw [e, h.2.1]; omega
def aSt (k : Nat) (e' : Ke) : St := { slots := 2, segs := 1, size := 9, D := aD1 k, E := [none, none].set k (some e'), dead := false, s := aS1, l := aTms, atoms := 2, eps := [((3 : Int), (1 : Int))] }
theorem aFresh : St.fresh 2 1 9 = { slots := 2, segs := 1, size := 9, D := aD0, E := [none, none], dead := false, s := aS0, l := [], atoms := 0, eps := [] } := rfl
theorem aStOk : StOk (St.fresh 2 1 9) := by
 rw [aFresh]
 have hok : aD0.Ok := dknew_ok (by omega) (by omega)
 have hso := aOk0
 have hft : aS0.sealed_ = false -> aS0.used + 48 <= aS0.n := fun _ => by decide +kernel
 have hlen : aD0.safe.length = 1664 := by unfold aD0; rw [zsafe, zr_length]
 have hfit : (2 * 2 + 1 * 9) * 128 <= aD0.safe.length := by rw [hlen]; omega
 have hsz : aD0.safe.length / 128 <= 1000 := by rw [hlen]; omega
 have hq : aD0.queue.length <= 900 := Nat.zero_le _
 have hs1 : aS0.segs = 1 := by decide +kernel
 have hs2 : aS0.size = 9 := by decide +kernel
 have ht : aS0.texts.length <= 100000 := by decide +kernel
 generalize aD0 = D at *
 generalize aS0 = s at *
 exact ⟨hok, hq, rfl, by show 2 <= 8; omega, ⟨by show 1 <= 1; omega, by show 1 <= 8; omega⟩, ⟨by show 2 <= 9; omega, by show 9 <= 16; omega⟩, hfit, hsz, Pool.nil, Nat.zero_le _, (fun t ht => by cases ht), Nat.zero_le _, (fun e he => by simp at he), hs1, hs2, hso, hft, ht, Nat.zero_le _⟩
theorem epoch_fresh {res : Nat} {S' : St} {ok : Bool} (h : EpRel (St.fresh 2 1 9) 3 res S' ok) : ok = true /\ res = 0 /\ ∃ k e', k < 2 /\ e'.buck = 3 /\ S' = aSt k e' := by
 rw [aFresh] at h
 have hkey : ∀ {n : Nat} {S1 : St} {ok : Bool}, KeyRel { slots := 2, segs := 1, size := 9, D := aD0, E := [none, none], dead := false, s := aS0, l := [], atoms := 0, eps := [] } 3 n S1 ok ->
   ok = true /\ n = 0 /\ ∃ k e', k < 2 /\ e'.buck = 3 /\ S1 = { slots := 2, segs := 1, size := 9, D := aD1 k, E := [none, none].set k (some e'), dead := false, s := aS0, l := [atm 0], atoms := 1, eps := [] } := by
  rintro n S1 ok (⟨e0, h1, -⟩ | ⟨-, hn, hp⟩)
  ·simp at h1
  ·have hn : n = 0 := hn
   subst hn
   rcases hp with ⟨-, -, h3 | h3⟩ | ⟨-, k, hk, hok, h4⟩
   ·cases h3
   ·simp at h3
   ·have hk2 : k < 2 := (List.getElem?_eq_some_iff.1 hk).1
    have hc := (awOk_out hk2).1.2.2.2.2.1
    have hok : aD0.twoOk (0 + 2 * k) (keyo 3 (nm 0)) = ok := hok
    rw [hc] at hok
    subst hok
    rcases h4 with ⟨-, e', h5, -, rfl⟩ | ⟨h5, -⟩
    ·exact ⟨rfl, rfl, k, e', hk2, h5, rfl⟩
    ·cases h5
 rcases h with ⟨h1, -, n, hk⟩ | ⟨n, S1, hk, h2⟩
 ·have := (hkey hk).1
  cases this
 ·obtain ⟨-, rfl, k, e', hk2, he, rfl⟩ := hkey hk
  rcases h2 with ⟨-, -, h3, -⟩ | ⟨h3, h4, -, rfl⟩
  ·exact absurd aw_plain.1 h3
  ·exact ⟨h3, h4, k, e', hk2, he, rfl⟩
theorem aFlush (k : Nat) (e' : Ke) : (aSt k e').flush = { aSt k e' with s := aS1.flushed, D := aD2 k } := by
 unfold St.flush
 rw [if_neg (show ¬ (aSt k e').s.sure = (aSt k e').s.texts.length from aw_plain.2.2)]
 rfl
theorem aFlush2 (k : Nat) (e' : Ke) : (aSt k e').flush.flush = (aSt k e').flush := by
 rw [aFlush]
 unfold St.flush
 exact if_pos rfl
theorem aKp2 {k : Nat} (hk : k < 2) : Kq aS1.flushed (aD2 k) 4 := by
 have h := awOk_out hk
 have hl : (aD2 k).safe.length = 1664 := h.2.2.2.2.2.2.2.2
 have e : aS1.flushed.segs * aS1.flushed.size = 9 := by decide +kernel
 have hc : (aD2 k).calls = -1 := by
  show nextCalls (nextCalls (aD1 k).calls) = -1
  rw [h.2.2.2.1]; rfl
 refine ⟨aOk1.flushed, by decide +kernel, fun hne => absurd rfl hne, dk_fine (n := 13) hl rfl hc (by omega), hc, rfl, ?_⟩
 rw [e, hl]; omega
theorem TabsS.free {w : World} (h : TabsS w) : ∀ k, w.heap.size <= k -> k ≠ 3 /\ k ≠ 2 := fun k hk => by
 have := h.sha.lt
 have := h.sha.hlt
 omega
theorem set_get {k k2 : Nat} {e' e0 : Ke} (h : ([none, none].set k (some e') : List (Option Ke))[k2]? = some (some e0)) : k2 = k := by
 rw [List.getElem?_set] at h
 split at h
 ·rename_i hkk; exact hkk.symm
 ·exfalso
  match k2, h with
  | 0, h => cases h
  | 1, h => cases h
  | n + 2, h => cases h
def AwAt (w : World) (base : Nat) (S : St) (r : Nat) : Prop := ∃ (a : Loc) (F K L P : Nat -> Prop) (T : Nat -> Nat), a.r = r /\ Rn w base S a F K L P T
theorem aLeaks {w : World} {base r : Nat} {S : St} (h : AwAt w base S r) (he : S.eps = [((3 : Int), (1 : Int))]) (hl : S.l = aTms) (hDk : S.D.Ok) (hsz : S.D.size <= 1000) (hq : S.D.queue = []) (hT : TabsS w) (b : Bool) (hb : ∀ ss, SsIs S.D ss -> (Fol aTms ss 1 ↔ b = true)) :
  Calls Tryz.prog 26 #[.pointer (some ⟨r, 0, none⟩), .int .i64 0] w fun e w' => e = .returned (.bool b) /\ Below w.heap.size w w' := by
 obtain ⟨a, F, K, L, P, T, rfl, hR⟩ := h
 refine (leaks_in hR (by rw [he]; simp) hDk hsz (by rw [hq]; simp) (by rw [hl]; exact aTms_pool) (by rw [hl]; decide) hT 0 ((3 : Int), (1 : Int)) (by rw [he]; rfl)).mono ?_
 rintro e w' ⟨ss, hss, rfl, hbel⟩
 refine ⟨?_, hbel⟩
 have h1 := (leakB_iff aTms_pool 1 ss).trans (hb ss hss)
 have e1 : LeakB S 1 ss = b := by
  unfold LeakB
  rw [hl]
  exact Bool.eq_iff_iff.2 h1
 rw [e1]
set_option maxHeartbeats 8000000 in
theorem awake_any (w : World) (hT : TabsS w) : Calls Tryz.prog 6 #[] w fun e w' => e = .returned (.bool true) /\ Below w.heap.size w w' := by
 have HN : Hid (Calls Tryz.prog 15 #[.int .i64 2, .int .i64 1, .int .i64 9] w fun e w' => (∃ a F K L P T, e = .returned (.tuple #[.pointer (some ⟨a.r, 0, none⟩), Value.nilIface]) /\ Rn w' w.heap.size (St.fresh 2 1 9) a F K L P T) /\ Below w.heap.size w w') :=
  Lh (new_r 2 1 9 (by omega) (by omega) (by omega) w hT hT.free)
 have HT := Lh hT
 clear hT
 go_enter Tryz.func6, Tryz.ntmps6
 go_wp2_with fail
 refine HN.out.mono ?_
 rintro e w1 ⟨⟨a, F, K, L, P, T, rfl, hR⟩, hb1⟩
 have HE : Hid (Calls Tryz.prog 17 #[.pointer (some ⟨a.r, 0, none⟩), .int .i64 3] w1 fun e w' => EpPost w.heap.size (St.fresh 2 1 9) a.r 3 e w' /\ Below w.heap.size w1 w') := Lh (epoch_any hR aStOk (HT.out.at_.below hb1) HT.out.free 3 (by omega))
 have HB1 := Lh hb1
 obtain ⟨r, hr⟩ : ∃ r, r = a.r := ⟨_, rfl⟩
 rw [<- hr] at HE ⊢
 clear hR hb1 HN hr
 go_wp2_with fail
 refine HE.out.mono ?_
 rintro e w2 ⟨hpost, hb2⟩
 unfold EpPost at hpost
 obtain ⟨res, v, ok, S', a', F', K', L', P', T', rfl, herr, hrel, ha, hR2⟩ := hpost
 obtain ⟨rfl, rfl, k, e', hk, he', rfl⟩ := epoch_fresh hrel
 have hv : v = Value.nilIface := by
  rcases herr with ⟨-, h⟩ | ⟨h, -⟩
  ·exact h
  ·cases h
 subst hv
 rw [show ((0 : Nat) : Int) = 0 from rfl]
 have hB2 := HB1.out.trans hb2
 have HF := Lh (flush_r hR2 (show Kq (aSt k e').s (aSt k e').D (2 * (aSt k e').slots) from aKp1 hk) (show 2 <= 8 by omega))
 rw [ha] at HF
 have H2 := Lh (Ai hk (Ai he' (Ai hB2 ha)))
 clear hrel hR2 hb2 hB2 HE hk he'
 go_wp2_with fail
 refine HF.out.mono ?_
 rintro e w3 ⟨rfl, ⟨F3, T3, hR3⟩, hb3⟩
 have hk := H2.out.1
 have hc := awOk_out hk
 have hB3 := H2.out.2.2.1.trans hb3
 have hD2 : (aD2 k).Ok := (aKp2 hk).ok
 have hq2 : (aD2 k).queue = [] := (aKp2 hk).queue
 have hl2 : (aD2 k).safe.length = 1664 := hc.2.2.2.2.2.2.2.2
 have e3 : (aSt k e').flush.D = aD2 k := by rw [aFlush]
 have e3l : (aSt k e').flush.l = aTms := by rw [aFlush]; rfl
 have e3e : (aSt k e').flush.eps = [((3 : Int), (1 : Int))] := by rw [aFlush]; rfl
 have HL := Lh (aLeaks (b := true) ⟨a', F3, K', L', P', T3, ha, hR3⟩ e3e e3l (by rw [e3]; exact hD2) (by rw [e3]; unfold Dk.size; rw [hl2]; omega) (by rw [e3]; exact hq2) (HT.out.at_.below hB3).here (fun ss hss => by
  rw [e3] at hss
  exact ⟨fun _ => rfl, fun _ => aFol_yes ((hss 0).2 (seen_safe ((names_has (n := 0) (by omega)).2 hc.1.1))) ((hss 2).2 (seen_safe ((names_has (n := 2) (by omega)).2 hc.1.2.1)))⟩))
 have H3 := Lh (Ai hR3 hB3)
 clear hR3 hb3 hB3 hD2 hq2 hl2 e3 e3l e3e hc hk HF
 go_wp2_with fail
 refine HL.out.mono ?_
 rintro e w4 ⟨rfl, hb4⟩
 have hR4 := H3.out.1.below hb4
 have hk := H2.out.1
 have e3 : (aSt k e').flush.D = aD2 k := by rw [aFlush]
 have e3s : (aSt k e').flush.s = aS1.flushed := by rw [aFlush]
 have e3n : (aSt k e').flush.slots = 2 := by rw [aFlush]; rfl
 have e3d : (aSt k e').flush.dead = false := by rw [aFlush]; rfl
 have e3E : (aSt k e').flush.E = [none, none].set k (some e') := by rw [aFlush]; rfl
 have hl2 : (aD2 k).safe.length = 1664 := (awOk_out hk).2.2.2.2.2.2.2.2
 have hD2 : (aD2 k).Ok := (aKp2 hk).ok
 have hq2 : (aD2 k).queue = [] := (aKp2 hk).queue
 have hEl : ([none, none].set k (some e') : List (Option Ke)).length = 2 := by simp
 have HS : Hid (Calls Tryz.prog 19 #[.pointer (some ⟨a'.r, 0, none⟩), .int .i64 (3 : Nat)] w4 _) := Lh (shred_r hR4 (by rw [e3, e3s, e3n]; exact aKp2 hk) (by rw [e3n]; omega) e3d (by rw [e3E, e3n]; exact hEl) (by rw [aFlush2, e3]; exact hD2) (by rw [aFlush2, e3, hq2]; simp) (by rw [aFlush2, e3, e3E, hEl, hl2]; omega) 3 (by
  rw [e3E]
  exact ⟨e', List.mem_iff_getElem?.2 ⟨k, by rw [List.getElem?_set_self (by exact hk)]⟩, H2.out.2.1⟩))
 rw [H2.out.2.2.2] at HS
 have H4 := Lh (H3.out.2.trans (hb4.mono H3.out.2.size))
 clear hR4 hb4 e3 e3s e3n e3d e3E hl2 hD2 hq2 hEl hk HL
 go_wp2_with fail
 refine HS.out.mono ?_
 rintro e w5 ⟨⟨v, k2, e0, F5, K5, T5, rfl, hk2, he0, herr, hR5⟩, hb5⟩
 have hk := H2.out.1
 have hc := awOk_out hk
 have e3E : (aSt k e').flush.E = [none, none].set k (some e') := by rw [aFlush]; rfl
 have hkk : k2 = k := set_get (by rw [e3E] at hk2; exact hk2)
 subst hkk
 have e3 : (aSt k2 e').flush.flush.D = aD2 k2 := by rw [aFlush2, aFlush]
 rw [e3, hc.1.2.2.2.2.2] at herr
 have hv : v = Value.nilIface := by
  rcases herr with ⟨-, h⟩ | ⟨h, -⟩
  ·exact h
  ·cases h
 subst hv
 have hB5 := H4.out.trans hb5
 have hat : AwAt w5 w.heap.size { (aSt k2 e').flush.flush with E := (aSt k2 e').flush.E.set k2 none, dead := !((aSt k2 e').flush.flush.D.twoOk (0 + 2 * k2) zer), D := (aSt k2 e').flush.flush.D.two (0 + 2 * k2) zer } r := ⟨a', F5, K5, L', P', T5, H2.out.2.2.2, hR5⟩
 have e5 : ({ (aSt k2 e').flush.flush with E := (aSt k2 e').flush.E.set k2 none, dead := !((aSt k2 e').flush.flush.D.twoOk (0 + 2 * k2) zer), D := (aSt k2 e').flush.flush.D.two (0 + 2 * k2) zer } : St).D = aD3 k2 := by
  show (aSt k2 e').flush.flush.D.two (0 + 2 * k2) zer = aD3 k2
  rw [e3]
  rfl
 have eE : ({ (aSt k2 e').flush.flush with E := (aSt k2 e').flush.E.set k2 none, dead := !((aSt k2 e').flush.flush.D.twoOk (0 + 2 * k2) zer), D := (aSt k2 e').flush.flush.D.two (0 + 2 * k2) zer } : St).eps = [((3 : Int), (1 : Int))] := by
  show (aSt k2 e').flush.flush.eps = _
  rw [aFlush2, aFlush]; rfl
 have el : ({ (aSt k2 e').flush.flush with E := (aSt k2 e').flush.E.set k2 none, dead := !((aSt k2 e').flush.flush.D.twoOk (0 + 2 * k2) zer), D := (aSt k2 e').flush.flush.D.two (0 + 2 * k2) zer } : St).l = aTms := by
  show (aSt k2 e').flush.flush.l = _
  rw [aFlush2, aFlush]; rfl
 generalize ({ (aSt k2 e').flush.flush with E := (aSt k2 e').flush.E.set k2 none, dead := !((aSt k2 e').flush.flush.D.twoOk (0 + 2 * k2) zer), D := (aSt k2 e').flush.flush.D.two (0 + 2 * k2) zer } : St) = S5 at hat e5 eE el
 have hl3 := hc.2.2.2.2.2.1
 have hq3 := hc.2.2.2.2.2.2.1
 have hD3 : (aD3 k2).Ok := dk_fine (n := 13) hl3 hq3 hc.2.2.2.2.2.2.2.1 (by omega)
 have HL := Lh (aLeaks (b := false) hat eE el (by rw [e5]; exact hD3) (by rw [e5]; unfold Dk.size; rw [hl3]; omega) (by rw [e5]; exact hq3) (HT.out.at_.below hB5).here (fun ss hss => by
  rw [e5] at hss
  refine ⟨fun h => ?_, fun h => by cases h⟩
  have h0 : (0 : Int) ∉ ss := fun h0 => by
   have := (names_has (n := 0) (by omega)).1 (seen_idle hq3 ((hss 0).1 h0))
   rw [hc.1.2.2.1] at this
   cases this
  have h1 : (1 : Int) ∉ ss := fun h1 => by
   have := (names_has (n := 1) (by omega)).1 (seen_idle hq3 ((hss 1).1 h1))
   rw [hc.1.2.2.2.1] at this
   cases this
  exact absurd (aFol_no h0 h1 h) (by decide)))
 have H5 := Lh (Ai hat (Ai eE hB5))
 clear hk2 he0 herr hR5 hb5 hk hc e3E e3 hat e5 eE el hl3 hq3 hD3 hB5 HS H2 H3
 go_wp2_with fail
 refine HL.out.mono ?_
 rintro e w6 ⟨rfl, hb6⟩
 have hat6 : AwAt w6 w.heap.size S5 r := by
  obtain ⟨a6, F6, K6, L6, P6, T6, h1, h2⟩ := H5.out.1
  exact ⟨a6, F6, K6, L6, P6, T6, h1, h2.below hb6⟩
 have HE6 : Hid (Calls Tryz.prog 31 #[.pointer (some ⟨r, 0, none⟩)] w6 fun e w' => e = .returned (.int .i64 1) /\ w6 = w') := by
  obtain ⟨a6, F6, K6, L6, P6, T6, h1, h2⟩ := hat6
  have h3 := epochs_any h2
  rw [H5.out.2.1, h1] at h3
  exact Lh h3
 have H6 := Lh (H5.out.2.2.trans (hb6.mono H5.out.2.2.size))
 clear hat6 hb6 HL
 go_wp2_with fail
 refine HE6.out.mono ?_
 rintro e w7 ⟨rfl, rfl⟩
 go_wp2_with fail
 go_ret
 exact ⟨rfl, H6.out⟩
end
end Go.Proofs.YtkgaeoeibjoljaaGreatDoor
