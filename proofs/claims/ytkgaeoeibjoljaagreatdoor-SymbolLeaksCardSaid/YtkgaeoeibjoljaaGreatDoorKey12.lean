/-
  Open.
-/
import Derived.Test.YtkgaeoeibjoljaaGreatDoorGH
import Derived.Laws.MakeOwn
namespace Go.Proofs.YtkgaeoeibjoljaaGreatDoor
set_option maxRecDepth 4000
open Go.RowKit
abbrev Sl := Option (Nat × List UInt8) × List UInt8
def slo (s : Sl) : List UInt8 := enc s.1 ++ s.2
def slos (P : List Sl) : List UInt8 := P.flatMap slo
def SlOk (s : Sl) : Prop := (∀ p, s.1 = some p -> KOk p) /\ s.2.length = 128
theorem slo_length {s : Sl} (h : SlOk s) : (slo s).length = 256 := by
 unfold slo
 rw [List.length_append, enc_length _ h.1, h.2]
theorem slos_cut : ∀ {P : List Sl} {j : Nat} {s : Sl}, (∀ s ∈ P, SlOk s) -> P[j]? = some s -> ((slos P).drop (j * 256)).take 256 = slo s
 | [], j, s, _, h => by simp at h
 | x :: P, 0, s, hP, h => by
  injection h with h; subst h
  show ((slo x ++ slos P).drop (0 * 256)).take 256 = _
  rw [Nat.zero_mul, List.drop_zero, List.take_left' (slo_length (hP x (by simp)))]
 | x :: P, j + 1, s, hP, h => by
  show ((slo x ++ slos P).drop ((j + 1) * 256)).take 256 = _
  have hx := slo_length (hP x (by simp))
  rw [show (j + 1) * 256 = (slo x).length + j * 256 by omega, <- List.drop_drop, List.drop_left]
  exact slos_cut (fun s hs => hP s (List.mem_cons_of_mem _ hs)) (by simpa using h)
theorem info_entry : (Tryz.prog.info? 160).map (fun i => (i.zero, i.size, i.bytes)) = some (some (.agg #[.bool false, .int .i64 0, .slice none 0 0]), 3, 40) := by kernel_rfl
theorem make_ents (n : Nat) (hn : n <= 1000) (W : World) : (Instr.makeSlice 156 (.int .i64 (n : Int)) (.int .i64 (n : Int))).run Tryz.prog W = .ok (.slice (some ⟨W.heap.size, 0, none⟩) n n) (W.alloc (.cells (kcs (List.replicate n none)).toArray 160)) := by
 obtain ⟨i, hi, hz, hs, hb⟩ := info_parts info_entry
 have h := run_make (P := Tryz.prog) W 156 160 i _ Tryz.underlying156 hi hz .i64 .i64 (n : Int) (n : Int) (by omega) (by omega) (by rw [hb]; omega) (by omega)
 have e1 : madeCells (Value.agg #[.bool false, .int .i64 0, .slice none 0 0]).cells ((n : Int).toNat * i.size) = (kcs (List.replicate n none)).toArray := by
  rw [hs, Int.toNat_natCast]
  refine Array.ext' (List.ext_getElem? fun j => ?_)
  by_cases hj : j < n * 3
  ·have hk : (List.replicate n (none : Option Ke))[j / 3]? = some none := by rw [List.getElem?_replicate, if_pos (by omega)]
   have hg := kcs_get hk (j % 3) (by omega)
   rw [show j / 3 * 3 + j % 3 = j by omega] at hg
   rw [hg]
   have h3 : j % 3 = 0 \/ j % 3 = 1 \/ j % 3 = 2 := by omega
   simp only [madeCells, Array.toList_map, List.getElem?_map, Array.toList_range, List.getElem?_range hj, Option.map_some]
   rcases h3 with h3 | h3 | h3 <;> simp [h3, Value.cells, keCells]
  ·rw [List.getElem?_eq_none (by simp [madeCells]; omega), List.getElem?_eq_none (by simp; omega)]
 rw [e1, Int.toNat_natCast] at h
 exact h
theorem sect_far {l b : List UInt8} {a m : Nat} (hb : b.length = 128) (ha : (a + 1) * 128 <= l.length) (h : m ≠ a) : sect (put l (a, b)) m = sect l m := by
 show ((l.take (a * 128) ++ (b ++ l.drop (a * 128 + b.length))).drop (m * 128)).take 128 = (l.drop (m * 128)).take 128
 refine List.ext_getElem? fun i => ?_
 rw [List.getElem?_take, List.getElem?_take]
 split
 ·rename_i hi
  rw [List.getElem?_drop, List.getElem?_drop]
  rcases Nat.lt_or_gt_of_ne h with hlt | hgt
  ·rw [List.getElem?_append_left (by rw [List.length_take]; omega), List.getElem?_take, if_pos (by omega)]
  ·rw [List.getElem?_append_right (by rw [List.length_take]; omega), List.getElem?_append_right (by rw [List.length_take]; omega), List.getElem?_drop]
   congr 1
   rw [List.length_take]
   omega
 ·rfl
theorem Dk.took_far {D : Dk} (hc : D.calls = -1) (hq : D.queue = []) (a m : Nat) (X Y : List UInt8) (hX : X.length = 128) (ha : (a + 1) * 128 <= D.safe.length) (hm : m ≠ a) : sect (D.took a X Y).safe m = sect D.safe m := by
 unfold Dk.took
 split
 ·rfl
 ·unfold Dk.lay
  rw [if_neg (by rw [hc]; decide), if_neg (by rw [hc]; decide)]
  have e : (D.push a X 1).flushed.safe = put D.safe (a, sect X 0) := by
   show puts D.safe (D.queue ++ parts a X 1) = _
   rw [hq]
   rfl
  rw [e]
  exact sect_far (length_sect _ _ (by omega)) ha hm
theorem Dk.took_on {D : Dk} (hok : D.Ok) (hc : D.calls = -1) (hq : D.queue = []) (a : Nat) (X Y : List UInt8) (hX : X.length = 128) (ha : (a + 1) * 128 <= D.safe.length) :
  (D.took a X Y).Ok /\ (D.took a X Y).calls = -1 /\ (D.took a X Y).queue = [] /\ (D.took a X Y).safe.length = D.safe.length := by
 unfold Dk.took
 split
 ·exact ⟨hok, hc, hq, rfl⟩
 ·refine ⟨hok.lay a X (by omega) ha, ?_, ?_, D.lay_length hok a X (by omega) ha⟩
  ·unfold Dk.lay
   rw [if_neg (by rw [hc]; decide), if_neg (by rw [hc]; decide)]
   simp [Dk.flushed, Dk.push, nextCalls, hc]
  ·unfold Dk.lay
   rw [if_neg (by rw [hc]; decide), if_neg (by rw [hc]; decide)]
   rfl
theorem take_sl (t b sg : Nat) (f : Nat) (E : List (Option Ke)) (D : Dk) (F K G : Nat -> Prop) (i : Nat) (s : Sl) (g o c : Nat) (w : World)
  (h : KSt w t b sg f E false D F K G) (hok : D.Ok) (hc : D.calls = -1) (hq : D.queue = []) (hf : f <= 1000000) (hE : E.length <= 1000) (hi : i < E.length) (hfit : (f + 2 * i + 1 + 1) * 128 <= D.safe.length)
  (hs : SlOk s) (hno : ∀ p, s.1 = some p -> ∀ e, some e ∈ E -> e.buck ≠ p.1) (hEi : E[i]? = some none) (hS : Sees w 1 (some ⟨g, o, none⟩) 256 (u8s (slo s))) (hA : ¬ G g) (hcl : 256 <= c) (hcm : c <= maxLen) :
  Calls Tryz.prog 121 #[.pointer (some ⟨t, 0, none⟩), .int .i64 i, .slice (some ⟨g, o, none⟩) 256 c] w fun e w' => e = .returned Value.nilIface /\ ∃ e', keD e' = oD s.1 /\ KTo w G t b sg f (E.set i e') false (D.took (f + 2 * i + 1) (enc s.1) s.2) w' := by
 obtain ⟨q, Y⟩ := s
 match q, hs, hno, hS with
 | none, hs, hno, hS =>
  refine (take_none t b sg f E D F K G i Y g o c w h hok hc hq hf (by omega) hfit hs.2 hS hcl hcm).mono ?_
  rintro e w' ⟨he, hto⟩
  refine ⟨he, none, rfl, ?_⟩
  have : E.set i none = E := by
   refine List.ext_getElem? fun k => ?_
   rw [List.getElem?_set]
   split
   ·rename_i hk
    subst hk
    rw [hEi]
   ·rfl
  rw [this]
  exact hto
 | some p, hs, hno, hS =>
  refine (take_key t b sg f E D F K G i p Y g o c w h hok hc hq hf hE hi hfit hs.2 (hs.1 p rfl) (hno p rfl) hS ⟨fun hF => hA (h.fin g hF).1, fun hK => hA (h.kin g hK).1⟩ hcl hcm).mono ?_
  rintro e w' ⟨he, e', h1, h2, hto⟩
  exact ⟨he, some e', by show some (e'.buck, e'.key) = some ((p.1 : Int), p.2); rw [h1, h2], hto⟩
structure OpenAt (w wr : World) (t b sg gb f : Nat) (P : List Sl) (F : Nat -> Prop) (D : Dk) (j : Nat) (E : List (Option Ke)) (D' : Dk) (F' K' G' : Nat -> Prop) : Prop where
 st : KSt wr t b sg f E false D' F' K' G'
 fr : Fr F w wr
 sub : ∀ k, k < w.heap.size -> G' k -> F k
 out : ¬ G' gb
 sees : Sees wr 1 (some ⟨gb, 0, none⟩) (P.length * 256) (u8s (slos P))
 len : E.length = P.length
 done : ∀ (k : Nat) (s : Sl), k < j -> P[k]? = some s -> ∃ e, E[k]? = some e /\ keD e = oD s.1
 todo : ∀ k, j <= k -> k < P.length -> E[k]? = some none
 ok : D'.Ok
 on : D'.calls = -1
 idle : D'.queue = []
 long : D'.safe.length = D.safe.length
 same : (∀ s ∈ P, enc s.1 = s.2) -> D' = D
 odd : ∀ m, (m % 2 = f % 2 \/ f + 2 * P.length <= m) -> sect D'.safe m = sect D.safe m
theorem OpenAt.step {w wr w' : World} {t b sg gb f : Nat} {P : List Sl} {F : Nat -> Prop} {D : Dk} {j : Nat} {E : List (Option Ke)} {D' : Dk} {F' K' G' : Nat -> Prop} {s : Sl} {e' : Option Ke}
  (h : OpenAt w wr t b sg gb f P F D j E D' F' K' G') (hP : ∀ s ∈ P, SlOk s) (hs : P[j]? = some s) (hfit : (f + 2 * P.length) * 128 <= D.safe.length) (hgb : gb < wr.heap.size) (he : keD e' = oD s.1)
  (hto : KTo wr G' t b sg f (E.set j e') false (D'.took (f + 2 * j + 1) (enc s.1) s.2) w') : ∃ E D' F' K' G', OpenAt w w' t b sg gb f P F D (j + 1) E D' F' K' G' := by
 have hj := (List.getElem?_eq_some_iff.1 hs).1
 obtain ⟨F2, K2, G2, st, fr, sub⟩ := hto
 have hok := hP s (List.mem_of_getElem? hs)
 obtain ⟨k1, k2, k3, k4⟩ := Dk.took_on h.ok h.on h.idle (f + 2 * j + 1) (enc s.1) s.2 (enc_length _ hok.1) (by rw [h.long]; exact Nat.le_trans (Nat.mul_le_mul_right _ (by omega)) hfit)
 refine ⟨_, _, F2, K2, G2, st, h.fr.trans fr (fun k hk hg => h.sub k hk hg), fun k hk hg => h.sub k hk (sub k (Nat.lt_of_lt_of_le hk h.fr.size) hg), fun hg => h.out (sub gb hgb hg), ?_, by rw [List.length_set, h.len], ?_, ?_, k1, k2, k3, by rw [k4, h.long], ?_, fun m hm => ?_⟩
 ·exact Sees.fr (F := G') h.sees fr (fun _ a ha hg => by injection ha with ha; subst ha; exact h.out hg)
 ·intro k s' hk hs'
  rw [List.getElem?_set]
  split
  ·rename_i hjk
   subst hjk
   rw [hs] at hs'
   injection hs' with hs'
   subst hs'
   rw [if_pos (by rw [h.len]; exact hj)]
   exact ⟨e', rfl, he⟩
  ·rename_i hjk
   exact h.done k s' (by omega) hs'
 ·intro k hk hkl
  rw [List.getElem?_set, if_neg (by omega)]
  exact h.todo k (by omega) hkl
 ·intro hall
  have hh := h.same hall
  unfold Dk.took
  rw [if_pos (hall s (List.mem_of_getElem? hs)), hh]
 ·rw [Dk.took_far h.on h.idle (f + 2 * j + 1) m (enc s.1) s.2 (enc_length _ hok.1) (by rw [h.long]; exact Nat.le_trans (Nat.mul_le_mul_right _ (by omega)) hfit) (by omega)]
  exact h.odd m hm
theorem OpenAt.start {w w1 : World} {b gb f : Nat} {P : List Sl} {F : Nat -> Prop} {D : Dk} (hD : DiskAt w1 b F D) (hf : Fr F w w1) (hF : ∀ k, F k -> k < w.heap.size) (hok : D.Ok) (hc : D.calls = -1) (hq : D.queue = [])
  (hS : Sees w1 1 (some ⟨gb, 0, none⟩) (P.length * 256) (u8s (slos P))) (hg : w.heap.size <= gb) (hg2 : gb < w1.heap.size) :
  OpenAt w ((w1.alloc (.cells (kcs (List.replicate P.length none)).toArray 160)).alloc (.cells #[.pointer (some ⟨b, 0, none⟩), .int .i64 f, .slice (some ⟨w1.heap.size, 0, none⟩) P.length P.length, .bool false] 158)) (w1.heap.size + 1) b w1.heap.size gb f P F D 0 (List.replicate P.length none) D F (fun k => k = w1.heap.size + 1 \/ k = w1.heap.size) (fun k => F k \/ k = w1.heap.size + 1 \/ k = w1.heap.size) := by
 have hz := hf.size
 obtain ⟨w2, hw2⟩ : ∃ w2, w1.alloc (.cells (kcs (List.replicate P.length none)).toArray 160) = w2 := ⟨_, rfl⟩
 have h2 : w2.heap.size = w1.heap.size + 1 := by rw [<- hw2]; simp
 have b12 : Below w1.heap.size w1 w2 := hw2 ▸ (Below.refl _ _).alloc (Nat.le_refl _) _
 have hrow : Blk w2 w1.heap.size 160 (kcs (List.replicate P.length none)).toArray := hw2 ▸ Blk.new w1 160 _
 rw [hw2, <- h2]
 have b23 : Below w2.heap.size w2 (w2.alloc (.cells #[.pointer (some ⟨b, 0, none⟩), .int .i64 f, .slice (some ⟨w1.heap.size, 0, none⟩) P.length P.length, .bool false] 158)) := (Below.refl _ _).alloc (Nat.le_refl _) _
 have htop := Blk.new w2 158 #[.pointer (some ⟨b, 0, none⟩), .int .i64 f, .slice (some ⟨w1.heap.size, 0, none⟩) P.length P.length, .bool false]
 have h3 : (w2.alloc (.cells #[.pointer (some ⟨b, 0, none⟩), .int .i64 f, .slice (some ⟨w1.heap.size, 0, none⟩) P.length P.length, .bool false] 158)).heap.size = w2.heap.size + 1 := by simp
 generalize w2.alloc (.cells #[.pointer (some ⟨b, 0, none⟩), .int .i64 f, .slice (some ⟨w1.heap.size, 0, none⟩) P.length P.length, .bool false] 158) = w3 at *
 have b13 := b12.trans (b23.mono b12.size)
 have hno : ∀ e : Ke, some e ∉ List.replicate P.length (none : Option Ke) := fun e he => by have := List.eq_of_mem_replicate he; cases this
 refine ⟨⟨hD.below b13, ⟨?_, hrow.below b23 (by omega), fun e he => absurd he (hno e), fun i j e _ he _ _ => absurd (List.mem_of_getElem? he) (hno e), .inl rfl, .inr rfl⟩, ?_, ?_, ?_⟩, hf.trans (Fr.of_below b13 F) (fun _ _ h => h), ?_, ?_, hS.below b13, by simp, fun k s hk => by omega, ?_, hok, hc, hq, rfl, fun _ => rfl, fun _ _ => rfl⟩
 ·rw [List.length_replicate]
  exact htop
 ·rintro k hk (rfl | rfl)
  ·have := hF _ hk; omega
  ·have := hF _ hk; omega
 ·intro k hk
  exact ⟨.inl hk, by have := hF _ hk; omega⟩
 ·rintro k (rfl | rfl)
  ·exact ⟨.inr (.inl rfl), by omega⟩
  ·exact ⟨.inr (.inr rfl), by omega⟩
 ·rintro k hk (h | rfl | rfl)
  ·exact h
  ·omega
  ·omega
 ·rintro (h | h | h)
  ·have := hF _ h; omega
  ·omega
  ·omega
 ·intro k _ hk
  rw [List.getElem?_replicate, if_pos hk]
set_option maxHeartbeats 2000000 in
theorem open_any2 (b : Nat) (f : Nat) (P : List Sl) (D : Dk) (F : Nat -> Prop) (w : World)
  (hD : DiskAt w b F D) (hF : ∀ k, F k -> k < w.heap.size) (hok : D.Ok) (hc : D.calls = -1) (hq : D.queue = []) (hf : f <= 1000000) (h0 : 1 <= P.length) (h64 : P.length <= 64) (hfit : (f + 2 * P.length) * 128 <= D.safe.length)
  (hP : ∀ s ∈ P, SlOk s) (hpc : D.piece f (2 * P.length) = slos P) (huniq : ∀ (i j : Nat) (p q : Nat × List UInt8) (Y Z : List UInt8), P[i]? = some (some p, Y) -> P[j]? = some (some q, Z) -> p.1 = q.1 -> i = j) :
  Calls Tryz.prog 77 #[.pointer (some ⟨b, 0, none⟩), .int .i64 f, .int .i64 P.length] w fun e w' => ∃ (t sg : Nat) (E : List (Option Ke)) (D' : Dk), e = .returned (.tuple #[.pointer (some ⟨t, 0, none⟩), Value.nilIface]) /\ E.length = P.length /\
   (∀ (k : Nat) (s : Sl), P[k]? = some s -> ∃ e, E[k]? = some e /\ keD e = oD s.1) /\ KTo w F t b sg f E false D' w' /\ ((∀ s ∈ P, enc s.1 = s.2) -> D' = D) /\
   (D'.Ok /\ D'.calls = -1 /\ D'.queue = [] /\ D'.safe.length = D.safe.length /\ ∀ m, (m % 2 = f % 2 \/ f + 2 * P.length <= m) -> sect D'.safe m = sect D.safe m) := by
 have htk : D.ticked = D := by cases D; simp at hc; simp [Dk.ticked, nextCalls, hc]
 have hr := read_good b F D f (2 * P.length) w hD hok (by rw [hq]; exact Nat.zero_le _) (by rw [hc]; decide) hfit
 rw [hpc, htk] at hr
 have HR := Lh hr
 have hmk := make_ents P.length (by omega)
 have HST := Lh (fun w1 gb hD hf => @OpenAt.start w w1 b gb f P F D hD hf hF hok hc hq)
 obtain ⟨Z, hZ⟩ : ∃ Z, Z = (kcs (List.replicate P.length none)).toArray := ⟨_, rfl⟩
 rw [<- hZ] at hmk HST
 have HM := Lh hmk
 have HP := Lh (Ai hP huniq)
 have HSTEP := Lh (fun t sg gb j E D' F' K' G' wr w' s e' h => @OpenAt.step w wr w' t b sg gb f P F D j E D' F' K' G' s e' h hP)
 have hcut : ∀ j s, P[j]? = some s -> ((u8s (slos P)).drop (j * 256)).take 256 = u8s (slo s) := fun j s hs => by rw [<- u8s_drop, <- u8s_take, slos_cut hP hs]
 have HC := Lh hcut
 have hcast : ((2 * P.length : Nat) : Int) = 2 * (P.length : Int) := by omega
 rw [hcast] at HR
 have hn : ∃ n, n = P.length := ⟨_, rfl⟩
 obtain ⟨n, hn⟩ := hn
 rw [<- hn] at HR HM HST h0 h64 hfit HSTEP ⊢
 clear hmk hZ hr htk hP huniq hF hok hc hq hpc hcut hcast hD
 replace hn := Lh hn
 have hnI : ¬ ((n : Int) < 1) := by omega
 have hnJ : ¬ (64 < (n : Int)) := by omega
 go_enter Tryz.func77, Tryz.ntmps77
 go_wp2_with fail
 refine HR.out.mono ?_
 rintro e w1 ⟨v, rfl, ho, hD1, hf1⟩
 obtain ⟨gb, cb, cur, rfl, hgb, -, hcb, hcm, -⟩ := own_open ho (by omega)
 have hgl : gb < w1.heap.size := (ho.lt gb rfl).2
 have hse := Sees.of_own ho
 rw [show 2 * n * 128 = n * 256 by omega] at hse
 have HST1 := Lh (HST.out w1 gb hD1 hf1 hse hgb hgl)
 have hz1 := hf1.size
 clear ho hD1 hf1 HR hse HST
 have hcm' := hcm
 unfold maxLen at hcm
 replace hcm' := Lh hcm'
 go_wp2_with (simp only [HM.out])
 generalize (w1.alloc (.cells Z 160)).alloc (.cells #[.pointer (some ⟨b, 0, none⟩), .int .i64 f, .slice (some ⟨w1.heap.size, 0, none⟩) n n, .bool false] 158) = w3 at *
 go_loopw [44] (fun i wr => ∃ j : Nat, i = .int .i64 j /\ j <= n /\ Hid (∃ E D' F' K' G', OpenAt w wr (w1.heap.size + 1) b w1.heap.size gb f P F D j E D' F' K' G')) (fun i _ => n - (intOf i).toNat)
 case atStart => exact ⟨0, rfl, Nat.zero_le _, Lh ⟨_, _, _, _, _, HST1.out⟩⟩
 case round =>
  obtain ⟨j, rfl, hj, hr⟩ := hrel
  by_cases hlt : j < n
  ·have hP0 := HP.out
   obtain ⟨s, hs⟩ : ∃ s, P[j]? = some s := ⟨_, List.getElem?_eq_getElem (by rw [<- hn.out]; exact hlt)⟩
   have hsP := hP0.1 s (List.mem_of_getElem? hs)
   obtain ⟨E, D', F', K', G', hr⟩ := hr.out
   have hpc := hr.sees.piece (j * 256) 256 (by rw [<- hn.out]; omega)
   rw [HC.out j s hs, Nat.zero_add] at hpc
   have hEl := hr.len
   rw [<- hn.out] at hEl
   have HT := Lh (take_sl _ b _ f E D' F' K' G' j s gb (j * 256) (cb - j * 256) wr hr.st hr.ok hr.on hr.idle hf (by omega) (by omega) (by rw [hr.long]; exact Nat.le_trans (Nat.mul_le_mul_right _ (by omega)) hfit) hsP
    (fun p hp e he hb => by
     obtain ⟨m, hm⟩ := List.mem_iff_getElem?.1 he
     have hml : m < P.length := by rw [<- hr.len]; exact (List.getElem?_eq_some_iff.1 hm).1
     rcases Nat.lt_or_ge m j with hmj | hmj
     ·obtain ⟨s2, hs2⟩ : ∃ s, P[m]? = some s := ⟨_, List.getElem?_eq_getElem hml⟩
      obtain ⟨e2, h2, h3⟩ := hr.done m s2 hmj hs2
      rw [hm] at h2
      injection h2 with h2
      subst h2
      obtain ⟨o2, Y2⟩ := s2
      obtain ⟨o1, Y1⟩ := s
      match o2, h3, hs2 with
      | some q, h3, hs2 =>
       have h4 : (e.buck, e.key) = ((q.1 : Int), q.2) := Option.some.inj h3
       have h5 := congrArg Prod.fst h4
       subst hp
       have := hP0.2 m j q p Y2 Y1 hs2 hs (by simp only at h5; omega)
       omega
     ·have := hr.todo m hmj hml
      rw [hm] at this
      cases this)
    (hr.todo j (Nat.le_refl _) (by rw [<- hn.out]; exact hlt)) hpc hr.out (by omega) (by unfold maxLen; omega))
   have HR := Lh hr
   have HS := Lh hs
   have hgw : gb < wr.heap.size := sees_lt hr.sees (by rw [<- hn.out]; omega)
   clear hr hpc hEl hsP hP0 hs
   go_wp2_with fail
   rw [show 2 * (j + 1) * 128 - 2 * j * 128 = 256 by omega, show 2 * j * 128 = j * 256 by omega]
   refine HT.out.mono ?_
   rintro e w4 ⟨rfl, e', he, hto⟩
   have HN := Lh (HSTEP.out _ _ _ _ _ _ _ _ _ _ _ _ _ HR.out HS.out hfit hgw he hto)
   clear he hto HT HR
   go_wp2_with fail
   go_roundw
   case rel => exact ⟨j + 1, by go_num, by omega, HN⟩
   case measure => simp [intOf]; omega
  ·obtain rfl : j = n := by omega
   obtain ⟨E, D', F', K', G', hr⟩ := hr.out
   have HR := Lh hr; clear hr
   go_wp2_with fail
   go_ret2
   exact ⟨_, _, E, D', rfl, by rw [HR.out.len, hn.out], fun k s hs => HR.out.done k s (by rw [hn.out]; exact (List.getElem?_eq_some_iff.1 hs).1) hs, ⟨F', K', G', HR.out.st, HR.out.fr, HR.out.sub⟩, HR.out.same, HR.out.ok, HR.out.on, HR.out.idle, HR.out.long, fun m hm => HR.out.odd m (hm.imp_right fun h => by rw [<- hn.out]; exact h)⟩
theorem open_any' (b : Nat) (f : Nat) (P : List Sl) (D : Dk) (F : Nat -> Prop) (w : World)
  (hD : DiskAt w b F D) (hF : ∀ k, F k -> k < w.heap.size) (hok : D.Ok) (hc : D.calls = -1) (hq : D.queue = []) (hf : f <= 1000000) (h0 : 1 <= P.length) (h64 : P.length <= 64) (hfit : (f + 2 * P.length) * 128 <= D.safe.length)
  (hP : ∀ s ∈ P, SlOk s) (hpc : D.piece f (2 * P.length) = slos P) (huniq : ∀ (i j : Nat) (p q : Nat × List UInt8) (Y Z : List UInt8), P[i]? = some (some p, Y) -> P[j]? = some (some q, Z) -> p.1 = q.1 -> i = j) :
  Calls Tryz.prog 77 #[.pointer (some ⟨b, 0, none⟩), .int .i64 f, .int .i64 P.length] w fun e w' => ∃ (t sg : Nat) (E : List (Option Ke)) (D' : Dk), e = .returned (.tuple #[.pointer (some ⟨t, 0, none⟩), Value.nilIface]) /\ E.length = P.length /\
   (∀ (k : Nat) (s : Sl), P[k]? = some s -> ∃ e, E[k]? = some e /\ keD e = oD s.1) /\ KTo w F t b sg f E false D' w' /\ ((∀ s ∈ P, enc s.1 = s.2) -> D' = D) := by
 refine (open_any2 b f P D F w hD hF hok hc hq hf h0 h64 hfit hP hpc huniq).mono ?_
 rintro e w' ⟨t, sg, E, D', h1, h2, h3, h4, h5, -⟩
 exact ⟨t, sg, E, D', h1, h2, h3, h4, h5⟩
end Go.Proofs.YtkgaeoeibjoljaaGreatDoor
