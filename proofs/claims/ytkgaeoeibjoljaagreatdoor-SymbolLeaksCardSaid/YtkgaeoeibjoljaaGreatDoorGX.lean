/-
  What follows from terms, as plain lists: the search's steps, the document's rounds; both find the same. No program in sight.
  The search and its steps, as plain lists. No program in sight.
  A search in memory; a step learnt.
  A known term taken apart.
-/
import Derived.Test.YtkgaeoeibjoljaaGreatDoorGP
import Derived.Test.YtkgaeoeibjoljaaGreatDoorGQ
namespace Go.Proofs.YtkgaeoeibjoljaaGreatDoor
section
set_option maxRecDepth 4000
structure Wy where
 t : Int
 h : Int
 o : Int
deriving DecidableEq
inductive Fol (l : List Tm) (gv : List Int) : Nat -> Prop
 | given (n : Nat) : (n : Int) ∈ gv -> n < l.length -> Fol l gv n
 | left (p : Nat) (t : Tm) : l[p]? = some t -> t.k = 2 -> Fol l gv p -> Fol l gv t.x.toNat
 | right (p : Nat) (t : Tm) : l[p]? = some t -> t.k = 2 -> Fol l gv p -> Fol l gv t.y.toNat
 | open_ (p : Nat) (t : Tm) : l[p]? = some t -> t.k = 4 -> Fol l gv p -> Fol l gv t.x.toNat -> Fol l gv t.y.toNat
 | hash (n : Nat) (t : Tm) : l[n]? = some t -> t.k = 3 -> Fol l gv t.x.toNat -> Fol l gv n
 | pair (n : Nat) (t : Tm) : l[n]? = some t -> t.k = 2 -> Fol l gv t.x.toNat -> Fol l gv t.y.toNat -> Fol l gv n
 | sealed (n : Nat) (t : Tm) : l[n]? = some t -> t.k = 4 -> Fol l gv t.x.toNat -> Fol l gv t.y.toNat -> Fol l gv n
abbrev at_ (k : List Bool) (n : Nat) : Bool := k.getD n false
def ShutAt (l : List Tm) (k : List Bool) (n : Nat) : Prop :=
 ∀ t, l[n]? = some t ->
  (t.k = 3 -> at_ k t.x.toNat = true -> at_ k n = true) /\
  (t.k = 2 -> at_ k t.x.toNat = true -> at_ k t.y.toNat = true -> at_ k n = true) /\
  (t.k = 4 -> at_ k t.x.toNat = true -> at_ k t.y.toNat = true -> at_ k n = true) /\
  (t.k = 2 -> at_ k n = true -> at_ k t.x.toNat = true /\ at_ k t.y.toNat = true) /\
  (t.k = 4 -> at_ k n = true -> at_ k t.x.toNat = true -> at_ k t.y.toNat = true)
theorem fol_shut {l : List Tm} {gv : List Int} {k : List Bool} (hg : ∀ n : Nat, (n : Int) ∈ gv -> n < l.length -> at_ k n = true) (hs : ∀ n, ShutAt l k n) {n : Nat} (h : Fol l gv n) : at_ k n = true := by
 induction h with
 | given n h1 h2 => exact hg n h1 h2
 | left p t h1 h2 _ ih => exact ((hs p t h1).2.2.2.1 h2 ih).1
 | right p t h1 h2 _ ih => exact ((hs p t h1).2.2.2.1 h2 ih).2
 | open_ p t h1 h2 _ _ i1 i2 => exact (hs p t h1).2.2.2.2 h2 i1 i2
 | hash n t h1 h2 _ ih => exact (hs n t h1).1 h2 ih
 | pair n t h1 h2 _ _ i1 i2 => exact (hs n t h1).2.1 h2 i1 i2
 | sealed n t h1 h2 _ _ i1 i2 => exact (hs n t h1).2.2.1 h2 i1 i2
/-! ### The document's rounds -/
def stepD (l : List Tm) (k : List Bool) (n : Nat) : List Bool :=
 match l[n]? with
 | none => k
 | some t =>
  let k1 := if (t.k = 3 /\ at_ k t.x.toNat = true) \/ ((t.k = 2 \/ t.k = 4) /\ at_ k t.x.toNat = true /\ at_ k t.y.toNat = true) then k.set n true else k
  let k2 := if at_ k1 n = true /\ t.k = 2 then (k1.set t.x.toNat true).set t.y.toNat true else k1
  if at_ k2 n = true /\ t.k = 4 /\ at_ k2 t.x.toNat = true then k2.set t.y.toNat true else k2
def passD (l : List Tm) (k : List Bool) : List Bool := (List.range l.length).foldl (stepD l) k
def startD (n : Nat) (gv : List Int) : List Bool := gv.foldl (fun k (x : Int) => if 0 <= x /\ x < n then k.set x.toNat true else k) (List.replicate n false)
def timesD (l : List Tm) : Nat -> List Bool -> List Bool
 | 0, k => k
 | r + 1, k => passD l (timesD l r k)
def clo (l : List Tm) (gv : List Int) : List Bool := timesD l l.length (startD l.length gv)
def Sub (a b : List Bool) : Prop := a.length = b.length /\ ∀ n, at_ a n = true -> at_ b n = true
theorem Sub.refl (a : List Bool) : Sub a a := ⟨rfl, fun _ h => h⟩
theorem Sub.trans {a b c : List Bool} (h : Sub a b) (k : Sub b c) : Sub a c := ⟨h.1.trans k.1, fun n hn => k.2 n (h.2 n hn)⟩
theorem at_set (k : List Bool) (i n : Nat) : at_ (k.set i true) n = (at_ k n || (decide (i = n) && decide (i < k.length))) := by
 unfold at_
 rw [List.getD_eq_getElem?_getD, List.getD_eq_getElem?_getD, List.getElem?_set]
 by_cases h : i = n
 ·subst h
  by_cases hl : i < k.length
  ·simp [hl]
  ·simp [hl]
 ·simp [h]
theorem Sub.set (k : List Bool) (i : Nat) : Sub k (k.set i true) := ⟨by simp, fun n h => by rw [at_set, h]; rfl⟩
theorem stepD_sub (l : List Tm) (k : List Bool) (n : Nat) : Sub k (stepD l k n) := by
 unfold stepD
 cases l[n]? with
 | none => exact Sub.refl _
 | some t =>
  simp only
  have h1 : ∀ (c : Prop) [Decidable c], Sub k (if c then k.set n true else k) := fun c _ => by split <;> first | exact Sub.refl _ | exact Sub.set _ _
  have h2 : ∀ (c : Prop) [Decidable c] (k : List Bool), Sub k (if c then (k.set t.x.toNat true).set t.y.toNat true else k) := fun c _ k => by split <;> first | exact Sub.refl _ | exact (Sub.set _ _).trans (Sub.set _ _)
  have h3 : ∀ (c : Prop) [Decidable c] (k : List Bool), Sub k (if c then k.set t.y.toNat true else k) := fun c _ k => by split <;> first | exact Sub.refl _ | exact Sub.set _ _
  exact ((h1 _).trans (h2 _ _)).trans (h3 _ _)
theorem foldl_sub {α : Type} (f : List Bool -> α -> List Bool) (h : ∀ k x, Sub k (f k x)) : ∀ (xs : List α) (k : List Bool), Sub k (xs.foldl f k)
 | [], k => Sub.refl k
 | x :: xs, k => (h k x).trans (foldl_sub f h xs (f k x))
theorem passD_sub (l : List Tm) (k : List Bool) : Sub k (passD l k) := foldl_sub _ (stepD_sub l) _ _
theorem timesD_sub (l : List Tm) (r : Nat) (k : List Bool) : Sub k (timesD l r k) := by
 induction r with
 | zero => exact Sub.refl _
 | succ r ih => exact ih.trans (passD_sub l _)
theorem length_clo (l : List Tm) (gv : List Int) : (clo l gv).length = l.length := by
 rw [clo, <- (timesD_sub l _ _).1, startD, <- (foldl_sub _ (fun k x => ?_) _ _).1, List.length_replicate]
 split
 ·exact Sub.set _ _
 ·exact Sub.refl _
def cnt (k : List Bool) : Nat := k.countP id
theorem cnt_le (k : List Bool) : cnt k <= k.length := List.countP_le_length
theorem sub_cons {x y : Bool} {a b : List Bool} (h : Sub (x :: a) (y :: b)) : (x = true -> y = true) /\ Sub a b := by
 refine ⟨fun hx => ?_, by simpa using h.1, fun n hn => ?_⟩
 ·simpa [at_] using h.2 0 (by simpa [at_] using hx)
 ·simpa [at_] using h.2 (n + 1) (by simpa [at_] using hn)
theorem cnt_sub : ∀ {a b : List Bool}, Sub a b -> cnt a <= cnt b /\ (cnt a = cnt b -> a = b)
 | [], [], _ => ⟨Nat.le_refl _, fun _ => rfl⟩
 | [], b :: bs, h => by have := h.1; simp at this
 | a :: as1, [], h => by have := h.1; simp at this
 | x :: a, y :: b, h => by
  obtain ⟨h1, h2⟩ := sub_cons h
  obtain ⟨i1, i2⟩ := cnt_sub h2
  have hc : ∀ (z : Bool) (c : List Bool), cnt (z :: c) = cnt c + (if z then 1 else 0) := fun z c => by simp [cnt, List.countP_cons]
  rw [hc, hc]
  cases x <;> cases y <;> simp_all <;> omega
theorem times_grow (l : List Tm) (k : List Bool) (r : Nat) : passD l (timesD l r k) = timesD l r k \/ r <= cnt (timesD l r k) := by
 induction r with
 | zero => exact .inr (Nat.zero_le _)
 | succ r ih =>
  show passD l (passD l (timesD l r k)) = passD l (timesD l r k) \/ r + 1 <= cnt (passD l (timesD l r k))
  rcases ih with h | h
  ·exact .inl (by rw [h, h])
  ·obtain ⟨h1, h2⟩ := cnt_sub (passD_sub l (timesD l r k))
   rcases Nat.lt_or_ge r (cnt (passD l (timesD l r k))) with h3 | h3
   ·exact .inr h3
   ·left
    have := h2 (by omega)
    rw [<- this, <- this]
theorem clo_fix (l : List Tm) (gv : List Int) : passD l (clo l gv) = clo l gv := by
 rcases times_grow l (startD l.length gv) l.length with h | h
 ·exact h
 ·have hl := length_clo l gv
  have hs := passD_sub l (clo l gv)
  apply Eq.symm
  apply (cnt_sub hs).2
  apply Nat.le_antisymm (cnt_sub hs).1
  have := cnt_le (passD l (clo l gv))
  rw [<- hs.1, hl] at this
  exact Nat.le_trans this h
theorem foldl_fix {α : Type} (f : List Bool -> α -> List Bool) (h : ∀ k x, Sub k (f k x)) : ∀ (xs : List α) (k : List Bool), xs.foldl f k = k -> ∀ x ∈ xs, f k x = k
 | [], _, _, x, hx => by cases hx
 | y :: xs, k, e, x, hx => by
  have h1 := h k y
  have h2 := foldl_sub f h xs (f k y)
  rw [List.foldl_cons] at e
  rw [e] at h2
  have hk : f k y = k := ((cnt_sub h1).2 (Nat.le_antisymm (cnt_sub h1).1 (cnt_sub h2).1)).symm
  rw [List.mem_cons] at hx
  rcases hx with rfl | hx
  ·exact hk
  ·rw [hk] at e
   exact foldl_fix f h xs k e x hx
theorem at_lt {k : List Bool} {n : Nat} (h : at_ k n = true) : n < k.length := by
 unfold at_ at h
 rw [List.getD_eq_getElem?_getD] at h
 rcases Nat.lt_or_ge n k.length with hn | hn
 ·exact hn
 ·rw [List.getElem?_eq_none hn] at h; cases h
theorem shut_of_step {l : List Tm} (hp : Pool l) {k : List Bool} (hl : k.length = l.length) {n : Nat} (h : stepD l k n = k) : ShutAt l k n := by
 intro t ht
 have hn := (List.getElem?_eq_some_iff.1 ht).1
 have hr := hp.right n t ht
 unfold stepD at h
 rw [ht] at h
 simp only at h
 obtain ⟨c1, hc1⟩ : ∃ c, c = (if (t.k = 3 /\ at_ k t.x.toNat = true) \/ ((t.k = 2 \/ t.k = 4) /\ at_ k t.x.toNat = true /\ at_ k t.y.toNat = true) then k.set n true else k) := ⟨_, rfl⟩
 rw [<- hc1] at h
 obtain ⟨c2, hc2⟩ : ∃ c, c = (if at_ c1 n = true /\ t.k = 2 then (c1.set t.x.toNat true).set t.y.toNat true else c1) := ⟨_, rfl⟩
 rw [<- hc2] at h
 have s1 : Sub k c1 := by rw [hc1]; split <;> first | exact Sub.refl _ | exact Sub.set _ _
 have s2 : Sub c1 c2 := by rw [hc2]; split <;> first | exact Sub.refl _ | exact (Sub.set _ _).trans (Sub.set _ _)
 have s3 : Sub c2 k := by
  have : Sub c2 (if at_ c2 n = true /\ t.k = 4 /\ at_ c2 t.x.toNat = true then c2.set t.y.toNat true else c2) := by split <;> first | exact Sub.refl _ | exact Sub.set _ _
  rwa [h] at this
 have e1 : c1 = k := ((cnt_sub s1).2 (Nat.le_antisymm (cnt_sub s1).1 (cnt_sub (s2.trans s3)).1)).symm
 subst e1
 have e2 : c2 = c1 := ((cnt_sub s2).2 (Nat.le_antisymm (cnt_sub s2).1 (cnt_sub s3).1)).symm
 subst e2
 have hset : ∀ i, i < l.length -> at_ (c2.set i true) i = true := fun i hi => by rw [at_set]; simp [hl, hi]
 refine ⟨fun h1 h2 => ?_, fun h1 h2 h3 => ?_, fun h1 h2 h3 => ?_, fun h1 h2 => ?_, fun h1 h2 h3 => ?_⟩
 ·rw [hc1, if_pos (.inl ⟨h1, h2⟩)]; exact hset n hn
 ·rw [hc1, if_pos (.inr ⟨.inl h1, h2, h3⟩)]; exact hset n hn
 ·rw [hc1, if_pos (.inr ⟨.inr h1, h2, h3⟩)]; exact hset n hn
 ·rw [if_pos ⟨h2, h1⟩] at hc2
  have hx := okT_x hr (by omega)
  have hy := okT_y hr (by omega) (by omega)
  rw [hc2]
  refine ⟨?_, ?_⟩
  ·rw [at_set, hset _ (by omega)]; rfl
  ·rw [at_set]; simp [hl]; right; omega
 ·rw [if_pos ⟨h2, h1, h3⟩] at h
  have hy := okT_y hr (by omega) (by omega)
  rw [<- h]
  exact hset _ (by omega)
theorem startD_at (n : Nat) (gv : List Int) (i : Nat) : at_ (startD n gv) i = true ↔ i < n /\ (i : Int) ∈ gv := by
 unfold startD
 suffices h : ∀ (gv : List Int) (k : List Bool), k.length = n -> (at_ (gv.foldl (fun k (x : Int) => if 0 <= x /\ x < n then k.set x.toNat true else k) k) i = true ↔ at_ k i = true \/ (i < n /\ (i : Int) ∈ gv)) by
  rw [h gv _ (by simp)]
  have : at_ (List.replicate n false) i = false := by
   unfold at_
   rw [List.getD_eq_getElem?_getD, List.getElem?_replicate]
   split <;> rfl
  rw [this]
  simp
 intro gv
 induction gv with
 | nil => intro k _; simp
 | cons x gv ih =>
  intro k hk
  rw [List.foldl_cons]
  split
  ·rename_i hx
   rw [ih _ (by simpa using hk), at_set, hk]
   simp only [Bool.or_eq_true, Bool.and_eq_true, decide_eq_true_eq, List.mem_cons]
   constructor
   ·rintro ((h | h) | h)
    ·exact .inl h
    ·exact .inr ⟨by omega, .inl (by omega)⟩
    ·exact .inr ⟨h.1, .inr h.2⟩
   ·rintro (h | ⟨h1, h2 | h2⟩)
    ·exact .inl (.inl h)
    ·exact .inl (.inr (by omega))
    ·exact .inr ⟨h1, h2⟩
  ·rename_i hx
   rw [ih _ hk]
   simp only [List.mem_cons]
   constructor
   ·rintro (h | h)
    ·exact .inl h
    ·exact .inr ⟨h.1, .inr h.2⟩
   ·rintro (h | ⟨h1, h2 | h2⟩)
    ·exact .inl h
    ·omega
    ·exact .inr ⟨h1, h2⟩
def Sound (l : List Tm) (gv : List Int) (k : List Bool) : Prop := k.length = l.length /\ ∀ n, at_ k n = true -> Fol l gv n
theorem Sound.set {l : List Tm} {gv : List Int} {k : List Bool} (h : Sound l gv k) {i : Nat} (hi : Fol l gv i) : Sound l gv (k.set i true) := by
 refine ⟨by simpa using h.1, fun n hn => ?_⟩
 rw [at_set] at hn
 simp only [Bool.or_eq_true, Bool.and_eq_true, decide_eq_true_eq] at hn
 rcases hn with hn | ⟨rfl, _⟩
 ·exact h.2 n hn
 ·exact hi
theorem stepD_sound {l : List Tm} {gv : List Int} {k : List Bool} (h : Sound l gv k) (n : Nat) : Sound l gv (stepD l k n) := by
 unfold stepD
 cases ht : l[n]? with
 | none => exact h
 | some t =>
  simp only
  have h1 : Sound l gv (if (t.k = 3 /\ at_ k t.x.toNat = true) \/ ((t.k = 2 \/ t.k = 4) /\ at_ k t.x.toNat = true /\ at_ k t.y.toNat = true) then k.set n true else k) := by
   split
   ·rename_i hc
    refine h.set ?_
    rcases hc with ⟨a, b⟩ | ⟨a | a, b, c⟩
    ·exact .hash n t ht a (h.2 _ b)
    ·exact .pair n t ht a (h.2 _ b) (h.2 _ c)
    ·exact .sealed n t ht a (h.2 _ b) (h.2 _ c)
   ·exact h
  revert h1
  generalize (if (t.k = 3 /\ at_ k t.x.toNat = true) \/ ((t.k = 2 \/ t.k = 4) /\ at_ k t.x.toNat = true /\ at_ k t.y.toNat = true) then k.set n true else k) = k1
  intro h1
  have h2 : Sound l gv (if at_ k1 n = true /\ t.k = 2 then (k1.set t.x.toNat true).set t.y.toNat true else k1) := by
   split
   ·rename_i hc
    exact (h1.set (.left n t ht hc.2 (h1.2 _ hc.1))).set (.right n t ht hc.2 (h1.2 _ hc.1))
   ·exact h1
  revert h2
  generalize (if at_ k1 n = true /\ t.k = 2 then (k1.set t.x.toNat true).set t.y.toNat true else k1) = k2
  intro h2
  split
  ·rename_i hc
   exact h2.set (.open_ n t ht hc.2.1 (h2.2 _ hc.1) (h2.2 _ hc.2.2))
  ·exact h2
theorem clo_sound (l : List Tm) (gv : List Int) : Sound l gv (clo l gv) := by
 have h0 : Sound l gv (startD l.length gv) := ⟨by
  rw [startD, <- (foldl_sub _ (fun k x => ?_) _ _).1, List.length_replicate]
  split
  ·exact Sub.set _ _
  ·exact Sub.refl _, fun n hn => by
  have := (startD_at _ _ _).1 hn
  exact .given n this.2 this.1⟩
 have h1 : ∀ (xs : List Nat) k, Sound l gv k -> Sound l gv (xs.foldl (stepD l) k) := by
  intro xs
  induction xs with
  | nil => intro k h; exact h
  | cons x xs ih => intro k h; exact ih _ (stepD_sound h x)
 have h2 : ∀ r, Sound l gv (timesD l r (startD l.length gv)) := by
  intro r
  induction r with
  | zero => exact h0
  | succ r ih => exact h1 _ _ ih
 exact h2 _
theorem clo_iff {l : List Tm} (hp : Pool l) (gv : List Int) (n : Nat) : at_ (clo l gv) n = true ↔ Fol l gv n := by
 refine ⟨fun h => (clo_sound l gv).2 n h, fun h => ?_⟩
 refine fol_shut (fun n h1 h2 => ?_) (fun n => ?_) h
 ·exact (timesD_sub l _ _).2 n ((startD_at _ _ _).2 ⟨h2, h1⟩)
 ·rcases Nat.lt_or_ge n l.length with hn | hn
  ·exact shut_of_step hp (length_clo l gv) (foldl_fix _ (stepD_sub l) _ _ (clo_fix l gv) n (List.mem_range.2 hn))
  ·intro t ht
   rw [List.getElem?_eq_none hn] at ht
   cases ht
end
section
set_option maxRecDepth 4000
structure Sr where
 kn : List Bool
 st : List Wy
def learnS (s : Sr) (n : Nat) (h o : Int) : Sr := if at_ s.kn n = true then s else ⟨s.kn.set n true, s.st ++ [⟨n, h, o⟩]⟩
def apartS (l : List Tm) (s : Sr) (n : Nat) : Sr :=
 match l[n]? with
 | none => s
 | some t => if t.k = 2 then learnS (learnS s t.x.toNat 1 n) t.y.toNat 2 n else if t.k = 4 /\ at_ s.kn t.x.toNat = true then learnS s t.y.toNat 3 n else s
def togS (l : List Tm) (s : Sr) (n : Nat) : Sr :=
 match l[n]? with
 | none => s
 | some t =>
  if t.k = 3 /\ at_ s.kn t.x.toNat = true then learnS s n 4 0
  else if t.k = 2 /\ at_ s.kn t.x.toNat = true /\ at_ s.kn t.y.toNat = true then learnS s n 5 0
  else if t.k = 4 /\ at_ s.kn t.x.toNat = true /\ at_ s.kn t.y.toNat = true then learnS s n 6 0 else s
def bodyS (l : List Tm) (s : Sr) (n : Nat) : Sr := togS l (if at_ s.kn n = true then apartS l s n else s) n
def rightW (l : List Tm) (gv known : List Int) (w : Wy) : Bool :=
 match l[w.t.toNat]? with
 | none => false
 | some t =>
  if w.t < 0 then false
  else if 1 <= w.h /\ w.h <= 3 then
   (if w.o ∈ known then
    (match l[w.o.toNat]? with
    | none => false
    | some of => (decide (w.h = 1) && decide (of.k = 2) && decide (of.x = w.t)) || (decide (w.h = 2) && decide (of.k = 2) && decide (of.y = w.t)) || (decide (w.h = 3) && decide (of.k = 4) && decide (of.y = w.t) && decide (of.x ∈ known)))
   else false)
  else if w.o ≠ 0 then false
  else if w.h = 0 then decide (w.t ∈ gv)
  else if w.h = 4 then decide (t.k = 3) && decide (t.x ∈ known)
  else ((decide (w.h = 5) && decide (t.k = 2)) || (decide (w.h = 6) && decide (t.k = 4))) && decide (t.x ∈ known) && decide (t.y ∈ known)
def termsW (st : List Wy) : List Int := st.map (·.t)
theorem termsW_append (a b : List Wy) : termsW (a ++ b) = termsW a ++ termsW b := by simp [termsW]
theorem right_fol {l : List Tm} {gv : List Int} {st : List Wy} (h : ∀ (i : Nat) (w : Wy), st[i]? = some w -> rightW l gv (termsW (st.take i)) w = true) : ∀ (i : Nat) (w : Wy), st[i]? = some w -> 0 <= w.t /\ w.t < l.length /\ Fol l gv w.t.toNat := by
 intro i
 induction i using Nat.strongRecOn with
 | _ i ih =>
  intro w hw
  have hr := h i w hw
  have hk : ∀ x : Int, x ∈ termsW (st.take i) -> 0 <= x /\ x < l.length /\ Fol l gv x.toNat := by
   intro x hx
   obtain ⟨u, hu, rfl⟩ := List.mem_map.1 hx
   obtain ⟨j, hj, e⟩ := List.mem_iff_getElem.1 hu
   have hji : j < i := by rw [List.length_take] at hj; omega
   rw [List.getElem_take] at e
   exact ih j hji u (by rw [<- e, List.getElem?_eq_getElem])
  unfold rightW at hr
  cases ht : l[w.t.toNat]? with
  | none => rw [ht] at hr; cases hr
  | some t =>
   rw [ht] at hr
   simp only at hr
   have hlt := (List.getElem?_eq_some_iff.1 ht).1
   split at hr
   ·cases hr
   ·rename_i h0
    refine ⟨by omega, by omega, ?_⟩
    split at hr
    ·split at hr
     ·rename_i hm
      obtain ⟨o1, o2, o3⟩ := hk _ hm
      cases ho : l[w.o.toNat]? with
      | none => rw [ho] at hr; cases hr
      | some of =>
       rw [ho] at hr
       simp only [Bool.or_eq_true, Bool.and_eq_true, decide_eq_true_eq] at hr
       rcases hr with (⟨⟨a, b⟩, c⟩ | ⟨⟨a, b⟩, c⟩) | ⟨⟨⟨a, b⟩, c⟩, d⟩
       ·rw [<- c]; exact .left _ of ho b o3
       ·rw [<- c]; exact .right _ of ho b o3
       ·rw [<- c]; exact .open_ _ of ho b o3 (hk _ d).2.2
     ·cases hr
    ·split at hr
     ·cases hr
     ·split at hr
      ·exact .given _ (by have := of_decide_eq_true hr; rwa [Int.toNat_of_nonneg (by omega)]) hlt
      ·split at hr
       ·simp only [Bool.and_eq_true, decide_eq_true_eq] at hr
        exact .hash _ t ht hr.1 (hk _ hr.2).2.2
       ·simp only [Bool.or_eq_true, Bool.and_eq_true, decide_eq_true_eq] at hr
        rcases hr with ⟨⟨⟨a, b⟩ | ⟨a, b⟩, c⟩, d⟩
        ·exact .pair _ t ht b (hk _ c).2.2 (hk _ d).2.2
        ·exact .sealed _ t ht b (hk _ c).2.2 (hk _ d).2.2
structure Good (l : List Tm) (gv : List Int) (s : Sr) : Prop where
 len : s.kn.length = l.length
 know : ∀ n : Nat, at_ s.kn n = true ↔ (n : Int) ∈ termsW s.st
 once : (termsW s.st).Nodup
 cnt_ : s.st.length = cnt s.kn
 rng : ∀ w ∈ s.st, 0 <= w.t /\ w.t < l.length
 chk : ∀ (i : Nat) (w : Wy), s.st[i]? = some w -> rightW l gv (termsW (s.st.take i)) w = true
theorem cnt_set : ∀ {k : List Bool} {n : Nat}, at_ k n = false -> n < k.length -> cnt (k.set n true) = cnt k + 1
 | [], n, _, h => by simp at h
 | x :: k, 0, h, _ => by
  have hx : x = false := by simpa [at_] using h
  subst hx
  simp [cnt]
 | x :: k, n + 1, h, hl => by
  have ih := cnt_set (k := k) (n := n) (by simpa [at_] using h) (by simpa using hl)
  have hc : ∀ (z : Bool) (c : List Bool), cnt (z :: c) = cnt c + (if z then 1 else 0) := fun z c => by simp [cnt, List.countP_cons]
  rw [List.set_cons_succ, hc, hc, ih]
  omega
def Grow (a b : Sr) : Prop := b = a \/ a.st.length < b.st.length
theorem Grow.refl (a : Sr) : Grow a a := .inl rfl
theorem Grow.trans {a b c : Sr} (h : Grow a b) (k : Grow b c) : Grow a c := by
 rcases h with rfl | h
 ·exact k
 ·rcases k with rfl | k
  ·exact .inr h
  ·exact .inr (Nat.lt_trans h k)
theorem Grow.le {a b : Sr} (h : Grow a b) : a.st.length <= b.st.length := by
 rcases h with rfl | h
 ·exact Nat.le_refl _
 ·omega
theorem Grow.eq {a b : Sr} (h : Grow a b) (e : b.st.length <= a.st.length) : b = a := by
 rcases h with rfl | h
 ·rfl
 ·omega
theorem learnS_grow (s : Sr) (n : Nat) (h o : Int) : Grow s (learnS s n h o) := by
 unfold learnS
 split
 ·exact .inl rfl
 ·exact .inr (by simp)
theorem learnS_eq {s : Sr} {n : Nat} {h o : Int} (e : learnS s n h o = s) : at_ s.kn n = true := by
 unfold learnS at e
 split at e
 ·assumption
 ·have := congrArg (fun s => s.st.length) e
  simp at this
theorem apartS_grow (l : List Tm) (s : Sr) (n : Nat) : Grow s (apartS l s n) := by
 unfold apartS
 split
 ·exact Grow.refl _
 ·split
  ·exact (learnS_grow _ _ _ _).trans (learnS_grow _ _ _ _)
  ·split
   ·exact learnS_grow _ _ _ _
   ·exact Grow.refl _
theorem togS_grow (l : List Tm) (s : Sr) (n : Nat) : Grow s (togS l s n) := by
 unfold togS
 split
 ·exact Grow.refl _
 ·split
  ·exact learnS_grow _ _ _ _
  ·split
   ·exact learnS_grow _ _ _ _
   ·split
    ·exact learnS_grow _ _ _ _
    ·exact Grow.refl _
theorem bodyS_grow (l : List Tm) (s : Sr) (n : Nat) : Grow s (bodyS l s n) := by
 unfold bodyS
 split
 ·exact (apartS_grow _ _ _).trans (togS_grow _ _ _)
 ·exact togS_grow _ _ _
section
variable {l : List Tm} {gv : List Int} {s : Sr}
theorem Good.learn (g : Good l gv s) {n : Nat} {h o : Int} (hn : n < l.length) (hr : rightW l gv (termsW s.st) ⟨n, h, o⟩ = true) : Good l gv (learnS s n h o) := by
 unfold learnS
 split
 ·exact g
 ·rename_i hk
  have hk' : at_ s.kn n = false := by simpa using hk
  have hnl : n < s.kn.length := by rw [g.len]; exact hn
  refine ⟨by simpa using g.len, fun m => ?_, ?_, ?_, fun w hw => ?_, fun i w hw => ?_⟩
  ·rw [at_set, termsW_append, List.mem_append]
   simp only [Bool.or_eq_true, Bool.and_eq_true, decide_eq_true_eq, g.know m, termsW, List.map_cons, List.map_nil, List.mem_singleton]
   constructor
   ·rintro (h | ⟨rfl, _⟩)
    ·exact .inl h
    ·exact .inr rfl
   ·rintro (h | h)
    ·exact .inl h
    ·exact .inr ⟨by omega, hnl⟩
  ·rw [termsW_append, List.nodup_append]
   refine ⟨g.once, by simp [termsW], fun a ha b hb e => ?_⟩
   simp only [termsW, List.map_cons, List.map_nil, List.mem_singleton] at hb
   subst hb
   subst e
   exact hk ((g.know n).2 ha)
  ·rw [cnt_set hk' hnl, List.length_append, g.cnt_]
   rfl
  ·rw [List.mem_append, List.mem_singleton] at hw
   rcases hw with hw | rfl
   ·exact g.rng w hw
   ·exact ⟨by simp, by simpa using hn⟩
  ·rw [List.getElem?_append] at hw
   split at hw
   ·rename_i hi
    rw [List.take_append_of_le_length (by omega)]
    exact g.chk i w hw
   ·rename_i hi
    have h1 := (List.getElem?_eq_some_iff.1 hw).1
    have h2 : i - s.st.length = 0 := by simp at h1; omega
    rw [h2] at hw
    simp at hw
    subst hw
    have h3 : i = s.st.length := by omega
    subst h3
    rw [List.take_append_of_le_length (Nat.le_refl _), List.take_length]
    exact hr
theorem Good.knows (g : Good l gv s) {x : Int} (hx : 0 <= x) (h : at_ s.kn x.toNat = true) : x ∈ termsW s.st := by
 have := (g.know x.toNat).1 h
 rwa [Int.toNat_of_nonneg hx] at this
theorem Good.apart (hp : Pool l) (g : Good l gv s) {n : Nat} (hn : at_ s.kn n = true) : Good l gv (apartS l s n) := by
 unfold apartS
 cases ht : l[n]? with
 | none => exact g
 | some t =>
  simp only
  have hr := hp.right n t ht
  have hnl := (List.getElem?_eq_some_iff.1 ht).1
  have hno : (n : Int) ∈ termsW s.st := (g.know n).1 hn
  split
  ·rename_i h2
   have hx := okT_x hr (by omega)
   have hy := okT_y hr (by omega) (by omega)
   have hxe : ((t.x.toNat : Nat) : Int) = t.x := Int.toNat_of_nonneg hx.1
   have hye : ((t.y.toNat : Nat) : Int) = t.y := Int.toNat_of_nonneg hy.1
   have g1 : Good l gv (learnS s t.x.toNat 1 n) := by
    refine g.learn (by omega) ?_
    unfold rightW
    simp only [Int.toNat_natCast, List.getElem?_eq_getElem (show t.x.toNat < l.length by omega), ht]
    rw [if_neg (by omega), if_pos ⟨by omega, by omega⟩, if_pos hno]
    simp [h2, hxe]
   refine g1.learn (by omega) ?_
   have hno1 : (n : Int) ∈ termsW (learnS s t.x.toNat 1 n).st := by
    unfold learnS
    split
    ·exact hno
    ·rw [termsW_append]; exact List.mem_append_left _ hno
   unfold rightW
   simp only [Int.toNat_natCast, List.getElem?_eq_getElem (show t.y.toNat < l.length by omega), ht]
   rw [if_neg (by omega), if_pos ⟨by omega, by omega⟩, if_pos hno1]
   simp [h2, hye]
  ·split
   ·rename_i h4
    have hx := okT_x hr (by omega)
    have hy := okT_y hr (by omega) (by omega)
    have hye : ((t.y.toNat : Nat) : Int) = t.y := Int.toNat_of_nonneg hy.1
    refine g.learn (by omega) ?_
    unfold rightW
    simp only [Int.toNat_natCast, List.getElem?_eq_getElem (show t.y.toNat < l.length by omega), ht]
    rw [if_neg (by omega), if_pos ⟨by omega, by omega⟩, if_pos hno]
    simp [h4.1, hye, g.knows hx.1 h4.2]
   ·exact g
theorem Good.together (hp : Pool l) (g : Good l gv s) (n : Nat) : Good l gv (togS l s n) := by
 unfold togS
 cases ht : l[n]? with
 | none => exact g
 | some t =>
  simp only
  have hr := hp.right n t ht
  have hnl := (List.getElem?_eq_some_iff.1 ht).1
  split
  ·rename_i h3
   have hx := okT_x hr (by omega)
   refine g.learn hnl ?_
   unfold rightW
   simp only [Int.toNat_natCast, ht]
   rw [if_neg (by omega), if_neg (by omega), if_neg (by simp), if_neg (by omega), if_pos trivial]
   simp [h3.1, g.knows hx.1 h3.2]
  ·split
   ·rename_i h3
    have hx := okT_x hr (by omega)
    have hy := okT_y hr (by omega) (by omega)
    refine g.learn hnl ?_
    unfold rightW
    simp only [Int.toNat_natCast, ht]
    rw [if_neg (by omega), if_neg (by omega), if_neg (by simp), if_neg (by omega), if_neg (by omega)]
    simp [h3.1, g.knows hx.1 h3.2.1, g.knows hy.1 h3.2.2]
   ·split
    ·rename_i h3
     have hx := okT_x hr (by omega)
     have hy := okT_y hr (by omega) (by omega)
     refine g.learn hnl ?_
     unfold rightW
     simp only [Int.toNat_natCast, ht]
     rw [if_neg (by omega), if_neg (by omega), if_neg (by simp), if_neg (by omega), if_neg (by omega)]
     simp [h3.1, g.knows hx.1 h3.2.1, g.knows hy.1 h3.2.2]
    ·exact g
theorem Good.body (hp : Pool l) (g : Good l gv s) (n : Nat) : Good l gv (bodyS l s n) := by
 unfold bodyS
 split
 ·rename_i h
  exact (g.apart hp h).together hp n
 ·exact g.together hp n
theorem shut_of_body {n : Nat} (e : bodyS l s n = s) : ShutAt l s.kn n := by
 intro t ht
 have hA : at_ s.kn n = true -> apartS l s n = s /\ togS l s n = s := fun hn => by
  unfold bodyS at e
  rw [if_pos hn] at e
  have h1 := apartS_grow l s n
  have h2 := togS_grow l (apartS l s n) n
  have h3 : apartS l s n = s := h1.eq (by have := h2.le; rw [e] at this; exact this)
  rw [h3] at e
  exact ⟨h3, e⟩
 have hT : togS l s n = s := by
  by_cases hn : at_ s.kn n = true
  ·exact (hA hn).2
  ·unfold bodyS at e; rwa [if_neg hn] at e
 unfold togS at hT
 rw [ht] at hT
 simp only at hT
 refine ⟨fun h1 h2 => ?_, fun h1 h2 h3 => ?_, fun h1 h2 h3 => ?_, fun h1 h2 => ?_, fun h1 h2 h3 => ?_⟩
 ·rw [if_pos ⟨h1, h2⟩] at hT
  exact learnS_eq hT
 ·rw [if_neg (by omega), if_pos ⟨h1, h2, h3⟩] at hT
  exact learnS_eq hT
 ·rw [if_neg (by omega), if_neg (by omega), if_pos ⟨h1, h2, h3⟩] at hT
  exact learnS_eq hT
 ·have h3 := (hA h2).1
  unfold apartS at h3
  rw [ht] at h3
  simp only at h3
  rw [if_pos h1] at h3
  have g1 := learnS_grow s t.x.toNat 1 n
  have g2 := learnS_grow (learnS s t.x.toNat 1 n) t.y.toNat 2 n
  have h4 : learnS s t.x.toNat 1 n = s := g1.eq (by have := g2.le; rw [h3] at this; exact this)
  rw [h4] at h3
  exact ⟨learnS_eq h4, learnS_eq h3⟩
 ·have h4 := (hA h2).1
  unfold apartS at h4
  rw [ht] at h4
  simp only at h4
  rw [if_neg (by omega), if_pos ⟨h1, h3⟩] at h4
  exact learnS_eq h4
theorem Good.sound (hp : Pool l) (g : Good l gv s) {n : Nat} (h : at_ s.kn n = true) : Fol l gv n := by
 obtain ⟨w, hw, e⟩ := List.mem_map.1 ((g.know n).1 h)
 obtain ⟨i, hi, e2⟩ := List.mem_iff_getElem.1 hw
 have := (right_fol g.chk i w (by rw [<- e2, List.getElem?_eq_getElem])).2.2
 rw [e] at this
 exact this
theorem bools_ext {a b : List Bool} (hl : a.length = b.length) (h : ∀ n, at_ a n = true ↔ at_ b n = true) : a = b := by
 refine List.ext_getElem hl fun n h1 h2 => ?_
 have := h n
 unfold at_ at this
 rw [List.getD_eq_getElem?_getD, List.getD_eq_getElem?_getD, List.getElem?_eq_getElem h1, List.getElem?_eq_getElem h2] at this
 simp only [Option.getD_some] at this
 exact Bool.eq_iff_iff.2 this
theorem Good.done (hp : Pool l) (g : Good l gv s) (hg : ∀ n : Nat, (n : Int) ∈ gv -> n < l.length -> at_ s.kn n = true) (hs : ∀ n, n < l.length -> ShutAt l s.kn n) : s.kn = clo l gv := by
 refine bools_ext (by rw [g.len, length_clo]) fun n => ?_
 rw [clo_iff hp]
 refine ⟨fun h => g.sound hp h, fun h => fol_shut hg (fun m => ?_) h⟩
 rcases Nat.lt_or_ge m l.length with hm | hm
 ·exact hs m hm
 ·intro t ht
  rw [List.getElem?_eq_none hm] at ht
  cases ht
theorem Good.le (g : Good l gv s) : s.st.length <= l.length := by
 rw [g.cnt_, <- g.len]
 exact cnt_le _
theorem Good.start (n : Nat) (hn : n = l.length) : Good l gv ⟨List.replicate n false, []⟩ := by
 refine ⟨by simpa using hn, fun m => ?_, by simp [termsW], ?_, by simp, by simp⟩
 ·have : at_ (List.replicate n false) m = false := by
   unfold at_
   rw [List.getD_eq_getElem?_getD, List.getElem?_replicate]
   split <;> rfl
  rw [this]
  simp [termsW]
 ·simp [cnt, List.countP_replicate]
theorem Good.giv (g : Good l gv s) {x : Int} (hx : x ∈ gv) (h0 : 0 <= x) (h1 : x < l.length) : Good l gv (learnS s x.toNat 0 0) := by
 refine g.learn (by omega) ?_
 unfold rightW
 simp only [Int.toNat_natCast, List.getElem?_eq_getElem (show x.toNat < l.length by omega)]
 rw [if_neg (by omega), if_neg (by omega), if_neg (by simp), if_pos trivial]
 rw [Int.toNat_of_nonneg h0]
 simpa using hx
theorem learnS_at (s : Sr) (n : Nat) (h o : Int) (hn : n < s.kn.length) : at_ (learnS s n h o).kn n = true := by
 unfold learnS
 split
 ·assumption
 ·rw [at_set]; simp [hn]
theorem learnS_keep (s : Sr) (n : Nat) (h o : Int) {m : Nat} (hm : at_ s.kn m = true) : at_ (learnS s n h o).kn m = true := by
 unfold learnS
 split
 ·exact hm
 ·rw [at_set, hm]; rfl
theorem length_learnS (s : Sr) (n : Nat) (h o : Int) : (learnS s n h o).kn.length = s.kn.length := by
 unfold learnS
 split
 ·rfl
 ·simp
end
def keepS (a b : Sr) : Prop := ∀ m, at_ a.kn m = true -> at_ b.kn m = true
theorem bodyS_keep (l : List Tm) (s : Sr) (n : Nat) : keepS s (bodyS l s n) := by
 have h1 : keepS s (apartS l s n) := fun m hm => by
  unfold apartS
  split
  ·exact hm
  ·split
   ·exact learnS_keep _ _ _ _ (learnS_keep _ _ _ _ hm)
   ·split
    ·exact learnS_keep _ _ _ _ hm
    ·exact hm
 have h2 : ∀ s, keepS s (togS l s n) := fun s m hm => by
  unfold togS
  split
  ·exact hm
  ·split
   ·exact learnS_keep _ _ _ _ hm
   ·split
    ·exact learnS_keep _ _ _ _ hm
    ·split
     ·exact learnS_keep _ _ _ _ hm
     ·exact hm
 intro m hm
 unfold bodyS
 split
 ·exact h2 _ m (h1 m hm)
 ·exact h2 _ m hm
end
section
set_option maxRecDepth 4000
open Go.RowKit
def wcells (w : Wy) : List Value := [.int .i64 w.t, .int .i64 w.h, .int .i64 w.o]
def wcs (l : List Wy) : List Value := l.flatMap wcells
@[simp] theorem length_wcs (l : List Wy) : (wcs l).length = l.length * 3 := length_flatMap_const wcells 3 (fun _ => rfl) l
theorem wcs_append (a b : List Wy) : wcs (a ++ b) = wcs a ++ wcs b := by simp [wcs]
theorem wcs_one (w : Wy) : wcs [w] = wcells w := by simp [wcs]
def bls (l : List Bool) : List Value := l.map Value.bool
@[simp] theorem length_bls (l : List Bool) : (bls l).length = l.length := by simp [bls]
theorem bls_get {l : List Bool} {n : Nat} (h : n < l.length) : (bls l)[n]? = some (.bool (at_ l n)) := by
 simp [bls, at_, List.getD_eq_getElem?_getD, h]
theorem bls_set (l : List Bool) (n : Nat) (b : Bool) : (bls l).toArray.setIfInBounds n (.bool b) = (bls (l.set n b)).toArray := by
 apply Array.ext'
 simp [bls, List.map_set]
theorem info_why : (Tryz.prog.info? 243).map (fun i => (i.zero, i.size, i.bytes)) = some (some (.agg #[.int .i64 0, .int .i64 0, .int .i64 0]), 3, 24) := by kernel_rfl
structure SearchParts (w : World) (base b p : Nat) (s : Sr) (kb kc : Nat) (sA : Option Addr) (sc : Nat) : Prop where
 blk : Blk w b 206 #[.pointer (some ⟨p, 0, none⟩), .slice (some ⟨kb, 0, none⟩) s.kn.length kc, .slice sA s.st.length sc]
 kn : Blk w kb 4 (bls s.kn).toArray
 st : w.ownsRow base 243 3 (.slice sA s.st.length sc) s.st.length (wcs s.st)
 lo : base <= b /\ base <= kb
def SearchIs (w : World) (base b p : Nat) (s : Sr) (kb kc : Nat) : Prop := ∃ sA sc, SearchParts w base b p s kb kc sA sc
def SearchIn (w : World) (base b p : Nat) (s : Sr) (kb kc : Nat) (G : Nat -> Prop) : Prop := ∃ sA sc, SearchParts w base b p s kb kc sA sc /\ G b /\ G kb /\ ∀ g, (Value.slice sA s.st.length sc).ownBlock = some g -> G g
section
variable {w w' : World} {base b p : Nat} {s : Sr} {kb kc : Nat} {sA : Option Addr} {sc : Nat}
theorem SearchParts.below (h : SearchParts w base b p s kb kc sA sc) (hb : Below w.heap.size w w') : SearchParts w' base b p s kb kc sA sc :=
 ⟨h.blk.keep (hb.block _ h.blk.lt), h.kn.keep (hb.block _ h.kn.lt), own_below h.st hb, h.lo⟩
theorem SearchIs.below (h : SearchIs w base b p s kb kc) (hb : Below w.heap.size w w') : SearchIs w' base b p s kb kc := by
 obtain ⟨a, c, h⟩ := h
 exact ⟨a, c, h.below hb⟩
theorem SearchIn.is {G : Nat -> Prop} (h : SearchIn w base b p s kb kc G) : SearchIs w base b p s kb kc := by
 obtain ⟨a, c, h, _⟩ := h
 exact ⟨a, c, h⟩
theorem SearchIn.below {G : Nat -> Prop} (h : SearchIn w base b p s kb kc G) (hb : Below w.heap.size w w') : SearchIn w' base b p s kb kc G := by
 obtain ⟨a, c, h, r⟩ := h
 exact ⟨a, c, h.below hb, r⟩
theorem SearchIs.in_ (h : SearchIs w base b p s kb kc) : SearchIn w base b p s kb kc (fun k => base <= k /\ k < w.heap.size) := by
 obtain ⟨a, c, h⟩ := h
 exact ⟨a, c, h, ⟨h.lo.1, h.blk.lt⟩, ⟨h.lo.2, h.kn.lt⟩, fun g hg => h.st.lt g hg⟩
theorem SearchParts.cell0 (h : SearchParts w base b p s kb kc sA sc) : w.cell? ⟨b, 0, none⟩ = some (.pointer (some ⟨p, 0, none⟩)) := h.blk.cell 0
theorem SearchParts.cell1 (h : SearchParts w base b p s kb kc sA sc) : w.cell? ⟨b, 1, none⟩ = some (.slice (some ⟨kb, 0, none⟩) s.kn.length kc) := h.blk.cell 1
theorem SearchParts.cell2 (h : SearchParts w base b p s kb kc sA sc) : w.cell? ⟨b, 2, none⟩ = some (.slice sA s.st.length sc) := h.blk.cell 2
theorem SearchParts.mark (h : SearchParts w base b p s kb kc sA sc) {n : Nat} (hn : n < s.kn.length) : w.cell? ⟨kb, n, none⟩ = some (.bool (at_ s.kn n)) := by
 rw [h.kn.cell, List.getElem?_toArray, bls_get hn]
theorem SearchParts.size (h : SearchParts w base b p s kb kc sA sc) : base <= w.heap.size := by
 have := h.lo.1
 have := h.blk.lt
 omega
end
theorem learn_in (b p n : Nat) (h o : Int) (s : Sr) (kb kc : Nat) (base : Nat) (w : World) (G : Nat -> Prop) (hS : SearchIn w base b p s kb kc G) (hn : n < s.kn.length) (hst : s.st.length <= 10000) (hkl : s.kn.length <= 10000) :
  Calls Tryz.prog 157 #[.pointer (some ⟨b, 0, none⟩), .int .i64 n, .int .i64 h, .int .i64 o] w fun e w' => e = .returned (.tuple #[]) /\ SearchIn w' base b p (learnS s n h o) kb kc (fun k => G k \/ w.heap.size <= k) /\ Fr G w w' := by
 obtain ⟨sA, sc, hS, hG⟩ := hS
 have HG := Lh hG; clear hG
 have c0 := hS.cell0
 have c1 := hS.cell1
 have c2 := hS.cell2
 have cm := hS.mark hn
 by_cases hk : at_ s.kn n = true
 ·have e1 : learnS s n h o = s := by unfold learnS; rw [if_pos hk]
  rw [e1]
  rw [hk] at cm
  have HS := Lh hS; clear hS e1 hk
  go_enter Tryz.func157, Tryz.ntmps157
  go_wp2_with fail
  refine bodyPost_end (results_none rfl _ _ _) rfl ?_
  exact ⟨rfl, ⟨sA, sc, HS.out, .inl HG.out.1, .inl HG.out.2.1, fun g hg => .inl (HG.out.2.2 g hg)⟩, Fr.refl _ _⟩
 ·have hk' : at_ s.kn n = false := by simpa using hk
  have e1 : learnS s n h o = ⟨s.kn.set n true, s.st ++ [⟨n, h, o⟩]⟩ := by unfold learnS; rw [if_neg hk]
  rw [hk'] at cm
  have z1 := hS.kn.frozen n
  have hne : b ≠ kb := Blk.same hS.blk hS.kn (by decide)
  have r1 : Fr (· = kb) w (w.setCell ⟨kb, n, none⟩ (.bool true)) := Fr.setCell w ⟨kb, n, none⟩ _ rfl
  have blk1 := hS.blk.far (p := ⟨kb, n, none⟩) hne (.bool true)
  have kn1 := hS.kn.set_ n (.bool true)
  have st1 := own_fr hS.st r1 (fun g hg h => own_ne hS.st hS.kn (by decide) g hg h)
  have c2' : (w.setCell ⟨kb, n, none⟩ (.bool true)).cell? ⟨b, 2, none⟩ = some (.slice sA s.st.length sc) := blk1.cell 2
  have hB1 : Below base w (w.setCell ⟨kb, n, none⟩ (.bool true)) := (Below.refl _ _).setCell hS.lo.2 _
  have hfin : ∀ w1, ((w.setCell ⟨kb, n, none⟩ (.bool true)).alloc (.cells (wcells ⟨n, h, o⟩).toArray 243)).grownBy w1 (Value.slice sA s.st.length sc).ownBlock ->
    Blk w1 b 206 #[.pointer (some ⟨p, 0, none⟩), .slice (some ⟨kb, 0, none⟩) s.kn.length kc, .slice sA s.st.length sc] /\ Blk w1 kb 4 ((bls s.kn).toArray.setIfInBounds n (.bool true)) /\ Fr G w w1 := fun w1 hg => by
   have hF : Fr (fun k => (Value.slice sA s.st.length sc).ownBlock = some k) _ w1 := Fr.of_grown hg (fun k hk => hk)
   refine ⟨(blk1.alloc _).fr hF (fun h => own_ne st1 blk1 (by decide) _ h rfl), (kn1.alloc _).fr hF (fun h => own_ne st1 kn1 (by decide) _ h rfl), ((r1.mono (fun k _ hk => hk ▸ HG.out.2.1)).trans (Fr.alloc _ _ G) (fun _ _ h => h)).trans (hF.mono (fun k _ hk => HG.out.2.2 k hk)) (fun _ _ h => h)⟩
  have HFIN := Lh hfin; clear hfin
  have HW := Lh (Ai blk1 (Ai kn1 (Ai st1 (Ai hB1 (Ai hS.size hS.lo)))))
  have HO := Lh (own_below st1 ((Below.refl _ _).alloc (Nat.le_refl _) (.cells (wcells ⟨n, h, o⟩).toArray 243)))
  have hse := sees_new (w.setCell ⟨kb, n, none⟩ (.bool true)) 243 (wcells ⟨n, h, o⟩) 3 1 rfl
  rw [show (w.setCell ⟨kb, n, none⟩ (.bool true)).heap.size = w.heap.size by simp [World.setCell]] at hse
  have HSE := Lh hse; clear hse
  have HE := Lh (Ai e1 hne)
  clear hS hk e1 blk1 kn1 st1 hB1 r1 hk' hne c2
  have hbase : base <= (w.setCell ⟨kb, n, none⟩ (.bool true)).heap.size := by have := HW.out.2.2.2.2.1; simpa [World.setCell] using this
  have hbase2 : base <= w.heap.size := HW.out.2.2.2.2.1
  have hsl : ¬ (9223372036854775807 < s.st.length + 1) := by omega
  go_enter Tryz.func157, Tryz.ntmps157
  go_wp2_with (at_builtin; refine wpList_app rfl (.tmp 26) (.tmp 31) 204 rfl base 243 _ 3 24 Tryz.underlying204 info_why rfl (by decide) (.slice sA s.st.length sc) s.st.length (wcs s.st) rfl HO.out _ 1 _ (wcells ⟨n, h, o⟩) rfl HSE.out (by simp [wcells, Value.oneCell']) (by unfold maxLen; omega) (by omega) (by simp; omega) ?_; intro v' w1 hown1 hgr1 hat1 hnil1; obtain ⟨yA, yc, rfl⟩ := own_shape hown1; have HF := Lh (Ai (HFIN.out w1 hgr1) hown1); have HAT := Lh hat1; have c4 := HF.out.1.1.cell 2; have z4 := HF.out.1.1.frozen 2; clear hown1 hgr1 hat1 hnil1)
  refine bodyPost_end (results_none rfl _ _ _) rfl ?_
  obtain ⟨⟨f1, f2, f3⟩, f4⟩ := HF.out
  obtain ⟨e1, hne⟩ := HE.out
  have hlo := HW.out.2.2.2.2.2
  have r2 : Fr (· = b) w1 (w1.setCell ⟨b, 2, none⟩ (.slice yA (s.st.length + 1) yc)) := Fr.setCell w1 ⟨b, 2, none⟩ _ rfl
  refine ⟨rfl, ?_, f3.trans (r2.mono (fun k _ hk => hk ▸ HG.out.1)) (fun _ _ h => h)⟩
  rw [e1]
  refine ⟨yA, yc, ⟨?_, ?_, ?_, hlo⟩, .inl HG.out.1, .inl HG.out.2.1, fun g hg => ?_⟩
  rotate_right 1
  ·rcases HAT.out with h | h
   ·refine .inl (HG.out.2.2 g (h ▸ ?_))
    simpa using hg
   ·have hg' : (Value.slice yA (s.st.length + 1) yc).ownBlock = some g := by simpa using hg
    rw [h] at hg'
    injection hg' with hg'
    refine .inr ?_
    rw [<- hg']
    simp [World.setCell]
  ·have := f1.set_ 2 (.slice yA (s.st.length + 1) yc)
   simpa using this
  ·rw [<- bls_set]
   exact f2.far (p := ⟨b, 2, none⟩) (Ne.symm hne) _
  ·have h6 := own_fr f4 r2 (fun g hg h => own_ne f4 f1 (by decide) g hg h)
   simpa [wcs_append, wcs_one] using h6
theorem learn_any (b p n : Nat) (h o : Int) (s : Sr) (kb kc : Nat) (base : Nat) (w : World) (hS : SearchIs w base b p s kb kc) (hn : n < s.kn.length) (hst : s.st.length <= 10000) (hkl : s.kn.length <= 10000) :
  Calls Tryz.prog 157 #[.pointer (some ⟨b, 0, none⟩), .int .i64 n, .int .i64 h, .int .i64 o] w fun e w' => e = .returned (.tuple #[]) /\ SearchIs w' base b p (learnS s n h o) kb kc /\ Below base w w' :=
 (learn_in b p n h o s kb kc base w _ hS.in_ hn hst hkl).mono fun e w' hh => ⟨hh.1, hh.2.1.is, hh.2.2.below (by obtain ⟨_, _, h⟩ := hS; exact h.size) (fun _ h => h.1)⟩
end
section
set_option maxRecDepth 4000
open Go.RowKit
structure GotAt (w W : World) (base b p : Nat) (s : Sr) (kb kc : Nat) (t : Tm) (B : Nat) (G : Nat -> Prop) : Prop where
 srch : SearchIn W base b p s kb kc G
 box : Blk W B 95 #[.int .i64 t.k, .int .i64 t.a, .int .i64 t.x, .int .i64 t.y]
 far : ¬ G B
 bel : Below base w W
 in_ : ∀ k, G k -> base <= k
section
variable {w W W' : World} {base b p : Nat} {s : Sr} {kb kc : Nat} {t : Tm} {B : Nat} {G : Nat -> Prop}
theorem GotAt.start (h : SearchIs w base b p s kb kc) {w1 : World} (hb : Below w.heap.size w w1) : GotAt w (w1.alloc (.cells #[.int .i64 t.k, .int .i64 t.a, .int .i64 t.x, .int .i64 t.y] 95)) base b p s kb kc t w1.heap.size (fun k => base <= k /\ k < w.heap.size) := by
 have hs : base <= w.heap.size := by obtain ⟨_, _, h⟩ := h; exact h.size
 have hA : Below w.heap.size w (w1.alloc (.cells #[.int .i64 t.k, .int .i64 t.a, .int .i64 t.x, .int .i64 t.y] 95)) := hb.alloc hb.size _
 exact ⟨h.in_.below hA, Blk.new _ _ _, fun h => by have := hb.size; omega, hA.mono hs, fun k hk => hk.1⟩
theorem GotAt.drew (h : GotAt w W base b p s kb kc t B G) : GotAt w W.drew base b p s kb kc t B G :=
 ⟨h.srch.below (Below.refl _ _).drew, h.box, h.far, h.bel.drew, h.in_⟩
theorem GotAt.learnt (h : GotAt w W base b p s kb kc t B G) {s' : Sr} (h1 : SearchIn W' base b p s' kb kc (fun k => G k \/ W.heap.size <= k)) (h2 : Fr G W W') : GotAt w W' base b p s' kb kc t B (fun k => G k \/ W.heap.size <= k) := by
 have hs : base <= W.heap.size := by obtain ⟨_, _, h, _⟩ := h.srch; exact h.size
 refine ⟨h1, h.box.fr h2 h.far, fun hh => ?_, h.bel.trans (h2.below hs h.in_), fun k hk => ?_⟩
 ·rcases hh with hh | hh
  ·exact h.far hh
  ·have := h.box.lt; omega
 ·rcases hk with hk | hk
  ·exact h.in_ k hk
  ·omega
end
theorem apart_any (b p n : Nat) (l : List Tm) (s : Sr) (kb kc : Nat) (base pb : Nat) (w : World) (hS : SearchIs w base b p s kb kc) (hP : PoolIs w pb p l) (hp : Pool l) (hl : s.kn.length = l.length) (hn : n < l.length) (hst : s.st.length + 2 <= 10000) (hll : l.length <= 10000) :
  Calls Tryz.prog 158 #[.pointer (some ⟨b, 0, none⟩), .int .i64 n] w fun e w' => e = .returned (.tuple #[]) /\ SearchIs w' base b p (apartS l s n) kb kc /\ Below base w w' := by
 have hx : l[n]? = some (l[n]'hn) := List.getElem?_eq_getElem hn
 generalize l[n] = t at hx
 have hr := hp.right n t hx
 have HG := Lh (get_ok p n t l pb w hP hx)
 have hst0 := fun w1 hb => GotAt.start (t := t) hS (w1 := w1) hb
 have c0 : w.cell? ⟨b, 0, none⟩ = some (.pointer (some ⟨p, 0, none⟩)) := by obtain ⟨_, _, h⟩ := hS; exact h.cell0
 have HST := Lh hst0; clear hst0 hP
 have hsz : base <= w.heap.size := by obtain ⟨_, _, h⟩ := hS; exact h.size
 clear hS
 by_cases k2 : t.k = 2
 ·have hxx := okT_x hr (by omega)
  have hyy := okT_y hr (by omega) (by omega)
  have HE := Lh (show apartS l s n = learnS (learnS s t.x.toNat 1 n) t.y.toNat 2 n by unfold apartS; rw [hx]; simp only; rw [if_pos k2])
  obtain ⟨X, hX⟩ : ∃ X : Nat, t.x = X := ⟨t.x.toNat, by omega⟩
  obtain ⟨Y, hY⟩ : ∃ Y : Nat, t.y = Y := ⟨t.y.toNat, by omega⟩
  obtain ⟨k, a, x, y⟩ := t
  unfold tval at HG
  simp only at k2 hX hY hxx hyy HST HE
  subst k2
  subst hX
  subst hY
  simp only [Int.toNat_natCast] at HE
  clear hx hr
  go_enter Tryz.func158, Tryz.ntmps158
  go_wp2_with fail
  refine HG.out.mono ?_
  rintro e w1 ⟨rfl, b1⟩
  have H1 := Lh (HST.out w1 b1)
  clear b1 c0
  have d0 := H1.out.box.cell 0
  have d2 := H1.out.box.cell 2
  simp only [List.getElem?_toArray, List.getElem?_cons_zero, List.getElem?_cons_succ] at d0 d2
  go_wp2_with fail
  refine (learn_in b p X 1 n s kb kc base _ _ H1.out.srch (by omega) (by omega) (by omega)).mono ?_
  rintro e w2 ⟨rfl, h1, h2⟩
  have H2 := Lh (H1.out.learnt h1 h2); clear h1 h2 d0 d2
  have d3 := H2.out.box.cell 3
  simp only [List.getElem?_toArray, List.getElem?_cons_zero, List.getElem?_cons_succ] at d3
  have hlk := length_learnS s X 1 n
  have hgl := (learnS_grow s X 1 n)
  have hls : (learnS s X 1 n).st.length <= s.st.length + 1 := by unfold learnS; split <;> simp
  go_wp2_with fail
  refine (learn_in b p Y 2 n _ kb kc base _ _ H2.out.srch (by omega) (by omega) (by omega)).mono ?_
  rintro e w3 ⟨rfl, h1, h2⟩
  have H3 := Lh (H2.out.learnt h1 h2); clear h1 h2 d3
  go_wp2_with fail
  refine bodyPost_end (results_none rfl _ _ _) rfl ?_
  refine ⟨rfl, ?_, H3.out.bel⟩
  rw [HE.out]
  exact H3.out.srch.is
 ·have k2b : ((t.k : Int) == 2) = false := by simpa using k2
  by_cases k4 : t.k = 4
  ·have hxx := okT_x hr (by omega)
   have hyy := okT_y hr (by omega) (by omega)
   obtain ⟨X, hX⟩ : ∃ X : Nat, t.x = X := ⟨t.x.toNat, by omega⟩
   obtain ⟨Y, hY⟩ : ∃ Y : Nat, t.y = Y := ⟨t.y.toNat, by omega⟩
   have hap : apartS l s n = if at_ s.kn X = true then learnS s Y 3 n else s := by
    unfold apartS; rw [hx]; simp only; rw [if_neg k2]
    simp [k4, hX, hY]
   obtain ⟨K, hK⟩ : ∃ K, at_ s.kn X = K := ⟨_, rfl⟩
   rw [hK] at hap
   have HE := Lh hap; clear hap
   obtain ⟨k, a, x, y⟩ := t
   unfold tval at HG
   simp only at k2 k4 k2b hX hY hxx hyy HST
   subst k4
   subst hX
   subst hY
   clear hx hr k2 k2b
   go_enter Tryz.func158, Tryz.ntmps158
   go_wp2_with fail
   refine HG.out.mono ?_
   rintro e w1 ⟨rfl, b1⟩
   have H1 := Lh (HST.out w1 b1)
   clear b1 c0
   have d0 := H1.out.box.cell 0
   simp only [List.getElem?_toArray, List.getElem?_cons_zero, List.getElem?_cons_succ] at d0
   go_wp2_with fail
   obtain ⟨sA, sc, hpa, _⟩ := H1.out.drew.srch
   have e1 := hpa.cell1
   have e2 := hpa.mark (n := X) (by omega)
   rw [hK] at e2
   have e3 := H1.out.drew.box.cell 0
   have e4 := H1.out.drew.box.cell 2
   simp only [List.getElem?_toArray, List.getElem?_cons_zero, List.getElem?_cons_succ] at e3 e4
   have HS := Lh (Ai e1 (Ai e2 (Ai e3 e4)))
   clear e1 e2 e3 e4 hpa hK
   have gY : Y < s.kn.length := by omega
   have hkl : s.kn.length <= 10000 := by omega
   have g1 : X < s.kn.length := by omega
   have g1i : (X : Int) < (s.kn.length : Int) := by omega
   clear hl
   refine region_fast [(0, true), (1, true), (2, true), (3, true), (4, true), (5, true), (6, true), (7, true), (8, true), (9, true), (10, true), (11, true), (12, true), (13, true)] [8, 9] 768 [(1073741824, 16, 0, 0), (2147483648, 1073741824, 1, 1), (4294967296, 2147483648, 2, 3), (8589934592, 4294967296, 4, 7), (17179869184, 8589934593, 8, 15), (34359738368, 25769803776, 24, 31), (68719476736, 42949672960, 40, 63), (137438953472, 77309411328, 72, 127), (274877906944, 8589934608, 8, 15), (549755813888, 283467841536, 264, 271), (1099511627776, 695784701952, 648, 1023), (2199023255552, 1108101562368, 1032, 2047), (4398046511104, 2207613190144, 2056, 4095), (536870912, 4398046511104, 4104, 8191)] (fun W => W.cell? ⟨b, 1, none⟩ = some (.slice (some ⟨kb, 0, none⟩) s.kn.length kc) /\ W.cell? ⟨kb, X, none⟩ = some (.bool K) /\ W.cell? ⟨w1.heap.size, 0, none⟩ = some (.int .i64 4) /\ W.cell? ⟨w1.heap.size, 2, none⟩ = some (.int .i64 (X : Int))) (by kernel_rfl) (by kernel_rfl) (by kernel_rfl) rfl (by kernel_rfl) (by kernel_rfl) HS.out (fun hS => ?_)
   repeat (first
    | (refine plan_read (v := ?_) rfl (fun _ _ _ h => h) rfl hS ?_ ?_; rotate_left 1; (focus (intro w' hS'; obtain ⟨s1, s2, s3, s4⟩ := hS'; go_simp; try rfl)); (simp only [Act.put, pu1]; dsimp only [pu2, pu3]))
    | (refine plan_skip rfl (fun _ _ _ h => h) rfl hS ?_; (simp only [Act.put, pu1]; dsimp only [pu2, pu3])))
   refine plan_nil ?_
   have H2 := Lh H1.out.drew
   have d3 := H2.out.box.cell 3
   simp only [List.getElem?_toArray, List.getElem?_cons_zero, List.getElem?_cons_succ] at d3
   clear hS HS
   cases K with
   | false =>
    rw [if_neg (by simp)] at HE
    go_wp2_with fail
    refine bodyPost_end (results_none rfl _ _ _) rfl ?_
    refine ⟨rfl, ?_, H2.out.bel⟩
    rw [HE.out]
    exact H2.out.srch.is
   | true =>
    rw [if_pos rfl] at HE
    go_wp2_with fail
    refine (learn_in b p Y 3 n s kb kc base _ _ H2.out.srch (by omega) (by omega) (by omega)).mono ?_
    rintro e w3 ⟨rfl, h1, h2⟩
    have H3 := Lh (H2.out.learnt h1 h2); clear h1 h2 d3
    go_wp2_with fail
    refine bodyPost_end (results_none rfl _ _ _) rfl ?_
    refine ⟨rfl, ?_, H3.out.bel⟩
    rw [HE.out]
    exact H3.out.srch.is
  ·have k4b : ((t.k : Int) == 4) = false := by simpa using k4
   have HE := Lh (show apartS l s n = s by unfold apartS; rw [hx]; simp only; rw [if_neg k2, if_neg (by simp [k4])])
   obtain ⟨k, a, x, y⟩ := t
   unfold tval at HG
   simp only at k2 k4 k2b k4b HST
   clear hx hr k2 k4
   go_enter Tryz.func158, Tryz.ntmps158
   go_wp2_with fail
   refine HG.out.mono ?_
   rintro e w1 ⟨rfl, b1⟩
   have H1 := Lh (HST.out w1 b1)
   clear b1 c0
   have d0 := H1.out.box.cell 0
   simp only [List.getElem?_toArray, List.getElem?_cons_zero, List.getElem?_cons_succ] at d0
   go_wp2_with fail
   have e3 := H1.out.drew.box.cell 0
   simp only [List.getElem?_toArray, List.getElem?_cons_zero, List.getElem?_cons_succ] at e3
   have HS := Lh e3
   clear e3
   refine region_fast [(0, true), (1, true), (2, true), (3, true), (4, true), (5, true), (6, true), (7, true), (8, true), (9, true), (10, true), (11, true), (12, true), (13, true)] [8, 9] 768 [(1073741824, 16, 0, 0), (2147483648, 1073741824, 1, 1), (4294967296, 2147483648, 2, 3), (8589934592, 4294967296, 4, 7), (17179869184, 8589934593, 8, 15), (34359738368, 25769803776, 24, 31), (68719476736, 42949672960, 40, 63), (137438953472, 77309411328, 72, 127), (274877906944, 8589934608, 8, 15), (549755813888, 283467841536, 264, 271), (1099511627776, 695784701952, 648, 1023), (2199023255552, 1108101562368, 1032, 2047), (4398046511104, 2207613190144, 2056, 4095), (536870912, 4398046511104, 4104, 8191)] (fun W => W.cell? ⟨w1.heap.size, 0, none⟩ = some (.int .i64 k)) (by kernel_rfl) (by kernel_rfl) (by kernel_rfl) rfl (by kernel_rfl) (by kernel_rfl) HS.out (fun hS => ?_)
   repeat (first
    | (refine plan_read (v := ?_) rfl (fun _ _ _ h => h) rfl hS ?_ ?_; rotate_left 1; (focus (intro w' hS'; have s3 := hS'; go_simp; try rfl)); (simp only [Act.put, pu1]; dsimp only [pu2, pu3]))
    | (refine plan_skip rfl (fun _ _ _ h => h) rfl hS ?_; (simp only [Act.put, pu1]; dsimp only [pu2, pu3])))
   refine plan_nil ?_
   have H2 := Lh H1.out.drew
   clear hS HS
   go_wp2_with fail
   refine bodyPost_end (results_none rfl _ _ _) rfl ?_
   refine ⟨rfl, ?_, H2.out.bel⟩
   rw [HE.out]
   exact H2.out.srch.is
end
end Go.Proofs.YtkgaeoeibjoljaaGreatDoor
