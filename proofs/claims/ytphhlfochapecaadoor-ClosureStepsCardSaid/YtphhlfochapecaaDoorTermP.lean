/-
  Terms as plain lists: which may stand, where one is found, their depths, sizes and texts; that texts are told apart. No program in sight.
-/
import Derived.Lib.ItoaNum
import Derived.Lib.ItoaLen
namespace Go.Proofs.YtphhlfochapecaaDoor
set_option maxRecDepth 4000
open Go.Lib

structure Tm where
  k : Int
  a : Int
  x : Int
  y : Int
deriving DecidableEq

def okT (n : Nat) (t : Tm) : Bool :=
  if t.k = 1 then decide (t.x = 0) && decide (t.y = 0)
  else if t.k = 3 then decide (t.a = 0) && (decide (0 ≤ t.x) && decide (t.x < n)) && decide (t.y = 0)
  else if t.k = 2 ∨ t.k = 4 then decide (t.a = 0) && (decide (0 ≤ t.x) && decide (t.x < n)) && (decide (0 ≤ t.y) && decide (t.y < n))
  else false

def depT (d : List Int) (t : Tm) : Int :=
  if t.k = 1 then 1
  else if t.k = 3 then 1 + d.getD t.x.toNat 0
  else 1 + max (d.getD t.x.toNat 0) (d.getD t.y.toNat 0)

def sizT (s : List Int) (t : Tm) : Int :=
  if t.k = 1 then 1 + (itoa t.a).length
  else if t.k = 3 then min 10001 (3 + s.getD t.x.toNat 0)
  else min 10001 (3 + s.getD t.x.toNat 0 + s.getD t.y.toNat 0)

def txtT (s : List (List UInt8)) (t : Tm) : List UInt8 :=
  if t.k = 1 then 97 :: itoa t.a
  else if t.k = 3 then [104, 40] ++ s.getD t.x.toNat [] ++ [41]
  else if t.k = 2 then [40] ++ s.getD t.x.toNat [] ++ [44] ++ s.getD t.y.toNat [] ++ [41]
  else [123] ++ s.getD t.y.toNat [] ++ [125, 95] ++ s.getD t.x.toNat []

/-- A list laid term by term, each out of what is laid ahead of it. -/
def laidT {α : Type} (f : List α → Tm → α) (l : List Tm) : List α := l.foldl (fun s t => s ++ [f s t]) []

section
variable {α : Type} {f : List α → Tm → α}
@[simp] theorem laidT_nil : laidT f [] = [] := rfl
theorem laidT_snoc (l : List Tm) (t : Tm) : laidT f (l ++ [t]) = laidT f l ++ [f (laidT f l) t] := by simp [laidT]
@[simp] theorem length_laidT (l : List Tm) : (laidT f l).length = l.length := by
  suffices h : ∀ (l : List Tm) (s : List α), (l.foldl (fun s t => s ++ [f s t]) s).length = s.length + l.length by simpa [laidT] using h l []
  intro l
  induction l with
  | nil => simp
  | cons t l ih => intro s; rw [List.foldl_cons, ih]; simp; omega
theorem laidT_take (l : List Tm) (n : Nat) : laidT f (l.take n) = (laidT f l).take n := by
  suffices h : ∀ (l : List Tm) (s : List α) (n : Nat), (l.take n).foldl (fun s t => s ++ [f s t]) s = (l.foldl (fun s t => s ++ [f s t]) s).take (s.length + n) by simpa [laidT] using h l [] n
  intro l
  induction l with
  | nil => intro s n; simp only [List.take_nil, List.foldl_nil]; rw [List.take_of_length_le (by omega)]
  | cons t l ih =>
    intro s n
    cases n with
    | zero =>
      simp only [List.take_zero, List.foldl_nil, Nat.add_zero, List.foldl_cons]
      have := ih (s ++ [f s t]) 0
      simp only [List.take_zero, List.foldl_nil, Nat.add_zero, List.length_append, List.length_cons, List.length_nil, Nat.zero_add] at this
      have h2 := congrArg (List.take s.length) this
      rw [List.take_take, Nat.min_eq_left (by omega)] at h2
      rw [← h2]
      simp
    | succ n =>
      simp only [List.take_succ_cons, List.foldl_cons]
      rw [ih]
      congr 1
      simp
      omega
/-- What is laid at a place: out of what is laid ahead. -/
theorem laidT_get (l : List Tm) (n : Nat) (t : Tm) (h : l[n]? = some t) : (laidT f l)[n]? = some (f ((laidT f l).take n) t) := by
  have hn : n < l.length := (List.getElem?_eq_some_iff.1 h).1
  have e : l.take (n + 1) = l.take n ++ [t] := by rw [List.take_add_one, h]; rfl
  have e2 := congrArg (laidT f) e
  rw [laidT_snoc, laidT_take, laidT_take] at e2
  have e3 := congrArg (fun z : List α => z[n]?) e2
  simpa [List.getElem?_take, Nat.min_eq_left (Nat.le_of_lt hn)] using e3
end

def deps (l : List Tm) : List Int := laidT depT l
def sizs (l : List Tm) : List Int := laidT sizT l
def txts (l : List Tm) : List (List UInt8) := laidT txtT l
@[simp] theorem length_deps (l : List Tm) : (deps l).length = l.length := length_laidT l
@[simp] theorem length_sizs (l : List Tm) : (sizs l).length = l.length := length_laidT l
@[simp] theorem length_txts (l : List Tm) : (txts l).length = l.length := length_laidT l

/-- A pool: no two terms alike, each of terms ahead of it. -/
def fitT (t : Tm) : Prop := -9223372036854775808 ≤ t.a ∧ t.a ≤ 9223372036854775807
structure Pool (l : List Tm) : Prop where
  apart : l.Nodup
  fits : ∀ t ∈ l, fitT t
  right : ∀ (i : Nat) (t : Tm), l[i]? = some t → okT i t = true

theorem Pool.nil : Pool [] := ⟨List.nodup_nil, by simp, by simp⟩
theorem Pool.snoc {l : List Tm} {t : Tm} (h : Pool l) (hr : okT l.length t = true) (hn : t ∉ l) (hf : fitT t) : Pool (l ++ [t]) := by
  refine ⟨?_, fun u hu => ?_, fun i u hu => ?_⟩
  · rw [List.nodup_append]
    exact ⟨h.apart, by simp, by simp; intro a ha e; exact hn (e ▸ ha)⟩
  · rw [List.mem_append, List.mem_singleton] at hu
    rcases hu with hu | rfl
    · exact h.fits u hu
    · exact hf
  · rw [List.getElem?_append] at hu
    split at hu
    · exact h.right i u hu
    · rename_i hi
      have : i - l.length = 0 := by
        have := (List.getElem?_eq_some_iff.1 hu).1
        simp at this
        omega
      rw [this] at hu
      simp at hu
      subst hu
      rw [show i = l.length by omega]
      exact hr

/-- Put, as a plain function: the list, the number, the error. -/
def numT (l : List Tm) (t : Tm) : Int := if t ∈ l then (l.idxOf t : Int) else -1
def putT (l : List Tm) (t : Tm) : List Tm × Int × Int :=
  if okT l.length t then (if t ∈ l then (l, l.idxOf t, 0) else if l.length = 4096 then (l, 0, 21) else (l ++ [t], l.length, 0)) else (l, 0, 2)
def putsT (l : List Tm) (ts : List Tm) : List Tm := ts.foldl (fun l t => (putT l t).1) l
theorem putsT_snoc (l ts : List Tm) (t : Tm) : putsT l (ts ++ [t]) = (putT (putsT l ts) t).1 := by simp [putsT]
theorem Pool.put {l : List Tm} (h : Pool l) (t : Tm) (hf : fitT t) : Pool (putT l t).1 := by
  unfold putT
  split
  · split
    · exact h
    · split
      · exact h
      · exact h.snoc (by assumption) (by assumption) hf
  · exact h
theorem length_putT (l : List Tm) (t : Tm) : l.length ≤ (putT l t).1.length ∧ (putT l t).1.length ≤ l.length + 1 := by
  unfold putT
  split
  · split
    · simp
    · split <;> simp
  · simp
theorem putsT_pool (ts : List Tm) (hf : ∀ t ∈ ts, fitT t) : Pool (putsT [] ts) ∧ (putsT [] ts).length ≤ ts.length := by
  suffices h : ∀ (ts l : List Tm), (∀ t ∈ ts, fitT t) → Pool l → Pool (putsT l ts) ∧ (putsT l ts).length ≤ l.length + ts.length by simpa using h ts [] hf Pool.nil
  clear hf
  intro ts
  induction ts with
  | nil => intro l _ h; exact ⟨h, by simp [putsT]⟩
  | cons t ts ih =>
    intro l hf h
    have := ih (putT l t).1 (fun u hu => hf u (List.mem_cons_of_mem _ hu)) (h.put t (hf t List.mem_cons_self))
    have h2 := length_putT l t
    refine ⟨this.1, ?_⟩
    have h3 := this.2
    simp only [putsT, List.foldl_cons, List.length_cons] at h3 ⊢
    omega

/-! ### Parts -/
theorem okT_x {n : Nat} {t : Tm} (h : okT n t = true) (hk : t.k ≠ 1) : 0 ≤ t.x ∧ t.x < n := by
  unfold okT at h
  rw [if_neg hk] at h
  split at h
  · simp at h; omega
  · split at h
    · simp at h; omega
    · simp at h
theorem okT_y {n : Nat} {t : Tm} (h : okT n t = true) (hk : t.k ≠ 1) (h3 : t.k ≠ 3) : 0 ≤ t.y ∧ t.y < n := by
  unfold okT at h
  rw [if_neg hk, if_neg h3] at h
  split at h
  · simp at h; omega
  · simp at h
theorem okT_kind {n : Nat} {t : Tm} (h : okT n t = true) : t.k = 1 ∨ t.k = 2 ∨ t.k = 3 ∨ t.k = 4 := by
  unfold okT at h
  split at h
  · exact .inl (by assumption)
  · split at h
    · exact .inr (.inr (.inl (by assumption)))
    · split at h
      · rename_i h2
        rcases h2 with h2 | h2
        · exact .inr (.inl h2)
        · exact .inr (.inr (.inr h2))
      · simp at h
theorem okT_atom {n : Nat} {t : Tm} (h : okT n t = true) (hk : t.k ≠ 1) : t.a = 0 := by
  unfold okT at h
  rw [if_neg hk] at h
  split at h
  · simp at h; omega
  · split at h
    · simp at h; omega
    · simp at h
theorem okT_one {n : Nat} {t : Tm} (h : okT n t = true) (hk : t.k = 1) : t.x = 0 ∧ t.y = 0 := by
  unfold okT at h
  rw [if_pos hk] at h
  simpa using h
theorem okT_three {n : Nat} {t : Tm} (h : okT n t = true) (hk : t.k = 3) : t.y = 0 := by
  unfold okT at h
  rw [if_neg (by omega), if_pos hk] at h
  simp at h
  omega
theorem okT_mono {n m : Nat} {t : Tm} (h : okT n t = true) (hm : n ≤ m) : okT m t = true := by
  unfold okT at h ⊢
  split at h
  · rw [if_pos (by assumption)]; exact h
  · rw [if_neg (by assumption)]
    split at h
    · rw [if_pos (by assumption)]; simp at h ⊢; omega
    · rw [if_neg (by assumption)]
      split at h
      · rw [if_pos (by assumption)]; simp at h ⊢; omega
      · simp at h

section
variable {l : List Tm} (h : Pool l)
include h
omit h in
theorem getD_take {α : Type} (z : List α) (n i : Nat) (d : α) (hi : i < n) : (z.take n).getD i d = z.getD i d := by
  simp [List.getD_eq_getElem?_getD, List.getElem?_take, hi]

/-- Depths, over the whole list. -/
theorem deps_get {n : Nat} {t : Tm} (hn : l[n]? = some t) : (deps l)[n]? = some (depT (deps l) t) := by
  have hr := h.right n t hn
  rw [deps, laidT_get l n t hn]
  congr 1
  unfold depT
  split
  · rfl
  · rename_i h1
    have := okT_x hr h1
    split
    · rw [getD_take _ _ _ _ (by omega)]
    · rename_i h3
      have := okT_y hr h1 h3
      rw [getD_take _ _ _ _ (by omega), getD_take _ _ _ _ (by omega)]
theorem sizs_get {n : Nat} {t : Tm} (hn : l[n]? = some t) : (sizs l)[n]? = some (sizT (sizs l) t) := by
  have hr := h.right n t hn
  rw [sizs, laidT_get l n t hn]
  congr 1
  unfold sizT
  split
  · rfl
  · rename_i h1
    have := okT_x hr h1
    split
    · rw [getD_take _ _ _ _ (by omega)]
    · rename_i h3
      have := okT_y hr h1 h3
      rw [getD_take _ _ _ _ (by omega), getD_take _ _ _ _ (by omega)]
theorem txts_get {n : Nat} {t : Tm} (hn : l[n]? = some t) : (txts l)[n]? = some (txtT (txts l) t) := by
  have hr := h.right n t hn
  rw [txts, laidT_get l n t hn]
  congr 1
  unfold txtT
  split
  · rfl
  · rename_i h1
    have := okT_x hr h1
    split
    · rw [getD_take _ _ _ _ (by omega)]
    · rename_i h3
      have := okT_y hr h1 h3
      rw [getD_take _ _ _ _ (by omega), getD_take _ _ _ _ (by omega)]
end

theorem decDigits_pos (u : Nat) : 1 ≤ (decDigits u).length := by rw [decDigits_length]; exact nDigits_pos u
theorem itoa_pos (n : Int) : 1 ≤ (itoa n).length := by
  unfold itoa
  split
  · simp
  · exact decDigits_pos _

section
variable {l : List Tm} (h : Pool l)
include h
theorem sizs_pos : ∀ (n : Nat), n < l.length → 2 ≤ (sizs l).getD n 0 := by
  intro n
  induction n using Nat.strongRecOn with
  | _ n ih =>
    intro hn
    have hr := h.right n _ (List.getElem?_eq_getElem hn)
    have hs := sizs_get h (List.getElem?_eq_getElem hn)
    rw [List.getD_eq_getElem?_getD, hs]
    generalize l[n] = t at hr hs
    simp only [Option.getD_some]
    unfold sizT
    split
    · have := itoa_pos t.a
      omega
    · rename_i h1
      have hx := okT_x hr h1
      have ix := ih t.x.toNat (by omega) (by omega)
      split
      · omega
      · rename_i h3
        have hy := okT_y hr h1 h3
        have iy := ih t.y.toNat (by omega) (by omega)
        omega
theorem sizs_top {n : Nat} (hn : n < l.length) : (sizs l).getD n 0 ≤ 10001 := by
  have hs := sizs_get h (List.getElem?_eq_getElem hn)
  rw [List.getD_eq_getElem?_getD, hs]
  simp only [Option.getD_some]
  unfold sizT
  split
  · have hf := h.fits _ (List.getElem_mem hn)
    have := itoa_length_le (l[n]).a hf.1 hf.2
    omega
  · split <;> omega
theorem sizs_le_of {n : Nat} (hn : n < l.length) : (sizs l).getD n 0 ≤ 10001 ∨ (l[n]'hn).k = 1 := by
  have hs := sizs_get h (List.getElem?_eq_getElem hn)
  rw [List.getD_eq_getElem?_getD, hs]
  simp only [Option.getD_some]
  unfold sizT
  split
  · exact .inr (by assumption)
  · split
    · exact .inl (by omega)
    · exact .inl (by omega)
/-- Sizes are the texts' lengths, where they are not too long. -/
theorem sizs_txts : ∀ (n : Nat), n < l.length → (sizs l).getD n 0 ≤ 10000 → ((txts l).getD n []).length = (sizs l).getD n 0 := by
  intro n
  induction n using Nat.strongRecOn with
  | _ n ih =>
    intro hn hle
    have hr := h.right n _ (List.getElem?_eq_getElem hn)
    have hs := sizs_get h (List.getElem?_eq_getElem hn)
    have ht := txts_get h (List.getElem?_eq_getElem hn)
    rw [List.getD_eq_getElem?_getD, hs] at hle
    rw [List.getD_eq_getElem?_getD, ht, List.getD_eq_getElem?_getD, hs]
    generalize l[n] = t at hr hs ht hle
    simp only [Option.getD_some] at hle ⊢
    unfold sizT at hle ⊢
    unfold txtT
    split
    · simp; omega
    · rename_i h1
      rw [if_neg h1] at hle
      have hx := okT_x hr h1
      split
      · rename_i h3
        rw [if_pos h3] at hle
        have ix := ih t.x.toNat (by omega) (by omega) (by omega)
        simp only [List.length_append, List.length_cons, List.length_nil]
        omega
      · rename_i h3
        rw [if_neg h3] at hle
        have hy := okT_y hr h1 h3
        have px := sizs_pos h t.x.toNat (by omega)
        have py := sizs_pos h t.y.toNat (by omega)
        have ix := ih t.x.toNat (by omega) (by omega) (by omega)
        have iy := ih t.y.toNat (by omega) (by omega) (by omega)
        split
        · simp only [List.length_append, List.length_cons, List.length_nil]
          omega
        · simp only [List.length_append, List.length_cons, List.length_nil]
          omega
theorem deps_pos : ∀ (n : Nat), n < l.length → 1 ≤ (deps l).getD n 0 ∧ (deps l).getD n 0 ≤ n + 1 := by
  intro n
  induction n using Nat.strongRecOn with
  | _ n ih =>
    intro hn
    have hr := h.right n _ (List.getElem?_eq_getElem hn)
    have hs := deps_get h (List.getElem?_eq_getElem hn)
    rw [List.getD_eq_getElem?_getD, hs]
    generalize l[n] = t at hr hs
    simp only [Option.getD_some]
    unfold depT
    split
    · omega
    · rename_i h1
      have hx := okT_x hr h1
      have ix := ih t.x.toNat (by omega) (by omega)
      split
      · omega
      · rename_i h3
        have hy := okT_y hr h1 h3
        have iy := ih t.y.toNat (by omega) (by omega)
        omega
/-- A part is less deep. -/
theorem deps_x {n : Nat} {t : Tm} (hn : l[n]? = some t) (hk : t.k ≠ 1) : (deps l).getD t.x.toNat 0 < (deps l).getD n 0 := by
  have hs := deps_get h hn
  rw [List.getD_eq_getElem?_getD (l := deps l) (i := n), hs]
  simp only [Option.getD_some]
  unfold depT
  rw [if_neg hk]
  split <;> omega
end

/-! ### Numerals, told apart -/
def Dig (c : UInt8) : Prop := 48 ≤ c.toNat ∧ c.toNat ≤ 57
def NoDig (u : List UInt8) : Prop := ∀ c v, u = c :: v → ¬ Dig c
theorem decDigits_dig (u : Nat) : ∀ c ∈ decDigits u, Dig c := by
  induction u using Nat.strongRecOn with
  | _ u ih =>
    intro c hc
    rw [decDigits] at hc
    split at hc
    · simp at hc
      subst hc
      simp [Dig, UInt8.toNat_ofNat']
      omega
    · rw [List.mem_append] at hc
      rcases hc with hc | hc
      · exact ih _ (by omega) c hc
      · simp at hc
        subst hc
        simp [Dig, UInt8.toNat_ofNat']
        omega
theorem ofNat_inj {a b : Nat} (ha : a < 10) (hb : b < 10) (h : UInt8.ofNat (48 + a) = UInt8.ofNat (48 + b)) : a = b := by
  have := congrArg UInt8.toNat h
  simp [UInt8.toNat_ofNat'] at this
  omega
theorem decDigits_ge {u : Nat} (h : ¬ u < 10) : decDigits u = decDigits (u / 10) ++ [UInt8.ofNat (48 + u % 10)] := by rw [decDigits, dif_neg h]
theorem decDigits_inj : ∀ (u v : Nat), decDigits u = decDigits v → u = v := by
  intro u
  induction u using Nat.strongRecOn with
  | _ u ih =>
    intro v h
    have hl := congrArg List.length h
    rw [decDigits_length, decDigits_length] at hl
    by_cases hu : u < 10
    · by_cases hv : v < 10
      · rw [decDigits, dif_pos hu, decDigits, dif_pos hv] at h
        simp only [List.cons.injEq, and_true] at h
        exact ofNat_inj hu hv h
      · have := nDigits_pos (v / 10)
        rw [nDigits_small hu, nDigits_big hv] at hl
        omega
    · by_cases hv : v < 10
      · have := nDigits_pos (u / 10)
        rw [nDigits_small hv, nDigits_big hu] at hl
        omega
      · rw [decDigits_ge hu, decDigits_ge hv] at h
        obtain ⟨h1, h2⟩ := List.append_inj' h rfl
        simp only [List.cons.injEq, and_true] at h2
        have e1 := ih (u / 10) (by omega) (v / 10) h1
        have e2 := ofNat_inj (by omega) (by omega) h2
        omega
theorem digs_app : ∀ {p q u v : List UInt8}, (∀ c ∈ p, Dig c) → (∀ c ∈ q, Dig c) → NoDig u → NoDig v → p ++ u = q ++ v → p = q ∧ u = v := by
  intro p
  induction p with
  | nil =>
    intro q u v _ hq hu _ h
    cases q with
    | nil => exact ⟨rfl, h⟩
    | cons c q => exact absurd (hq c List.mem_cons_self) (hu c (q ++ v) h)
  | cons c p ih =>
    intro q u v hp hq hu hv h
    cases q with
    | nil => exact absurd (hp c List.mem_cons_self) (hv c (p ++ u) h.symm)
    | cons d q =>
      simp only [List.cons_append, List.cons.injEq] at h
      obtain ⟨e1, e2⟩ := ih (fun c hc => hp c (List.mem_cons_of_mem _ hc)) (fun c hc => hq c (List.mem_cons_of_mem _ hc)) hu hv h.2
      exact ⟨by rw [h.1, e1], e2⟩
theorem itoa_app {n m : Int} {u v : List UInt8} (hu : NoDig u) (hv : NoDig v) (h : itoa n ++ u = itoa m ++ v) : n = m ∧ u = v := by
  unfold itoa at h
  have hd : ∀ (k : Nat) (r s : List UInt8), decDigits k ++ r ≠ 45 :: s := by
    intro k r s he
    have h1 := decDigits_pos k
    cases hk : decDigits k with
    | nil => rw [hk] at h1; simp at h1
    | cons c t =>
      have h2 := decDigits_dig k c (by rw [hk]; exact List.mem_cons_self)
      rw [hk] at he
      simp only [List.cons_append, List.cons.injEq] at he
      rw [he.1] at h2
      simp [Dig] at h2
  split at h
  · split at h
    · simp only [List.cons_append, List.cons.injEq, true_and] at h
      obtain ⟨e1, e2⟩ := digs_app (decDigits_dig _) (decDigits_dig _) hu hv h
      have := decDigits_inj _ _ e1
      exact ⟨by omega, e2⟩
    · exact absurd h.symm (hd _ _ _)
  · split at h
    · exact absurd h (hd _ _ _)
    · obtain ⟨e1, e2⟩ := digs_app (decDigits_dig _) (decDigits_dig _) hu hv h
      have := decDigits_inj _ _ e1
      exact ⟨by omega, e2⟩

theorem noDig_cons {c : UInt8} {v : List UInt8} (h : ¬ Dig c) : NoDig (c :: v) := by
  intro c' v' e
  simp only [List.cons.injEq] at e
  exact e.1 ▸ h
theorem noDig_nil : NoDig [] := by intro c v e; cases e

theorem Pool.idx {l : List Tm} (h : Pool l) {i j : Nat} {t : Tm} (hi : l[i]? = some t) (hj : l[j]? = some t) : i = j := by
  obtain ⟨h1, e1⟩ := List.getElem?_eq_some_iff.1 hi
  obtain ⟨h2, e2⟩ := List.getElem?_eq_some_iff.1 hj
  have hp := List.pairwise_iff_getElem.1 h.apart
  rcases Nat.lt_trichotomy i j with hl | hl | hl
  · exact absurd (e1.trans e2.symm) (hp i j h1 h2 hl)
  · exact hl
  · exact absurd (e2.trans e1.symm) (hp j i h2 h1 hl)
theorem Tm.ext4 {t u : Tm} (h1 : t.k = u.k) (h2 : t.a = u.a) (h3 : t.x = u.x) (h4 : t.y = u.y) : t = u := by cases t; cases u; simp_all

/-- Texts are read in one way. -/
theorem txts_app {l : List Tm} (h : Pool l) : ∀ (i j : Nat) (u v : List UInt8), i < l.length → j < l.length → NoDig u → NoDig v →
    (txts l).getD i [] ++ u = (txts l).getD j [] ++ v → i = j ∧ u = v := by
  intro i
  induction i using Nat.strongRecOn with
  | _ i ih =>
    intro j u v hi hj hu hv e
    have ti := List.getElem?_eq_getElem hi
    have tj := List.getElem?_eq_getElem hj
    generalize l[i] = t at ti
    generalize l[j] = s at tj
    have ri := h.right i t ti
    have rj := h.right j s tj
    rw [List.getD_eq_getElem?_getD, txts_get h ti, List.getD_eq_getElem?_getD, txts_get h tj] at e
    simp only [Option.getD_some] at e
    suffices hs : t = s ∧ u = v by exact ⟨h.idx ti (hs.1 ▸ tj), hs.2⟩
    unfold txtT at e
    have d44 : ¬ Dig 44 := by simp [Dig]
    have d41 : ¬ Dig 41 := by simp [Dig]
    have d125 : ¬ Dig 125 := by simp [Dig]
    rcases okT_kind ri with k1 | k1 | k1 | k1 <;> rcases okT_kind rj with k2 | k2 | k2 | k2 <;> simp [k1, k2] at e
    · obtain ⟨e1, e2⟩ := itoa_app hu hv e
      have o1 := okT_one ri k1
      have o2 := okT_one rj k2
      exact ⟨Tm.ext4 (by rw [k1, k2]) e1 (by rw [o1.1, o2.1]) (by rw [o1.2, o2.2]), e2⟩
    · have x1 := okT_x ri (by omega)
      have x2 := okT_x rj (by omega)
      have y1 := okT_y ri (by omega) (by omega)
      have y2 := okT_y rj (by omega) (by omega)
      obtain ⟨e1, e2⟩ := ih t.x.toNat (by omega) s.x.toNat _ _ (by omega) (by omega) (noDig_cons d44) (noDig_cons d44) e
      simp only [List.cons.injEq, true_and] at e2
      obtain ⟨e3, e4⟩ := ih t.y.toNat (by omega) s.y.toNat _ _ (by omega) (by omega) (noDig_cons d41) (noDig_cons d41) e2
      simp only [List.cons.injEq, true_and] at e4
      exact ⟨Tm.ext4 (by rw [k1, k2]) (by rw [okT_atom ri (by omega), okT_atom rj (by omega)]) (by omega) (by omega), e4⟩
    · have x1 := okT_x ri (by omega)
      have x2 := okT_x rj (by omega)
      obtain ⟨e1, e2⟩ := ih t.x.toNat (by omega) s.x.toNat _ _ (by omega) (by omega) (noDig_cons d41) (noDig_cons d41) e
      simp only [List.cons.injEq, true_and] at e2
      exact ⟨Tm.ext4 (by rw [k1, k2]) (by rw [okT_atom ri (by omega), okT_atom rj (by omega)]) (by omega) (by rw [okT_three ri k1, okT_three rj k2]), e2⟩
    · have x1 := okT_x ri (by omega)
      have x2 := okT_x rj (by omega)
      have y1 := okT_y ri (by omega) (by omega)
      have y2 := okT_y rj (by omega) (by omega)
      obtain ⟨e1, e2⟩ := ih t.y.toNat (by omega) s.y.toNat _ _ (by omega) (by omega) (noDig_cons d125) (noDig_cons d125) e
      simp only [List.cons.injEq, true_and] at e2
      obtain ⟨e3, e4⟩ := ih t.x.toNat (by omega) s.x.toNat _ _ (by omega) (by omega) hu hv e2
      exact ⟨Tm.ext4 (by rw [k1, k2]) (by rw [okT_atom ri (by omega), okT_atom rj (by omega)]) (by omega) (by omega), e4⟩
theorem txts_inj {l : List Tm} (h : Pool l) {i j : Nat} (hi : i < l.length) (hj : j < l.length) (e : (txts l).getD i [] = (txts l).getD j []) : i = j :=
  (txts_app h i j [] [] hi hj noDig_nil noDig_nil (by rw [e])).1
end Go.Proofs.YtphhlfochapecaaDoor
