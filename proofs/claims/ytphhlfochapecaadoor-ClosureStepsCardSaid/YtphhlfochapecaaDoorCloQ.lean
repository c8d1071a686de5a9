/-
  The search and its steps, as plain lists. No program in sight.
-/
import Derived.Test.YtphhlfochapecaaDoorCloP
namespace Go.Proofs.YtphhlfochapecaaDoor
set_option maxRecDepth 4000

structure Sr where
  kn : List Bool
  st : List Wy
def learnS (s : Sr) (n : Nat) (h o : Int) : Sr := if at_ s.kn n = true then s else ⟨s.kn.set n true, s.st ++ [⟨n, h, o⟩]⟩
def apartS (l : List Tm) (s : Sr) (n : Nat) : Sr :=
  match l[n]? with
  | none => s
  | some t => if t.k = 2 then learnS (learnS s t.x.toNat 1 n) t.y.toNat 2 n else if t.k = 4 ∧ at_ s.kn t.x.toNat = true then learnS s t.y.toNat 3 n else s
def togS (l : List Tm) (s : Sr) (n : Nat) : Sr :=
  match l[n]? with
  | none => s
  | some t =>
    if t.k = 3 ∧ at_ s.kn t.x.toNat = true then learnS s n 4 0
    else if t.k = 2 ∧ at_ s.kn t.x.toNat = true ∧ at_ s.kn t.y.toNat = true then learnS s n 5 0
    else if t.k = 4 ∧ at_ s.kn t.x.toNat = true ∧ at_ s.kn t.y.toNat = true then learnS s n 6 0 else s
def bodyS (l : List Tm) (s : Sr) (n : Nat) : Sr := togS l (if at_ s.kn n = true then apartS l s n else s) n

/-- A step is right behind those that are known. -/
def rightW (l : List Tm) (gv known : List Int) (w : Wy) : Bool :=
  match l[w.t.toNat]? with
  | none => false
  | some t =>
    if w.t < 0 then false
    else if 1 ≤ w.h ∧ w.h ≤ 3 then
      (if w.o ∈ known then
        (match l[w.o.toNat]? with
        | none => false
        | some of => (decide (w.h = 1) && decide (of.k = 2) && decide (of.x = w.t)) || (decide (w.h = 2) && decide (of.k = 2) && decide (of.y = w.t)) || (decide (w.h = 3) && decide (of.k = 4) && decide (of.y = w.t) && decide (of.x ∈ known)))
      else false)
    else if w.o ≠ 0 then false
    else if w.h = 0 then decide (w.t ∈ gv)
    else if w.h = 4 then decide (t.k = 3) && decide (t.x ∈ known)
    else ((decide (w.h = 5) && decide (t.k = 2)) || (decide (w.h = 6) && decide (t.k = 4))) && decide (t.x ∈ known) && decide (t.y ∈ known)
def termsW (st : List Wy) : List Int := st.map (·.t)
theorem termsW_append (a b : List Wy) : termsW (a ++ b) = termsW a ++ termsW b := by simp [termsW]

/-- Right steps are of terms that follow. -/
theorem right_fol {l : List Tm} {gv : List Int} {st : List Wy} (h : ∀ (i : Nat) (w : Wy), st[i]? = some w → rightW l gv (termsW (st.take i)) w = true) : ∀ (i : Nat) (w : Wy), st[i]? = some w → 0 ≤ w.t ∧ w.t < l.length ∧ Fol l gv w.t.toNat := by
  intro i
  induction i using Nat.strongRecOn with
  | _ i ih =>
    intro w hw
    have hr := h i w hw
    have hk : ∀ x : Int, x ∈ termsW (st.take i) → 0 ≤ x ∧ x < l.length ∧ Fol l gv x.toNat := by
      intro x hx
      obtain ⟨u, hu, rfl⟩ := List.mem_map.1 hx
      obtain ⟨j, hj, e⟩ := List.mem_iff_getElem.1 hu
      have hji : j < i := by rw [List.length_take] at hj; omega
      rw [List.getElem_take] at e
      exact ih j hji u (by rw [← e, List.getElem?_eq_getElem])
    unfold rightW at hr
    cases ht : l[w.t.toNat]? with
    | none => rw [ht] at hr; cases hr
    | some t =>
      rw [ht] at hr
      simp only at hr
      have hlt := (List.getElem?_eq_some_iff.1 ht).1
      split at hr
      · cases hr
      · rename_i h0
        refine ⟨by omega, by omega, ?_⟩
        split at hr
        · split at hr
          · rename_i hm
            obtain ⟨o1, o2, o3⟩ := hk _ hm
            cases ho : l[w.o.toNat]? with
            | none => rw [ho] at hr; cases hr
            | some of =>
              rw [ho] at hr
              simp only [Bool.or_eq_true, Bool.and_eq_true, decide_eq_true_eq] at hr
              rcases hr with (⟨⟨a, b⟩, c⟩ | ⟨⟨a, b⟩, c⟩) | ⟨⟨⟨a, b⟩, c⟩, d⟩
              · rw [← c]; exact .left _ of ho b o3
              · rw [← c]; exact .right _ of ho b o3
              · rw [← c]; exact .open_ _ of ho b o3 (hk _ d).2.2
          · cases hr
        · split at hr
          · cases hr
          · split at hr
            · exact .given _ (by have := of_decide_eq_true hr; rwa [Int.toNat_of_nonneg (by omega)]) hlt
            · split at hr
              · simp only [Bool.and_eq_true, decide_eq_true_eq] at hr
                exact .hash _ t ht hr.1 (hk _ hr.2).2.2
              · simp only [Bool.or_eq_true, Bool.and_eq_true, decide_eq_true_eq] at hr
                rcases hr with ⟨⟨⟨a, b⟩ | ⟨a, b⟩, c⟩, d⟩
                · exact .pair _ t ht b (hk _ c).2.2 (hk _ d).2.2
                · exact .sealed _ t ht b (hk _ c).2.2 (hk _ d).2.2

/-- A search that is sound so far. -/
structure Good (l : List Tm) (gv : List Int) (s : Sr) : Prop where
  len : s.kn.length = l.length
  know : ∀ n : Nat, at_ s.kn n = true ↔ (n : Int) ∈ termsW s.st
  once : (termsW s.st).Nodup
  cnt_ : s.st.length = cnt s.kn
  rng : ∀ w ∈ s.st, 0 ≤ w.t ∧ w.t < l.length
  chk : ∀ (i : Nat) (w : Wy), s.st[i]? = some w → rightW l gv (termsW (s.st.take i)) w = true

theorem cnt_set : ∀ {k : List Bool} {n : Nat}, at_ k n = false → n < k.length → cnt (k.set n true) = cnt k + 1
  | [], n, _, h => by simp at h
  | x :: k, 0, h, _ => by
    have hx : x = false := by simpa [at_] using h
    subst hx
    simp [cnt]
  | x :: k, n + 1, h, hl => by
    have ih := cnt_set (k := k) (n := n) (by simpa [at_] using h) (by simpa using hl)
    have hc : ∀ (z : Bool) (c : List Bool), cnt (z :: c) = cnt c + (if z then 1 else 0) := fun z c => by simp [cnt, List.countP_cons]
    rw [List.set_cons_succ, hc, hc, ih]
    omega

/-- The one is the other, or has more steps. -/
def Grow (a b : Sr) : Prop := b = a ∨ a.st.length < b.st.length
theorem Grow.refl (a : Sr) : Grow a a := .inl rfl
theorem Grow.trans {a b c : Sr} (h : Grow a b) (k : Grow b c) : Grow a c := by
  rcases h with rfl | h
  · exact k
  · rcases k with rfl | k
    · exact .inr h
    · exact .inr (Nat.lt_trans h k)
theorem Grow.le {a b : Sr} (h : Grow a b) : a.st.length ≤ b.st.length := by
  rcases h with rfl | h
  · exact Nat.le_refl _
  · omega
theorem Grow.eq {a b : Sr} (h : Grow a b) (e : b.st.length ≤ a.st.length) : b = a := by
  rcases h with rfl | h
  · rfl
  · omega
theorem learnS_grow (s : Sr) (n : Nat) (h o : Int) : Grow s (learnS s n h o) := by
  unfold learnS
  split
  · exact .inl rfl
  · exact .inr (by simp)
theorem learnS_eq {s : Sr} {n : Nat} {h o : Int} (e : learnS s n h o = s) : at_ s.kn n = true := by
  unfold learnS at e
  split at e
  · assumption
  · have := congrArg (fun s => s.st.length) e
    simp at this
theorem apartS_grow (l : List Tm) (s : Sr) (n : Nat) : Grow s (apartS l s n) := by
  unfold apartS
  split
  · exact Grow.refl _
  · split
    · exact (learnS_grow _ _ _ _).trans (learnS_grow _ _ _ _)
    · split
      · exact learnS_grow _ _ _ _
      · exact Grow.refl _
theorem togS_grow (l : List Tm) (s : Sr) (n : Nat) : Grow s (togS l s n) := by
  unfold togS
  split
  · exact Grow.refl _
  · split
    · exact learnS_grow _ _ _ _
    · split
      · exact learnS_grow _ _ _ _
      · split
        · exact learnS_grow _ _ _ _
        · exact Grow.refl _
theorem bodyS_grow (l : List Tm) (s : Sr) (n : Nat) : Grow s (bodyS l s n) := by
  unfold bodyS
  split
  · exact (apartS_grow _ _ _).trans (togS_grow _ _ _)
  · exact togS_grow _ _ _

section
variable {l : List Tm} {gv : List Int} {s : Sr}
theorem Good.learn (g : Good l gv s) {n : Nat} {h o : Int} (hn : n < l.length) (hr : rightW l gv (termsW s.st) ⟨n, h, o⟩ = true) : Good l gv (learnS s n h o) := by
  unfold learnS
  split
  · exact g
  · rename_i hk
    have hk' : at_ s.kn n = false := by simpa using hk
    have hnl : n < s.kn.length := by rw [g.len]; exact hn
    refine ⟨by simpa using g.len, fun m => ?_, ?_, ?_, fun w hw => ?_, fun i w hw => ?_⟩
    · rw [at_set, termsW_append, List.mem_append]
      simp only [Bool.or_eq_true, Bool.and_eq_true, decide_eq_true_eq, g.know m, termsW, List.map_cons, List.map_nil, List.mem_singleton]
      constructor
      · rintro (h | ⟨rfl, _⟩)
        · exact .inl h
        · exact .inr rfl
      · rintro (h | h)
        · exact .inl h
        · exact .inr ⟨by omega, hnl⟩
    · rw [termsW_append, List.nodup_append]
      refine ⟨g.once, by simp [termsW], fun a ha b hb e => ?_⟩
      simp only [termsW, List.map_cons, List.map_nil, List.mem_singleton] at hb
      subst hb
      subst e
      exact hk ((g.know n).2 ha)
    · rw [cnt_set hk' hnl, List.length_append, g.cnt_]
      rfl
    · rw [List.mem_append, List.mem_singleton] at hw
      rcases hw with hw | rfl
      · exact g.rng w hw
      · exact ⟨by simp, by simpa using hn⟩
    · rw [List.getElem?_append] at hw
      split at hw
      · rename_i hi
        rw [List.take_append_of_le_length (by omega)]
        exact g.chk i w hw
      · rename_i hi
        have h1 := (List.getElem?_eq_some_iff.1 hw).1
        have h2 : i - s.st.length = 0 := by simp at h1; omega
        rw [h2] at hw
        simp at hw
        subst hw
        have h3 : i = s.st.length := by omega
        subst h3
        rw [List.take_append_of_le_length (Nat.le_refl _), List.take_length]
        exact hr
theorem Good.knows (g : Good l gv s) {x : Int} (hx : 0 ≤ x) (h : at_ s.kn x.toNat = true) : x ∈ termsW s.st := by
  have := (g.know x.toNat).1 h
  rwa [Int.toNat_of_nonneg hx] at this
theorem Good.apart (hp : Pool l) (g : Good l gv s) {n : Nat} (hn : at_ s.kn n = true) : Good l gv (apartS l s n) := by
  unfold apartS
  cases ht : l[n]? with
  | none => exact g
  | some t =>
    simp only
    have hr := hp.right n t ht
    have hnl := (List.getElem?_eq_some_iff.1 ht).1
    have hno : (n : Int) ∈ termsW s.st := (g.know n).1 hn
    split
    · rename_i h2
      have hx := okT_x hr (by omega)
      have hy := okT_y hr (by omega) (by omega)
      have hxe : ((t.x.toNat : Nat) : Int) = t.x := Int.toNat_of_nonneg hx.1
      have hye : ((t.y.toNat : Nat) : Int) = t.y := Int.toNat_of_nonneg hy.1
      have g1 : Good l gv (learnS s t.x.toNat 1 n) := by
        refine g.learn (by omega) ?_
        unfold rightW
        simp only [Int.toNat_natCast, List.getElem?_eq_getElem (show t.x.toNat < l.length by omega), ht]
        rw [if_neg (by omega), if_pos ⟨by omega, by omega⟩, if_pos hno]
        simp [h2, hxe]
      refine g1.learn (by omega) ?_
      have hno1 : (n : Int) ∈ termsW (learnS s t.x.toNat 1 n).st := by
        unfold learnS
        split
        · exact hno
        · rw [termsW_append]; exact List.mem_append_left _ hno
      unfold rightW
      simp only [Int.toNat_natCast, List.getElem?_eq_getElem (show t.y.toNat < l.length by omega), ht]
      rw [if_neg (by omega), if_pos ⟨by omega, by omega⟩, if_pos hno1]
      simp [h2, hye]
    · split
      · rename_i h4
        have hx := okT_x hr (by omega)
        have hy := okT_y hr (by omega) (by omega)
        have hye : ((t.y.toNat : Nat) : Int) = t.y := Int.toNat_of_nonneg hy.1
        refine g.learn (by omega) ?_
        unfold rightW
        simp only [Int.toNat_natCast, List.getElem?_eq_getElem (show t.y.toNat < l.length by omega), ht]
        rw [if_neg (by omega), if_pos ⟨by omega, by omega⟩, if_pos hno]
        simp [h4.1, hye, g.knows hx.1 h4.2]
      · exact g
theorem Good.together (hp : Pool l) (g : Good l gv s) (n : Nat) : Good l gv (togS l s n) := by
  unfold togS
  cases ht : l[n]? with
  | none => exact g
  | some t =>
    simp only
    have hr := hp.right n t ht
    have hnl := (List.getElem?_eq_some_iff.1 ht).1
    split
    · rename_i h3
      have hx := okT_x hr (by omega)
      refine g.learn hnl ?_
      unfold rightW
      simp only [Int.toNat_natCast, ht]
      rw [if_neg (by omega), if_neg (by omega), if_neg (by simp), if_neg (by omega), if_pos trivial]
      simp [h3.1, g.knows hx.1 h3.2]
    · split
      · rename_i h3
        have hx := okT_x hr (by omega)
        have hy := okT_y hr (by omega) (by omega)
        refine g.learn hnl ?_
        unfold rightW
        simp only [Int.toNat_natCast, ht]
        rw [if_neg (by omega), if_neg (by omega), if_neg (by simp), if_neg (by omega), if_neg (by omega)]
        simp [h3.1, g.knows hx.1 h3.2.1, g.knows hy.1 h3.2.2]
      · split
        · rename_i h3
          have hx := okT_x hr (by omega)
          have hy := okT_y hr (by omega) (by omega)
          refine g.learn hnl ?_
          unfold rightW
          simp only [Int.toNat_natCast, ht]
          rw [if_neg (by omega), if_neg (by omega), if_neg (by simp), if_neg (by omega), if_neg (by omega)]
          simp [h3.1, g.knows hx.1 h3.2.1, g.knows hy.1 h3.2.2]
        · exact g
theorem Good.body (hp : Pool l) (g : Good l gv s) (n : Nat) : Good l gv (bodyS l s n) := by
  unfold bodyS
  split
  · rename_i h
    exact (g.apart hp h).together hp n
  · exact g.together hp n
/-- Where the body turns nothing no rule gives anything new. -/
theorem shut_of_body {n : Nat} (e : bodyS l s n = s) : ShutAt l s.kn n := by
  intro t ht
  have hA : at_ s.kn n = true → apartS l s n = s ∧ togS l s n = s := fun hn => by
    unfold bodyS at e
    rw [if_pos hn] at e
    have h1 := apartS_grow l s n
    have h2 := togS_grow l (apartS l s n) n
    have h3 : apartS l s n = s := h1.eq (by have := h2.le; rw [e] at this; exact this)
    rw [h3] at e
    exact ⟨h3, e⟩
  have hT : togS l s n = s := by
    by_cases hn : at_ s.kn n = true
    · exact (hA hn).2
    · unfold bodyS at e; rwa [if_neg hn] at e
  unfold togS at hT
  rw [ht] at hT
  simp only at hT
  refine ⟨fun h1 h2 => ?_, fun h1 h2 h3 => ?_, fun h1 h2 h3 => ?_, fun h1 h2 => ?_, fun h1 h2 h3 => ?_⟩
  · rw [if_pos ⟨h1, h2⟩] at hT
    exact learnS_eq hT
  · rw [if_neg (by omega), if_pos ⟨h1, h2, h3⟩] at hT
    exact learnS_eq hT
  · rw [if_neg (by omega), if_neg (by omega), if_pos ⟨h1, h2, h3⟩] at hT
    exact learnS_eq hT
  · have h3 := (hA h2).1
    unfold apartS at h3
    rw [ht] at h3
    simp only at h3
    rw [if_pos h1] at h3
    have g1 := learnS_grow s t.x.toNat 1 n
    have g2 := learnS_grow (learnS s t.x.toNat 1 n) t.y.toNat 2 n
    have h4 : learnS s t.x.toNat 1 n = s := g1.eq (by have := g2.le; rw [h3] at this; exact this)
    rw [h4] at h3
    exact ⟨learnS_eq h4, learnS_eq h3⟩
  · have h4 := (hA h2).1
    unfold apartS at h4
    rw [ht] at h4
    simp only at h4
    rw [if_neg (by omega), if_pos ⟨h1, h3⟩] at h4
    exact learnS_eq h4
theorem Good.sound (hp : Pool l) (g : Good l gv s) {n : Nat} (h : at_ s.kn n = true) : Fol l gv n := by
  obtain ⟨w, hw, e⟩ := List.mem_map.1 ((g.know n).1 h)
  obtain ⟨i, hi, e2⟩ := List.mem_iff_getElem.1 hw
  have := (right_fol g.chk i w (by rw [← e2, List.getElem?_eq_getElem])).2.2
  rw [e] at this
  exact this
theorem bools_ext {a b : List Bool} (hl : a.length = b.length) (h : ∀ n, at_ a n = true ↔ at_ b n = true) : a = b := by
  refine List.ext_getElem hl fun n h1 h2 => ?_
  have := h n
  unfold at_ at this
  rw [List.getD_eq_getElem?_getD, List.getD_eq_getElem?_getD, List.getElem?_eq_getElem h1, List.getElem?_eq_getElem h2] at this
  simp only [Option.getD_some] at this
  exact Bool.eq_iff_iff.2 this
/-- A search that is done knows what follows. -/
theorem Good.done (hp : Pool l) (g : Good l gv s) (hg : ∀ n : Nat, (n : Int) ∈ gv → n < l.length → at_ s.kn n = true) (hs : ∀ n, n < l.length → ShutAt l s.kn n) : s.kn = clo l gv := by
  refine bools_ext (by rw [g.len, length_clo]) fun n => ?_
  rw [clo_iff hp]
  refine ⟨fun h => g.sound hp h, fun h => fol_shut hg (fun m => ?_) h⟩
  rcases Nat.lt_or_ge m l.length with hm | hm
  · exact hs m hm
  · intro t ht
    rw [List.getElem?_eq_none hm] at ht
    cases ht
theorem Good.le (g : Good l gv s) : s.st.length ≤ l.length := by
  rw [g.cnt_, ← g.len]
  exact cnt_le _
theorem Good.start (n : Nat) (hn : n = l.length) : Good l gv ⟨List.replicate n false, []⟩ := by
  refine ⟨by simpa using hn, fun m => ?_, by simp [termsW], ?_, by simp, by simp⟩
  · have : at_ (List.replicate n false) m = false := by
      unfold at_
      rw [List.getD_eq_getElem?_getD, List.getElem?_replicate]
      split <;> rfl
    rw [this]
    simp [termsW]
  · simp [cnt, List.countP_replicate]
theorem Good.giv (g : Good l gv s) {x : Int} (hx : x ∈ gv) (h0 : 0 ≤ x) (h1 : x < l.length) : Good l gv (learnS s x.toNat 0 0) := by
  refine g.learn (by omega) ?_
  unfold rightW
  simp only [Int.toNat_natCast, List.getElem?_eq_getElem (show x.toNat < l.length by omega)]
  rw [if_neg (by omega), if_neg (by omega), if_neg (by simp), if_pos trivial]
  rw [Int.toNat_of_nonneg h0]
  simpa using hx
theorem learnS_at (s : Sr) (n : Nat) (h o : Int) (hn : n < s.kn.length) : at_ (learnS s n h o).kn n = true := by
  unfold learnS
  split
  · assumption
  · rw [at_set]; simp [hn]
theorem learnS_keep (s : Sr) (n : Nat) (h o : Int) {m : Nat} (hm : at_ s.kn m = true) : at_ (learnS s n h o).kn m = true := by
  unfold learnS
  split
  · exact hm
  · rw [at_set, hm]; rfl
theorem length_learnS (s : Sr) (n : Nat) (h o : Int) : (learnS s n h o).kn.length = s.kn.length := by
  unfold learnS
  split
  · rfl
  · simp
end
def keepS (a b : Sr) : Prop := ∀ m, at_ a.kn m = true → at_ b.kn m = true
theorem bodyS_keep (l : List Tm) (s : Sr) (n : Nat) : keepS s (bodyS l s n) := by
  have h1 : keepS s (apartS l s n) := fun m hm => by
    unfold apartS
    split
    · exact hm
    · split
      · exact learnS_keep _ _ _ _ (learnS_keep _ _ _ _ hm)
      · split
        · exact learnS_keep _ _ _ _ hm
        · exact hm
  have h2 : ∀ s, keepS s (togS l s n) := fun s m hm => by
    unfold togS
    split
    · exact hm
    · split
      · exact learnS_keep _ _ _ _ hm
      · split
        · exact learnS_keep _ _ _ _ hm
        · split
          · exact learnS_keep _ _ _ _ hm
          · exact hm
  intro m hm
  unfold bodyS
  split
  · exact h2 _ m (h1 m hm)
  · exact h2 _ m hm
end Go.Proofs.YtphhlfochapecaaDoor
