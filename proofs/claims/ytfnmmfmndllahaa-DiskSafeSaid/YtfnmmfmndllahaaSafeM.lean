/-
  What flushed sectors keep behind a crash: plain.
-/
import Derived.Test.YtfnmmfmndllahaaDisk6
namespace Go.Proofs.Ytfnmmfmndllahaa

/-- Writes of one sector each: the i-th goes to l[i] mod 8, full of c + i. -/
def sec (c i : Nat) : List UInt8 := List.replicate 128 (UInt8.ofNat (c + i))
def wroteTo (D : Dk) (c : Nat) (l : List UInt8) : Nat → Dk
  | 0 => D
  | k + 1 => (wroteTo D c l k).push ((l.getD k 0).toNat % 8) (sec c k) 1

theorem sect_sec (c i : Nat) : sect (sec c i) 0 = sec c i := by
  simp only [sect, sec, Nat.zero_mul, List.drop_zero]
  exact List.take_of_length_le (by rw [List.length_replicate]; exact Nat.le_refl _)
theorem parts_one (a : Nat) (l : List UInt8) : parts a l 1 = [(a, sect l 0)] := by simp [parts, List.range_succ]
theorem nextCalls_neg {k : Int} (h : k = -1) : nextCalls k = -1 := by subst h; rfl

theorem wroteTo_safe (D : Dk) (c : Nat) (l : List UInt8) (k : Nat) : (wroteTo D c l k).safe = D.safe := by
  induction k with
  | zero => rfl
  | succ k ih => exact ih
theorem wroteTo_calls (D : Dk) (c : Nat) (l : List UInt8) (h : D.calls = -1) (k : Nat) : (wroteTo D c l k).calls = -1 := by
  induction k with
  | zero => exact h
  | succ k ih => exact nextCalls_neg ih
theorem wroteTo_queue (D : Dk) (c : Nat) (l : List UInt8) (k : Nat) : (wroteTo D c l k).queue = D.queue ++ (List.range k).map fun i => ((l.getD i 0).toNat % 8, sec c i) := by
  induction k with
  | zero => simp [wroteTo]
  | succ k ih =>
    have : (wroteTo D c l (k + 1)).queue = (wroteTo D c l k).queue ++ parts ((l.getD k 0).toNat % 8) (sec c k) 1 := rfl
    rw [this, ih, parts_one, sect_sec, List.range_succ, List.map_append, List.append_assoc]
    rfl
theorem wroteTo_ok {D : Dk} (h : D.Ok) (hs : D.safe.length = 1024) (c : Nat) (l : List UInt8) (k : Nat) : (wroteTo D c l k).Ok := by
  induction k with
  | zero => exact h
  | succ k ih => exact ih.push _ _ 1 (by simp [sec]) (by rw [wroteTo_safe, hs]; omega)

theorem sect_length (l : List UInt8) (s : Nat) (h : (s + 1) * 128 ≤ l.length) : (sect l s).length = 128 := length_sect l s h

/-- A sector behind a put. -/
theorem sect_put (l : List UInt8) (a s : Nat) (b : List UInt8) (hb : b.length = 128) (ha : (a + 1) * 128 ≤ l.length) (hs : (s + 1) * 128 ≤ l.length) : sect (put l (a, b)) s = if a = s then b else sect l s := by
  have hl : (put l (a, b)).length = l.length := length_put l (a, b) hb ha
  apply List.ext_getElem?
  intro i
  by_cases hi : i < 128
  · have e1 : (sect (put l (a, b)) s)[i]? = (put l (a, b))[s * 128 + i]? := by simp [sect, List.getElem?_take, hi, List.getElem?_drop]
    have e2 : (sect l s)[i]? = l[s * 128 + i]? := by simp [sect, List.getElem?_take, hi, List.getElem?_drop]
    rw [e1]
    have e3 : (put l (a, b))[s * 128 + i]? = if a * 128 ≤ s * 128 + i ∧ s * 128 + i < a * 128 + 128 then b[s * 128 + i - a * 128]? else l[s * 128 + i]? := by
      show (splice l (a * 128) b)[s * 128 + i]? = _
      unfold splice
      have h1 : (l.take (a * 128)).length = a * 128 := by simp; omega
      by_cases h2 : s * 128 + i < a * 128
      · rw [if_neg (by omega), List.getElem?_append_left (by omega), List.getElem?_take, if_pos h2]
      · rw [List.getElem?_append_right (by omega), h1]
        by_cases h3 : s * 128 + i < a * 128 + 128
        · rw [if_pos (by omega), List.getElem?_append_left (by omega)]
        · rw [if_neg (by omega), List.getElem?_append_right (by omega), List.getElem?_drop, hb]
          have e : a * 128 + 128 + (s * 128 + i - a * 128 - 128) = s * 128 + i := by omega
          rw [e]
    rw [e3]
    by_cases h : a = s
    · subst h
      rw [if_pos (by omega), if_pos rfl]
      have e : a * 128 + i - a * 128 = i := by omega
      rw [e]
    · rw [if_neg (by omega), if_neg h, e2]
  · have h1 := sect_length (put l (a, b)) s (by rw [hl]; exact hs)
    have h2 := sect_length l s hs
    rw [List.getElem?_eq_none (by omega)]
    split
    · rw [List.getElem?_eq_none (by omega)]
    · rw [List.getElem?_eq_none (by omega)]

/-- Behind a crash each sector has one of its writes, or what it had. -/
theorem crash_sect (D : Dk) (hok : D.Ok) (keep : List Int) (s : Nat) (hs : (s + 1) * 128 ≤ D.safe.length) :
    sect (D.crashed keep).safe s = sect D.safe s ∨ ∃ q ∈ D.queue, q.1 = s ∧ sect (D.crashed keep).safe s = q.2 := by
  suffices h : ∀ (l : List Int) (st : List UInt8 × List Int), st.1.length = D.safe.length → (sect st.1 s = sect D.safe s ∨ ∃ q ∈ D.queue, q.1 = s ∧ sect st.1 s = q.2) →
      (sect (l.foldl (crashF D.queue) st).1 s = sect D.safe s ∨ ∃ q ∈ D.queue, q.1 = s ∧ sect (l.foldl (crashF D.queue) st).1 s = q.2) from h keep _ rfl (.inl rfl)
  intro l
  induction l with
  | nil => intro st _ h; exact h
  | cons k l ih =>
    intro st hl h
    refine ih _ ?_ ?_
    · unfold crashF
      split
      · rename_i x hx
        split
        · have := hok.fits x (List.mem_of_getElem? hx)
          show (put st.1 x).length = _
          rw [length_put _ _ this.1 (by rw [hl]; exact this.2), hl]
        · exact hl
      · exact hl
    · unfold crashF
      split
      · rename_i x hx
        split
        · have hm := List.mem_of_getElem? hx
          have hf := hok.fits x hm
          obtain ⟨xa, xb⟩ := x
          show sect (put st.1 (xa, xb)) s = _ ∨ ∃ q ∈ D.queue, q.1 = s ∧ sect (put st.1 (xa, xb)) s = q.2
          rw [sect_put st.1 xa s xb hf.1 (by rw [hl]; exact hf.2) (by rw [hl]; exact hs)]
          by_cases e : xa = s
          · rw [if_pos e]
            exact .inr ⟨_, hm, e, rfl⟩
          · rw [if_neg e]
            exact h
        · exact h
      · exact h

/-- The law's test of sector s, with the first k of the writes since. -/
def safeAny (now : List UInt8) (since : List UInt8) (s k : Nat) : Bool := (List.range k).any fun i => decide ((since.getD i 0).toNat % 8 = s) && decide (sect now s = sec 100 i)
theorem safeAny_succ (now since : List UInt8) (s k : Nat) : safeAny now since s (k + 1) = (safeAny now since s k || (decide ((since.getD k 0).toNat % 8 = s) && decide (sect now s = sec 100 k))) := by
  simp [safeAny, List.range_succ]

theorem safe_law (D : Dk) (hok : D.Ok) (hq : D.queue = []) (hs : D.safe.length = 1024) (since : List UInt8) (keep : List Int) (s : Nat) (h8 : s < 8) :
    (decide (sect ((wroteTo D 100 since since.length).crashed keep).image s = sect D.image s) || safeAny ((wroteTo D 100 since since.length).crashed keep).image since s since.length) = true := by
  have hwok := wroteTo_ok hok hs 100 since since.length
  have h := crash_sect _ hwok keep s (by rw [wroteTo_safe, hs]; omega)
  rw [wroteTo_safe, wroteTo_queue, hq, List.nil_append] at h
  have hi : D.image = D.safe := by rw [Dk.image, hq]; rfl
  have hi2 : ((wroteTo D 100 since since.length).crashed keep).image = ((wroteTo D 100 since since.length).crashed keep).safe := rfl
  rw [hi, hi2]
  rcases h with h | ⟨q, hq, h1, h2⟩
  · simp [h]
  · obtain ⟨i, hi, rfl⟩ := List.mem_map.1 hq
    rw [Bool.or_eq_true]
    refine .inr ?_
    unfold safeAny
    rw [List.any_eq_true]
    exact ⟨i, hi, by rw [Bool.and_eq_true]; exact ⟨decide_eq_true h1, decide_eq_true h2⟩⟩
end Go.Proofs.Ytfnmmfmndllahaa
