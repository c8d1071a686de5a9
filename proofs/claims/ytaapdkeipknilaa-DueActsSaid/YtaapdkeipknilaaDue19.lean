/-
  A queue and the document's list beside it.
-/
import Derived.Test.YtaapdkeipknilaaDue18
import Derived.Test.YtaapdkeipknilaaRest
namespace Go.Proofs.Ytaapdkeipknilaa
set_option maxRecDepth 4000
open Go.RowKit

theorem RAt.fr {w w' : World} {A : Option Addr} {c : Nat} {S : List (Int × Int)} {F : Nat → Prop} (h : RAt w A c S) (hf : Fr F w w') (hn : 0 < S.length → ∀ a, A = some a → ¬ F a.block) : RAt w' A c S := ⟨h.1.fr hf hn, h.2⟩
theorem RAt.below {w w' : World} {A : Option Addr} {c : Nat} {S : List (Int × Int)} (h : RAt w A c S) (hb : Below w.heap.size w w') : RAt w' A c S := ⟨h.1.below hb, h.2⟩
theorem RAt.nil (w : World) : RAt w none 0 [] := ⟨Sees.none_ _ _ _, Nat.le_refl _, .inl ⟨rfl, rfl⟩⟩
theorem RAt.of_own {w : World} {base : Nat} {A : Option Addr} {c : Nat} {S : List (Int × Int)} (h : w.ownsRow base 28 2 (.slice A S.length c) S.length (dcs S)) : RAt w A c S := by
  refine ⟨Sees.of_own h, ?_⟩
  rcases h.2 with ⟨e, e0⟩ | ⟨g, cap, cur, e, _, _, h1, _⟩
  · injection e with e1 e2 e3
    exact ⟨by omega, .inl ⟨e1, e3⟩⟩
  · injection e with e1 e2 e3
    exact ⟨by omega, .inr ⟨g, 0, e1⟩⟩
theorem RAt.tail {w : World} {g o c : Nat} {d : Int × Int} {S : List (Int × Int)} (h : RAt w (some ⟨g, o, none⟩) c (d :: S)) : RAt w (if c = 1 then some ⟨g, o, none⟩ else some ⟨g, o + 2, none⟩) (c - 1) S := by
  have h1 := sees_drop' h.1 1 (by simp) h.2.1
  have hl : (d :: S).length - 1 = S.length := by simp
  rw [hl] at h1
  refine ⟨by simpa using h1, ?_, ?_⟩
  · have := h.2.1
    simp only [List.length_cons] at this
    omega
  · split
    · exact .inr ⟨g, o, rfl⟩
    · exact .inr ⟨g, o + 2, rfl⟩

/-- The queue has S, the list has T. -/
structure LQ (W w : World) (q : Nat) (v : Value) (A : Option Addr) (c : Nat) (S T : List (Int × Int)) : Prop where
  q_ : QIn W w q v S
  r_ : RAt w A c T
  ap : 0 < T.length → ∀ a, A = some a → ¬ QF q v a.block
theorem LQ.lt {W w : World} {q : Nat} {v : Value} {A : Option Addr} {c : Nat} {S T : List (Int × Int)} (h : LQ W w q v A c S T) (h0 : 0 < T.length) : ∀ a, A = some a → a.block < w.heap.size := h.r_.1.lt h0 (by decide)
theorem LQ.below {W w w' : World} {q : Nat} {v : Value} {A : Option Addr} {c : Nat} {S T : List (Int × Int)} (h : LQ W w q v A c S T) (hb : Below w.heap.size w w') : LQ W w' q v A c S T := ⟨h.q_.below hb, h.r_.below hb, h.ap⟩
theorem LQ.qstep {W w w' : World} {q : Nat} {v : Value} {A : Option Addr} {c : Nat} {S S' T : List (Int × Int)} (h : LQ W w q v A c S T) (hs : Qs w w' q v S') : ∃ v', LQ W w' q v' A c S' T := by
  obtain ⟨v', q', f', n'⟩ := h.q_.step hs
  refine ⟨v', q', h.r_.fr f' h.ap, fun h0 a ha hq => ?_⟩
  rcases hq with rfl | hq
  · exact h.ap h0 a ha (.inl rfl)
  · rcases n' _ hq with h1 | h1
    · exact h.ap h0 a ha (.inr h1)
    · have := h.lt h0 a ha
      omega
theorem LQ.rstep {W w w' : World} {q : Nat} {v : Value} {A B : Option Addr} {c c' : Nat} {S T T' : List (Int × Int)} (h : LQ W w q v A c S T) (hb : Below w.heap.size w w') (hr : RAt w' B c' T') (hn : 0 < T'.length → ∀ a, B = some a → (0 < T.length ∧ A = some a) ∨ w.heap.size ≤ a.block) : LQ W w' q v B c' S T' := by
  refine ⟨h.q_.below hb, hr, fun h0 a ha hq => ?_⟩
  rcases hn h0 a ha with ⟨h1, h2⟩ | h1
  · exact h.ap h1 a h2 hq
  · have := h.q_.lt _ hq
    omega
theorem pushS_same {S : List (Int × Int)} {d : Int × Int} : (if hasB S d.2 then S else ins d S) = pushS S d := rfl
/-- The document's Push, beside the queue. -/
theorem lq_push {W w : World} {q : Nat} {v : Value} {A : Option Addr} {c : Nat} {S T : List (Int × Int)} (h : LQ W w q v A c S T) (hs : Sorted T) (hl : T.length ≤ 900) (d : Int × Int) :
    Calls Try.prog 15 #[.slice A T.length c, .agg #[.int .i64 d.1, .int .i64 d.2]] w fun e w' => ∃ B c', e = .returned (.tuple #[.slice B (pushS T d).length c', .bool (!hasB T d.2)]) ∧ LQ W w' q v B c' S (pushS T d) ∧ Below w.heap.size w w' := by
  refine (rpush_any A c T d w h.r_ hs hl).mono ?_
  rintro e w' ⟨B, c', rfl, hr, hb, hn⟩
  refine ⟨B, c', rfl, h.rstep hb hr (fun h0 a ha => ?_), hb⟩
  rcases hn a ha with h1 | h1
  · obtain ⟨e9, he9, _⟩ := hasB_iff.1 h1.1
    exact .inl ⟨List.length_pos_of_mem he9, h1.2⟩
  · exact .inr h1
/-- The document's Drop, beside the queue. -/
theorem lq_drop {W w : World} {q : Nat} {v : Value} {A : Option Addr} {c : Nat} {S T : List (Int × Int)} (h : LQ W w q v A c S T) (hl : T.length ≤ 900) (x : Int) :
    Calls Try.prog 16 #[.slice A T.length c, .int .i64 x] w fun e w' => ∃ B c', e = .returned (.tuple #[.slice B (drp T x).length c', .bool (hasB T x)]) ∧ LQ W w' q v B c' S (drp T x) ∧ Below w.heap.size w w' := by
  refine (rdrop_any A c T x w h.r_.1 (by omega)).mono ?_
  rintro e w' ⟨B, c', rfl, ho, hb⟩
  refine ⟨B, c', rfl, h.rstep hb (RAt.of_own ho) (fun h0 a ha => .inr ?_), hb⟩
  obtain ⟨g, _, _, e, hg, _⟩ := own_open ho h0
  injection e with e _ _
  rw [ha] at e
  injection e with e
  rw [e]
  exact hg

theorem acts_start (W w : World) (q : Nat) (v : Value) (S : List (Int × Int)) (h : QIn W w q v S) : LQ W w q v none 0 S [] := ⟨h, RAt.nil w, fun h => by simp at h⟩
theorem ans_push (S : List (Int × Int)) (d : Int × Int) : (!hasB S d.2 != !hasB S d.2) = false := by cases hasB S d.2 <;> rfl
theorem LQ.tail1 {W w : World} {q : Nat} {v : Value} {g o c : Nat} {S T : List (Int × Int)} {d : Int × Int} (h : LQ W w q v (some ⟨g, o, none⟩) c S (d :: T)) (hc : c = 1) : LQ W w q v (some ⟨g, o, none⟩) 0 S T := by
  have hr := RAt.tail h.r_
  rw [if_pos hc, hc] at hr
  exact ⟨h.q_, hr, fun _ a ha => h.ap (by simp) a ha⟩
theorem LQ.tail2 {W w : World} {q : Nat} {v : Value} {g o c : Nat} {S T : List (Int × Int)} {d : Int × Int} (h : LQ W w q v (some ⟨g, o, none⟩) c S (d :: T)) (hc : ¬ c = 1) : LQ W w q v (some ⟨g, o + 2, none⟩) (c - 1) S T := by
  have hr := RAt.tail h.r_
  rw [if_neg hc] at hr
  refine ⟨h.q_, hr, fun _ a ha => ?_⟩
  have := h.ap (by simp) _ rfl
  injection ha with ha
  subst ha
  exact this
/-- The queue's length, beside the list. -/
theorem lq_len {W w : World} {q : Nat} {v : Value} {A : Option Addr} {c : Nat} {S T : List (Int × Int)} (h : LQ W w q v A c S T) :
    Calls Try.prog 14 #[.pointer (some ⟨q, 0, none⟩)] w fun e w' => e = .returned (.int .i64 S.length) ∧ w = w' := by
  obtain ⟨l, h1, _, h3, _⟩ := h.q_.at_
  have := qlen_any q v l w h1
  rwa [h3.length_eq] at this
theorem lq_next_none {W w : World} {q : Nat} {v : Value} {A : Option Addr} {c : Nat} {T : List (Int × Int)} (h : LQ W w q v A c [] T) :
    Calls Try.prog 13 #[.pointer (some ⟨q, 0, none⟩)] w fun e w' => e = .returned (.tuple #[.agg #[.int .i64 0, .int .i64 0], .bool false]) ∧ Below w.heap.size w w' := by
  obtain ⟨l, h1, _, h3, _⟩ := h.q_.at_
  obtain rfl := h3.eq_nil
  exact qnext_none q v w h1
theorem lq_next_some {W w : World} {q : Nat} {v : Value} {A : Option Addr} {c : Nat} {d : Int × Int} {S T : List (Int × Int)} (h : LQ W w q v A c (d :: S) T) (hl : (d :: S).length ≤ 900) :
    Calls Try.prog 13 #[.pointer (some ⟨q, 0, none⟩)] w fun e w' => e = .returned (.tuple #[.agg #[.int .i64 d.1, .int .i64 d.2], .bool true]) ∧ Below w.heap.size w w' := by
  obtain ⟨l, h1, h2, h3, h4, _⟩ := h.q_.at_
  have := qnext_some q v l w h1 (by rw [h3.length_eq]; simp) (by rw [h3.length_eq]; omega)
  rwa [heap_head h2 h3 h4] at this
end Go.Proofs.Ytaapdkeipknilaa
