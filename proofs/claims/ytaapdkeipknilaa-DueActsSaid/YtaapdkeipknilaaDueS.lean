/-
  The plain law of a queue: a list in order, each bucket once.
-/
import Derived.Test.YtaapdkeipknilaaDueP
namespace Go.Proofs.Ytaapdkeipknilaa
set_option maxRecDepth 4000

def Sorted (S : List (Int × Int)) : Prop := S.Pairwise LE
def Apart (S : List (Int × Int)) : Prop := S.Pairwise (fun a b => a.2 ≠ b.2)
def hasB (S : List (Int × Int)) (x : Int) : Bool := S.any (fun e => e.2 == x)
theorem hasB_iff {S : List (Int × Int)} {x : Int} : hasB S x = true ↔ ∃ e ∈ S, e.2 = x := by
  simp [hasB]
theorem hasB_no {S : List (Int × Int)} {x : Int} : hasB S x = false ↔ ∀ e ∈ S, e.2 ≠ x := by
  simp [hasB]
def ins (d : Int × Int) : List (Int × Int) → List (Int × Int)
  | [] => [d]
  | x :: t => if LE d x then d :: x :: t else x :: ins d t
theorem ins_perm (d : Int × Int) : ∀ S, (ins d S).Perm (d :: S)
  | [] => .refl _
  | x :: t => by
      unfold ins
      split
      · exact .refl _
      · exact (List.Perm.cons x (ins_perm d t)).trans (List.Perm.swap d x t)
theorem ins_sorted {d : Int × Int} : ∀ {S}, Sorted S → Sorted (ins d S)
  | [], _ => List.pairwise_singleton _ _
  | x :: t, h => by
      unfold ins
      split
      · rename_i hd
        refine List.Pairwise.cons ?_ h
        intro y hy
        rcases List.mem_cons.1 hy with rfl | hy
        · exact hd
        · exact hd.trans (List.rel_of_pairwise_cons h hy)
      · rename_i hd
        refine List.Pairwise.cons ?_ (ins_sorted (List.Pairwise.of_cons h))
        intro y hy
        rcases List.mem_cons.1 ((ins_perm d t).mem_iff.1 hy) with rfl | hy
        · exact LE.of_not hd
        · exact List.rel_of_pairwise_cons h hy
theorem sorted_unique : ∀ {a b : List (Int × Int)}, Sorted a → Sorted b → a.Perm b → a = b
  | [], b, _, _, h => by have := h.length_eq; cases b with
                         | nil => rfl
                         | cons _ _ => simp at this
  | x :: a, [], _, _, h => by simp at h
  | x :: a, y :: b, ha, hb, h => by
      have hx : x ∈ y :: b := h.mem_iff.1 (List.mem_cons_self ..)
      have hy : y ∈ x :: a := h.mem_iff.2 (List.mem_cons_self ..)
      have e : x = y := by
        rcases List.mem_cons.1 hx with e | hx
        · exact e
        · rcases List.mem_cons.1 hy with e | hy
          · exact e.symm
          · exact LE.anti (List.rel_of_pairwise_cons ha hy) (List.rel_of_pairwise_cons hb hx)
      subst e
      rw [sorted_unique (List.Pairwise.of_cons ha) (List.Pairwise.of_cons hb) h.cons_inv]
theorem apart_perm {a b : List (Int × Int)} (h : a.Perm b) (ha : Apart a) : Apart b := (h.pairwise_iff (fun h => h.symm)).1 ha
theorem apart_ins {d : Int × Int} {S : List (Int × Int)} (h : Apart S) (hd : hasB S d.2 = false) : Apart (ins d S) :=
  apart_perm (ins_perm d S).symm (List.Pairwise.cons (fun y hy e => hasB_no.1 hd y hy e.symm) h)
def drp (S : List (Int × Int)) (x : Int) : List (Int × Int) := S.filter (fun e => e.2 != x)
theorem drp_sorted {S : List (Int × Int)} {x : Int} (h : Sorted S) : Sorted (drp S x) := List.Pairwise.filter _ h
theorem drp_apart {S : List (Int × Int)} {x : Int} (h : Apart S) : Apart (drp S x) := List.Pairwise.filter _ h
theorem drp_perm {S l' : List (Int × Int)} {e : Int × Int} (ha : Apart S) (h : (e :: l').Perm S) : l'.Perm (drp S e.2) := by
  have h1 : (drp (e :: l') e.2).Perm (drp S e.2) := h.filter _
  have hp := apart_perm h.symm ha
  have h2 : drp (e :: l') e.2 = l' := by
    unfold drp
    rw [List.filter_cons_of_neg (by simp)]
    exact List.filter_eq_self.2 fun y hy => by simpa using Ne.symm (List.rel_of_pairwise_cons hp hy)
  rwa [h2] at h1
theorem drp_none {S : List (Int × Int)} {x : Int} (h : hasB S x = false) : drp S x = S :=
  List.filter_eq_self.2 fun y hy => by simpa using hasB_no.1 h y hy
theorem heap_head {l : List (Int × Int)} {d : Int × Int} {t : List (Int × Int)} (hh : Hp l l.length) (hp : l.Perm (d :: t)) (hs : Sorted (d :: t)) : gg l 0 = d := by
  have h0 : 0 < l.length := by rw [hp.length_eq]; simp
  refine LE.anti ?_ ?_
  · have hd : d ∈ l := hp.mem_iff.2 (List.mem_cons_self ..)
    obtain ⟨i, hi, e⟩ := List.mem_iff_getElem.1 hd
    have := hh.min i hi
    rwa [gg_eq hi, e] at this
  · have hm : gg l 0 ∈ d :: t := hp.mem_iff.1 (by rw [gg_eq h0]; exact List.getElem_mem h0)
    rcases List.mem_cons.1 hm with e | hm
    · rw [e]; exact LE.refl _
    · exact List.rel_of_pairwise_cons hs hm
end Go.Proofs.Ytaapdkeipknilaa
