/-
  slices.SortFunc of dues by compare.
-/
import Derived.Test.YtaapdkeipknilaaDueQ
import Derived.Test.YtaapdkeipknilaaDueS
import Derived.Test.YtaapdkeipknilaaSort
import Derived.Shelf.SlSortCmp.WholeK
namespace Go.Proofs.Ytaapdkeipknilaa
set_option maxRecDepth 4000
open Go.RowKit Go.Shelf

theorem ltOf_cmpD (x y : Int × Int) : Go.Proofs.ltOf cmpD x y = decide (¬ LE y x) := by
  unfold Go.Proofs.ltOf
  exact decide_eq_decide.2 (cmpD_neg x y)
theorem swo_cmpD : Go.Sort.SWO (Go.Proofs.ltOf cmpD) where
  irrefl x := by rw [ltOf_cmpD]; simpa using LE.refl x
  trans x y z h1 h2 := by
    rw [ltOf_cmpD] at *
    simp at *
    exact fun h => h1 ((LE.of_not h2).trans h)
  ntrans x y z h1 h2 := by
    rw [ltOf_cmpD] at *
    simp at *
    exact h2.trans h1
theorem lays_cmpD (blk size : Nat) (w : World) : CmpLays Try.prog 23 #[] dcells 2 cmpD blk 0 size w :=
  fun _ _ _ _ x y => compare_grow x y _
theorem len64_zero (w : World) : Calls Try.prog 48 #[.int .u64 0] w fun e w' => e = .returned (.int .i64 0) ∧ w = w' := by
  go_enter Try.func48, Try.ntmps48
  go_wp2_with fail
  go_ret
  exact ⟨ret_int (by kernel_rfl), rfl⟩
theorem len_zero (w : World) : Calls Try.prog 37 #[.int .u64 0] w fun e w' => e = .returned (.int .i64 0) ∧ w = w' := by
  have H := Lib.hid len64_zero
  go_enter Try.func37, Try.ntmps37
  go_wp2_with fail
  refine (H.out _).mono ?_
  rintro e w2 ⟨rfl, rfl⟩
  go_wp2_with fail
  go_ret
  exact ⟨rfl, rfl⟩
theorem ins_zero (A : Option Addr) (c : Nat) (fv : Value) (w : World) : Calls Try.prog 39 #[.slice A 0 c, .int .i64 0, .int .i64 0, fv] w fun e w' => e = .returned (.tuple #[]) ∧ w = w' := by
  go_enter Try.func39, Try.ntmps39
  go_wp2_with fail
  refine wp_loop_rounds 1 ?_
  rw [rounds_succ]
  go_wp2_with fail
  refine bodyPost_end (results_none rfl _ _ _) rfl ?_
  exact ⟨rfl, rfl⟩
theorem pdq_zero (A : Option Addr) (c : Nat) (lim : Int) (fv : Value) (w : World) : Calls Try.prog 36 #[.slice A 0 c, .int .i64 0, .int .i64 0, .int .i64 lim, fv] w fun e w' => e = .returned (.tuple #[]) ∧ w = w' := by
  have H := Lib.hid ins_zero
  go_enter Try.func36, Try.ntmps36
  go_wp2_with fail
  refine wp_loop_rounds 1 ?_
  rw [rounds_succ]
  go_wp2_with fail
  refine (H.out _ _ _ _).mono ?_
  rintro e w2 ⟨rfl, rfl⟩
  go_wp2_with fail
  first | refine bodyPost_end (results_none rfl _ _ _) rfl ?_ | refine bodyPost_ret (results_none rfl _ _ _) rfl ?_
  exact ⟨rfl, rfl⟩
theorem sort_zero (A : Option Addr) (c : Nat) (fv : Value) (w : World) : Calls Try.prog 30 #[.slice A 0 c, fv] w fun e w' => e = .returned (.tuple #[]) ∧ w = w' := by
  have H1 := Lib.hid len_zero
  have H2 := Lib.hid pdq_zero
  go_enter Try.func30, Try.ntmps30
  go_wp2_with fail
  refine (H1.out _).mono ?_
  rintro e w2 ⟨rfl, rfl⟩
  go_wp2_with fail
  refine (H2.out _ _ _ _ _).mono ?_
  rintro e w2 ⟨rfl, rfl⟩
  go_wp2_with fail
  first | refine bodyPost_end (results_none rfl _ _ _) rfl ?_ | refine bodyPost_ret (results_none rfl _ _ _) rfl ?_
  exact ⟨rfl, rfl⟩
theorem sorted_of {d : Array (Int × Int)} {n : Nat} (hd : d.size = n) (h : Go.Sort.SortedIn (Go.Proofs.ltOf cmpD) 0 n d) : Sorted d.toList := by
  unfold Sorted
  rw [List.pairwise_iff_getElem]
  intro i j hi hj hij
  simp only [Array.length_toList] at hi hj
  have := h i j (Nat.zero_le _) hij (by omega)
  rw [ltOf_cmpD, getElem!_pos d i hi, getElem!_pos d j hj] at this
  simpa using this
theorem perm_of {d d' : Array (Int × Int)} (h : Go.Sort.PermIn 0 d.size d d') : d'.toList.Perm d.toList := by
  have := h.2.2
  rw [Array.toList_extract, Array.toList_extract] at this
  simp only [List.extract, Nat.sub_zero, List.drop_zero] at this
  rw [List.take_of_length_le (by simp [h.1]), List.take_of_length_le (by simp)] at this
  exact this
theorem sort_any (zs : List (Int × Int)) (v : Value) (base : Nat) (w : World) (h : w.ownsRow base 28 2 v zs.length (dcs zs)) (hl : zs.length ≤ 1000) (hb : base ≤ w.heap.size) :
    Calls Try.prog 30 #[v, .func (.func 23) #[] #[]] w fun e w' => e = .returned (.tuple #[]) ∧ ∃ S, w'.ownsRow base 28 2 v zs.length (dcs S) ∧ S.Perm zs ∧ Sorted S ∧ Below base w w' := by
  by_cases h0 : zs.length = 0
  · obtain rfl := List.eq_nil_of_length_eq_zero h0
    obtain ⟨A, c, rfl⟩ := own_shape h
    refine (sort_zero A c _ w).mono ?_
    rintro e w' ⟨rfl, rfl⟩
    exact ⟨rfl, [], h, .refl _, .nil, Below.refl _ _⟩
  · obtain ⟨g, c, rfl⟩ := own_first (own_base h (Nat.zero_le _)) (Nat.pos_of_ne_zero h0)
    have eg : ∀ args w, (callFunc 23 args).run Try.prog w = .ok (.enter 23 args) w := enters_of Try.func23 (by kernel_rfl) rfl
    have hcon := AnyQ.slices_SortFunc sortLays 2 Try.isAgg28 Try.sizeOf28 dcells dcells_length (fun x v hv => dcs_one [x] v (by simpa [dcs] using hv)) cmpD swo_cmpD 23 #[] g 0 c zs.toArray w eg (lays_cmpD g _ w) (holds_due rfl h) (h.lt g rfl).2 (by simp; omega)
    change Calls Try.prog 30 _ _ _ at hcon
    have hsz : zs.toArray.size = zs.length := by simp
    rw [hsz] at hcon
    refine hcon.mono ?_
    rintro e w' ⟨rfl, d', n, os, hp, hs, rfl⟩
    have hp' : Go.Sort.PermIn 0 zs.toArray.size zs.toArray d' := by rw [hsz]; exact hp
    have hd : d'.size = zs.length := by rw [hp.1, hsz]
    obtain ⟨o1, b1⟩ := sorted_world (m := n) (os := os) rfl (by omega) hd h
    exact ⟨rfl, d'.toList, o1, by simpa using perm_of hp', sorted_of hd hs, b1⟩
end Go.Proofs.Ytaapdkeipknilaa
