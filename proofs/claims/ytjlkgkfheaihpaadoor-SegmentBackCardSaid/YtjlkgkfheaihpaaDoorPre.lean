/-
  bytes.HasPrefix, bytes.Clone.
-/
import Derived.Test.YtjlkgkfheaihpaaDoorEye
namespace Go.Proofs.YtjlkgkfheaihpaaDoor
set_option maxRecDepth 4000
open Go.RowKit

/-- Do octets begin with others? -/
def pref (l q : List UInt8) : Bool := decide (l.take q.length = q)
theorem prefix_any (l q : List UInt8) (ad : Addr) (B : Option Addr) (n c m c' : Nat) (w : World) (hA : Sees w 1 (some ad) n (u8s l)) (hB : Sees w 1 B m (u8s q)) (hl : l.length = n) (hq : q.length = m) (hnc : n ≤ c) :
    Calls Tryd.prog 40 #[.slice (some ad) n c, .slice B m c'] w fun e w' => e = .returned (.bool (pref l q)) ∧ w = w' := by
  by_cases hmn : m ≤ n
  · have hA2 : Sees w 1 (some ad) m (u8s (l.take m)) := by
      refine ⟨by simp [hl]; omega, fun hm => ?_⟩
      obtain ⟨g, off, e, hc⟩ := hA.2 (by omega)
      refine ⟨g, off, e, fun j u hu => hc j u ?_⟩
      rw [u8s_take, List.getElem?_take] at hu
      split at hu
      · exact hu
      · cases hu
    have HE := Lib.hid (equal_any (l.take m) q (some ad) B m c m c' w hA2 hB)
    have hp : decide (l.take m = q) = pref l q := by rw [pref, hq]
    rw [hp] at HE
    have hi : (m : Int) ≤ (n : Int) := by omega
    have hi2 : (m : Int) ≤ (c : Int) := by omega
    have hi3 : m ≤ c := by omega
    clear hA hB hA2 hp hl hq
    go_enter Tryd.func40, Tryd.ntmps40
    go_wp2_with fail
    refine HE.out.mono ?_
    rintro e w' ⟨rfl, rfl⟩
    go_wp2_with fail
    go_ret
    exact ⟨rfl, rfl⟩
  · have hi : ¬ ((m : Int) ≤ (n : Int)) := by omega
    have hp : pref l q = false := by
      rw [pref, decide_eq_false_iff_not]
      intro e
      have := congrArg List.length e
      rw [List.length_take, hl, hq] at this
      omega
    have HP := Lib.hid hp; clear hp hA hB hl hq
    go_enter Tryd.func40, Tryd.ntmps40
    go_wp2_with fail
    go_ret
    exact ⟨ret_bool (by rw [HP.out]), rfl⟩

theorem bclone_any (ad : Addr) (n c : Nat) (xs : List Value) (w : World) (hr : Sees w 1 (some ad) n xs) (h1 : ∀ u ∈ xs, u.oneCell' = true) (hn : n ≤ 140737488355328) :
    Calls Tryd.prog 29 #[.slice (some ad) n c] w fun e w' => ∃ v, e = .returned v ∧ w'.ownsRow w.heap.size 5 1 v n xs ∧ Below w.heap.size w w' := by
  have q : ∀ (w : World) (a : Option Addr) (n c n' c' : Nat), (binOp .eql 22 (.slice a n c) (.slice none n' c')).run Tryd.prog w = .ok (.bool a.isNone) w := fun w a n c n' c' => Lib.run_eql_slice_nil w _ _ a n c n' c' Tryd.underlying22
  have hr1 : Sees (w.alloc (.cells #[] 5)) 1 (some ad) n xs := hr.below ((Below.refl _ _).alloc (Nat.le_refl _) _)
  go_enter Tryd.func29, Tryd.ntmps29
  go_wp2_with (at_builtin; refine wpList_app rfl (.tmp 5) (.tmp 6) _ rfl w.heap.size 5 _ 1 1 Tryd.underlying22 info_byte rfl (by decide) (.slice (some ⟨w.heap.size, 0, none⟩) 0 0) 0 [] rfl (World.ownsRow_made w #[] 0 (Nat.le_refl _) (Nat.zero_le _) rfl) _ n c xs rfl hr1 h1 (by unfold maxLen; omega) (by omega) (by simp) ?_; intro v' w1 hown hgrow hat hnil)
  go_ret
  refine ⟨v', rfl, by simpa using hown, ?_⟩
  exact ((Below.refl _ w).alloc (Nat.le_refl _) _).grown hgrow (by simp) (by intro k hk; simp [Value.ownBlock] at hk; omega)
end Go.Proofs.YtjlkgkfheaihpaaDoor
