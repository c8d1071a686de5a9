/-
  Path; the example.
-/
import Derived.Test.YtcmdlaikdpiemaaDoorSh2
namespace Go.Proofs.YtcmdlaikdpiemaaDoor
open Go.RowKit

def pathF : Nat → Int → Int → List Int
  | 0, _, _ => []
  | f + 1, n, l => if (above n l).2 = true then (above n l).1 :: pathF f (above n l).1 l else []
def path (leaf l : Int) : List Int := if fits l = true ∧ 0 ≤ leaf ∧ leaf < l then pathF 7 (2 * leaf) l else []
def sizes : List Int := [1, 2, 4, 8, 16, 32]
theorem mem_sizes {l : Int} (h : fits l = true) : l ∈ sizes := by
  have := of_decide_eq_true h
  simp [sizes]
  exact this
theorem up_all : (sizes.all fun l => (List.range 63).all fun n => !(above n l).2 || (decide (0 ≤ (above n l).1) && decide ((above n l).1 ≤ 62) && decide (level (above n l).1 = level n + 1))) = true := by decide +kernel
theorem up_fact (n l : Int) (hl : fits l = true) (h0 : 0 ≤ n) (h1 : n ≤ 62) (ha : (above n l).2 = true) : 0 ≤ (above n l).1 ∧ (above n l).1 ≤ 62 ∧ level (above n l).1 = level n + 1 := by
  have h := List.all_eq_true.1 up_all l (mem_sizes hl)
  have h := List.all_eq_true.1 h n.toNat (List.mem_range.2 (by omega))
  rw [show ((n.toNat : Nat) : Int) = n by omega] at h
  simp only [Bool.or_eq_true, Bool.and_eq_true, decide_eq_true_eq, ha, Bool.not_true, Bool.false_eq_true, false_or] at h
  exact ⟨h.1.1, h.1.2, h.2⟩
theorem even_level : ((List.range 32).all fun n => decide (level (2 * (n : Int)) = 0)) = true := by decide +kernel

def isT : Value → Bool | .bool b => b | _ => false
/-- What is still to come of a path. -/
def tailP (b : Bool) (n l : Int) : List Int := if b = true then n :: pathF (7 - (level n).toNat) n l else []
theorem tailP_step (n l : Int) (hl : fits l = true) (h0 : 0 ≤ n) (h1 : n ≤ 62) : pathF (7 - (level n).toNat) n l = tailP (above n l).2 (above n l).1 l := by
  have hc := level_cases n
  obtain ⟨f, hf⟩ : ∃ f, 7 - (level n).toNat = f + 1 := ⟨6 - (level n).toNat, by omega⟩
  rw [hf]
  have hp : pathF (f + 1) n l = if (above n l).2 = true then (above n l).1 :: pathF f (above n l).1 l else [] := rfl
  rw [hp]
  unfold tailP
  by_cases ha : (above n l).2 = true
  · have := (up_fact n l hl h0 h1 ha).2.2
    rw [if_pos ha, if_pos ha]
    have e : 7 - (level (above n l).1).toNat = f := by omega
    rw [e]
  · rw [if_neg ha, if_neg ha]

theorem above_unfit (n l : Int) (h : fits l = false) : above n l = (0, false) := by
  have hw : width l = 0 := by unfold width; rw [if_neg (by rw [h]; simp)]
  unfold above
  rw [hw, if_pos (by omega)]

set_option maxHeartbeats 1000000 in
theorem path_any (leaf l : Int) (w : World) (hT : Tab w) (hT0 : 1 < w.heap.size) (hl1 : -9223372036854775808 ≤ l) (hl2 : l ≤ 9223372036854775807) :
    Calls Tryd.prog 21 #[.int .i64 leaf, .int .i64 l] w fun e w' => (∃ v, e = .returned v ∧ w'.ownsRow w.heap.size 3 1 v (path leaf l).length (i64s (path leaf l))) ∧ Below w.heap.size w w' := by
  by_cases h0 : leaf < 0
  · have hp : path leaf l = [] := if_neg (by omega)
    rw [hp]
    clear hp
    go_enter Tryd.func21, Tryd.ntmps21
    go_wp2_with fail
    go_ret
    exact ⟨⟨_, rfl, World.ownsRow_nil _ _ _ _⟩, Below.refl _ _⟩
  · by_cases h1 : l ≤ leaf
    · have hp : path leaf l = [] := if_neg (by omega)
      rw [hp]
      clear hp
      go_enter Tryd.func21, Tryd.ntmps21
      go_wp2_with fail
      go_ret
      exact ⟨⟨_, rfl, World.ownsRow_nil _ _ _ _⟩, Below.refl _ _⟩
    · cases hf : fits l with
      | false =>
        have hp : path leaf l = [] := if_neg (by rw [hf]; simp)
        rw [hp]
        have ha : ∀ n, Calls Tryd.prog 17 #[.int .i64 n, .int .i64 l] w fun e w' => e = .returned (.tuple #[.int .i64 0, .bool false]) ∧ w = w' := fun n => by
          have := above_any n l w hT hl1 hl2
          rw [above_unfit n l hf] at this
          exact this
        have HA := Lib.hid ha; clear ha
        clear hp hf
        go_enter Tryd.func21, Tryd.ntmps21
        go_wp2_with fail
        refine (HA.out _).mono ?_
        rintro e w' ⟨rfl, rfl⟩
        go_wp2_with fail
        refine wp_loop_rounds 1 ?_
        rw [rounds_succ]
        go_wp2_with fail
        go_ret
        exact ⟨⟨_, rfl, World.ownsRow_nil _ _ _ _⟩, Below.refl _ _⟩
      | true =>
        have hp : path leaf l = pathF 7 (2 * leaf) l := if_pos ⟨hf, by omega, by omega⟩
        have hr := of_decide_eq_true hf
        have hl32 : l ≤ 32 := by omega
        have hev := of_decide_eq_true (List.all_eq_true.1 even_level leaf.toNat (List.mem_range.2 (by omega)))
        rw [show ((leaf.toNat : Nat) : Int) = leaf by omega] at hev
        have hp2 : path leaf l = tailP (above (2 * leaf) l).2 (above (2 * leaf) l).1 l := by
          rw [hp, ← tailP_step (2 * leaf) l hf (by omega) (by omega), hev]
          rfl
        have hu := up_fact (2 * leaf) l hf (by omega) (by omega)
        have ha := above_any (2 * leaf) l w hT hl1 hl2
        obtain ⟨PT, hPT⟩ : ∃ PT, PT = path leaf l := ⟨_, rfl⟩
        rw [← hPT] at hp2 ⊢
        obtain ⟨⟨u, b⟩, hub⟩ : ∃ u, u = above (2 * leaf) l := ⟨_, rfl⟩
        rw [← hub] at ha hp2 hu
        simp only at ha hp2 hu
        have hlen : PT.length ≤ 8 := by
          have hpf : ∀ f n, (pathF f n l).length ≤ f := by
            intro f
            induction f with
            | zero => intro n; simp [pathF]
            | succ f ih => intro n; unfold pathF; split <;> simp; exact ih _
          rw [hPT, hp]
          exact Nat.le_trans (hpf 7 _) (by omega)
        have HU := Lib.hid hu; clear hu
        have HA := Lib.hid ha; clear ha
        have HP2 := Lib.hid hp2; clear hp2
        have HF := Lib.hid hf; clear hf
        have HLEN := Lib.hid hlen; clear hlen
        clear hp hPT hub hev hr
        go_enter Tryd.func21, Tryd.ntmps21
        go_wp2_with fail
        refine HA.out.mono ?_
        rintro e w' ⟨rfl, rfl⟩
        go_wp2_with fail
        go_loopw [5, 6, 7] (fun v n ok wr => ∃ (acc : List Int) (x : Int) (c : Bool), n = .int .i64 x ∧ ok = .bool c ∧ wr.ownsRow w.heap.size 3 1 v acc.length (i64s acc) ∧ Below w.heap.size w wr ∧ PT = acc ++ tailP c x l ∧ (c = true → 0 ≤ x ∧ x ≤ 62))
          (fun _ n ok _ => if isT ok = true then 8 - (level (intOf n)).toNat else 0)
        case atStart => exact ⟨[], u, b, rfl, rfl, World.ownsRow_nil _ _ _ _, Below.refl _ _, HP2.out, fun hb => ⟨(HU.out hb).1, (HU.out hb).2.1⟩⟩
        case round =>
          obtain ⟨acc, x, c, rfl, rfl, hown, hbr, hpt, hin⟩ := hrel
          have HPT := Lib.hid hpt; clear hpt
          cases c with
          | false =>
            have HIN := Lib.hid hin; clear hin
            go_wp2_with fail
            go_ret
            have e : PT = acc := by rw [HPT.out]; simp [tailP]
            rw [e]
            exact ⟨⟨_, rfl, hown⟩, hbr⟩
          | true =>
            obtain ⟨hx0, hx1⟩ := hin rfl
            clear hin
            have hacc : acc.length ≤ 7 := by
              have h1 := congrArg List.length HPT.out
              have h2 := HLEN.out
              simp [tailP] at h1
              omega
            have hTr : Tab wr := hT.below hbr hT0
            have ha := above_any x l
            obtain ⟨⟨y, d⟩, hyd⟩ : ∃ u, u = above x l := ⟨_, rfl⟩
            have hup := up_fact x l HF.out hx0 hx1
            have htl := tailP_step x l HF.out hx0 hx1
            rw [← hyd] at ha hup htl
            simp only at ha hup htl
            have HAX := Lib.hid ha; clear ha
            have HUP := Lib.hid hup; clear hup
            have HTL := Lib.hid htl; clear htl
            clear hyd
            go_wp2_with (at_builtin; refine wpList_app rfl (.tmp 29) (.tmp 31) _ rfl w.heap.size 3 _ 1 8 Tryd.underlying33 info_int rfl (by decide) u5 acc.length (i64s acc) rfl (own_below hown ((Below.refl _ _).alloc (Nat.le_refl _) _)) _ 1 _ [.int .i64 x] rfl (sees_new wr _ [.int .i64 x] 1 1 rfl) (by simp [Value.oneCell']) (by unfold maxLen; omega) (by omega) (by have := hbr.size; simp; omega) ?_; intro v' w1 hown1 hgr1 hat1 hnil1)
            have hb1 : Below w.heap.size w w1 := by
              refine (hbr.alloc hbr.size _).grown hgr1 (by have := hbr.size; simp; omega) (fun k hk => ?_)
              exact (hown.lt k hk).1
            have hT1 : Tab w1 := hT.below hb1 hT0
            go_wp2_with fail
            refine (HAX.out w1 hT1 hl1 hl2).mono ?_
            rintro e w' ⟨rfl, rfl⟩
            go_wp2_with fail
            go_roundw
            case rel =>
              refine ⟨acc ++ [x], y, d, rfl, rfl, ?_, hb1, ?_, fun hd => ⟨(HUP.out hd).1, (HUP.out hd).2.1⟩⟩
              · rw [List.length_append, i64s_append]; exact hown1
              · have h1 := HPT.out
                rw [h1]
                show acc ++ (x :: pathF (7 - (level x).toNat) x l) = _
                rw [HTL.out]
                simp
            case measure =>
              show (if d = true then 8 - (level y).toNat else 0) < 8 - (level x).toNat
              have hc := level_cases x
              split
              · rename_i hd
                have := (HUP.out hd).2.2
                omega
              · omega
end Go.Proofs.YtcmdlaikdpiemaaDoor
