/-
  List.
-/
import Derived.Test.YtaapdkeipknilaaDueSort
namespace Go.Proofs.Ytaapdkeipknilaa
set_option maxRecDepth 4000
open Go.RowKit Go.Shelf

theorem collect_any (Bs : Nat) (v : Value) (zs : List (Int × Int)) (hlen : zs.length ≤ 1000) (w : World) (hBs : Bs < w.heap.size) (hc : w.cell? ⟨Bs, 0, none⟩ = some v) (ho : w.ownsRow 0 28 2 v zs.length (dcs zs)) :
    Calls Try.prog 29 #[.func (.func 31) #[] #[.pointer (some ⟨Bs, 0, none⟩)]] w fun e w' => ∃ A c, e = .returned (.slice A zs.length c) ∧ w'.ownsRow w.heap.size 28 2 (.slice A zs.length c) zs.length (dcs zs) ∧ Below w.heap.size w w' := by
  have HA := Lib.hid (callsIn_wide.1 (appendSeq_in Fence.wide 3 trivial trivial rfl (Nat.le_refl _) Bs v zs hlen w hBs hc ho))
  clear hc ho
  go_enter Try.func29, Try.ntmps29
  go_wp2_with fail
  refine HA.out.mono ?_
  rintro e w2 ⟨u, rfl, hu, hb⟩
  obtain ⟨A, c, rfl⟩ := own_shape hu
  have HU := Lib.hid (And.intro hu hb)
  clear hu hb
  go_wp2_with fail
  go_ret
  exact ⟨A, c, rfl, HU.out⟩
theorem sortedFunc_any (Bs : Nat) (v : Value) (zs : List (Int × Int)) (hlen : zs.length ≤ 1000) (w : World) (hBs : Bs < w.heap.size) (hc : w.cell? ⟨Bs, 0, none⟩ = some v) (ho : w.ownsRow 0 28 2 v zs.length (dcs zs)) :
    Calls Try.prog 21 #[.func (.func 31) #[] #[.pointer (some ⟨Bs, 0, none⟩)], .func (.func 23) #[] #[]] w fun e w' => ∃ A c S, e = .returned (.slice A zs.length c) ∧ w'.ownsRow w.heap.size 28 2 (.slice A zs.length c) zs.length (dcs S) ∧ S.Perm zs ∧ Sorted S ∧ Below w.heap.size w w' := by
  have HA := Lib.hid (collect_any Bs v zs hlen w hBs hc ho)
  clear hc ho
  go_enter Try.func21, Try.ntmps21
  go_wp2_with fail
  refine HA.out.mono ?_
  rintro e w2 ⟨A, c, rfl, hu, hb⟩
  have HU := Lib.hid (And.intro hu hb)
  clear hu hb
  go_wp2_with fail
  refine (sort_any zs _ w.heap.size w2 HU.out.1 hlen HU.out.2.size).mono ?_
  rintro e w3 ⟨rfl, S, h1, h2, h3, h4⟩
  have H3 := Lib.hid (And.intro h1 (And.intro h2 (And.intro h3 (HU.out.2.trans h4))))
  clear h1 h2 h3 h4
  go_wp2_with fail
  go_ret
  exact ⟨A, c, S, rfl, H3.out⟩
theorem list_any (q : Nat) (v : Value) (S : List (Int × Int)) (w : World) (h : QAt w q v S) (hl : S.length ≤ 900) :
    Calls Try.prog 10 #[.pointer (some ⟨q, 0, none⟩)] w fun e w' => ∃ A c, e = .returned (.slice A S.length c) ∧ w'.ownsRow w.heap.size 28 2 (.slice A S.length c) S.length (dcs S) ∧ Below w.heap.size w w' := by
  obtain ⟨l, h1, h2, h3, h4, h5⟩ := h
  obtain ⟨A, c, rfl⟩ := h1.shape
  have hlen := h3.length_eq
  have hc := h1.cell
  have hb : Below w.heap.size w (w.alloc (.cells #[.slice A l.length c] 46)) := (Below.refl _ _).alloc (Nat.le_refl _) _
  have HS := Lib.hid (sortedFunc_any w.heap.size (.slice A l.length c) l (by omega) (w.alloc (.cells #[.slice A l.length c] 46)) (by simp) ((Blk.new w 46 #[.slice A l.length c]).cell 0) (own_below h1.row hb))
  have HB := Lib.hid hb
  have HV := Lib.hid (values_any (.slice A l.length c) A l.length c w)
  have HP := Lib.hid (And.intro h3 (And.intro h4 hlen))
  clear h1 h2 h3 h4 h5 hb hlen
  go_enter Try.func10, Try.ntmps10
  go_wp2_with fail
  refine HV.out.mono ?_
  rintro e w2 ⟨rfl, rfl⟩
  go_wp2_with fail
  refine HS.out.mono ?_
  rintro e w3 ⟨A', c', S', rfl, ho, hp, hs, hb3⟩
  have hSS : S' = S := sorted_unique hs HP.out.2.1 (hp.trans HP.out.1)
  subst hSS
  have H3 := Lib.hid (And.intro (own_base ho HB.out.size) (HB.out.trans (hb3.mono HB.out.size)))
  have HL := Lib.hid HP.out.2.2
  clear ho hp hs hb3 hc HP HS
  go_wp2_with fail
  go_ret
  have hL := HL.out
  have h9 := H3.out
  rw [hL] at h9
  exact ⟨A', c', by rw [← hL]; rfl, h9⟩
end Go.Proofs.Ytaapdkeipknilaa
