/-
  Made: a pool and the document's list of the same terms.
-/
import Derived.Test.YtphhlfochapecaaDoorTermS
namespace Go.Proofs.YtphhlfochapecaaDoor
set_option maxRecDepth 4000
open Go.RowKit

theorem in_tm {w : World} {A : Option Addr} {ts : List Tm} {c : Nat} (h : InTerms w A ts c) {k : Nat} {t : Tm} (hk : ts[k]? = some t) :
    ∃ g o, A = some ⟨g, o, none⟩ ∧ w.cell? ⟨g, o + k * 4, none⟩ = some (.int .i64 t.k) ∧ w.cell? ⟨g, o + k * 4 + 1, none⟩ = some (.int .i64 t.a) ∧ w.cell? ⟨g, o + k * 4 + 2, none⟩ = some (.int .i64 t.x) ∧ w.cell? ⟨g, o + k * 4 + 3, none⟩ = some (.int .i64 t.y) := by
  have hkl := (List.getElem?_eq_some_iff.1 hk).1
  obtain ⟨g, o, e, hc⟩ := h.row.2 (by omega)
  have hg : ∀ j u, j < 4 → (tcells t)[j]? = some u → w.cell? ⟨g, o + k * 4 + j, none⟩ = some u := fun j u hj hu => by
    have := hc (k * 4 + j) u (by rw [tcs_get hk j hj]; exact hu)
    rwa [← Nat.add_assoc] at this
  exact ⟨g, o, e, hg 0 _ (by omega) rfl, hg 1 _ (by omega) rfl, hg 2 _ (by omega) rfl, hg 3 _ (by omega) rfl⟩
theorem InTerms.below {w w' : World} {A : Option Addr} {ts : List Tm} {c : Nat} (h : InTerms w A ts c) (hb : Below w.heap.size w w') : InTerms w' A ts c := ⟨h.le, h.most, h.row.below hb, h.wf⟩

/-- What stands at each round: the pool and the list, apart. -/
structure MadeAt (w W : World) (p : Nat) (v : Value) (l : List Tm) : Prop where
  pool : ∃ G, PoolIn W w.heap.size p l G ∧ (∀ k, G k → w.heap.size ≤ k ∧ k < W.heap.size) ∧ ∀ g, v.ownBlock = some g → ¬ G g
  list : LIs W w.heap.size v l
  bel : Below w.heap.size w W
theorem MadeAt.below {w W W' : World} {p : Nat} {v : Value} {l : List Tm} (h : MadeAt w W p v l) (hb : Below W.heap.size W W') : MadeAt w W' p v l := by
  obtain ⟨⟨G, h1, h2, h3⟩, h4, h5⟩ := h
  exact ⟨⟨G, h1.below hb, fun k hk => ⟨(h2 k hk).1, Nat.lt_of_lt_of_le (h2 k hk).2 hb.size⟩, h3⟩, own_below h4 hb, h5.trans (hb.mono h5.size)⟩
theorem fit_wf {ts : List Tm} (h : ∀ t ∈ ts, wfT t) : ∀ t ∈ ts, fitT t := fun t ht => fit_ex t (h t ht)

theorem made_any (A : Option Addr) (ts : List Tm) (c : Nat) (w : World) (hI : InTerms w A ts c) (hl : ts.length ≤ 100) (hT : Tab10 w) :
    Calls Tryd.prog 8 #[.slice A ts.length c] w fun e w' => ∃ p v, e = .returned (.tuple #[.pointer (some ⟨p, 0, none⟩), v]) ∧ MadeAt w w' p v (putsT [] ts) := by
  have HN := Lib.hid (new_any w.heap.size w (Nat.le_refl _))
  have HI := Lib.hid hI
  have HT := Lib.hid hT; clear hT
  go_enter Tryd.func8, Tryd.ntmps8
  go_wp2_with fail
  refine HN.out.mono ?_
  rintro e w1 ⟨p, rfl, q1, b1, lo⟩
  have H1 : Hid (MadeAt w w1 p (.slice none 0 0) []) := Lib.hid ⟨⟨_, q1.in_.lt, fun k hk => hk.2, by simp [Value.ownBlock]⟩, World.ownsRow_nil _ _ _ _, b1⟩
  clear q1 b1 lo
  go_wp2_with fail
  go_loopw [5, 6] (fun v i wr => ∃ j : Nat, i = .int .i64 j ∧ j ≤ ts.length ∧ Hid (MadeAt w wr p v (putsT [] (ts.take j)))) (fun _ i _ => ts.length - (intOf i).toNat)
  case atStart => exact ⟨0, rfl, by omega, Lib.hid (by simpa [putsT] using H1.out)⟩
  case round =>
    obtain ⟨j, rfl, hj, hm⟩ := hrel
    by_cases hlt : j < ts.length
    · have hget : ts[j]? = some (ts[j]'hlt) := List.getElem?_eq_getElem hlt
      generalize ts[j] = t at hget
      obtain ⟨g, o, rfl, q0, q1, q2, q3⟩ := in_tm (HI.out.below hm.out.bel) hget
      have hwf := HI.out.wf t (List.mem_of_getElem? hget)
      obtain ⟨hpool, hlen⟩ := putsT_pool (ts.take j) (fit_wf fun t ht => HI.out.wf t (List.mem_of_mem_take ht))
      have hlen2 : (putsT [] (ts.take j)).length ≤ 100 := by rw [List.length_take] at hlen; omega
      have hnext : putsT [] (ts.take (j + 1)) = (putT (putsT [] (ts.take j)) t).1 := by rw [List.take_add_one, hget]; exact putsT_snoc _ _ _
      have HX := Lib.hid hnext; clear hnext hlen
      have HC := Lib.hid (And.intro q0 (And.intro q1 (And.intro q2 q3)))
      obtain ⟨k, a, x, y⟩ := t
      have HP := Lib.hid (fun W G h1 h2 h3 => put_any p ⟨k, a, x, y⟩ (putsT [] (ts.take j)) w.heap.size W G h1 hpool h2 hwf h3)
      have HR := Lib.hid (fun v W h1 h2 h3 => rput_any v ⟨k, a, x, y⟩ (putsT [] (ts.take j)) w.heap.size W h1 h2 h3)
      have HC3 := Lib.hid hget
      clear hget hwf hpool
      simp only at q0 q1 q2 q3
      obtain ⟨⟨G, m1, m2, m3⟩, m4, m5⟩ := hm.out
      have HM := Lib.hid (And.intro m1 (And.intro m2 (And.intro m3 (And.intro m4 m5)))); clear m1 m2 m3 m4 m5 hm
      generalize putsT [] (ts.take j) = l at *
      obtain ⟨N, hN⟩ : ∃ N, (putT l ⟨k, a, x, y⟩).2.1 = N := ⟨_, rfl⟩
      obtain ⟨E, hE⟩ : ∃ E, (putT l ⟨k, a, x, y⟩).2.2 = E := ⟨_, rfl⟩
      rw [hN, hE] at HP HR
      clear hN hE
      unfold tval at HP HR
      go_wp2_with fail
      refine (HP.out wr G HM.out.1 (by omega) (HT.out.below (Nat.le_refl _) HM.out.2.2.2.2)).mono ?_
      rintro e w2 ⟨rfl, g1, g2⟩
      have hb2 := HM.out.2.2.2.2.trans (g2.below HM.out.2.2.2.2.size (fun k hk => (HM.out.2.1 k hk).1))
      have hL2 := own_fr HM.out.2.2.2.1 g2 HM.out.2.2.1
      have hap : ∀ g, u5.ownBlock = some g → ¬ ((G g ∨ wr.heap.size ≤ g) ∧ w.heap.size ≤ g ∧ g < w2.heap.size) := fun g hg hh => by
        rcases hh.1 with h | h
        · exact HM.out.2.2.1 g hg h
        · have := (HM.out.2.2.2.1.lt g hg).2
          omega
      have HL2 := Lib.hid (And.intro hL2 (And.intro hb2 (And.intro g1.lt hap))); clear g1 g2 hb2 hL2 hap
      have HC2 := Lib.hid (in_tm (HI.out.below HL2.out.2.1) HC3.out)
      clear q0 q1 q2 q3
      obtain ⟨g', o', e', q0, q1, q2, q3⟩ := HC2.out
      injection e' with e'
      injection e' with e1 e2
      subst e1; subst e2
      simp only at q0 q1 q2 q3
      go_wp2_with fail
      refine (HR.out u5 w2 HL2.out.1 (by omega) HL2.out.2.1.size).mono ?_
      rintro e w3 ⟨v3, rfl, r1, r2, r3⟩
      have HM3 : Hid (MadeAt w w3 p v3 (putT l ⟨k, a, x, y⟩).1) := Lib.hid ⟨⟨_, HL2.out.2.2.1.below r2, fun k hk => ⟨hk.2.1, Nat.lt_of_lt_of_le hk.2.2 r2.size⟩, fun g hg hh => by
        rcases r3 g hg with h | h
        · exact HL2.out.2.2.2 g h hh
        · have := hh.2.2
          omega⟩, r1, HL2.out.2.1.trans (r2.mono HL2.out.2.1.size)⟩
      clear r1 r2 r3 q0 q1 q2 q3
      go_wp2_with fail
      go_roundw
      case rel => exact ⟨j + 1, by go_num, by omega, by rw [HX.out]; exact HM3⟩
      case measure => simp [intOf]; omega
    · obtain rfl : j = ts.length := by omega
      go_wp2_with fail
      go_ret2
      exact ⟨p, _, rfl, by have := hm.out; rwa [List.take_length] at this⟩
end Go.Proofs.YtphhlfochapecaaDoor
