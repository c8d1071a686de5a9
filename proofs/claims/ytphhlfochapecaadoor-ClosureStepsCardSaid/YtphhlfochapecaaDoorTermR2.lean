/-
  The document's list: Put.
-/
import Derived.Test.YtphhlfochapecaaDoorTermR1
import Derived.Test.YtphhlfochapecaaDoorTerm7
namespace Go.Proofs.YtphhlfochapecaaDoor
set_option maxRecDepth 4000
open Go.RowKit

/-- Behind the effects of a mask: an empty row, the old terms in a new one, the new term. -/
def RInv (A0 : Act) (base : Nat) (l : List Tm) (t : Tm) (w0 : World) (L : Nat) (a : Act) (W : World) : Prop :=
  ∃ x0 x2 x4, a = ((A0.put (some 25) x0).put (some 27) x2).put (some 29) x4 ∧ Below w0.heap.size w0 W ∧
    (L.testBit 0 = true → L.testBit 2 = false → W.ownsRow w0.heap.size 45 4 x0 0 []) ∧
    (L.testBit 2 = true → W.ownsRow w0.heap.size 45 4 x2 l.length (tcs l)) ∧
    (L.testBit 4 = true → ∃ g, x4 = .slice (some ⟨g, 0, none⟩) 1 1 ∧ Sees W 4 (some ⟨g, 0, none⟩) 1 (tcells t) ∧ g < W.heap.size ∧ (L.testBit 0 = true → L.testBit 2 = false → x0.ownBlock ≠ some g) ∧ (L.testBit 2 = true → x2.ownBlock ≠ some g))

theorem bit_self {L i : Nat} : (L ||| 1 <<< i).testBit i = true := by rw [Nat.testBit_or, bit_one']; simp
theorem bit_other {L i k : Nat} (h : i ≠ k) : (L ||| 1 <<< i).testBit k = L.testBit k := by rw [Nat.testBit_or, bit_one']; simp [h]
theorem bit_off {rows : List Row} {i L : Nat} (h : readyB rows i L = true) : L.testBit i = false := by
  simp only [readyB, Bool.and_eq_true, Bool.not_eq_true'] at h
  exact h.1
theorem RInv.start {base : Nat} {l : List Tm} {t : Tm} {w0 : World} {A0 a : Act} (h0 : A0 = a) {L : Nat} {W : World} (x0 x2 x4 : Value) (e : a = ((a.put (some 25) x0).put (some 27) x2).put (some 29) x4)
    (hL : L.testBit 0 = false ∧ L.testBit 2 = false ∧ L.testBit 4 = false) (hb : Below w0.heap.size w0 W) : RInv A0 base l t w0 L a W := by
  subst h0
  refine ⟨x0, x2, x4, e, hb, fun h => ?_, fun h => ?_, fun h => ?_⟩
  · rw [hL.1] at h; cases h
  · rw [hL.2.1] at h; cases h
  · rw [hL.2.2] at h; cases h

theorem tcs_one_cells (l : List Tm) : ∀ u ∈ tcs l, u.oneCell' = true := by
  intro u hu
  unfold tcs at hu
  rw [List.mem_flatMap] at hu
  obtain ⟨t, _, hu⟩ := hu
  simp only [tcells, List.mem_cons, List.not_mem_nil, or_false] at hu
  rcases hu with rfl | rfl | rfl | rfl <;> rfl
theorem rput_new (v : Value) (t : Tm) (l : List Tm) (base : Nat) (w : World) (h : LIs w base v l) (hr : okT l.length t = true) (hm : t ∉ l) (hf : l.length < 4096) (hb : base ≤ w.heap.size) :
    Calls Tryd.prog 19 #[v, tval t] w fun e w' => ∃ v', e = .returned (.tuple #[v', .int .i64 l.length, .int .i64 0]) ∧ LIs w' w.heap.size v' (l ++ [t]) ∧ Below w.heap.size w w' := by
  obtain ⟨A, c, rfl⟩ := own_shape h
  obtain ⟨k, a, x, y⟩ := t
  have hB : ∀ o, Below w.heap.size w (w.alloc o) := fun o => (Below.refl _ _).alloc (Nat.le_refl _) o
  have hbox := Blk.new w 45 #[.int .i64 k, .int .i64 a, .int .i64 x, .int .i64 y]
  have HB := Lib.hid (hB (.cells #[.int .i64 k, .int .i64 a, .int .i64 x, .int .i64 y] 45)); clear hB
  have HX := Lib.hid hbox
  have HL := Lib.hid (own_below h HB.out); clear h
  have HR := Lib.hid (fun w => rright_any ⟨k, a, x, y⟩ l.length w)
  rw [hr] at HR
  have HFI := Lib.hid (fun v l base w h hl => rfind_any v ⟨k, a, x, y⟩ l base w h hl)
  have hnum : numT l ⟨k, a, x, y⟩ = -1 := if_neg hm
  have HN := Lib.hid hnum; clear hnum hm hr
  have hfb : ((l.length : Int) == 4096) = false := by simp; omega
  have b0 : (w.alloc (.cells #[.int .i64 k, .int .i64 a, .int .i64 x, .int .i64 y] 45)).cell? ⟨w.heap.size, 0, none⟩ = some (.int .i64 k) := hbox.cell 0
  have b1 : (w.alloc (.cells #[.int .i64 k, .int .i64 a, .int .i64 x, .int .i64 y] 45)).cell? ⟨w.heap.size, 1, none⟩ = some (.int .i64 a) := hbox.cell 1
  have b2 : (w.alloc (.cells #[.int .i64 k, .int .i64 a, .int .i64 x, .int .i64 y] 45)).cell? ⟨w.heap.size, 2, none⟩ = some (.int .i64 x) := hbox.cell 2
  have b3 : (w.alloc (.cells #[.int .i64 k, .int .i64 a, .int .i64 x, .int .i64 y] 45)).cell? ⟨w.heap.size, 3, none⟩ = some (.int .i64 y) := hbox.cell 3
  clear hbox
  unfold tval
  go_enter Tryd.func19, Tryd.ntmps19
  go_wp2_with fail
  refine (HR.out _).mono ?_
  rintro e w2 ⟨rfl, bel2⟩
  have HX2 := Lib.hid (HX.out.keep (bel2.block _ HX.out.lt))
  have HL2 := Lib.hid (own_below HL.out bel2)
  have HB2 := Lib.hid (HB.out.trans (bel2.mono HB.out.size))
  clear b0 b1 b2 b3
  have b0 : w2.cell? ⟨w.heap.size, 0, none⟩ = some (.int .i64 k) := HX2.out.cell 0
  have b1 : w2.cell? ⟨w.heap.size, 1, none⟩ = some (.int .i64 a) := HX2.out.cell 1
  have b2 : w2.cell? ⟨w.heap.size, 2, none⟩ = some (.int .i64 x) := HX2.out.cell 2
  have b3 : w2.cell? ⟨w.heap.size, 3, none⟩ = some (.int .i64 y) := HX2.out.cell 3
  go_wp2_with fail
  refine (HFI.out _ l base w2 HL2.out (by omega)).mono ?_
  rintro e w3 ⟨rfl, bel3⟩
  rw [HN.out]
  have HX3 := Lib.hid (HX2.out.keep (bel3.block _ HX2.out.lt))
  have HL3 := Lib.hid (own_below HL2.out bel3)
  have HB3 := Lib.hid (HB2.out.trans (bel3.mono HB2.out.size))
  clear b0 b1 b2 b3
  go_wp2_with fail
  refine region_invE [1, 6, 7] [3] [0, 2, 4] [(202, 3), (218, 2), (203, 2), (219, 1), (207, 1), (223, 0)] [(5, false), (8, false), (9, false), (10, false)] [0, 2] 202 3 223 5 [(33554432, 0, 0, 0), (67108864, 1, 0, 0), (134217728, 100663296, 3, 3), (268435456, 8, 0, 0), (536870912, 268435456, 8, 8), (1073741824, 671088640, 20, 31), (2147483648, 1, 0, 0), (4294967296, 2147483648, 64, 64), (16, 1073741824, 63, 63), (32, 4294967296, 511, 511), (64, 0, 1023, 1023)] (fun W => Blk W w.heap.size 45 #[.int .i64 k, .int .i64 a, .int .i64 x, .int .i64 y]) (fun A0 L' a' W' => RInv A0 base l ⟨k, a, x, y⟩ w3.drew L' a' W') (by kernel_rfl) (by kernel_rfl) (by kernel_rfl) rfl (by kernel_rfl) (by kernel_rfl) HX3.out.drew ⟨?A0, (fun hS => ?_), ?_, ?_⟩; rotate_left 1
  · skip
    repeat (refine free_read (v := ?_) rfl (fun _ _ _ h => h) rfl ?_ ?_; rotate_left 1; (focus (intro w'; go_simp; try rfl)); (simp only [Act.put, List.setIfInBounds_toArray]; dsimp only [List.set_cons_zero, List.set_cons_succ]))
    refine free_nil ?_
    refine ⟨rfl, ?_⟩
    repeat (first
      | (refine pre_read (v := ?_) rfl (fun _ _ _ h => h) rfl hS ?_ ?_; rotate_left 1; (focus (intro w' hS'; have b0 := hS'.cell 0; have b1 := hS'.cell 1; have b2 := hS'.cell 2; have b3 := hS'.cell 3; simp only [List.getElem?_toArray, List.getElem?_cons_zero, List.getElem?_cons_succ] at b0 b1 b2 b3; go_simp; try rfl)); (simp only [Act.put, List.setIfInBounds_toArray]; dsimp only [List.set_cons_zero, List.set_cons_succ]))
      | (refine pre_skip rfl (fun _ _ _ h => h) rfl hS ?_; (simp only [Act.put, List.setIfInBounds_toArray]; dsimp only [List.set_cons_zero, List.set_cons_succ])))
    refine pre_nil ?_
    refine RInv.start ?h0 undef undef undef ?_ ?_ ?_
    case h0 => exact rfl
    · kernel_rfl
    · exact ⟨by kernel_rfl, by kernel_rfl, by kernel_rfl⟩
    · exact Below.refl _ _
  · intro L n i hmem hi hrb a' W hI
    obtain ⟨x0, x2, x4, rfl, bel, i0, i2, i4⟩ := hI
    simp only [Act.put, List.setIfInBounds_toArray]; dsimp only [List.set_cons_zero, List.set_cons_succ]
    have hsz := bel.size
    have keep : ∀ W', Below W.heap.size W W' → Blk W' w.heap.size 45 #[.int .i64 k, .int .i64 a, .int .i64 x, .int .i64 y] := fun W' hW => ((HX3.out.drew.keep (bel.block _ HX3.out.lt)).keep (hW.block _ (Nat.lt_of_lt_of_le HX3.out.lt hsz)))
    simp only [List.mem_cons, List.not_mem_nil, or_false] at hi
    rcases hi with rfl | rfl | rfl
    · have u2 := (pairs_one (pairs := [(0, 2)]) (by kernel_rfl) hmem (i := 0) (j := 2) (by simp) hrb)
      clear hmem hrb
      refine inv_do rfl rfl (fun K hK => ?_)
      go_simp
      have hA := (Below.refl W.heap.size W).alloc (Nat.le_refl _) (.cells #[] 45)
      refine hK.out _ _ ⟨keep _ hA, .slice (some ⟨W.heap.size, 0, none⟩) 0 0, x2, x4, ?_, bel.alloc hsz _, fun _ _ => ?_, fun h => ?_, fun h => ?_⟩
      · kernel_rfl
      · exact own_mk hsz (Blk.new W 45 #[]) (Nat.le_refl _) (Nat.zero_le _) rfl rfl
      · rw [bit_other (by decide), u2.2] at h
        cases h
      · rw [bit_other (by decide)] at h
        obtain ⟨g, e, s, hg, h1, h2⟩ := i4 h
        refine ⟨g, e, s.below hA, Nat.lt_of_lt_of_le hg hA.size, fun _ _ => ?_, fun h => ?_⟩
        · simp [Value.ownBlock]
          omega
        · rw [bit_other (by decide), u2.2] at h
          cases h
    · have u2 := (pairs_two (pairs := [(0, 2)]) (by kernel_rfl) hmem (i := 0) (j := 2) (by simp) hrb)
      clear hmem hrb
      have o0 := i0 u2.1 u2.2
      have oL : W.ownsRow base 45 4 (.slice A l.length c) l.length (tcs l) := own_below (w := w3.drew) HL3.out bel
      refine inv_do rfl rfl (fun K hK => ?_)
      refine wp_app (Operand.tmp 25) (Operand.tmp 26) 22 rfl w3.drew.heap.size 45 _ _ _ Tryd.underlying22 info_tm rfl (by decide) _ _ _ rfl o0 _ _ _ _ rfl (Sees.of_own oL) (tcs_one_cells l) ?_ ?_ hsz (fun v' w' n1 n2 n3 n4 => ?_)
      · show 0 + l.length ≤ maxLen
        unfold maxLen
        omega
      · show (0 + l.length) * 32 ≤ 140737488355328
        omega
      have hF : Fr (fun k => x0.ownBlock = some k) W w' := Fr.of_grown n2 (fun k hk => hk)
      have hlt := o0.lt
      refine hK.out _ _ ⟨?_, x0, v', x4, ?_, bel.trans (hF.below hsz (fun g hg => (hlt g hg).1)), fun _ h => ?_, fun _ => ?_, fun h => ?_⟩
      · refine (HX3.out.drew.keep (bel.block _ HX3.out.lt)).fr hF (fun h => ?_)
        have := (hlt _ h).1
        have := HX3.out.lt
        have e : w3.drew.heap.size = w3.heap.size := rfl
        omega
      · kernel_rfl
      · rw [bit_self] at h
        cases h
      · simpa using n1
      · rw [bit_other (by decide)] at h
        obtain ⟨g, e, s, hg, h1, h2⟩ := i4 h
        refine ⟨g, e, s.fr hF (fun _ a ha hk => by injection ha with ha; subst ha; exact h1 u2.1 u2.2 hk), Nat.lt_of_lt_of_le hg hF.size, fun _ h => (by rw [bit_self] at h; cases h), fun _ => ?_⟩
        rcases n3 with n3 | n3
        · rw [n3]; exact h1 u2.1 u2.2
        · rw [n3]
          intro he
          injection he with he
          omega
    · have u4 := bit_off hrb
      clear hmem hrb
      refine inv_do rfl rfl (fun K hK => ?_)
      go_simp
      have hA := (Below.refl W.heap.size W).alloc (Nat.le_refl _) (.cells #[.int .i64 k, .int .i64 a, .int .i64 x, .int .i64 y] 45)
      refine hK.out _ _ ⟨keep _ hA, x0, x2, .slice (some ⟨W.heap.size, 0, none⟩) 1 1, ?_, bel.alloc hsz _, fun h h' => ?_, fun h => ?_, fun _ => ?_⟩
      · kernel_rfl
      · rw [bit_other (by decide)] at h h'
        exact own_below (i0 h h') hA
      · rw [bit_other (by decide)] at h
        exact own_below (i2 h) hA
      · refine ⟨W.heap.size, rfl, sees_new W 45 _ 4 1 rfl, by simp, fun h h' => ?_, fun h => ?_⟩
        · rw [bit_other (by decide)] at h h'
          intro he
          have := ((i0 h h').lt _ he).2
          omega
        · rw [bit_other (by decide)] at h
          intro he
          have := ((i2 h).lt _ he).2
          omega
  · intro a' W hI
    obtain ⟨x0, x2, x4, rfl, bel, i0, i2, i4⟩ := hI
    simp only [Act.put, List.setIfInBounds_toArray]; dsimp only [List.set_cons_zero, List.set_cons_succ]
    have hsz := bel.size
    have o2 := i2 (by kernel_rfl)
    obtain ⟨g, rfl, s4, hg, _, h2⟩ := i4 (by kernel_rfl)
    replace h2 := h2 (by kernel_rfl)
    clear i0 i2 i4
    refine plan_do (by rfl) (by rfl) (fun K hK => ?_)
    refine wp_app (Operand.tmp 27) (Operand.tmp 29) 22 rfl w3.drew.heap.size 45 _ _ _ Tryd.underlying22 info_tm rfl (by decide) _ _ _ rfl o2 _ _ _ _ rfl s4 (by simp [tcells, Value.oneCell']) ?_ ?_ hsz (fun v' w' n1 n2 n3 n4 => ?_)
    · show l.length + 1 ≤ maxLen
      unfold maxLen
      omega
    · show (l.length + 1) * 32 ≤ 140737488355328
      omega
    have hF : Fr (fun k => x2.ownBlock = some k) W w' := Fr.of_grown n2 (fun k hk => hk)
    have hlt := o2.lt
    have HZ := Lib.hid (And.intro n1 (bel.trans (hF.below hsz (fun g hg => (hlt g hg).1))))
    clear n1 n2 n3 n4 hF hlt o2 s4 h2 bel hsz hg
    refine hK.out _ _ (fun h => by cases h) (fun _ => ?_); clear hK K; try (simp only [Act.put, List.setIfInBounds_toArray]; dsimp only [List.set_cons_zero, List.set_cons_succ])
    refine plan_do (by rfl) (by rfl) (fun K hK => ?_)
    go_simp
    refine hK.out _ _ (fun h => by cases h) (fun _ => ?_); clear hK K; try (simp only [Act.put, List.setIfInBounds_toArray]; dsimp only [List.set_cons_zero, List.set_cons_succ])
    refine plan_do (by rfl) (by rfl) (fun K hK => ?_)
    go_simp
    refine hK.out _ _ (fun h => by cases h) (fun _ => ?_); clear hK K; try (simp only [Act.put, List.setIfInBounds_toArray]; dsimp only [List.set_cons_zero, List.set_cons_succ])
    refine plan_do (by rfl) (by rfl) (fun K hK => ?_)
    go_simp
    refine hK.out _ _ (fun h => by cases h) (fun _ => ?_); clear hK K; try (simp only [Act.put, List.setIfInBounds_toArray]; dsimp only [List.set_cons_zero, List.set_cons_succ])
    refine plan_nil ?_
    go_wp2_with fail
    go_ret3
    have hl : (l ++ [(⟨k, a, x, y⟩ : Tm)]).length = l.length + 1 := by simp
    have hs : w.heap.size ≤ w3.drew.heap.size := HB3.out.size
    refine ⟨v', rfl, ?_, HB3.out.trans (below_of_drew (HZ.out.2.mono hs))⟩
    unfold LIs
    rw [hl, tcs_append, tcs_one]
    exact own_base HZ.out.1 hs
end Go.Proofs.YtphhlfochapecaaDoor
