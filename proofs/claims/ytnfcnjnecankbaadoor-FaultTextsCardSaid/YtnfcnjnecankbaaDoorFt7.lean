/-
  Faults are made: Wrap, Again, a chain of links.
-/
import Derived.Test.YtnfcnjnecankbaaDoorFt6
import Derived.Test.YtnfcnjnecankbaaDoorRegion
namespace Go.Proofs.YtnfcnjnecankbaaDoor
set_option maxRecDepth 4000
open Go.RowKit

theorem wrap_ok (op : ByteArray) (k : Int) (w : World) : Calls Tryd.prog 22 #[.string op, .int .i64 k, .int .i64 0] w fun e w' => e = .returned Value.nilIface ∧ w = w' := by
  go_enter Tryd.func22, Tryd.ntmps22
  go_wp2_with fail
  go_ret
  exact ⟨rfl, rfl⟩
theorem wrap_no (op : ByteArray) (k n : Int) (hn : n ≠ 0) (w : World) : Calls Tryd.prog 22 #[.string op, .int .i64 k, .int .i64 n] w fun e w' => e = .returned (.iface 29 (.pointer (some ⟨w.heap.size, 0, none⟩))) ∧ Blk w' w.heap.size 33 #[.string op, .int .i64 k, .iface 28 (.int .i64 n)] ∧ Below w.heap.size w w' := by
  have hn2 : (n == 0) = false := by rw [beq_eq_false_iff_ne]; exact hn
  go_enter Tryd.func22, Tryd.ntmps22
  go_wp2_with fail
  go_ret
  exact ⟨rfl, Blk.new _ _ _, (Below.refl _ _).alloc (Nat.le_refl _) _⟩
theorem again_nil (op : ByteArray) (k : Int) (w : World) : Calls Tryd.prog 21 #[.string op, .int .i64 k, .nilIface] w fun e w' => e = .returned Value.nilIface ∧ w = w' := by
  go_enter Tryd.func21, Tryd.ntmps21
  go_wp2_with fail
  go_ret
  exact ⟨rfl, rfl⟩
theorem again_no (op : ByteArray) (k : Int) (T : TypeId) (x : Value) (w : World) : Calls Tryd.prog 21 #[.string op, .int .i64 k, .iface T x] w fun e w' => e = .returned (.iface 29 (.pointer (some ⟨w.heap.size, 0, none⟩))) ∧ Blk w' w.heap.size 33 #[.string op, .int .i64 k, .iface T x] ∧ Below w.heap.size w w' := by
  go_enter Tryd.func21, Tryd.ntmps21
  go_wp2_with fail
  go_ret
  exact ⟨rfl, Blk.new _ _ _, (Below.refl _ _).alloc (Nat.le_refl _) _⟩

/-! ### Links, as they come -/
def lcells (y : Lk) : List Value := [.string y.op, .int .i64 y.at_]
@[simp] theorem lcells_length (y : Lk) : (lcells y).length = 2 := rfl
def lcs (l : List Lk) : List Value := l.flatMap lcells
@[simp] theorem lcs_length (l : List Lk) : (lcs l).length = l.length * 2 := by unfold lcs; rw [length_flatMap_const _ 2 lcells_length]
theorem lcs_get : ∀ {l : List Lk} {k : Nat} {e : Lk}, l[k]? = some e → ∀ j, j < 2 → (lcs l)[k * 2 + j]? = (lcells e)[j]?
  | [], k, e, h, j, hj => by simp at h
  | x :: l, 0, e, h, j, hj => by
      injection h with h; subst h
      show (lcells x ++ lcs l)[0 * 2 + j]? = _
      rw [Nat.zero_mul, Nat.zero_add, List.getElem?_append_left (by rw [lcells_length]; exact hj)]
  | x :: l, k + 1, e, h, j, hj => by
      show (lcells x ++ lcs l)[(k + 1) * 2 + j]? = _
      rw [List.getElem?_append_right (by rw [lcells_length]; omega), lcells_length, show (k + 1) * 2 + j - 2 = k * 2 + j by omega]
      exact lcs_get (by simpa using h) j hj
theorem in_link {w : World} {A : Option Addr} {l : List Lk} (h : Sees w 2 A l.length (lcs l)) {k : Nat} {y : Lk} (hk : l[k]? = some y) :
    ∃ g o, A = some ⟨g, o, none⟩ ∧ w.cell? ⟨g, o + k * 2, none⟩ = some (.string y.op) ∧ w.cell? ⟨g, o + k * 2 + 1, none⟩ = some (.int .i64 y.at_) := by
  have hkl := (List.getElem?_eq_some_iff.1 hk).1
  obtain ⟨g, o, e', hc⟩ := h.2 (by omega)
  have hg : ∀ j u, j < 2 → (lcells y)[j]? = some u → w.cell? ⟨g, o + k * 2 + j, none⟩ = some u := fun j u hj hu => by
    have := hc (k * 2 + j) u (by rw [lcs_get hk j hj]; exact hu)
    rwa [← Nat.add_assoc] at this
  exact ⟨g, o, e', hg 0 _ (by omega) rfl, hg 1 _ (by omega) rfl⟩
def LkOk (y : Lk) : Prop := (-9223372036854775808 ≤ y.at_ ∧ y.at_ ≤ 9223372036854775807) ∧ y.op.size ≤ maxLen

theorem smalls_any (l : List Lk) (A : Option Addr) (c : Nat) (w : World) (hS : Sees w 2 A l.length (lcs l)) (hok : ∀ y ∈ l, LkOk y) (hl : l.length ≤ maxLen) :
    Calls Tryd.prog 8 #[.slice A l.length c] w fun e w' => (e = .returned (.bool false) ∨ (e = .returned (.bool true) ∧ Hid (l.length ≤ 20 ∧ ∀ y ∈ l, y.op.size ≤ 50))) ∧ Below w.heap.size w w' := by
  unfold maxLen at hl
  have H := Lib.hid (And.intro hS hok)
  clear hS hok
  by_cases hlm : l.length ≤ 20
  · have hi : ¬ ((20 : Int) < (l.length : Int)) := by omega
    have HLM := Lib.hid hlm
    clear hlm
    go_enter Tryd.func8, Tryd.ntmps8
    go_wp2_with fail
    go_loopw [3] (fun i wr => ∃ j : Nat, i = .int .i64 j ∧ j ≤ l.length ∧ Hid ((∀ i y, i < j → l[i]? = some y → y.op.size ≤ 50) ∧ Below w.heap.size w wr)) (fun i _ => l.length - (intOf i).toNat)
    case atStart => exact ⟨0, rfl, Nat.zero_le _, Lib.hid ⟨fun i y hi => by omega, Below.refl _ _⟩⟩
    case round =>
      obtain ⟨j, rfl, hj, hr⟩ := hrel
      by_cases hlt : j < l.length
      · have hget : l[j]? = some (l[j]'hlt) := List.getElem?_eq_getElem hlt
        generalize l[j] = y at hget
        obtain ⟨g, o, rfl, q0, q1⟩ := in_link (H.out.1.below hr.out.2) hget
        have m1 := (H.out.2 y (List.mem_of_getElem? hget)).2
        unfold maxLen at m1
        have HG := Lib.hid hget
        clear hget q1
        by_cases h1 : y.op.size ≤ 50
        · have h1' : ¬ ((50 : Int) < (y.op.size : Int)) := by omega
          have HN := Lib.hid (And.intro (fun i z (hi : i < j + 1) (hz : l[i]? = some z) => by
            rcases Nat.lt_or_ge i j with h | h
            · exact hr.out.1 i z h hz
            · obtain rfl : i = j := by omega
              rw [HG.out] at hz
              injection hz with hz
              rw [← hz]; exact h1) hr.out.2)
          clear hr h1 HG
          obtain ⟨op, at_⟩ := y
          simp only at q0 h1' m1
          go_wp2_with fail
          go_roundw
          case rel => exact ⟨j + 1, by go_num, by omega, HN⟩
          case measure => simp [intOf]; omega
        · have h1' : ((50 : Int) < (y.op.size : Int)) := by omega
          obtain ⟨op, at_⟩ := y
          simp only at q0 h1' m1
          go_wp2_with fail
          go_ret
          exact ⟨.inl rfl, hr.out.2⟩
      · obtain rfl : j = l.length := by omega
        go_wp2_with fail
        go_ret
        refine ⟨.inr ⟨rfl, Lib.hid ⟨HLM.out, fun y hy => ?_⟩⟩, hr.out.2⟩
        obtain ⟨i, hi⟩ := List.mem_iff_getElem?.1 hy
        exact hr.out.1 i y (List.getElem?_eq_some_iff.1 hi).1 hi
  · have hi : ((20 : Int) < (l.length : Int)) := by omega
    go_enter Tryd.func8, Tryd.ntmps8
    go_wp2_with fail
    go_ret
    exact ⟨.inl rfl, Below.refl _ _⟩

/-- What 'made' has in hand when the links from j on are done. -/
def MadeIs (w : World) (l : List Lk) (e : Int) (j : Nat) (v : Value) : Prop := (e = 0 ∧ v = .nilIface) ∨ (j = l.length ∧ v = .nilIface) ∨ (e ≠ 0 ∧ j < l.length ∧ Chn w v (l.drop j) e)
theorem MadeIs.keep {w w' : World} {l : List Lk} {e : Int} {j : Nat} {v : Value} (h : MadeIs w l e j v) (hb : Below w.heap.size w w') : MadeIs w' l e j v := by
  rcases h with h | h | ⟨h1, h2, h3⟩
  · exact .inl h
  · exact .inr (.inl h)
  · exact .inr (.inr ⟨h1, h2, h3.keep hb⟩)

set_option maxHeartbeats 1000000 in
theorem made_any (l : List Lk) (A : Option Addr) (c : Nat) (e : Int) (w : World) (hS : Sees w 2 A l.length (lcs l)) (hl : l.length ≤ 1000) :
    Calls Tryd.prog 9 #[.slice A l.length c, .int .i64 e] w fun r w' => (∃ v, r = .returned v ∧ MadeIs w' l e 0 v) ∧ Below w.heap.size w w' := by
  have HS := Lib.hid hS
  clear hS
  go_enter Tryd.func9, Tryd.ntmps9
  go_wp2_with fail
  go_loopw [5, 6] (fun v i wr => ∃ j : Nat, i = .int .i64 ((j : Int) - 1) ∧ j ≤ l.length ∧ Hid (MadeIs wr l e j v ∧ Below w.heap.size w wr)) (fun _ i _ => (intOf i + 1).toNat)
  case atStart => exact ⟨l.length, by go_num, Nat.le_refl _, Lib.hid ⟨.inr (.inl ⟨rfl, rfl⟩), Below.refl _ _⟩⟩
  case round =>
    obtain ⟨j, rfl, hj, hr⟩ := hrel
    rcases j with _ | k
    · go_wp2_with fail
      go_ret
      exact ⟨⟨_, rfl, hr.out.1⟩, hr.out.2⟩
    · have ei : (((k + 1 : Nat) : Int) - 1) = (k : Int) := by omega
      rw [ei]
      have hlt : k < l.length := by omega
      have hget : l[k]? = some (l[k]'hlt) := List.getElem?_eq_getElem hlt
      generalize l[k] = y at hget
      obtain ⟨g, o, rfl, q0, q1⟩ := in_link (HS.out.below hr.out.2) hget
      have hdrop : l.drop k = y :: l.drop (k + 1) := by
        rw [List.drop_eq_getElem_cons hlt]
        have := hget
        rw [List.getElem?_eq_getElem hlt] at this
        injection this with this
        rw [this]
      obtain ⟨op, at_⟩ := y
      simp only at q0 q1
      have HR := Lib.hid hr.out
      have HDR := Lib.hid hdrop
      have HLT := Lib.hid hlt
      clear hr hget hdrop ei
      by_cases hlast : k + 1 = l.length
      · have hlb : ((k : Int) == (l.length : Int) - 1) = true := by rw [beq_iff_eq]; omega
        have HLA := Lib.hid hlast
        clear hlast
        by_cases he : e = 0
        · subst he
          have HW := Lib.hid (fun w => wrap_ok op at_ w)
          go_wp2_with fail
          refine region_fast [(0, true), (1, true), (2, true), (3, true), (4, true), (5, true), (6, true), (7, true), (8, true), (9, true), (10, true), (11, false), (12, true)] [1, 5, 6, 7, 8, 9, 10] 2018 [(524288, 1, 0, 0), (1048576, 64, 0, 0), (2097152, 1572864, 3, 3), (4194304, 2097152, 4, 7), (8388608, 4194304, 8, 15), (16777216, 1, 0, 0), (33554432, 64, 0, 0), (67108864, 50331648, 96, 96), (134217728, 67108864, 128, 224), (268435456, 134217728, 256, 480), (536870912, 2, 0, 0), (1073741824, 813694976, 1552, 2047), (32, 1073741824, 4095, 4095)] (fun W => W.cell? ⟨g, o + k * 2, none⟩ = some (.string op) ∧ W.cell? ⟨g, o + k * 2 + 1, none⟩ = some (.int .i64 at_)) (by kernel_rfl) (by kernel_rfl) (by kernel_rfl) rfl (by kernel_rfl) (by kernel_rfl) ⟨q0, q1⟩ (fun hS => ?_)
          repeat (first
            | (refine plan_read (v := ?_) rfl (fun _ _ _ h => h) rfl hS ?_ ?_; rotate_left 1; (focus (intro w' hS'; have e0 := hS'.1; have e1 := hS'.2; go_simp; try rfl)); (simp only [Act.put, List.setIfInBounds_toArray]; dsimp only [List.set_cons_zero, List.set_cons_succ]))
            | (refine plan_skip rfl (fun _ _ _ h => h) rfl hS ?_; (simp only [Act.put, List.setIfInBounds_toArray]; dsimp only [List.set_cons_zero, List.set_cons_succ])))
          refine plan_do (by rfl) (by rfl) (fun K hK => ?_)
          go_simp
          refine (HW.out _).mono ?_
          rintro r w2 ⟨rfl, rfl⟩
          refine hK.out _ _ (fun h => by cases h) (fun _ => ?_); clear hK K; try (simp only [Act.put, List.setIfInBounds_toArray]; dsimp only [List.set_cons_zero, List.set_cons_succ])
          have hS := And.intro q0 q1
          repeat (first
            | (refine plan_read (v := ?_) rfl (fun _ _ _ h => h) rfl hS ?_ ?_; rotate_left 1; (focus (intro w' hS'; have e0 := hS'.1; go_simp; try rfl)); (simp only [Act.put, List.setIfInBounds_toArray]; dsimp only [List.set_cons_zero, List.set_cons_succ]))
            | (refine plan_skip rfl (fun _ _ _ h => h) rfl hS ?_; (simp only [Act.put, List.setIfInBounds_toArray]; dsimp only [List.set_cons_zero, List.set_cons_succ])))
          refine plan_nil ?_
          go_wp2_with fail
          go_roundw
          case rel => exact ⟨k, by go_num, by omega, Lib.hid ⟨.inl ⟨rfl, rfl⟩, HR.out.2.trans ⟨rfl, rfl, rfl, Nat.le_refl _, fun _ _ => rfl⟩⟩⟩
          case measure => simp [intOf]
        · have HE := Lib.hid he
          have HW := Lib.hid (fun w => wrap_no op at_ e HE.out w)
          clear he
          go_wp2_with fail
          refine region_fast [(0, true), (1, true), (2, true), (3, true), (4, true), (5, true), (6, true), (7, true), (8, true), (9, true), (10, true), (11, false), (12, true)] [1, 5, 6, 7, 8, 9, 10] 2018 [(524288, 1, 0, 0), (1048576, 64, 0, 0), (2097152, 1572864, 3, 3), (4194304, 2097152, 4, 7), (8388608, 4194304, 8, 15), (16777216, 1, 0, 0), (33554432, 64, 0, 0), (67108864, 50331648, 96, 96), (134217728, 67108864, 128, 224), (268435456, 134217728, 256, 480), (536870912, 2, 0, 0), (1073741824, 813694976, 1552, 2047), (32, 1073741824, 4095, 4095)] (fun W => W.cell? ⟨g, o + k * 2, none⟩ = some (.string op) ∧ W.cell? ⟨g, o + k * 2 + 1, none⟩ = some (.int .i64 at_)) (by kernel_rfl) (by kernel_rfl) (by kernel_rfl) rfl (by kernel_rfl) (by kernel_rfl) ⟨q0, q1⟩ (fun hS => ?_)
          repeat (first
            | (refine plan_read (v := ?_) rfl (fun _ _ _ h => h) rfl hS ?_ ?_; rotate_left 1; (focus (intro w' hS'; have e0 := hS'.1; have e1 := hS'.2; go_simp; try rfl)); (simp only [Act.put, List.setIfInBounds_toArray]; dsimp only [List.set_cons_zero, List.set_cons_succ]))
            | (refine plan_skip rfl (fun _ _ _ h => h) rfl hS ?_; (simp only [Act.put, List.setIfInBounds_toArray]; dsimp only [List.set_cons_zero, List.set_cons_succ])))
          refine plan_do (by rfl) (by rfl) (fun K hK => ?_)
          go_simp
          refine (HW.out _).mono ?_
          rintro r w2 ⟨rfl, hb, hw2⟩
          have HN := Lib.hid (show MadeIs w2 l e k (.iface 29 (.pointer (some ⟨wr.drew.heap.size, 0, none⟩))) from .inr (.inr ⟨HE.out, HLT.out, by
            rw [HDR.out, List.drop_eq_nil_of_le (by rw [HLA.out]; exact Nat.le_refl _)]
            exact ⟨_, _, rfl, hb, rfl⟩⟩))
          have HB := Lib.hid (HR.out.2.trans ((below_of_drew hw2).mono HR.out.2.size))
          have hS2 : w2.cell? ⟨g, o + k * 2, none⟩ = some (.string op) ∧ w2.cell? ⟨g, o + k * 2 + 1, none⟩ = some (.int .i64 at_) := ⟨(World.cell?_of_block (a := ⟨g, o + k * 2, none⟩) (hw2.block g (World.block_lt_of_cell? wr.drew _ q0))).trans q0, (World.cell?_of_block (a := ⟨g, o + k * 2 + 1, none⟩) (hw2.block g (World.block_lt_of_cell? wr.drew _ q1))).trans q1⟩
          clear hb hw2
          refine hK.out _ _ (fun h => by cases h) (fun _ => ?_); clear hK K; try (simp only [Act.put, List.setIfInBounds_toArray]; dsimp only [List.set_cons_zero, List.set_cons_succ])
          clear hS
          have hS := hS2
          repeat (first
            | (refine plan_read (v := ?_) rfl (fun _ _ _ h => h) rfl hS ?_ ?_; rotate_left 1; (focus (intro w' hS'; have e0 := hS'.1; go_simp; try rfl)); (simp only [Act.put, List.setIfInBounds_toArray]; dsimp only [List.set_cons_zero, List.set_cons_succ]))
            | (refine plan_skip rfl (fun _ _ _ h => h) rfl hS ?_; (simp only [Act.put, List.setIfInBounds_toArray]; dsimp only [List.set_cons_zero, List.set_cons_succ])))
          refine plan_nil ?_
          go_wp2_with fail
          go_roundw
          case rel => exact ⟨k, by go_num, by omega, Lib.hid ⟨HN.out, HB.out⟩⟩
          case measure => simp [intOf]
      · have hlb : ((k : Int) == (l.length : Int) - 1) = false := by rw [beq_eq_false_iff_ne]; omega
        have HLA := Lib.hid hlast
        clear hlast
        rcases HR.out.1 with ⟨rfl, rfl⟩ | ⟨h, -⟩ | ⟨he, -, hcv⟩
        · have HW := Lib.hid (fun w => again_nil op at_ w)
          go_wp2_with fail
          refine region_fast [(0, true), (1, true), (2, true), (3, true), (4, true), (5, true), (6, true), (7, true), (8, true), (9, true), (10, true), (11, false), (12, true)] [1, 5, 6, 7, 8, 9, 10] 2018 [(2147483648, 1, 0, 0), (4294967296, 64, 0, 0), (8589934592, 6442450944, 3, 3), (17179869184, 8589934592, 4, 7), (34359738368, 17179869184, 8, 15), (68719476736, 1, 0, 0), (137438953472, 64, 0, 0), (274877906944, 206158430208, 96, 96), (549755813888, 274877906944, 128, 224), (1099511627776, 549755813888, 256, 480), (2199023255552, 32, 0, 0), (4398046511104, 3332894621696, 1552, 2047), (32, 4398046511104, 4095, 4095)] (fun W => W.cell? ⟨g, o + k * 2, none⟩ = some (.string op) ∧ W.cell? ⟨g, o + k * 2 + 1, none⟩ = some (.int .i64 at_)) (by kernel_rfl) (by kernel_rfl) (by kernel_rfl) rfl (by kernel_rfl) (by kernel_rfl) ⟨q0, q1⟩ (fun hS => ?_)
          repeat (first
            | (refine plan_read (v := ?_) rfl (fun _ _ _ h => h) rfl hS ?_ ?_; rotate_left 1; (focus (intro w' hS'; have e0 := hS'.1; have e1 := hS'.2; go_simp; try rfl)); (simp only [Act.put, List.setIfInBounds_toArray]; dsimp only [List.set_cons_zero, List.set_cons_succ]))
            | (refine plan_skip rfl (fun _ _ _ h => h) rfl hS ?_; (simp only [Act.put, List.setIfInBounds_toArray]; dsimp only [List.set_cons_zero, List.set_cons_succ])))
          refine plan_do (by rfl) (by rfl) (fun K hK => ?_)
          go_simp
          refine (HW.out _).mono ?_
          rintro r w2 ⟨rfl, rfl⟩
          refine hK.out _ _ (fun h => by cases h) (fun _ => ?_); clear hK K; try (simp only [Act.put, List.setIfInBounds_toArray]; dsimp only [List.set_cons_zero, List.set_cons_succ])
          have hS := And.intro q0 q1
          repeat (first
            | (refine plan_read (v := ?_) rfl (fun _ _ _ h => h) rfl hS ?_ ?_; rotate_left 1; (focus (intro w' hS'; have e0 := hS'.1; go_simp; try rfl)); (simp only [Act.put, List.setIfInBounds_toArray]; dsimp only [List.set_cons_zero, List.set_cons_succ]))
            | (refine plan_skip rfl (fun _ _ _ h => h) rfl hS ?_; (simp only [Act.put, List.setIfInBounds_toArray]; dsimp only [List.set_cons_zero, List.set_cons_succ])))
          refine plan_nil ?_
          go_wp2_with fail
          go_roundw
          case rel => exact ⟨k, by go_num, by omega, Lib.hid ⟨.inl ⟨rfl, rfl⟩, HR.out.2.trans ⟨rfl, rfl, rfl, Nat.le_refl _, fun _ _ => rfl⟩⟩⟩
          case measure => simp [intOf]
        · exact absurd h HLA.out
        · have HE := Lib.hid he
          have HCV := Lib.hid hcv
          obtain ⟨T1, x1, rfl⟩ := hcv.iface
          have HW := Lib.hid (fun w => again_no op at_ T1 x1 w)
          clear he hcv
          go_wp2_with fail
          refine region_fast [(0, true), (1, true), (2, true), (3, true), (4, true), (5, true), (6, true), (7, true), (8, true), (9, true), (10, true), (11, false), (12, true)] [1, 5, 6, 7, 8, 9, 10] 2018 [(2147483648, 1, 0, 0), (4294967296, 64, 0, 0), (8589934592, 6442450944, 3, 3), (17179869184, 8589934592, 4, 7), (34359738368, 17179869184, 8, 15), (68719476736, 1, 0, 0), (137438953472, 64, 0, 0), (274877906944, 206158430208, 96, 96), (549755813888, 274877906944, 128, 224), (1099511627776, 549755813888, 256, 480), (2199023255552, 32, 0, 0), (4398046511104, 3332894621696, 1552, 2047), (32, 4398046511104, 4095, 4095)] (fun W => W.cell? ⟨g, o + k * 2, none⟩ = some (.string op) ∧ W.cell? ⟨g, o + k * 2 + 1, none⟩ = some (.int .i64 at_)) (by kernel_rfl) (by kernel_rfl) (by kernel_rfl) rfl (by kernel_rfl) (by kernel_rfl) ⟨q0, q1⟩ (fun hS => ?_)
          repeat (first
            | (refine plan_read (v := ?_) rfl (fun _ _ _ h => h) rfl hS ?_ ?_; rotate_left 1; (focus (intro w' hS'; have e0 := hS'.1; have e1 := hS'.2; go_simp; try rfl)); (simp only [Act.put, List.setIfInBounds_toArray]; dsimp only [List.set_cons_zero, List.set_cons_succ]))
            | (refine plan_skip rfl (fun _ _ _ h => h) rfl hS ?_; (simp only [Act.put, List.setIfInBounds_toArray]; dsimp only [List.set_cons_zero, List.set_cons_succ])))
          refine plan_do (by rfl) (by rfl) (fun K hK => ?_)
          go_simp
          refine (HW.out _).mono ?_
          rintro r w2 ⟨rfl, hb, hw2⟩
          have HN := Lib.hid (show MadeIs w2 l e k (.iface 29 (.pointer (some ⟨wr.drew.heap.size, 0, none⟩))) from .inr (.inr ⟨HE.out, HLT.out, by
            rw [HDR.out]
            exact ⟨_, _, rfl, hb, HCV.out.keep (below_of_drew hw2)⟩⟩))
          have HB := Lib.hid (HR.out.2.trans ((below_of_drew hw2).mono HR.out.2.size))
          have hS2 : w2.cell? ⟨g, o + k * 2, none⟩ = some (.string op) ∧ w2.cell? ⟨g, o + k * 2 + 1, none⟩ = some (.int .i64 at_) := ⟨(World.cell?_of_block (a := ⟨g, o + k * 2, none⟩) (hw2.block g (World.block_lt_of_cell? wr.drew _ q0))).trans q0, (World.cell?_of_block (a := ⟨g, o + k * 2 + 1, none⟩) (hw2.block g (World.block_lt_of_cell? wr.drew _ q1))).trans q1⟩
          clear hb hw2
          refine hK.out _ _ (fun h => by cases h) (fun _ => ?_); clear hK K; try (simp only [Act.put, List.setIfInBounds_toArray]; dsimp only [List.set_cons_zero, List.set_cons_succ])
          clear hS
          have hS := hS2
          repeat (first
            | (refine plan_read (v := ?_) rfl (fun _ _ _ h => h) rfl hS ?_ ?_; rotate_left 1; (focus (intro w' hS'; have e0 := hS'.1; go_simp; try rfl)); (simp only [Act.put, List.setIfInBounds_toArray]; dsimp only [List.set_cons_zero, List.set_cons_succ]))
            | (refine plan_skip rfl (fun _ _ _ h => h) rfl hS ?_; (simp only [Act.put, List.setIfInBounds_toArray]; dsimp only [List.set_cons_zero, List.set_cons_succ])))
          refine plan_nil ?_
          go_wp2_with fail
          go_roundw
          case rel => exact ⟨k, by go_num, by omega, Lib.hid ⟨HN.out, HB.out⟩⟩
          case measure => simp [intOf]
end Go.Proofs.YtnfcnjnecankbaaDoor
