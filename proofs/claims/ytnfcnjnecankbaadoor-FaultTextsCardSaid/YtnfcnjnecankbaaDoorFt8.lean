/-
  The texts of errors.
-/
import Derived.Test.YtnfcnjnecankbaaDoorFt7
import Derived.Test.YtnfcnjnecankbaaDoorItoa
import Derived.Lib.ItoaLen
namespace Go.Proofs.YtnfcnjnecankbaaDoor
set_option maxRecDepth 4000
open Go.RowKit

def Tab10 (w : World) : Prop := Lib.TabIs Tryd.prog w "internal/strconv.uint64pow10" .u64 Lib.pow10Tab
theorem Tab10.below {B : Nat} {w w' : World} (h : Tab10 w) (hB : w.heap.size ≤ B) (hb : Below B w w') : Tab10 w' := by
  unfold Tab10 Lib.TabIs World.var? at h ⊢
  cases hg : Tryd.prog.globalNamed "internal/strconv.uint64pow10" with
  | none => simp [hg] at h
  | some g =>
    simp only [hg, Option.bind_some] at h ⊢
    have hlt : g < w.heap.size := by
      rcases Nat.lt_or_ge g w.heap.size with hl | hl
      · exact hl
      · simp [Array.getElem?_eq_none hl] at h
    rw [← h]
    simp only [hb.block g (by omega)]
theorem str_cat (a b : List UInt8) : str a ++ str b = str (a ++ b) := by
  apply ByteArray.ext
  simp [str]

/-- The text of a number. -/
def numT (e : Int) : List UInt8 := [101, 110, 103, 114, 111, 115, 115, 101, 114, 58, 32, 101, 114, 114, 111, 114] ++ (if e < 0 then [] else 32 :: Lib.itoa e)
/-- The text of a link. -/
def lnkT (y : Lk) : List UInt8 := y.op.data.toList ++ [32] ++ Lib.itoa y.at_ ++ [58, 32]
def chT (ls : List Lk) (e : Int) : List UInt8 := ls.flatMap lnkT ++ numT e
theorem itoa_le (n : Int) (h : -9223372036854775808 ≤ n ∧ n ≤ 9223372036854775807) : (Lib.itoa n).length ≤ 21 := Lib.itoa_length_le n h.1 h.2
theorem numT_le (e : Int) (h : -9223372036854775808 ≤ e ∧ e ≤ 9223372036854775807) : (numT e).length ≤ 40 := by
  have := itoa_le e h
  unfold numT
  split <;> simp <;> omega
theorem lnkT_le (y : Lk) (h : LkOk y) (h2 : y.op.size ≤ 50) : (lnkT y).length ≤ 100 := by
  have := itoa_le y.at_ h.1
  unfold lnkT
  simp only [List.length_append, List.length_cons, List.length_nil, Array.length_toList]
  have : y.op.data.size = y.op.size := rfl
  omega
theorem chT_le {ls : List Lk} {e : Int} (h : ∀ y ∈ ls, LkOk y ∧ y.op.size ≤ 50) (he : -9223372036854775808 ≤ e ∧ e ≤ 9223372036854775807) : (chT ls e).length ≤ ls.length * 100 + 40 := by
  have h1 := numT_le e he
  unfold chT
  rw [List.length_append]
  have : ∀ ls : List Lk, (∀ y ∈ ls, LkOk y ∧ y.op.size ≤ 50) → (ls.flatMap lnkT).length ≤ ls.length * 100 := by
    intro ls
    induction ls with
    | nil => intro _; simp
    | cons y ls ih =>
      intro h
      have h1 := lnkT_le y (h y (by simp)).1 (h y (by simp)).2
      have h2 := ih (fun z hz => h z (List.mem_cons_of_mem _ hz))
      rw [List.flatMap_cons, List.length_append, List.length_cons]
      omega
  have := this ls h
  omega

theorem eerror_any (e : Int) (he : -9223372036854775808 ≤ e ∧ e ≤ 9223372036854775807) (w : World) (hT : Tab10 w) : Calls Tryd.prog 64 #[.int .i64 e] w fun r w' => r = .returned (.string (str (numT e))) ∧ Below w.heap.size w w' := by
  have HI := Lib.hid (itoa_any e he.1 he.2 w hT)
  have hle := itoa_le e he
  by_cases h0 : e < 0
  · have e1 := Lib.hid (show numT e = [101, 110, 103, 114, 111, 115, 115, 101, 114, 58, 32, 101, 114, 114, 111, 114] by unfold numT; rw [if_pos h0]; rfl)
    generalize numT e = T at e1 ⊢
    go_enter Tryd.func64, Tryd.ntmps64
    go_wp2_with fail
    go_ret
    exact ⟨by rw [e1.out]; rfl, Below.refl _ _⟩
  · have hcat : (ByteArray.mk #[101, 110, 103, 114, 111, 115, 115, 101, 114, 58, 32, 101, 114, 114, 111, 114, 32]) ++ str (Lib.itoa e) = str (numT e) := by
      unfold numT
      rw [if_neg h0]
      rw [show ([101, 110, 103, 114, 111, 115, 115, 101, 114, 58, 32, 101, 114, 114, 111, 114] ++ 32 :: Lib.itoa e : List UInt8) = [101, 110, 103, 114, 111, 115, 115, 101, 114, 58, 32, 101, 114, 114, 111, 114, 32] ++ Lib.itoa e by simp, ← str_cat]
      rfl
    obtain ⟨X, hX⟩ : ∃ X, str (Lib.itoa e) = X := ⟨_, rfl⟩
    have hXs : X.size ≤ 21 := by rw [← hX, size_str]; exact hle
    obtain ⟨T, hT'⟩ : ∃ T, str (numT e) = T := ⟨_, rfl⟩
    rw [hX] at HI hcat
    rw [hT'] at hcat ⊢
    have HCT := Lib.hid hcat
    clear hX hT' hcat hle hT
    go_enter Tryd.func64, Tryd.ntmps64
    go_wp2_with fail
    refine HI.out.mono ?_
    rintro r w2 ⟨rfl, hb⟩
    go_wp2_with (simp only [HCT.out])
    go_ret
    exact ⟨by first | rfl | rw [HCT.out], hb⟩

theorem methodErrorP (v : Value) (w : World) : (Go.method 234 29 v "Error").run Tryd.prog w = .ok (11, v) w := by kernel_rfl
theorem methodErrorE (v : Value) (w : World) : (Go.method 234 28 v "Error").run Tryd.prog w = .ok (64, v) w := by kernel_rfl

/-- The text of a fault that wraps something, or nothing. -/
theorem ferror_nil (w : World) : Calls Tryd.prog 11 #[.pointer none] w fun r w' => r = .returned (.string (str [])) ∧ w = w' := by
  go_enter Tryd.func11, Tryd.ntmps11
  go_wp2_with fail
  go_ret
  exact ⟨rfl, rfl⟩
set_option maxHeartbeats 2000000 in
theorem ferror_one (y : Lk) (p : Nat) (w : World) (hb : Blk w p 33 #[.string y.op, .int .i64 y.at_, .nilIface]) (hy : LkOk y) (h50 : y.op.size ≤ 50) (hT : Tab10 w) :
    Calls Tryd.prog 11 #[.pointer (some ⟨p, 0, none⟩)] w fun r w' => r = .returned (.string (str (lnkT y))) ∧ Below w.heap.size w w' := by
  have hle := itoa_le y.at_ hy.1
  have c0 : w.cell? ⟨p, 0, none⟩ = some (.string y.op) := hb.cell 0
  have c1 : w.cell? ⟨p, 1, none⟩ = some (.int .i64 y.at_) := hb.cell 1
  have c2 : w.cell? ⟨p, 2, none⟩ = some .nilIface := hb.cell 2
  have HC2 := Lib.hid (fun w' (h : Below w.heap.size w w') => (World.cell?_of_block (a := ⟨p, 2, none⟩) (h.block p hb.lt)).trans c2)
  have HC0 := Lib.hid (fun w' (h : Below w.heap.size w w') => And.intro ((World.cell?_of_block (a := ⟨p, 0, none⟩) (h.block p hb.lt)).trans c0) ((World.cell?_of_block (a := ⟨p, 1, none⟩) (h.block p hb.lt)).trans c1))
  have HI := Lib.hid (fun w hT => itoa_any y.at_ hy.1.1 hy.1.2 w hT)
  have hTd : Tab10 w.drew := hT.below (Nat.le_refl _) ⟨rfl, rfl, rfl, Nat.le_refl _, fun _ _ => rfl⟩
  have HT := Lib.hid hTd
  obtain ⟨X, hX⟩ : ∃ X, str (Lib.itoa y.at_) = X := ⟨_, rfl⟩
  obtain ⟨U1, hU1⟩ : ∃ U, y.op ++ (ByteArray.mk #[32]) = U := ⟨_, rfl⟩
  obtain ⟨U2, hU2⟩ : ∃ U, U1 ++ X = U := ⟨_, rfl⟩
  obtain ⟨U3, hU3⟩ : ∃ U, U2 ++ (ByteArray.mk #[58, 32]) = U := ⟨_, rfl⟩
  have h1s : U1.size = y.op.size + 1 := by rw [← hU1, ByteArray.size_append]; rfl
  have hXs : X.size ≤ 21 := by rw [← hX, size_str]; exact hle
  have h2s : U2.size = U1.size + X.size := by rw [← hU2, ByteArray.size_append]
  have hfin : U3 = str (lnkT y) := by
    rw [← hU3, ← hU2, ← hU1, ← hX]
    unfold lnkT
    rw [← str_cat, ← str_cat, ← str_cat, str_of]
    rfl
  have n1 : ¬ 9223372036854775807 < y.op.size + 1 := by omega
  have n2 : ¬ 9223372036854775807 < U1.size + X.size := by omega
  have n3 : ¬ 9223372036854775807 < U2.size + 2 := by omega
  have HF := Lib.hid hfin
  clear h1s h2s
  rw [hX] at HI
  obtain ⟨op, at_⟩ := y
  simp only at *
  clear hX hfin hle hy hT hTd hb c2
  go_enter Tryd.func11, Tryd.ntmps11
  go_wp2_with fail
  refine region_fast [(0, true), (1, true), (2, true), (3, true), (4, true), (5, true), (6, true), (7, true), (8, true), (9, false), (10, true), (11, true), (12, true)] [5, 6, 7, 8, 9] 992 [(64, 1, 0, 0), (128, 64, 1, 1), (256, 128, 2, 3), (512, 256, 4, 7), (1024, 512, 8, 15), (2048, 1, 0, 0), (4096, 2048, 32, 32), (8192, 4096, 64, 96), (16384, 8192, 128, 224), (32768, 16384, 256, 480), (65536, 33792, 528, 1023), (131072, 65536, 1024, 2047), (8, 131072, 4095, 4095)] (fun W => W.cell? ⟨p, 0, none⟩ = some (.string op) ∧ W.cell? ⟨p, 1, none⟩ = some (.int .i64 at_)) (by kernel_rfl) (by kernel_rfl) (by kernel_rfl) rfl (by kernel_rfl) (by kernel_rfl) ⟨c0, c1⟩ (fun hS => ?_)
  repeat (first
    | (refine plan_read (v := ?_) rfl (fun _ _ _ h => h) rfl hS ?_ ?_; rotate_left 1; (focus (intro w' hS'; have e0 := hS'.1; have e1 := hS'.2; go_simp; try rfl)); (simp only [Act.put, List.setIfInBounds_toArray]; dsimp only [List.set_cons_zero, List.set_cons_succ]))
    | (refine plan_skip rfl (fun _ _ _ h => h) rfl hS ?_; (simp only [Act.put, List.setIfInBounds_toArray]; dsimp only [List.set_cons_zero, List.set_cons_succ])))
  refine plan_do (by rfl) (by rfl) (fun K hK => ?_)
  go_simp
  refine (HI.out _ HT.out).mono ?_
  rintro r w2 ⟨rfl, hb2⟩
  have hb2' := below_of_drew hb2
  have HB2 := Lib.hid hb2'
  have hS2 := HC0.out w2 hb2'
  clear hb2 hb2'
  refine hK.out _ _ (fun _ => hS2) (fun hS => ?_); clear hK K; replace hS := hS rfl; try (simp only [Act.put, List.setIfInBounds_toArray]; dsimp only [List.set_cons_zero, List.set_cons_succ])
  repeat (first
    | (refine plan_read (v := ?_) rfl (fun _ _ _ h => h) rfl hS ?_ ?_; rotate_left 1; (focus (intro w' hS'; have e0 := hS'.1; have e1 := hS'.2; go_simp; try rfl)); (simp only [Act.put, List.setIfInBounds_toArray]; dsimp only [List.set_cons_zero, List.set_cons_succ]))
    | (refine plan_skip rfl (fun _ _ _ h => h) rfl hS ?_; (simp only [Act.put, List.setIfInBounds_toArray]; dsimp only [List.set_cons_zero, List.set_cons_succ])))
  refine plan_nil ?_
  have c2 := HC2.out w2 HB2.out
  go_wp2_with fail
  go_ret
  exact ⟨by rw [HF.out]; rfl, HB2.out⟩
set_option maxHeartbeats 2000000 in
theorem ferror_stepE (y : Lk) (p : Nat) (x : Value) (R : List UInt8) (hR : R.length ≤ 100000) (w : World) (hcall : ∀ w', Below w.heap.size w w' → Calls Tryd.prog 64 #[x] w' fun r w'' => r = .returned (.string (str R)) ∧ Below w'.heap.size w' w'') (hb : Blk w p 33 #[.string y.op, .int .i64 y.at_, .iface 28 x]) (hy : LkOk y) (h50 : y.op.size ≤ 50) (hT : Tab10 w) :
    Calls Tryd.prog 11 #[.pointer (some ⟨p, 0, none⟩)] w fun r w' => r = .returned (.string (str (lnkT y ++ R))) ∧ Below w.heap.size w w' := by
  have hle := itoa_le y.at_ hy.1
  have c0 : w.cell? ⟨p, 0, none⟩ = some (.string y.op) := hb.cell 0
  have c1 : w.cell? ⟨p, 1, none⟩ = some (.int .i64 y.at_) := hb.cell 1
  have c2 : w.cell? ⟨p, 2, none⟩ = some (.iface 28 x) := hb.cell 2
  have HC2 := Lib.hid (fun w' (h : Below w.heap.size w w') => (World.cell?_of_block (a := ⟨p, 2, none⟩) (h.block p hb.lt)).trans c2)
  have HC0 := Lib.hid (fun w' (h : Below w.heap.size w w') => And.intro ((World.cell?_of_block (a := ⟨p, 0, none⟩) (h.block p hb.lt)).trans c0) ((World.cell?_of_block (a := ⟨p, 1, none⟩) (h.block p hb.lt)).trans c1))
  have HI := Lib.hid (fun w hT => itoa_any y.at_ hy.1.1 hy.1.2 w hT)
  have hTd : Tab10 w.drew := hT.below (Nat.le_refl _) ⟨rfl, rfl, rfl, Nat.le_refl _, fun _ _ => rfl⟩
  have HT := Lib.hid hTd
  obtain ⟨X, hX⟩ : ∃ X, str (Lib.itoa y.at_) = X := ⟨_, rfl⟩
  obtain ⟨U1, hU1⟩ : ∃ U, y.op ++ (ByteArray.mk #[32]) = U := ⟨_, rfl⟩
  obtain ⟨U2, hU2⟩ : ∃ U, U1 ++ X = U := ⟨_, rfl⟩
  obtain ⟨U3, hU3⟩ : ∃ U, U2 ++ (ByteArray.mk #[58, 32]) = U := ⟨_, rfl⟩
  have h1s : U1.size = y.op.size + 1 := by rw [← hU1, ByteArray.size_append]; rfl
  have hXs : X.size ≤ 21 := by rw [← hX, size_str]; exact hle
  have h2s : U2.size = U1.size + X.size := by rw [← hU2, ByteArray.size_append]
  have hfin : U3 = str (lnkT y) := by
    rw [← hU3, ← hU2, ← hU1, ← hX]
    unfold lnkT
    rw [← str_cat, ← str_cat, ← str_cat, str_of]
    rfl
  have n1 : ¬ 9223372036854775807 < y.op.size + 1 := by omega
  have n2 : ¬ 9223372036854775807 < U1.size + X.size := by omega
  have n3 : ¬ 9223372036854775807 < U2.size + 2 := by omega
  have HF := Lib.hid hfin
  have HCL := Lib.hid hcall
  obtain ⟨RS, hRS⟩ : ∃ RS, str R = RS := ⟨_, rfl⟩
  obtain ⟨U4, hU4⟩ : ∃ U, U3 ++ RS = U := ⟨_, rfl⟩
  have h3s : U3.size = U2.size + 2 := by rw [← hU3, ByteArray.size_append]; rfl
  have hRs : RS.size ≤ 100000 := by rw [← hRS, size_str]; exact hR
  have n4 : ¬ 9223372036854775807 < U3.size + RS.size := by omega
  have hfin4 : U4 = str (lnkT y ++ R) := by rw [← hU4, hfin, ← hRS, str_cat]
  have HF4 := Lib.hid hfin4
  rw [hRS] at HCL
  clear h1s h2s h3s
  rw [hX] at HI
  obtain ⟨op, at_⟩ := y
  simp only at *
  clear hX hfin hfin4 hle hy hT hTd hb c2 hcall hRS hR
  go_enter Tryd.func11, Tryd.ntmps11
  go_wp2_with fail
  refine region_fast [(0, true), (1, true), (2, true), (3, true), (4, true), (5, true), (6, true), (7, true), (8, true), (9, false), (10, true), (11, true), (12, true)] [5, 6, 7, 8, 9] 992 [(64, 1, 0, 0), (128, 64, 1, 1), (256, 128, 2, 3), (512, 256, 4, 7), (1024, 512, 8, 15), (2048, 1, 0, 0), (4096, 2048, 32, 32), (8192, 4096, 64, 96), (16384, 8192, 128, 224), (32768, 16384, 256, 480), (65536, 33792, 528, 1023), (131072, 65536, 1024, 2047), (8, 131072, 4095, 4095)] (fun W => W.cell? ⟨p, 0, none⟩ = some (.string op) ∧ W.cell? ⟨p, 1, none⟩ = some (.int .i64 at_)) (by kernel_rfl) (by kernel_rfl) (by kernel_rfl) rfl (by kernel_rfl) (by kernel_rfl) ⟨c0, c1⟩ (fun hS => ?_)
  repeat (first
    | (refine plan_read (v := ?_) rfl (fun _ _ _ h => h) rfl hS ?_ ?_; rotate_left 1; (focus (intro w' hS'; have e0 := hS'.1; have e1 := hS'.2; go_simp; try rfl)); (simp only [Act.put, List.setIfInBounds_toArray]; dsimp only [List.set_cons_zero, List.set_cons_succ]))
    | (refine plan_skip rfl (fun _ _ _ h => h) rfl hS ?_; (simp only [Act.put, List.setIfInBounds_toArray]; dsimp only [List.set_cons_zero, List.set_cons_succ])))
  refine plan_do (by rfl) (by rfl) (fun K hK => ?_)
  go_simp
  refine (HI.out _ HT.out).mono ?_
  rintro r w2 ⟨rfl, hb2⟩
  have hb2' := below_of_drew hb2
  have HB2 := Lib.hid hb2'
  have hS2 := HC0.out w2 hb2'
  clear hb2 hb2'
  refine hK.out _ _ (fun _ => hS2) (fun hS => ?_); clear hK K; replace hS := hS rfl; try (simp only [Act.put, List.setIfInBounds_toArray]; dsimp only [List.set_cons_zero, List.set_cons_succ])
  repeat (first
    | (refine plan_read (v := ?_) rfl (fun _ _ _ h => h) rfl hS ?_ ?_; rotate_left 1; (focus (intro w' hS'; have e0 := hS'.1; have e1 := hS'.2; go_simp; try rfl)); (simp only [Act.put, List.setIfInBounds_toArray]; dsimp only [List.set_cons_zero, List.set_cons_succ]))
    | (refine plan_skip rfl (fun _ _ _ h => h) rfl hS ?_; (simp only [Act.put, List.setIfInBounds_toArray]; dsimp only [List.set_cons_zero, List.set_cons_succ])))
  refine plan_nil ?_
  have c2 := HC2.out w2 HB2.out
  have hm := methodErrorE
  go_wp2_with fail
  refine (HCL.out w2 HB2.out).mono ?_
  rintro r w3 ⟨rfl, hb3⟩
  have HB3 := Lib.hid (HB2.out.trans (hb3.mono HB2.out.size))
  clear hb3 hm
  go_wp2_with fail
  go_ret
  exact ⟨by rw [HF4.out]; rfl, HB3.out⟩
set_option maxHeartbeats 2000000 in
theorem ferror_stepP (y : Lk) (p : Nat) (x : Value) (R : List UInt8) (hR : R.length ≤ 100000) (w : World) (hcall : ∀ w', Below w.heap.size w w' → Calls Tryd.prog 11 #[x] w' fun r w'' => r = .returned (.string (str R)) ∧ Below w'.heap.size w' w'') (hb : Blk w p 33 #[.string y.op, .int .i64 y.at_, .iface 29 x]) (hy : LkOk y) (h50 : y.op.size ≤ 50) (hT : Tab10 w) :
    Calls Tryd.prog 11 #[.pointer (some ⟨p, 0, none⟩)] w fun r w' => r = .returned (.string (str (lnkT y ++ R))) ∧ Below w.heap.size w w' := by
  have hle := itoa_le y.at_ hy.1
  have c0 : w.cell? ⟨p, 0, none⟩ = some (.string y.op) := hb.cell 0
  have c1 : w.cell? ⟨p, 1, none⟩ = some (.int .i64 y.at_) := hb.cell 1
  have c2 : w.cell? ⟨p, 2, none⟩ = some (.iface 29 x) := hb.cell 2
  have HC2 := Lib.hid (fun w' (h : Below w.heap.size w w') => (World.cell?_of_block (a := ⟨p, 2, none⟩) (h.block p hb.lt)).trans c2)
  have HC0 := Lib.hid (fun w' (h : Below w.heap.size w w') => And.intro ((World.cell?_of_block (a := ⟨p, 0, none⟩) (h.block p hb.lt)).trans c0) ((World.cell?_of_block (a := ⟨p, 1, none⟩) (h.block p hb.lt)).trans c1))
  have HI := Lib.hid (fun w hT => itoa_any y.at_ hy.1.1 hy.1.2 w hT)
  have hTd : Tab10 w.drew := hT.below (Nat.le_refl _) ⟨rfl, rfl, rfl, Nat.le_refl _, fun _ _ => rfl⟩
  have HT := Lib.hid hTd
  obtain ⟨X, hX⟩ : ∃ X, str (Lib.itoa y.at_) = X := ⟨_, rfl⟩
  obtain ⟨U1, hU1⟩ : ∃ U, y.op ++ (ByteArray.mk #[32]) = U := ⟨_, rfl⟩
  obtain ⟨U2, hU2⟩ : ∃ U, U1 ++ X = U := ⟨_, rfl⟩
  obtain ⟨U3, hU3⟩ : ∃ U, U2 ++ (ByteArray.mk #[58, 32]) = U := ⟨_, rfl⟩
  have h1s : U1.size = y.op.size + 1 := by rw [← hU1, ByteArray.size_append]; rfl
  have hXs : X.size ≤ 21 := by rw [← hX, size_str]; exact hle
  have h2s : U2.size = U1.size + X.size := by rw [← hU2, ByteArray.size_append]
  have hfin : U3 = str (lnkT y) := by
    rw [← hU3, ← hU2, ← hU1, ← hX]
    unfold lnkT
    rw [← str_cat, ← str_cat, ← str_cat, str_of]
    rfl
  have n1 : ¬ 9223372036854775807 < y.op.size + 1 := by omega
  have n2 : ¬ 9223372036854775807 < U1.size + X.size := by omega
  have n3 : ¬ 9223372036854775807 < U2.size + 2 := by omega
  have HF := Lib.hid hfin
  have HCL := Lib.hid hcall
  obtain ⟨RS, hRS⟩ : ∃ RS, str R = RS := ⟨_, rfl⟩
  obtain ⟨U4, hU4⟩ : ∃ U, U3 ++ RS = U := ⟨_, rfl⟩
  have h3s : U3.size = U2.size + 2 := by rw [← hU3, ByteArray.size_append]; rfl
  have hRs : RS.size ≤ 100000 := by rw [← hRS, size_str]; exact hR
  have n4 : ¬ 9223372036854775807 < U3.size + RS.size := by omega
  have hfin4 : U4 = str (lnkT y ++ R) := by rw [← hU4, hfin, ← hRS, str_cat]
  have HF4 := Lib.hid hfin4
  rw [hRS] at HCL
  clear h1s h2s h3s
  rw [hX] at HI
  obtain ⟨op, at_⟩ := y
  simp only at *
  clear hX hfin hfin4 hle hy hT hTd hb c2 hcall hRS hR
  go_enter Tryd.func11, Tryd.ntmps11
  go_wp2_with fail
  refine region_fast [(0, true), (1, true), (2, true), (3, true), (4, true), (5, true), (6, true), (7, true), (8, true), (9, false), (10, true), (11, true), (12, true)] [5, 6, 7, 8, 9] 992 [(64, 1, 0, 0), (128, 64, 1, 1), (256, 128, 2, 3), (512, 256, 4, 7), (1024, 512, 8, 15), (2048, 1, 0, 0), (4096, 2048, 32, 32), (8192, 4096, 64, 96), (16384, 8192, 128, 224), (32768, 16384, 256, 480), (65536, 33792, 528, 1023), (131072, 65536, 1024, 2047), (8, 131072, 4095, 4095)] (fun W => W.cell? ⟨p, 0, none⟩ = some (.string op) ∧ W.cell? ⟨p, 1, none⟩ = some (.int .i64 at_)) (by kernel_rfl) (by kernel_rfl) (by kernel_rfl) rfl (by kernel_rfl) (by kernel_rfl) ⟨c0, c1⟩ (fun hS => ?_)
  repeat (first
    | (refine plan_read (v := ?_) rfl (fun _ _ _ h => h) rfl hS ?_ ?_; rotate_left 1; (focus (intro w' hS'; have e0 := hS'.1; have e1 := hS'.2; go_simp; try rfl)); (simp only [Act.put, List.setIfInBounds_toArray]; dsimp only [List.set_cons_zero, List.set_cons_succ]))
    | (refine plan_skip rfl (fun _ _ _ h => h) rfl hS ?_; (simp only [Act.put, List.setIfInBounds_toArray]; dsimp only [List.set_cons_zero, List.set_cons_succ])))
  refine plan_do (by rfl) (by rfl) (fun K hK => ?_)
  go_simp
  refine (HI.out _ HT.out).mono ?_
  rintro r w2 ⟨rfl, hb2⟩
  have hb2' := below_of_drew hb2
  have HB2 := Lib.hid hb2'
  have hS2 := HC0.out w2 hb2'
  clear hb2 hb2'
  refine hK.out _ _ (fun _ => hS2) (fun hS => ?_); clear hK K; replace hS := hS rfl; try (simp only [Act.put, List.setIfInBounds_toArray]; dsimp only [List.set_cons_zero, List.set_cons_succ])
  repeat (first
    | (refine plan_read (v := ?_) rfl (fun _ _ _ h => h) rfl hS ?_ ?_; rotate_left 1; (focus (intro w' hS'; have e0 := hS'.1; have e1 := hS'.2; go_simp; try rfl)); (simp only [Act.put, List.setIfInBounds_toArray]; dsimp only [List.set_cons_zero, List.set_cons_succ]))
    | (refine plan_skip rfl (fun _ _ _ h => h) rfl hS ?_; (simp only [Act.put, List.setIfInBounds_toArray]; dsimp only [List.set_cons_zero, List.set_cons_succ])))
  refine plan_nil ?_
  have c2 := HC2.out w2 HB2.out
  have hm := methodErrorP
  go_wp2_with fail
  refine (HCL.out w2 HB2.out).mono ?_
  rintro r w3 ⟨rfl, hb3⟩
  have HB3 := Lib.hid (HB2.out.trans (hb3.mono HB2.out.size))
  clear hb3 hm
  go_wp2_with fail
  go_ret
  exact ⟨by rw [HF4.out]; rfl, HB3.out⟩

/-- The text of a chain. -/
theorem ferror_chain : ∀ (ls : List Lk) (y : Lk) (p : Nat) (e : Int) (w : World), Chn w (.iface 29 (.pointer (some ⟨p, 0, none⟩))) (y :: ls) e → (∀ z ∈ y :: ls, LkOk z ∧ z.op.size ≤ 50) → ls.length ≤ 100 → (-9223372036854775808 ≤ e ∧ e ≤ 9223372036854775807) → Tab10 w →
    Calls Tryd.prog 11 #[.pointer (some ⟨p, 0, none⟩)] w fun r w' => r = .returned (.string (str (chT (y :: ls) e))) ∧ Below w.heap.size w w'
  | [], y, p, e, w, ⟨q, v', h1, hb, hv⟩, hy, _, he, hT => by
    injection h1 with _ h1
    injection h1 with h1
    injection h1 with h1
    injection h1 with h1
    subst h1
    have hv' : v' = .iface 28 (.int .i64 e) := hv
    subst hv'
    have hr := ferror_stepE y p (.int .i64 e) (numT e) (by have := numT_le e he; omega) w (fun w' h => eerror_any e he w' (hT.below (Nat.le_refl _) h)) hb (hy y (by simp)).1 (hy y (by simp)).2 hT
    have e1 : chT [y] e = lnkT y ++ numT e := by unfold chT; simp
    rw [e1]
    exact hr
  | z :: ls, y, p, e, w, ⟨q, v', h1, hb, hv⟩, hy, hl, he, hT => by
    injection h1 with _ h1
    injection h1 with h1
    injection h1 with h1
    injection h1 with h1
    subst h1
    have hv0 := hv
    obtain ⟨q2, v2, rfl, -, -⟩ := hv0
    have hsub : ∀ x ∈ z :: ls, LkOk x ∧ x.op.size ≤ 50 := fun x hx => hy x (List.mem_cons_of_mem _ hx)
    have hlen : ls.length + 1 ≤ 100 := hl
    have hr := ferror_stepP y p (.pointer (some ⟨q2, 0, none⟩)) (chT (z :: ls) e) (by have := chT_le hsub he; rw [List.length_cons] at this; omega) w
      (fun w' h => ferror_chain ls z q2 e w' (hv.keep h) hsub (by omega) he (hT.below (Nat.le_refl _) h)) hb (hy y (by simp)).1 (hy y (by simp)).2 hT
    have e1 : chT (y :: z :: ls) e = lnkT y ++ chT (z :: ls) e := by unfold chT; simp [List.append_assoc]
    rw [e1]
    exact hr
end Go.Proofs.YtnfcnjnecankbaaDoor
