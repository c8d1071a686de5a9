/-
  Put of either side, at whatever term.
-/
import Derived.Test.YtphhlfochapecaaDoorTermR2
namespace Go.Proofs.YtphhlfochapecaaDoor
set_option maxRecDepth 4000
open Go.RowKit

theorem rput_no (v : Value) (t : Tm) (l : List Tm) (base : Nat) (w : World) (h : LIs w base v l) (hr : okT l.length t = false) (hll : l.length ≤ 4096) :
    Calls Tryd.prog 19 #[v, tval t] w fun e w' => e = .returned (.tuple #[v, .int .i64 0, .int .i64 2]) ∧ Below w.heap.size w w' := by
  obtain ⟨A, c, rfl⟩ := own_shape h
  obtain ⟨k, a, x, y⟩ := t
  have hB : ∀ o, Below w.heap.size w (w.alloc o) := fun o => (Below.refl _ _).alloc (Nat.le_refl _) o
  have hbox := Blk.new w 45 #[.int .i64 k, .int .i64 a, .int .i64 x, .int .i64 y]
  have HB := Lib.hid (hB (.cells #[.int .i64 k, .int .i64 a, .int .i64 x, .int .i64 y] 45)); clear hB
  have HX := Lib.hid hbox
  have HL := Lib.hid (own_below h HB.out); clear h
  have HR := Lib.hid (fun w => rright_any ⟨k, a, x, y⟩ l.length w)
  rw [hr] at HR
  have b0 : (w.alloc (.cells #[.int .i64 k, .int .i64 a, .int .i64 x, .int .i64 y] 45)).cell? ⟨w.heap.size, 0, none⟩ = some (.int .i64 k) := hbox.cell 0
  have b1 : (w.alloc (.cells #[.int .i64 k, .int .i64 a, .int .i64 x, .int .i64 y] 45)).cell? ⟨w.heap.size, 1, none⟩ = some (.int .i64 a) := hbox.cell 1
  have b2 : (w.alloc (.cells #[.int .i64 k, .int .i64 a, .int .i64 x, .int .i64 y] 45)).cell? ⟨w.heap.size, 2, none⟩ = some (.int .i64 x) := hbox.cell 2
  have b3 : (w.alloc (.cells #[.int .i64 k, .int .i64 a, .int .i64 x, .int .i64 y] 45)).cell? ⟨w.heap.size, 3, none⟩ = some (.int .i64 y) := hbox.cell 3
  clear hbox
  unfold tval
  go_enter Tryd.func19, Tryd.ntmps19
  go_wp2_with fail
  refine (HR.out _).mono ?_
  rintro e w2 ⟨rfl, bel2⟩
  go_wp2_with fail
  go_ret3
  exact ⟨rfl, HB.out.trans (bel2.mono HB.out.size)⟩
theorem rput_old (v : Value) (t : Tm) (l : List Tm) (base : Nat) (w : World) (h : LIs w base v l) (hr : okT l.length t = true) (hm : t ∈ l) (hll : l.length ≤ 4096) :
    Calls Tryd.prog 19 #[v, tval t] w fun e w' => e = .returned (.tuple #[v, .int .i64 (l.idxOf t), .int .i64 0]) ∧ Below w.heap.size w w' := by
  obtain ⟨A, c, rfl⟩ := own_shape h
  obtain ⟨k, a, x, y⟩ := t
  have hB : ∀ o, Below w.heap.size w (w.alloc o) := fun o => (Below.refl _ _).alloc (Nat.le_refl _) o
  have hbox := Blk.new w 45 #[.int .i64 k, .int .i64 a, .int .i64 x, .int .i64 y]
  have HB := Lib.hid (hB (.cells #[.int .i64 k, .int .i64 a, .int .i64 x, .int .i64 y] 45)); clear hB
  have HX := Lib.hid hbox
  have HL := Lib.hid (own_below h HB.out); clear h
  have HR := Lib.hid (fun w => rright_any ⟨k, a, x, y⟩ l.length w)
  rw [hr] at HR
  have HFI := Lib.hid (fun v l base w h hl => rfind_any v ⟨k, a, x, y⟩ l base w h hl)
  have hnum : numT l ⟨k, a, x, y⟩ = l.idxOf (⟨k, a, x, y⟩ : Tm) := if_pos hm
  generalize l.idxOf (⟨k, a, x, y⟩ : Tm) = N at *
  have HN := Lib.hid hnum; clear hnum hm hr
  have b0 : (w.alloc (.cells #[.int .i64 k, .int .i64 a, .int .i64 x, .int .i64 y] 45)).cell? ⟨w.heap.size, 0, none⟩ = some (.int .i64 k) := hbox.cell 0
  have b1 : (w.alloc (.cells #[.int .i64 k, .int .i64 a, .int .i64 x, .int .i64 y] 45)).cell? ⟨w.heap.size, 1, none⟩ = some (.int .i64 a) := hbox.cell 1
  have b2 : (w.alloc (.cells #[.int .i64 k, .int .i64 a, .int .i64 x, .int .i64 y] 45)).cell? ⟨w.heap.size, 2, none⟩ = some (.int .i64 x) := hbox.cell 2
  have b3 : (w.alloc (.cells #[.int .i64 k, .int .i64 a, .int .i64 x, .int .i64 y] 45)).cell? ⟨w.heap.size, 3, none⟩ = some (.int .i64 y) := hbox.cell 3
  clear hbox
  unfold tval
  go_enter Tryd.func19, Tryd.ntmps19
  go_wp2_with fail
  refine (HR.out _).mono ?_
  rintro e w2 ⟨rfl, bel2⟩
  have HX2 := Lib.hid (HX.out.keep (bel2.block _ HX.out.lt))
  have HL2 := Lib.hid (own_below HL.out bel2)
  have HB2 := Lib.hid (HB.out.trans (bel2.mono HB.out.size))
  clear b0 b1 b2 b3
  have b0 : w2.cell? ⟨w.heap.size, 0, none⟩ = some (.int .i64 k) := HX2.out.cell 0
  have b1 : w2.cell? ⟨w.heap.size, 1, none⟩ = some (.int .i64 a) := HX2.out.cell 1
  have b2 : w2.cell? ⟨w.heap.size, 2, none⟩ = some (.int .i64 x) := HX2.out.cell 2
  have b3 : w2.cell? ⟨w.heap.size, 3, none⟩ = some (.int .i64 y) := HX2.out.cell 3
  go_wp2_with fail
  refine (HFI.out _ l base w2 HL2.out (by omega)).mono ?_
  rintro e w3 ⟨rfl, bel3⟩
  rw [HN.out]
  go_wp2_with fail
  go_ret3
  exact ⟨rfl, HB2.out.trans (bel3.mono HB2.out.size)⟩
theorem rput_full (v : Value) (t : Tm) (l : List Tm) (base : Nat) (w : World) (h : LIs w base v l) (hr : okT l.length t = true) (hm : t ∉ l) (hf : l.length = 4096) (hll : l.length ≤ 4096) :
    Calls Tryd.prog 19 #[v, tval t] w fun e w' => e = .returned (.tuple #[v, .int .i64 0, .int .i64 21]) ∧ Below w.heap.size w w' := by
  obtain ⟨A, c, rfl⟩ := own_shape h
  obtain ⟨k, a, x, y⟩ := t
  have hB : ∀ o, Below w.heap.size w (w.alloc o) := fun o => (Below.refl _ _).alloc (Nat.le_refl _) o
  have hbox := Blk.new w 45 #[.int .i64 k, .int .i64 a, .int .i64 x, .int .i64 y]
  have HB := Lib.hid (hB (.cells #[.int .i64 k, .int .i64 a, .int .i64 x, .int .i64 y] 45)); clear hB
  have HX := Lib.hid hbox
  have HL := Lib.hid (own_below h HB.out); clear h
  have HR := Lib.hid (fun w => rright_any ⟨k, a, x, y⟩ l.length w)
  rw [hr] at HR
  have HFI := Lib.hid (fun v l base w h hl => rfind_any v ⟨k, a, x, y⟩ l base w h hl)
  have hnum : numT l ⟨k, a, x, y⟩ = -1 := if_neg hm
  have hfi : ((l.length : Int) == 4096) = true := by simp; omega
  have HN := Lib.hid hnum; clear hnum hm hr hf
  have b0 : (w.alloc (.cells #[.int .i64 k, .int .i64 a, .int .i64 x, .int .i64 y] 45)).cell? ⟨w.heap.size, 0, none⟩ = some (.int .i64 k) := hbox.cell 0
  have b1 : (w.alloc (.cells #[.int .i64 k, .int .i64 a, .int .i64 x, .int .i64 y] 45)).cell? ⟨w.heap.size, 1, none⟩ = some (.int .i64 a) := hbox.cell 1
  have b2 : (w.alloc (.cells #[.int .i64 k, .int .i64 a, .int .i64 x, .int .i64 y] 45)).cell? ⟨w.heap.size, 2, none⟩ = some (.int .i64 x) := hbox.cell 2
  have b3 : (w.alloc (.cells #[.int .i64 k, .int .i64 a, .int .i64 x, .int .i64 y] 45)).cell? ⟨w.heap.size, 3, none⟩ = some (.int .i64 y) := hbox.cell 3
  clear hbox
  unfold tval
  go_enter Tryd.func19, Tryd.ntmps19
  go_wp2_with fail
  refine (HR.out _).mono ?_
  rintro e w2 ⟨rfl, bel2⟩
  have HX2 := Lib.hid (HX.out.keep (bel2.block _ HX.out.lt))
  have HL2 := Lib.hid (own_below HL.out bel2)
  have HB2 := Lib.hid (HB.out.trans (bel2.mono HB.out.size))
  clear b0 b1 b2 b3
  have b0 : w2.cell? ⟨w.heap.size, 0, none⟩ = some (.int .i64 k) := HX2.out.cell 0
  have b1 : w2.cell? ⟨w.heap.size, 1, none⟩ = some (.int .i64 a) := HX2.out.cell 1
  have b2 : w2.cell? ⟨w.heap.size, 2, none⟩ = some (.int .i64 x) := HX2.out.cell 2
  have b3 : w2.cell? ⟨w.heap.size, 3, none⟩ = some (.int .i64 y) := HX2.out.cell 3
  go_wp2_with fail
  refine (HFI.out _ l base w2 HL2.out (by omega)).mono ?_
  rintro e w3 ⟨rfl, bel3⟩
  rw [HN.out]
  go_wp2_with fail
  go_ret3
  exact ⟨rfl, HB2.out.trans (bel3.mono HB2.out.size)⟩

theorem rput_any (v : Value) (t : Tm) (l : List Tm) (base : Nat) (w : World) (h : LIs w base v l) (hll : l.length ≤ 4096) (hb : base ≤ w.heap.size) :
    Calls Tryd.prog 19 #[v, tval t] w fun e w' => ∃ v', e = .returned (.tuple #[v', .int .i64 (putT l t).2.1, .int .i64 (putT l t).2.2]) ∧ LIs w' base v' (putT l t).1 ∧ Below w.heap.size w w' ∧ ∀ g, v'.ownBlock = some g → v.ownBlock = some g ∨ w.heap.size ≤ g := by
  cases hr : okT l.length t with
  | false =>
    have e : putT l t = (l, 0, 2) := by simp [putT, hr]
    rw [e]
    exact (rput_no v t l base w h hr hll).mono fun e w' hh => ⟨v, hh.1, own_below h hh.2, hh.2, fun _ h => .inl h⟩
  | true =>
    by_cases hm : t ∈ l
    · have e : putT l t = (l, (l.idxOf t : Int), 0) := by unfold putT; rw [if_pos hr, if_pos hm]
      rw [e]
      exact (rput_old v t l base w h hr hm hll).mono fun e w' hh => ⟨v, hh.1, own_below h hh.2, hh.2, fun _ h => .inl h⟩
    · by_cases hf : l.length = 4096
      · have e : putT l t = (l, 0, 21) := by unfold putT; rw [if_pos hr, if_neg hm, if_pos hf]
        rw [e]
        exact (rput_full v t l base w h hr hm hf hll).mono fun e w' hh => ⟨v, hh.1, own_below h hh.2, hh.2, fun _ h => .inl h⟩
      · have e : putT l t = (l ++ [t], (l.length : Int), 0) := by unfold putT; rw [if_pos hr, if_neg hm, if_neg hf]
        rw [e]
        exact (rput_new v t l base w h hr hm (by omega) hb).mono fun e w' hh => by
          obtain ⟨v', h1, h2, h3⟩ := hh
          exact ⟨v', h1, own_base h2 hb, h3, fun g hg => .inr (h2.lt g hg).1⟩

theorem PoolIn.of {w' : World} {base p : Nat} {l : List Tm} {G : Nat → Prop} {tA : Option Addr} {tc mb : Nat} {dA : Option Addr} {dc : Nat} {sA : Option Addr} {sc : Nat} (h : PoolParts w' base p l tA tc mb dA dc sA sc) (i : InG G p mb l.length tA tc dA dc sA sc) (n : Nat) :
    PoolIn w' base p l (fun k => G k ∨ n ≤ k) :=
  ⟨_, _, _, _, _, _, _, h, ⟨.inl i.hp, .inl i.hm, fun g h => .inl (i.ht g h), fun g h => .inl (i.hd g h), fun g h => .inl (i.hs g h)⟩⟩
theorem put_any (p : Nat) (t : Tm) (l : List Tm) (base : Nat) (w : World) (G : Nat → Prop) (hP : PoolIn w base p l G) (hp : Pool l) (hll : l.length ≤ 4096) (hwf : wfT t) (hT : Tab10 w) :
    Calls Tryd.prog 18 #[.pointer (some ⟨p, 0, none⟩), tval t] w fun e w' => e = .returned (.tuple #[.int .i64 (putT l t).2.1, .int .i64 (putT l t).2.2]) ∧ PoolIn w' base p (putT l t).1 (fun k => G k ∨ w.heap.size ≤ k) ∧ Fr G w w' := by
  have hP0 := hP
  obtain ⟨tA, tc, mb, dA, dc, sA, sc, hPP, hi⟩ := hP
  cases hr : okT l.length t with
  | false =>
    have e : putT l t = (l, 0, 2) := by simp [putT, hr]
    rw [e]
    exact (put_no p t l base w hPP hr).mono fun e w' hh => ⟨hh.1, PoolIn.of hh.2.1 hi _, Fr.of_below hh.2.2 _⟩
  | true =>
    by_cases hm : t ∈ l
    · have e : putT l t = (l, (l.idxOf t : Int), 0) := by unfold putT; rw [if_pos hr, if_pos hm]
      rw [e]
      exact (put_old p t l base w hPP hr hm).mono fun e w' hh => ⟨hh.1, PoolIn.of hh.2.1 hi _, Fr.of_below hh.2.2 _⟩
    · by_cases hf : l.length = 4096
      · have e : putT l t = (l, 0, 21) := by unfold putT; rw [if_pos hr, if_neg hm, if_pos hf]
        rw [e]
        exact (put_full p t l base w hPP hr hm hf).mono fun e w' hh => ⟨hh.1, PoolIn.of hh.2.1 hi _, Fr.of_below hh.2.2 _⟩
      · have e : putT l t = (l ++ [t], (l.length : Int), 0) := by unfold putT; rw [if_pos hr, if_neg hm, if_neg hf]
        rw [e]
        exact put_new p t l base w G hP0 hp hr hm (by omega) hwf hT
end Go.Proofs.YtphhlfochapecaaDoor
