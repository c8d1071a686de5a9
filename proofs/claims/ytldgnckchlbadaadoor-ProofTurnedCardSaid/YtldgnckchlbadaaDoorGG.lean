/-
  The pen: octets that are written one behind the other.
  The code's text with its checksum.
-/
import Derived.Test.YtldgnckchlbadaaDoorGD
import Derived.Test.YtldgnckchlbadaaDoorGC
import Derived.Test.YtldgnckchlbadaaDoorGB
namespace Go.Proofs.YtldgnckchlbadaaDoor
set_option maxRecDepth 4000
open Go.RowKit


theorem own_form {w : World} {base e size n : Nat} {v : Value} {xs : List Value} (h : w.ownsRow base e size v n xs) : ∃ A k c, v = .slice A k c := by
  rcases h.2 with ⟨rfl, _⟩ | ⟨g, cap, cur, rfl, _⟩
  · exact ⟨_, _, _, rfl⟩
  · exact ⟨_, _, _, rfl⟩

/-- A pen that has written l; whatever is its own lies from base on. -/
def Pen (w : World) (base p : Nat) (l : List UInt8) : Prop :=
  base ≤ p ∧ ∃ v, Blk w p 120 #[v, .bool false] ∧ w.ownsRow base 5 1 v l.length (u8s l)
theorem Pen.lt {w : World} {base p : Nat} {l : List UInt8} (h : Pen w base p l) : p < w.heap.size := by
  obtain ⟨_, v, hb, _⟩ := h; exact hb.lt
theorem Pen.base {w : World} {base p : Nat} {l : List UInt8} (h : Pen w base p l) : base ≤ p := h.1
theorem Pen.keep {w w' : World} {base p : Nat} {l : List UInt8} (h : Pen w base p l) (hb : Below w.heap.size w w') : Pen w' base p l := by
  obtain ⟨h1, v, h2, h3⟩ := h
  exact ⟨h1, v, h2.below hb h2.lt, own_below h3 hb⟩

/-- A block that is none of a pen's own. -/
def Apart (w : World) (p q : Nat) : Prop := q ≠ p ∧ ∀ v, w.cell? ⟨p, 0, none⟩ = some v → v.ownBlock ≠ some q
/-- What a pen's call leaves alone. -/
def PenStep (w : World) (p : Nat) (w' : World) : Prop := w.heap.size ≤ w'.heap.size ∧ ∀ q, q < w.heap.size → Apart w p q → w'.heap[q]? = w.heap[q]? ∧ Apart w' p q
theorem PenStep.refl (w : World) (p : Nat) : PenStep w p w := ⟨Nat.le_refl _, fun _ _ h => ⟨rfl, h⟩⟩
theorem PenStep.trans {w w1 w2 : World} {p : Nat} (h : PenStep w p w1) (k : PenStep w1 p w2) : PenStep w p w2 :=
  ⟨Nat.le_trans h.1 k.1, fun q hq ha => by
    obtain ⟨e1, a1⟩ := h.2 q hq ha
    obtain ⟨e2, a2⟩ := k.2 q (Nat.lt_of_lt_of_le hq h.1) a1
    exact ⟨e2.trans e1, a2⟩⟩
theorem PenStep.step {wr W1 w1 : World} {p : Nat} {t : TypeId} {v v1 x y : Value} (hb : Blk wr p t #[v, x]) (hW : Below wr.heap.size wr W1) (hgr : W1.grownBy w1 v.ownBlock) (hb1 : Blk w1 p t #[v, y])
    (hat : v1.ownBlock = v.ownBlock ∨ v1.ownBlock = some W1.heap.size) : PenStep wr p (w1.setCell ⟨p, 0, none⟩ v1) := by
  have hs := hW.size
  have hs2 := hgr.size
  refine ⟨by simp only [World.setCell, Array.size_modify]; omega, fun q hq ⟨hqp, hqv⟩ => ?_⟩
  have hv : v.ownBlock ≠ some q := hqv v (by rw [hb.cell]; rfl)
  refine ⟨?_, hqp, fun u hu => ?_⟩
  · rw [Below.heap_setCell _ _ _ _ hqp, hgr.block q (by omega) (fun e => hv e.symm)]
    exact hW.block q hq
  · have := (hb1.set_ 0 v1).cell 0
    rw [this] at hu
    have hu' : u = v1 := by simpa using hu.symm
    subst hu'
    rcases hat with e | e
    · rw [e]; exact hv
    · rw [e]; intro h; injection h with h; omega

theorem new_any (w : World) : Calls Tryd.prog 48 #[] w fun e w' => e = .returned (.pointer (some ⟨w.heap.size, 0, none⟩)) ∧ Pen w' w.heap.size w.heap.size [] ∧ Below w.heap.size w w' := by
  go_enter Tryd.func48, Tryd.ntmps48
  go_wp2_with fail
  go_ret
  exact ⟨rfl, ⟨Nat.le_refl _, .slice none 0 0, Blk.newAt rfl rfl, World.ownsRow_nil _ _ _ _⟩, (Below.refl _ _).alloc (Nat.le_refl _) _⟩

theorem raw_anyS (base p : Nat) (l m : List UInt8) (A : Option Addr) (n c : Nat) (w : World) (hP : Pen w base p l) (hS : Sees w 1 A n (u8s m)) (hm : m.length = n) (hl : l.length + n ≤ 1000000) :
    Calls Tryd.prog 51 #[.pointer (some ⟨p, 0, none⟩), .slice A n c] w fun e w' => e = .returned (.tuple #[]) ∧ Pen w' base p (l ++ m) ∧ Below base w w' ∧ PenStep w p w' := by
  obtain ⟨hbp, v, hb, hown⟩ := hP
  have hplt := hb.lt
  have hc0 : w.cell? ⟨p, 0, none⟩ = some v := by rw [hb.cell]; rfl
  have hc1 : w.cell? ⟨p, 1, none⟩ = some (.bool false) := by rw [hb.cell]; rfl
  have hne := own_ne hown hb (by decide)
  have HB := Lib.hid hb; have HO := Lib.hid hown; have HS := Lib.hid hS; have HNE := Lib.hid hne; clear hb hown hS hne
  go_enter Tryd.func51, Tryd.ntmps51
  go_wp2_with (at_builtin; refine wpList_app rfl (.tmp 13) (.tmp 14) _ rfl base 5 _ 1 1 Tryd.underlying35 info_byte rfl (by decide) v l.length (u8s l) rfl HO.out A n c (u8s m) rfl HS.out (u8s_one m) (by unfold maxLen; omega) (by omega) (by omega) ?_; intro v1 w1 hown1 hgr1 hat1 hnil1; obtain ⟨A1, k1, c1, rfl⟩ := own_form hown1; have hfr := Fr.of_grown hgr1 (F := fun k => v.ownBlock = some k) (fun k h => h); have hb1 := HB.out.fr hfr (fun h => HNE.out _ h rfl); have hf0 : w1.frozen? ⟨p, 0, none⟩ = false := hb1.frozen 0; have hc2 : w1.cell? ⟨p, 0, none⟩ = some v := (by rw [hb1.cell]; rfl); have HOWN1 := Lib.hid hown1; have HFR := Lib.hid hfr; have HB1 := Lib.hid hb1; have HAT := Lib.hid hat1; have HGR := Lib.hid hgr1; clear hown1 hfr hb1 hat1 hnil1 hgr1)
  refine bodyPost_end (results_none rfl _ _ _) rfl ?_
  have hsz := HFR.out.size
  have hne1 : ∀ g, (Value.slice A1 k1 c1).ownBlock = some g → g ≠ p := fun g hg => by
    rcases HAT.out with e | e
    · exact HNE.out g (by rw [← e]; exact hg)
    · rw [hg] at e; injection e with e; omega
  refine ⟨rfl, ⟨hbp, .slice A1 k1 c1, ?_, ?_⟩, ?_, PenStep.step HB.out (Below.refl _ _) HGR.out HB1.out HAT.out⟩
  · exact HB1.out.set_ 0 (.slice A1 k1 c1)
  · have h := own_keep HOWN1.out (w' := w1.setCell ⟨p, 0, none⟩ (.slice A1 k1 c1)) (fun g hg => Below.heap_setCell _ _ _ _ (hne1 g hg))
    rw [List.length_append, hm, u8s_append]
    exact h
  · exact ((Below.refl base w).grown HGR.out (by omega) (fun k hk => (HO.out.lt k hk).1)).setCell hbp _
theorem raw_any (base p : Nat) (l m : List UInt8) (A : Option Addr) (n c : Nat) (w : World) (hP : Pen w base p l) (hS : Sees w 1 A n (u8s m)) (hm : m.length = n) (hl : l.length + n ≤ 1000000) :
    Calls Tryd.prog 51 #[.pointer (some ⟨p, 0, none⟩), .slice A n c] w fun e w' => e = .returned (.tuple #[]) ∧ Pen w' base p (l ++ m) ∧ Below base w w' :=
  (raw_anyS base p l m A n c w hP hS hm hl).mono fun _ _ h => ⟨h.1, h.2.1, h.2.2.1⟩

theorem be_get (n : Nat) : ∀ (k j : Nat), j < k → (be n k).take (j + 1) = (be n k).take j ++ [UInt8.ofNat (n / 256 ^ (k - 1 - j) % 256)]
  | k + 1, 0, _ => by simp [be]
  | k + 1, j + 1, h => by
    rw [be, List.take_succ_cons, List.take_succ_cons, be_get n k j (by omega), List.cons_append, show k + 1 - 1 - (j + 1) = k - 1 - j by omega]

theorem num_anyS (base p : Nat) (l : List UInt8) (n k : Nat) (w : World) (hP : Pen w base p l) (hn : n < 18446744073709551616) (hk : k ≤ 8) (hl : l.length ≤ 1000000) :
    Calls Tryd.prog 66 #[.pointer (some ⟨p, 0, none⟩), .int .u64 n, .int .i64 k] w fun e w' => e = .returned (.tuple #[]) ∧ Pen w' base p (l ++ be n k) ∧ Below base w w' ∧ PenStep w p w' := by
  have hw1 : IntKind.i64.wrap ((k : Int) - 1) = (k : Int) - 1 := IntWalk.i64_in _ (by omega)
  have HP := Lib.hid hP; clear hP
  go_enter Tryd.func66, Tryd.ntmps66
  go_wp2_with fail
  go_loopw [6] (fun i wr => ∃ j : Nat, j ≤ k ∧ i = .int .i64 ((k : Int) - (j : Int) - 1) ∧ Pen wr base p (l ++ (be n k).take j) ∧ Below base w wr ∧ PenStep w p wr) (fun i _ => (intOf i + 1).toNat)
  case atStart => exact ⟨0, by omega, by simp, by simpa using HP.out, Below.refl _ _, PenStep.refl _ _⟩
  case round =>
    obtain ⟨j, hj, rfl, hP, hbr, hst⟩ := hrel
    have HST := Lib.hid hst; clear hst
    by_cases hlt : j < k
    · obtain ⟨e, he⟩ : ∃ e, k = j + e + 1 := ⟨k - j - 1, by omega⟩
      have hei : (k : Int) - (j : Int) - 1 = (e : Int) := by omega
      rw [hei]
      obtain ⟨hbp, v, hb, hown⟩ := hP
      have hplt := hb.lt
      have hc0 : wr.cell? ⟨p, 0, none⟩ = some v := by rw [hb.cell]; rfl
      have hc1 : wr.cell? ⟨p, 1, none⟩ = some (.bool false) := by rw [hb.cell]; rfl
      have hne := own_ne hown hb (by decide)
      have hLl : (l ++ (be n k).take j).length = l.length + j := by rw [List.length_append, List.length_take, length_be]; omega
      obtain ⟨L, hL⟩ : ∃ L, L = l ++ (be n k).take j := ⟨_, rfl⟩
      obtain ⟨q, hq⟩ : ∃ q, q = n / 2 ^ (8 * e) := ⟨_, rfl⟩
      obtain ⟨b, hbb⟩ : ∃ b, b = q % 256 := ⟨_, rfl⟩
      have hb256 : b < 256 := by omega
      have hLn : l ++ (be n k).take (j + 1) = L ++ [UInt8.ofNat b] := by
        rw [be_get n k j hlt, ← List.append_assoc, ← hL, hbb, hq, show k - 1 - j = e by omega]
        congr 3
        rw [Nat.pow_mul]
      rw [← hL] at hown hLl
      have hqi : (n : Int) / 2 ^ (8 * e) = (q : Int) := by rw [hq]; simp
      have hw8 : IntKind.i64.wrap (8 * (e : Int)) = 8 * (e : Int) := IntWalk.i64_in _ (by omega)
      have hn8 : (8 * (e : Int)).toNat = 8 * e := by omega
      have h08 : (0 : Int) ≤ 8 * (e : Int) := by omega
      have hm8 : min (8 * e) 64 = 8 * e := by omega
      have hqb : IntKind.u8.wrap (q : Int) = (b : Int) := by rw [IntKind.wrap_u8']; omega
      have he0 : (0 : Int) ≤ (e : Int) := by omega
      have hlL : L.length ≤ 1000008 := by omega
      have HB := Lib.hid hb; have HO := Lib.hid hown; have HNE := Lib.hid hne; have HLN := Lib.hid hLn; have HBR := Lib.hid hbr; have HEE := Lib.hid he; clear hb hown hne hLn hL hq hbb hbr he hei
      go_wp2_with fail
      refine region_fast [(0, true), (1, true), (2, true), (3, true), (4, true), (5, true), (6, true), (7, true), (8, true), (9, true), (10, false), (11, false), (12, true), (13, true), (14, false)] [1, 2, 3, 4, 5, 6, 7, 8, 9, 10, 11] 4094 [(1048576, 1, 0, 0), (2097152, 1, 0, 0), (4194304, 2097152, 2, 2), (8388608, 4194304, 4, 6), (16777216, 8388608, 8, 14), (33554432, 2, 0, 0), (67108864, 64, 0, 0), (134217728, 67108864, 64, 64), (268435456, 167772160, 160, 224), (536870912, 268435456, 256, 480), (1073741824, 536870912, 512, 992), (2147483648, 1090519040, 1040, 2046), (4294967296, 1048576, 4095, 4095), (8589934592, 4294967296, 8191, 8191), (0, 10737418240, 12287, 16383)] (fun w' => w'.cell? ⟨p, 0, none⟩ = some v) (by kernel_rfl) (by kernel_rfl) (by kernel_rfl) rfl (by kernel_rfl) (by kernel_rfl) hc0 (fun hS => ?_)
      repeat (first
        | (refine plan_read (v := ?_) rfl (fun _ _ _ h => h) rfl hS ?_ ?_; rotate_left 1; (focus (intro w' hS'; go_simp; try rfl)); (simp only [Act.put, List.setIfInBounds_toArray]; dsimp only [List.set_cons_zero, List.set_cons_succ]))
        | (refine plan_skip rfl (fun _ _ _ h => h) rfl hS ?_; (simp only [Act.put, List.setIfInBounds_toArray]; dsimp only [List.set_cons_zero, List.set_cons_succ])))
      refine plan_do (by rfl) (by rfl) (fun K hK => ?_)
      go_simp
      have hbA : Blk (wr.alloc (.cells #[.int .u8 (b : Nat)] 5)).drew p 120 #[v, .bool false] := HB.out.alloc _
      have hcA : (wr.alloc (.cells #[.int .u8 (b : Nat)] 5)).drew.cell? ⟨p, 0, none⟩ = some v := by rw [hbA.cell]; rfl
      have hbal : Below wr.heap.size wr (wr.alloc (.cells #[.int .u8 (b : Nat)] 5)).drew := ((Below.refl _ wr).alloc (Nat.le_refl _) _).drew
      have hsz2 : (wr.alloc (.cells #[.int .u8 (b : Nat)] 5)).drew.heap.size = wr.heap.size + 1 := by simp
      refine hK.out _ _ (fun _ => hcA) (fun hS => ?_); clear hK K; replace hS := hS rfl; try (simp only [Act.put, List.setIfInBounds_toArray]; dsimp only [List.set_cons_zero, List.set_cons_succ])
      refine plan_do (by rfl) (by rfl) (fun K hK => ?_)
      refine wp_app (.tmp 24) (.tmp 30) 35 rfl base 5 _ 1 1 Tryd.underlying35 info_byte rfl (by decide) v L.length (u8s L) rfl (own_below HO.out hbal) (some ⟨wr.heap.size, 0, none⟩) 1 _ [.int .u8 (b : Nat)] rfl (sees_new wr _ [.int .u8 (b : Nat)] 1 1 rfl) (by simp [Value.oneCell']) (by unfold maxLen; omega) (by omega) (by rw [hsz2]; omega) ?_
      intro v1 w1 hown1 hgr1 hat1 hnil1
      obtain ⟨A1, k1, c1, rfl⟩ := own_form hown1
      have hfr := Fr.of_grown hgr1 (F := fun k => v.ownBlock = some k) (fun k h => h)
      have hb1 := hbA.fr hfr (fun h => HNE.out _ h rfl)
      have hf0 : w1.frozen? ⟨p, 0, none⟩ = false := hb1.frozen 0
      have hc2 : w1.cell? ⟨p, 0, none⟩ = some v := by rw [hb1.cell]; rfl
      have hsz := hfr.size
      rw [hsz2] at hsz
      have hne1 : ∀ g, (Value.slice A1 k1 c1).ownBlock = some g → g ≠ p := fun g hg => by
        rcases hat1 with e | e
        · exact HNE.out g (by rw [← e]; exact hg)
        · rw [hg, hsz2] at e; injection e with e; omega
      have hPn : Pen (w1.setCell ⟨p, 0, none⟩ (.slice A1 k1 c1)) base p (L ++ [UInt8.ofNat b]) := by
        refine ⟨hbp, .slice A1 k1 c1, hb1.set_ 0 (.slice A1 k1 c1), ?_⟩
        have h := own_keep hown1 (w' := w1.setCell ⟨p, 0, none⟩ (.slice A1 k1 c1)) (fun g hg => Below.heap_setCell _ _ _ _ (hne1 g hg))
        have e1 : u8s (L ++ [UInt8.ofNat b]) = u8s L ++ [.int .u8 (b : Nat)] := by
          rw [u8s_append]; congr 1; simp [u8s, UInt8.toNat_ofNat', Nat.mod_eq_of_lt hb256]
        rw [List.length_append, List.length_singleton, e1]
        exact h
      have hbn : Below base w (w1.setCell ⟨p, 0, none⟩ (.slice A1 k1 c1)) := ((HBR.out.trans (hbal.mono (by omega))).grown hgr1 (by rw [hsz2]; omega) (fun k hk => (HO.out.lt k hk).1)).setCell hbp _
      have HSN := Lib.hid (HST.out.trans (PenStep.step HB.out hbal hgr1 hb1 hat1))
      have HPN := Lib.hid hPn; have HBN := Lib.hid hbn; clear hPn hbn hown1 hgr1 hat1 hnil1 hfr hb1 hne1 hbA
      refine hK.out _ _ (fun _ => hc2) (fun hS => ?_); clear hK K; replace hS := hS rfl; try (simp only [Act.put, List.setIfInBounds_toArray]; dsimp only [List.set_cons_zero, List.set_cons_succ])
      repeat (first
        | (refine plan_read (v := ?_) rfl (fun _ _ _ h => h) rfl hS ?_ ?_; rotate_left 1; (focus (intro w' hS'; go_simp; try rfl)); (simp only [Act.put, List.setIfInBounds_toArray]; dsimp only [List.set_cons_zero, List.set_cons_succ]))
        | (refine plan_skip rfl (fun _ _ _ h => h) rfl hS ?_; (simp only [Act.put, List.setIfInBounds_toArray]; dsimp only [List.set_cons_zero, List.set_cons_succ])))
      refine plan_do (by rfl) (by rfl) (fun K hK => ?_)
      go_simp
      refine hK.out _ _ (fun h => by cases h) (fun _ => ?_); clear hK K; try (simp only [Act.put, List.setIfInBounds_toArray]; dsimp only [List.set_cons_zero, List.set_cons_succ])
      refine plan_nil ?_
      go_wp2_with fail
      go_roundw
      case rel => exact ⟨j + 1, by omega, by have := HEE.out; go_num, by rw [HLN.out]; exact HPN.out, HBN.out, HSN.out⟩
      case measure => simp [intOf]
    · obtain rfl : j = k := by omega
      have hei : (j : Int) - (j : Int) - 1 = -1 := by omega
      rw [hei]
      rw [List.take_of_length_le (by rw [length_be]; exact Nat.le_refl _)] at hP
      have HPP := Lib.hid hP; clear hP
      go_wp2_with fail
      refine bodyPost_end (results_none rfl _ _ _) rfl ?_
      exact ⟨rfl, HPP.out, hbr, HST.out⟩
theorem num_any (base p : Nat) (l : List UInt8) (n k : Nat) (w : World) (hP : Pen w base p l) (hn : n < 18446744073709551616) (hk : k ≤ 8) (hl : l.length ≤ 1000000) :
    Calls Tryd.prog 66 #[.pointer (some ⟨p, 0, none⟩), .int .u64 n, .int .i64 k] w fun e w' => e = .returned (.tuple #[]) ∧ Pen w' base p (l ++ be n k) ∧ Below base w w' :=
  (num_anyS base p l n k w hP hn hk hl).mono fun _ _ h => ⟨h.1, h.2.1, h.2.2.1⟩

theorem small_anyS (base p : Nat) (l : List UInt8) (n k : Nat) (w : World) (hP : Pen w base p l) (hn : n < 4294967296) (hk : k ≤ 8) (hnk : n < 2 ^ (8 * k)) (hl : l.length ≤ 1000000) :
    Calls Tryd.prog 65 #[.pointer (some ⟨p, 0, none⟩), .int .i64 n, .int .i64 k] w fun e w' => e = .returned (.tuple #[]) ∧ Pen w' base p (l ++ be n k) ∧ Below base w w' ∧ PenStep w p w' := by
  have hn0 : ¬ ((n : Int) < 0) := by omega
  have hqi : (n : Int) / 2 ^ (8 * k) = 0 := by
    have h1 : n / 2 ^ (8 * k) = 0 := Nat.div_eq_of_lt hnk
    have h2 : ((n / 2 ^ (8 * k) : Nat) : Int) = (n : Int) / 2 ^ (8 * k) := by simp
    rw [← h2, h1]; rfl
  have hw8 : IntKind.i64.wrap (8 * (k : Int)) = 8 * (k : Int) := IntWalk.i64_in _ (by omega)
  have hn8 : (8 * (k : Int)).toNat = 8 * k := by omega
  have h08 : (0 : Int) ≤ 8 * (k : Int) := by omega
  have hm8 : min (8 * k) 64 = 8 * k := by omega
  have hwn : IntKind.u64.wrap (n : Int) = (n : Int) := by rw [IntKind.wrap_u64]; omega
  have HN := Lib.hid (num_anyS base p l n k w hP (by omega) hk hl)
  clear hP hnk
  go_enter Tryd.func65, Tryd.ntmps65
  go_wp2_with fail
  refine HN.out.mono ?_
  rintro e w' ⟨rfl, h1, h2, h3⟩
  go_wp2_with fail
  refine bodyPost_end (results_none rfl _ _ _) rfl ?_
  exact ⟨rfl, h1, h2, h3⟩
theorem small_any (base p : Nat) (l : List UInt8) (n k : Nat) (w : World) (hP : Pen w base p l) (hn : n < 4294967296) (hk : k ≤ 8) (hnk : n < 2 ^ (8 * k)) (hl : l.length ≤ 1000000) :
    Calls Tryd.prog 65 #[.pointer (some ⟨p, 0, none⟩), .int .i64 n, .int .i64 k] w fun e w' => e = .returned (.tuple #[]) ∧ Pen w' base p (l ++ be n k) ∧ Below base w w' :=
  (small_anyS base p l n k w hP hn hk hnk hl).mono fun _ _ h => ⟨h.1, h.2.1, h.2.2.1⟩

theorem u32_anyS (base p : Nat) (l : List UInt8) (n : Nat) (w : World) (hP : Pen w base p l) (hn : n < 4294967296) (hl : l.length ≤ 1000000) :
    Calls Tryd.prog 49 #[.pointer (some ⟨p, 0, none⟩), .int .i64 n] w fun e w' => e = .returned (.tuple #[]) ∧ Pen w' base p (l ++ be n 4) ∧ Below base w w' ∧ PenStep w p w' := by
  have HN := Lib.hid (small_anyS base p l n 4 w hP hn (by omega) (by simpa using hn) hl)
  clear hP
  go_enter Tryd.func49, Tryd.ntmps49
  go_wp2_with fail
  refine HN.out.mono ?_
  rintro e w' ⟨rfl, h1, h2, h3⟩
  go_wp2_with fail
  refine bodyPost_end (results_none rfl _ _ _) rfl ?_
  exact ⟨rfl, h1, h2, h3⟩
theorem u32_any (base p : Nat) (l : List UInt8) (n : Nat) (w : World) (hP : Pen w base p l) (hn : n < 4294967296) (hl : l.length ≤ 1000000) :
    Calls Tryd.prog 49 #[.pointer (some ⟨p, 0, none⟩), .int .i64 n] w fun e w' => e = .returned (.tuple #[]) ∧ Pen w' base p (l ++ be n 4) ∧ Below base w w' :=
  (u32_anyS base p l n w hP hn hl).mono fun _ _ h => ⟨h.1, h.2.1, h.2.2.1⟩

theorem u64_anyS (base p : Nat) (l : List UInt8) (n : Nat) (w : World) (hP : Pen w base p l) (hn : n < 18446744073709551616) (hl : l.length ≤ 1000000) :
    Calls Tryd.prog 50 #[.pointer (some ⟨p, 0, none⟩), .int .u64 n] w fun e w' => e = .returned (.tuple #[]) ∧ Pen w' base p (l ++ be n 8) ∧ Below base w w' ∧ PenStep w p w' := by
  have HN := Lib.hid (num_anyS base p l n 8 w hP hn (by omega) hl)
  clear hP
  go_enter Tryd.func50, Tryd.ntmps50
  go_wp2_with fail
  refine HN.out.mono ?_
  rintro e w' ⟨rfl, h1, h2, h3⟩
  go_wp2_with fail
  refine bodyPost_end (results_none rfl _ _ _) rfl ?_
  exact ⟨rfl, h1, h2, h3⟩
theorem u64_any (base p : Nat) (l : List UInt8) (n : Nat) (w : World) (hP : Pen w base p l) (hn : n < 18446744073709551616) (hl : l.length ≤ 1000000) :
    Calls Tryd.prog 50 #[.pointer (some ⟨p, 0, none⟩), .int .u64 n] w fun e w' => e = .returned (.tuple #[]) ∧ Pen w' base p (l ++ be n 8) ∧ Below base w w' :=
  (u64_anyS base p l n w hP hn hl).mono fun _ _ h => ⟨h.1, h.2.1, h.2.2.1⟩

theorem bytes_any (base p : Nat) (l : List UInt8) (w : World) (hP : Pen w base p l) (hl : l.length ≤ 1000000) (h0 : 0 < l.length) :
    Calls Tryd.prog 52 #[.pointer (some ⟨p, 0, none⟩)] w fun e w' => ∃ v, e = .returned (.tuple #[v, .bool true]) ∧ w'.ownsRow w.heap.size 5 1 v l.length (u8s l) ∧ Below w.heap.size w w' := by
  obtain ⟨hbp, v, hb, hown⟩ := hP
  have hc0 : w.cell? ⟨p, 0, none⟩ = some v := by rw [hb.cell]; rfl
  have hc1 : w.cell? ⟨p, 1, none⟩ = some (.bool false) := by rw [hb.cell]; rfl
  obtain ⟨g, cap, cu, rfl, hg, hb2, -⟩ := own_open hown h0
  have hS : Sees w 1 (some ⟨g, 0, none⟩) l.length (u8s l) := Sees.of_own hown
  have HC := Lib.hid (clone_any ⟨g, 0, none⟩ l.length cap (u8s l) w hS (u8s_one l) (by omega))
  clear hb hown hb2 hS
  go_enter Tryd.func52, Tryd.ntmps52
  go_wp2_with fail
  refine HC.out.mono ?_
  rintro e w' ⟨v', rfl, h1, h2⟩
  go_wp2_with fail
  go_ret2
  exact ⟨v', rfl, h1, h2⟩
end Go.Proofs.YtldgnckchlbadaaDoor

namespace Go.Proofs.YtldgnckchlbadaaDoor
set_option maxRecDepth 4000
open Go.RowKit

theorem cwith_any (l : List UInt8) (A : Option Addr) (n c : Nat) (w : World) (hS : Sees w 1 A n (u8s l)) (hl : l.length = n) (hn : n ≤ 100000) :
    Calls Tryd.prog 53 #[.slice A n c] w fun e w' => ∃ v, e = .returned v ∧ w'.ownsRow w.heap.size 5 1 v (n + 4) (u8s (crcw l)) ∧ Below w.heap.size w w' := by
  have hcl := crc_lt l
  have hlen : (crcw l).length = n + 4 := by rw [crcw, List.length_append, length_be, hl]
  have HS := Lib.hid hS; clear hS
  have HN := Lib.hid new_any
  go_enter Tryd.func53, Tryd.ntmps53
  go_wp2_with fail
  refine (HN.out _).mono ?_
  rintro e w1 ⟨rfl, hp1, hb1⟩
  have hR := raw_any w.heap.size w.heap.size [] l A n c w1 hp1 (HS.out.below hb1) hl (by simp; omega)
  rw [List.nil_append] at hR
  have HR := Lib.hid hR; have HB1 := Lib.hid hb1; clear hR hp1 hb1
  go_wp2_with fail
  refine HR.out.mono ?_
  rintro e w2 ⟨rfl, hp2, hb2⟩
  have hb12 : Below w.heap.size w w2 := HB1.out.trans hb2
  have hal : Below w2.heap.size w2 (w2.alloc (.cells #[.slice A n c] 35)) := (Below.refl _ _).alloc (Nat.le_refl _) _
  have hb13 := hb12.trans (hal.mono hb12.size)
  have hp3 := hp2.keep hal
  have hcell : (w2.alloc (.cells #[.slice A n c] 35)).cell? ⟨w2.heap.size, 0, none⟩ = some (.slice A n c) := by rw [(Blk.new w2 35 #[.slice A n c]).cell]; rfl
  have HC := Lib.hid (ccrc_any l w2.heap.size 1 A n c _ hl hn hcell (HS.out.below hb13))
  have HU := Lib.hid (u32_any w.heap.size w.heap.size l (crc l) _ hp3 hcl (by omega))
  rw [show l ++ be (crc l) 4 = crcw l from rfl] at HU
  have HB13 := Lib.hid hb13; clear hp2 hb2 hb12 hal hb13 hp3 hcell HR HB1
  generalize crc l = x at *
  have hxi : (x : Int) < 4294967296 := by omega
  have hxw : IntKind.i64.wrap (x : Int) = (x : Int) := IntWalk.i64_in _ (by omega)
  go_wp2_with fail
  refine HC.out.mono ?_
  rintro e w' ⟨rfl, rfl⟩
  go_wp2_with fail
  refine HU.out.mono ?_
  rintro e w4 ⟨rfl, hp4, hb4⟩
  have hb14 : Below w.heap.size w w4 := HB13.out.trans hb4
  have hBy := bytes_any w.heap.size w.heap.size (crcw l) w4 hp4 (by omega) (by omega)
  rw [hlen] at hBy
  have HBy := Lib.hid hBy; have HB14 := Lib.hid hb14; clear hBy hb14 hp4 hb4 HU HB13 HC
  go_wp2_with fail
  refine HBy.out.mono ?_
  rintro e w5 ⟨v, rfl, hown, hb5⟩
  go_wp2_with fail
  go_ret
  exact ⟨v, rfl, own_base hown HB14.out.size, HB14.out.trans (hb5.mono HB14.out.size)⟩
end Go.Proofs.YtldgnckchlbadaaDoor
