/-
  The pen: octets that are written one behind the other.
  The code's text with its checksum.
  make([]byte, n) and []byte("..") of a constant.
  A key's octets, by the code.
  The eye: octets that are read one behind the other; octets compared.
-/
import Derived.Test.YtkgaeoeibjoljaaGreatDoorGA
import Derived.Laws.MakeOwn
import Derived.Laws.IdiomStrings
namespace Go.Proofs.YtkgaeoeibjoljaaGreatDoor
section
set_option maxRecDepth 4000
open Go.RowKit
theorem own_form {w : World} {base e size n : Nat} {v : Value} {xs : List Value} (h : w.ownsRow base e size v n xs) : ∃ A k c, v = .slice A k c := by
 rcases h.2 with ⟨rfl, _⟩ | ⟨g, cap, cur, rfl, _⟩
 ·exact ⟨_, _, _, rfl⟩
 ·exact ⟨_, _, _, rfl⟩
def Pen (w : World) (base p : Nat) (l : List UInt8) : Prop :=
 base <= p /\ ∃ v, Blk w p 121 #[v, .bool false] /\ w.ownsRow base 5 1 v l.length (u8s l)
theorem Pen.keep {w w' : World} {base p : Nat} {l : List UInt8} (h : Pen w base p l) (hb : Below w.heap.size w w') : Pen w' base p l := by
 obtain ⟨h1, v, h2, h3⟩ := h
 exact ⟨h1, v, h2.below hb h2.lt, own_below h3 hb⟩
def Apart (w : World) (p q : Nat) : Prop := q ≠ p /\ ∀ v, w.cell? ⟨p, 0, none⟩ = some v -> v.ownBlock ≠ some q
def PenStep (w : World) (p : Nat) (w' : World) : Prop := w.heap.size <= w'.heap.size /\ ∀ q, q < w.heap.size -> Apart w p q -> w'.heap[q]? = w.heap[q]? /\ Apart w' p q
theorem PenStep.refl (w : World) (p : Nat) : PenStep w p w := ⟨Nat.le_refl _, fun _ _ h => ⟨rfl, h⟩⟩
theorem PenStep.trans {w w1 w2 : World} {p : Nat} (h : PenStep w p w1) (k : PenStep w1 p w2) : PenStep w p w2 :=
 ⟨Nat.le_trans h.1 k.1, fun q hq ha => by
  obtain ⟨e1, a1⟩ := h.2 q hq ha
  obtain ⟨e2, a2⟩ := k.2 q (Nat.lt_of_lt_of_le hq h.1) a1
  exact ⟨e2.trans e1, a2⟩⟩
theorem PenStep.step {wr W1 w1 : World} {p : Nat} {t : TypeId} {v v1 x y : Value} (hb : Blk wr p t #[v, x]) (hW : Below wr.heap.size wr W1) (hgr : W1.grownBy w1 v.ownBlock) (hb1 : Blk w1 p t #[v, y])
  (hat : v1.ownBlock = v.ownBlock \/ v1.ownBlock = some W1.heap.size) : PenStep wr p (w1.setCell ⟨p, 0, none⟩ v1) := by
 have hs := hW.size
 have hs2 := hgr.size
 refine ⟨by simp only [World.setCell, Array.size_modify]; omega, fun q hq ⟨hqp, hqv⟩ => ?_⟩
 have hv : v.ownBlock ≠ some q := hqv v (by rw [hb.cell]; rfl)
 refine ⟨?_, hqp, fun u hu => ?_⟩
 ·rw [Below.heap_setCell _ _ _ _ hqp, hgr.block q (by omega) (fun e => hv e.symm)]
  exact hW.block q hq
 ·have := (hb1.set_ 0 v1).cell 0
  rw [this] at hu
  have hu' : u = v1 := by simpa using hu.symm
  subst hu'
  rcases hat with e | e
  ·rw [e]; exact hv
  ·rw [e]; intro h; injection h with h; omega
theorem new_any (w : World) : Calls Tryz.prog 33 #[] w fun e w' => e = .returned (.pointer (some ⟨w.heap.size, 0, none⟩)) /\ Pen w' w.heap.size w.heap.size [] /\ Below w.heap.size w w' := by
 go_enter Tryz.func33, Tryz.ntmps33
 go_wp2_with fail
 go_ret
 exact ⟨rfl, ⟨Nat.le_refl _, .slice none 0 0, Blk.newAt rfl rfl, World.ownsRow_nil _ _ _ _⟩, (Below.refl _ _).alloc (Nat.le_refl _) _⟩
theorem raw_anyS (base p : Nat) (l m : List UInt8) (A : Option Addr) (n c : Nat) (w : World) (hP : Pen w base p l) (hS : Sees w 1 A n (u8s m)) (hm : m.length = n) (hl : l.length + n <= 1000000) :
  Calls Tryz.prog 34 #[.pointer (some ⟨p, 0, none⟩), .slice A n c] w fun e w' => e = .returned (.tuple #[]) /\ Pen w' base p (l ++ m) /\ Below base w w' /\ PenStep w p w' := by
 obtain ⟨hbp, v, hb, hown⟩ := hP
 have hplt := hb.lt
 have hc0 : w.cell? ⟨p, 0, none⟩ = some v := by rw [hb.cell]; rfl
 have hc1 : w.cell? ⟨p, 1, none⟩ = some (.bool false) := by rw [hb.cell]; rfl
 have hne := own_ne hown hb (by decide)
 have HB := Lh hb; have HO := Lh hown; have HS := Lh hS; have HNE := Lh hne; clear hb hown hS hne
 go_enter Tryz.func34, Tryz.ntmps34
 go_wp2_with (at_builtin; refine wpList_app rfl (.tmp 13) (.tmp 14) _ rfl base 5 _ 1 1 Tryz.underlying22 info_byte rfl (by decide) v l.length (u8s l) rfl HO.out A n c (u8s m) rfl HS.out (u8s_one m) (by unfold maxLen; omega) (by omega) (by omega) ?_; intro v1 w1 hown1 hgr1 hat1 hnil1; obtain ⟨A1, k1, c1, rfl⟩ := own_form hown1; have hfr := Fr.of_grown hgr1 (F := fun k => v.ownBlock = some k) (fun k h => h); have hb1 := HB.out.fr hfr (fun h => HNE.out _ h rfl); have hf0 : w1.frozen? ⟨p, 0, none⟩ = false := hb1.frozen 0; have hc2 : w1.cell? ⟨p, 0, none⟩ = some v := (by rw [hb1.cell]; rfl); have HOWN1 := Lh hown1; have HFR := Lh hfr; have HB1 := Lh hb1; have HAT := Lh hat1; have HGR := Lh hgr1; clear hown1 hfr hb1 hat1 hnil1 hgr1)
 refine bodyPost_end (results_none rfl _ _ _) rfl ?_
 have hsz := HFR.out.size
 have hne1 : ∀ g, (Value.slice A1 k1 c1).ownBlock = some g -> g ≠ p := fun g hg => by
  rcases HAT.out with e | e
  ·exact HNE.out g (by rw [<- e]; exact hg)
  ·rw [hg] at e; injection e with e; omega
 refine ⟨rfl, ⟨hbp, .slice A1 k1 c1, ?_, ?_⟩, ?_, PenStep.step HB.out (Below.refl _ _) HGR.out HB1.out HAT.out⟩
 ·exact HB1.out.set_ 0 (.slice A1 k1 c1)
 ·have h := own_keep HOWN1.out (w' := w1.setCell ⟨p, 0, none⟩ (.slice A1 k1 c1)) (fun g hg => Below.heap_setCell _ _ _ _ (hne1 g hg))
  rw [List.length_append, hm, u8s_append]
  exact h
 ·exact ((Below.refl base w).grown HGR.out (by omega) (fun k hk => (HO.out.lt k hk).1)).setCell hbp _
theorem raw_any (base p : Nat) (l m : List UInt8) (A : Option Addr) (n c : Nat) (w : World) (hP : Pen w base p l) (hS : Sees w 1 A n (u8s m)) (hm : m.length = n) (hl : l.length + n <= 1000000) :
  Calls Tryz.prog 34 #[.pointer (some ⟨p, 0, none⟩), .slice A n c] w fun e w' => e = .returned (.tuple #[]) /\ Pen w' base p (l ++ m) /\ Below base w w' :=
 (raw_anyS base p l m A n c w hP hS hm hl).mono fun _ _ h => ⟨h.1, h.2.1, h.2.2.1⟩
theorem be_get (n : Nat) : ∀ (k j : Nat), j < k -> (be n k).take (j + 1) = (be n k).take j ++ [UInt8.ofNat (n / 256 ^ (k - 1 - j) % 256)]
 | k + 1, 0, _ => by simp [be]
 | k + 1, j + 1, h => by
  rw [be, List.take_succ_cons, List.take_succ_cons, be_get n k j (by omega), List.cons_append, show k + 1 - 1 - (j + 1) = k - 1 - j by omega]
theorem num_anyS (base p : Nat) (l : List UInt8) (n k : Nat) (w : World) (hP : Pen w base p l) (hn : n < 18446744073709551616) (hk : k <= 8) (hl : l.length <= 1000000) :
  Calls Tryz.prog 66 #[.pointer (some ⟨p, 0, none⟩), .int .u64 n, .int .i64 k] w fun e w' => e = .returned (.tuple #[]) /\ Pen w' base p (l ++ be n k) /\ Below base w w' /\ PenStep w p w' := by
 have hw1 : IntKind.i64.wrap ((k : Int) - 1) = (k : Int) - 1 := IntWalk.i64_in _ (by omega)
 have HP := Lh hP; clear hP
 go_enter Tryz.func66, Tryz.ntmps66
 go_wp2_with fail
 go_loopw [6] (fun i wr => ∃ j : Nat, j <= k /\ i = .int .i64 ((k : Int) - (j : Int) - 1) /\ Pen wr base p (l ++ (be n k).take j) /\ Below base w wr /\ PenStep w p wr) (fun i _ => (intOf i + 1).toNat)
 case atStart => exact ⟨0, by omega, by simp, by simpa using HP.out, Below.refl _ _, PenStep.refl _ _⟩
 case round =>
  obtain ⟨j, hj, rfl, hP, hbr, hst⟩ := hrel
  have HST := Lh hst; clear hst
  by_cases hlt : j < k
  ·obtain ⟨e, he⟩ : ∃ e, k = j + e + 1 := ⟨k - j - 1, by omega⟩
   have hei : (k : Int) - (j : Int) - 1 = (e : Int) := by omega
   rw [hei]
   obtain ⟨hbp, v, hb, hown⟩ := hP
   have hplt := hb.lt
   have hc0 : wr.cell? ⟨p, 0, none⟩ = some v := by rw [hb.cell]; rfl
   have hc1 : wr.cell? ⟨p, 1, none⟩ = some (.bool false) := by rw [hb.cell]; rfl
   have hne := own_ne hown hb (by decide)
   have hLl : (l ++ (be n k).take j).length = l.length + j := by rw [List.length_append, List.length_take, length_be]; omega
   obtain ⟨L, hL⟩ : ∃ L, L = l ++ (be n k).take j := ⟨_, rfl⟩
   obtain ⟨q, hq⟩ : ∃ q, q = n / 2 ^ (8 * e) := ⟨_, rfl⟩
   obtain ⟨b, hbb⟩ : ∃ b, b = q % 256 := ⟨_, rfl⟩
   have hb256 : b < 256 := by omega
   have hLn : l ++ (be n k).take (j + 1) = L ++ [UInt8.ofNat b] := by
    rw [be_get n k j hlt, <- List.append_assoc, <- hL, hbb, hq, show k - 1 - j = e by omega]
    congr 3
    rw [Nat.pow_mul]
   rw [<- hL] at hown hLl
   have hqi : (n : Int) / 2 ^ (8 * e) = (q : Int) := by rw [hq]; simp
   have hw8 : IntKind.i64.wrap (8 * (e : Int)) = 8 * (e : Int) := IntWalk.i64_in _ (by omega)
   have hn8 : (8 * (e : Int)).toNat = 8 * e := by omega
   have h08 : (0 : Int) <= 8 * (e : Int) := by omega
   have hm8 : min (8 * e) 64 = 8 * e := by omega
   have hqb : IntKind.u8.wrap (q : Int) = (b : Int) := by rw [IntKind.wrap_u8']; omega
   have he0 : (0 : Int) <= (e : Int) := by omega
   have hlL : L.length <= 1000008 := by omega
   have HB := Lh hb; have HO := Lh hown; have HNE := Lh hne; have HLN := Lh hLn; have HBR := Lh hbr; have HEE := Lh he; clear hb hown hne hLn hL hq hbb hbr he hei
   go_wp2_with fail
   refine region_fast [(0, true), (1, true), (2, true), (3, true), (4, true), (5, true), (6, true), (7, true), (8, true), (9, true), (10, false), (11, false), (12, true), (13, true), (14, false)] [1, 2, 3, 4, 5, 6, 7, 8, 9, 10, 11] 4094 [(1048576, 1, 0, 0), (2097152, 1, 0, 0), (4194304, 2097152, 2, 2), (8388608, 4194304, 4, 6), (16777216, 8388608, 8, 14), (33554432, 2, 0, 0), (67108864, 64, 0, 0), (134217728, 67108864, 64, 64), (268435456, 167772160, 160, 224), (536870912, 268435456, 256, 480), (1073741824, 536870912, 512, 992), (2147483648, 1090519040, 1040, 2046), (4294967296, 1048576, 4095, 4095), (8589934592, 4294967296, 8191, 8191), (0, 10737418240, 12287, 16383)] (fun w' => w'.cell? ⟨p, 0, none⟩ = some v) (by kernel_rfl) (by kernel_rfl) (by kernel_rfl) rfl (by kernel_rfl) (by kernel_rfl) hc0 (fun hS => ?_)
   repeat (first
    | (refine plan_read (v := ?_) rfl (fun _ _ _ h => h) rfl hS ?_ ?_; rotate_left 1; (focus (intro w' hS'; go_simp; try rfl)); (simp only [Act.put, pu1]; dsimp only [pu2, pu3]))
    | (refine plan_skip rfl (fun _ _ _ h => h) rfl hS ?_; (simp only [Act.put, pu1]; dsimp only [pu2, pu3])))
   refine plan_do (by rfl) (by rfl) (fun K hK => ?_)
   go_simp
   have hbA : Blk (wr.alloc (.cells #[.int .u8 (b : Nat)] 5)).drew p 121 #[v, .bool false] := HB.out.alloc _
   have hcA : (wr.alloc (.cells #[.int .u8 (b : Nat)] 5)).drew.cell? ⟨p, 0, none⟩ = some v := by rw [hbA.cell]; rfl
   have hbal : Below wr.heap.size wr (wr.alloc (.cells #[.int .u8 (b : Nat)] 5)).drew := ((Below.refl _ wr).alloc (Nat.le_refl _) _).drew
   have hsz2 : (wr.alloc (.cells #[.int .u8 (b : Nat)] 5)).drew.heap.size = wr.heap.size + 1 := by simp
   refine hK.out _ _ (fun _ => hcA) (fun hS => ?_); clear hK K; replace hS := hS rfl; try (simp only [Act.put, pu1]; dsimp only [pu2, pu3])
   refine plan_do (by rfl) (by rfl) (fun K hK => ?_)
   refine wp_app (.tmp 24) (.tmp 30) 22 rfl base 5 _ 1 1 Tryz.underlying22 info_byte rfl (by decide) v L.length (u8s L) rfl (own_below HO.out hbal) (some ⟨wr.heap.size, 0, none⟩) 1 _ [.int .u8 (b : Nat)] rfl (sees_new wr _ [.int .u8 (b : Nat)] 1 1 rfl) (by simp [Value.oneCell']) (by unfold maxLen; omega) (by omega) (by rw [hsz2]; omega) ?_
   intro v1 w1 hown1 hgr1 hat1 hnil1
   obtain ⟨A1, k1, c1, rfl⟩ := own_form hown1
   have hfr := Fr.of_grown hgr1 (F := fun k => v.ownBlock = some k) (fun k h => h)
   have hb1 := hbA.fr hfr (fun h => HNE.out _ h rfl)
   have hf0 : w1.frozen? ⟨p, 0, none⟩ = false := hb1.frozen 0
   have hc2 : w1.cell? ⟨p, 0, none⟩ = some v := by rw [hb1.cell]; rfl
   have hsz := hfr.size
   rw [hsz2] at hsz
   have hne1 : ∀ g, (Value.slice A1 k1 c1).ownBlock = some g -> g ≠ p := fun g hg => by
    rcases hat1 with e | e
    ·exact HNE.out g (by rw [<- e]; exact hg)
    ·rw [hg, hsz2] at e; injection e with e; omega
   have hPn : Pen (w1.setCell ⟨p, 0, none⟩ (.slice A1 k1 c1)) base p (L ++ [UInt8.ofNat b]) := by
    refine ⟨hbp, .slice A1 k1 c1, hb1.set_ 0 (.slice A1 k1 c1), ?_⟩
    have h := own_keep hown1 (w' := w1.setCell ⟨p, 0, none⟩ (.slice A1 k1 c1)) (fun g hg => Below.heap_setCell _ _ _ _ (hne1 g hg))
    have e1 : u8s (L ++ [UInt8.ofNat b]) = u8s L ++ [.int .u8 (b : Nat)] := by
     rw [u8s_append]; congr 1; simp [u8s, UInt8.toNat_ofNat', Nat.mod_eq_of_lt hb256]
    rw [List.length_append, List.length_singleton, e1]
    exact h
   have hbn : Below base w (w1.setCell ⟨p, 0, none⟩ (.slice A1 k1 c1)) := ((HBR.out.trans (hbal.mono (by omega))).grown hgr1 (by rw [hsz2]; omega) (fun k hk => (HO.out.lt k hk).1)).setCell hbp _
   have HSN := Lh (HST.out.trans (PenStep.step HB.out hbal hgr1 hb1 hat1))
   have HPN := Lh hPn; have HBN := Lh hbn; clear hPn hbn hown1 hgr1 hat1 hnil1 hfr hb1 hne1 hbA
   refine hK.out _ _ (fun _ => hc2) (fun hS => ?_); clear hK K; replace hS := hS rfl; try (simp only [Act.put, pu1]; dsimp only [pu2, pu3])
   repeat (first
    | (refine plan_read (v := ?_) rfl (fun _ _ _ h => h) rfl hS ?_ ?_; rotate_left 1; (focus (intro w' hS'; go_simp; try rfl)); (simp only [Act.put, pu1]; dsimp only [pu2, pu3]))
    | (refine plan_skip rfl (fun _ _ _ h => h) rfl hS ?_; (simp only [Act.put, pu1]; dsimp only [pu2, pu3])))
   refine plan_do (by rfl) (by rfl) (fun K hK => ?_)
   go_simp
   refine hK.out _ _ (fun h => by cases h) (fun _ => ?_); clear hK K; try (simp only [Act.put, pu1]; dsimp only [pu2, pu3])
   refine plan_nil ?_
   go_wp2_with fail
   go_roundw
   case rel => exact ⟨j + 1, by omega, by have := HEE.out; go_num, by rw [HLN.out]; exact HPN.out, HBN.out, HSN.out⟩
   case measure => simp [intOf]
  ·obtain rfl : j = k := by omega
   have hei : (j : Int) - (j : Int) - 1 = -1 := by omega
   rw [hei]
   rw [List.take_of_length_le (by rw [length_be]; exact Nat.le_refl _)] at hP
   have HPP := Lh hP; clear hP
   go_wp2_with fail
   refine bodyPost_end (results_none rfl _ _ _) rfl ?_
   exact ⟨rfl, HPP.out, hbr, HST.out⟩
theorem small_anyS (base p : Nat) (l : List UInt8) (n k : Nat) (w : World) (hP : Pen w base p l) (hn : n < 4294967296) (hk : k <= 8) (hnk : n < 2 ^ (8 * k)) (hl : l.length <= 1000000) :
  Calls Tryz.prog 132 #[.pointer (some ⟨p, 0, none⟩), .int .i64 n, .int .i64 k] w fun e w' => e = .returned (.tuple #[]) /\ Pen w' base p (l ++ be n k) /\ Below base w w' /\ PenStep w p w' := by
 have hn0 : ¬ ((n : Int) < 0) := by omega
 have hqi : (n : Int) / 2 ^ (8 * k) = 0 := by
  have h1 : n / 2 ^ (8 * k) = 0 := Nat.div_eq_of_lt hnk
  have h2 : ((n / 2 ^ (8 * k) : Nat) : Int) = (n : Int) / 2 ^ (8 * k) := by simp
  rw [<- h2, h1]; rfl
 have hw8 : IntKind.i64.wrap (8 * (k : Int)) = 8 * (k : Int) := IntWalk.i64_in _ (by omega)
 have hn8 : (8 * (k : Int)).toNat = 8 * k := by omega
 have h08 : (0 : Int) <= 8 * (k : Int) := by omega
 have hm8 : min (8 * k) 64 = 8 * k := by omega
 have hwn : IntKind.u64.wrap (n : Int) = (n : Int) := by rw [IntKind.wrap_u64]; omega
 have HN := Lh (num_anyS base p l n k w hP (by omega) hk hl)
 clear hP hnk
 go_enter Tryz.func132, Tryz.ntmps132
 go_wp2_with fail
 refine HN.out.mono ?_
 rintro e w' ⟨rfl, h1, h2, h3⟩
 go_wp2_with fail
 refine bodyPost_end (results_none rfl _ _ _) rfl ?_
 exact ⟨rfl, h1, h2, h3⟩
theorem small_any (base p : Nat) (l : List UInt8) (n k : Nat) (w : World) (hP : Pen w base p l) (hn : n < 4294967296) (hk : k <= 8) (hnk : n < 2 ^ (8 * k)) (hl : l.length <= 1000000) :
  Calls Tryz.prog 132 #[.pointer (some ⟨p, 0, none⟩), .int .i64 n, .int .i64 k] w fun e w' => e = .returned (.tuple #[]) /\ Pen w' base p (l ++ be n k) /\ Below base w w' :=
 (small_anyS base p l n k w hP hn hk hnk hl).mono fun _ _ h => ⟨h.1, h.2.1, h.2.2.1⟩
theorem u32_anyS (base p : Nat) (l : List UInt8) (n : Nat) (w : World) (hP : Pen w base p l) (hn : n < 4294967296) (hl : l.length <= 1000000) :
  Calls Tryz.prog 135 #[.pointer (some ⟨p, 0, none⟩), .int .i64 n] w fun e w' => e = .returned (.tuple #[]) /\ Pen w' base p (l ++ be n 4) /\ Below base w w' /\ PenStep w p w' := by
 have HN := Lh (small_anyS base p l n 4 w hP hn (by omega) (by simpa using hn) hl)
 clear hP
 go_enter Tryz.func135, Tryz.ntmps135
 go_wp2_with fail
 refine HN.out.mono ?_
 rintro e w' ⟨rfl, h1, h2, h3⟩
 go_wp2_with fail
 refine bodyPost_end (results_none rfl _ _ _) rfl ?_
 exact ⟨rfl, h1, h2, h3⟩
theorem u32_any (base p : Nat) (l : List UInt8) (n : Nat) (w : World) (hP : Pen w base p l) (hn : n < 4294967296) (hl : l.length <= 1000000) :
  Calls Tryz.prog 135 #[.pointer (some ⟨p, 0, none⟩), .int .i64 n] w fun e w' => e = .returned (.tuple #[]) /\ Pen w' base p (l ++ be n 4) /\ Below base w w' :=
 (u32_anyS base p l n w hP hn hl).mono fun _ _ h => ⟨h.1, h.2.1, h.2.2.1⟩
theorem u64_anyS (base p : Nat) (l : List UInt8) (n : Nat) (w : World) (hP : Pen w base p l) (hn : n < 18446744073709551616) (hl : l.length <= 1000000) :
  Calls Tryz.prog 35 #[.pointer (some ⟨p, 0, none⟩), .int .u64 n] w fun e w' => e = .returned (.tuple #[]) /\ Pen w' base p (l ++ be n 8) /\ Below base w w' /\ PenStep w p w' := by
 have HN := Lh (num_anyS base p l n 8 w hP hn (by omega) hl)
 clear hP
 go_enter Tryz.func35, Tryz.ntmps35
 go_wp2_with fail
 refine HN.out.mono ?_
 rintro e w' ⟨rfl, h1, h2, h3⟩
 go_wp2_with fail
 refine bodyPost_end (results_none rfl _ _ _) rfl ?_
 exact ⟨rfl, h1, h2, h3⟩
theorem u64_any (base p : Nat) (l : List UInt8) (n : Nat) (w : World) (hP : Pen w base p l) (hn : n < 18446744073709551616) (hl : l.length <= 1000000) :
  Calls Tryz.prog 35 #[.pointer (some ⟨p, 0, none⟩), .int .u64 n] w fun e w' => e = .returned (.tuple #[]) /\ Pen w' base p (l ++ be n 8) /\ Below base w w' :=
 (u64_anyS base p l n w hP hn hl).mono fun _ _ h => ⟨h.1, h.2.1, h.2.2.1⟩
theorem bytes_any (base p : Nat) (l : List UInt8) (w : World) (hP : Pen w base p l) (hl : l.length <= 1000000) (h0 : 0 < l.length) :
  Calls Tryz.prog 36 #[.pointer (some ⟨p, 0, none⟩)] w fun e w' => ∃ v, e = .returned (.tuple #[v, .bool true]) /\ w'.ownsRow w.heap.size 5 1 v l.length (u8s l) /\ Below w.heap.size w w' := by
 obtain ⟨hbp, v, hb, hown⟩ := hP
 have hc0 : w.cell? ⟨p, 0, none⟩ = some v := by rw [hb.cell]; rfl
 have hc1 : w.cell? ⟨p, 1, none⟩ = some (.bool false) := by rw [hb.cell]; rfl
 obtain ⟨g, cap, cu, rfl, hg, hb2, -⟩ := own_open hown h0
 have hS : Sees w 1 (some ⟨g, 0, none⟩) l.length (u8s l) := Sees.of_own hown
 have HC := Lh (clone_any ⟨g, 0, none⟩ l.length cap (u8s l) w hS (u8s_one l) (by omega))
 clear hb hown hb2 hS
 go_enter Tryz.func36, Tryz.ntmps36
 go_wp2_with fail
 refine HC.out.mono ?_
 rintro e w' ⟨v', rfl, h1, h2⟩
 go_wp2_with fail
 go_ret2
 exact ⟨v', rfl, h1, h2⟩
end
section
set_option maxRecDepth 4000
open Go.RowKit
theorem cwith_any (l : List UInt8) (A : Option Addr) (n c : Nat) (w : World) (hS : Sees w 1 A n (u8s l)) (hl : l.length = n) (hn : n <= 100000) :
  Calls Tryz.prog 136 #[.slice A n c] w fun e w' => ∃ v, e = .returned v /\ w'.ownsRow w.heap.size 5 1 v (n + 4) (u8s (crcw l)) /\ Below w.heap.size w w' := by
 have hcl := crc_lt l
 have hlen : (crcw l).length = n + 4 := by rw [crcw, List.length_append, length_be, hl]
 have HS := Lh hS; clear hS
 have HN := Lh new_any
 go_enter Tryz.func136, Tryz.ntmps136
 go_wp2_with fail
 refine (HN.out _).mono ?_
 rintro e w1 ⟨rfl, hp1, hb1⟩
 have hR := raw_any w.heap.size w.heap.size [] l A n c w1 hp1 (HS.out.below hb1) hl (by simp; omega)
 rw [List.nil_append] at hR
 have HR := Lh hR; have HB1 := Lh hb1; clear hR hp1 hb1
 go_wp2_with fail
 refine HR.out.mono ?_
 rintro e w2 ⟨rfl, hp2, hb2⟩
 have hb12 : Below w.heap.size w w2 := HB1.out.trans hb2
 have hal : Below w2.heap.size w2 (w2.alloc (.cells #[.slice A n c] 22)) := (Below.refl _ _).alloc (Nat.le_refl _) _
 have hb13 := hb12.trans (hal.mono hb12.size)
 have hp3 := hp2.keep hal
 have hcell : (w2.alloc (.cells #[.slice A n c] 22)).cell? ⟨w2.heap.size, 0, none⟩ = some (.slice A n c) := by rw [(Blk.new w2 22 #[.slice A n c]).cell]; rfl
 have HC := Lh (ccrc_any l w2.heap.size 1 A n c _ hl hn hcell (HS.out.below hb13))
 have HU := Lh (u32_any w.heap.size w.heap.size l (crc l) _ hp3 hcl (by omega))
 rw [show l ++ be (crc l) 4 = crcw l from rfl] at HU
 have HB13 := Lh hb13; clear hp2 hb2 hb12 hal hb13 hp3 hcell HR HB1
 generalize crc l = x at *
 have hxi : (x : Int) < 4294967296 := by omega
 have hxw : IntKind.i64.wrap (x : Int) = (x : Int) := IntWalk.i64_in _ (by omega)
 go_wp2_with fail
 refine HC.out.mono ?_
 rintro e w' ⟨rfl, rfl⟩
 go_wp2_with fail
 refine HU.out.mono ?_
 rintro e w4 ⟨rfl, hp4, hb4⟩
 have hb14 : Below w.heap.size w w4 := HB13.out.trans hb4
 have hBy := bytes_any w.heap.size w.heap.size (crcw l) w4 hp4 (by omega) (by omega)
 rw [hlen] at hBy
 have HBy := Lh hBy; have HB14 := Lh hb14; clear hBy hb14 hp4 hb4 HU HB13 HC
 go_wp2_with fail
 refine HBy.out.mono ?_
 rintro e w5 ⟨v, rfl, hown, hb5⟩
 go_wp2_with fail
 go_ret
 exact ⟨v, rfl, own_base hown HB14.out.size, HB14.out.trans (hb5.mono HB14.out.size)⟩
end
section
set_option maxRecDepth 4000
open Go.RowKit
theorem make_bytes (n : Nat) (hn : n <= 1000) (W : World) : (Instr.makeSlice 22 (.int .i64 (n : Int)) (.int .i64 (n : Int))).run Tryz.prog W = .ok (.slice (some ⟨W.heap.size, 0, none⟩) n n) (W.alloc (.cells (u8s (List.replicate n 0)).toArray 5)) := by
 obtain ⟨i, hi, hz, hs, hb⟩ := info_parts info_byte
 have h := run_make (P := Tryz.prog) W 22 5 i (.int .u8 0) Tryz.underlying22 hi hz .i64 .i64 (n : Int) (n : Int) (by omega) (by omega) (by rw [hb]; omega) (by omega)
 have e0 : u8s (List.replicate n 0) = List.replicate n (Value.int .u8 0) := by simp [u8s]
 have e1 : madeCells (Value.int .u8 0).cells ((n : Int).toNat * i.size) = (u8s (List.replicate n 0)).toArray := by
  rw [hs, Int.toNat_natCast, Nat.mul_one, e0, <- toList_madeCells_one (.int .u8 0) n]
  rfl
 rw [e1, Int.toNat_natCast] at h
 exact h
theorem cv_mark (w : World) (C : Array Value) (n c : Nat) : (convert 22 22 (.slice (some ⟨w.heap.size, 0, none⟩) n c)).run Tryz.prog (w.alloc (.cells C 5)) = .ok (.slice (some ⟨w.heap.size, 0, none⟩) n c) (w.alloc (.cells C 5 (C.size, C.size + 1))) := by
 have hsh : (w.alloc (.cells C 5)).shape? w.heap.size = some (5, C.size) := by
  have : (w.alloc (.cells C 5)).heap[w.heap.size]? = some (.cells C 5) := heap_alloc_new w _
  unfold World.shape?
  rw [this]
 have hfr : (w.alloc (.cells C 5)).freeze ⟨w.heap.size, C.size, none⟩ 1 = w.alloc (.cells C 5 (C.size, C.size + 1)) := by
  have hm : ∀ (a : Array Obj) (x : Obj) (f : Obj -> Obj), (a.push x).modify a.size f = a.push (f x) := by
   intro a x f
   apply Array.ext
   ·simp
   ·intro i h1 h2
    simp only [Array.getElem_modify, Array.getElem_push]
    by_cases h : a.size = i
    ·subst h
     simp
    ·have hi : i < a.size := by simp at h1; omega
     simp [h, hi]
  unfold World.freeze
  rw [if_neg (by decide)]
  show ({ w.alloc (.cells C 5) with heap := (w.heap.push (.cells C 5)).modify w.heap.size _ } : World) = _
  rw [hm]
  rfl
 simp [convert, run_underlying Tryz.underlying22, run_underlying Tryz.underlying5, markStringish, hsh, hfr]
theorem sees_mark (w : World) (T : TypeId) (fz : Nat × Nat) (cs : List Value) (n : Nat) (h : cs.length = n * 1) : Sees (w.alloc (.cells cs.toArray T fz)) 1 (some ⟨w.heap.size, 0, none⟩) n cs :=
 ⟨h, fun _ => ⟨_, 0, rfl, fun j u hu => by rw [Nat.zero_add, cell_of_row _ _ _ _ _ _ (heap_alloc_new w (.cells cs.toArray T fz)), List.getElem?_toArray]; exact hu⟩⟩
end
section
set_option maxRecDepth 4000
open Go.RowKit
def khead (b : Nat) (k : List UInt8) : List UInt8 := [101, 110, 103, 107] ++ be b 8 ++ k
def keyo (b : Nat) (k : List UInt8) : List UInt8 := crcw (khead b k) ++ List.replicate 80 0
theorem khead_length (b : Nat) (k : List UInt8) (h : k.length = 32) : (khead b k).length = 44 := by simp [khead, length_be, h]
theorem keyo_length (b : Nat) (k : List UInt8) (h : k.length = 32) : (keyo b k).length = 128 := by rw [keyo, List.length_append, crcw, List.length_append, khead_length b k h, length_be, List.length_replicate]
def keyRight (b : Int) (n : Nat) : Prop := 0 <= b /\ b <= 1099511627776 /\ n = 32
instance (b : Int) (n : Nat) : Decidable (keyRight b n) := by unfold keyRight; infer_instance
theorem kright_any (b : Int) (A : Option Addr) (n c : Nat) (w : World) : Calls Tryz.prog 126 #[.int .i64 b, .slice A n c] w fun e w' => e = .returned (.bool (decide (keyRight b n))) /\ w = w' := by
 by_cases h1 : 0 <= b
 ·by_cases h2 : b <= 1099511627776
  ·by_cases h3 : n = 32
   ·rw [decide_eq_true (show keyRight b n from ⟨h1, h2, h3⟩)]
    have h3' : (n : Int) = 32 := by omega
    go_enter Tryz.func126, Tryz.ntmps126
    go_wp2_with fail
    go_ret
    exact ⟨ret_bool (by first | rfl | (simp; done) | (simp; omega)), rfl⟩
   ·rw [decide_eq_false (show ¬ keyRight b n from fun h => h3 h.2.2)]
    have h3' : ((n : Int) == 32) = false := by rw [beq_eq_false_iff_ne]; omega
    go_enter Tryz.func126, Tryz.ntmps126
    go_wp2_with fail
    go_ret
    exact ⟨ret_bool (by first | rfl | (simp; done) | (simp; omega)), rfl⟩
  ·rw [decide_eq_false (show ¬ keyRight b n from fun h => h2 h.2.1)]
   go_enter Tryz.func126, Tryz.ntmps126
   go_wp2_with fail
   go_ret
   exact ⟨ret_bool (by first | rfl | (simp; done) | (simp; omega)), rfl⟩
 ·rw [decide_eq_false (show ¬ keyRight b n from fun h => h1 h.1)]
  go_enter Tryz.func126, Tryz.ntmps126
  go_wp2_with fail
  go_ret
  exact ⟨ret_bool (by first | rfl | (simp; done) | (simp; omega)), rfl⟩
theorem koctets_any (b : Nat) (k : List UInt8) (A : Option Addr) (c : Nat) (w : World) (hb : b <= 1099511627776) (hk : k.length = 32) (hS : Sees w 1 A 32 (u8s k)) :
  Calls Tryz.prog 128 #[.int .i64 b, .slice A 32 c] w fun e w' => ∃ v, e = .returned v /\ w'.ownsRow w.heap.size 5 1 v 128 (u8s (keyo b k)) /\ Below w.heap.size w w' := by
 have HL := Lh (khead_length b k hk)
 have HH := Lh (show keyo b k = crcw (khead b k) ++ List.replicate 80 0 from rfl)
 generalize hP0 : keyo b k = P0 at *
 clear hP0
 have HH0 := Lh (show khead b k = [101, 110, 103, 107] ++ be b 8 ++ k from rfl)
 generalize khead b k = L0 at *
 have hb0 : IntKind.u64.wrap (b : Int) = (b : Int) := by rw [IntKind.wrap_u64]; omega
 have HN := Lh new_any
 have HS := Lh hS; clear hS
 go_enter Tryz.func128, Tryz.ntmps128
 go_wp2_with fail
 refine (HN.out _).mono ?_
 rintro e w2 ⟨rfl, hp2, hb2⟩
 have hal : Below w2.heap.size w2 (w2.alloc (.cells #[.int .u8 101, .int .u8 110, .int .u8 103, .int .u8 107] 5 (4, 5))) := (Below.refl _ _).alloc (Nat.le_refl _) _
 have hcv : (convert 22 22 (.slice (some ⟨w2.heap.size, 0, none⟩) 4 4)).run Tryz.prog (w2.alloc (.cells #[.int .u8 101, .int .u8 110, .int .u8 103, .int .u8 107] 5)) = .ok (.slice (some ⟨w2.heap.size, 0, none⟩) 4 4) (w2.alloc (.cells #[.int .u8 101, .int .u8 110, .int .u8 103, .int .u8 107] 5 (4, 5))) := cv_mark w2 _ 4 4
 have HRW := Lh (raw_any w.heap.size w.heap.size [] [101, 110, 103, 107] _ 4 4 _ (hp2.keep hal) (sees_mark w2 5 (4, 5) [.int .u8 101, .int .u8 110, .int .u8 103, .int .u8 107] 4 rfl) rfl (by simp))
 have hb2 := hb2.trans (hal.mono hb2.size)
 have HB2 := Lh hb2; clear hp2 hb2 HN hal
 go_wp2_with fail
 refine HRW.out.mono ?_
 rintro e w3 ⟨rfl, hp3, hb3⟩
 have hb13 := HB2.out.trans hb3
 rw [List.nil_append] at hp3
 have HU := Lh (u64_any w.heap.size w.heap.size _ b w3 hp3 (by omega) (by simp))
 have HB13 := Lh hb13; clear hp3 hb3 hb13 HRW HB2
 go_wp2_with fail
 refine HU.out.mono ?_
 rintro e w4 ⟨rfl, hp4, hb4⟩
 have hb14 := HB13.out.trans hb4
 have HU2 := Lh (raw_any w.heap.size w.heap.size _ k _ 32 c w4 hp4 (HS.out.below hb14) hk (by simp [length_be]))
 rw [<- HH0.out] at HU2
 have HB14 := Lh hb14; clear hp4 hb4 hb14 HU HB13
 go_wp2_with fail
 refine HU2.out.mono ?_
 rintro e w5 ⟨rfl, hp5, hb5⟩
 have hb15 := HB14.out.trans hb5
 have hBy := bytes_any w.heap.size w.heap.size L0 w5 hp5 (by rw [HL.out]; omega) (by rw [HL.out]; omega)
 rw [HL.out] at hBy
 have HBY := Lh hBy
 have HB15 := Lh hb15; clear hp5 hb5 hb15 HU2 HB14 hBy
 have hmk := make_bytes 128 (by omega)
 obtain ⟨Z, hZ⟩ : ∃ z : Array Value, z = (u8s (List.replicate 128 0)).toArray := ⟨_, rfl⟩
 rw [<- hZ] at hmk
 replace hmk : ∀ W : World, (Instr.makeSlice 22 (.int .i64 128) (.int .i64 128)).run Tryz.prog W = .ok (.slice (some ⟨W.heap.size, 0, none⟩) 128 128) (W.alloc (.cells Z 5)) := hmk
 have HZ := Lh hZ; clear hZ
 have hZs : Z.size = 128 := by rw [HZ.out]; simp
 go_wp2_with fail
 refine HBY.out.mono ?_
 rintro e w7 ⟨v7, rfl, hown7, hb7⟩
 obtain ⟨A7, c7, rfl⟩ := own_shape hown7
 have hb17 := HB15.out.trans (hb7.mono HB15.out.size)
 have hal7 : Below w7.heap.size w7 (w7.alloc (.cells Z 5)) := (Below.refl _ _).alloc (Nat.le_refl _) _
 have HW := Lh (cwith_any L0 A7 44 c7 (w7.alloc (.cells Z 5)) (Sees.of_own (own_below hown7 hal7)) HL.out (by omega))
 have HB17 := Lh hb17; clear hown7 hb7 hb17 HBY HB15 hal7
 go_wp2_with (simp only [hmk])
 refine HW.out.mono ?_
 rintro e w8 ⟨v8, rfl, hown8, hb8⟩
 obtain ⟨A8, c8, rfl⟩ := own_shape hown8
 have hBZ : Blk w8 w7.heap.size 5 Z := (Blk.new w7 5 Z).below hb8 (by simp)
 have hS8 := Sees.of_own hown8
 have hsz : (Tryz.prog.info? 5).map (·.size) = some 1 := by kernel_rfl
 have hw7 : (w7.alloc (.cells Z 5)).heap.size = w7.heap.size + 1 := by simp
 have hb8' : Below w.heap.size w w8 := (HB17.out.alloc HB17.out.size _).trans (hb8.mono (by have := HB17.out.size; omega))
 have hws := HB17.out.size
 have HBZ := Lh hBZ; have HS8 := Lh hS8; have HB8 := Lh hb8'
 clear hBZ hS8 hb8' hb8 hown8 HW HB17 hmk
 go_wp2_with (with_reducible refine wpList_cpy rfl (.tmp 27) (.tmp 29) 22 22 rfl 5 Tryz.underlying22 hsz w7.heap.size 0 128 128 A8 48 c8 rfl rfl Z 5 HBZ.out (u8s (crcw L0)) HS8.out (by rw [hZs]; omega) (u8s_one _) ?_; intro w9 hB9 hF9; have HB9 := Lh hB9; have HF9 := Lh hF9; clear hB9 hF9)
 go_ret
 have hcw : (crcw L0).length = 48 := by rw [crcw, List.length_append, length_be, HL.out]
 have e : splice Z.toList 0 ((u8s (crcw L0)).take 128) = u8s P0 := by
  rw [List.take_of_length_le (by rw [length_u8s, hcw]; omega), HZ.out, splice, length_u8s, hcw, List.take_zero, List.nil_append, HH.out, u8s_append]
  congr 1
 have HB9' := HB9.out
 rw [e] at HB9'
 have hlh : (u8s P0).length = 128 := by rw [HH.out, length_u8s, List.length_append, hcw]; rfl
 refine ⟨_, rfl, own_mk (by omega) HB9' (Nat.le_refl _) (by unfold maxLen; omega) (by rw [List.size_toArray, hlh]) (by rw [List.toList_toArray, Nat.mul_one]; exact List.take_of_length_le (by rw [hlh]; exact Nat.le_refl _)), HB8.out.trans (HF9.out.below HB8.out.size (fun j hj => by omega))⟩
end
section
set_option maxRecDepth 4000
open Go.RowKit
theorem equal_any (l m : List UInt8) (A B : Option Addr) (n c n' c' : Nat) (w : World) (hA : Sees w 1 A n (u8s l)) (hB : Sees w 1 B n' (u8s m)) :
  Calls Tryz.prog 69 #[.slice A n c, .slice B n' c'] w fun e w' => e = .returned (.bool (decide (l = m))) /\ w = w' := by
 have h1 := run_to_string Tryz.underlying22 Tryz.underlying5 Tryz.underlying9 c hA
 have h2 := run_to_string Tryz.underlying22 Tryz.underlying5 Tryz.underlying9 c' hB
 have h3 : ((str l).toList == (str m).toList) = decide (l = m) := by rw [str_toList, str_toList, beq_dec]
 obtain ⟨X, hX⟩ : ∃ X, X = str l := ⟨_, rfl⟩
 obtain ⟨Y, hY⟩ : ∃ Y, Y = str m := ⟨_, rfl⟩
 rw [<- hX] at h1 h3
 rw [<- hY] at h2 h3
 have H3 := Lh h3
 clear hX hY hA hB h3
 go_enter Tryz.func69, Tryz.ntmps69
 go_wp2_with fail
 go_ret
 exact ⟨ret_bool H3.out, rfl⟩
def Eye (w : World) (base p : Nat) (l : List UInt8) (err : Nat) : Prop :=
 base <= p /\ ∃ A c, Blk w p 129 #[.slice A l.length c, .int .i64 (err : Nat)] /\ Sees w 1 A l.length (u8s l) /\ l.length <= c /\ (∀ a, A = some a -> a.block ≠ p) /\ (A = none -> c = 0)
theorem open_any (l : List UInt8) (ad : Addr) (n c : Nat) (w : World) (hA : Sees w 1 (some ad) n (u8s l)) (hl : l.length = n) (hn : n <= 140737488355328) :
  Calls Tryz.prog 40 #[.slice (some ad) n c] w fun e w' => ∃ p, e = .returned (.pointer (some ⟨p, 0, none⟩)) /\ Eye w' w.heap.size p l 0 /\ Below w.heap.size w w' := by
 have HC := Lh (clone_any ad n c (u8s l) w hA (u8s_one l) hn)
 clear hA
 go_enter Tryz.func40, Tryz.ntmps40
 go_wp2_with fail
 refine HC.out.mono ?_
 rintro e w1 ⟨v, rfl, hown, hb⟩
 obtain ⟨A, c', rfl⟩ := own_shape hown
 have HOWN := Lh hown; have HB := Lh hb; clear hown hb
 go_wp2_with fail
 go_ret
 have hsz := HB.out.size
 have hcs : n <= c' /\ (∀ a, A = some a -> a.block ≠ w1.heap.size) /\ (A = none -> c' = 0) := by
  rcases HOWN.out.2 with ⟨hv, h0⟩ | ⟨g, cap, cur, hv, hb, hg, hnc, _⟩
  ·injection hv with h1 h2 h3
   subst h1 h3
   exact ⟨by omega, fun a e => (by cases e), fun _ => rfl⟩
  ·injection hv with h1 h2 h3
   subst h1 h3
   have := (Array.getElem?_eq_some_iff.1 hg).1
   exact ⟨hnc, fun a e => (by injection e with e; subst e; exact Nat.ne_of_lt this), fun e => (by cases e)⟩
 have hal : Below w1.heap.size w1 (w1.alloc (.cells #[.slice A n c', .int .i64 0] 129)) := (Below.refl _ _).alloc (Nat.le_refl _) _
 refine ⟨w1.heap.size, rfl, ⟨hsz, A, c', ?_, ?_, ?_, hcs.2.1, hcs.2.2⟩, HB.out.trans (hal.mono hsz)⟩
 ·rw [hl]; exact Blk.newAt rfl rfl
 ·rw [hl]; exact (Sees.of_own HOWN.out).below hal
 ·rw [hl]; exact hcs.1
theorem next_ok (base p k : Nat) (l : List UInt8) (w : World) (hE : Eye w base p l 0) (hk : k <= l.length) (hl : l.length <= 1000000000) :
  Calls Tryz.prog 73 #[.pointer (some ⟨p, 0, none⟩), .int .i64 k] w fun e w' => ∃ A c, e = .returned (.slice A k c) /\ Sees w' 1 A k (u8s (l.take k)) /\ Eye w' base p (l.drop k) 0 /\ Below base w w' := by
 obtain ⟨hbp, A, c, hb, hS, hlc, hne, hA0⟩ := hE
 obtain ⟨n, hn⟩ : ∃ n, n = l.length := ⟨_, rfl⟩
 rw [<- hn] at hb hS hlc hl hk
 have hc0 : w.cell? ⟨p, 0, none⟩ = some (.slice A n c) := by rw [hb.cell]; rfl
 have hc1 : w.cell? ⟨p, 1, none⟩ = some (.int .i64 0) := by rw [hb.cell]; rfl
 have hfz : w.frozen? ⟨p, 0, none⟩ = false := hb.frozen 0
 have hki : (k : Int) <= (n : Int) := by omega
 have hkc : (k : Int) <= (c : Int) := by omega
 have hnc : (n : Int) <= (c : Int) := by omega
 have hkc2 : k <= c := by omega
 have HB := Lh hb; have HS := Lh hS; have HN := Lh hn; clear hb hS hn
 have hT : Sees w 1 A k (u8s (l.take k)) := by
  refine ⟨by simp [<- HN.out]; omega, fun hm => ?_⟩
  obtain ⟨g, off, e, hc⟩ := HS.out.2 (by omega)
  refine ⟨g, off, e, fun j u hu => hc j u ?_⟩
  rw [u8s_take, List.getElem?_take] at hu
  split at hu
  ·exact hu
  ·cases hu
 have hdl : (l.drop k).length = n - k := by rw [List.length_drop, <- HN.out]
 have HT := Lh hT; have HDL := Lh hdl; clear hT hdl
 by_cases hck : c = k
 ·obtain rfl : n = k := by omega
  subst hck
  go_enter Tryz.func73, Tryz.ntmps73
  go_wp2_with fail
  go_ret
  have hl0 : l.drop c = [] := List.eq_nil_of_length_eq_zero (by rw [HDL.out]; omega)
  have hfar : ∀ {B : Option Addr} {m : Nat} {xs : List Value}, Sees w 1 B m xs -> (∀ a, B = some a -> a.block ≠ p) -> Sees (w.setCell ⟨p, 0, none⟩ (.slice A 0 0)) 1 B m xs := fun h hn => h.keep fun g off e _ => Below.heap_setCell _ _ _ _ (hn _ e)
  refine ⟨A, c, rfl, hfar HT.out hne, ⟨hbp, A, 0, ?_, ?_, by rw [hl0]; exact Nat.le_refl _, hne, fun _ => rfl⟩, (Below.refl _ _).setCell hbp _⟩
  ·rw [hl0]; exact HB.out.set_ 0 (.slice A 0 0)
  ·rw [hl0]; exact Sees.none_ _ _ _
 ·have hdS : Sees w 1 (A.map (·.add k)) (n - k) (u8s (l.drop k)) := by
   refine ⟨by simp [<- HN.out], fun hm => ?_⟩
   obtain ⟨g, off, e, hc⟩ := HS.out.2 (by omega)
   refine ⟨g, off + k, ?_, fun j u hu => ?_⟩
   ·rw [e]
    simp only [Option.map_some, Option.some.injEq]
    unfold Addr.add
    split <;> simp_all
   ·rw [u8s_drop, List.getElem?_drop] at hu
    rw [Nat.add_assoc]
    exact hc _ u hu
  have hnb : ∀ a, A.map (·.add k) = some a -> a.block ≠ p := by
   intro a e
   rw [Option.map_eq_some_iff] at e
   obtain ⟨a', e1, e2⟩ := e
   have := hne a' e1
   rw [<- e2]
   unfold Addr.add
   split <;> simpa using this
  have hb2 := HB.out.set_ 0 (.slice (A.map (·.add k)) (n - k) (c - k))
  have HDS := Lh hdS; have HB2 := Lh hb2; clear hdS hb2
  go_enter Tryz.func73, Tryz.ntmps73
  go_wp2_with fail
  go_ret
  have hfar : ∀ {B : Option Addr} {m : Nat} {xs : List Value}, Sees w 1 B m xs -> (∀ a, B = some a -> a.block ≠ p) -> Sees (w.setCell ⟨p, 0, none⟩ (.slice (A.map (·.add k)) (n - k) (c - k))) 1 B m xs := fun h hn => h.keep fun g off e _ => Below.heap_setCell _ _ _ _ (hn _ e)
  refine ⟨A, k, rfl, hfar HT.out hne, ⟨hbp, A.map (·.add k), c - k, ?_, ?_, by rw [HDL.out]; omega, hnb, fun e => ?_⟩, (Below.refl _ _).setCell hbp _⟩
  ·rw [HDL.out]; exact HB2.out
  ·rw [HDL.out]; exact hfar HDS.out hnb
  ·cases A with
   | none => have := hA0 rfl; omega
   | some a => cases e
theorem next_short (base p k : Nat) (l : List UInt8) (w : World) (hE : Eye w base p l 0) (hk : l.length < k) (hk2 : k <= 1000) :
  Calls Tryz.prog 73 #[.pointer (some ⟨p, 0, none⟩), .int .i64 k] w fun e w' => e = .returned (.slice none 0 0) /\ Eye w' base p l 10 /\ Below base w w' := by
 obtain ⟨hbp, A, c, hb, hS, hlc, hne, hA0⟩ := hE
 obtain ⟨n, hn⟩ : ∃ n, n = l.length := ⟨_, rfl⟩
 rw [<- hn] at hb hS hlc hk
 have hc0 : w.cell? ⟨p, 0, none⟩ = some (.slice A n c) := by rw [hb.cell]; rfl
 have hc1 : w.cell? ⟨p, 1, none⟩ = some (.int .i64 0) := by rw [hb.cell]; rfl
 have hfz : w.frozen? ⟨p, 1, none⟩ = false := hb.frozen 1
 have hki : (n : Int) < (k : Int) := by omega
 have hb2 := hb.set_ 1 (.int .i64 10)
 have HS := Lh hS; have HN := Lh hn; have HB2 := Lh hb2; clear hb hS hn hb2
 go_enter Tryz.func73, Tryz.ntmps73
 go_wp2_with fail
 go_ret
 refine ⟨rfl, ⟨hbp, A, c, ?_, ?_, by rw [<- HN.out]; exact hlc, hne, hA0⟩, (Below.refl _ _).setCell hbp _⟩
 ·rw [<- HN.out]; exact HB2.out
 ·rw [<- HN.out]; exact HS.out.keep fun g off e _ => Below.heap_setCell _ _ _ _ (hne _ e)
theorem next_err (base p k err : Nat) (l : List UInt8) (w : World) (hE : Eye w base p l err) (he : 0 < err) (he2 : err <= 1000) (hk2 : k <= 1000) :
  Calls Tryz.prog 73 #[.pointer (some ⟨p, 0, none⟩), .int .i64 k] w fun e w' => e = .returned (.slice none 0 0) /\ w = w' := by
 obtain ⟨hbp, A, c, hb, hS, hlc, hne, hA0⟩ := hE
 have hc1 : w.cell? ⟨p, 1, none⟩ = some (.int .i64 (err : Nat)) := by rw [hb.cell]; rfl
 have h0 : ((err : Int) == 0) = false := by rw [beq_eq_false_iff_ne]; omega
 have h1 : ((err : Int) != 0) = true := by rw [bne, h0]; rfl
 clear hb hS
 go_enter Tryz.func73, Tryz.ntmps73
 go_wp2_with fail
 go_ret
 exact ⟨rfl, rfl⟩
def vl (l : List UInt8) : Nat := l.foldl (fun a c => a * 256 + c.toNat) 0
theorem vl_snoc (l : List UInt8) (c : UInt8) : vl (l ++ [c]) = vl l * 256 + c.toNat := by simp [vl]
theorem vl_go : ∀ (l : List UInt8) (a : Nat), l.foldl (fun a c => a * 256 + c.toNat) a < (a + 1) * 256 ^ l.length
 | [], a => by simp
 | c :: l, a => by
  have h := vl_go l (a * 256 + c.toNat)
  have hc := c.toNat_lt
  rw [List.foldl_cons, List.length_cons, Nat.pow_succ, Nat.mul_comm (256 ^ l.length), <- Nat.mul_assoc]
  exact Nat.lt_of_lt_of_le h (Nat.mul_le_mul_right _ (by omega))
theorem vl_lt (l : List UInt8) : vl l < 256 ^ l.length := by
 have := vl_go l 0
 rwa [Nat.zero_add, Nat.one_mul] at this
def eyeN (l : List UInt8) (err k : Nat) : Nat := if err = 0 /\ k <= l.length then vl (l.take k) else 0
def eyeL (l : List UInt8) (err k : Nat) : List UInt8 := if err = 0 /\ k <= l.length then l.drop k else l
def eyeE (l : List UInt8) (err k : Nat) : Nat := if err = 0 /\ l.length < k then 10 else err
theorem enum_any (base p k err : Nat) (l : List UInt8) (w : World) (hE : Eye w base p l err) (he : err <= 1000) (hk : k <= 8) (hl : l.length <= 1000000000) :
  Calls Tryz.prog 74 #[.pointer (some ⟨p, 0, none⟩), .int .i64 k] w fun e w' => e = .returned (.int .u64 (eyeN l err k : Nat)) /\ Eye w' base p (eyeL l err k) (eyeE l err k) /\ Below base w w' := by
 by_cases h0 : err = 0
 ·subst h0
  by_cases hkl : k <= l.length
  ·have e1 : eyeN l 0 k = vl (l.take k) := if_pos ⟨rfl, hkl⟩
   have e2 : eyeL l 0 k = l.drop k := if_pos ⟨rfl, hkl⟩
   have e3 : eyeE l 0 k = 0 := if_neg (by omega)
   rw [e1, e2, e3]
   have HX := Lh (next_ok base p k l w hE hkl hl)
   obtain ⟨q, hq⟩ : ∃ q, q = l.take k := ⟨_, rfl⟩
   have hql : q.length = k := by rw [hq, List.length_take]; omega
   rw [<- hq] at HX ⊢
   clear e1 e2 e3 hE hq
   go_enter Tryz.func74, Tryz.ntmps74
   go_wp2_with fail
   refine HX.out.mono ?_
   rintro e w1 ⟨A, c, rfl, hS, hE1, hb⟩
   have HS := Lh hS; have HE := Lh hE1; have HB := Lh hb; clear hS hE1 hb HX
   go_wp2_with fail
   go_loop [5, 12] (fun x i => ∃ j : Nat, j <= k /\ i = .int .i64 j /\ x = .int .u64 (vl (q.take j) : Nat)) (fun _ i => k - (intOf i).toNat)
   case atStart => exact ⟨0, by omega, rfl, rfl⟩
   case round =>
    obtain ⟨j, hj, rfl, rfl⟩ := hrel
    by_cases hlt : j < k
    ·have hlti : (j : Int) < (k : Int) := by omega
     obtain ⟨d, hd⟩ : ∃ d, d = (q[j]'(by omega)).toNat := ⟨_, rfl⟩
     have hd256 : d < 256 := by rw [hd]; exact UInt8.toNat_lt _
     have hcd : ∃ g off, A = some ⟨g, off, none⟩ /\ w1.cell? ⟨g, off + j, none⟩ = some (.int .u8 (d : Nat)) := by
      obtain ⟨g, off, e, hc⟩ := sees_u8 HS.out (show j < k from hlt) (by omega)
      exact ⟨g, off, e, by rw [hc, hd]⟩
     obtain ⟨g, off, rfl, hcd⟩ := hcd
     have hnx : vl (q.take (j + 1)) = vl (q.take j) * 256 + d := by
      rw [List.take_add_one, List.getElem?_eq_getElem (by omega)]
      show vl (q.take j ++ [q[j]'(by omega)]) = _
      rw [vl_snoc, hd]
     have hvl := vl_lt (q.take j)
     rw [List.length_take, Nat.min_eq_left (by omega)] at hvl
     have hp7 : (256 : Nat) ^ j <= 256 ^ 7 := Nat.pow_le_pow_right (by decide) (by omega)
     obtain ⟨x, hx⟩ : ∃ x, x = vl (q.take j) := ⟨_, rfl⟩
     rw [<- hx] at hnx hvl ⊢
     have hx7 : x < 72057594037927936 := by omega
     have hor : bits BinOp.or IntKind.u64 ((x : Int) * 256) (d : Int) = ((x * 256 + d : Nat) : Int) := by
      have e : ((x : Int) * 256) = ((x * 256 : Nat) : Int) := by omega
      rw [e, u64_or_nat _ _ (by omega) (by omega), or_add hd256]
     have hdw : IntKind.u64.wrap (d : Int) = (d : Int) := by rw [IntKind.wrap_u64]; omega
     have hxw : IntKind.u64.wrap ((x : Int) * 256) = (x : Int) * 256 := by rw [IntKind.wrap_u64]; omega
     have HOR := Lh hor; have HNX := Lh hnx
     clear hor hnx hx hd hvl hp7
     go_wp2_with fail
     go_round
     case rel => exact ⟨j + 1, by omega, by go_num, by rw [HNX.out, <- HOR.out]⟩
     case measure => simp [intOf]; omega
    ·obtain rfl : j = k := by omega
     rw [List.take_of_length_le (by omega)]
     have hge : ¬ ((j : Int) < (j : Int)) := by omega
     go_wp2_with fail
     go_ret
     exact ⟨rfl, HE.out, HB.out⟩
  ·have e1 : eyeN l 0 k = 0 := if_neg (by omega)
   have e2 : eyeL l 0 k = l := if_neg (by omega)
   have e3 : eyeE l 0 k = 10 := if_pos ⟨rfl, by omega⟩
   rw [e1, e2, e3]
   have HX := Lh (next_short base p k l w hE (by omega) (by omega))
   clear e1 e2 e3 hE
   go_enter Tryz.func74, Tryz.ntmps74
   go_wp2_with fail
   refine HX.out.mono ?_
   rintro e w1 ⟨rfl, hE1, hb⟩
   have HE := Lh hE1; have HB := Lh hb; clear hE1 hb HX
   go_wp2_with fail
   go_loop [5, 12] (fun x i => i = .int .i64 0 /\ x = .int .u64 0) (fun _ _ => 0)
   case atStart => exact ⟨rfl, rfl⟩
   case round =>
    obtain ⟨rfl, rfl⟩ := hrel
    go_wp2_with fail
    go_ret
    exact ⟨rfl, HE.out, HB.out⟩
 ·have e1 : eyeN l err k = 0 := if_neg (by omega)
  have e2 : eyeL l err k = l := if_neg (by omega)
  have e3 : eyeE l err k = err := if_neg (by omega)
  rw [e1, e2, e3]
  have HX := Lh (next_err base p k err l w hE (by omega) he (by omega))
  have HE := Lh hE
  clear e1 e2 e3 hE
  go_enter Tryz.func74, Tryz.ntmps74
  go_wp2_with fail
  refine HX.out.mono ?_
  rintro e w1 ⟨rfl, rfl⟩
  go_wp2_with fail
  go_loop [5, 12] (fun x i => i = .int .i64 0 /\ x = .int .u64 0) (fun _ _ => 0)
  case atStart => exact ⟨rfl, rfl⟩
  case round =>
   obtain ⟨rfl, rfl⟩ := hrel
   go_wp2_with fail
   go_ret
   exact ⟨rfl, HE.out, Below.refl _ _⟩
theorem eyeN_lt (l : List UInt8) (err k : Nat) : eyeN l err k < 256 ^ k := by
 unfold eyeN
 split
 ·rename_i h
  have := vl_lt (l.take k)
  rwa [List.length_take, Nat.min_eq_left h.2] at this
 ·exact Nat.pow_pos (by decide)
theorem e32_any (base p err : Nat) (l : List UInt8) (w : World) (hE : Eye w base p l err) (he : err <= 1000) (hl : l.length <= 1000000000) :
  Calls Tryz.prog 163 #[.pointer (some ⟨p, 0, none⟩)] w fun e w' => e = .returned (.int .i64 (eyeN l err 4 : Nat)) /\ Eye w' base p (eyeL l err 4) (eyeE l err 4) /\ Below base w w' := by
 have HN := Lh (enum_any base p 4 err l w hE he (by omega) hl)
 have hx := eyeN_lt l err 4
 obtain ⟨x, hxe⟩ : ∃ x, x = eyeN l err 4 := ⟨_, rfl⟩
 rw [<- hxe] at HN hx ⊢
 have hxw : IntKind.i64.wrap (x : Int) = (x : Int) := IntWalk.i64_in _ (by omega)
 clear hE hxe
 go_enter Tryz.func163, Tryz.ntmps163
 go_wp2_with fail
 refine HN.out.mono ?_
 rintro e w1 ⟨rfl, h1, h2⟩
 go_wp2_with fail
 go_ret
 exact ⟨rfl, h1, h2⟩
end
end Go.Proofs.YtkgaeoeibjoljaaGreatDoor
