/-
  An argument of acts (Kind, N: ints; Keep: ints), read.
  The law's small, size and without.
  A run, and the law's two rows of epochs beside it.
-/
import Derived.Test.YtkgaeoeibjoljaaGreatDoorGA
import Derived.Deep.Slices
import Derived.Test.YtkgaeoeibjoljaaGreatDoorHI
namespace Go.Proofs.YtkgaeoeibjoljaaGreatDoor
section
set_option maxRecDepth 4000
open Go.RowKit Go.ChangeShapes Go.WideShapes Go.Deep
structure Sa where
 kd : Int
 n : Int
 pA : Option Addr
 pl : Nat
 pc : Nat
 keep : List Int
def sacells (y : Sa) : List Value := [.int .i64 y.kd, .int .i64 y.n, .slice y.pA y.pl y.pc]
@[simp] theorem sacells_length (y : Sa) : (sacells y).length = 3 := rfl
def sas (l : List Sa) : List Value := l.flatMap sacells
@[simp] theorem sas_length (l : List Sa) : (sas l).length = l.length * 3 := by unfold sas; rw [length_flatMap_const _ 3 sacells_length]
theorem sas_get : ∀ {l : List Sa} {k : Nat} {e : Sa}, l[k]? = some e -> ∀ j, j < 3 -> (sas l)[k * 3 + j]? = (sacells e)[j]?
 | [], k, e, h, j, hj => by simp at h
 | x :: l, 0, e, h, j, hj => by
   injection h with h; subst h
   show (sacells x ++ sas l)[0 * 3 + j]? = _
   rw [Nat.zero_mul, Nat.zero_add, List.getElem?_append_left (by rw [sacells_length]; exact hj)]
 | x :: l, k + 1, e, h, j, hj => by
   show (sacells x ++ sas l)[(k + 1) * 3 + j]? = _
   rw [List.getElem?_append_right (by rw [sacells_length]; omega), sacells_length, show (k + 1) * 3 + j - 3 = k * 3 + j by omega]
   exact sas_get (by simpa using h) j hj
structure SaOk (w : World) (y : Sa) : Prop where
 kd : -9223372036854775808 <= y.kd /\ y.kd <= 9223372036854775807
 n : -9223372036854775808 <= y.n /\ y.n <= 9223372036854775807
 sees : Sees w 1 y.pA y.pl (y.keep.map (Value.int .i64))
 len : y.keep.length = y.pl
 most : y.pl <= maxLen
theorem in_sa {w : World} {A : Option Addr} {l : List Sa} (h : Sees w 3 A l.length (sas l)) {k : Nat} {y : Sa} (hk : l[k]? = some y) :
  ∃ g o, A = some ⟨g, o, none⟩ /\ w.cell? ⟨g, o + k * 3, none⟩ = some (.int .i64 y.kd) /\ w.cell? ⟨g, o + k * 3 + 1, none⟩ = some (.int .i64 y.n) /\ w.cell? ⟨g, o + k * 3 + 2, none⟩ = some (.slice y.pA y.pl y.pc) := by
 have hkl := (List.getElem?_eq_some_iff.1 hk).1
 obtain ⟨g, o, e', hc⟩ := h.2 (by omega)
 have hg : ∀ j u, j < 3 -> (sacells y)[j]? = some u -> w.cell? ⟨g, o + k * 3 + j, none⟩ = some u := fun j u hj hu => by
  have := hc (k * 3 + j) u (by rw [sas_get hk j hj]; exact hu)
  rwa [<- Nat.add_assoc] at this
 exact ⟨g, o, e', hg 0 _ (by omega) rfl, hg 1 _ (by omega) rfl, hg 2 _ (by omega) rfl⟩
section
variable {H : Type} {enc : TypeId × Value -> H} {P : Program} {w : World} {base : Nat} {spare : Nat -> Bool} {held : Bool}
theorem open_keep {t e : TypeId} {fuel : Nat} {cs : List Value} {x : DataW H × List MemPlace} (ht : P.underlying t = some (.slice e)) (he : P.underlying e = some (.int .i64)) (hc : P.cellsOf e = 1) (h : DataW.trod enc P w base (fun _ => true) held fuel t cs = some x) :
  ∃ A n c, ∃ z : List Int, cs = [.slice A n c] /\ Sees w 1 A n (z.map (Value.int .i64)) /\ z.length = n /\ n <= maxLen := by
 rcases open_ints ht he hc h with ⟨rfl, _⟩ | ⟨a, l, c, zs, rfl, _, hl, hm, hz, _, hcell, hwz⟩
 ·exact ⟨none, 0, 0, [], rfl, Sees.none_ _ _ _, rfl, Nat.zero_le _⟩
 ·have hr : IsRow .i64 w (some a) l c zs := .inr ⟨a, rfl, hl, hm, by simpa using hz, hcell, hwz⟩
  obtain ⟨h1, h2, h3, h4, -⟩ := hr.sees
  exact ⟨some a, l, c, zs.take l, rfl, h1, h2, Nat.le_trans h3 h4⟩
theorem open_sa {T I S2 : TypeId} {f0 f1 f2 : Field} (st : P.underlying T = some (.struct #[f0, f1, f2])) (int : P.underlying I = some (.int .i64)) (s2 : P.underlying S2 = some (.slice I))
  (t0 : f0.type = I) (t1 : f1.type = I) (t2 : f2.type = S2) (o0 : f0.offset = 0) (o1 : f1.offset = 1) (o2 : f2.offset = 2)
  (hI : P.cellsOf I = 1) (h2 : P.cellsOf S2 = 1) {fuel : Nat} {cs : List Value} {x : DataW H × List MemPlace} (hl : cs.length = 3) (h : DataW.trod enc P w base (fun _ => true) held fuel T cs = some x) : ∃ y : Sa, cs = sacells y /\ SaOk w y := by
 match cs, hl with
 | [c0, c1, c2], _ =>
  obtain ⟨xs, n, _, rfl, hl, hlen, hf⟩ := DataW.trod_struct st h
  match xs, hlen with
  | [y0, y1, y2], _ =>
   have g0 := hf 0 f0 rfl
   have g1 := hf 1 f1 rfl
   have g2 := hf 2 f2 rfl
   rw [t0, o0, hI] at g0
   rw [t1, o1, hI] at g1
   rw [t2, o2, h2] at g2
   obtain ⟨z0, a0, -, b0⟩ := DataW.trod_int int g0
   obtain ⟨z1, a1, -, b1⟩ := DataW.trod_int int g1
   obtain ⟨A2, n2, c2', zk, a2, s2', l2, m2⟩ := open_keep s2 int hI g2
   simp at a0 a1 a2
   have w0 := wf_i64 b0
   have w1 := wf_i64 b1
   refine ⟨⟨z0, z1, A2, n2, c2', zk⟩, ?_, w0, w1, s2', l2, m2⟩
   rw [a0, a1, a2]
   rfl
theorem open_sas {t T I S2 : TypeId} {f0 f1 f2 : Field} (st : P.underlying T = some (.struct #[f0, f1, f2])) (int : P.underlying I = some (.int .i64)) (s2 : P.underlying S2 = some (.slice I))
  (t0 : f0.type = I) (t1 : f1.type = I) (t2 : f2.type = S2) (o0 : f0.offset = 0) (o1 : f1.offset = 1) (o2 : f2.offset = 2)
  (hI : P.cellsOf I = 1) (h2 : P.cellsOf S2 = 1) (hT : P.cellsOf T = 3) (ht : P.underlying t = some (.slice T)) {fuel : Nat} {cs : List Value} {x : DataW H × List MemPlace}
  (h : DataW.trod enc P w base (fun _ => true) held fuel t cs = some x) : ∃ A ys c, cs = [.slice A (List.length ys) c] /\ Sees w 3 A (List.length ys) (sas ys) /\ (∀ y ∈ ys, SaOk w y) /\ List.length ys <= maxLen := by
 rcases open_slice ht h with ⟨rfl, _⟩ | ⟨a, len, cap, m, n, D, Pl, rfl, hb, hl, hm, hmm, rfl, hx⟩
 ·exact ⟨none, [], 0, rfl, Sees.none_ _ _ _, fun y hy => by simp at hy, Nat.zero_le _⟩
 ·simp only [if_true] at hmm
  subst hmm
  rw [hT] at hx
  have hb : ∀ r, ∃ y : Sa, (SaOk w y) /\ (r < m -> ∀ j, j < 3 -> w.cell? ((a.add (r * 3)).add j) = (sacells y)[j]?) := fun r => by
   by_cases hr : r < m
   ·obtain ⟨cs', h1', h2'⟩ := hx r hr
    obtain ⟨_, hlen, hcell⟩ := World.cells?_some h1'
    obtain ⟨y, rfl, hok⟩ := open_sa st int s2 t0 t1 t2 o0 o1 o2 hI h2 (by rw [hlen]) h2'
    exact ⟨y, hok, fun _ j hj => hcell j (by omega)⟩
   ·exact ⟨⟨0, 0, none, 0, 0, []⟩, ⟨⟨by decide, by decide⟩, ⟨by decide, by decide⟩, Sees.none_ _ _ _, rfl, Nat.zero_le _⟩, fun h => absurd h hr⟩
  obtain ⟨f, hf⟩ : ∃ f : Nat -> Sa, ∀ r, SaOk w (f r) /\ (r < m -> ∀ j, j < 3 -> w.cell? ((a.add (r * 3)).add j) = (sacells (f r))[j]?) := ⟨fun r => (hb r).choose, fun r => (hb r).choose_spec⟩
  refine ⟨some a, (List.range len).map f, m, by simp, ⟨by simp, fun h0 => ?_⟩, fun y hy => ?_, by simpa using Nat.le_trans hl hm⟩
  ·simp only [List.length_map, List.length_range] at h0
   obtain ⟨g, off, spot⟩ := a
   have hc0 := (hf 0).2 (by omega) 0 (by omega)
   have hspot : spot = none := by
    have : ∃ v, w.cell? (((⟨g, off, spot⟩ : Addr).add (0 * 3)).add 0) = some v := ⟨_, hc0⟩
    obtain ⟨v, hv⟩ := this
    simpa [Addr.add] using World.cell?_spot hv
   subst hspot
   refine ⟨g, off, rfl, fun j u hj => ?_⟩
   have hjl : j < len * 3 := by have := (List.getElem?_eq_some_iff.1 hj).1; simpa using this
   have hd : j / 3 < len := by omega
   have hk : ((List.range len).map f)[j / 3]? = some (f (j / 3)) := by rw [List.getElem?_map, List.getElem?_range hd]; rfl
   have hg := sas_get hk (j % 3) (by omega)
   rw [show j / 3 * 3 + j % 3 = j by omega, hj] at hg
   have hc := (hf (j / 3)).2 (by omega) (j % 3) (by omega)
   rw [<- hg] at hc
   have ea : ∀ (o n : Nat), (⟨g, o, none⟩ : Addr).add n = ⟨g, o + n, none⟩ := fun o n => by
    unfold Addr.add
    split
    ·subst n; rfl
    ·rfl
   have e : ((⟨g, off, none⟩ : Addr).add (j / 3 * 3)).add (j % 3) = ⟨g, off + j, none⟩ := by
    rw [ea, ea, show off + j / 3 * 3 + j % 3 = off + j by omega]
   rwa [e] at hc
  ·obtain ⟨r, -, rfl⟩ := List.mem_map.1 hy
   exact (hf r).1
end
end
section
set_option maxRecDepth 4000
open Go.RowKit
def SmK (e : Ending) (ys : List Sa) (w w' : World) : Prop := ∃ B, e = .returned (.bool B) /\ (B = true -> ys.length <= 20 /\ ∀ y ∈ ys, y.pl <= 20) /\ w' = w
theorem small_g (ys : List Sa) (A : Option Addr) (k c : Nat) (w : World) (hk : ys.length = k) (hS : Sees w 3 A k (sas ys)) :
  Calls Tryz.prog 13 #[.slice A k c, .int .i64 20] w fun e w' => SmK e ys w w' := by
 by_cases h20 : k <= 20
 ·have hki : ¬ (20 : Int) < (k : Int) := by omega
  have HS := Lh hS
  have HK := Lh hk
  clear hS hk
  go_enter Tryz.func13, Tryz.ntmps13
  go_wp2_with fail
  go_loopw [5] (fun i wr => ∃ j : Nat, i = .int .i64 j /\ j <= k /\ Hid (∀ y ∈ ys.take j, y.pl <= 20) /\ wr = w) (fun i _ => k - (intOf i).toNat)
  case atStart => exact ⟨0, rfl, Nat.zero_le _, Lh (fun y hy => by simp at hy), rfl⟩
  case round =>
   obtain ⟨j, rfl, hj, hall, rfl⟩ := hrel
   by_cases hlt : j < k
   ·have hji : (j : Int) < (k : Int) := by omega
    have hjl : j < ys.length := by rw [HK.out]; exact hlt
    obtain ⟨y, hy⟩ : ∃ y, y = ys[j] := ⟨_, rfl⟩
    have hyj : ys[j]? = some y := by rw [List.getElem?_eq_getElem hjl, hy]
    obtain ⟨g, o, rfl, x0, x1, x2⟩ := in_sa (by rw [HK.out]; exact HS.out) hyj
    have HY := Lh hyj
    clear hy hyj hjl x0 x1
    obtain ⟨pl, hpl⟩ : ∃ p, p = y.pl := ⟨_, rfl⟩
    rw [<- hpl] at x2
    have HP := Lh hpl
    clear hpl
    by_cases h30 : 20 < pl
    ·have h30i : (20 : Int) < (pl : Int) := by omega
     go_wp2_with fail
     go_ret
     exact ⟨false, rfl, (fun h => by cases h), rfl⟩
    ·have h30i : ¬ (20 : Int) < (pl : Int) := by omega
     have hn : Hid (∀ y ∈ ys.take (j + 1), y.pl <= 20) := Lh (fun z hz => by
      rw [List.take_add_one, HY.out] at hz
      rcases List.mem_append.1 hz with hz | hz
      ·exact hall.out z hz
      ·have : z = y := by simpa using hz
       rw [this, <- HP.out]
       omega)
     clear hall
     go_wp2_with fail
     go_roundw
     case rel => exact ⟨j + 1, by go_num, by omega, hn, by first | rfl | trivial⟩
     case measure => simp [intOf]; omega
   ·obtain rfl : j = k := by omega
    have hge : ¬ ((j : Int) < (j : Int)) := by omega
    go_wp2_with fail
    go_ret
    refine ⟨true, rfl, fun _ => ⟨by rw [HK.out]; exact h20, fun y hy => hall.out y ?_⟩, rfl⟩
    rw [List.take_of_length_le (by rw [HK.out]; exact Nat.le_refl _)]
    exact hy
 ·have hki : (20 : Int) < (k : Int) := by omega
  clear hS hk
  go_enter Tryz.func13, Tryz.ntmps13
  go_wp2_with fail
  go_ret
  exact ⟨false, rfl, (fun h => by cases h), rfl⟩
def nis (l : List Nat) : List Value := i64s (l.map fun n : Nat => (n : Int))
@[simp] theorem nis_length (l : List Nat) : (nis l).length = l.length := by simp [nis, i64s]
theorem nis_append (a b : List Nat) : nis (a ++ b) = nis a ++ nis b := by simp [nis, i64s]
def ofB (eps : List (Int × Int)) (b : Int) (k : Nat) : Bool := match eps[k]? with
 | some x => decide (x.1 ≠ b)
 | none => false
set_option maxHeartbeats 2000000 in
theorem without_g {w : World} {base : Nat} {S : St} {a : Loc} {F K L P : Nat -> Prop} {T : Nat -> Nat} (h : Rn w base S a F K L P T) (hl : S.eps.length <= 1000) (zs : List Nat) (A : Option Addr) (n c : Nat) (hn : zs.length = n) (hn2 : n <= 1000) (hz : ∀ k ∈ zs, k < S.eps.length) (hS : Sees w 1 A n (nis zs)) (b : Int) :
  Calls Tryz.prog 20 #[.pointer (some ⟨a.r, 0, none⟩), .slice A n c, .int .i64 b] w fun e w' => (∃ v, e = .returned v /\ w'.ownsRow w.heap.size 3 1 v (zs.filter (ofB S.eps b)).length (nis (zs.filter (ofB S.eps b)))) /\ Below w.heap.size w w' := by
 have HH := Lh (Ai h (Ai hl (Ai hn (Ai hz hS))))
 have hrl := h.r_lt
 clear h hl hn hz hS
 go_enter Tryz.func20, Tryz.ntmps20
 go_wp2_with fail
 go_loopw [7, 8] (fun v i wr => ∃ j : Nat, i = .int .i64 j /\ j <= n /\ Hid (wr.ownsRow w.heap.size 3 1 v ((zs.take j).filter (ofB S.eps b)).length (nis ((zs.take j).filter (ofB S.eps b))) /\ Below w.heap.size w wr)) (fun _ i _ => n - (intOf i).toNat)
 case atStart => exact ⟨0, rfl, Nat.zero_le _, Lh ⟨by rw [List.take_zero]; exact World.ownsRow_nil _ _ _ _, Below.refl _ _⟩⟩
 case round =>
  obtain ⟨j, rfl, hj, hr⟩ := hrel
  by_cases hlt : j < n
  ·have hji : (j : Int) < (n : Int) := by omega
   obtain ⟨g, off, rfl, hc⟩ := HH.out.2.2.2.2.2 (by omega)
   have hjl : j < zs.length := by rw [HH.out.2.2.1]; exact hlt
   obtain ⟨z, hz⟩ : ∃ z, z = zs[j] := ⟨_, rfl⟩
   have hzj : zs[j]? = some z := by rw [List.getElem?_eq_getElem hjl, hz]
   have x0 : w.cell? ⟨g, off + j, none⟩ = some (.int .i64 (z : Int)) := by
    have := hc j (.int .i64 (z : Int)) (by unfold nis i64s; rw [List.getElem?_map, List.getElem?_map, hzj]; rfl)
    exact this
   have hgl : g < w.heap.size := World.block_lt_of_cell? w _ x0
   have y0 := (hr.out.2.cell hgl).trans x0
   have hzl := HH.out.2.2.2.1 z (List.mem_of_getElem? hzj)
   obtain ⟨x, hx⟩ : ∃ x, S.eps[z]? = some x := ⟨_, List.getElem?_eq_getElem hzl⟩
   have HO := Lh (of_in (HH.out.1.below hr.out.2) HH.out.2.1 z x hx)
   have hstep : (zs.take (j + 1)).filter (ofB S.eps b) = (zs.take j).filter (ofB S.eps b) ++ if x.1 = b then [] else [z] := by
    rw [List.take_add_one, hzj, List.filter_append]
    congr 1
    show List.filter (ofB S.eps b) [z] = _
    rw [List.filter_cons]
    unfold ofB
    rw [hx]
    by_cases hb : x.1 = b
    ·simp [hb]
    ·simp [hb]
   obtain ⟨x1, x2⟩ := x
   simp only at HO hstep
   have HZ := Lh (Ai hstep hzl)
   clear hc hjl hz hzj x0 hzl hx hstep
   have hrow := hr
   clear hr
   by_cases hb : x1 = b
   ·have hne : (x1 != b) = false := by simp [hb]
    have hne2 : ¬ x1 ≠ b := fun h => h hb
    go_wp2_with fail
    refine HO.out.mono ?_
    rintro e w1 ⟨rfl, hb1⟩
    have H1 := Lh (Ai (own_below hrow.out.1 hb1) (hrow.out.2.trans (hb1.mono hrow.out.2.size)))
    clear hb1 hrow HO y0
    go_wp2_with fail
    go_roundw
    case rel =>
     refine ⟨j + 1, by go_num, by omega, Lh ⟨?_, H1.out.2⟩⟩
     rw [HZ.out.1, if_pos hb, List.append_nil]
     exact H1.out.1
    case measure => simp [intOf]; omega
   ·have hne : (x1 != b) = true := by simp [hb]
    have hbb : ¬ x1 = b := hb
    go_wp2_with fail
    refine HO.out.mono ?_
    rintro e w1 ⟨rfl, hb1⟩
    have H1 := Lh (Ai (own_below hrow.out.1 hb1) (hrow.out.2.trans (hb1.mono hrow.out.2.size)))
    have y1 := (hb1.cell (Nat.lt_of_lt_of_le hgl hrow.out.2.size)).trans y0
    have hfl : ((zs.take j).filter (ofB S.eps b)).length <= j := Nat.le_trans (List.length_filter_le _ _) (by rw [List.length_take]; omega)
    obtain ⟨m, hm⟩ : ∃ m, m = ((zs.take j).filter (ofB S.eps b)).length := ⟨_, rfl⟩
    have hrow1 := H1.out.1
    rw [<- hm] at hrow1 hfl
    have HR1 := Lh (Ai hrow1 hm)
    clear hb1 hrow HO y0 hrow1 hm
    go_wp2_with (at_builtin; refine wpList_app rfl (.tmp 34) (.tmp 39) _ rfl w.heap.size 3 _ 1 8 Tryz.underlying28 info_int8 rfl (by decide) _ m (nis ((zs.take j).filter (ofB S.eps b))) rfl (own_below HR1.out.1 ((Below.refl _ _).alloc (Nat.le_refl _) _)) (some ⟨w1.heap.size, 0, none⟩) 1 1 [.int .i64 z] rfl (sees_new w1 3 [.int .i64 z] 1 1 rfl) (by simp [Value.oneCell']) (by unfold maxLen; omega) (by omega) (by have := H1.out.2.size; simp; omega) ?_; intro v3 w3 o1 o2 o3 o4
                 have H3 : Hid (w3.ownsRow w.heap.size 3 1 v3 ((zs.take (j + 1)).filter (ofB S.eps b)).length (nis ((zs.take (j + 1)).filter (ofB S.eps b))) /\ Below w.heap.size w w3) := Lh (by
                  refine ⟨?_, (H1.out.2.alloc H1.out.2.size _).grown o2 (by simp; have := H1.out.2.size; omega) (fun q e => (HR1.out.1.lt q e).1)⟩
                  rw [HZ.out.1, if_neg hbb, List.length_append, <- HR1.out.2, nis_append]
                  exact o1)
                 clear o1 o2 o3 o4)
    go_roundw
    case rel => exact ⟨j + 1, by go_num, by omega, H3⟩
    case measure => simp [intOf]; omega
  ·obtain rfl : j = n := by omega
   have hge : ¬ ((j : Int) < (j : Int)) := by omega
   have HR := Lh hr.out
   clear hr
   go_wp2_with fail
   go_ret
   rw [List.take_of_length_le (by rw [HH.out.2.2.1]; exact Nat.le_refl _)] at HR
   exact ⟨⟨_, rfl, HR.out.1⟩, HR.out.2⟩
theorem size_g (z0 z1 z2 : Nat) (h0 : z0 < 256) (h1 : z1 < 256) (h2 : z2 < 256) (w : World) :
  Calls Tryz.prog 14 #[.agg #[.int .u8 z0, .int .u8 z1, .int .u8 z2]] w fun e w' => e = .returned (.tuple #[.int .i64 (1 + z0 % 4 : Nat), .int .i64 (1 + z1 % 3 : Nat), .int .i64 (3 + z2 % 8 : Nat)]) /\ Below w.heap.size w w' := by
 have w0 : IntKind.i64.wrap (z0 : Int) = (z0 : Int) := IntWalk.i64_in _ (by omega)
 have w1 : IntKind.i64.wrap (z1 : Int) = (z1 : Int) := IntWalk.i64_in _ (by omega)
 have w2 : IntKind.i64.wrap (z2 : Int) = (z2 : Int) := IntWalk.i64_in _ (by omega)
 obtain ⟨m0, hm0⟩ : ∃ m, m = z0 % 4 := ⟨_, rfl⟩
 obtain ⟨m1, hm1⟩ : ∃ m, m = z1 % 3 := ⟨_, rfl⟩
 obtain ⟨m2, hm2⟩ : ∃ m, m = z2 % 8 := ⟨_, rfl⟩
 have t0 : (z0 : Int).tmod 4 = (m0 : Int) := by rw [Int.tmod_eq_emod_of_nonneg (by omega), hm0]; omega
 have t1 : (z1 : Int).tmod 3 = (m1 : Int) := by rw [Int.tmod_eq_emod_of_nonneg (by omega), hm1]; omega
 have t2 : (z2 : Int).tmod 8 = (m2 : Int) := by rw [Int.tmod_eq_emod_of_nonneg (by omega), hm2]; omega
 have x0 : IntKind.i64.wrap (m0 : Int) = (m0 : Int) := IntWalk.i64_in _ (by omega)
 have x1 : IntKind.i64.wrap (m1 : Int) = (m1 : Int) := IntWalk.i64_in _ (by omega)
 have x2 : IntKind.i64.wrap (m2 : Int) = (m2 : Int) := IntWalk.i64_in _ (by omega)
 have y0 : IntKind.i64.wrap (1 + (m0 : Int)) = ((1 + m0 : Nat) : Int) := (IntWalk.i64_in _ (by omega)).trans (by omega)
 have y1 : IntKind.i64.wrap (1 + (m1 : Int)) = ((1 + m1 : Nat) : Int) := (IntWalk.i64_in _ (by omega)).trans (by omega)
 have y2 : IntKind.i64.wrap (3 + (m2 : Int)) = ((3 + m2 : Nat) : Int) := (IntWalk.i64_in _ (by omega)).trans (by omega)
 rw [<- hm0, <- hm1, <- hm2]
 obtain ⟨n0, hn0⟩ : ∃ m, m = 1 + m0 := ⟨_, rfl⟩
 obtain ⟨n1, hn1⟩ : ∃ m, m = 1 + m1 := ⟨_, rfl⟩
 obtain ⟨n2, hn2⟩ : ∃ m, m = 3 + m2 := ⟨_, rfl⟩
 rw [<- hn0] at y0 ⊢
 rw [<- hn1] at y1 ⊢
 rw [<- hn2] at y2 ⊢
 clear hn0 hn1 hn2 hm0 hm1 hm2
 go_enter Tryz.func14, Tryz.ntmps14
 go_wp2_with fail
 have hb := Blk.new w 33 #[.int .u8 z0, .int .u8 z1, .int .u8 z2]
 have c0 := hb.cell 0
 have c1 := hb.cell 1
 have c2 := hb.cell 2
 have hbel : Below w.heap.size w (w.alloc (.cells #[.int .u8 z0, .int .u8 z1, .int .u8 z2] 33)) := (Below.refl _ _).alloc (Nat.le_refl _) _
 generalize w.alloc (.cells #[.int .u8 z0, .int .u8 z1, .int .u8 z2] 33) = wa at *
 have HB := Lh hbel
 clear hb hbel
 simp at c0 c1 c2
 replace c0 : wa.drew.cell? ⟨w.heap.size, 0, none⟩ = some (.int .u8 z0) := c0
 replace c1 : wa.drew.cell? ⟨w.heap.size, 1, none⟩ = some (.int .u8 z1) := c1
 replace c2 : wa.drew.cell? ⟨w.heap.size, 2, none⟩ = some (.int .u8 z2) := c2
 refine region_fast [(0, true), (1, true), (2, true), (3, true), (4, true), (5, true), (6, true), (7, true), (8, true), (9, true), (10, true), (11, true), (12, true), (13, true), (14, true), (15, true), (16, true), (17, true)] [5, 6, 7, 8, 9, 10, 11, 12, 13, 14, 15, 16] 131040 [(32, 2, 0, 0), (64, 32, 1, 1), (128, 64, 2, 3), (256, 128, 4, 7), (512, 256, 8, 15), (1024, 2, 0, 0), (2048, 1024, 32, 32), (4096, 2048, 64, 96), (8192, 4096, 128, 224), (16384, 8192, 256, 480), (32768, 2, 0, 0), (65536, 32768, 1024, 1024), (131072, 65536, 2048, 3072), (262144, 131072, 4096, 7168), (524288, 262144, 8192, 15360), (4, 512, 31, 31), (8, 16384, 33791, 33791), (16, 524288, 131071, 131071)] (fun W => W = wa.drew) (by kernel_rfl) (by kernel_rfl) (by kernel_rfl) rfl (by kernel_rfl) (by kernel_rfl) rfl (fun hS => ?_)
 repeat (first
  | (refine plan_read (v := ?_) rfl (fun _ _ _ h => h) rfl hS ?_ ?_; rotate_left 1; (focus (intro w' hS'; subst hS'; go_simp; try rfl)); (simp only [Act.put, pu1]; dsimp only [pu2, pu3]))
  | (refine plan_skip rfl (fun _ _ _ h => h) rfl hS ?_; (simp only [Act.put, pu1]; dsimp only [pu2, pu3])))
 refine plan_nil ?_
 go_wp2_with fail
 go_ret3
 exact ⟨rfl, HB.out.drew⟩
end
section
set_option maxRecDepth 4000
open Go.RowKit
open Classical in
noncomputable def heldF (U : Nat -> Prop) (w : World) : Nat -> Option Obj := fun g => if U g then w.heap[g]? else none
theorem heldF_in {U : Nat -> Prop} {w : World} {g : Nat} (h : U g) : heldF U w g = w.heap[g]? := if_pos h
theorem heldF_out {U : Nat -> Prop} {w : World} {g : Nat} {o : Obj} (h : heldF U w g = some o) : U g /\ w.heap[g]? = some o := by
 unfold heldF at h
 split at h
 ·rename_i hu; exact ⟨hu, h⟩
 ·cases h
theorem Rn.refar {w w' : World} {base : Nat} {S : St} {a : Loc} {F K L P : Nat -> Prop} {T : Nat -> Nat} (h : Rn w base S a F K L P T) {H : Nat -> Prop} (hf : Fr H w w') (hH : ∀ g, H g -> g < w.heap.size -> T g = 0) (U : Nat -> Prop) (hU : ∀ g, U g -> g < w.heap.size -> T g = 0) :
  Rn w' base { S with far := heldF U w' } a F K L P (fun k => if k < w.heap.size then T k else 0) := by
 have hz := hf.size
 have hno : ∀ {k n : Nat}, T k = n -> n ≠ 0 -> k < w.heap.size -> ¬ H k := fun {k n} h1 h2 hk e => by have := hH k e hk; omega
 have hr := h.tR a.r (.inl rfl)
 have up : ∀ {k n : Nat}, (T k = n /\ base <= k /\ k < w.heap.size) -> (if k < w.heap.size then T k else 0) = n /\ base <= k /\ k < w'.heap.size := fun {k n} e => ⟨by rw [if_pos e.2.2]; exact e.1, e.2.1, by omega⟩
 have fk : ∀ {G : Nat -> Prop} {n : Nat}, n ≠ 0 -> (∀ k, G k -> T k = n /\ base <= k /\ k < w.heap.size) -> ∀ k, G k -> ¬ H k := fun {G n} hn hG k hk => hno (hG k hk).1 hn (hG k hk).2.2
 refine ⟨h.top.fr hf (hno hr.1 (by decide) hr.2.2), own_fr h.eps hf (fun g hg => hno (h.tR g (.inr hg)).1 (by decide) (h.tR g (.inr hg)).2.2), h.disk.fr hf (fk (by decide) h.tF), h.tab.fr hf (fk (by decide) h.tK), h.log.fr hf (fk (by decide) h.tL), pool_fr h.pool hf (fk (by decide) h.tP),
  fun k hk => up (h.tF k hk), fun k hk => up (h.tK k hk), fun k hk => up (h.tL k hk), fun k hk => up (h.tP k hk), fun k hk => up (h.tR k hk), fun k o hk => ?_⟩
 obtain ⟨hu, hk⟩ := heldF_out hk
 refine ⟨?_, hk⟩
 show (if k < w.heap.size then T k else 0) = 0
 split
 ·rename_i hlt; exact hU k hu hlt
 ·rfl
structure RunB (w0 wr : World) (rb r j : Nat) (vs vo : Value) (sl ol : List Nat) (S : St) (a : Loc) (F K L P : Nat -> Prop) (T : Nat -> Nat) : Prop where
 rn : Rn wr rb S a F K L P T
 r_ : a.r = r
 inv : Inv S (32 * j) (3 * j) (2 * j)
 eps : S.eps.length <= j
 ows : wr.ownsRow rb 3 1 vs sl.length (nis sl)
 owo : wr.ownsRow rb 3 1 vo ol.length (nis ol)
 held : ∀ g, vs.ownBlock = some g \/ vo.ownBlock = some g -> ∃ o, S.far g = some o
 ap : ∀ g, vs.ownBlock = some g -> vo.ownBlock ≠ some g
 in_ : ∀ k, k ∈ sl \/ k ∈ ol -> k < S.eps.length
 len : sl.length + ol.length <= j
 bel : Below rb w0 wr
structure RunL (w0 wr : World) (rb r j : Nat) (vs vo : Value) (sl ol : List Nat) (S : St) (a : Loc) (F K L P : Nat -> Prop) (T : Nat -> Nat) : Prop where
 b : RunB w0 wr rb r j vs vo sl ol S a F K L P T
 sure : ∀ k ∈ sl, EpAt S S.s.sure k
 opn : ∀ k ∈ ol, EpAt S S.s.texts.length k
def RunX (w0 wr : World) (rb r j : Nat) (vs vo : Value) (sl ol : List Nat) : Prop := ∃ S a F K L P T, RunL w0 wr rb r j vs vo sl ol S a F K L P T
theorem EpAt.lt {S : St} {N k : Nat} (h : EpAt S N k) : k < S.eps.length := by
 obtain ⟨bk, sec, n, m, h1, -⟩ := h
 exact (List.getElem?_eq_some_iff.1 h1).1
theorem Inv.up {S : St} {q p a q' p' a' : Nat} (i : Inv S q p a) (hq : q <= q') (hp : p <= p') (ha : a <= a') : Inv S q' p' a' :=
 ⟨i.log, i.key, i.elen, i.few, i.segs, i.size, i.ssegs, i.ssize, i.len, i.pool, i.fresh, Nat.le_trans i.dq hq, Nat.le_trans i.plen hp, Nat.le_trans i.alen ha⟩
section
variable {w0 wr w' : World} {rb r j : Nat} {vs vo : Value} {sl ol : List Nat} {S S' : St} {a a' : Loc} {F K L P F' K' L' P' : Nat -> Prop} {T T' : Nat -> Nat}
theorem RunB.free (h : RunB w0 wr rb r j vs vo sl ol S a F K L P T) {g : Nat} (hg : vs.ownBlock = some g \/ vo.ownBlock = some g) : T g = 0 := by
 obtain ⟨o, ho⟩ := h.held g hg
 exact (h.rn.tZ g o ho).1
theorem RunB.below (h : RunB w0 wr rb r j vs vo sl ol S a F K L P T) (hb : Below wr.heap.size wr w') : RunB w0 w' rb r j vs vo sl ol S a F K L P T :=
 ⟨h.rn.below hb, h.r_, h.inv, h.eps, own_below h.ows hb, own_below h.owo hb, h.held, h.ap, h.in_, h.len, h.bel.trans (hb.mono h.rn.base_le)⟩
theorem RunL.below (h : RunL w0 wr rb r j vs vo sl ol S a F K L P T) (hb : Below wr.heap.size wr w') : RunL w0 w' rb r j vs vo sl ol S a F K L P T := ⟨h.b.below hb, h.sure, h.opn⟩
theorem RunB.call {i : Nat} (h : RunB w0 wr rb r j vs vo sl ol S a F K L P T) (hR : Rn w' rb S' a' F' K' L' P' T') (hfar : S'.far = S.far) (hr : a'.r = a.r) (hb : Below rb wr w') (hinv : Inv S' (32 * i) (3 * i) (2 * i)) (heps : S'.eps.length <= i) (hep2 : S.eps.length <= S'.eps.length) (hij : j <= i) :
  RunB w0 w' rb r i vs vo sl ol S' a' F' K' L' P' T' := by
 have keep : ∀ g, vs.ownBlock = some g \/ vo.ownBlock = some g -> w'.heap[g]? = wr.heap[g]? := fun g hg => by
  obtain ⟨o, ho⟩ := h.held g hg
  rw [(h.rn.tZ g o ho).2, (hR.tZ g o (by rw [hfar]; exact ho)).2]
 exact ⟨hR, hr.trans h.r_, hinv, heps, own_keep h.ows (fun g hg => keep g (.inl hg)), own_keep h.owo (fun g hg => keep g (.inr hg)), fun g hg => by rw [hfar]; exact h.held g hg, h.ap, fun k hk => Nat.lt_of_lt_of_le (h.in_ k hk) hep2, Nat.le_trans h.len hij, h.bel.trans hb⟩
theorem RunB.turn (h : RunB w0 wr rb r j vs vo sl ol S a F K L P T) {vs' vo' : Value} {sl' ol' : List Nat} {H : Nat -> Prop} (hf : Fr H wr w') (hH : ∀ g, H g -> T g = 0 /\ rb <= g) (o1 : w'.ownsRow rb 3 1 vs' sl'.length (nis sl')) (o2 : w'.ownsRow rb 3 1 vo' ol'.length (nis ol'))
  (t1 : ∀ g, vs'.ownBlock = some g \/ vo'.ownBlock = some g -> g < wr.heap.size -> T g = 0) (ap' : ∀ g, vs'.ownBlock = some g -> vo'.ownBlock ≠ some g) (hsure : ∀ k ∈ sl', EpAt S S.s.sure k) (hopn : ∀ k ∈ ol', EpAt S S.s.texts.length k) (hlen : sl'.length + ol'.length <= j) : RunX w0 w' rb r j vs' vo' sl' ol' := by
 have hR := h.rn.refar hf (fun g hg _ => (hH g hg).1) (fun g => vs'.ownBlock = some g \/ vo'.ownBlock = some g) t1
 have i := h.inv
 refine ⟨_, a, F, K, L, P, _, ⟨⟨hR, h.r_, ⟨i.log, i.key, i.elen, i.few, i.segs, i.size, i.ssegs, i.ssize, i.len, i.pool, i.fresh, i.dq, i.plen, i.alen⟩, h.eps, o1, o2, fun g hg => ?_, ap', fun k hk => hk.elim (fun e => (hsure k e).lt) (fun e => (hopn k e).lt), hlen, h.bel.trans (hf.below h.rn.base_le (fun k hk => (hH k hk).2))⟩, hsure, hopn⟩⟩
 have hlt : g < w'.heap.size := hg.elim (fun e => (o1.lt g e).2) (fun e => (o2.lt g e).2)
 refine ⟨w'.heap[g], ?_⟩
 exact (heldF_in (U := fun g => vs'.ownBlock = some g \/ vo'.ownBlock = some g) hg).trans (Array.getElem?_eq_getElem hlt)
theorem RunL.x (h : RunL w0 wr rb r j vs vo sl ol S a F K L P T) : RunX w0 wr rb r j vs vo sl ol := ⟨S, a, F, K, L, P, T, h⟩
theorem RunL.push (h : RunL w0 wr rb r j vs vo sl ol S a F K L P T) {v3 : Value} {o : Obj} {k : Nat} (o1 : w'.ownsRow rb 3 1 v3 (ol.length + 1) (nis ol ++ [.int .i64 (k : Nat)])) (o2 : (wr.alloc o).grownBy w' vo.ownBlock) (o3 : v3.ownBlock = vo.ownBlock \/ v3.ownBlock = some (wr.alloc o).heap.size) (hk : EpAt S S.s.texts.length k) (hi : sl.length + ol.length + 1 <= j) :
  RunX w0 w' rb r j vs v3 sl (ol ++ [k]) := by
 have hf : Fr (fun k => vo.ownBlock = some k) wr w' := (Fr.alloc wr _ _).trans (Fr.of_grown o2 (fun k h => h)) (fun _ _ h => h)
 have hz : (wr.alloc o).heap.size = wr.heap.size + 1 := by simp
 refine h.b.turn hf (fun g hg => ⟨h.b.free (.inr hg), (h.b.owo.lt g hg).1⟩) (own_fr h.b.ows hf (fun g hg => h.b.ap g hg)) (by rw [List.length_append, nis_append]; exact o1) (fun g hg hlt => ?_) (fun g hg => ?_) h.sure (fun x hx => ?_) (by simp; omega)
 ·rcases hg with hg | hg
  ·exact h.b.free (.inl hg)
  ·rcases o3 with e | e
   ·exact h.b.free (.inr (e.symm.trans hg))
   ·rw [hg] at e; injection e with e; omega
 ·rcases o3 with e | e
  ·rw [e]; exact h.b.ap g hg
  ·rw [e]
   intro e2
   injection e2 with e2
   have := (h.b.ows.lt g hg).2
   omega
 ·rcases List.mem_append.1 hx with hx | hx
  ·exact h.opn x hx
  ·obtain rfl := List.mem_singleton.1 hx
   exact hk
theorem RunL.join (h : RunL w0 wr rb r j vs vo sl ol S a F K L P T) {v3 : Value} (o1 : w'.ownsRow rb 3 1 v3 (sl.length + ol.length) (nis sl ++ nis ol)) (o2 : wr.grownBy w' vs.ownBlock) (o3 : v3.ownBlock = vs.ownBlock \/ v3.ownBlock = some wr.heap.size) (hk : ∀ k ∈ ol, EpAt S S.s.sure k) :
  RunX w0 w' rb r j v3 (.slice none 0 0) (sl ++ ol) [] := by
 have hf : Fr (fun k => vs.ownBlock = some k) wr w' := Fr.of_grown o2 (fun k h => h)
 refine h.b.turn hf (fun g hg => ⟨h.b.free (.inl hg), (h.b.ows.lt g hg).1⟩) (by rw [List.length_append, nis_append]; exact o1) (World.ownsRow_nil _ _ _ _) (fun g hg hlt => ?_) (fun g hg => by simp [Value.ownBlock]) (fun x hx => ?_) (fun x hx => by cases hx) (by have := h.b.len; simp; omega)
 ·rcases hg with hg | hg
  ·rcases o3 with e | e
   ·exact h.b.free (.inl (e.symm.trans hg))
   ·rw [hg] at e; injection e with e; omega
  ·simp [Value.ownBlock] at hg
 ·rcases List.mem_append.1 hx with hx | hx
  ·exact h.sure x hx
  ·exact hk x hx
theorem RunB.shut (h : RunB w0 wr rb r j vs vo sl ol S a F K L P T) (hs : ∀ k ∈ sl, EpAt S S.s.sure k) : RunX w0 wr rb r j vs (.slice none 0 0) sl [] :=
 h.turn (Fr.refl (fun _ => False) wr) (fun g hg => hg.elim) h.ows (World.ownsRow_nil _ _ _ _) (fun g hg _ => hg.elim (fun e => h.free (.inl e)) (fun e => by simp [Value.ownBlock] at e)) (fun g hg => by simp [Value.ownBlock]) hs (fun x hx => by cases hx) (by have := h.len; simp; omega)
theorem RunB.other (h : RunB w0 wr rb r j vs vo sl ol S a F K L P T) {w1 w2 : World} {v1 v2 : Value} {s1 s2 : List Nat} (b1 : Below wr.heap.size wr w1) (b2 : Below w1.heap.size w1 w2) (o1 : w1.ownsRow wr.heap.size 3 1 v1 s1.length (nis s1)) (o2 : w2.ownsRow w1.heap.size 3 1 v2 s2.length (nis s2)) (h1 : ∀ k ∈ s1, EpAt S S.s.sure k) (h2 : ∀ k ∈ s2, EpAt S S.s.texts.length k) (hl : s1.length + s2.length <= j) : RunX w0 w2 rb r j v1 v2 s1 s2 := by
 have hz := b1.size
 have hbb := h.rn.base_le
 refine h.turn (Fr.of_below (b1.trans (b2.mono hz)) (fun _ => False)) (fun g hg => hg.elim) (own_base (own_below o1 b2) hbb) (own_base o2 (Nat.le_trans hbb hz)) (fun g hg hlt => ?_) (fun g hg e => ?_) h1 h2 hl
 ·rcases hg with e | e
  ·have := (o1.lt g e).1; omega
  ·have := (o2.lt g e).1; omega
 ·have := (o1.lt g hg).2
  have := (o2.lt g e).1
  omega
/-! ### What the law calls -/
theorem PutRel.far {l : List UInt8} {bk : Nat} {ok : Bool} (h : PutRel S bk l S' ok) : S'.far = S.far := by
 rcases h with ⟨-, rfl, -⟩ | ⟨-, k, -, -, ⟨-, e', -, -, rfl⟩ | ⟨-, rfl⟩⟩ <;> rfl
theorem KeyRel.far {bk n : Nat} {ok : Bool} (h : KeyRel S bk n S' ok) : S'.far = S.far := by
 rcases h with ⟨e0, -, -, -, -, rfl, -⟩ | ⟨-, -, h⟩
 ·rfl
 ·exact h.far
theorem EpRel.far {bk res : Nat} {ok : Bool} (h : EpRel S bk res S' ok) : S'.far = S.far := by
 rcases h with ⟨-, -, n, h⟩ | ⟨n, S1, h, ⟨-, -, -, rfl⟩ | ⟨-, -, -, rfl⟩⟩
 ·exact h.far
 ·exact h.far
 ·exact h.far
theorem EpRel.eps {bk res : Nat} {ok : Bool} {q p am : Nat} (i : Inv S q p am) (hp : p <= 800) (ha : am <= 800) (hx : bk <= 1000) (h : EpRel S bk res S' ok) : S.eps.length <= S'.eps.length := by
 rcases h with ⟨-, -, n, h⟩ | ⟨n, S1, h, ⟨-, -, -, rfl⟩ | ⟨-, -, -, rfl⟩⟩
 ·rw [(i.keyTo (by omega) (by omega) hx h).2.2.2.2.2.2]; exact Nat.le_refl _
 ·show _ <= S1.eps.length
  rw [(i.keyTo (by omega) (by omega) hx h).2.2.2.2.2.2]; exact Nat.le_refl _
 ·show _ <= (S1.eps ++ _).length
  rw [(i.keyTo (by omega) (by omega) hx h).2.2.2.2.2.2]; simp
theorem FlRel.far {ok : Bool} (h : FlRel S S' ok) : S'.far = S.far := by
 rcases h with ⟨-, ⟨-, rfl⟩ | rfl⟩ | ⟨-, rfl | rfl | rfl⟩ <;> rfl
theorem ShRel.far {bk : Nat} (h : ShRel S S' bk) : S'.far = S.far := by
 obtain ⟨S1, ok, h1, rfl | rfl | ⟨-, k, e0, -, -, rfl⟩⟩ := h
 ·exact h1.far
 ·exact h1.far
 ·exact h1.far
def EpochX (w0 : World) (rb r j : Nat) (vs vo : Value) (sl ol : List Nat) (e : Ending) (w' : World) : Prop :=
 (∃ k S a F K L P T, e = .returned (.tuple #[.int .i64 (k : Nat), Value.nilIface]) /\ RunL w0 w' rb r (j + 1) vs vo sl ol S a F K L P T /\ EpAt S S.s.texts.length k) \/
 (∃ k g, e = .returned (.tuple #[.int .i64 (k : Nat), .iface 110 (.pointer (some ⟨g, 0, none⟩))]) /\ RunX w0 w' rb r (j + 1) vs vo sl ol)
theorem RunL.epoch (h : RunL w0 wr rb r j vs vo sl ol S a F K L P T) (hj : j < 20) (hT : TabsB rb w0) (hbt : ∀ k, rb <= k -> k ≠ 3 /\ k ≠ 2) (b : Nat) (hb : b <= 3) :
  Calls Tryz.prog 17 #[.pointer (some ⟨r, 0, none⟩), .int .i64 b] wr fun e w' => EpochX w0 rb r j vs vo sl ol e w' := by
 have hso := h.b.inv.st (by omega) (by omega) (by omega) (by have := h.b.eps; omega)
 have hc := epoch_any h.b.rn hso (hT.below h.b.bel) hbt b (by omega)
 rw [h.b.r_] at hc
 refine hc.mono ?_
 rintro e w' ⟨⟨res, v, ok, S', a', F', K', L', P', T', rfl, herr, hrel, hr, hR⟩, hbel⟩
 obtain ⟨i1, i2, i3, i4, i5, i6⟩ := h.b.inv.epochTo (by omega) (by omega) (by omega) hrel
 have hB := h.b.call (i := j + 1) hR hrel.far (hr.trans h.b.r_.symm) hbel (i1.up (by omega) (by omega) (by omega)) (by have := h.b.eps; omega) (hrel.eps h.b.inv (by omega) (by omega) (by omega)) (Nat.le_succ j)
 have hL : RunL w0 w' rb r (j + 1) vs vo sl ol S' a' F' K' L' P' T' := ⟨hB, fun k hk => by rw [i4]; exact i2 _ k (h.sure k hk), fun k hk => (i2 _ k (h.opn k hk)).more i5⟩
 rcases herr with ⟨rfl, rfl⟩ | ⟨rfl, g, rfl⟩
 ·exact .inl ⟨res, S', a', F', K', L', P', T', rfl, hL, i3 rfl⟩
 ·exact .inr ⟨res, g, rfl, hL.x⟩
def FlushX (w0 : World) (rb r j : Nat) (vs vo : Value) (sl ol : List Nat) (e : Ending) (w' : World) : Prop :=
 (∃ S a F K L P T, e = .returned Value.nilIface /\ RunL w0 w' rb r (j + 1) vs vo sl ol S a F K L P T /\ ∀ k ∈ ol, EpAt S S.s.sure k) \/
 (∃ g, e = .returned (.iface 110 (.pointer (some ⟨g, 0, none⟩))) /\ RunX w0 w' rb r (j + 1) vs vo sl ol)
theorem RunL.flush (h : RunL w0 wr rb r j vs vo sl ol S a F K L P T) (hj : j < 20) :
  Calls Tryz.prog 18 #[.pointer (some ⟨r, 0, none⟩)] wr fun e w' => FlushX w0 rb r j vs vo sl ol e w' := by
 have hc := sflush_g h.b.rn h.b.inv (by omega)
 rw [h.b.r_] at hc
 refine hc.mono ?_
 rintro e w' ⟨⟨v, ok, S', F', T', rfl, herr, hrel, hR⟩, hbel⟩
 obtain ⟨i1, i2, i3, i4, i5, i6, -, -, -⟩ := h.b.inv.flushTo hrel
 have hB := h.b.call (i := j + 1) hR hrel.far rfl hbel (i1.up (by omega) (by omega) (by omega)) (by rw [i6]; have := h.b.eps; omega) (by rw [i6]; exact Nat.le_refl _) (Nat.le_succ j)
 have hL : RunL w0 w' rb r (j + 1) vs vo sl ol S' a F' K L P T' := ⟨hB, fun k hk => (i2 _ k (h.sure k hk)).more i3, fun k hk => by rw [i4]; exact i2 _ k (h.opn k hk)⟩
 rcases herr with ⟨rfl, rfl⟩ | ⟨rfl, g, rfl⟩
 ·exact .inl ⟨S', a, F', K, L, P, T', rfl, hL, fun k hk => by rw [i5 rfl]; exact hL.opn k hk⟩
 ·exact .inr ⟨g, rfl, hL.x⟩
def ShredX (w0 : World) (rb r j b : Nat) (vs vo : Value) (sl ol : List Nat) (e : Ending) (w' : World) : Prop :=
 ∃ v S a F K L P T, e = .returned v /\ RunB w0 w' rb r (j + 1) vs vo sl ol S a F K L P T /\ (∀ k ∈ sl.filter (ofB S.eps (b : Int)), EpAt S S.s.sure k) /\ ∀ k ∈ ol.filter (ofB S.eps (b : Int)), EpAt S S.s.texts.length k
theorem ofB_out {eps : List (Int × Int)} {b : Int} {k : Nat} (h : ofB eps b k = true) : ∃ x, eps[k]? = some x /\ x.1 ≠ b := by
 unfold ofB at h
 split at h
 ·rename_i x hx
  exact ⟨x, hx, of_decide_eq_true h⟩
 ·cases h
theorem RunL.shred (h : RunL w0 wr rb r j vs vo sl ol S a F K L P T) (hj : j < 20) (b : Nat) :
  Calls Tryz.prog 19 #[.pointer (some ⟨r, 0, none⟩), .int .i64 b] wr fun e w' => ShredX w0 rb r j b vs vo sl ol e w' := by
 have hc := sshred_g h.b.rn h.b.inv (by omega) b
 rw [h.b.r_] at hc
 refine hc.mono ?_
 rintro e w' ⟨⟨v, S', F', K', T', rfl, hrel, hR⟩, hbel⟩
 obtain ⟨i1, i2, i3, i4, i5⟩ := h.b.inv.shredTo hrel
 have hB := h.b.call (i := j + 1) hR hrel.far rfl hbel (i1.up (by omega) (by omega) (by omega)) (by rw [i5]; have := h.b.eps; omega) (by rw [i5]; exact Nat.le_refl _) (Nat.le_succ j)
 refine ⟨v, S', a, F', K', L, P, T', rfl, hB, fun k hk => ?_, fun k hk => ?_⟩
 ·obtain ⟨h1, h2⟩ := List.mem_filter.1 hk
  obtain ⟨x, hx, hne⟩ := ofB_out h2
  rw [i5] at hx
  exact (i2 _ k x (h.sure k h1) hx hne).more i3
 ·obtain ⟨h1, h2⟩ := List.mem_filter.1 hk
  obtain ⟨x, hx, hne⟩ := ofB_out h2
  rw [i5] at hx
  rw [i4]
  exact i2 _ k x (h.opn k h1) hx hne
theorem RunL.limit (h : RunL w0 wr rb r j vs vo sl ol S a F K L P T) (hj : j < 20) (n : Int) (hn : -9223372036854775808 <= n /\ n <= 9223372036854775807) :
  Calls Tryz.prog 22 #[.pointer (some ⟨a.b, 0, none⟩), .int .i64 n] wr fun e w' => e = .returned (.tuple #[]) /\ RunX w0 w' rb r (j + 1) vs vo sl ol := by
 refine (limit_all a.b n hn F S.D wr h.b.rn.disk).mono ?_
 rintro e w' ⟨rfl, hd⟩
 obtain ⟨F', T', hR, hbel, -⟩ := h.b.rn.diskTo hd
 have i1 := h.b.inv.limit (max n (-1)) (by omega) (by omega)
 have hB := h.b.call (i := j + 1) hR rfl rfl hbel (i1.up (by omega) (by omega) (by omega)) (by have := h.b.eps; show S.eps.length <= _; omega) (Nat.le_refl _) (Nat.le_succ j)
 exact ⟨rfl, (RunL.mk hB h.sure h.opn).x⟩
def CrashX (w0 : World) (rb r j : Nat) (vs vo : Value) (sl ol : List Nat) (e : Ending) (w' : World) : Prop :=
 e = .returned Value.nilIface /\ RunX w0 w' rb r (j + 1) vs (.slice none 0 0) sl []
theorem RunL.crash (h : RunL w0 wr rb r j vs vo sl ol S a F K L P T) (hj : j < 20) (hT : TabsB rb w0) (hbt : ∀ k, rb <= k -> k ≠ 3 /\ k ≠ 2) (A : Option Addr) (n c : Nat) (keep : List Int) (hlen : keep.length = n) (hn : n <= 1000) (hS : Sees wr 1 A n (keep.map (Value.int .i64))) (hA : 0 < n -> ∀ ad, A = some ad -> ad.block < rb) :
  Calls Tryz.prog 23 #[.pointer (some ⟨r, 0, none⟩), .slice A n c] wr fun e w' => CrashX w0 rb r j vs vo sl ol e w' := by
 have hc := crash_g h.b.rn h.b.inv (by omega) (hT.below h.b.bel) hbt A n c keep hlen hn hS (fun h0 ad he hF => by have := hA h0 ad he; have := (h.b.rn.tF _ hF).2.1; omega)
 rw [h.b.r_] at hc
 refine hc.mono ?_
 rintro e w' ⟨rfl, ⟨E, D', a', F', K', L', T', hk, ha, hR⟩, hbel⟩
 obtain ⟨i1, i2, i3⟩ := h.b.inv.crashTo hk
 have hB := h.b.call (i := j + 1) hR rfl (ha.trans h.b.r_.symm) hbel (i1.up (by omega) (by omega) (by omega)) (by have := h.b.eps; show S.eps.length <= _; omega) (Nat.le_refl _) (Nat.le_succ j)
 exact ⟨rfl, hB.shut (fun k hk => i3 k (h.sure k hk))⟩
theorem RunL.look (h : RunL w0 wr rb r j vs vo sl ol S a F K L P T) (hj : j <= 20) (hT : TabsB rb w0) {k : Nat} (hk : k ∈ sl) : ∃ bk sec : Nat, ∀ w1, Below wr.heap.size wr w1 ->
  (Calls Tryz.prog 24 #[.pointer (some ⟨r, 0, none⟩), .int .i64 k] w1 fun e w' => e = .returned (.tuple #[.int .i64 (bk : Nat), .int .i64 (sec : Nat), .bool true]) /\ Below w1.heap.size w1 w') /\
  (Calls Tryz.prog 25 #[.pointer (some ⟨r, 0, none⟩), .int .i64 (bk : Nat)] w1 fun e w' => e = .returned (.bool true) /\ Below w1.heap.size w1 w') /\
  (Calls Tryz.prog 26 #[.pointer (some ⟨r, 0, none⟩), .int .i64 k] w1 fun e w' => e = .returned (.bool true) /\ Below w1.heap.size w1 w') := by
 obtain ⟨bk, sec, h1, h2, h3⟩ := h.b.inv.leaks (by omega) (h.sure k hk)
 refine ⟨bk, sec, fun w1 hb => ?_⟩
 have h' := h.b.below hb
 have i := h'.inv
 have hep := h'.eps
 have hel := i.elen
 have hfw := i.few
 have hdq := i.dq
 have hpl := i.plen
 have har := i.area
 have hsz : S.D.size <= 1000 := by
  unfold Dk.size
  rw [i.len]
  omega
 have c1 := of_in h'.rn (by omega) k _ h1
 have c2 := kept_g h'.rn (by omega) (bk : Int) h2
 have c3 := leaks_in h'.rn (by omega) i.log.ok hsz (by omega) i.pool (by omega) (hT.below h'.bel).here k _ h1
 rw [h'.r_] at c1 c2 c3
 refine ⟨c1, c2, c3.mono ?_⟩
 rintro e w' ⟨ss, hss, rfl, hb'⟩
 exact ⟨by rw [h3 ss hss], hb'⟩
theorem RunB.drop_ (h : RunB w0 wr rb r j vs vo sl ol S a F K L P T) (hj : j <= 20) {zs : List Nat} {A : Option Addr} {n c : Nat} (hz : (zs = sl /\ Value.slice A n c = vs) \/ (zs = ol /\ Value.slice A n c = vo)) (hn : zs.length = n) (b : Int) {w1 : World} (hb : Below wr.heap.size wr w1) :
  Calls Tryz.prog 20 #[.pointer (some ⟨r, 0, none⟩), .slice A n c, .int .i64 b] w1 fun e w' => (∃ v, e = .returned v /\ w'.ownsRow w1.heap.size 3 1 v (zs.filter (ofB S.eps b)).length (nis (zs.filter (ofB S.eps b)))) /\ Below w1.heap.size w1 w' := by
 have h' := h.below hb
 have hlen := h'.len
 have hrow : w1.ownsRow rb 3 1 (.slice A n c) n (nis zs) := by
  rcases hz with ⟨rfl, e⟩ | ⟨rfl, e⟩
  ·rw [e, <- hn]; exact h'.ows
  ·rw [e, <- hn]; exact h'.owo
 have hin : ∀ k ∈ zs, k < S.eps.length := fun k hk => h'.in_ k (by rcases hz with ⟨rfl, -⟩ | ⟨rfl, -⟩; exact .inl hk; exact .inr hk)
 have hn2 : n <= 1000 := by
  rw [<- hn]
  rcases hz with ⟨rfl, -⟩ | ⟨rfl, -⟩ <;> omega
 have hc := without_g h'.rn (by have := h'.eps; omega) zs A n c hn hn2 hin (Sees.of_own hrow) b
 rw [h'.r_] at hc
 exact hc
end
end
end Go.Proofs.YtkgaeoeibjoljaaGreatDoor
