/-
  A region that draws its order and in which TWO effects may be ready at once: a tree of orders.
  Parse, of any octets; what a region tells.
-/
import Derived.Test.YtkgaeoeibjoljaaGreatDoorGA
import Derived.Test.YtkgaeoeibjoljaaGreatDoorGL
import Derived.Test.YtkgaeoeibjoljaaGreatDoorSeg6
namespace Go.Proofs.YtkgaeoeibjoljaaGreatDoor
section
set_option maxRecDepth 4000
inductive Tree
 | leaf
 | read (i : Nat) (t : Tree)
 | one (i : Nat) (t : Tree)
 | two (i : Nat) (t : Tree) (j : Nat) (u : Tree)
def Tree.len : Tree -> Nat
 | .leaf => 0
 | .read _ t => t.len + 1
 | .one _ t => t.len + 1
 | .two _ t _ _ => t.len + 1
section
variable {P : Program} {ops : Array Oper} {Q : Exit -> Act -> World -> Prop} {S : World -> Prop} {need : Nat -> Bool}
def wpTree (P : Program) (ops : Array Oper) (Q : Exit -> Act -> World -> Prop) (S : World -> Prop) (need : Nat -> Bool) : Tree -> Act -> World -> Prop
 | .leaf, a, w => Q .normal a w
 | .read i t, a, w => ∃ o v, ops[i]? = some o /\ YieldsIf P ops S o v a /\ S w /\ (∀ c a w, Q (.panic c) (a.put o.dst v) w -> Q (.panic c) a w) /\ wpTree P ops Q S need t (a.put o.dst v) w
 | .one i t, a, w => wpOp P ops Q i (fun a' w' => (need i = true -> S w') /\ wpTree P ops Q S need t a' w') a w
 | .two i t j u, a, w => wpOp P ops Q i (fun a' w' => (need i = true -> S w') /\ wpTree P ops Q S need t a' w') a w /\ wpOp P ops Q j (fun a' w' => (need j = true -> S w') /\ wpTree P ops Q S need u a' w') a w
def treeOk (rows : List Row) (need : Nat) : Tree -> Nat -> Bool
 | .leaf, L => allIx (fun j r => L.testBit j || !within r.2.2.1 L) 0 rows
 | .read i t, L => readyB rows i L && (match rows[i]? with
   | some ri => allIx (fun j r => j == i || L.testBit j || r.2.2.2.testBit i || (apartB ri r && need.testBit j)) 0 rows
   | none => false) && treeOk rows need t (L ||| 1 <<< i)
 | .one i t, L => readyB rows i L && allIx (fun j r => j == i || L.testBit j || !within r.2.2.1 L) 0 rows && treeOk rows need t (L ||| 1 <<< i)
 | .two i t k u, L => readyB rows i L && readyB rows k L && (t.len == u.len) && allIx (fun j r => j == i || j == k || L.testBit j || !within r.2.2.1 L) 0 rows && treeOk rows need t (L ||| 1 <<< i) && treeOk rows need u (L ||| 1 <<< k)
theorem wpN_of_tree (hs : Region.noSelect ops = true) {rows : List Row} (h : rows.map Row.three = ops.toList.map (Go.Proofs.YtkgaeoeibjoljaaGreatDoor.rowOf ops)) (hR : reachOk rows = true) (need : Nat) : ∀ (t : Tree) (listed : Array Bool) (L : Nat) (a : Act) (w : World), Closed ops listed -> Mirrors ops listed L ->
  treeOk rows need t L = true -> wpTree P ops Q S need.testBit t a w -> wpN P ops Q S need.testBit t.len listed a w := by
 intro t
 induction t with
 | leaf =>
  intro listed L a w _ hm hok hp
  refine ⟨List.eq_nil_iff_forall_not_mem.2 fun j hj => ?_, hp⟩
  obtain ⟨r, hr⟩ := ready_row h hj
  have h1 := allIx_spec _ rows 0 hok j r hr
  have h2 := (ready_iff h hm hr).1 hj
  rw [Nat.zero_add, h2.1, h2.2] at h1
  cases h1
 | read i t ih =>
  intro listed L a w hcl hm hok hp
  simp only [treeOk, Bool.and_eq_true] at hok
  obtain ⟨⟨hr, hf⟩, hrest⟩ := hok
  obtain ⟨hr', hlt⟩ := readyB_spec h hm hr
  obtain ⟨o, v, ho, hy, hS, hQ, hw⟩ := hp
  obtain ⟨ri, hri, ei⟩ := row_at h ho
  rw [hri] at hf
  refine wpN_first ho (Region.noSelect_spec hs) hQ (fun j => match rows[j]? with | some r => r.2.2.2.testBit i | none => false) ?_ t.len listed a w hcl ?_ hr' hy hS (ih _ _ _ _ (hcl.set hr') (hm.set hlt) hrest hw)
  ·intro listed hc j oj hj hall hwt
   obtain ⟨r, hr, -⟩ := row_at h hj
   simp only [hr] at hwt
   exact reach_listed h hR hc (j + 1) j oj r (by omega) hj hr hall i hwt
  ·intro j oj hj hji hun hno
   obtain ⟨r, hr, ej⟩ := row_at h hj
   have h1 := allIx_spec _ rows 0 hf j r hr
   simp only [hr] at hno
   rw [Nat.zero_add, <- (hm.2.1 j (Array.getElem?_eq_some_iff.1 hj).1).1, hun, hno] at h1
   simp only [Bool.or_false, Bool.or_eq_true, beq_iff_eq, Bool.and_eq_true] at h1
   rcases h1 with h1 | h1
   ·exact absurd h1 hji
   ·exact ⟨apart_of ei ej h1.1, h1.2⟩
 | one i t ih =>
  intro listed L a w hcl hm hok hp
  simp only [treeOk, Bool.and_eq_true] at hok
  obtain ⟨⟨hr, hf⟩, hrest⟩ := hok
  obtain ⟨hr', hlt⟩ := readyB_spec h hm hr
  refine ⟨fun h0 => (by rw [h0] at hr'; cases hr'), fun j hj => ?_⟩
  obtain ⟨r, hrj⟩ := ready_row h hj
  have h1 := allIx_spec _ rows 0 hf j r hrj
  have h2 := (ready_iff h hm hrj).1 hj
  rw [Nat.zero_add, h2.1, h2.2] at h1
  have hji : j = i := by simpa using h1
  subst hji
  exact wpOp_mono (fun a' w' h' => ⟨h'.1, ih _ _ _ _ (hcl.set hr') (hm.set hlt) hrest h'.2⟩) hp
 | two i t k u iht ihu =>
  intro listed L a w hcl hm hok hp
  simp only [treeOk, Bool.and_eq_true, beq_iff_eq] at hok
  obtain ⟨⟨⟨⟨⟨hr, hrk⟩, hlen⟩, hf⟩, ht⟩, hu⟩ := hok
  obtain ⟨hr', hlt⟩ := readyB_spec h hm hr
  obtain ⟨hrk', hltk⟩ := readyB_spec h hm hrk
  refine ⟨fun h0 => (by rw [h0] at hr'; cases hr'), fun j hj => ?_⟩
  obtain ⟨r, hrj⟩ := ready_row h hj
  have h1 := allIx_spec _ rows 0 hf j r hrj
  have h2 := (ready_iff h hm hrj).1 hj
  rw [Nat.zero_add, h2.1, h2.2] at h1
  have hji : j = i \/ j = k := by simpa using h1
  rcases hji with rfl | rfl
  ·exact wpOp_mono (fun a' w' h' => ⟨h'.1, iht _ _ _ _ (hcl.set hr') (hm.set hlt) ht h'.2⟩) hp.1
  ·refine wpOp_mono (fun a' w' h' => ⟨h'.1, ?_⟩) hp.2
   rw [hlen]
   exact ihu _ _ _ _ (hcl.set hrk') (hm.set hltk) hu h'.2
theorem region_tree {id : Nat} {a : Act} {w : World} (t : Tree) (needs : List Nat) (need : Nat) (rows : List Row) (S : World -> Prop) (hN : bitsOf needs = need) (hm : P.follows .mixedOrders = true) (hs : Region.noSelect ops = true) (hz : t.len = ops.size)
  (hr : rows.map Row.three = ops.toList.map (Go.Proofs.YtkgaeoeibjoljaaGreatDoor.rowOf ops)) (hok : (reachOk rows && treeOk rows need t 0) = true) (hS : S w.drew) (h : S w.drew -> wpTree P ops Q S (fun i => needs.contains i) t a w.drew) : (Code.region id ops true).wp P Q a w := by
 rw [Bool.and_eq_true] at hok
 have e : (fun i => needs.contains i) = need.testBit := by
  funext i
  rw [<- hN, Bool.eq_iff_iff, bitsOf_test]
  simp
 rw [e] at h
 exact wp_region_any hm (wpAny_of_N _ _ _ _ (hz ▸ wpN_of_tree hs hr hok.1 need t _ 0 a w.drew (Closed.start ops) (Mirrors.start ops) hok.2 (h hS)))
/-! ### The moves -/
theorem tree_leaf {a : Act} {w : World} (h : Q .normal a w) : wpTree P ops Q S need .leaf a w := h
theorem tree_read {i : Nat} {o : Oper} {v : Value} {t : Tree} {a : Act} {w : World} (ho : ops.toList[i]? = some o) (hQ : ∀ c a w, Q (.panic c) (a.put o.dst v) w -> Q (.panic c) a w)
  (hg : Region.wanted o (yielded ops a.tmps) = true) (hS : S w) (hy : ∀ w, S w -> (execOp a.eval o).run P w = .ok (.value v) w) (h : wpTree P ops Q S need t (a.put o.dst v) w) : wpTree P ops Q S need (.read i t) a w :=
 ⟨o, v, at_list ho, .inl ⟨hg, hy⟩, hS, hQ, h⟩
theorem tree_skip {i : Nat} {o : Oper} {t : Tree} {a : Act} {w : World} (ho : ops.toList[i]? = some o) (hQ : ∀ c a w, Q (.panic c) (a.put o.dst undef) w -> Q (.panic c) a w)
  (hg : Region.wanted o (yielded ops a.tmps) = false) (hS : S w) (h : wpTree P ops Q S need t (a.put o.dst undef) w) : wpTree P ops Q S need (.read i t) a w :=
 ⟨o, undef, at_list ho, .inr ⟨hg, rfl⟩, hS, hQ, h⟩
theorem tree_do {i : Nat} {o : Oper} {t : Tree} {a : Act} {w : World} (ho : ops.toList[i]? = some o) (hg : Region.wanted o (yielded ops a.tmps) = true)
  (h : ∀ K : Act -> World -> Prop, Shut (∀ a w, (need i = true -> S w) -> ((need i = true -> S w) -> wpTree P ops Q S need t a w) -> K a w) -> o.wp P a w K Q) : wpTree P ops Q S need (.one i t) a w := by
 refine wpOp_step (at_list ho) (fun K' hK => ?_)
 rw [if_pos hg]
 exact h K' (fun a w h1 h2 => hK a w ⟨h1, h2 h1⟩)
theorem tree_two {i j : Nat} {t u : Tree} {a : Act} {w : World} (h1 : wpTree P ops Q S need (.one i t) a w) (h2 : wpTree P ops Q S need (.one j u) a w) : wpTree P ops Q S need (.two i t j u) a w := ⟨h1, h2⟩
end
end
section
set_option maxRecDepth 4000
open Go.RowKit
theorem Tab.keep {w w' : World} (h : Tab w) (hz : w.heap.size <= w'.heap.size) (hk : ∀ k, k = 3 \/ k = 2 -> w'.heap[k]? = w.heap[k]?) : Tab w' := by
 obtain ⟨h1, ⟨t2, fr2, h2⟩, h3⟩ := h
 exact ⟨fun j hj => (World.cell?_of_block (a := ⟨3, j, none⟩) (hk _ (.inl rfl))).trans (h1 j hj), ⟨t2, fr2, by rw [hk _ (.inr rfl)]; exact h2⟩, by omega⟩
theorem Tab.fr {w w' : World} {F : Nat -> Prop} (h : Tab w) (hf : Fr F w w') (hn : ∀ k, F k -> k ≠ 3 /\ k ≠ 2) : Tab w' := by
 have h1 := h.lt
 have h2 := h.hlt
 refine h.keep hf.size ?_
 rintro k (rfl | rfl)
 ·exact hf.block _ h1 (fun hF => (hn _ hF).1 rfl)
 ·exact hf.block _ h2 (fun hF => (hn _ hF).2 rfl)
theorem PzRows.lower {w : World} {base base' m cT cC : Nat} {A C : Option Addr} {texts : List (List UInt8)} {chain : List UInt8} (h : PzRows w base A m cT C cC texts chain) (hb : base' <= base) : PzRows w base' A m cT C cC texts chain := by
 obtain ⟨vs, h1, h2, h3, h4, h5⟩ := h
 exact ⟨vs, h1, own_base h2 hb, h3, fun p hp => ⟨(h4 p hp).1, own_base (h4 p hp).2 hb⟩, own_base h5 hb⟩
theorem info_prs : (Tryz.prog.info? 229).map (·.size) = some 4 := by kernel_rfl
theorem parse_not (b l : List UInt8) (ad : Addr) (n c q k : Nat) (A : Option Addr) (c' : Nat) (w : World) (hb : Sees w 1 (some ad) n (u8s b)) (hn : b.length = n) (hnc : n <= c) (h128 : n % 128 = 0) (h256 : 256 <= n)
  (hA : Sees w 1 A 32 (u8s l)) (hl : l.length = 32) (hk : k < 9223372036854775808) (hq : q < 4294967296) (hp : pref b (hd q k l) = false) :
  Calls Tryz.prog 153 #[.slice (some ad) n c, .int .i64 q, .int .i64 k, .slice A 32 c'] w fun e w' => e = .returned (.tuple #[.agg #[.slice none 0 0, .slice none 0 0, .bool false, .int .i64 0], .bool false]) /\ Below w.heap.size w w' := by
 have hal : Below w.heap.size w (w.alloc (.cells #[.slice none 0 0, .slice none 0 0, .bool false, .int .i64 0] 229)) := (Below.refl _ _).alloc (Nat.le_refl _) _
 have HH := Lh (head_ok q k l A c' _ (hA.below hal) hl hk hq)
 have HB := Lh hb; have HAL := Lh hal; clear hb hal hA
 have e1 : ((n : Int) % 128 != 0) = false := by simp; omega
 have e2 : ¬ ((n : Int) < 256) := by omega
 go_enter Tryz.func153, Tryz.ntmps153
 go_wp2_with fail
 refine HH.out.mono ?_
 rintro e w1 ⟨v, rfl, hown, hb1⟩
 obtain ⟨A1, c1, rfl⟩ := own_shape hown
 have HG := Lh (begins_at b (hd q k l) ad A1 n c 128 c1 w1 ((HB.out.below HAL.out).below hb1) (Sees.of_own hown) hn (by rw [hd_len' _ _ _ hl]) hnc (by omega))
 have HB1 := Lh (HAL.out.trans (hb1.mono (HAL.out.size)))
 have hR : Blk w1 w.heap.size 229 #[.slice none 0 0, .slice none 0 0, .bool false, .int .i64 0] := (Blk.new w 229 _).below hb1 (by simp)
 have HI := Lh info_prs
 have hbz := hb1.size
 rw [hp] at HG
 clear hown hb1 HH
 go_wp2_with fail
 refine HG.out.mono ?_
 rintro e w' ⟨rfl, rfl⟩
 go_wp2_with (first
  | (refine wpList_store_row rfl 229 (.tmp 8) (.tmp 34) rfl w.heap.size _ rfl rfl 229 _ hR (by exact HI.out) (by rfl) (by simp [Value.oneCell']) ?_))
 refine bodyPost_ret (results_row_tmp rfl _ _ w.heap.size 229 _ (0, 0) _ rfl (hR.setRow _) Tryz.underlying229 rfl (by exact HI.out)) rfl ⟨rfl, below_setRow HB1.out (Nat.le_refl _) _⟩
structure PF (W : World) (base : Nat) (z : Pz) (A : Option Addr) (m cT : Nat) (C : Option Addr) (k cC : Nat) (se : Bool) (us : Nat) : Prop where
 hm : m = z.texts.length
 hk : k = 32
 hse : se = z.sealed_
 hus : us = z.used
 rows : PzRows W base A m cT C cC z.texts z.chain
theorem PF.below {w w' : World} {base : Nat} {z : Pz} {A : Option Addr} {m cT : Nat} {C : Option Addr} {k cC : Nat} {se : Bool} {us : Nat} (h : PF w base z A m cT C k cC se us) (hb : Below w.heap.size w w') : PF w' base z A m cT C k cC se us :=
 ⟨h.hm, h.hk, h.hse, h.hus, h.rows.below hb⟩
theorem parse_both (b l : List UInt8) (g off n c q k : Nat) (A : Option Addr) (c' : Nat) (w : World) (hb : Sees w 1 (some ⟨g, off, none⟩) n (u8s b)) (hn : b.length = n) (hnc : n <= c) (hn6 : n <= 1000000) (h128 : n % 128 = 0) (h256 : 256 <= n)
  (hA : Sees w 1 A 32 (u8s l)) (hl : l.length = 32) (hk : k <= 1000000000) (hq : q < 4294967296) (hT : Tab w) :
  Calls Tryz.prog 153 #[.slice (some ⟨g, off, none⟩) n c, .int .i64 q, .int .i64 k, .slice A 32 c'] w fun e w' => ∃ (A : Option Addr) (m cT : Nat) (C : Option Addr) (kk cC : Nat) (se : Bool) (us : Nat),
   e = .returned (.tuple #[.agg #[.slice A m cT, .slice C kk cC, .bool se, .int .i64 us], .bool (pref b (hd q k l))]) /\ (pref b (hd q k l) = true -> PF w' w.heap.size (pz b k n (pz0 l)) A m cT C kk cC se us) /\ Below w.heap.size w w' := by
 cases hp : pref b (hd q k l) with
 | true =>
  refine (parse_any b l g off n c q k A c' w hb hn hnc hn6 h128 h256 hA hl hk hq hp hT).mono ?_
  rintro e w' ⟨v, rfl, ⟨A, cT, C, cC, rfl, hr⟩, bel⟩
  exact ⟨A, _, cT, C, _, cC, _, _, rfl, fun _ => ⟨rfl, rfl, rfl, rfl, hr⟩, bel⟩
 | false =>
  refine (parse_not b l ⟨g, off, none⟩ n c q k A c' w hb hn hnc h128 h256 hA hl (by omega) hq hp).mono ?_
  rintro e w' ⟨rfl, bel⟩
  exact ⟨none, 0, 0, none, 0, 0, false, 0, rfl, fun h => (by cases h), bel⟩
theorem wp_mid9 {P : Program} {c : Code} {Q' : Exit -> Act -> World -> Prop} {a : Act} {w : World} (F : Nat -> Option Addr -> Nat -> Nat -> Option Addr -> Nat -> Nat -> Bool -> Nat -> Act) (R : Nat -> Option Addr -> Nat -> Nat -> Option Addr -> Nat -> Nat -> Bool -> Nat -> World -> Prop)
  (h : c.wp P (fun e a' w' => e = .normal /\ ∃ p A m cT C k cC se us, a' = F p A m cT C k cC se us /\ R p A m cT C k cC se us w') a w) (hq : ∀ p A m cT C k cC se us w', R p A m cT C k cC se us w' -> Q' .normal (F p A m cT C k cC se us) w') : c.wp P Q' a w :=
 wp_mono h (by rintro _ _ _ ⟨rfl, p, A, m, cT, C, k, cC, se, us, rfl, hR⟩; exact hq p A m cT C k cC se us _ hR)
theorem pz_in' (b : List UInt8) (k n : Nat) (c : List UInt8) (hc : c.length = 32) (hb : b.length = n) (hn : 256 <= n) : (pz b k n (pz0 c)).used <= n /\ 128 <= (pz b k n (pz0 c)).used /\ (pz b k n (pz0 c)).chain.length = 32 /\ (pz b k n (pz0 c)).texts.length <= n := by
 have := pz_in b k n c hc (by omega)
 rwa [hb] at this
theorem Lg.Ok.seg {s : Lg} (h : s.Ok) {j : Nat} (hj : j < s.segs) : (s.seg j).length = s.n /\ (j + 1) * s.n <= s.all /\ j * s.n + s.n = (j + 1) * s.n := by
 have h1 : (j + 1) * s.n <= s.segs * s.n := Nat.mul_le_mul_right _ hj
 have h2 : (j + 1) * s.n = j * s.n + s.n := by rw [Nat.add_mul]; omega
 refine ⟨?_, h1, h2.symm⟩
 have h3 := h.oct
 unfold Lg.all at h3
 unfold Lg.seg
 rw [List.length_take, List.length_drop, h3]
 omega
theorem Lg.Ok.scan1 {s : Lg} (h : s.Ok) {j : Nat} (hj : j < s.segs) (hm : s.texts.length + s.n <= 100000000) : (s.scan1 j).1.Ok /\ (s.scan1 j).1.texts.length <= s.texts.length + s.n /\ (s.scan1 j).1.B = s.B /\ (s.scan1 j).1.segs = s.segs /\ (s.scan1 j).1.size = s.size := by
 have hz := pz_in' (s.seg j) s.texts.length s.n s.chain h.chain (h.seg hj).1 h.n_le.1
 unfold Lg.scan1
 split
 ·refine ⟨⟨h.segs, h.size, hj, hz.1, h.clean, h.oct, ?_, hz.2.2.1, h.sure⟩, ?_, rfl, rfl, rfl⟩
  ·show (s.texts ++ _).length <= _
   rw [List.length_append]
   omega
  ·show (s.texts ++ _).length <= _
   rw [List.length_append]
   omega
 ·exact ⟨h, Nat.le_add_right _ _, rfl, rfl, rfl⟩
theorem LgP.took {w3 w5 w9 : World} {lb b f : Nat} {s s2 : Lg} {bg cB : Nat} {A : Option Addr} {cT : Nat} {C : Option Addr} {cC : Nat} {vs vs2 : List Pt} {Kl Kt : Nat -> Prop} {B0 T m : Nat} {A5 : Option Addr} {c5 : Nat} {C' : Option Addr} {cC' : Nat} {chain : List UInt8}
  (h : LgP w3 lb b f s bg cB A cT C cC vs Kl) (hT : T = s.texts.length) (hm : vs2.length = m) (hlt : ∀ k, Kl k -> k < B0) (hB : B0 <= w3.heap.size)
  (hv : ∀ p ∈ vs2, p.l.length = p.n /\ w3.ownsRow B0 5 1 p.val p.n (u8s p.l)) (hc : w3.ownsRow B0 5 1 (.slice C' 32 cC') 32 (u8s chain))
  (o1 : w5.ownsRow 0 22 1 (.slice A5 (T + m) c5) (T + m) (vs.map Pt.val ++ vs2.map Pt.val)) (f5 : Fr (fun k => (Value.slice A T cT).ownBlock = some k) w3 w5)
  (o3 : (Value.slice A5 (T + m) c5).ownBlock = (Value.slice A T cT).ownBlock \/ (Value.slice A5 (T + m) c5).ownBlock = some w3.heap.size)
  (hf9 : Fr (fun k => k = lb) w5 w9) (top : Blk w9 lb 150 (lgc b f s2.segs s2.size (.slice (some ⟨bg, 0, none⟩) s2.B.length cB) s2.last s2.used s2.clean (.slice A5 (T + m) c5) (.slice C' 32 cC') s2.sure s2.sealed_ s2.dead))
  (eB : s2.B = s.B) (eT : s2.texts = s.texts ++ vs2.map Pt.l) (eC : s2.chain = chain) (hK1 : ∀ k, Kl k -> Kt k) (hK2 : ∀ k, B0 <= k -> Kt k) : LgP w9 lb b f s2 bg cB A5 c5 C' cC' (vs ++ vs2) Kt := by
 subst hT
 have el : s2.texts.length = s.texts.length + m := by rw [eT, List.length_append, List.length_map, hm]
 have b5 : Blk w5 lb 150 _ := h.top.fr f5 (fun e => own_ne h.rows h.top (by decide) lb e rfl)
 have byt : ∀ {base n : Nat} {v : Value} {xs : List Value}, w3.ownsRow base 5 1 v n xs -> w9.ownsRow 0 5 1 v n xs := fun hr => by
  have h5 := own_fr hr f5 (own_ne2 hr h.rows (by decide))
  exact own_base (own_fr h5 hf9 (own_ne h5 b5 (by decide))) (Nat.zero_le _)
 have hbg := hlt bg h.kb
 refine ⟨by rw [el]; exact top, by rw [eB]; exact byt h.oct, by rw [el]; have := own_fr o1 hf9 (own_ne o1 b5 (by decide)); rwa [<- List.map_append] at this, by rw [List.map_append, h.vals, eT], ?_, by rw [eC]; exact byt hc, ?_, ?_, hK1 _ h.kl, hK1 _ h.kb, ?_, ?_, ?_⟩
 ·intro p hp
  rcases List.mem_append.1 hp with hp | hp
  ·exact ⟨(h.each p hp).1, byt (h.each p hp).2⟩
  ·exact ⟨(hv p hp).1, byt (hv p hp).2⟩
 ·intro e
  have := (hc.lt bg e).1
  omega
 ·intro p hp e
  rcases List.mem_append.1 hp with hp | hp
  ·exact h.nt p hp e
  ·have := ((hv p hp).2.lt bg e).1
   omega
 ·intro g hg
  rw [el] at hg
  rcases o3 with e | e
  ·rw [e] at hg
   exact hK1 _ (h.ka g hg)
  ·rw [e] at hg
   injection hg with hg
   exact hK2 _ (by omega)
 ·intro g hg
  exact hK2 _ (hc.lt g hg).1
 ·intro p hp g hg
  rcases List.mem_append.1 hp with hp | hp
  ·exact hK1 _ (h.kt p hp g hg)
  ·exact hK2 _ ((hv p hp).2.lt g hg).1
theorem Lg.scan_no {s : Lg} {j f : Nat} (h : pref (s.seg j) (hd j s.texts.length s.chain) = false) : s.scan j (f + 1) = s := by
 have e : s.scan1 j = (s, false) := by unfold Lg.scan1; rw [if_neg (by rw [h]; decide)]
 rw [Lg.scan, e]; rfl
theorem Lg.scan_yes {s : Lg} {j f : Nat} (h : pref (s.seg j) (hd j s.texts.length s.chain) = true) : s.scan j (f + 1) = if (pz (s.seg j) s.texts.length s.n (pz0 s.chain)).sealed_ = true then (s.scan1 j).1.scan (j + 1) f else (s.scan1 j).1 := by
 have e : (s.scan1 j).2 = (pz (s.seg j) s.texts.length s.n (pz0 s.chain)).sealed_ := by unfold Lg.scan1; rw [if_pos h]
 rw [Lg.scan, e]
theorem Lg.scan1_yes {s : Lg} {j : Nat} (h : pref (s.seg j) (hd j s.texts.length s.chain) = true) : (s.scan1 j).1 = ({ s with texts := s.texts ++ (pz (s.seg j) s.texts.length s.n (pz0 s.chain)).texts, chain := (pz (s.seg j) s.texts.length s.n (pz0 s.chain)).chain, last := j, used := (pz (s.seg j) s.texts.length s.n (pz0 s.chain)).used, sealed_ := (pz (s.seg j) s.texts.length s.n (pz0 s.chain)).sealed_ } : Lg) := by
 unfold Lg.scan1; rw [if_pos h]
theorem vals_one (vs : List Pt) : ∀ u ∈ vs.map Pt.val, u.oneCell' = true := by
 intro u hu
 obtain ⟨p, _, rfl⟩ := List.mem_map.1 hu
 rfl
end
end Go.Proofs.YtkgaeoeibjoljaaGreatDoor
