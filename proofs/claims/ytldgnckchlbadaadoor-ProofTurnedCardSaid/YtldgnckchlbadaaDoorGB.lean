/-
  Bytes copied anew.
  Rows of texts, and the document's texts of them.
  make([]byte, n) and []byte("..") of a constant.
  An argument of rows of octets ([][]byte), opened.
  An argument of turns (At: an int, With: an octet), read.
-/
import Derived.Test.YtldgnckchlbadaaDoorProg
import Derived.Test.YtldgnckchlbadaaDoorGA
import Derived.BigQuiet
import Derived.Handy
import Derived.Deep.RegionHeld3
import Derived.Laws.MakeOwn
import Derived.Laws.IdiomStrings
import Derived.Deep.Matrix
import Derived.Deep.Slices
namespace Go.Proofs.YtldgnckchlbadaaDoor
set_option maxRecDepth 4000
open Go.RowKit

theorem info_byte : (Tryd.prog.info? 5).map (fun i => (i.zero, i.size, i.bytes)) = some (some (.int .u8 0), 1, 1) := by kernel_rfl
theorem clone_any (ad : Addr) (n c : Nat) (xs : List Value) (w : World) (hr : Sees w 1 (some ad) n xs) (h1 : ∀ u ∈ xs, u.oneCell' = true) (hn : n ≤ 140737488355328) :
    Calls Tryd.prog 32 #[.slice (some ad) n c] w fun e w' => ∃ v, e = .returned v ∧ w'.ownsRow w.heap.size 5 1 v n xs ∧ Below w.heap.size w w' := by
  have q : ∀ (w : World) (a : Option Addr) (n c n' c' : Nat), (binOp .eql 35 (.slice a n c) (.slice none n' c')).run Tryd.prog w = .ok (.bool a.isNone) w := fun w a n c n' c' => Lib.run_eql_slice_nil w _ _ a n c n' c' Tryd.underlying35
  have hr1 : Sees (w.alloc (.cells #[] 5)) 1 (some ad) n xs := hr.below ((Below.refl _ _).alloc (Nat.le_refl _) _)
  go_enter Tryd.func32, Tryd.ntmps32
  go_wp2_with (at_builtin; refine wpList_app rfl (.tmp 5) (.tmp 6) _ rfl w.heap.size 5 _ 1 1 Tryd.underlying35 info_byte rfl (by decide) (.slice (some ⟨w.heap.size, 0, none⟩) 0 0) 0 [] rfl (World.ownsRow_made w #[] 0 (Nat.le_refl _) (Nat.zero_le _) rfl) _ n c xs rfl hr1 h1 (by unfold maxLen; omega) (by omega) (by simp) ?_; intro v' w1 hown hgrow hat hnil)
  go_ret
  refine ⟨v', rfl, by simpa using hown, ?_⟩
  exact ((Below.refl _ w).alloc (Nat.le_refl _) _).grown hgrow (by simp) (by intro k hk; simp [Value.ownBlock] at hk; omega)
theorem clone_nil (n c : Nat) (w : World) :
    Calls Tryd.prog 32 #[.slice none n c] w fun e w' => e = .returned (.slice none 0 0) ∧ w = w' := by
  have q : ∀ (w : World) (a : Option Addr) (n c n' c' : Nat), (binOp .eql 35 (.slice a n c) (.slice none n' c')).run Tryd.prog w = .ok (.bool a.isNone) w := fun w a n c n' c' => Lib.run_eql_slice_nil w _ _ a n c n' c' Tryd.underlying35
  go_enter Tryd.func32, Tryd.ntmps32
  go_wp2
  go_ret
  exact ⟨rfl, rfl⟩
end Go.Proofs.YtldgnckchlbadaaDoor

namespace Go.Proofs.YtldgnckchlbadaaDoor
set_option maxRecDepth 4000
open Go.RowKit

/-- Parts in a row of slices. -/
def Rws (w : World) (A : Option Addr) (ps : List Pt) : Prop := 0 < ps.length → ∃ g off, A = some ⟨g, off, none⟩ ∧ ∀ j p, ps[j]? = some p → w.cell? ⟨g, off + j, none⟩ = some p.val
theorem Rws.below {w w' : World} {A : Option Addr} {ps : List Pt} (h : Rws w A ps) (hb : Below w.heap.size w w') : Rws w' A ps := fun h0 => by
  obtain ⟨g, off, e, hc⟩ := h h0
  exact ⟨g, off, e, fun j p hj => (hb.cell (World.block_lt_of_cell? w _ (hc j p hj))).trans (hc j p hj)⟩

/-- Texts as cells. -/
def strs (L : List (List UInt8)) : List Value := L.map fun l => .string (str l)
theorem strs_one (L : List (List UInt8)) : ∀ u ∈ strs L, u.oneCell' = true := by
  intro u hu
  obtain ⟨c, _, rfl⟩ := List.mem_map.1 hu
  rfl
theorem info_string : (Tryd.prog.info? 9).map (fun i => (i.zero, i.size, i.bytes)) = some (some (.string ⟨#[]⟩), 1, 16) := by kernel_rfl

set_option maxRecDepth 4000 in
set_option maxHeartbeats 1000000 in
theorem texts_any (ps : List Pt) (A : Option Addr) (k c : Nat) (w : World) (hk : ps.length = k) (hkc : k ≤ 100000) (hR : Rws w A ps) (hP : Pts w ps) :
    Calls Tryd.prog 15 #[.slice A k c] w fun e w' => ∃ v, e = .returned v ∧ w'.ownsRow w.heap.size 9 1 v k (strs (ps.map (·.l))) ∧ Below w.heap.size w w' := by
  have HR := Lib.hid hR; have HP := Lib.hid hP; have HK := Lib.hid hk; clear hR hP hk
  go_enter Tryd.func15, Tryd.ntmps15
  go_wp2_with fail
  go_loopw [3, 4] (fun v i wr => ∃ j : Nat, j ≤ k ∧ i = .int .i64 j ∧ wr.ownsRow w.heap.size 9 1 v j (strs ((ps.take j).map (·.l))) ∧ Below w.heap.size w wr) (fun _ i _ => k - (intOf i).toNat)
  case atStart => exact ⟨0, by omega, rfl, World.ownsRow_nil _ _ _ _, Below.refl _ _⟩
  case round =>
    obtain ⟨j, hj, rfl, hown, hbr⟩ := hrel
    obtain ⟨A1, c1, rfl⟩ := own_shape hown
    by_cases hlt : j < k
    · have hlti : (j : Int) < (k : Int) := by omega
      have hp := List.getElem?_eq_getElem (l := ps) (i := j) (by rw [HK.out]; exact hlt)
      obtain ⟨⟨B, n, c', l⟩, hpe⟩ : ∃ p, p = ps[j]'(by rw [HK.out]; exact hlt) := ⟨_, rfl⟩
      rw [← hpe] at hp
      obtain ⟨g, off, rfl, hcs⟩ := HR.out (by rw [HK.out]; omega)
      have hc0 := (hbr.cell (World.block_lt_of_cell? w _ (hcs j _ hp))).trans (hcs j _ hp)
      simp only [Pt.val] at hc0
      obtain ⟨hS, hll⟩ := HP.out _ (List.mem_of_getElem? hp)
      simp only at hS hll
      have hcv := run_to_string Tryd.underlying35 Tryd.underlying5 Tryd.underlying9 c' (hS.below hbr)
      have hnx : strs ((ps.take (j + 1)).map (·.l)) = strs ((ps.take j).map (·.l)) ++ [.string (str l)] := by
        rw [List.take_add_one, hp, List.map_append]
        simp [strs]
      obtain ⟨X, hX⟩ : ∃ X, X = str l := ⟨_, rfl⟩
      rw [← hX] at hcv hnx
      have hbz := hbr.size
      have HBR := Lib.hid hbr; have HOWN := Lib.hid hown; have HNX := Lib.hid hnx
      clear hown hbr hS hnx hpe hp hcs hll hX
      go_wp2_with (at_builtin; refine wpList_app rfl (.tmp 11) (.tmp 17) _ rfl w.heap.size 9 _ 1 16 Tryd.underlying47 info_string rfl (by decide) _ j _ rfl (own_below HOWN.out ((Below.refl _ _).alloc (Nat.le_refl _) _)) (some ⟨wr.heap.size, 0, none⟩) 1 _ [.string X] rfl (sees_new wr _ [.string X] 1 1 rfl) (by simp [Value.oneCell']) (by unfold maxLen; omega) (by omega) (by simp; omega) ?_; intro v1 w1 hown1 hgr1 hat1 hnil1; rw [← HNX.out] at hown1; have hb1 := (HBR.out.alloc hbz _).grown hgr1 (by simp; omega) (fun k hk => (HOWN.out.lt k hk).1); have HOWN1 := Lib.hid hown1; have HB1 := Lib.hid hb1; clear hown1 hgr1 hat1 hnil1 hb1)
      go_roundw
      case rel => exact ⟨j + 1, by omega, by go_num, HOWN1.out, HB1.out⟩
      case measure => simp [intOf]; omega
    · obtain rfl : j = k := by omega
      rw [List.take_of_length_le (by rw [HK.out]; exact Nat.le_refl _)] at hown
      have hge : ¬ ((j : Int) < (j : Int)) := by omega
      have HOWN := Lib.hid hown; clear hown
      go_wp2_with fail
      go_ret
      exact ⟨_, rfl, HOWN.out, hbr⟩

end Go.Proofs.YtldgnckchlbadaaDoor

namespace Go.Proofs.YtldgnckchlbadaaDoor
set_option maxRecDepth 4000
open Go.RowKit

theorem make_bytes (n : Nat) (hn : n ≤ 1000) (W : World) : (Instr.makeSlice 35 (.int .i64 (n : Int)) (.int .i64 (n : Int))).run Tryd.prog W = .ok (.slice (some ⟨W.heap.size, 0, none⟩) n n) (W.alloc (.cells (u8s (List.replicate n 0)).toArray 5)) := by
  obtain ⟨i, hi, hz, hs, hb⟩ := info_parts info_byte
  have h := run_make (P := Tryd.prog) W 35 5 i (.int .u8 0) Tryd.underlying35 hi hz .i64 .i64 (n : Int) (n : Int) (by omega) (by omega) (by rw [hb]; omega) (by omega)
  have e0 : u8s (List.replicate n 0) = List.replicate n (Value.int .u8 0) := by simp [u8s]
  have e1 : madeCells (Value.int .u8 0).cells ((n : Int).toNat * i.size) = (u8s (List.replicate n 0)).toArray := by
    rw [hs, Int.toNat_natCast, Nat.mul_one, e0, ← toList_madeCells_one (.int .u8 0) n]
    rfl
  rw [e1, Int.toNat_natCast] at h
  exact h

/-- '[]byte(..)' of a constant: its row bears the run-time's mark. -/
theorem cv_mark (w : World) (C : Array Value) (n c : Nat) : (convert 35 35 (.slice (some ⟨w.heap.size, 0, none⟩) n c)).run Tryd.prog (w.alloc (.cells C 5)) = .ok (.slice (some ⟨w.heap.size, 0, none⟩) n c) (w.alloc (.cells C 5 (C.size, C.size + 1))) := by
  have hsh : (w.alloc (.cells C 5)).shape? w.heap.size = some (5, C.size) := by
    have : (w.alloc (.cells C 5)).heap[w.heap.size]? = some (.cells C 5) := heap_alloc_new w _
    unfold World.shape?
    rw [this]
  have hfr : (w.alloc (.cells C 5)).freeze ⟨w.heap.size, C.size, none⟩ 1 = w.alloc (.cells C 5 (C.size, C.size + 1)) := by
    have hm : ∀ (a : Array Obj) (x : Obj) (f : Obj → Obj), (a.push x).modify a.size f = a.push (f x) := by
      intro a x f
      apply Array.ext
      · simp
      · intro i h1 h2
        simp only [Array.getElem_modify, Array.getElem_push]
        by_cases h : a.size = i
        · subst h
          simp
        · have hi : i < a.size := by simp at h1; omega
          simp [h, hi]
    unfold World.freeze
    rw [if_neg (by decide)]
    show ({ w.alloc (.cells C 5) with heap := (w.heap.push (.cells C 5)).modify w.heap.size _ } : World) = _
    rw [hm]
    rfl
  simp [convert, run_underlying Tryd.underlying35, run_underlying Tryd.underlying5, markStringish, hsh, hfr]
theorem sees_mark (w : World) (T : TypeId) (fz : Nat × Nat) (cs : List Value) (n : Nat) (h : cs.length = n * 1) : Sees (w.alloc (.cells cs.toArray T fz)) 1 (some ⟨w.heap.size, 0, none⟩) n cs :=
  ⟨h, fun _ => ⟨_, 0, rfl, fun j u hu => by rw [Nat.zero_add, cell_of_row _ _ _ _ _ _ (heap_alloc_new w (.cells cs.toArray T fz)), List.getElem?_toArray]; exact hu⟩⟩
end Go.Proofs.YtldgnckchlbadaaDoor

namespace Go.Proofs.YtldgnckchlbadaaDoor
set_option maxRecDepth 4000
open Go.RowKit Go.ChangeShapes Go.WideShapes

/-- Rows of octets that came in. -/
structure InRows (w : World) (A : Option Addr) (ps : List Pt) (c : Nat) : Prop where
  le : ps.length ≤ c
  most : c ≤ maxLen
  row : Rws w A ps
  pts : Pts w ps
  caps : ∀ p ∈ ps, p.n ≤ p.c ∧ p.c ≤ maxLen
  nil : A = none → c = 0

theorem open_rows {H : Type} {enc : TypeId × Value → H} {P : Program} {w : World} {base : Nat} {held : Bool} {t e q : TypeId} {fuel : Nat} {cs : List Value} {x : DataW H × List MemPlace}
    (ht : P.underlying t = some (.slice e)) (he : P.underlying e = some (.slice q)) (hq : P.underlying q = some (.int .u8)) (ce : P.cellsOf e = 1) (cq : P.cellsOf q = 1) (h : DataW.trod enc P w base (fun _ => true) held fuel t cs = some x) :
    ∃ A ps c, cs = [.slice A (List.length ps) c] ∧ InRows w A ps c := by
  rcases Go.Deep.open_int_rows ht he hq ce cq h with ⟨rfl, _⟩ | ⟨a, len, cap, A, L, C, Z, rfl, _, hl, hm, _, hr⟩
  · exact ⟨none, [], 0, rfl, ⟨Nat.le_refl _, Nat.zero_le _, fun h => absurd h (by simp), (fun p hp => by cases hp), (fun p hp => by cases hp), fun _ => rfl⟩⟩
  · have each : ∀ r, r < cap → IsRow .u8 w (A r) (L r) (C r) (Z r) := fun r hrc => by
      obtain ⟨h1, h2, h3, h4, h5, h6, h7⟩ := hr r hrc
      cases hA : A r with
      | none =>
        have h0 := h6 hA
        exact .inl ⟨rfl, by omega, h0, List.eq_nil_of_length_eq_zero (by omega)⟩
      | some a' => exact .inr ⟨a', rfl, h2, h3, h4, (fun i hi => (h7 a' hA).2 i (by omega)), h5⟩
    have hb : ∀ r, ∃ p : Pt, r < cap → p.val = .slice (A r) (L r) (C r) ∧ Sees w 1 p.A p.n (u8s p.l) ∧ p.l.length = p.n ∧ p.n ≤ p.c ∧ p.c ≤ maxLen := fun r => by
      by_cases hrc : r < cap
      · obtain ⟨l, l1, l2, l3, l4⟩ := (each r hrc).bytes
        exact ⟨⟨A r, L r, C r, l⟩, fun _ => ⟨rfl, l2, l1, l3, l4⟩⟩
      · exact ⟨⟨none, 0, 0, []⟩, fun h => absurd h hrc⟩
    obtain ⟨f, hf⟩ : ∃ f : Nat → Pt, ∀ r, r < cap → (f r).val = .slice (A r) (L r) (C r) ∧ Sees w 1 (f r).A (f r).n (u8s (f r).l) ∧ (f r).l.length = (f r).n ∧ (f r).n ≤ (f r).c ∧ (f r).c ≤ maxLen := ⟨fun r => (hb r).choose, fun r => (hb r).choose_spec⟩
    have hm' : ∀ p ∈ (List.range len).map f, ∃ r, r < cap ∧ p = f r := fun p hp => by
      obtain ⟨r, hr', rfl⟩ := List.mem_map.1 hp
      exact ⟨r, by have := List.mem_range.1 hr'; omega, rfl⟩
    refine ⟨some a, (List.range len).map f, cap, by simp, ⟨by simpa using hl, hm, fun h0 => ?_, fun p hp => ?_, fun p hp => ?_, fun h => by cases h⟩⟩
    · simp only [List.length_map, List.length_range] at h0
      obtain ⟨g, off, spot⟩ := a
      have hc0 := (hr 0 (by omega)).1
      have hspot : spot = none := by simpa [Addr.add] using World.cell?_spot hc0
      subst hspot
      refine ⟨g, off, rfl, fun j p hj => ?_⟩
      rw [List.getElem?_map] at hj
      by_cases hjl : j < len
      · rw [List.getElem?_range hjl] at hj
        injection hj with hj
        subst hj
        have := (hr j (by omega)).1
        have e : (⟨g, off, none⟩ : Addr).add j = ⟨g, off + j, none⟩ := by unfold Addr.add; split <;> simp_all
        rw [e] at this
        rw [this, (hf j (by omega)).1]
      · rw [List.getElem?_eq_none (by simpa using hjl)] at hj
        cases hj
    · obtain ⟨r, hrc, rfl⟩ := hm' p hp
      exact ⟨(hf r hrc).2.1, (hf r hrc).2.2.1⟩
    · obtain ⟨r, hrc, rfl⟩ := hm' p hp
      exact (hf r hrc).2.2.2

theorem InRows.below {w w' : World} {A : Option Addr} {ps : List Pt} {c : Nat} (h : InRows w A ps c) (hb : Below w.heap.size w w') : InRows w' A ps c :=
  ⟨h.le, h.most, h.row.below hb, h.pts.below hb, h.caps, h.nil⟩
theorem Rws.take {w : World} {A : Option Addr} {ps : List Pt} (h : Rws w A ps) (j : Nat) : Rws w A (ps.take j) := fun h0 => by
  obtain ⟨g, off, e, hc⟩ := h (by rw [List.length_take] at h0; omega)
  refine ⟨g, off, e, fun i p hi => hc i p ?_⟩
  rw [List.getElem?_take] at hi
  split at hi
  · exact hi
  · cases hi
theorem Pts.take {w : World} {ps : List Pt} (h : Pts w ps) (j : Nat) : Pts w (ps.take j) := fun p hp => h p (List.mem_of_mem_take hp)
/-- A slice of rows up to j. -/
theorem slice_rows {P : Program} {t : TypeId} (ht : P.underlying t = some (.slice (P.elem t))) (hs : (P.info? (P.elem t)).isSome) {w : World} {A : Option Addr} {ps : List Pt} {k c : Nat} (hk : ps.length = k) (h : InRows w A ps c) (j : Nat) (hj : j ≤ k) :
    ∃ A', (∀ W, (Instr.slice t (.slice A k c) none (some (.int .i64 (j : Int))) none).run P W = .ok (.slice A' j c) W) ∧ (0 < k → A' = A) := by
  have hle := h.le
  obtain ⟨i, hi⟩ := Option.isSome_iff_exists.1 hs
  refine ⟨if c = 0 then A else A.map (·.add 0), fun W => ?_, fun h0 => ?_⟩
  · rw [run_slice_h W t A k c ht .i64 j (by omega) (by omega)]
    simp [sizeOf, typeInfo, hi, sliced, Sem.run_bind]
  · obtain ⟨g, off, rfl, _⟩ := h.row (by omega)
    rw [if_neg (by omega)]
    rfl
end Go.Proofs.YtldgnckchlbadaaDoor

namespace Go.Proofs.YtldgnckchlbadaaDoor
set_option maxRecDepth 4000
open Go.RowKit Go.ChangeShapes Go.WideShapes Go.Deep

structure Tn where
  at_ : Int
  b : UInt8
def tcells (y : Tn) : List Value := [.int .i64 y.at_, .int .u8 (y.b.toNat : Nat)]
@[simp] theorem tcells_length (y : Tn) : (tcells y).length = 2 := rfl
def tns (l : List Tn) : List Value := l.flatMap tcells
@[simp] theorem tns_length (l : List Tn) : (tns l).length = l.length * 2 := by unfold tns; rw [length_flatMap_const _ 2 tcells_length]
theorem tns_get : ∀ {l : List Tn} {k : Nat} {e : Tn}, l[k]? = some e → ∀ j, j < 2 → (tns l)[k * 2 + j]? = (tcells e)[j]?
  | [], k, e, h, j, hj => by simp at h
  | x :: l, 0, e, h, j, hj => by
      injection h with h; subst h
      show (tcells x ++ tns l)[0 * 2 + j]? = _
      rw [Nat.zero_mul, Nat.zero_add, List.getElem?_append_left (by rw [tcells_length]; exact hj)]
  | x :: l, k + 1, e, h, j, hj => by
      show (tcells x ++ tns l)[(k + 1) * 2 + j]? = _
      rw [List.getElem?_append_right (by rw [tcells_length]; omega), tcells_length, show (k + 1) * 2 + j - 2 = k * 2 + j by omega]
      exact tns_get (by simpa using h) j hj
def TnOk (y : Tn) : Prop := -9223372036854775808 ≤ y.at_ ∧ y.at_ ≤ 9223372036854775807
theorem in_tn {w : World} {A : Option Addr} {l : List Tn} (h : Sees w 2 A l.length (tns l)) {k : Nat} {y : Tn} (hk : l[k]? = some y) :
    ∃ g o, A = some ⟨g, o, none⟩ ∧ w.cell? ⟨g, o + k * 2, none⟩ = some (.int .i64 y.at_) ∧ w.cell? ⟨g, o + k * 2 + 1, none⟩ = some (.int .u8 (y.b.toNat : Nat)) := by
  have hkl := (List.getElem?_eq_some_iff.1 hk).1
  obtain ⟨g, o, e', hc⟩ := h.2 (by omega)
  have hg : ∀ j u, j < 2 → (tcells y)[j]? = some u → w.cell? ⟨g, o + k * 2 + j, none⟩ = some u := fun j u hj hu => by
    have := hc (k * 2 + j) u (by rw [tns_get hk j hj]; exact hu)
    rwa [← Nat.add_assoc] at this
  exact ⟨g, o, e', hg 0 _ (by omega) rfl, hg 1 _ (by omega) rfl⟩

section
variable {H : Type} {enc : TypeId × Value → H} {P : Program} {w : World} {base : Nat} {spare : Nat → Bool} {held : Bool}
theorem open_tn {T I B : TypeId} {f0 f1 : Field} (st : P.underlying T = some (.struct #[f0, f1])) (int : P.underlying I = some (.int .i64)) (oct : P.underlying B = some (.int .u8))
    (t0 : f0.type = I) (t1 : f1.type = B) (o0 : f0.offset = 0) (o1 : f1.offset = 1)
    (hI : P.cellsOf I = 1) (hB : P.cellsOf B = 1) {fuel : Nat} {cs : List Value} {x : DataW H × List MemPlace} (hl : cs.length = 2) (h : DataW.trod enc P w base spare held fuel T cs = some x) : ∃ y : Tn, cs = tcells y ∧ TnOk y := by
  match cs, hl with
  | [c0, c1], _ =>
    obtain ⟨xs, n, _, rfl, hl, hlen, hf⟩ := DataW.trod_struct st h
    match xs, hlen with
    | [y0, y1], _ =>
      have g0 := hf 0 f0 rfl
      have g1 := hf 1 f1 rfl
      rw [t0, o0, hI] at g0
      rw [t1, o1, hB] at g1
      obtain ⟨z0, a0, -, b0⟩ := DataW.trod_int int g0
      obtain ⟨z2, a2, -, b2⟩ := DataW.trod_int oct g1
      simp at a0 a2
      have w0 := wf_i64 b0
      have w2 := wf_u8 b2
      refine ⟨⟨z0, UInt8.ofNat z2.toNat⟩, ?_, w0⟩
      have hz : ((UInt8.ofNat z2.toNat).toNat : Int) = z2 := by rw [UInt8.toNat_ofNat']; omega
      rw [a0, a2]
      show [Value.int .i64 z0, .int .u8 z2] = [Value.int .i64 z0, .int .u8 ((UInt8.ofNat z2.toNat).toNat : Nat)]
      rw [hz]
theorem open_tns {t T I B : TypeId} {f0 f1 : Field} (st : P.underlying T = some (.struct #[f0, f1])) (int : P.underlying I = some (.int .i64)) (oct : P.underlying B = some (.int .u8))
    (t0 : f0.type = I) (t1 : f1.type = B) (o0 : f0.offset = 0) (o1 : f1.offset = 1)
    (hI : P.cellsOf I = 1) (hB : P.cellsOf B = 1) (hT : P.cellsOf T = 2) (ht : P.underlying t = some (.slice T)) {fuel : Nat} {cs : List Value} {x : DataW H × List MemPlace}
    (h : DataW.trod enc P w base (fun _ => true) held fuel t cs = some x) : ∃ A ys c, cs = [.slice A (List.length ys) c] ∧ Sees w 2 A (List.length ys) (tns ys) ∧ (∀ y ∈ ys, TnOk y) ∧ List.length ys ≤ maxLen := by
  rcases open_slice ht h with ⟨rfl, _⟩ | ⟨a, len, cap, m, n, D, Pl, rfl, hb, hl, hm, hmm, rfl, hx⟩
  · exact ⟨none, [], 0, rfl, Sees.none_ _ _ _, fun y hy => by simp at hy, Nat.zero_le _⟩
  · simp only [if_true] at hmm
    subst hmm
    rw [hT] at hx
    have hb : ∀ r, ∃ y : Tn, (TnOk y) ∧ (r < m → ∀ j, j < 2 → w.cell? ((a.add (r * 2)).add j) = (tcells y)[j]?) := fun r => by
      by_cases hr : r < m
      · obtain ⟨cs', h1', h2'⟩ := hx r hr
        obtain ⟨_, hlen, hcell⟩ := World.cells?_some h1'
        obtain ⟨y, rfl, hok⟩ := open_tn st int oct t0 t1 o0 o1 hI hB (by rw [hlen]) h2'
        exact ⟨y, hok, fun _ j hj => hcell j (by omega)⟩
      · exact ⟨⟨0, 0⟩, ⟨by decide, by decide⟩, fun h => absurd h hr⟩
    obtain ⟨f, hf⟩ : ∃ f : Nat → Tn, ∀ r, TnOk (f r) ∧ (r < m → ∀ j, j < 2 → w.cell? ((a.add (r * 2)).add j) = (tcells (f r))[j]?) := ⟨fun r => (hb r).choose, fun r => (hb r).choose_spec⟩
    refine ⟨some a, (List.range len).map f, m, by simp, ⟨by simp, fun h0 => ?_⟩, fun y hy => ?_, by simpa using Nat.le_trans hl hm⟩
    · simp only [List.length_map, List.length_range] at h0
      obtain ⟨g, off, spot⟩ := a
      have hc0 := (hf 0).2 (by omega) 0 (by omega)
      have hspot : spot = none := by
        have : ∃ v, w.cell? (((⟨g, off, spot⟩ : Addr).add (0 * 2)).add 0) = some v := ⟨_, hc0⟩
        obtain ⟨v, hv⟩ := this
        simpa [Addr.add] using World.cell?_spot hv
      subst hspot
      refine ⟨g, off, rfl, fun j u hj => ?_⟩
      have hjl : j < len * 2 := by have := (List.getElem?_eq_some_iff.1 hj).1; simpa using this
      have hd : j / 2 < len := by omega
      have hk : ((List.range len).map f)[j / 2]? = some (f (j / 2)) := by rw [List.getElem?_map, List.getElem?_range hd]; rfl
      have hg := tns_get hk (j % 2) (by omega)
      rw [show j / 2 * 2 + j % 2 = j by omega, hj] at hg
      have hc := (hf (j / 2)).2 (by omega) (j % 2) (by omega)
      rw [← hg] at hc
      have ea : ∀ (o n : Nat), (⟨g, o, none⟩ : Addr).add n = ⟨g, o + n, none⟩ := fun o n => by
        unfold Addr.add
        split
        · subst n; rfl
        · rfl
      have e : ((⟨g, off, none⟩ : Addr).add (j / 2 * 2)).add (j % 2) = ⟨g, off + j, none⟩ := by
        rw [ea, ea, show off + j / 2 * 2 + j % 2 = off + j by omega]
      rwa [e] at hc
    · obtain ⟨r, -, rfl⟩ := List.mem_map.1 hy
      exact (hf r).1
end
end Go.Proofs.YtldgnckchlbadaaDoor
