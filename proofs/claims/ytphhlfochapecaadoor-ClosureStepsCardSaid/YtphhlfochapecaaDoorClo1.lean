/-
  A search in memory; a step learnt.
-/
import Derived.Test.YtphhlfochapecaaDoorTermN
import Derived.Test.YtphhlfochapecaaDoorCloQ
namespace Go.Proofs.YtphhlfochapecaaDoor
set_option maxRecDepth 4000
open Go.RowKit

def wcells (w : Wy) : List Value := [.int .i64 w.t, .int .i64 w.h, .int .i64 w.o]
def wcs (l : List Wy) : List Value := l.flatMap wcells
@[simp] theorem length_wcs (l : List Wy) : (wcs l).length = l.length * 3 := length_flatMap_const wcells 3 (fun _ => rfl) l
theorem wcs_append (a b : List Wy) : wcs (a ++ b) = wcs a ++ wcs b := by simp [wcs]
theorem wcs_one (w : Wy) : wcs [w] = wcells w := by simp [wcs]
theorem wcs_get {l : List Wy} {k : Nat} {t : Wy} (h : l[k]? = some t) (j : Nat) (hj : j < 3) : (wcs l)[k * 3 + j]? = (wcells t)[j]? := flatMap_get wcells 3 (fun _ => rfl) l k j t h hj
def bls (l : List Bool) : List Value := l.map Value.bool
@[simp] theorem length_bls (l : List Bool) : (bls l).length = l.length := by simp [bls]
theorem bls_get {l : List Bool} {n : Nat} (h : n < l.length) : (bls l)[n]? = some (.bool (at_ l n)) := by
  simp [bls, at_, List.getD_eq_getElem?_getD, h]
theorem bls_set (l : List Bool) (n : Nat) (b : Bool) : (bls l).toArray.setIfInBounds n (.bool b) = (bls (l.set n b)).toArray := by
  apply Array.ext'
  simp [bls, List.map_set]
theorem info_why : (Tryd.prog.info? 40).map (fun i => (i.zero, i.size, i.bytes)) = some (some (.agg #[.int .i64 0, .int .i64 0, .int .i64 0]), 3, 24) := by kernel_rfl

structure SearchParts (w : World) (base b p : Nat) (s : Sr) (kb kc : Nat) (sA : Option Addr) (sc : Nat) : Prop where
  blk : Blk w b 53 #[.pointer (some ⟨p, 0, none⟩), .slice (some ⟨kb, 0, none⟩) s.kn.length kc, .slice sA s.st.length sc]
  kn : Blk w kb 4 (bls s.kn).toArray
  st : w.ownsRow base 40 3 (.slice sA s.st.length sc) s.st.length (wcs s.st)
  lo : base ≤ b ∧ base ≤ kb
/-- A search in memory; kb: where the marks lie. -/
def SearchIs (w : World) (base b p : Nat) (s : Sr) (kb kc : Nat) : Prop := ∃ sA sc, SearchParts w base b p s kb kc sA sc
/-- Its blocks lie in G. -/
def SearchIn (w : World) (base b p : Nat) (s : Sr) (kb kc : Nat) (G : Nat → Prop) : Prop := ∃ sA sc, SearchParts w base b p s kb kc sA sc ∧ G b ∧ G kb ∧ ∀ g, (Value.slice sA s.st.length sc).ownBlock = some g → G g
section
variable {w w' : World} {base b p : Nat} {s : Sr} {kb kc : Nat} {sA : Option Addr} {sc : Nat}
theorem SearchParts.below (h : SearchParts w base b p s kb kc sA sc) (hb : Below w.heap.size w w') : SearchParts w' base b p s kb kc sA sc :=
  ⟨h.blk.keep (hb.block _ h.blk.lt), h.kn.keep (hb.block _ h.kn.lt), own_below h.st hb, h.lo⟩
theorem SearchIs.below (h : SearchIs w base b p s kb kc) (hb : Below w.heap.size w w') : SearchIs w' base b p s kb kc := by
  obtain ⟨a, c, h⟩ := h
  exact ⟨a, c, h.below hb⟩
theorem SearchIn.is {G : Nat → Prop} (h : SearchIn w base b p s kb kc G) : SearchIs w base b p s kb kc := by
  obtain ⟨a, c, h, _⟩ := h
  exact ⟨a, c, h⟩
theorem SearchIn.below {G : Nat → Prop} (h : SearchIn w base b p s kb kc G) (hb : Below w.heap.size w w') : SearchIn w' base b p s kb kc G := by
  obtain ⟨a, c, h, r⟩ := h
  exact ⟨a, c, h.below hb, r⟩
theorem SearchIs.in_ (h : SearchIs w base b p s kb kc) : SearchIn w base b p s kb kc (fun k => base ≤ k ∧ k < w.heap.size) := by
  obtain ⟨a, c, h⟩ := h
  exact ⟨a, c, h, ⟨h.lo.1, h.blk.lt⟩, ⟨h.lo.2, h.kn.lt⟩, fun g hg => h.st.lt g hg⟩
theorem SearchParts.cell0 (h : SearchParts w base b p s kb kc sA sc) : w.cell? ⟨b, 0, none⟩ = some (.pointer (some ⟨p, 0, none⟩)) := h.blk.cell 0
theorem SearchParts.cell1 (h : SearchParts w base b p s kb kc sA sc) : w.cell? ⟨b, 1, none⟩ = some (.slice (some ⟨kb, 0, none⟩) s.kn.length kc) := h.blk.cell 1
theorem SearchParts.cell2 (h : SearchParts w base b p s kb kc sA sc) : w.cell? ⟨b, 2, none⟩ = some (.slice sA s.st.length sc) := h.blk.cell 2
theorem SearchParts.mark (h : SearchParts w base b p s kb kc sA sc) {n : Nat} (hn : n < s.kn.length) : w.cell? ⟨kb, n, none⟩ = some (.bool (at_ s.kn n)) := by
  rw [h.kn.cell, List.getElem?_toArray, bls_get hn]
theorem SearchParts.size (h : SearchParts w base b p s kb kc sA sc) : base ≤ w.heap.size := by
  have := h.lo.1
  have := h.blk.lt
  omega
end

theorem learn_in (b p n : Nat) (h o : Int) (s : Sr) (kb kc : Nat) (base : Nat) (w : World) (G : Nat → Prop) (hS : SearchIn w base b p s kb kc G) (hn : n < s.kn.length) (hst : s.st.length ≤ 10000) (hkl : s.kn.length ≤ 10000) :
    Calls Tryd.prog 32 #[.pointer (some ⟨b, 0, none⟩), .int .i64 n, .int .i64 h, .int .i64 o] w fun e w' => e = .returned (.tuple #[]) ∧ SearchIn w' base b p (learnS s n h o) kb kc (fun k => G k ∨ w.heap.size ≤ k) ∧ Fr G w w' := by
  obtain ⟨sA, sc, hS, hG⟩ := hS
  have HG := Lib.hid hG; clear hG
  have c0 := hS.cell0
  have c1 := hS.cell1
  have c2 := hS.cell2
  have cm := hS.mark hn
  by_cases hk : at_ s.kn n = true
  · have e1 : learnS s n h o = s := by unfold learnS; rw [if_pos hk]
    rw [e1]
    rw [hk] at cm
    have HS := Lib.hid hS; clear hS e1 hk
    go_enter Tryd.func32, Tryd.ntmps32
    go_wp2_with fail
    refine bodyPost_end (results_none rfl _ _ _) rfl ?_
    exact ⟨rfl, ⟨sA, sc, HS.out, .inl HG.out.1, .inl HG.out.2.1, fun g hg => .inl (HG.out.2.2 g hg)⟩, Fr.refl _ _⟩
  · have hk' : at_ s.kn n = false := by simpa using hk
    have e1 : learnS s n h o = ⟨s.kn.set n true, s.st ++ [⟨n, h, o⟩]⟩ := by unfold learnS; rw [if_neg hk]
    rw [hk'] at cm
    have z1 := hS.kn.frozen n
    have hne : b ≠ kb := Blk.same hS.blk hS.kn (by decide)
    have r1 : Fr (· = kb) w (w.setCell ⟨kb, n, none⟩ (.bool true)) := Fr.setCell w ⟨kb, n, none⟩ _ rfl
    have blk1 := hS.blk.far (p := ⟨kb, n, none⟩) hne (.bool true)
    have kn1 := hS.kn.set_ n (.bool true)
    have st1 := own_fr hS.st r1 (fun g hg h => own_ne hS.st hS.kn (by decide) g hg h)
    have c2' : (w.setCell ⟨kb, n, none⟩ (.bool true)).cell? ⟨b, 2, none⟩ = some (.slice sA s.st.length sc) := blk1.cell 2
    have hB1 : Below base w (w.setCell ⟨kb, n, none⟩ (.bool true)) := (Below.refl _ _).setCell hS.lo.2 _
    have hfin : ∀ w1, ((w.setCell ⟨kb, n, none⟩ (.bool true)).alloc (.cells (wcells ⟨n, h, o⟩).toArray 40)).grownBy w1 (Value.slice sA s.st.length sc).ownBlock →
        Blk w1 b 53 #[.pointer (some ⟨p, 0, none⟩), .slice (some ⟨kb, 0, none⟩) s.kn.length kc, .slice sA s.st.length sc] ∧ Blk w1 kb 4 ((bls s.kn).toArray.setIfInBounds n (.bool true)) ∧ Fr G w w1 := fun w1 hg => by
      have hF : Fr (fun k => (Value.slice sA s.st.length sc).ownBlock = some k) _ w1 := Fr.of_grown hg (fun k hk => hk)
      refine ⟨(blk1.alloc _).fr hF (fun h => own_ne st1 blk1 (by decide) _ h rfl), (kn1.alloc _).fr hF (fun h => own_ne st1 kn1 (by decide) _ h rfl), ((r1.mono (fun k _ hk => hk ▸ HG.out.2.1)).trans (Fr.alloc _ _ G) (fun _ _ h => h)).trans (hF.mono (fun k _ hk => HG.out.2.2 k hk)) (fun _ _ h => h)⟩
    have HFIN := Lib.hid hfin; clear hfin
    have HW := Lib.hid (And.intro blk1 (And.intro kn1 (And.intro st1 (And.intro hB1 (And.intro hS.size hS.lo)))))
    have HO := Lib.hid (own_below st1 ((Below.refl _ _).alloc (Nat.le_refl _) (.cells (wcells ⟨n, h, o⟩).toArray 40)))
    have hse := sees_new (w.setCell ⟨kb, n, none⟩ (.bool true)) 40 (wcells ⟨n, h, o⟩) 3 1 rfl
    rw [show (w.setCell ⟨kb, n, none⟩ (.bool true)).heap.size = w.heap.size by simp [World.setCell]] at hse
    have HSE := Lib.hid hse; clear hse
    have HE := Lib.hid (And.intro e1 hne)
    clear hS hk e1 blk1 kn1 st1 hB1 r1 hk' hne c2
    have hbase : base ≤ (w.setCell ⟨kb, n, none⟩ (.bool true)).heap.size := by have := HW.out.2.2.2.2.1; simpa [World.setCell] using this
    have hbase2 : base ≤ w.heap.size := HW.out.2.2.2.2.1
    have hsl : ¬ (9223372036854775807 < s.st.length + 1) := by omega
    go_enter Tryd.func32, Tryd.ntmps32
    go_wp2_with (at_builtin; refine wpList_app rfl (.tmp 26) (.tmp 31) 36 rfl base 40 _ 3 24 Tryd.underlying36 info_why rfl (by decide) (.slice sA s.st.length sc) s.st.length (wcs s.st) rfl HO.out _ 1 _ (wcells ⟨n, h, o⟩) rfl HSE.out (by simp [wcells, Value.oneCell']) (by unfold maxLen; omega) (by omega) (by simp; omega) ?_; intro v' w1 hown1 hgr1 hat1 hnil1; obtain ⟨yA, yc, rfl⟩ := own_shape hown1; have HF := Lib.hid (And.intro (HFIN.out w1 hgr1) hown1); have HAT := Lib.hid hat1; have c4 := HF.out.1.1.cell 2; have z4 := HF.out.1.1.frozen 2; clear hown1 hgr1 hat1 hnil1)
    refine bodyPost_end (results_none rfl _ _ _) rfl ?_
    obtain ⟨⟨f1, f2, f3⟩, f4⟩ := HF.out
    obtain ⟨e1, hne⟩ := HE.out
    have hlo := HW.out.2.2.2.2.2
    have r2 : Fr (· = b) w1 (w1.setCell ⟨b, 2, none⟩ (.slice yA (s.st.length + 1) yc)) := Fr.setCell w1 ⟨b, 2, none⟩ _ rfl
    refine ⟨rfl, ?_, f3.trans (r2.mono (fun k _ hk => hk ▸ HG.out.1)) (fun _ _ h => h)⟩
    rw [e1]
    refine ⟨yA, yc, ⟨?_, ?_, ?_, hlo⟩, .inl HG.out.1, .inl HG.out.2.1, fun g hg => ?_⟩
    rotate_right 1
    · rcases HAT.out with h | h
      · refine .inl (HG.out.2.2 g (h ▸ ?_))
        simpa using hg
      · have hg' : (Value.slice yA (s.st.length + 1) yc).ownBlock = some g := by simpa using hg
        rw [h] at hg'
        injection hg' with hg'
        refine .inr ?_
        rw [← hg']
        simp [World.setCell]
    · have := f1.set_ 2 (.slice yA (s.st.length + 1) yc)
      simpa using this
    · rw [← bls_set]
      exact f2.far (p := ⟨b, 2, none⟩) (Ne.symm hne) _
    · have h6 := own_fr f4 r2 (fun g hg h => own_ne f4 f1 (by decide) g hg h)
      simpa [wcs_append, wcs_one] using h6
theorem learn_any (b p n : Nat) (h o : Int) (s : Sr) (kb kc : Nat) (base : Nat) (w : World) (hS : SearchIs w base b p s kb kc) (hn : n < s.kn.length) (hst : s.st.length ≤ 10000) (hkl : s.kn.length ≤ 10000) :
    Calls Tryd.prog 32 #[.pointer (some ⟨b, 0, none⟩), .int .i64 n, .int .i64 h, .int .i64 o] w fun e w' => e = .returned (.tuple #[]) ∧ SearchIs w' base b p (learnS s n h o) kb kc ∧ Below base w w' :=
  (learn_in b p n h o s kb kc base w _ hS.in_ hn hst hkl).mono fun e w' hh => ⟨hh.1, hh.2.1.is, hh.2.2.below (by obtain ⟨_, _, h⟩ := hS; exact h.size) (fun _ h => h.1)⟩
end Go.Proofs.YtphhlfochapecaaDoor
