/-
  The handle of errors alone, for seats without the law of chapter 9.
  All faults of a chain.
  Place, Ops; the document's Place.
  SymbolSizes.
-/
import Derived.Test.YtkgaeoeibjoljaaGreatDoorHG
import Derived.Test.YtkgaeoeibjoljaaGreatDoorHE
namespace Go.Proofs.YtkgaeoeibjoljaaGreatDoor
set_option maxRecDepth 4000
open Go.RowKit

theorem Laid.below {w w' : World} (h : Laid w) (hb : Below w.heap.size w w') : Laid w' := by
  have hlt : 1 < w.heap.size := World.block_lt_of_cell? w ⟨1, 0, none⟩ h
  exact (World.cell?_of_block (a := ⟨1, 0, none⟩) (hb.block _ hlt)).trans h
def Tabs (w : World) : Prop := True ∧ Laid w
theorem Tabs.below {w w' : World} (h : Tabs w) (hb : Below w.heap.size w w') : Tabs w' := ⟨h.1, h.2.below hb⟩
end Go.Proofs.YtkgaeoeibjoljaaGreatDoor

namespace Go.Proofs.YtkgaeoeibjoljaaGreatDoor
set_option maxRecDepth 4000
open Go.RowKit

def ChE (w : World) (z : Value) : Value → List Lk → Prop
  | v, [] => v = z
  | v, l :: ls => ∃ p v', v = .iface 110 (.pointer (some ⟨p, 0, none⟩)) ∧ Blk w p 112 #[.string l.op, .int .i64 l.at_, v'] ∧ ChE w z v' ls
theorem ChE.keep {w w' : World} {z : Value} : ∀ {ls : List Lk} {v : Value}, ChE w z v ls → Below w.heap.size w w' → ChE w' z v ls
  | [], _, h, _ => h
  | _ :: _, _, ⟨p, v', h1, h2, h3⟩, hb => ⟨p, v', h1, h2.below hb h2.lt, h3.keep hb⟩
theorem ChE.keepF {w w' : World} {z : Value} {F : Nat → Prop} (hf : Fr F w w') (hF : ∀ k cs, Blk w k 112 cs → ¬ F k) : ∀ {ls : List Lk} {v : Value}, ChE w z v ls → ChE w' z v ls
  | [], _, h => h
  | _ :: _, _, ⟨p, v', h1, h2, h3⟩ => ⟨p, v', h1, h2.keep (hf.block p h2.lt (hF p _ h2)), h3.keepF hf hF⟩
def Ender (z : Value) : Prop := z = .nilIface ∨ ∃ n, z = .iface 62 (.int .i64 n)
theorem ChE.len {w : World} {z z' : Value} (hz : Ender z) (hz' : Ender z') : ∀ {ls ls' : List Lk} {v : Value}, ChE w z v ls → ChE w z' v ls' → ls.length = ls'.length
  | [], [], _, _, _ => rfl
  | [], l :: ls, v, h, ⟨p, v', h1, _, _⟩ => by
    have hv : v = z := h
    rw [hv] at h1
    rcases hz with rfl | ⟨n, rfl⟩
    · cases h1
    · injection h1 with h1; cases h1
  | l :: ls, [], v, ⟨p, v', h1, _, _⟩, h => by
    have hv : v = z' := h
    rw [hv] at h1
    rcases hz' with rfl | ⟨n, rfl⟩
    · cases h1
    · injection h1 with h1; cases h1
  | l :: ls, l' :: ls', v, ⟨p, v', h1, h2, h3⟩, ⟨q, u', k1, k2, k3⟩ => by
    rw [h1] at k1
    injection k1 with _ k1
    injection k1 with k1
    injection k1 with k1
    injection k1 with k1
    subst k1
    have := h2.symm.trans k2
    simp at this
    obtain ⟨-, -, e3⟩ := this
    subst e3
    rw [List.length_cons, List.length_cons, ChE.len hz hz' h3 k3]
open Classical in
noncomputable def cheLen (w : World) (v : Value) : Nat := if h : ∃ ls z, Ender z ∧ ChE w z v ls then h.choose.length else 0
theorem cheLen_eq {w : World} {z v : Value} {ls : List Lk} (hz : Ender z) (h : ChE w z v ls) : cheLen w v = ls.length := by
  have hh : ∃ ls z, Ender z ∧ ChE w z v ls := ⟨ls, z, hz, h⟩
  unfold cheLen
  rw [dif_pos hh]
  obtain ⟨z', hz', h2⟩ := hh.choose_spec
  exact (ChE.len hz' hz h2 h)

def fps (ps : List Nat) : List Value := ps.map fun p => .pointer (some ⟨p, 0, none⟩)
def FPs (w : World) (ps : List Nat) (ls : List Lk) : Prop := ps.length = ls.length ∧ ∀ (i : Nat) (p : Nat) (y : Lk), ps[i]? = some p → ls[i]? = some y → ∃ v, Blk w p 112 #[.string y.op, .int .i64 y.at_, v]
theorem FPs.keepF {w w' : World} {F : Nat → Prop} {ps : List Nat} {ls : List Lk} (h : FPs w ps ls) (hf : Fr F w w') (hF : ∀ k cs, Blk w k 112 cs → ¬ F k) : FPs w' ps ls :=
  ⟨h.1, fun i p y hp hy => by
    obtain ⟨v, hb⟩ := h.2 i p y hp hy
    exact ⟨v, hb.keep (hf.block p hb.lt (hF p _ hb))⟩⟩
theorem FPs.below {w w' : World} {ps : List Nat} {ls : List Lk} (h : FPs w ps ls) (hb : Below w.heap.size w w') : FPs w' ps ls :=
  ⟨h.1, fun i p y hp hy => by
    obtain ⟨v, hbk⟩ := h.2 i p y hp hy
    exact ⟨v, hbk.below hb hbk.lt⟩⟩
theorem info_pFault : (Tryz.prog.info? 110).map (fun i => (i.zero, i.size, i.bytes)) = some (some (.pointer none), 1, 8) := by kernel_rfl

structure FAt (w wr : World) (z v out : Value) (ls done rest : List Lk) (ps : List Nat) : Prop where
  ch : ChE wr z v rest
  split : ls = done ++ rest
  row : wr.ownsRow w.heap.size 110 1 out ps.length (fps ps)
  fp : FPs wr ps done
  bel : Below w.heap.size w wr

set_option maxHeartbeats 2000000 in
theorem faults_any (z v : Value) (ls : List Lk) (w : World) (hz : Ender z) (hc : ChE w z v ls) (hT : Tabs w) (hl : ls.length ≤ 1000) :
    Calls Tryz.prog 60 #[v] w fun e w' => ∃ out ps, e = .returned out ∧ w'.ownsRow w.heap.size 110 1 out ps.length (fps ps) ∧ FPs w' ps ls ∧ Below w.heap.size w w' := by
  have H0 := Lib.hid (show FAt w w z v (.slice none 0 0) ls [] ls [] from ⟨hc, rfl, World.ownsRow_nil _ _ _ _, ⟨rfl, fun i p y hp => by simp at hp⟩, Below.refl _ _⟩)
  have HZ := Lib.hid hz
  have HT := Lib.hid hT
  have HL := Lib.hid hl
  clear hc hz hT hl
  go_enter Tryz.func60, Tryz.ntmps60
  go_wp2_with fail
  go_loopw [0, 3] (fun v out wr => ∃ done rest ps, Hid (FAt w wr z v out ls done rest ps)) (fun v _ wr => cheLen wr v)
  case atStart => exact ⟨[], ls, [], H0⟩
  case round =>
    obtain ⟨done, rest, ps, hr⟩ := hrel
    have hTr := HT.out.below hr.out.bel
    have hb3 : Below wr.heap.size wr (wr.alloc (.cells #[.pointer none] 110)) := (Below.refl _ _).alloc (Nat.le_refl _) _
    have hn3 := Blk.new wr 110 #[.pointer none]
    match rest, hr with
    | [], hr =>
      have hv : u0 = z := hr.out.ch
      subst hv
      have HRR := Lib.hid hr.out
      have HB3 := Lib.hid hb3
      rcases HZ.out with rfl | ⟨n, rfl⟩
      · have HA := Lib.hid (as_nil)
        clear hr hb3 hn3 hTr
        go_wp2_with fail
        refine (HA.out _ _).mono ?_
        rintro r w4 ⟨rfl, rfl⟩
        go_wp2_with fail
        go_ret
        have hls : ls = done := by rw [HRR.out.split]; simp
        exact ⟨_, ps, rfl, own_below HRR.out.row HB3.out, by rw [hls]; exact HRR.out.fp.below HB3.out, HRR.out.bel.trans (HB3.out.mono HRR.out.bel.size)⟩
      · have HA := Lib.hid (asP_miss n ⟨wr.heap.size, 0, none⟩ (wr.alloc (.cells #[.pointer none] 110)) (hTr.below hb3).2 hn3.lt)
        clear hr hb3 hn3 hTr
        go_wp2_with fail
        refine HA.out.mono ?_
        rintro r w4 ⟨rfl, hb4⟩
        have HB4 := Lib.hid (HB3.out.trans (hb4.mono HB3.out.size))
        go_wp2_with fail
        go_ret
        have hls : ls = done := by rw [HRR.out.split]; simp
        exact ⟨_, ps, rfl, own_below HRR.out.row HB4.out, by rw [hls]; exact HRR.out.fp.below HB4.out, HRR.out.bel.trans (HB4.out.mono HRR.out.bel.size)⟩
    | y :: rest, hr =>
      obtain ⟨p, v', rfl, hbp, hcv⟩ := hr.out.ch
      have HAS := Lib.hid (asP_hit ⟨p, 0, none⟩ ⟨wr.heap.size, 0, none⟩ _ (wr.alloc (.cells #[.pointer none] 110)) (hTr.below hb3).2 (hn3.cell 0) (hn3.frozen 0))
      have hlen := cheLen_eq HZ.out hcv
      have hlen2 : cheLen wr (.iface 110 (.pointer (some ⟨p, 0, none⟩))) = rest.length + 1 := cheLen_eq (ls := y :: rest) HZ.out ⟨p, v', rfl, hbp, hcv⟩
      have hpl : ps.length ≤ 1000 := by
        have h1 := hr.out.fp.1
        have h2 := congrArg List.length hr.out.split
        have h3 := HL.out
        simp at h2
        omega
      have HRR := Lib.hid hr.out
      have HP := Lib.hid (And.intro hbp (And.intro hcv (And.intro hlen2 hlen)))
      have HB3 := Lib.hid (And.intro hb3 hn3)
      clear hr hbp hcv hlen hlen2 hb3 hn3 hTr
      go_wp2_with fail
      refine HAS.out.mono ?_
      rintro r w4 ⟨rfl, wA, hA, rfl⟩
      have hbA : Below wr.heap.size wr wA := HB3.out.1.trans (hA.mono HB3.out.1.size)
      have hb4 : Below wr.heap.size wr (wA.setCell ⟨wr.heap.size, 0, none⟩ (.pointer (some ⟨p, 0, none⟩))) := hbA.trans ((Fr.setCell (F := (· = wr.heap.size)) _ _ _ rfl).below hbA.size (fun k hk => by omega))
      have c0 : (wA.setCell ⟨wr.heap.size, 0, none⟩ (.pointer (some ⟨p, 0, none⟩))).cell? ⟨wr.heap.size, 0, none⟩ = some (.pointer (some ⟨p, 0, none⟩)) := ((HB3.out.2.below hA HB3.out.2.lt).set_ 0 (.pointer (some ⟨p, 0, none⟩))).cell 0
      have HB4 := Lib.hid hb4
      generalize wA.setCell ⟨wr.heap.size, 0, none⟩ (.pointer (some ⟨p, 0, none⟩)) = w4 at *
      clear hA hbA hb4 HB3 HAS
      obtain ⟨A1, c1, rfl⟩ := own_shape HRR.out.row
      have HROW := Lib.hid (own_below HRR.out.row HB4.out)
      have HB5 := Lib.hid (HRR.out.bel.trans (HB4.out.mono HRR.out.bel.size))
      have hz4 := HB5.out.size
      have c2 : w4.cell? ⟨p, 2, none⟩ = some v' := (HP.out.1.below HB4.out HP.out.1.lt).cell 2
      have hw4 : wr.heap.size < w4.heap.size := World.block_lt_of_cell? _ _ c0
      have hpw : p < w4.heap.size := World.block_lt_of_cell? _ ⟨p, 2, none⟩ c2
      have hnw : (Value.slice A1 ps.length c1).ownBlock ≠ some wr.heap.size := fun e => by have := (HRR.out.row.lt _ e).2; omega
      have hnp : (Value.slice A1 ps.length c1).ownBlock ≠ some p := fun e => own_ne HROW.out (HP.out.1.below HB4.out HP.out.1.lt) (by decide) p e rfl
      have HNW := Lib.hid (And.intro hnw hnp)
      clear hnw hnp
      go_wp2_with (at_builtin; refine wpList_app rfl (.tmp 14) (.tmp 16) _ rfl w.heap.size 110 _ 1 8 Tryz.underlying108 info_pFault rfl (by decide) _ ps.length _ rfl (own_below HROW.out ((Below.refl _ _).alloc (Nat.le_refl _) _)) (some ⟨w4.heap.size, 0, none⟩) 1 _ [.pointer (some ⟨p, 0, none⟩)] rfl (sees_new w4 _ [.pointer (some ⟨p, 0, none⟩)] 1 1 rfl) (by simp [Value.oneCell']) (by unfold maxLen; omega) (by omega) (by simp; omega) ?_; intro v1 w6 hown1 hgr1 hat1 hnil1; have hgr1' : (w4.alloc (.cells #[.pointer (some ⟨p, 0, none⟩)] 110)).grownBy w6 (Value.slice A1 ps.length c1).ownBlock := hgr1; have HG1 := Lib.hid (And.intro hown1 hgr1'); have e0 : w6.cell? ⟨wr.heap.size, 0, none⟩ = some (.pointer (some ⟨p, 0, none⟩)) := (World.cell?_of_block (a := ⟨wr.heap.size, 0, none⟩) (hgr1'.block wr.heap.size (by simp; omega) (fun e => HNW.out.1 e.symm))).trans ((World.cell?_alloc_lt _ _ _ hw4).trans c0); have e2 : w6.cell? ⟨p, 2, none⟩ = some v' := (World.cell?_of_block (a := ⟨p, 2, none⟩) (hgr1'.block p (by simp; omega) (fun e => HNW.out.2 e.symm))).trans ((World.cell?_alloc_lt _ _ _ hpw).trans c2); clear hown1 hgr1 hgr1' hat1 hnil1)
      have hal : Below w4.heap.size w4 (w4.alloc (.cells #[.pointer (some ⟨p, 0, none⟩)] 110)) := (Below.refl _ _).alloc (Nat.le_refl _) _
      have hrow5 := own_below HROW.out hal
      have hF : ∀ k cs, Blk (w4.alloc (.cells #[.pointer (some ⟨p, 0, none⟩)] 110)) k 112 cs → ¬ (Value.slice A1 ps.length c1).ownBlock = some k := fun k cs hb e => own_ne hrow5 hb (by decide) k e rfl
      have hfr : Fr (fun k => (Value.slice A1 ps.length c1).ownBlock = some k) (w4.alloc (.cells #[.pointer (some ⟨p, 0, none⟩)] 110)) w6 := Fr.of_grown HG1.out.2 (fun k h => h)
      have b45 := HB4.out.trans (hal.mono HB4.out.size)
      have hlen45 : ChE w6 z v' rest := (HP.out.2.1.keep b45).keepF hfr hF
      have hnew : FAt w w6 z v' v1 ls (done ++ [y]) rest (ps ++ [p]) := by
        refine ⟨hlen45, by rw [HRR.out.split]; simp, ?_, ?_, ?_⟩
        · rw [List.length_append]
          have := HG1.out.1
          unfold fps at this ⊢
          rw [List.map_append]
          exact this
        · have h1 := (HRR.out.fp.below b45).keepF hfr hF
          have h2 : Blk w6 p 112 #[.string y.op, .int .i64 y.at_, v'] := ((HP.out.1.below b45 HP.out.1.lt)).keep (hfr.block p (Nat.lt_of_lt_of_le HP.out.1.lt b45.size) (hF p _ (HP.out.1.below b45 HP.out.1.lt)))
          refine ⟨by rw [List.length_append, List.length_append, h1.1]; rfl, fun i q x hq hx => ?_⟩
          rcases Nat.lt_or_ge i ps.length with hi | hi
          · rw [List.getElem?_append_left hi] at hq
            rw [List.getElem?_append_left (by rw [← h1.1]; exact hi)] at hx
            exact h1.2 i q x hq hx
          · rw [List.getElem?_append_right hi] at hq
            rw [List.getElem?_append_right (by rw [← h1.1]; exact hi), ← h1.1] at hx
            have hi0 : i - ps.length = 0 := by
              have := (List.getElem?_eq_some_iff.1 hq).1
              simp at this
              omega
            rw [hi0] at hq hx
            simp at hq hx
            subst hq hx
            exact ⟨_, h2⟩
        · exact (HB5.out.trans (hal.mono HB5.out.size)).grown HG1.out.2 (by simp; omega) (fun k hk => (HROW.out.lt k hk).1)
      have hl6 := cheLen_eq HZ.out hlen45
      have HNEW := Lib.hid (And.intro hnew hl6)
      clear hnew hlen45 hfr hF hrow5 hal b45 e0 e2 c0 c2 hl6
      exact ⟨⟨_, _, _, Lib.hid HNEW.out.1⟩, by rw [HNEW.out.2, HP.out.2.2.1]; omega⟩
end Go.Proofs.YtkgaeoeibjoljaaGreatDoor

namespace Go.Proofs.YtkgaeoeibjoljaaGreatDoor
set_option maxRecDepth 4000
open Go.RowKit

def plc (op : ByteArray) : List Lk → Int × Bool
  | [] => (0, false)
  | y :: ls => if (y.op.toList == op.toList) = true then (y.at_, true) else plc op ls
theorem plc_hit {op : ByteArray} : ∀ {ls : List Lk} {j : Nat} {y : Lk}, (∀ i x, i < j → ls[i]? = some x → (x.op.toList == op.toList) = false) → ls[j]? = some y → (y.op.toList == op.toList) = true → plc op ls = (y.at_, true)
  | [], j, y, _, h, _ => by simp at h
  | x :: ls, 0, y, _, h, he => by
    injection h with h; subst h
    unfold plc
    rw [if_pos he]
  | x :: ls, j + 1, y, hno, h, he => by
    unfold plc
    rw [if_neg (by rw [hno 0 x (by omega) rfl]; decide)]
    exact plc_hit (ls := ls) (j := j) (fun i z hi hz => hno (i + 1) z (by omega) (by simpa using hz)) (by simpa using h) he
theorem plc_miss {op : ByteArray} : ∀ {ls : List Lk}, (∀ (i : Nat) (x : Lk), ls[i]? = some x → (x.op.toList == op.toList) = false) → plc op ls = (0, false)
  | [], _ => rfl
  | x :: ls, hno => by
    unfold plc
    rw [if_neg (by rw [hno 0 x rfl]; decide)]
    exact plc_miss (ls := ls) (fun i z hz => hno (i + 1) z (by simpa using hz))

theorem fps_at {w : World} {base : Nat} {out : Value} {ps : List Nat} (h : w.ownsRow base 110 1 out ps.length (fps ps)) {j : Nat} {p : Nat} (hj : ps[j]? = some p) :
    ∃ A c g o, out = .slice A ps.length c ∧ A = some ⟨g, o, none⟩ ∧ w.cell? ⟨g, o + j, none⟩ = some (.pointer (some ⟨p, 0, none⟩)) := by
  obtain ⟨A, c, rfl⟩ := own_shape h
  obtain ⟨g, o, e, hc⟩ := (Sees.of_own h).2 (by have := (List.getElem?_eq_some_iff.1 hj).1; omega)
  exact ⟨A, c, g, o, rfl, e, hc j _ (by unfold fps; rw [List.getElem?_map, hj]; rfl)⟩

set_option maxHeartbeats 1000000 in
theorem place_any (z v : Value) (ls : List Lk) (op : ByteArray) (w : World) (hz : Ender z) (hc : ChE w z v ls) (hT : Tabs w) (hl : ls.length ≤ 1000) :
    Calls Tryz.prog 28 #[v, .string op] w fun e w' => e = .returned (.tuple #[.int .i64 (plc op ls).1, .bool (plc op ls).2]) ∧ Below w.heap.size w w' := by
  have HF := Lib.hid (faults_any z v ls w hz hc hT hl)
  have HL := Lib.hid hl
  have HPH := Lib.hid (fun j y => @plc_hit op ls j y)
  have HPM := Lib.hid (@plc_miss op ls)
  generalize plc op ls = R at *
  obtain ⟨r1, r2⟩ := R
  clear hz hc hT hl
  go_enter Tryz.func28, Tryz.ntmps28
  go_wp2_with fail
  refine HF.out.mono ?_
  rintro e w1 ⟨out, ps, rfl, ho, hp, hb⟩
  obtain ⟨A, c, rfl⟩ := own_shape ho
  have hpl := hp.1
  have HO := Lib.hid (And.intro ho (And.intro hp (And.intro hb hpl)))
  have hps : ps.length ≤ 1000 := by have := HL.out; omega
  clear ho hp hb hpl HF
  go_wp2_with fail
  go_loopw [11] (fun i wr => ∃ j : Nat, i = .int .i64 j ∧ j ≤ ps.length ∧ Hid ((∀ i x, i < j → ls[i]? = some x → (x.op.toList == op.toList) = false) ∧ Below w1.heap.size w1 wr)) (fun i _ => ps.length - (intOf i).toNat)
  case atStart => exact ⟨0, rfl, Nat.zero_le _, Lib.hid ⟨fun i x hi => by omega, Below.refl _ _⟩⟩
  case round =>
    obtain ⟨j, rfl, hj, hr⟩ := hrel
    by_cases hlt : j < ps.length
    · have hpj : ps[j]? = some (ps[j]'hlt) := List.getElem?_eq_getElem hlt
      generalize ps[j] = p at hpj
      have hlj : j < ls.length := by rw [← HO.out.2.2.2]; exact hlt
      have hyj : ls[j]? = some (ls[j]'hlj) := List.getElem?_eq_getElem hlj
      generalize ls[j] = y at hyj
      obtain ⟨A', c', g, o, e1, e2, hc0⟩ := fps_at (own_below HO.out.1 hr.out.2) hpj
      injection e1 with e1 _ e3
      subst e1 e3
      subst e2
      obtain ⟨v', hbk⟩ := (HO.out.2.1.below hr.out.2).2 j p y hpj hyj
      have d0 : wr.cell? ⟨p, 0, none⟩ = some (.string y.op) := hbk.cell 0
      have d1 : wr.cell? ⟨p, 1, none⟩ = some (.int .i64 y.at_) := hbk.cell 1
      have HY := Lib.hid hyj
      have HR := Lib.hid hr.out
      clear hr hpj hyj hbk hlj
      obtain ⟨yo, ya⟩ := y
      simp only at d0 d1
      cases hq : (yo.toList == op.toList) with
      | true =>
        have hres := HPH.out _ _ HR.out.1 HY.out hq
        injection hres with h1 h2
        subst h1 h2
        go_wp2_with fail
        go_ret2
        exact ⟨rfl, HO.out.2.2.1.trans (HR.out.2.mono HO.out.2.2.1.size)⟩
      | false =>
        have HN := Lib.hid (And.intro (fun i x (hi : i < j + 1) (hx : ls[i]? = some x) => by
          rcases Nat.lt_or_ge i j with h | h
          · exact HR.out.1 i x h hx
          · obtain rfl : i = j := by omega
            rw [HY.out] at hx
            injection hx with hx
            rw [← hx]; exact hq) HR.out.2)
        clear HR
        go_wp2_with fail
        go_roundw
        case rel => exact ⟨j + 1, by go_num, by omega, HN⟩
        case measure => simp [intOf]; omega
    · obtain rfl : j = ps.length := by omega
      have hres := HPM.out (fun i x hx => hr.out.1 i x (by rw [HO.out.2.2.2]; exact (List.getElem?_eq_some_iff.1 hx).1) hx)
      injection hres with h1 h2
      subst h1 h2
      go_wp2_with fail
      go_ret2
      exact ⟨rfl, HO.out.2.2.1.trans (hr.out.2.mono HO.out.2.2.1.size)⟩


end Go.Proofs.YtkgaeoeibjoljaaGreatDoor

namespace Go.Proofs.YtkgaeoeibjoljaaGreatDoor
set_option maxRecDepth 4000
open Go.RowKit

theorem rdisk_any {w : World} {base : Nat} {S : St} {a : Loc} {F K L P : Nat → Prop} {T : Nat → Nat} (h : Rn w base S a F K L P T) : Calls Tryz.prog 21 #[.pointer (some ⟨a.r, 0, none⟩)] w fun e w' => e = .returned (.pointer (some ⟨a.b, 0, none⟩)) ∧ w = w' := by
  have c0 : w.cell? ⟨a.r, 0, none⟩ = some (.pointer (some ⟨a.b, 0, none⟩)) := h.top.cell 0
  clear h
  go_enter Tryz.func21, Tryz.ntmps21
  go_wp2_with fail
  go_ret
  exact ⟨rfl, rfl⟩
def FitsZ (x y z : Int) : Prop := (1 ≤ x ∧ x ≤ 8) ∧ (1 ≤ y ∧ y ≤ 8) ∧ (3 ≤ z ∧ z ≤ 16)
instance (x y z : Int) : Decidable (FitsZ x y z) := by unfold FitsZ; infer_instance
theorem fits_yes (x y z : Int) (w : World) (h : FitsZ x y z) : Calls Tryz.prog 27 #[.int .i64 x, .int .i64 y, .int .i64 z] w fun e w' => e = .returned (.bool true) ∧ w = w' := by
  obtain ⟨⟨a1, a2⟩, ⟨b1, b2⟩, c1, c2⟩ := h
  go_enter Tryz.func27, Tryz.ntmps27
  go_wp2_with fail
  go_ret
  exact ⟨rfl, rfl⟩
theorem fits_no (x y z : Int) (w : World) (h : ¬ FitsZ x y z) : Calls Tryz.prog 27 #[.int .i64 x, .int .i64 y, .int .i64 z] w fun e w' => e = .returned (.bool false) ∧ w = w' := by
  unfold FitsZ at h
  by_cases a1 : 1 ≤ x
  · by_cases a2 : x ≤ 8
    · by_cases b1 : 1 ≤ y
      · by_cases b2 : y ≤ 8
        · by_cases c1 : 3 ≤ z
          · have c2 : ¬ z ≤ 16 := fun h2 => h ⟨⟨a1, a2⟩, ⟨b1, b2⟩, c1, h2⟩
            clear h
            go_enter Tryz.func27, Tryz.ntmps27
            go_wp2_with fail
            go_ret
            exact ⟨rfl, rfl⟩
          · clear h
            go_enter Tryz.func27, Tryz.ntmps27
            go_wp2_with fail
            go_ret
            exact ⟨rfl, rfl⟩
        · clear h
          go_enter Tryz.func27, Tryz.ntmps27
          go_wp2_with fail
          go_ret
          exact ⟨rfl, rfl⟩
      · clear h
        go_enter Tryz.func27, Tryz.ntmps27
        go_wp2_with fail
        go_ret
        exact ⟨rfl, rfl⟩
    · clear h
      go_enter Tryz.func27, Tryz.ntmps27
      go_wp2_with fail
      go_ret
      exact ⟨rfl, rfl⟩
  · clear h
    go_enter Tryz.func27, Tryz.ntmps27
    go_wp2_with fail
    go_ret
    exact ⟨rfl, rfl⟩
def symB : ByteArray := { data := #[115, 121, 109, 98, 111, 108] }
def BadNew (w : World) (e : Ending) (w' : World) : Prop := ∃ g, e = .returned (.tuple #[.pointer none, .iface 110 (.pointer (some ⟨g, 0, none⟩))]) ∧ Blk w' g 112 #[.string symB, .int .i64 0, .iface 62 (.int .i64 2)] ∧ Below w.heap.size w w'
theorem snew_bad (x y z : Int) (w : World) (h : ¬ FitsZ x y z) : Calls Tryz.prog 15 #[.int .i64 x, .int .i64 y, .int .i64 z] w fun e w' => BadNew w e w' := by
  have HW : Hid (Calls Tryz.prog 45 #[.string { data := #[115, 121, 109, 98, 111, 108] }, .int .i64 0, .int .i64 2] w _) := Lib.hid (wrap_no symB 0 2 (by decide) w)
  unfold FitsZ at h
  by_cases a1 : 1 ≤ x
  · by_cases a2 : x ≤ 8
    · by_cases b1 : 1 ≤ y
      · by_cases b2 : y ≤ 8
        · by_cases c1 : 3 ≤ z
          · have c2 : ¬ z ≤ 16 := fun h2 => h ⟨⟨a1, a2⟩, ⟨b1, b2⟩, c1, h2⟩
            clear h
            go_enter Tryz.func15, Tryz.ntmps15
            go_wp2_with fail
            refine HW.out.mono ?_
            rintro e w1 ⟨rfl, hb, hbel⟩
            go_wp2_with fail
            go_ret2
            exact ⟨_, rfl, hb, hbel⟩
          · clear h
            go_enter Tryz.func15, Tryz.ntmps15
            go_wp2_with fail
            refine HW.out.mono ?_
            rintro e w1 ⟨rfl, hb, hbel⟩
            go_wp2_with fail
            go_ret2
            exact ⟨_, rfl, hb, hbel⟩
        · clear h
          go_enter Tryz.func15, Tryz.ntmps15
          go_wp2_with fail
          refine HW.out.mono ?_
          rintro e w1 ⟨rfl, hb, hbel⟩
          go_wp2_with fail
          go_ret2
          exact ⟨_, rfl, hb, hbel⟩
      · clear h
        go_enter Tryz.func15, Tryz.ntmps15
        go_wp2_with fail
        refine HW.out.mono ?_
        rintro e w1 ⟨rfl, hb, hbel⟩
        go_wp2_with fail
        go_ret2
        exact ⟨_, rfl, hb, hbel⟩
    · clear h
      go_enter Tryz.func15, Tryz.ntmps15
      go_wp2_with fail
      refine HW.out.mono ?_
      rintro e w1 ⟨rfl, hb, hbel⟩
      go_wp2_with fail
      go_ret2
      exact ⟨_, rfl, hb, hbel⟩
  · clear h
    go_enter Tryz.func15, Tryz.ntmps15
    go_wp2_with fail
    refine HW.out.mono ?_
    rintro e w1 ⟨rfl, hb, hbel⟩
    go_wp2_with fail
    go_ret2
    exact ⟨_, rfl, hb, hbel⟩
theorem at32_zr (n i m : Nat) : ¬ at32 (zr n) i m := fun h => by
  obtain ⟨h1, h2, -⟩ := h
  unfold mkAt at h1
  rw [zr_drop, zr_take] at h1
  rw [zr_length] at h2
  rw [show min 24 (n - i) = 24 by omega] at h1
  cases h1
theorem seen_new {N : Nat} {x : Int} : ¬ SeenOf (Dk.new N) x := fun h => by
  obtain ⟨m, -, -, i, hi⟩ := seen_idle (D := Dk.new N) rfl h
  exact at32_zr _ _ _ hi
set_option maxHeartbeats 4000000 in
theorem sizes_walk (x y z : Int) (w : World) (hT : TabsS w ∧ Laid w) (hx : (Lit.int .i64 x).wf = true) (hy : (Lit.int .i64 y).wf = true) (hz : (Lit.int .i64 z).wf = true) :
    Calls Tryz.prog 5 #[.int .i64 x, .int .i64 y, .int .i64 z] w fun e w' => e = .returned (.bool true) ∧ Below w.heap.size w w' := by
  have HA := Lib.hid (awake_any w hT.1)
  have HT := Lib.hid hT
  clear hT hx hy hz
  by_cases hf : FitsZ x y z
  · obtain ⟨sl, hsl⟩ : ∃ n : Nat, x = n := ⟨x.toNat, by have := hf.1.1; omega⟩
    obtain ⟨sg, hsg⟩ : ∃ n : Nat, y = n := ⟨y.toNat, by have := hf.2.1.1; omega⟩
    obtain ⟨sz, hsz⟩ : ∃ n : Nat, z = n := ⟨z.toNat, by have := hf.2.2.1; omega⟩
    subst hsl hsg hsz
    have HFY := Lib.hid (fun w => fits_yes (sl : Int) sg sz w hf)
    obtain ⟨⟨a1, a2⟩, ⟨b1, b2⟩, c1, c2⟩ := hf
    have HN := Lib.hid (fun w hT => new_r sl sg sz (by omega) (by omega) (by omega) w hT hT.free)
    have hPl : sg * sz ≤ 8 * 16 := Nat.mul_le_mul (by omega) (by omega)
    obtain ⟨N, hN⟩ : ∃ N, N = 2 * sl + sg * sz := ⟨_, rfl⟩
    obtain ⟨M, hM⟩ : ∃ M, M = 2 * sl := ⟨_, rfl⟩
    obtain ⟨Pz, hPz⟩ : ∃ P, P = sg * sz := ⟨_, rfl⟩
    have hi1 : IntKind.i64.wrap (2 * (sl : Int)) = (M : Int) := by rw [hM]; exact (IntWalk.i64_in _ (by omega)).trans (by omega)
    have hi2 : IntKind.i64.wrap ((sg : Int) * (sz : Int)) = (Pz : Int) := by
      rw [hPz, show (sg : Int) * (sz : Int) = ((sg * sz : Nat) : Int) by simp]
      exact IntWalk.i64_in _ (by omega)
    have hi3 : IntKind.i64.wrap ((M : Int) + (Pz : Int)) = (N : Int) := by rw [hM, hPz, hN]; exact (IntWalk.i64_in _ (by omega)).trans (by omega)
    have HNN := Lib.hid (And.intro hN (And.intro (show 1 ≤ N ∧ N ≤ 200 by omega) (And.intro hM hPz)))
    clear hPl hN hM hPz
    go_enter Tryz.func5, Tryz.ntmps5
    go_wp2_with fail
    refine HA.out.mono ?_
    rintro e w1 ⟨rfl, hb1⟩
    have hT1 := HT.out.1.below (Nat.le_refl _) hb1
    have HN1 := Lib.hid (HN.out w1 hT1)
    have H1 := Lib.hid (And.intro hb1 hT1)
    clear hb1 hT1 HA HN
    go_wp2_with fail
    refine HN1.out.mono ?_
    rintro e w2 ⟨⟨a, F, K, L, P, T, rfl, hR⟩, hb2⟩
    have H2 := Lib.hid (And.intro hR (H1.out.1.trans (hb2.mono H1.out.1.size)))
    have HT2 := Lib.hid ((H1.out.2.at_.below hb2).here)
    clear hR hb2 HN1
    go_wp2_with fail
    refine (HFY.out _).mono ?_
    rintro e w3 ⟨rfl, rfl⟩
    have HD := Lib.hid (rdisk_any H2.out.1)
    have HDZ := Lib.hid (dsize_any a.b F _ w2 H2.out.1.disk (show (Dk.new (2 * sl + sg * sz)).Ok from by rw [← HNN.out.1]; exact dknew_ok HNN.out.2.1.1 (by have := HNN.out.2.1.2; omega)))
    have hdz : (Dk.new (2 * sl + sg * sz)).size = N := by
      unfold Dk.size
      rw [zsafe, zr_length, ← HNN.out.1]
      omega
    rw [show (St.fresh sl sg sz).D = Dk.new (2 * sl + sg * sz) from rfl, hdz] at HDZ
    have HEP := Lib.hid (epochs_any H2.out.1)
    rw [show (St.fresh sl sg sz).eps.length = 0 from rfl] at HEP
    have HSE := Lib.hid (seen_any a.r a.b F (Dk.new (2 * sl + sg * sz)) w2 (H2.out.1.top.cell 0) H2.out.1.disk (by rw [← HNN.out.1]; exact dknew_ok HNN.out.2.1.1 (by have := HNN.out.2.1.2; omega)) (by rw [hdz]; have := HNN.out.2.1.2; omega) (Nat.zero_le _) HT2.out.mx)
    clear hdz HFY
    go_wp2_with fail
    refine HD.out.mono ?_
    rintro e w3 ⟨rfl, rfl⟩
    go_wp2_with fail
    refine HDZ.out.mono ?_
    rintro e w3 ⟨rfl, rfl⟩
    go_wp2_with fail
    refine HEP.out.mono ?_
    rintro e w3 ⟨rfl, rfl⟩
    go_wp2_with fail
    refine HSE.out.mono ?_
    rintro e w3 ⟨v, ss, rfl, hown, -, hin, hb3⟩
    have hss : ss = [] := List.eq_nil_iff_forall_not_mem.2 (fun q hq => seen_new ((hin q).1 hq))
    subst hss
    obtain ⟨A, c, rfl⟩ := own_shape hown
    have H3 := Lib.hid (H2.out.2.trans (hb3.mono H2.out.2.size))
    clear hown hin hb3
    go_wp2_with fail
    go_ret
    exact ⟨rfl, H3.out⟩
  · have HFN := Lib.hid (fun w => fits_no x y z w hf)
    have HN := Lib.hid (fun w => snew_bad x y z w hf)
    clear hf
    go_enter Tryz.func5, Tryz.ntmps5
    go_wp2_with fail
    refine HA.out.mono ?_
    rintro e w1 ⟨rfl, hb1⟩
    have H1 := Lib.hid (And.intro hb1 (HT.out.2.below hb1))
    clear hb1 HA
    go_wp2_with fail
    refine (HN.out _).mono ?_
    rintro e w2 ⟨g, rfl, hbk, hb2⟩
    have hL2 := H1.out.2.below hb2
    have HP := Lib.hid (place_any (.iface 62 (.int .i64 2)) (.iface 110 (.pointer (some ⟨g, 0, none⟩))) [⟨symB, 0⟩] symB w2 (.inr ⟨2, rfl⟩) ⟨g, _, rfl, hbk, rfl⟩ ⟨trivial, hL2⟩ (by simp))
    have hplc : plc symB [⟨symB, 0⟩] = (0, true) := by unfold plc; rw [if_pos (by decide +kernel)]
    rw [hplc] at HP
    have H2 := Lib.hid (And.intro hbk (And.intro (H1.out.1.trans (hb2.mono H1.out.1.size)) hL2))
    clear hbk hb2 hL2 hplc HN
    go_wp2_with fail
    refine (HFN.out _).mono ?_
    rintro e w3 ⟨rfl, rfl⟩
    go_wp2_with fail
    have HP' : Hid (Calls Tryz.prog 28 #[.iface 110 (.pointer (some ⟨g, 0, none⟩)), .string { data := #[115, 121, 109, 98, 111, 108] }] w2 _) := HP
    refine HP'.out.mono ?_
    rintro e w3 ⟨rfl, hb3⟩
    have hbk3 := H2.out.1.below hb3 H2.out.1.lt
    have HC := Lib.hid (code_any (.iface 110 (.pointer (some ⟨g, 0, none⟩))) [⟨symB, 0⟩] 2 w3 (H2.out.2.2.below hb3) ⟨g, _, rfl, hbk3, rfl⟩)
    have H3 := Lib.hid (H2.out.2.1.trans (hb3.mono H2.out.2.1.size))
    clear hbk3 hb3 HP HP' HFN
    go_wp2_with fail
    refine HC.out.mono ?_
    rintro e w4 ⟨rfl, hb4⟩
    have H4 := Lib.hid (H3.out.trans (hb4.mono H3.out.size))
    clear hb4 HC
    go_wp2_with fail
    go_ret
    exact ⟨rfl, H4.out⟩
end Go.Proofs.YtkgaeoeibjoljaaGreatDoor
