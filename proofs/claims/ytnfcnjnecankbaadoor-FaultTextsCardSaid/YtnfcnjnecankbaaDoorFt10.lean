/-
  All faults of a chain.
-/
import Derived.Test.YtnfcnjnecankbaaDoorFt9
namespace Go.Proofs.YtnfcnjnecankbaaDoor
set_option maxRecDepth 4000
open Go.RowKit

/-- Faults around anything that is none. -/
def ChE (w : World) (z : Value) : Value → List Lk → Prop
  | v, [] => v = z
  | v, l :: ls => ∃ p v', v = .iface 29 (.pointer (some ⟨p, 0, none⟩)) ∧ Blk w p 33 #[.string l.op, .int .i64 l.at_, v'] ∧ ChE w z v' ls
theorem Chn.toE {w : World} : ∀ {ls : List Lk} {v : Value} {e : Int}, Chn w v ls e → ChE w (.iface 28 (.int .i64 e)) v ls
  | [], _, _, h => h
  | _ :: _, _, _, ⟨p, v', h1, h2, h3⟩ => ⟨p, v', h1, h2, h3.toE⟩
theorem ChE.keep {w w' : World} {z : Value} : ∀ {ls : List Lk} {v : Value}, ChE w z v ls → Below w.heap.size w w' → ChE w' z v ls
  | [], _, h, _ => h
  | _ :: _, _, ⟨p, v', h1, h2, h3⟩, hb => ⟨p, v', h1, h2.below hb h2.lt, h3.keep hb⟩
theorem ChE.keepF {w w' : World} {z : Value} {F : Nat → Prop} (hf : Fr F w w') (hF : ∀ k cs, Blk w k 33 cs → ¬ F k) : ∀ {ls : List Lk} {v : Value}, ChE w z v ls → ChE w' z v ls
  | [], _, h => h
  | _ :: _, _, ⟨p, v', h1, h2, h3⟩ => ⟨p, v', h1, h2.keep (hf.block p h2.lt (hF p _ h2)), h3.keepF hf hF⟩
def Ender (z : Value) : Prop := z = .nilIface ∨ ∃ n, z = .iface 28 (.int .i64 n)
theorem ChE.len {w : World} {z z' : Value} (hz : Ender z) (hz' : Ender z') : ∀ {ls ls' : List Lk} {v : Value}, ChE w z v ls → ChE w z' v ls' → ls.length = ls'.length
  | [], [], _, _, _ => rfl
  | [], l :: ls, v, h, ⟨p, v', h1, _, _⟩ => by
    have hv : v = z := h
    rw [hv] at h1
    rcases hz with rfl | ⟨n, rfl⟩
    · cases h1
    · injection h1 with h1; cases h1
  | l :: ls, [], v, ⟨p, v', h1, _, _⟩, h => by
    have hv : v = z' := h
    rw [hv] at h1
    rcases hz' with rfl | ⟨n, rfl⟩
    · cases h1
    · injection h1 with h1; cases h1
  | l :: ls, l' :: ls', v, ⟨p, v', h1, h2, h3⟩, ⟨q, u', k1, k2, k3⟩ => by
    rw [h1] at k1
    injection k1 with _ k1
    injection k1 with k1
    injection k1 with k1
    injection k1 with k1
    subst k1
    have := h2.symm.trans k2
    simp at this
    obtain ⟨-, -, e3⟩ := this
    subst e3
    rw [List.length_cons, List.length_cons, ChE.len hz hz' h3 k3]
open Classical in
noncomputable def cheLen (w : World) (v : Value) : Nat := if h : ∃ ls z, Ender z ∧ ChE w z v ls then h.choose.length else 0
theorem cheLen_eq {w : World} {z v : Value} {ls : List Lk} (hz : Ender z) (h : ChE w z v ls) : cheLen w v = ls.length := by
  have hh : ∃ ls z, Ender z ∧ ChE w z v ls := ⟨ls, z, hz, h⟩
  unfold cheLen
  rw [dif_pos hh]
  obtain ⟨z', hz', h2⟩ := hh.choose_spec
  exact (ChE.len hz' hz h2 h)

/-- Pointers to faults. -/
def fps (ps : List Nat) : List Value := ps.map fun p => .pointer (some ⟨p, 0, none⟩)
theorem fps_one (ps : List Nat) : ∀ u ∈ fps ps, u.oneCell' = true := by
  intro u hu
  obtain ⟨p, _, rfl⟩ := List.mem_map.1 hu
  rfl
def FPs (w : World) (ps : List Nat) (ls : List Lk) : Prop := ps.length = ls.length ∧ ∀ (i : Nat) (p : Nat) (y : Lk), ps[i]? = some p → ls[i]? = some y → ∃ v, Blk w p 33 #[.string y.op, .int .i64 y.at_, v]
theorem FPs.keepF {w w' : World} {F : Nat → Prop} {ps : List Nat} {ls : List Lk} (h : FPs w ps ls) (hf : Fr F w w') (hF : ∀ k cs, Blk w k 33 cs → ¬ F k) : FPs w' ps ls :=
  ⟨h.1, fun i p y hp hy => by
    obtain ⟨v, hb⟩ := h.2 i p y hp hy
    exact ⟨v, hb.keep (hf.block p hb.lt (hF p _ hb))⟩⟩
theorem FPs.below {w w' : World} {ps : List Nat} {ls : List Lk} (h : FPs w ps ls) (hb : Below w.heap.size w w') : FPs w' ps ls :=
  ⟨h.1, fun i p y hp hy => by
    obtain ⟨v, hbk⟩ := h.2 i p y hp hy
    exact ⟨v, hbk.below hb hbk.lt⟩⟩
theorem info_pFault : (Tryd.prog.info? 29).map (fun i => (i.zero, i.size, i.bytes)) = some (some (.pointer none), 1, 8) := by kernel_rfl

/-- The state of faults' loop. -/
structure FAt (w wr : World) (z v out : Value) (ls done rest : List Lk) (ps : List Nat) : Prop where
  ch : ChE wr z v rest
  split : ls = done ++ rest
  row : wr.ownsRow w.heap.size 29 1 out ps.length (fps ps)
  fp : FPs wr ps done
  bel : Below w.heap.size w wr

set_option maxHeartbeats 2000000 in
theorem faults_any (z v : Value) (ls : List Lk) (w : World) (hz : Ender z) (hc : ChE w z v ls) (hT : Tabs w) (hl : ls.length ≤ 1000) :
    Calls Tryd.prog 29 #[v] w fun e w' => ∃ out ps, e = .returned out ∧ w'.ownsRow w.heap.size 29 1 out ps.length (fps ps) ∧ FPs w' ps ls ∧ Below w.heap.size w w' := by
  have H0 := Lib.hid (show FAt w w z v (.slice none 0 0) ls [] ls [] from ⟨hc, rfl, World.ownsRow_nil _ _ _ _, ⟨rfl, fun i p y hp => by simp at hp⟩, Below.refl _ _⟩)
  have HZ := Lib.hid hz
  have HT := Lib.hid hT
  have HL := Lib.hid hl
  clear hc hz hT hl
  go_enter Tryd.func29, Tryd.ntmps29
  go_wp2_with fail
  go_loopw [0, 3] (fun v out wr => ∃ done rest ps, Hid (FAt w wr z v out ls done rest ps)) (fun v _ wr => cheLen wr v)
  case atStart => exact ⟨[], ls, [], H0⟩
  case round =>
    obtain ⟨done, rest, ps, hr⟩ := hrel
    have hTr := HT.out.below hr.out.bel
    have hb3 : Below wr.heap.size wr (wr.alloc (.cells #[.pointer none] 29)) := (Below.refl _ _).alloc (Nat.le_refl _) _
    have hn3 := Blk.new wr 29 #[.pointer none]
    match rest, hr with
    | [], hr =>
      have hv : u0 = z := hr.out.ch
      subst hv
      have HRR := Lib.hid hr.out
      have HB3 := Lib.hid hb3
      rcases HZ.out with rfl | ⟨n, rfl⟩
      · have HA := Lib.hid (as_nil)
        clear hr hb3 hn3 hTr
        go_wp2_with fail
        refine (HA.out _ _).mono ?_
        rintro r w4 ⟨rfl, rfl⟩
        go_wp2_with fail
        go_ret
        have hls : ls = done := by rw [HRR.out.split]; simp
        exact ⟨_, ps, rfl, own_below HRR.out.row HB3.out, by rw [hls]; exact HRR.out.fp.below HB3.out, HRR.out.bel.trans (HB3.out.mono HRR.out.bel.size)⟩
      · have HA := Lib.hid (asP_miss n ⟨wr.heap.size, 0, none⟩ (wr.alloc (.cells #[.pointer none] 29)) (hTr.below hb3).2 hn3.lt)
        clear hr hb3 hn3 hTr
        go_wp2_with fail
        refine HA.out.mono ?_
        rintro r w4 ⟨rfl, hb4⟩
        have HB4 := Lib.hid (HB3.out.trans (hb4.mono HB3.out.size))
        go_wp2_with fail
        go_ret
        have hls : ls = done := by rw [HRR.out.split]; simp
        exact ⟨_, ps, rfl, own_below HRR.out.row HB4.out, by rw [hls]; exact HRR.out.fp.below HB4.out, HRR.out.bel.trans (HB4.out.mono HRR.out.bel.size)⟩
    | y :: rest, hr =>
      obtain ⟨p, v', rfl, hbp, hcv⟩ := hr.out.ch
      have HAS := Lib.hid (asP_hit ⟨p, 0, none⟩ ⟨wr.heap.size, 0, none⟩ _ (wr.alloc (.cells #[.pointer none] 29)) (hTr.below hb3).2 (hn3.cell 0) (hn3.frozen 0))
      have hlen := cheLen_eq HZ.out hcv
      have hlen2 : cheLen wr (.iface 29 (.pointer (some ⟨p, 0, none⟩))) = rest.length + 1 := cheLen_eq (ls := y :: rest) HZ.out ⟨p, v', rfl, hbp, hcv⟩
      have hpl : ps.length ≤ 1000 := by
        have h1 := hr.out.fp.1
        have h2 := congrArg List.length hr.out.split
        have h3 := HL.out
        simp at h2
        omega
      have HRR := Lib.hid hr.out
      have HP := Lib.hid (And.intro hbp (And.intro hcv (And.intro hlen2 hlen)))
      have HB3 := Lib.hid (And.intro hb3 hn3)
      clear hr hbp hcv hlen hlen2 hb3 hn3 hTr
      go_wp2_with fail
      refine HAS.out.mono ?_
      rintro r w4 ⟨rfl, wA, hA, rfl⟩
      have hbA : Below wr.heap.size wr wA := HB3.out.1.trans (hA.mono HB3.out.1.size)
      have hb4 : Below wr.heap.size wr (wA.setCell ⟨wr.heap.size, 0, none⟩ (.pointer (some ⟨p, 0, none⟩))) := hbA.trans ((Fr.setCell (F := (· = wr.heap.size)) _ _ _ rfl).below hbA.size (fun k hk => by omega))
      have c0 : (wA.setCell ⟨wr.heap.size, 0, none⟩ (.pointer (some ⟨p, 0, none⟩))).cell? ⟨wr.heap.size, 0, none⟩ = some (.pointer (some ⟨p, 0, none⟩)) := ((HB3.out.2.below hA HB3.out.2.lt).set_ 0 (.pointer (some ⟨p, 0, none⟩))).cell 0
      have HB4 := Lib.hid hb4
      generalize wA.setCell ⟨wr.heap.size, 0, none⟩ (.pointer (some ⟨p, 0, none⟩)) = w4 at *
      clear hA hbA hb4 HB3 HAS
      obtain ⟨A1, c1, rfl⟩ := own_shape HRR.out.row
      have HROW := Lib.hid (own_below HRR.out.row HB4.out)
      have HB5 := Lib.hid (HRR.out.bel.trans (HB4.out.mono HRR.out.bel.size))
      have hz4 := HB5.out.size
      have c2 : w4.cell? ⟨p, 2, none⟩ = some v' := (HP.out.1.below HB4.out HP.out.1.lt).cell 2
      have hw4 : wr.heap.size < w4.heap.size := World.block_lt_of_cell? _ _ c0
      have hpw : p < w4.heap.size := World.block_lt_of_cell? _ ⟨p, 2, none⟩ c2
      have hnw : (Value.slice A1 ps.length c1).ownBlock ≠ some wr.heap.size := fun e => by have := (HRR.out.row.lt _ e).2; omega
      have hnp : (Value.slice A1 ps.length c1).ownBlock ≠ some p := fun e => own_ne HROW.out (HP.out.1.below HB4.out HP.out.1.lt) (by decide) p e rfl
      have HNW := Lib.hid (And.intro hnw hnp)
      clear hnw hnp
      go_wp2_with (at_builtin; refine wpList_app rfl (.tmp 14) (.tmp 16) _ rfl w.heap.size 29 _ 1 8 Tryd.underlying68 info_pFault rfl (by decide) _ ps.length _ rfl (own_below HROW.out ((Below.refl _ _).alloc (Nat.le_refl _) _)) (some ⟨w4.heap.size, 0, none⟩) 1 _ [.pointer (some ⟨p, 0, none⟩)] rfl (sees_new w4 _ [.pointer (some ⟨p, 0, none⟩)] 1 1 rfl) (by simp [Value.oneCell']) (by unfold maxLen; omega) (by omega) (by simp; omega) ?_; intro v1 w6 hown1 hgr1 hat1 hnil1; have hgr1' : (w4.alloc (.cells #[.pointer (some ⟨p, 0, none⟩)] 29)).grownBy w6 (Value.slice A1 ps.length c1).ownBlock := hgr1; have HG1 := Lib.hid (And.intro hown1 hgr1'); have e0 : w6.cell? ⟨wr.heap.size, 0, none⟩ = some (.pointer (some ⟨p, 0, none⟩)) := (World.cell?_of_block (a := ⟨wr.heap.size, 0, none⟩) (hgr1'.block wr.heap.size (by simp; omega) (fun e => HNW.out.1 e.symm))).trans ((World.cell?_alloc_lt _ _ _ hw4).trans c0); have e2 : w6.cell? ⟨p, 2, none⟩ = some v' := (World.cell?_of_block (a := ⟨p, 2, none⟩) (hgr1'.block p (by simp; omega) (fun e => HNW.out.2 e.symm))).trans ((World.cell?_alloc_lt _ _ _ hpw).trans c2); clear hown1 hgr1 hgr1' hat1 hnil1)
      have hal : Below w4.heap.size w4 (w4.alloc (.cells #[.pointer (some ⟨p, 0, none⟩)] 29)) := (Below.refl _ _).alloc (Nat.le_refl _) _
      have hrow5 := own_below HROW.out hal
      have hF : ∀ k cs, Blk (w4.alloc (.cells #[.pointer (some ⟨p, 0, none⟩)] 29)) k 33 cs → ¬ (Value.slice A1 ps.length c1).ownBlock = some k := fun k cs hb e => own_ne hrow5 hb (by decide) k e rfl
      have hfr : Fr (fun k => (Value.slice A1 ps.length c1).ownBlock = some k) (w4.alloc (.cells #[.pointer (some ⟨p, 0, none⟩)] 29)) w6 := Fr.of_grown HG1.out.2 (fun k h => h)
      have b45 := HB4.out.trans (hal.mono HB4.out.size)
      have hlen45 : ChE w6 z v' rest := (HP.out.2.1.keep b45).keepF hfr hF
      have hnew : FAt w w6 z v' v1 ls (done ++ [y]) rest (ps ++ [p]) := by
        refine ⟨hlen45, by rw [HRR.out.split]; simp, ?_, ?_, ?_⟩
        · rw [List.length_append]
          have := HG1.out.1
          unfold fps at this ⊢
          rw [List.map_append]
          exact this
        · have h1 := (HRR.out.fp.below b45).keepF hfr hF
          have h2 : Blk w6 p 33 #[.string y.op, .int .i64 y.at_, v'] := ((HP.out.1.below b45 HP.out.1.lt)).keep (hfr.block p (Nat.lt_of_lt_of_le HP.out.1.lt b45.size) (hF p _ (HP.out.1.below b45 HP.out.1.lt)))
          refine ⟨by rw [List.length_append, List.length_append, h1.1]; rfl, fun i q x hq hx => ?_⟩
          rcases Nat.lt_or_ge i ps.length with hi | hi
          · rw [List.getElem?_append_left hi] at hq
            rw [List.getElem?_append_left (by rw [← h1.1]; exact hi)] at hx
            exact h1.2 i q x hq hx
          · rw [List.getElem?_append_right hi] at hq
            rw [List.getElem?_append_right (by rw [← h1.1]; exact hi), ← h1.1] at hx
            have hi0 : i - ps.length = 0 := by
              have := (List.getElem?_eq_some_iff.1 hq).1
              simp at this
              omega
            rw [hi0] at hq hx
            simp at hq hx
            subst hq hx
            exact ⟨_, h2⟩
        · exact (HB5.out.trans (hal.mono HB5.out.size)).grown HG1.out.2 (by simp; omega) (fun k hk => (HROW.out.lt k hk).1)
      have hl6 := cheLen_eq HZ.out hlen45
      have HNEW := Lib.hid (And.intro hnew hl6)
      clear hnew hlen45 hfr hF hrow5 hal b45 e0 e2 c0 c2 hl6
      exact ⟨⟨_, _, _, Lib.hid HNEW.out.1⟩, by rw [HNEW.out.2, HP.out.2.2.1]; omega⟩
end Go.Proofs.YtnfcnjnecankbaaDoor
