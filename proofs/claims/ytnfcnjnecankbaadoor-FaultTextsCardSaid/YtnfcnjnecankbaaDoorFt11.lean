/-
  Place, Ops; the document's Place.
-/
import Derived.Test.YtnfcnjnecankbaaDoorFt10
namespace Go.Proofs.YtnfcnjnecankbaaDoor
set_option maxRecDepth 4000
open Go.RowKit

/-- The place of the outermost fault of a kind. -/
def plc (op : ByteArray) : List Lk → Int × Bool
  | [] => (0, false)
  | y :: ls => if (y.op.toList == op.toList) = true then (y.at_, true) else plc op ls
theorem plc_hit {op : ByteArray} : ∀ {ls : List Lk} {j : Nat} {y : Lk}, (∀ i x, i < j → ls[i]? = some x → (x.op.toList == op.toList) = false) → ls[j]? = some y → (y.op.toList == op.toList) = true → plc op ls = (y.at_, true)
  | [], j, y, _, h, _ => by simp at h
  | x :: ls, 0, y, _, h, he => by
    injection h with h; subst h
    unfold plc
    rw [if_pos he]
  | x :: ls, j + 1, y, hno, h, he => by
    unfold plc
    rw [if_neg (by rw [hno 0 x (by omega) rfl]; decide)]
    exact plc_hit (ls := ls) (j := j) (fun i z hi hz => hno (i + 1) z (by omega) (by simpa using hz)) (by simpa using h) he
theorem plc_miss {op : ByteArray} : ∀ {ls : List Lk}, (∀ (i : Nat) (x : Lk), ls[i]? = some x → (x.op.toList == op.toList) = false) → plc op ls = (0, false)
  | [], _ => rfl
  | x :: ls, hno => by
    unfold plc
    rw [if_neg (by rw [hno 0 x rfl]; decide)]
    exact plc_miss (ls := ls) (fun i z hz => hno (i + 1) z (by simpa using hz))

theorem fps_at {w : World} {base : Nat} {out : Value} {ps : List Nat} (h : w.ownsRow base 29 1 out ps.length (fps ps)) {j : Nat} {p : Nat} (hj : ps[j]? = some p) :
    ∃ A c g o, out = .slice A ps.length c ∧ A = some ⟨g, o, none⟩ ∧ w.cell? ⟨g, o + j, none⟩ = some (.pointer (some ⟨p, 0, none⟩)) := by
  obtain ⟨A, c, rfl⟩ := own_shape h
  obtain ⟨g, o, e, hc⟩ := (Sees.of_own h).2 (by have := (List.getElem?_eq_some_iff.1 hj).1; omega)
  exact ⟨A, c, g, o, rfl, e, hc j _ (by unfold fps; rw [List.getElem?_map, hj]; rfl)⟩

set_option maxHeartbeats 1000000 in
theorem place_any (z v : Value) (ls : List Lk) (op : ByteArray) (w : World) (hz : Ender z) (hc : ChE w z v ls) (hT : Tabs w) (hl : ls.length ≤ 1000) :
    Calls Tryd.prog 18 #[v, .string op] w fun e w' => e = .returned (.tuple #[.int .i64 (plc op ls).1, .bool (plc op ls).2]) ∧ Below w.heap.size w w' := by
  have HF := Lib.hid (faults_any z v ls w hz hc hT hl)
  have HL := Lib.hid hl
  have HPH := Lib.hid (fun j y => @plc_hit op ls j y)
  have HPM := Lib.hid (@plc_miss op ls)
  generalize plc op ls = R at *
  obtain ⟨r1, r2⟩ := R
  clear hz hc hT hl
  go_enter Tryd.func18, Tryd.ntmps18
  go_wp2_with fail
  refine HF.out.mono ?_
  rintro e w1 ⟨out, ps, rfl, ho, hp, hb⟩
  obtain ⟨A, c, rfl⟩ := own_shape ho
  have hpl := hp.1
  have HO := Lib.hid (And.intro ho (And.intro hp (And.intro hb hpl)))
  have hps : ps.length ≤ 1000 := by have := HL.out; omega
  clear ho hp hb hpl HF
  go_wp2_with fail
  go_loopw [11] (fun i wr => ∃ j : Nat, i = .int .i64 j ∧ j ≤ ps.length ∧ Hid ((∀ i x, i < j → ls[i]? = some x → (x.op.toList == op.toList) = false) ∧ Below w1.heap.size w1 wr)) (fun i _ => ps.length - (intOf i).toNat)
  case atStart => exact ⟨0, rfl, Nat.zero_le _, Lib.hid ⟨fun i x hi => by omega, Below.refl _ _⟩⟩
  case round =>
    obtain ⟨j, rfl, hj, hr⟩ := hrel
    by_cases hlt : j < ps.length
    · have hpj : ps[j]? = some (ps[j]'hlt) := List.getElem?_eq_getElem hlt
      generalize ps[j] = p at hpj
      have hlj : j < ls.length := by rw [← HO.out.2.2.2]; exact hlt
      have hyj : ls[j]? = some (ls[j]'hlj) := List.getElem?_eq_getElem hlj
      generalize ls[j] = y at hyj
      obtain ⟨A', c', g, o, e1, e2, hc0⟩ := fps_at (own_below HO.out.1 hr.out.2) hpj
      injection e1 with e1 _ e3
      subst e1 e3
      subst e2
      obtain ⟨v', hbk⟩ := (HO.out.2.1.below hr.out.2).2 j p y hpj hyj
      have d0 : wr.cell? ⟨p, 0, none⟩ = some (.string y.op) := hbk.cell 0
      have d1 : wr.cell? ⟨p, 1, none⟩ = some (.int .i64 y.at_) := hbk.cell 1
      have HY := Lib.hid hyj
      have HR := Lib.hid hr.out
      clear hr hpj hyj hbk hlj
      obtain ⟨yo, ya⟩ := y
      simp only at d0 d1
      cases hq : (yo.toList == op.toList) with
      | true =>
        have hres := HPH.out _ _ HR.out.1 HY.out hq
        injection hres with h1 h2
        subst h1 h2
        go_wp2_with fail
        go_ret2
        exact ⟨rfl, HO.out.2.2.1.trans (HR.out.2.mono HO.out.2.2.1.size)⟩
      | false =>
        have HN := Lib.hid (And.intro (fun i x (hi : i < j + 1) (hx : ls[i]? = some x) => by
          rcases Nat.lt_or_ge i j with h | h
          · exact HR.out.1 i x h hx
          · obtain rfl : i = j := by omega
            rw [HY.out] at hx
            injection hx with hx
            rw [← hx]; exact hq) HR.out.2)
        clear HR
        go_wp2_with fail
        go_roundw
        case rel => exact ⟨j + 1, by go_num, by omega, HN⟩
        case measure => simp [intOf]; omega
    · obtain rfl : j = ps.length := by omega
      have hres := HPM.out (fun i x hx => hr.out.1 i x (by rw [HO.out.2.2.2]; exact (List.getElem?_eq_some_iff.1 hx).1) hx)
      injection hres with h1 h2
      subst h1 h2
      go_wp2_with fail
      go_ret2
      exact ⟨rfl, HO.out.2.2.1.trans (hr.out.2.mono HO.out.2.2.1.size)⟩

def opsV (ls : List Lk) : List Value := ls.map fun y => .string y.op
theorem info_string : (Tryd.prog.info? 9).map (fun i => (i.zero, i.size, i.bytes)) = some (some (.string ⟨#[]⟩), 1, 16) := by kernel_rfl
set_option maxHeartbeats 2000000 in
theorem ops_any (z v : Value) (ls : List Lk) (w : World) (hz : Ender z) (hc : ChE w z v ls) (hT : Tabs w) (hl : ls.length ≤ 1000) :
    Calls Tryd.prog 15 #[v] w fun e w' => ∃ out, e = .returned out ∧ w'.ownsRow w.heap.size 9 1 out ls.length (opsV ls) ∧ Below w.heap.size w w' := by
  have HF := Lib.hid (faults_any z v ls w hz hc hT hl)
  have HL := Lib.hid hl
  clear hz hc hT hl
  go_enter Tryd.func15, Tryd.ntmps15
  go_wp2_with fail
  refine HF.out.mono ?_
  rintro e w1 ⟨out, ps, rfl, ho, hp, hb⟩
  obtain ⟨A, c, rfl⟩ := own_shape ho
  have HO := Lib.hid (And.intro ho (And.intro hp (And.intro hb hp.1)))
  have hps : ps.length ≤ 1000 := by have := HL.out; have := hp.1; omega
  clear ho hp hb HF
  go_wp2_with fail
  go_loopw [3, 9] (fun v i wr => ∃ j : Nat, i = .int .i64 j ∧ j ≤ ps.length ∧ Hid (wr.ownsRow w1.heap.size 9 1 v j (opsV (ls.take j)) ∧ Below w1.heap.size w1 wr)) (fun _ i _ => ps.length - (intOf i).toNat)
  case atStart => exact ⟨0, rfl, Nat.zero_le _, Lib.hid ⟨World.ownsRow_nil _ _ _ _, Below.refl _ _⟩⟩
  case round =>
    obtain ⟨j, rfl, hj, hr⟩ := hrel
    obtain ⟨A1, c1, rfl⟩ := own_shape hr.out.1
    by_cases hlt : j < ps.length
    · have hpj : ps[j]? = some (ps[j]'hlt) := List.getElem?_eq_getElem hlt
      generalize ps[j] = p at hpj
      have hlj : j < ls.length := by rw [← HO.out.2.2.2]; exact hlt
      have hyj : ls[j]? = some (ls[j]'hlj) := List.getElem?_eq_getElem hlj
      generalize ls[j] = y at hyj
      obtain ⟨A', c', g, o, e1, e2, hc0⟩ := fps_at (own_below HO.out.1 hr.out.2) hpj
      injection e1 with e1 _ e3
      subst e1 e3
      subst e2
      obtain ⟨v', hbk⟩ := (HO.out.2.1.below hr.out.2).2 j p y hpj hyj
      have d0 : wr.cell? ⟨p, 0, none⟩ = some (.string y.op) := hbk.cell 0
      have hnx : opsV (ls.take (j + 1)) = opsV (ls.take j) ++ [.string y.op] := by
        unfold opsV
        rw [List.take_add_one, hyj, List.map_append]
        rfl
      have HR := Lib.hid hr.out
      have HNX := Lib.hid hnx
      have hzz := hr.out.2.size
      clear hr hpj hyj hbk hlj hnx
      obtain ⟨yo, ya⟩ := y
      simp only at d0 HNX
      go_wp2_with (at_builtin; refine wpList_app rfl (.tmp 13) (.tmp 18) _ rfl w1.heap.size 9 _ 1 16 Tryd.underlying42 info_string rfl (by decide) _ j _ rfl (own_below HR.out.1 ((Below.refl _ _).alloc (Nat.le_refl _) _)) (some ⟨wr.heap.size, 0, none⟩) 1 _ [.string yo] rfl (sees_new wr _ [.string yo] 1 1 rfl) (by simp [Value.oneCell']) (by unfold maxLen; omega) (by omega) (by simp; omega) ?_; intro v1 w6 hown1 hgr1 hat1 hnil1; rw [← HNX.out] at hown1; have hb1 := (HR.out.2.alloc hzz _).grown hgr1 (by simp; omega) (fun k hk => (HR.out.1.lt k hk).1); have HG1 := Lib.hid (And.intro hown1 hb1); clear hown1 hgr1 hat1 hnil1 hb1)
      refine ⟨⟨j + 1, by go_num, by omega, HG1⟩, ?_⟩
      simp [intOf]; omega
    · obtain rfl : j = ps.length := by omega
      have HR := Lib.hid hr.out
      have hfull : ls.take ps.length = ls := List.take_of_length_le (by rw [HO.out.2.2.2]; exact Nat.le_refl _)
      have HFU := Lib.hid hfull
      clear hr hfull
      go_wp2_with fail
      go_ret
      have hrow := HR.out.1
      rw [HFU.out, HO.out.2.2.2] at hrow
      exact ⟨_, by rw [← HO.out.2.2.2]; rfl, own_base hrow HO.out.2.2.1.size, HO.out.2.2.1.trans (HR.out.2.mono HO.out.2.2.1.size)⟩

set_option maxHeartbeats 1000000 in
theorem rplace_any (ls : List Lk) (op : ByteArray) (A : Option Addr) (c : Nat) (w : World) (hS : Sees w 2 A ls.length (lcs ls)) (hl : ls.length ≤ 1000) :
    Calls Tryd.prog 19 #[.slice A ls.length c, .string op] w fun e w' => e = .returned (.tuple #[.int .i64 (plc op ls).1, .bool (plc op ls).2]) ∧ Below w.heap.size w w' := by
  have HPH := Lib.hid (fun j y => @plc_hit op ls j y)
  have HPM := Lib.hid (@plc_miss op ls)
  have HS := Lib.hid hS
  generalize plc op ls = R at *
  obtain ⟨r1, r2⟩ := R
  clear hS
  go_enter Tryd.func19, Tryd.ntmps19
  go_wp2_with fail
  go_loopw [6] (fun i wr => ∃ j : Nat, i = .int .i64 j ∧ j ≤ ls.length ∧ Hid ((∀ i x, i < j → ls[i]? = some x → (x.op.toList == op.toList) = false) ∧ Below w.heap.size w wr)) (fun i _ => ls.length - (intOf i).toNat)
  case atStart => exact ⟨0, rfl, Nat.zero_le _, Lib.hid ⟨fun i x hi => by omega, Below.refl _ _⟩⟩
  case round =>
    obtain ⟨j, rfl, hj, hr⟩ := hrel
    by_cases hlt : j < ls.length
    · have hyj : ls[j]? = some (ls[j]'hlt) := List.getElem?_eq_getElem hlt
      generalize ls[j] = y at hyj
      obtain ⟨g, o, rfl, d0, d1⟩ := in_link (HS.out.below hr.out.2) hyj
      have HY := Lib.hid hyj
      have HR := Lib.hid hr.out
      clear hr hyj
      obtain ⟨yo, ya⟩ := y
      simp only at d0 d1
      cases hq : (yo.toList == op.toList) with
      | true =>
        have hres := HPH.out _ _ HR.out.1 HY.out hq
        injection hres with h1 h2
        subst h1 h2
        go_wp2_with fail
        go_ret2
        exact ⟨rfl, HR.out.2⟩
      | false =>
        have HN := Lib.hid (And.intro (fun i x (hi : i < j + 1) (hx : ls[i]? = some x) => by
          rcases Nat.lt_or_ge i j with h | h
          · exact HR.out.1 i x h hx
          · obtain rfl : i = j := by omega
            rw [HY.out] at hx
            injection hx with hx
            rw [← hx]; exact hq) HR.out.2)
        clear HR
        go_wp2_with fail
        go_roundw
        case rel => exact ⟨j + 1, by go_num, by omega, HN⟩
        case measure => simp [intOf]; omega
    · obtain rfl : j = ls.length := by omega
      have hres := HPM.out (fun i x hx => hr.out.1 i x (List.getElem?_eq_some_iff.1 hx).1 hx)
      injection hres with h1 h2
      subst h1 h2
      go_wp2_with fail
      go_ret2
      exact ⟨rfl, hr.out.2⟩
end Go.Proofs.YtnfcnjnecankbaaDoor
