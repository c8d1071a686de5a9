/-
  awake.
-/
import Derived.Test.YtnfcnjnecankbaaDoorFt8
namespace Go.Proofs.YtnfcnjnecankbaaDoor
set_option maxRecDepth 4000
open Go.RowKit

theorem Laid.below {w w' : World} (h : Laid w) (hb : Below w.heap.size w w') : Laid w' := by
  have hlt : 0 < w.heap.size := World.block_lt_of_cell? w ⟨0, 0, none⟩ h
  exact (World.cell?_of_block (a := ⟨0, 0, none⟩) (hb.block _ hlt)).trans h
/-- The two tables. -/
def Tabs (w : World) : Prop := Tab10 w ∧ Laid w
theorem Tabs.below {w w' : World} (h : Tabs w) (hb : Below w.heap.size w w') : Tabs w' := ⟨h.1.below (Nat.le_refl _) hb, h.2.below hb⟩

def exL : List Lk := [⟨⟨#[111, 112, 101, 110]⟩, 3⟩, ⟨⟨#[114, 101, 97, 100]⟩, 7⟩]
def exT : ByteArray := ⟨#[111, 112, 101, 110, 32, 51, 58, 32, 114, 101, 97, 100, 32, 55, 58, 32, 101, 110, 103, 114, 111, 115, 115, 101, 114, 58, 32, 101, 114, 114, 111, 114, 32, 50, 51]⟩
theorem ex_text : str (chT exL 23) = exT := by kernel_rfl
theorem ex_ok : ∀ z ∈ exL, LkOk z ∧ z.op.size ≤ 50 := by
  intro z hz
  simp only [exL, List.mem_cons, List.not_mem_nil, or_false] at hz
  rcases hz with rfl | rfl
  · exact ⟨⟨by decide, by decide +kernel⟩, by decide +kernel⟩
  · exact ⟨⟨by decide, by decide +kernel⟩, by decide +kernel⟩

set_option maxHeartbeats 2000000 in
theorem awake_any (w : World) (hT : Tabs w) : Calls Tryd.prog 7 #[] w fun e w' => e = .returned (.bool true) ∧ Below w.heap.size w w' := by
  have hb1 : Below w.heap.size w (w.alloc (.cells (lcs exL).toArray 35)) := (Below.refl _ _).alloc (Nat.le_refl _) _
  have hs1 : Sees (w.alloc (.cells (lcs exL).toArray 35)) 2 (some ⟨w.heap.size, 0, none⟩) exL.length (lcs exL) := ⟨lcs_length _, fun _ => ⟨w.heap.size, 0, rfl, fun j u hu => by rw [Nat.zero_add, (Blk.new w 35 (lcs exL).toArray).cell, List.getElem?_toArray]; exact hu⟩⟩
  have HM := Lib.hid (made_any exL (some ⟨w.heap.size, 0, none⟩) 2 23 _ hs1 (by decide))
  have HB1 := Lib.hid hb1
  have HT := Lib.hid hT
  clear hb1 hs1 hT
  go_enter Tryd.func7, Tryd.ntmps7
  go_wp2_with fail
  refine HM.out.mono ?_
  rintro r w2 ⟨⟨v, rfl, hm⟩, hb2⟩
  have hc : Chn w2 v exL 23 := by
    rcases hm with ⟨h, -⟩ | ⟨h, -⟩ | ⟨-, -, h⟩
    · exact absurd h (by decide)
    · exact absurd h (by decide)
    · exact h
  have HB2 := Lib.hid (HB1.out.trans (hb2.mono HB1.out.size))
  obtain ⟨p, v', rfl, hbp, hcv⟩ := id hc
  have hb3 : Below w2.heap.size w2 (w2.alloc (.cells #[.pointer none] 29)) := (Below.refl _ _).alloc (Nat.le_refl _) _
  have hn3 := Blk.new w2 29 #[.pointer none]
  have HI1 := Lib.hid (is_any _ exL 23 23 _ (hc.keep hb3))
  have HC3 := Lib.hid (hc.keep hb3)
  have HN3 := Lib.hid hn3
  have HB3 := Lib.hid (HB2.out.trans (hb3.mono HB2.out.size))
  have hszz := HB2.out.size
  clear hc hm hb2 hbp hcv hb3 hn3 HM HB1 HB2
  rw [decide_eq_true rfl] at HI1
  obtain ⟨g, hg⟩ : ∃ g, g = w2.heap.size := ⟨_, rfl⟩
  have hgw : w.heap.size ≤ g := by rw [hg]; exact hszz
  go_wp2_with fail
  rw [← hg] at HN3 ⊢
  clear hg hszz
  generalize w2.alloc (.cells #[.pointer none] 29) = w3 at *
  refine HI1.out.mono ?_
  rintro r w4 ⟨rfl, hb4⟩
  have HI2 := Lib.hid (is_any _ exL 23 21 _ (HC3.out.keep hb4))
  rw [decide_eq_false (by decide)] at HI2
  have HB4 := Lib.hid hb4
  clear hb4 HI1
  go_wp2_with fail
  refine HI2.out.mono ?_
  rintro r w5 ⟨rfl, hb5⟩
  have HB5 := Lib.hid (HB4.out.trans (hb5.mono HB4.out.size))
  have hn5 := HN3.out.below HB5.out HN3.out.lt
  have HAS := Lib.hid (asP_hit ⟨p, 0, none⟩ ⟨g, 0, none⟩ _ w5 (HT.out.below (HB3.out.trans (HB5.out.mono HB3.out.size))).2 (hn5.cell 0) (hn5.frozen 0))
  clear hb5 hn5 HI2
  go_wp2_with fail
  refine HAS.out.mono ?_
  rintro r w6 ⟨rfl, wA, hA, rfl⟩
  have hn6 := (HN3.out.below (HB5.out.trans (hA.mono HB5.out.size)) HN3.out.lt).set_ 0 (.pointer (some ⟨p, 0, none⟩))
  have c6 : (wA.setCell ⟨g, 0, none⟩ (.pointer (some ⟨p, 0, none⟩))).cell? ⟨g, 0, none⟩ = some (.pointer (some ⟨p, 0, none⟩)) := hn6.cell 0
  have hnA := HN3.out.below (HB5.out.trans (hA.mono HB5.out.size)) HN3.out.lt
  have hfr : Fr (· = g) wA (wA.setCell ⟨g, 0, none⟩ (.pointer (some ⟨p, 0, none⟩))) := Fr.setCell _ _ _ rfl
  have hcA := HC3.out.keep (HB5.out.trans (hA.mono HB5.out.size))
  have hc7 := hcA.keepF hfr (fun k T cs hb hT e => (hnA.same hb (by rw [hT]; decide)) e.symm)
  have hbA : Below w.heap.size w wA := HB3.out.trans ((HB5.out.trans (hA.mono HB5.out.size)).mono HB3.out.size)
  have hb7 : Below w.heap.size w (wA.setCell ⟨g, 0, none⟩ (.pointer (some ⟨p, 0, none⟩))) := hbA.trans (hfr.below hbA.size (fun k hk => by omega))
  have HE := Lib.hid (ferror_chain _ _ p 23 _ hc7 ex_ok (by decide) ⟨by decide, by decide⟩ (HT.out.below hb7).1)
  have HB7 := Lib.hid hb7
  generalize wA.setCell ⟨g, 0, none⟩ (.pointer (some ⟨p, 0, none⟩)) = w7 at *
  have ht := ex_text
  have he := HE.out
  change Calls Tryd.prog _ _ _ (fun r w' => r = .returned (.string (str (chT exL 23))) ∧ _) at he
  rw [ht] at he
  unfold exT at he
  have HE2 := Lib.hid he
  clear hn6 hnA hfr hcA hc7 hbA hb7 hA HAS HE ht he
  go_wp2_with fail
  refine HE2.out.mono ?_
  rintro r w8 ⟨rfl, hb8⟩
  have HB8 := Lib.hid (HB7.out.trans (hb8.mono HB7.out.size))
  clear hb8
  go_wp2_with fail
  go_ret
  exact ⟨rfl, HB8.out⟩
end Go.Proofs.YtnfcnjnecankbaaDoor
