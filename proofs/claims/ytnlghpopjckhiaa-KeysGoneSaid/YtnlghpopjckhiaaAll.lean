/-
  All octets that there are, of a disk on which nothing waits.
-/
import Derived.Test.YtnlghpopjckhiaaPt
import Derived.Test.YtnlghpopjckhiaaDisk5
namespace Go.Proofs.Ytnlghpopjckhiaa
set_option maxRecDepth 4000
open Go.RowKit

theorem info_bytes : (Try.prog.info? 37).map (fun i => (i.zero, i.size, i.bytes)) = some (some (.slice none 0 0), 1, 24) := by kernel_rfl
/-- Rows of octets, each of its own. -/
structure RowsAt (w wr : World) (v : Value) (ps : List Pt) (L : List (List UInt8)) : Prop where
  row : wr.ownsRow w.heap.size 37 1 v ps.length (ps.map Pt.val)
  each : ∀ p ∈ ps, wr.ownsRow w.heap.size 5 1 p.val p.n (u8s p.l) ∧ p.l.length = p.n
  data : ps.map (·.l) = L
  bel : Below w.heap.size w wr
theorem RowsAt.pts {w wr : World} {v : Value} {ps : List Pt} {L : List (List UInt8)} (h : RowsAt w wr v ps L) : Pts wr ps := fun p hp => ⟨Sees.of_own (h.each p hp).1, (h.each p hp).2⟩
theorem RowsAt.below {w wr w' : World} {v : Value} {ps : List Pt} {L : List (List UInt8)} (h : RowsAt w wr v ps L) (hb : Below wr.heap.size wr w') : RowsAt w w' v ps L :=
  ⟨own_below h.row hb, fun p hp => ⟨own_below (h.each p hp).1 hb, (h.each p hp).2⟩, h.data, h.bel.trans (hb.mono h.bel.size)⟩
theorem vals_one (ps : List Pt) : ∀ u ∈ ps.map Pt.val, u.oneCell' = true := by
  intro u hu
  obtain ⟨p, _, rfl⟩ := List.mem_map.1 hu
  rfl

set_option maxHeartbeats 1000000 in
theorem all_idle (b : Nat) (F : Nat → Prop) (D : Dk) (w : World) (hD : DiskAt w b F D) (hok : D.Ok) (hq : D.queue = []) :
    Calls Try.prog 19 #[.pointer (some ⟨b, 0, none⟩)] w fun e w' => ∃ v ps, e = .returned v ∧ RowsAt w w' v ps ((List.range D.size).map (sect D.safe)) := by
  obtain ⟨s, sc, cur, qA, qc, Q, ⟨h1, h2⟩, ⟨h3, h4, h5, h5a, h5b, h5c⟩, ⟨h6, h7⟩, h8, h9⟩ := hD
  have hQ : Q = [] := by rw [hq] at h9; exact List.map_eq_nil_iff.1 h9.symm
  subst hQ
  have hn : D.safe.length = D.size * 128 := by have := hok.whole; unfold Dk.size; omega
  obtain ⟨n, hn0⟩ : ∃ n, n = D.size := ⟨_, rfl⟩
  have hmost := hok.most
  obtain ⟨N, hN⟩ : ∃ N, N = D.safe.length := ⟨_, rfl⟩
  have hsee : Sees w 1 (some ⟨s, 0, none⟩) N (u8s D.safe) := by rw [hN]; exact Sees.of_own (own_mk (base := 0) (Nat.zero_le _) h3 h5 h5a (by omega) (by simpa using h5c))
  have hpc : ∀ j, j < n → ((u8s D.safe).drop (j * 128)).take 128 = u8s (sect D.safe j) ∧ (sect D.safe j).length = 128 := fun j hj => ⟨by rw [← u8s_drop, ← u8s_take]; rfl, length_sect _ _ (by omega)⟩
  rw [← hn0] at hn ⊢
  rw [← hN] at h1 h5 hn hmost
  have H := Lib.hid (And.intro h1 (And.intro hsee hpc))
  have HP := Lib.hid (fun j w (hj : j < n) => part_any s 0 N sc (j : Nat) w h5 h5a (by omega) (by omega))
  have HSZ := Lib.hid (fun w h => size_any b (some ⟨s, 0, none⟩) N sc w (by unfold maxLen; omega) h)
  have hnd : N / 128 = n := by omega
  rw [hnd] at HSZ
  clear hnd
  have HNN := Lib.hid hn
  have hn64 : n ≤ 65536 := by omega
  generalize sect D.safe = f at *
  clear h1 h2 h3 h4 h5 h5a h5b h5c h6 h7 h8 h9 hok hq hsee hpc hn0 hN hn
  have c0 : w.cell? ⟨b, 0, none⟩ = some (.slice (some ⟨s, 0, none⟩) N sc) := H.out.1.cell 0
  have HSX := Lib.hid (HSZ.out w c0)
  go_enter Try.func19, Try.ntmps19
  go_wp2_with fail
  refine HSX.out.mono ?_
  rintro e w' ⟨rfl, rfl⟩
  clear c0
  go_wp2_with fail
  go_loopw [3, 9] (fun v i wr => ∃ (j : Nat) (ps : List Pt), i = .int .i64 j ∧ j ≤ n ∧ ps.length = j ∧ Hid (RowsAt w wr v ps ((List.range j).map f))) (fun _ i _ => n - (intOf i).toNat)
  case atStart => exact ⟨0, [], rfl, Nat.zero_le _, rfl, Lib.hid ⟨World.ownsRow_nil _ _ _ _, (fun p hp => by cases hp), rfl, Below.refl _ _⟩⟩
  case round =>
    obtain ⟨j, ps, rfl, hj, hpl, hr⟩ := hrel
    replace hpl := Lib.hid hpl
    obtain ⟨A1, c1, rfl⟩ := own_shape hr.out.row
    by_cases hlt : j < n
    · have hlti : (j : Int) < (n : Int) := by omega
      have c0 : wr.cell? ⟨b, 0, none⟩ = some (.slice (some ⟨s, 0, none⟩) N sc) := (H.out.1.below hr.out.bel H.out.1.lt).cell 0
      have HPX := Lib.hid (HP.out j wr hlt)
      go_wp2_with fail
      refine HPX.out.mono ?_
      rintro e w' ⟨⟨c', hc1, hc2, rfl⟩, rfl⟩
      have hS := (H.out.2.1.below hr.out.bel).piece (j * 128) 128 (by have := HNN.out; omega)
      rw [(H.out.2.2 j hlt).1] at hS
      rw [Nat.zero_add] at hS ⊢
      have HC := Lib.hid (clone_any ⟨s, j * 128, none⟩ 128 c' _ wr hS (u8s_one _) (by omega))
      clear hS c0 HPX
      go_wp2_with fail
      refine HC.out.mono ?_
      rintro e w2 ⟨v2, rfl, ho2, hb2⟩
      obtain ⟨A2, c2, rfl⟩ := own_shape ho2
      have HR2 := Lib.hid (hr.out.below hb2)
      have HO2 := Lib.hid (own_base (base' := w.heap.size) ho2 hr.out.bel.size)
      have hz2 := HR2.out.bel.size
      clear hr ho2 hb2 HC
      go_wp2_with (at_builtin; refine wpList_app rfl (.tmp 12) (.tmp 20) _ rfl w.heap.size 37 _ 1 24 Try.underlying53 info_bytes rfl (by decide) _ ps.length _ rfl (own_below HR2.out.row ((Below.refl _ _).alloc (Nat.le_refl _) _)) (some ⟨w2.heap.size, 0, none⟩) 1 _ [.slice A2 128 c2] rfl (sees_new w2 _ [.slice A2 128 c2] 1 1 rfl) (by simp [Value.oneCell']) (by have := hpl.out; unfold maxLen; omega) (by have := hpl.out; omega) (by simp; omega) ?_; intro v1 w1 hown1 hgr1 hat1 hnil1; have HG1 := Lib.hid (And.intro hown1 hgr1); clear hown1 hgr1 hat1 hnil1)
      have hgr := HG1.out.2
      have hal2 : Below w2.heap.size w2 (w2.alloc (.cells #[.slice A2 128 c2] 37)) := (Below.refl _ _).alloc (Nat.le_refl _) _
      have hkeep : ∀ v n xs, w2.ownsRow w.heap.size 5 1 v n xs → w1.ownsRow w.heap.size 5 1 v n xs := fun v n xs h => own_fr (own_below h hal2) (Fr.of_grown hgr (fun k h => h)) (own_ne2 (own_below h hal2) (own_below HR2.out.row hal2) (by decide))
      have hnew : RowsAt w w1 v1 (ps ++ [⟨A2, 128, c2, f j⟩]) ((List.range (j + 1)).map f) := by
        refine ⟨?_, fun p hp => ?_, ?_, ?_⟩
        · rw [List.length_append, List.map_append]
          exact HG1.out.1
        · rcases List.mem_append.1 hp with hp | hp
          · obtain ⟨h1, h2⟩ := HR2.out.each p hp
            exact ⟨hkeep _ _ _ h1, h2⟩
          · obtain rfl := List.mem_singleton.1 hp
            exact ⟨hkeep _ _ _ HO2.out, (H.out.2.2 j hlt).2⟩
        · rw [List.map_append, HR2.out.data, List.range_succ, List.map_append]
          rfl
        · exact (HR2.out.bel.trans (hal2.mono hz2)).grown hgr (by simp; omega) (fun k hk => (HR2.out.row.lt k hk).1)
      have HNEW := Lib.hid hnew
      clear hnew hkeep
      refine ⟨⟨j + 1, _, by go_num, by omega, by rw [List.length_append, hpl.out]; rfl, HNEW⟩, ?_⟩
      simp [intOf]; omega
    · obtain rfl : j = n := by omega
      have c1' : wr.cell? ⟨b, 1, none⟩ = some (.slice qA 0 qc) := (H.out.1.below hr.out.bel H.out.1.lt).cell 1
      go_wp2_with fail
      refine wp_loop_rounds 1 ?_
      rw [rounds_succ]
      go_wp2_with fail
      go_ret
      exact ⟨_, ps, rfl, hr.out⟩
end Go.Proofs.Ytnlghpopjckhiaa
