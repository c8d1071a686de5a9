/-
  The law SuperCrash, walked.
-/
import Derived.Test.YtdkfijkggccafaaSup8
import Derived.Test.YtdkfijkggccafaaStructArg
namespace Go.Proofs.Ytdkfijkggccafaa
set_option maxRecDepth 4000
open Go.RowKit

def Sp.cellsA (s : Sp) : Array Value := #[.int .i64 s.gen, .int .i64 s.boot, .int .i64 s.slots, .int .i64 s.segs, .int .i64 s.size]
theorem safe2 (s : Sp) : (stored 2 s).safe = two s zer zer := by
  have h := stored_piece 2 s (by omega)
  have hl := stored_length 2 s (by omega)
  have e : (stored 2 s).piece 0 2 = (stored 2 s).safe := by
    show ((stored 2 s).safe.drop (0 * 128)).take (2 * 128) = _
    rw [Nat.zero_mul, List.drop_zero, List.take_of_length_le (by omega)]
  rw [← e, h]
/-- The disk behind the first store, with so many calls left. -/
def d1 (s : Sp) (m : Nat) : Dk := { stored 2 s with calls := m }
theorem d1_ok (s : Sp) (m : Nat) (hm : m ≤ 3) : (d1 s m).Ok := by
  have h := stored_ok 2 s (by omega) (by omega)
  exact ⟨h.whole, h.pos, h.most, h.fits, by show (-9223372036854775808 : Int) ≤ m; omega, by show (m : Int) ≤ 9223372036854775807; omega⟩
theorem d1_length (s : Sp) (m : Nat) : (d1 s m).safe.length = 256 := stored_length 2 s (by omega)
theorem crashed_piece (D : Dk) (keep : List Int) (hl : D.safe.length = 256) (hok : D.Ok) : (D.crashed keep).piece 0 2 = (crashS D keep).1 := by
  show ((crashS D keep).1.drop (0 * 128)).take (2 * 128) = _
  have := crash_length D hok keep
  rw [Nat.zero_mul, List.drop_zero, List.take_of_length_le (by omega)]
theorem zer_len : zer.length = 128 := by decide
theorem two_length (s : Sp) : (two s zer zer).length = 256 := by rw [← safe2, stored_length 2 s (by omega)]
/-- What is found behind a crash: nothing of the second store went through, or it waits, or it is safe. -/
theorem found_none (s : Sp) (h : s.right) (m : Nat) (hm : m ≤ 3) (keep : List Int) : newOk (((d1 s m).crashed keep).piece 0 2) ∧ newS (((d1 s m).crashed keep).piece 0 2) = s := by
  rw [crashed_piece _ _ (d1_length s m) (d1_ok s m hm), crash_none _ rfl]
  show newOk (stored 2 s).safe ∧ newS (stored 2 s).safe = s
  rw [safe2]
  exact new_one s h
theorem found_half (s t : Sp) (h : s.right) (k : t.right) (hg : t.gen = s.gen + 1) (ht : t.place = 1 - s.place) (keep : List Int) (hok : ((d1 s 1).push t.place (spo t) 1).Ok) :
    (newOk ((((d1 s 1).push t.place (spo t) 1).crashed keep).piece 0 2) ∧ newS ((((d1 s 1).push t.place (spo t) 1).crashed keep).piece 0 2) = s) ∨ (newOk ((((d1 s 1).push t.place (spo t) 1).crashed keep).piece 0 2) ∧ newS ((((d1 s 1).push t.place (spo t) 1).crashed keep).piece 0 2) = t) := by
  rw [crashed_piece _ _ (show ((d1 s 1).push t.place (spo t) 1).safe.length = 256 from d1_length s 1) hok]
  have hq : ((d1 s 1).push t.place (spo t) 1).queue = [(t.place, spo t)] := by
    show [] ++ parts t.place (spo t) 1 = _
    rw [parts_one _ _ (spo_length t)]; rfl
  have hs : ((d1 s 1).push t.place (spo t) 1).safe = two s zer zer := safe2 s
  rcases crash_one _ _ hq keep with e | e
  · rw [e, hs]; exact .inl (new_one s h)
  · rw [e, hs, put_both s t ht]; exact .inr (new_two s t h k hg)
theorem found_full (s t : Sp) (h : s.right) (k : t.right) (hg : t.gen = s.gen + 1) (ht : t.place = 1 - s.place) (keep : List Int) (m : Nat) (hok : ((d1 s m).push t.place (spo t) 1).flushed.Ok) (hl : ((d1 s m).push t.place (spo t) 1).flushed.safe.length = 256) :
    newOk ((((d1 s m).push t.place (spo t) 1).flushed.crashed keep).piece 0 2) ∧ newS ((((d1 s m).push t.place (spo t) 1).flushed.crashed keep).piece 0 2) = t := by
  rw [crashed_piece _ _ hl hok, crash_none _ rfl]
  have hs : ((d1 s m).push t.place (spo t) 1).flushed.safe = both s t := by
    show puts (stored 2 s).safe ([] ++ parts t.place (spo t) 1) = _
    rw [parts_one _ _ (spo_length t), safe2]
    exact put_both s t ht
  rw [hs]
  exact new_two s t h k hg

/-- What Store leaves, and what it answers. -/
theorem store_next (s t : Sp) (h : s.right) (k : t.right) (hg : t.gen = s.gen + 1) (keep : List Int) (m : Nat) (hm : m ≤ 3) (b : Nat) (F : Nat → Prop) (w : World) (hD : DiskAt w b F (d1 s m)) (hF : ∀ k, F k → k < w.heap.size) :
    Calls Try.prog 17 #[.pointer (some ⟨b, 0, none⟩), t.val] w fun e w' => ∃ (er : Value) (x : Sp) (D : Dk), e = .returned er ∧ DiskTo w b F D w' ∧ D.Ok ∧ D.safe.length = 256 ∧ D.queue.length ≤ 1 ∧ newOk ((D.crashed keep).piece 0 2) ∧ newS ((D.crashed keep).piece 0 2) = x ∧
      ((er = Value.nilIface ∧ x = t) ∨ ((∃ g, er = .iface 90 (.pointer (some ⟨g, 0, none⟩))) ∧ (x = s ∨ x = t))) := by
  have hpt : t.place = 1 - s.place := by
    have := h.1
    unfold Sp.place; rw [hg]; omega
  have hp1 := s.place01
  have hl := d1_length s m
  have hok := d1_ok s m hm
  have hpok : ((d1 s m).push t.place (spo t) 1).Ok := hok.push _ _ _ (by rw [spo_length]; omega) (by rw [hl]; omega)
  have hql : ((d1 s m).push t.place (spo t) 1).queue.length ≤ 1 := by
    show ([] ++ parts t.place (spo t) 1).length ≤ 1
    rw [parts_one _ _ (spo_length t)]; simp
  have hfl : ((d1 s m).push t.place (spo t) 1).flushed.safe.length = 256 := by
    show ((d1 s m).push t.place (spo t) 1).image.length = 256
    rw [hpok.image]; exact hl
  by_cases h0 : m = 0
  · subst h0
    refine (store_none t k b F _ w hD hok hF (by omega) rfl).mono ?_
    rintro e w' ⟨⟨g, rfl⟩, hto⟩
    have hf := found_none s h 0 (by omega) keep
    exact ⟨_, s, _, rfl, hto, hok, hl, Nat.zero_le _, hf.1, hf.2, .inr ⟨⟨g, rfl⟩, .inl rfl⟩⟩
  · by_cases h1 : m = 1
    · subst h1
      refine (store_half t k b F _ w hD hok hF (by omega) (Nat.zero_le _) rfl).mono ?_
      rintro e w' ⟨⟨g, rfl⟩, hto⟩
      rcases found_half s t h k hg hpt keep hpok with hf | hf
      · exact ⟨_, s, _, rfl, hto, hpok, hl, hql, hf.1, hf.2, .inr ⟨⟨g, rfl⟩, .inl rfl⟩⟩
      · exact ⟨_, t, _, rfl, hto, hpok, hl, hql, hf.1, hf.2, .inr ⟨⟨g, rfl⟩, .inr rfl⟩⟩
    · refine (store_full t k b F _ w hD hok hF (by omega) (Nat.zero_le _) (show (m : Int) ≠ 0 by omega) (show (m : Int) ≠ 1 by omega)).mono ?_
      rintro e w' ⟨rfl, hto⟩
      have hf := found_full s t h k hg hpt keep m hpok.flushed hfl
      exact ⟨_, t, _, rfl, hto, hpok.flushed, hfl, Nat.zero_le _, hf.1, hf.2, .inl ⟨rfl, rfl⟩⟩

set_option maxHeartbeats 4000000 in
theorem crash_easy (s : Sp) (calls : Int) (AA : Option Addr) (len cap : Nat) (w : World) (h : 20 < len ∨ ¬ s.right ∨ 1099511627776 ≤ s.gen) : Calls Try.prog 5 #[s.val, .int .u8 calls, .slice AA len cap] w fun e w' => e = .returned (.bool true) ∧ Below w.heap.size w w' := by
  have HAW := Lib.hid awake_any
  have HRR := Lib.hid (rright_any s)
  have HK0 := Lib.hid (Blk.new w 23 s.cellsA)
  have hal : Below w.heap.size w (w.alloc (.cells s.cellsA 23)) := (Below.refl _ _).alloc (Nat.le_refl _) _
  have HA := Lib.hid hal
  clear hal
  by_cases h20 : 20 < len
  · have hi : (20 : Int) < (len : Int) := by omega
    obtain ⟨s1, s2, s3, s4, s5⟩ := s
    unfold Sp.val Sp.cellsA at *
    clear h h20
    go_enter Try.func5, Try.ntmps5
    go_wp2_with fail
    refine (HAW.out _).mono ?_
    rintro e w1 ⟨rfl, hb1⟩
    have hR1 := HK0.out.below hb1 HK0.out.lt
    have c0 : w1.cell? ⟨w.heap.size, 0, none⟩ = some (.int .i64 s1) := hR1.cell 0
    have c1 : w1.cell? ⟨w.heap.size, 1, none⟩ = some (.int .i64 s2) := hR1.cell 1
    have c2 : w1.cell? ⟨w.heap.size, 2, none⟩ = some (.int .i64 s3) := hR1.cell 2
    have c3 : w1.cell? ⟨w.heap.size, 3, none⟩ = some (.int .i64 s4) := hR1.cell 3
    have c4 : w1.cell? ⟨w.heap.size, 4, none⟩ = some (.int .i64 s5) := hR1.cell 4
    have HB1 := Lib.hid (HA.out.trans (hb1.mono HA.out.size))
    have HR1 := Lib.hid hR1
    clear hb1 hR1
    go_wp2_with fail
    refine (HAW.out _).mono ?_
    rintro e w3 ⟨rfl, hb3⟩
    have HB3 := Lib.hid (HB1.out.trans (hb3.mono HB1.out.size))
    go_wp2_with fail
    go_ret
    exact ⟨rfl, HB3.out⟩
  · have hi : ¬ (20 : Int) < (len : Int) := by omega
    by_cases hr : s.right
    · rw [decide_eq_true hr] at HRR
      have hg : 1099511627776 ≤ s.gen := by rcases h with h | h | h; exact absurd h h20; exact absurd hr h; exact h
      obtain ⟨s1, s2, s3, s4, s5⟩ := s
      replace hg : 1099511627776 ≤ s1 := hg
      unfold Sp.val Sp.cellsA at *
      clear h h20 hr
      go_enter Try.func5, Try.ntmps5
      go_wp2_with fail
      refine (HAW.out _).mono ?_
      rintro e w1 ⟨rfl, hb1⟩
      have hR1 := HK0.out.below hb1 HK0.out.lt
      have c0 : w1.cell? ⟨w.heap.size, 0, none⟩ = some (.int .i64 s1) := hR1.cell 0
      have c1 : w1.cell? ⟨w.heap.size, 1, none⟩ = some (.int .i64 s2) := hR1.cell 1
      have c2 : w1.cell? ⟨w.heap.size, 2, none⟩ = some (.int .i64 s3) := hR1.cell 2
      have c3 : w1.cell? ⟨w.heap.size, 3, none⟩ = some (.int .i64 s4) := hR1.cell 3
      have c4 : w1.cell? ⟨w.heap.size, 4, none⟩ = some (.int .i64 s5) := hR1.cell 4
      have HB1 := Lib.hid (HA.out.trans (hb1.mono HA.out.size))
      have HR1 := Lib.hid hR1
      clear hb1 hR1
      go_wp2_with fail
      refine (HRR.out _).mono ?_
      rintro e w2 ⟨rfl, hb2⟩
      have HB2 := Lib.hid (HB1.out.trans (hb2.mono HB1.out.size))
      have hR2 := HR1.out.below hb2 HR1.out.lt
      have d0 : w2.cell? ⟨w.heap.size, 0, none⟩ = some (.int .i64 s1) := hR2.cell 0
      have d1 : w2.cell? ⟨w.heap.size, 1, none⟩ = some (.int .i64 s2) := hR2.cell 1
      have d2 : w2.cell? ⟨w.heap.size, 2, none⟩ = some (.int .i64 s3) := hR2.cell 2
      have d3 : w2.cell? ⟨w.heap.size, 3, none⟩ = some (.int .i64 s4) := hR2.cell 3
      have d4 : w2.cell? ⟨w.heap.size, 4, none⟩ = some (.int .i64 s5) := hR2.cell 4
      clear hb2 hR2 c0 c1 c2 c3 c4
      go_wp2_with fail
      refine (HAW.out _).mono ?_
      rintro e w3 ⟨rfl, hb3⟩
      have HB3 := Lib.hid (HB2.out.trans (hb3.mono HB2.out.size))
      go_wp2_with fail
      go_ret
      exact ⟨rfl, HB3.out⟩
    · rw [decide_eq_false hr] at HRR
      obtain ⟨s1, s2, s3, s4, s5⟩ := s
      unfold Sp.val Sp.cellsA at *
      clear h h20 hr
      go_enter Try.func5, Try.ntmps5
      go_wp2_with fail
      refine (HAW.out _).mono ?_
      rintro e w1 ⟨rfl, hb1⟩
      have hR1 := HK0.out.below hb1 HK0.out.lt
      have c0 : w1.cell? ⟨w.heap.size, 0, none⟩ = some (.int .i64 s1) := hR1.cell 0
      have c1 : w1.cell? ⟨w.heap.size, 1, none⟩ = some (.int .i64 s2) := hR1.cell 1
      have c2 : w1.cell? ⟨w.heap.size, 2, none⟩ = some (.int .i64 s3) := hR1.cell 2
      have c3 : w1.cell? ⟨w.heap.size, 3, none⟩ = some (.int .i64 s4) := hR1.cell 3
      have c4 : w1.cell? ⟨w.heap.size, 4, none⟩ = some (.int .i64 s5) := hR1.cell 4
      have HB1 := Lib.hid (HA.out.trans (hb1.mono HA.out.size))
      have HR1 := Lib.hid hR1
      clear hb1 hR1
      go_wp2_with fail
      refine (HRR.out _).mono ?_
      rintro e w2 ⟨rfl, hb2⟩
      have HB2 := Lib.hid (HB1.out.trans (hb2.mono HB1.out.size))
      have hR2 := HR1.out.below hb2 HR1.out.lt
      have d0 : w2.cell? ⟨w.heap.size, 0, none⟩ = some (.int .i64 s1) := hR2.cell 0
      have d1 : w2.cell? ⟨w.heap.size, 1, none⟩ = some (.int .i64 s2) := hR2.cell 1
      have d2 : w2.cell? ⟨w.heap.size, 2, none⟩ = some (.int .i64 s3) := hR2.cell 2
      have d3 : w2.cell? ⟨w.heap.size, 3, none⟩ = some (.int .i64 s4) := hR2.cell 3
      have d4 : w2.cell? ⟨w.heap.size, 4, none⟩ = some (.int .i64 s5) := hR2.cell 4
      clear hb2 hR2 c0 c1 c2 c3 c4
      go_wp2_with fail
      refine (HAW.out _).mono ?_
      rintro e w3 ⟨rfl, hb3⟩
      have HB3 := Lib.hid (HB2.out.trans (hb3.mono HB2.out.size))
      go_wp2_with fail
      go_ret
      exact ⟨rfl, HB3.out⟩

set_option maxHeartbeats 8000000 in
theorem crash_main (s : Sp) (m : Nat) (calls : Int) (hm : m ≤ 3) (hcm : calls.tmod 4 = m) (hcw : 0 ≤ calls ∧ calls ≤ 255) (AA : Option Addr) (len cap : Nat) (keep : List Int) (w : World) (hk : keep.length = len) (hK : Sees w 1 AA len (keep.map (.int .i64))) (h20 : len ≤ 20) (hr : s.right) (hg : s.gen < 1099511627776) :
    Calls Try.prog 5 #[s.val, .int .u8 calls, .slice AA len cap] w fun e w' => e = .returned (.bool true) ∧ Below w.heap.size w w' := by
  have HAW := Lib.hid awake_any
  have HRR := Lib.hid (rright_any s)
  rw [decide_eq_true hr] at HRR
  have HNEW := Lib.hid (fun w => new_good 2 w (by omega) (by omega))
  have HST := Lib.hid (store_fresh 2 (by omega) (by omega) s hr)
  have hi : ¬ (20 : Int) < (len : Int) := by omega
  obtain ⟨s1, s2, s3, s4, s5⟩ := s
  replace hg : s1 < 1099511627776 := hg
  have hr' := hr
  obtain ⟨r1, r2, r3, r4, r5, r6, r7, r8, r9, r10⟩ := hr'
  simp only at r1 r2 r3 r4 r5 r6 r7 r8 r9 r10
  obtain ⟨n1, hn1⟩ : ∃ x, x = s1 + 1 := ⟨_, rfl⟩
  obtain ⟨n2, hn2⟩ : ∃ x, x = (s2 + 1).tmod 1099511627776 := ⟨_, rfl⟩
  have hn2b : 0 ≤ n2 ∧ n2 < 1099511627776 := by rw [hn2, Int.tmod_eq_emod_of_nonneg (by omega)]; omega
  have hnr : (Sp.mk n1 n2 s3 s4 s5).right := ⟨by show 1 ≤ n1; omega, by show n1 ≤ _; omega, hn2b.1, by show n2 ≤ _; omega, r5, r6, r7, r8, r9, r10⟩
  have HNX := Lib.hid (fun b F w => store_next ⟨s1, s2, s3, s4, s5⟩ ⟨n1, n2, s3, s4, s5⟩ hr hnr hn1 keep m hm b F w)
  have HLM := Lib.hid (fun b F w => limit_any b m (by omega) F (stored 2 ⟨s1, s2, s3, s4, s5⟩) w)
  have HCR := Lib.hid (fun b F (D : Dk) w hD hok hq hS hA => crash_any b F D AA len cap keep w hD hok hk (by unfold maxLen; omega) hq hS hA)
  have HFI := Lib.hid (fun b F (D : Dk) w hD hok hF (hl : 256 ≤ D.safe.length) hn => find_two b F (D.crashed keep) w _ hD (Dk.Ok.crashed hok keep) hF (by show 256 ≤ (crashS D keep).1.length; rw [crash_length D hok keep]; exact hl) rfl rfl ⟨hn, rfl⟩)
  have HKS := Lib.hid hK
  have hw1 : IntKind.i64.wrap n1 = n1 := IntWalk.i64_in _ (by omega)
  have hw2 : IntKind.i64.wrap (s2 + 1) = s2 + 1 := IntWalk.i64_in _ (by omega)
  have hw3 : IntKind.i64.wrap n2 = n2 := IntWalk.i64_in _ (by omega)
  have hw4 : IntKind.i64.wrap calls = calls := IntWalk.i64_in _ (by omega)
  have hw5 : IntKind.i64.wrap (m : Int) = (m : Int) := IntWalk.i64_in _ (by omega)
  have hne : (s1 == n1) = false := by rw [beq_eq_false_iff_ne]; omega
  have hne2 : ¬ s1 = n1 := by omega
  have hng : decide ((1099511627776 : Int) ≤ s1) = false := decide_eq_false (by omega)
  replace hi : decide ((20 : Int) < (len : Int)) = false := decide_eq_false hi
  replace hn1 : s1 + 1 = n1 := hn1.symm
  replace hn2 : (s2 + 1).tmod 1099511627776 = n2 := hn2.symm
  have HSZ := Lib.hid (show (Try.prog.info? 23).map (·.size) = some 5 by kernel_rfl)
  have HK0 := Lib.hid (Blk.new w 23 #[.int .i64 s1, .int .i64 s2, .int .i64 s3, .int .i64 s4, .int .i64 s5])
  have hal : Below w.heap.size w (w.alloc (.cells #[.int .i64 s1, .int .i64 s2, .int .i64 s3, .int .i64 s4, .int .i64 s5] 23)) := (Below.refl _ _).alloc (Nat.le_refl _) _
  have HA := Lib.hid hal
  have HG := Lib.hid (And.intro hnr hn1)
  clear hal hr hnr hK r1 r2 r3 r4 r5 r6 r7 r8 r9 r10 hn2b hk h20
  unfold Sp.val at *
  go_enter Try.func5, Try.ntmps5
  go_wp2_with fail
  refine (HAW.out _).mono ?_
  rintro e w1 ⟨rfl, hb1⟩
  have hR1 := HK0.out.below hb1 HK0.out.lt
  have c0 : w1.cell? ⟨w.heap.size, 0, none⟩ = some (.int .i64 s1) := hR1.cell 0
  have c1 : w1.cell? ⟨w.heap.size, 1, none⟩ = some (.int .i64 s2) := hR1.cell 1
  have c2 : w1.cell? ⟨w.heap.size, 2, none⟩ = some (.int .i64 s3) := hR1.cell 2
  have c3 : w1.cell? ⟨w.heap.size, 3, none⟩ = some (.int .i64 s4) := hR1.cell 3
  have c4 : w1.cell? ⟨w.heap.size, 4, none⟩ = some (.int .i64 s5) := hR1.cell 4
  have HB1 := Lib.hid (HA.out.trans (hb1.mono HA.out.size))
  have HR1 := Lib.hid hR1
  clear hb1 hR1 HAW
  go_wp2_with fail
  refine (HRR.out _).mono ?_
  rintro e w2 ⟨rfl, hb2⟩
  have hR2 := HR1.out.below hb2 HR1.out.lt
  have HB2 := Lib.hid (HB1.out.trans (hb2.mono HB1.out.size))
  have d0 : w2.cell? ⟨w.heap.size, 0, none⟩ = some (.int .i64 s1) := hR2.cell 0
  have d1 : w2.cell? ⟨w.heap.size, 1, none⟩ = some (.int .i64 s2) := hR2.cell 1
  have d2 : w2.cell? ⟨w.heap.size, 2, none⟩ = some (.int .i64 s3) := hR2.cell 2
  have d3 : w2.cell? ⟨w.heap.size, 3, none⟩ = some (.int .i64 s4) := hR2.cell 3
  have d4 : w2.cell? ⟨w.heap.size, 4, none⟩ = some (.int .i64 s5) := hR2.cell 4
  have HR2 := Lib.hid hR2
  clear hb2 hR2 c0 c1 c2 c3 c4 HR1 HB1 HRR
  go_wp2_with fail
  refine (HNEW.out _).mono ?_
  rintro e w3 ⟨⟨b, F, rfl, hD, hF⟩, hb3⟩
  have hR3 := HR2.out.below hb3 HR2.out.lt
  have hlt2 := HR2.out.lt
  obtain ⟨B, hB⟩ : ∃ B, B = w2.heap.size := ⟨_, rfl⟩
  rw [← hB] at hF hlt2
  have HB3 := Lib.hid (HB2.out.trans (hb3.mono HB2.out.size))
  have HW0 := Lib.hid (show w.heap.size < B ∧ w.heap.size ≤ w.heap.size from ⟨hlt2, Nat.le_refl _⟩)
  have c0 : w3.cell? ⟨w.heap.size, 0, none⟩ = some (.int .i64 s1) := hR3.cell 0
  have c1 : w3.cell? ⟨w.heap.size, 1, none⟩ = some (.int .i64 s2) := hR3.cell 1
  have c2 : w3.cell? ⟨w.heap.size, 2, none⟩ = some (.int .i64 s3) := hR3.cell 2
  have c3 : w3.cell? ⟨w.heap.size, 3, none⟩ = some (.int .i64 s4) := hR3.cell 3
  have c4 : w3.cell? ⟨w.heap.size, 4, none⟩ = some (.int .i64 s5) := hR3.cell 4
  have HX := Lib.hid (HST.out b F w3 hD (fun k hk => (hF k hk).2))
  have HF3 := Lib.hid (And.intro hF (show B ≤ w3.heap.size by rw [hB]; exact hb3.size))
  have HR3 := Lib.hid hR3
  clear hD hF hb3 hR3 d0 d1 d2 d3 d4 HR2 HB2 HNEW HST hlt2 hB
  go_wp2_with fail
  refine HX.out.mono ?_
  rintro e w4 ⟨rfl, hto⟩
  obtain ⟨F4, hD4, hF4, -, -, hb4⟩ := hto.next (B := B) (fun k hk => (HF3.out.1 k hk).1) HF3.out.2
  have hR4 := HR3.out.below hb4 HW0.out.1
  have d0 : w4.cell? ⟨w.heap.size, 0, none⟩ = some (.int .i64 s1) := hR4.cell 0
  have d1 : w4.cell? ⟨w.heap.size, 1, none⟩ = some (.int .i64 s2) := hR4.cell 1
  have d2 : w4.cell? ⟨w.heap.size, 2, none⟩ = some (.int .i64 s3) := hR4.cell 2
  have d3 : w4.cell? ⟨w.heap.size, 3, none⟩ = some (.int .i64 s4) := hR4.cell 3
  have d4 : w4.cell? ⟨w.heap.size, 4, none⟩ = some (.int .i64 s5) := hR4.cell 4
  have HB4 := Lib.hid (HB3.out.trans (hb4.mono (Nat.le_of_lt HW0.out.1)))
  have hal4 := alloc_row w4 23 #[.int .i64 0, .int .i64 0, .int .i64 0, .int .i64 0, .int .i64 0] #[.int .i64 s1, .int .i64 s2, .int .i64 s3, .int .i64 s4, .int .i64 s5]
  have HK4 := Lib.hid (Blk.new w4 23 #[.int .i64 0, .int .i64 0, .int .i64 0, .int .i64 0, .int .i64 0])
  have hg9 : B ≤ w4.heap.size := Nat.le_trans HF3.out.2 hb4.size
  -- the copy, then its two fields
  have HW4 := Lib.hid (And.intro (hR4.below hal4.2 hR4.lt) (And.intro hal4.1 (And.intro (hD4.below hal4.2) (And.intro hal4.2 (And.intro hF4 hg9)))))
  clear hto hD4 hF4 hb4 hR4 hal4 c0 c1 c2 c3 c4 HR3 HX HF3 HB3 hg9
  go_wp2_with (have hk4 := HK4.out; refine wpList_store_row rfl 23 (.tmp 9) (.tmp 43) rfl w4.heap.size _ rfl rfl 23 _ HK4.out (by exact HSZ.out) (Eq.refl 5) (by simp [Value.oneCell']) ?_; generalize (World.setRow _ _ _) = W4 at *; clear HK4 hk4 d0 d1 d2 d3 d4; have c0 : W4.cell? ⟨w4.heap.size, 0, none⟩ = some (.int .i64 s1) := HW4.out.2.1.cell 0; have c1 : W4.cell? ⟨w4.heap.size, 1, none⟩ = some (.int .i64 s2) := HW4.out.2.1.cell 1; have c2 : W4.cell? ⟨w4.heap.size, 2, none⟩ = some (.int .i64 s3) := HW4.out.2.1.cell 2; have c3 : W4.cell? ⟨w4.heap.size, 3, none⟩ = some (.int .i64 s4) := HW4.out.2.1.cell 3; have c4 : W4.cell? ⟨w4.heap.size, 4, none⟩ = some (.int .i64 s5) := HW4.out.2.1.cell 4; have d0 : W4.cell? ⟨w.heap.size, 0, none⟩ = some (.int .i64 s1) := HW4.out.1.cell 0; have d1 : W4.cell? ⟨w.heap.size, 1, none⟩ = some (.int .i64 s2) := HW4.out.1.cell 1; have d2 : W4.cell? ⟨w.heap.size, 2, none⟩ = some (.int .i64 s3) := HW4.out.1.cell 2; have d3 : W4.cell? ⟨w.heap.size, 3, none⟩ = some (.int .i64 s4) := HW4.out.1.cell 3; have d4 : W4.cell? ⟨w.heap.size, 4, none⟩ = some (.int .i64 s5) := HW4.out.1.cell 4; have hf0 : W4.frozen? ⟨w4.heap.size, 0, none⟩ = false := HW4.out.2.1.frozen 0; have hf1 : W4.frozen? ⟨w4.heap.size, 1, none⟩ = false := HW4.out.2.1.frozen 1)
  obtain ⟨g9, hg9⟩ : ∃ g, g = w4.heap.size := ⟨_, rfl⟩
  obtain ⟨hS4, hT4, hD4, hb4, hF4, hB9⟩ := HW4.out
  rw [← hg9] at hT4 hb4 hF4 hB9 ⊢
  have hne9 : w.heap.size ≠ g9 := by have := HW0.out.1; omega
  have hTX : Blk ((W4.setCell ⟨g9, 0, none⟩ (.int .i64 n1)).setCell ⟨g9, 1, none⟩ (.int .i64 n2)) g9 23 #[.int .i64 n1, .int .i64 n2, .int .i64 s3, .int .i64 s4, .int .i64 s5] := (hT4.set_ 0 (.int .i64 n1)).set_ 1 (.int .i64 n2)
  have hSX : Blk ((W4.setCell ⟨g9, 0, none⟩ (.int .i64 n1)).setCell ⟨g9, 1, none⟩ (.int .i64 n2)) w.heap.size 23 #[.int .i64 s1, .int .i64 s2, .int .i64 s3, .int .i64 s4, .int .i64 s5] := (hS4.far hne9 _).far hne9 _
  have hfX : Fr (· = g9) W4 ((W4.setCell ⟨g9, 0, none⟩ (.int .i64 n1)).setCell ⟨g9, 1, none⟩ (.int .i64 n2)) := (show Fr (· = g9) W4 _ from Fr.setCell W4 ⟨g9, 0, none⟩ (.int .i64 n1) rfl).trans (show Fr (· = g9) _ _ from Fr.setCell _ ⟨g9, 1, none⟩ (.int .i64 n2) rfl) (fun _ _ h => h)
  have hDX := hD4.fr hfX (fun k hk => by have := (hF4 k hk).2; omega)
  have hBX : Below w.heap.size w ((W4.setCell ⟨g9, 0, none⟩ (.int .i64 n1)).setCell ⟨g9, 1, none⟩ (.int .i64 n2)) := ((HB4.out.trans (hb4.mono (by have := HW0.out.1; omega))).setCell (by show w.heap.size ≤ g9; have := HW0.out.1; omega) _).setCell (by show w.heap.size ≤ g9; have := HW0.out.1; omega) _
  have hszX : ((W4.setCell ⟨g9, 0, none⟩ (.int .i64 n1)).setCell ⟨g9, 1, none⟩ (.int .i64 n2)).heap.size = W4.heap.size := by simp [World.setCell]
  have h49 : g9 < W4.heap.size := hT4.lt
  clear c0 c1 c2 c3 c4 d0 d1 d2 d3 d4 hf0 hf1 hS4 hT4 hfX hD4 hb4 HW4 HB4 HK0 HA
  generalize ((W4.setCell ⟨g9, 0, none⟩ (.int .i64 n1)).setCell ⟨g9, 1, none⟩ (.int .i64 n2)) = WX at *
  refine (HLM.out b F4 WX hDX).mono ?_
  rintro e w5 ⟨rfl, hto⟩
  obtain ⟨F5, hD5, hF5, hk5, hf5, hb5⟩ := hto.next (B := B) (fun k hk => (hF4 k hk).1) (by omega)
  have hn4 : ¬ F4 g9 := fun h => by have := (hF4 g9 h).2; omega
  have hn5 : ¬ F5 g9 := fun h => hn4 (hk5 g9 (by omega) h)
  have hT5 := hTX.fr hf5 hn4
  have hS5 := hSX.below hb5 HW0.out.1
  have HB5 := Lib.hid (hBX.trans (hb5.mono (Nat.le_of_lt HW0.out.1)))
  have HX5 := Lib.hid (HNX.out b F5 w5 hD5 (fun k hk => (hF5 k hk).2))
  have c0 : w5.cell? ⟨g9, 0, none⟩ = some (.int .i64 n1) := hT5.cell 0
  have c1 : w5.cell? ⟨g9, 1, none⟩ = some (.int .i64 n2) := hT5.cell 1
  have c2 : w5.cell? ⟨g9, 2, none⟩ = some (.int .i64 s3) := hT5.cell 2
  have c3 : w5.cell? ⟨g9, 3, none⟩ = some (.int .i64 s4) := hT5.cell 3
  have c4 : w5.cell? ⟨g9, 4, none⟩ = some (.int .i64 s5) := hT5.cell 4
  have H5 := Lib.hid (And.intro hS5 (And.intro hT5 (And.intro (fun k hk => (hF5 k hk).1 : ∀ k, F5 k → B ≤ k) (And.intro hn5 (show B ≤ w5.heap.size ∧ g9 < w5.heap.size from ⟨by have := hT5.lt; omega, hT5.lt⟩)))))
  have HG9 := Lib.hid hg9
  clear hto hD5 hF5 hk5 hf5 hb5 hn4 hn5 hT5 hS5 hBX hDX hTX hSX hF4 hszX h49 hne9 hB9 hg9 HLM HNX
  go_wp2_with fail
  refine HX5.out.mono ?_
  rintro e w6 ⟨er, x, D, rfl, hto, hok, hl, hq, hnO, hnS, hcs⟩
  obtain ⟨hS5, hT5, hF5, hn5, hB5, h95⟩ := H5.out
  obtain ⟨F6, hD6, hF6, hk6, hf6, hb6⟩ := hto.next (B := B) hF5 hB5
  have hn6 : ¬ F6 g9 := fun h => hn5 (hk6 g9 h95 h)
  have hT6 := hT5.fr hf6 hn5
  have hS6 := hS5.below hb6 HW0.out.1
  have HB6 := Lib.hid (HB5.out.trans (hb6.mono (Nat.le_of_lt HW0.out.1)))
  have HX6 := Lib.hid (HCR.out b F6 D w6 hD6 hok (by omega) (HKS.out.below HB6.out) (fun h0 a ha hFa => by have h1 := HKS.out.lt h0 (by omega) a ha; have h2 := (hF6 _ hFa).1; have := HW0.out.1; omega))
  have H6 := Lib.hid (And.intro hS6 (And.intro hT6 (And.intro (fun k hk => (hF6 k hk).1 : ∀ k, F6 k → B ≤ k) (And.intro hn6 (show B ≤ w6.heap.size ∧ g9 < w6.heap.size from ⟨Nat.le_trans hB5 hb6.size, hT6.lt⟩)))))
  have HDD := Lib.hid (And.intro hok (And.intro hl (And.intro hnO hnS)))
  have HCS := Lib.hid hcs
  clear hto hok hl hq hnO hnS hcs hS5 hT5 hF5 hn5 hB5 h95 hD6 hF6 hk6 hf6 hb6 hn6 hT6 hS6 H5 HX5 HB5 HCR c0 c1 c2 c3 c4
  go_wp2_with fail
  refine HX6.out.mono ?_
  rintro e w7 ⟨rfl, hto⟩
  obtain ⟨hS6, hT6, hF6, hn6, hB6, h96⟩ := H6.out
  obtain ⟨F7, hD7, hF7, hk7, hf7, hb7⟩ := hto.next (B := B) hF6 hB6
  have hn7 : ¬ F7 g9 := fun h => hn6 (hk7 g9 h96 h)
  have hT7 := hT6.fr hf7 hn6
  have hS7 := hS6.below hb7 HW0.out.1
  have HB7 := Lib.hid (HB6.out.trans (hb7.mono (Nat.le_of_lt HW0.out.1)))
  have hx7 := HFI.out b F7 D w7 hD7 HDD.out.1 (fun k hk => (hF7 k hk).2) (by rw [HDD.out.2.1]; omega) HDD.out.2.2.1
  rw [HDD.out.2.2.2] at hx7
  have HX7 := Lib.hid hx7
  have H7 := Lib.hid (And.intro hS7 (And.intro hT7 (And.intro (fun k hk => (hF7 k hk).1 : ∀ k, F7 k → B ≤ k) (And.intro hn7 (show B ≤ w7.heap.size ∧ g9 < w7.heap.size from ⟨Nat.le_trans hB6 hb7.size, hT7.lt⟩)))))
  clear hx7 hto hS6 hT6 hF6 hn6 hB6 h96 hD7 hF7 hk7 hf7 hb7 hn7 hT7 hS7 H6 HX6 HB6 HFI HDD
  obtain ⟨x1, x2, x3, x4, x5⟩ := x
  unfold Sp.val at *
  go_wp2_with fail
  refine HX7.out.mono ?_
  rintro e w9 ⟨rfl, hto⟩
  obtain ⟨hS7, hT7, hF7, hn7, hB7, h97⟩ := H7.out
  obtain ⟨F8, hD8, hF8, hk8, hf8, hb8⟩ := hto.next (B := B) hF7 hB7
  have H9 := Lib.hid (And.intro (hS7.below hb8 HW0.out.1) (And.intro (hT7.fr hf8 hn7) (HB7.out.trans (hb8.mono (Nat.le_of_lt HW0.out.1)))))
  clear hto hS7 hT7 hF7 hn7 hB7 h97 hD8 hF8 hk8 hf8 hb8 H7 HX7 HB7
  have hcs := HCS.out
  rw [HG9.out] at H9 ⊢
  clear HCS HG9
  rcases hcs with ⟨rfl, hx⟩ | ⟨⟨g, rfl⟩, hx | hx⟩
  · injection hx with q1 q2 q3 q4 q5
    subst q1 q2 q3 q4 q5
    have hal9 := alloc_row w9 23 #[.int .i64 0, .int .i64 0, .int .i64 0, .int .i64 0, .int .i64 0] #[.int .i64 x1, .int .i64 x2, .int .i64 x3, .int .i64 x4, .int .i64 x5]
    have HK9 := Lib.hid (Blk.new w9 23 #[.int .i64 0, .int .i64 0, .int .i64 0, .int .i64 0, .int .i64 0])
    have HW9 := Lib.hid (And.intro (H9.out.1.below hal9.2 H9.out.1.lt) (And.intro (H9.out.2.1.below hal9.2 H9.out.2.1.lt) (And.intro hal9.1 (H9.out.2.2.trans (hal9.2.mono H9.out.2.2.size)))))
    clear hal9 H9
    go_wp2_with (have hk9 := HK9.out; refine wpList_store_row rfl 23 (.tmp 11) (.tmp 67) rfl w9.heap.size _ rfl rfl 23 _ HK9.out (by exact HSZ.out) (Eq.refl 5) (by simp [Value.oneCell']) ?_; generalize (World.setRow _ _ _) = W9 at *; clear HK9 hk9; have a0 : W9.cell? ⟨w4.heap.size, 0, none⟩ = some (.int .i64 x1) := HW9.out.2.1.cell 0; have a1 : W9.cell? ⟨w4.heap.size, 1, none⟩ = some (.int .i64 x2) := HW9.out.2.1.cell 1; have a2 : W9.cell? ⟨w4.heap.size, 2, none⟩ = some (.int .i64 x3) := HW9.out.2.1.cell 2; have a3 : W9.cell? ⟨w4.heap.size, 3, none⟩ = some (.int .i64 x4) := HW9.out.2.1.cell 3; have a4 : W9.cell? ⟨w4.heap.size, 4, none⟩ = some (.int .i64 x5) := HW9.out.2.1.cell 4; have b0 : W9.cell? ⟨w.heap.size, 0, none⟩ = some (.int .i64 s1) := HW9.out.1.cell 0; have b1 : W9.cell? ⟨w.heap.size, 1, none⟩ = some (.int .i64 s2) := HW9.out.1.cell 1; have b2 : W9.cell? ⟨w.heap.size, 2, none⟩ = some (.int .i64 x3) := HW9.out.1.cell 2; have b3 : W9.cell? ⟨w.heap.size, 3, none⟩ = some (.int .i64 x4) := HW9.out.1.cell 3; have b4 : W9.cell? ⟨w.heap.size, 4, none⟩ = some (.int .i64 x5) := HW9.out.1.cell 4; have e0 : W9.cell? ⟨w9.heap.size, 0, none⟩ = some (.int .i64 x1) := HW9.out.2.2.1.cell 0; have e1 : W9.cell? ⟨w9.heap.size, 1, none⟩ = some (.int .i64 x2) := HW9.out.2.2.1.cell 1; have e2 : W9.cell? ⟨w9.heap.size, 2, none⟩ = some (.int .i64 x3) := HW9.out.2.2.1.cell 2; have e3 : W9.cell? ⟨w9.heap.size, 3, none⟩ = some (.int .i64 x4) := HW9.out.2.2.1.cell 3; have e4 : W9.cell? ⟨w9.heap.size, 4, none⟩ = some (.int .i64 x5) := HW9.out.2.2.1.cell 4)
    go_ret
    exact ⟨rfl, HW9.out.2.2.2⟩
  · injection hx with q1 q2 q3 q4 q5
    subst q1 q2 q3 q4 q5
    have hal9 := alloc_row w9 23 #[.int .i64 0, .int .i64 0, .int .i64 0, .int .i64 0, .int .i64 0] #[.int .i64 x1, .int .i64 x2, .int .i64 x3, .int .i64 x4, .int .i64 x5]
    have HK9 := Lib.hid (Blk.new w9 23 #[.int .i64 0, .int .i64 0, .int .i64 0, .int .i64 0, .int .i64 0])
    have HW9 := Lib.hid (And.intro (H9.out.1.below hal9.2 H9.out.1.lt) (And.intro (H9.out.2.1.below hal9.2 H9.out.2.1.lt) (And.intro hal9.1 (H9.out.2.2.trans (hal9.2.mono H9.out.2.2.size)))))
    clear hal9 H9
    go_wp2_with (have hk9 := HK9.out; refine wpList_store_row rfl 23 (.tmp 11) (.tmp 67) rfl w9.heap.size _ rfl rfl 23 _ HK9.out (by exact HSZ.out) (Eq.refl 5) (by simp [Value.oneCell']) ?_; generalize (World.setRow _ _ _) = W9 at *; clear HK9 hk9; have a0 : W9.cell? ⟨w4.heap.size, 0, none⟩ = some (.int .i64 n1) := HW9.out.2.1.cell 0; have a1 : W9.cell? ⟨w4.heap.size, 1, none⟩ = some (.int .i64 n2) := HW9.out.2.1.cell 1; have a2 : W9.cell? ⟨w4.heap.size, 2, none⟩ = some (.int .i64 x3) := HW9.out.2.1.cell 2; have a3 : W9.cell? ⟨w4.heap.size, 3, none⟩ = some (.int .i64 x4) := HW9.out.2.1.cell 3; have a4 : W9.cell? ⟨w4.heap.size, 4, none⟩ = some (.int .i64 x5) := HW9.out.2.1.cell 4; have b0 : W9.cell? ⟨w.heap.size, 0, none⟩ = some (.int .i64 x1) := HW9.out.1.cell 0; have b1 : W9.cell? ⟨w.heap.size, 1, none⟩ = some (.int .i64 x2) := HW9.out.1.cell 1; have b2 : W9.cell? ⟨w.heap.size, 2, none⟩ = some (.int .i64 x3) := HW9.out.1.cell 2; have b3 : W9.cell? ⟨w.heap.size, 3, none⟩ = some (.int .i64 x4) := HW9.out.1.cell 3; have b4 : W9.cell? ⟨w.heap.size, 4, none⟩ = some (.int .i64 x5) := HW9.out.1.cell 4; have e0 : W9.cell? ⟨w9.heap.size, 0, none⟩ = some (.int .i64 x1) := HW9.out.2.2.1.cell 0; have e1 : W9.cell? ⟨w9.heap.size, 1, none⟩ = some (.int .i64 x2) := HW9.out.2.2.1.cell 1; have e2 : W9.cell? ⟨w9.heap.size, 2, none⟩ = some (.int .i64 x3) := HW9.out.2.2.1.cell 2; have e3 : W9.cell? ⟨w9.heap.size, 3, none⟩ = some (.int .i64 x4) := HW9.out.2.2.1.cell 3; have e4 : W9.cell? ⟨w9.heap.size, 4, none⟩ = some (.int .i64 x5) := HW9.out.2.2.1.cell 4)
    go_ret
    exact ⟨rfl, HW9.out.2.2.2⟩
  · injection hx with q1 q2 q3 q4 q5
    subst q1 q2 q3 q4 q5
    have hal9 := alloc_row w9 23 #[.int .i64 0, .int .i64 0, .int .i64 0, .int .i64 0, .int .i64 0] #[.int .i64 x1, .int .i64 x2, .int .i64 x3, .int .i64 x4, .int .i64 x5]
    have HK9 := Lib.hid (Blk.new w9 23 #[.int .i64 0, .int .i64 0, .int .i64 0, .int .i64 0, .int .i64 0])
    have HW9 := Lib.hid (And.intro (H9.out.1.below hal9.2 H9.out.1.lt) (And.intro (H9.out.2.1.below hal9.2 H9.out.2.1.lt) (And.intro hal9.1 (H9.out.2.2.trans (hal9.2.mono H9.out.2.2.size)))))
    clear hal9 H9
    go_wp2_with (have hk9 := HK9.out; refine wpList_store_row rfl 23 (.tmp 11) (.tmp 67) rfl w9.heap.size _ rfl rfl 23 _ HK9.out (by exact HSZ.out) (Eq.refl 5) (by simp [Value.oneCell']) ?_; generalize (World.setRow _ _ _) = W9 at *; clear HK9 hk9; have a0 : W9.cell? ⟨w4.heap.size, 0, none⟩ = some (.int .i64 x1) := HW9.out.2.1.cell 0; have a1 : W9.cell? ⟨w4.heap.size, 1, none⟩ = some (.int .i64 x2) := HW9.out.2.1.cell 1; have a2 : W9.cell? ⟨w4.heap.size, 2, none⟩ = some (.int .i64 x3) := HW9.out.2.1.cell 2; have a3 : W9.cell? ⟨w4.heap.size, 3, none⟩ = some (.int .i64 x4) := HW9.out.2.1.cell 3; have a4 : W9.cell? ⟨w4.heap.size, 4, none⟩ = some (.int .i64 x5) := HW9.out.2.1.cell 4; have b0 : W9.cell? ⟨w.heap.size, 0, none⟩ = some (.int .i64 s1) := HW9.out.1.cell 0; have b1 : W9.cell? ⟨w.heap.size, 1, none⟩ = some (.int .i64 s2) := HW9.out.1.cell 1; have b2 : W9.cell? ⟨w.heap.size, 2, none⟩ = some (.int .i64 x3) := HW9.out.1.cell 2; have b3 : W9.cell? ⟨w.heap.size, 3, none⟩ = some (.int .i64 x4) := HW9.out.1.cell 3; have b4 : W9.cell? ⟨w.heap.size, 4, none⟩ = some (.int .i64 x5) := HW9.out.1.cell 4; have e0 : W9.cell? ⟨w9.heap.size, 0, none⟩ = some (.int .i64 x1) := HW9.out.2.2.1.cell 0; have e1 : W9.cell? ⟨w9.heap.size, 1, none⟩ = some (.int .i64 x2) := HW9.out.2.2.1.cell 1; have e2 : W9.cell? ⟨w9.heap.size, 2, none⟩ = some (.int .i64 x3) := HW9.out.2.2.1.cell 2; have e3 : W9.cell? ⟨w9.heap.size, 3, none⟩ = some (.int .i64 x4) := HW9.out.2.2.1.cell 3; have e4 : W9.cell? ⟨w9.heap.size, 4, none⟩ = some (.int .i64 x5) := HW9.out.2.2.1.cell 4)
    go_ret
    exact ⟨rfl, HW9.out.2.2.2⟩

theorem crash_walk (s : Sp) (calls : Int) (AA : Option Addr) (len cap : Nat) (zs : List Int) (w : World) (hc : (Lit.int .u8 calls).wf = true) (hrow : IsRow .i64 w AA len cap zs) :
    Calls Try.prog 5 #[s.val, .int .u8 calls, .slice AA len cap] w fun e w' => e = .returned (.bool true) ∧ Below w.heap.size w w' := by
  by_cases h : 20 < len ∨ ¬ s.right ∨ 1099511627776 ≤ s.gen
  · exact crash_easy s calls AA len cap w h
  · obtain ⟨h1, h2, -, -, -⟩ := hrow.sees
    have hcw := wf_u8 hc
    have hr : s.right := by
      rcases Decidable.em s.right with k | k
      · exact k
      · exact absurd (.inr (.inl k)) h
    have hg : s.gen < 1099511627776 := by
      rcases Int.lt_or_le s.gen 1099511627776 with k | k
      · exact k
      · exact absurd (.inr (.inr k)) h
    have hl : len ≤ 20 := by
      rcases Nat.lt_or_ge 20 len with k | k
      · exact absurd (.inl k) h
      · exact k
    refine crash_main s (calls.toNat % 4) calls (by omega) ?_ hcw AA len cap (zs.take len) w h2 h1 hl hr hg
    rw [Int.tmod_eq_emod_of_nonneg hcw.1]
    omega
end Go.Proofs.Ytdkfijkggccafaa

