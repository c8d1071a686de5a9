/-
  awake.
-/
import Derived.Test.YtnlghpopjckhiaaKey14
import Derived.Test.YtnlghpopjckhiaaTree
namespace Go.Proofs.Ytnlghpopjckhiaa
set_option maxRecDepth 4000
open Go.RowKit

theorem open_dk (b : Nat) (P : List Sl) (F : Nat → Prop) (w : World) (hD : DiskAt w b F (dk P (-1))) (hF : ∀ k, F k → k < w.heap.size) (h0 : 1 ≤ P.length) (h64 : P.length ≤ 64)
    (hP : ∀ s ∈ P, SlOk s) (huniq : ∀ (i j : Nat) (p q : Nat × List UInt8) (Y Z : List UInt8), P[i]? = some (some p, Y) → P[j]? = some (some q, Z) → p.1 = q.1 → i = j) :
    Calls Try.prog 8 #[.pointer (some ⟨b, 0, none⟩), .int .i64 (0 : Nat), .int .i64 P.length] w fun e w' => ∃ (t sg : Nat) (E : List (Option Ke)) (D' : Dk), e = .returned (.tuple #[.pointer (some ⟨t, 0, none⟩), Value.nilIface]) ∧ E.length = P.length ∧
      (∀ (k : Nat) (s : Sl), P[k]? = some s → ∃ e, E[k]? = some e ∧ keD e = oD s.1) ∧ KTo w F t b sg (0 : Nat) E false D' w' ∧ ((∀ s ∈ P, enc s.1 = s.2) → D' = dk P (-1)) := by
  have hl := slos_length hP
  refine open_any' b 0 P _ F w hD hF (dk_ok hP h0 h64 (by omega) (by omega)) rfl rfl (by omega) h0 h64 (by show _ ≤ (slos P).length; omega) hP ?_ huniq
  show ((slos P).drop (0 * 128)).take (2 * P.length * 128) = slos P
  rw [Nat.zero_mul, List.drop_zero, List.take_of_length_le (by omega)]

theorem keD_none {e : Option Ke} (h : keD e = none) : e = none := by
  cases e with
  | none => rfl
  | some e => cases h
/-- On a fresh disk. -/
theorem open_fresh (n : Nat) (h0 : 1 ≤ n) (h64 : n ≤ 64) (b : Nat) (F : Nat → Prop) (w : World) (hD : DiskAt w b F (Dk.new (2 * n))) (hF : ∀ k, F k → k < w.heap.size) :
    Calls Try.prog 8 #[.pointer (some ⟨b, 0, none⟩), .int .i64 (0 : Nat), .int .i64 n] w fun e w' => ∃ (t sg : Nat), e = .returned (.tuple #[.pointer (some ⟨t, 0, none⟩), Value.nilIface]) ∧
      KTo w F t b sg (0 : Nat) (List.replicate n none) false (dk (cl (List.replicate n none)) (-1)) w' := by
  rw [dk_new] at hD
  have hQ : ∀ q ∈ List.replicate n (none : Kd), KdOk q := fun q hq => by
    rw [List.eq_of_mem_replicate hq]
    intro p hp; cases hp
  have hn : ∀ (k : Nat) (s : Sl), (cl (List.replicate n none))[k]? = some s → s.1 = none := fun k s hs => by
    unfold cl at hs
    rw [List.getElem?_map, List.getElem?_replicate] at hs
    split at hs
    · injection hs with hs; rw [← hs]
    · cases hs
  have h := open_dk b (cl (List.replicate n none)) F w hD hF (by rw [cl_length, List.length_replicate]; exact h0) (by rw [cl_length, List.length_replicate]; exact h64) (cl_ok hQ) (fun i j p q Y Z h1 => by have := hn i _ h1; cases this)
  rw [cl_length, List.length_replicate] at h
  refine h.mono ?_
  rintro e w' ⟨t, sg, E, D', he, hl, hE, hto, hsame⟩
  have hD' : D' = dk (cl (List.replicate n none)) (-1) := hsame fun s hs => by
    obtain ⟨q, hq, rfl⟩ := List.mem_map.1 hs
    rfl
  have hEE : E = List.replicate n none := by
    refine List.ext_getElem? fun k => ?_
    rw [List.getElem?_replicate]
    split
    · rename_i hk
      obtain ⟨e, h1, h2⟩ := hE k (none, enc none) (by unfold cl; rw [List.getElem?_map, List.getElem?_replicate, if_pos hk]; rfl)
      rw [h1, keD_none h2]
    · rename_i hk
      exact List.getElem?_eq_none (by omega)
  subst hD' hEE
  exact ⟨t, sg, he, hto⟩

def key1 : List UInt8 := keyc 1
def kd7 : Kd := some (7, key1)
theorem kd7_ok : KdOk kd7 := fun p hp => by
  injection hp with hp
  subst hp
  exact ⟨by decide, keyc_length 1⟩
def Q2 : List Kd := List.replicate 2 none
theorem q2_ok : ∀ q ∈ Q2, KdOk q := fun q hq => by
  rw [List.eq_of_mem_replicate hq]
  intro p hp; cases hp
theorem q2_get {k : Nat} (hk : k < 2) : Q2[k]? = some none := by unfold Q2; rw [List.getElem?_replicate, if_pos hk]
theorem q2_set_ok (k : Nat) : ∀ q ∈ Q2.set k kd7, KdOk q := fun q hq => by
  rcases List.mem_or_eq_of_mem_set hq with hq | rfl
  · exact q2_ok q hq
  · exact kd7_ok
theorem two_put (k : Nat) (hk : k < 2) : (dk (cl Q2) (-1)).two (0 + 2 * k) (keyo 7 key1) = dk (cl (Q2.set k kd7)) (-1) ∧ (dk (cl Q2) (-1)).twoOk (0 + 2 * k) (keyo 7 key1) = true := by
  have := two_on q2_ok (q2_get hk) kd7 kd7_ok (-1) (.inl rfl)
  rw [if_neg (by decide)] at this
  exact this
theorem two_shr (k : Nat) (hk : k < 2) : (dk (cl (Q2.set k kd7)) (-1)).two (0 + 2 * k) zer = dk (cl Q2) (-1) ∧ (dk (cl (Q2.set k kd7)) (-1)).twoOk (0 + 2 * k) zer = true := by
  have := two_on (q2_set_ok k) (show (Q2.set k kd7)[k]? = some kd7 by rw [List.getElem?_set, if_pos rfl, if_pos (by exact hk)]) none (fun p hp => by cases hp) (-1) (.inl rfl)
  rw [if_neg (by decide), List.set_set] at this
  have e : Q2.set k none = Q2 := by
    refine List.ext_getElem? fun j => ?_
    rw [List.getElem?_set]
    split
    · rename_i h
      subst h
      rw [q2_get hk, if_pos (show k < Q2.length from hk)]
    · rfl
  rw [e] at this
  exact this
theorem img2 : (dk (cl Q2) (-1)).image = List.replicate 512 0 := slos_fresh 2

set_option maxHeartbeats 2000000 in
theorem awake_any (w : World) : Calls Try.prog 5 #[] w fun e w' => e = .returned (.bool true) ∧ Below w.heap.size w w' := by
  have HN := Lib.hid (fun w => new_good 4 w (by omega) (by omega))
  have HO := Lib.hid (open_fresh 2 (by omega) (by omega))
  have HKY := Lib.hid (key_any 1)
  have HPT := Lib.hid (fun t b sg F K G ad c w h hS hA => put_any t b sg 0 (List.replicate 2 none) (dk (cl Q2) (-1)) F K G 7 key1 ad c w h (dk_ok (cl_ok q2_ok) (by decide) (by decide) (by omega) (by omega)) (Nat.zero_le _) (by omega) (by decide) (by rw [show (dk (cl Q2) (-1)).safe.length = 512 from by rw [show (dk (cl Q2) (-1)).safe = List.replicate 512 0 from slos_fresh 2]; rfl]; decide) (by omega) (keyc_length 1) hS hA (fun e he => by have := List.eq_of_mem_replicate he; cases this) (List.mem_replicate.2 ⟨by decide, rfl⟩))
  have hmk := make_bytes 512 (by omega)
  obtain ⟨Z, hZ⟩ : ∃ z : Array Value, z = (u8s (List.replicate 512 0)).toArray := ⟨_, rfl⟩
  rw [← hZ] at hmk
  replace hmk : ∀ W : World, (Instr.makeSlice 37 (.int .i64 512) (.int .i64 512)).run Try.prog W = .ok (.slice (some ⟨W.heap.size, 0, none⟩) 512 512) (W.alloc (.cells Z 5)) := hmk
  have HMK := Lib.hid hmk
  have hzs : ∀ W : World, Sees (W.alloc (.cells Z 5)) 1 (some ⟨W.heap.size, 0, none⟩) 512 (u8s (List.replicate 512 0)) := fun W => by rw [hZ]; exact sees_mark W 5 (0, 0) (u8s (List.replicate 512 0)) 512 (by rw [length_u8s, List.length_replicate])
  have HZS := Lib.hid hzs
  clear hZ hzs hmk
  go_enter Try.func5, Try.ntmps5
  go_wp2_with fail
  refine (HN.out _).mono ?_
  rintro e w1 ⟨⟨b, F, rfl, hD, hF⟩, hb1⟩
  have HOX := Lib.hid (HO.out b F w1 hD (fun k hk => (hF k hk).2))
  have HB1 := Lib.hid hb1
  have HF1 := Lib.hid hF
  clear hD hF hb1 HN HO
  go_wp2_with fail
  refine HOX.out.mono ?_
  rintro e w2 ⟨t, sg, rfl, hto⟩
  obtain ⟨F2, K2, G2, st2, fr2, sub2⟩ := hto
  have hz2 := fr2.size
  have h12 : Below w.heap.size w w2 := HB1.out.trans (fr2.below HB1.out.size (fun k hk => (HF1.out k hk).1))
  have hn2 : ∀ k, k < w.heap.size → ¬ G2 k := fun k hk hg => absurd ((HF1.out k (sub2 k (Nat.lt_of_lt_of_le hk HB1.out.size) hg)).1) (Nat.not_le.2 hk)
  have H2 := Lib.hid (And.intro st2 (And.intro h12 hn2))
  clear st2 fr2 sub2 h12 hn2 HOX HF1 HB1
  go_wp2_with fail
  refine (HKY.out _).mono ?_
  rintro e w3 ⟨⟨v3, rfl, ho3⟩, hb3⟩
  obtain ⟨g3, c3, cur3, rfl, hg3, -, -, -, -⟩ := own_open ho3 (by omega)
  have HPX := Lib.hid (HPT.out t b sg F2 K2 G2 ⟨g3, 0, none⟩ c3 w3 (H2.out.1.below hb3) (Sees.of_own ho3) ⟨fun hF => absurd (H2.out.1.fin _ hF).2 (Nat.not_lt.2 hg3), fun hK => absurd (H2.out.1.kin _ hK).2 (Nat.not_lt.2 hg3)⟩)
  have H3 := Lib.hid (H2.out.2.1.trans (hb3.mono H2.out.2.1.size))
  clear ho3 hb3 hg3 HPT
  go_wp2_with fail
  refine HPX.out.mono ?_
  rintro e w4 ⟨k, v4, hk, rfl, hv4, hto4⟩
  have hk2 : k < 2 := by have := (List.getElem?_eq_some_iff.1 hk).1; simpa using this
  obtain ⟨t1, t2⟩ := two_put k hk2
  rw [t2] at hv4 hto4
  have hv4' : v4 = Value.nilIface := by
    rcases hv4 with ⟨-, h⟩ | ⟨h, -⟩
    · exact h
    · cases h
  subst hv4'
  obtain ⟨e', hb', hk', F4, K4, G4, st4, fr4, sub4⟩ : ∃ e' : Ke, e'.buck = 7 ∧ e'.key = key1 ∧ KTo w3 G2 t b sg (0 : Nat) ((List.replicate 2 none).set k (some e')) false (dk (cl (Q2.set k kd7)) (-1)) w4 := by
    rcases hto4 with ⟨-, e', h1, h2, h3⟩ | ⟨h, -⟩
    · exact ⟨e', h1, h2, by rw [← t1]; exact h3⟩
    · cases h
  have hn4 : ∀ k, k < w.heap.size → ¬ G4 k := fun k hk hg => H2.out.2.2 k hk (sub4 k (Nat.lt_of_lt_of_le hk H3.out.size) hg)
  have h4 : Below w.heap.size w w4 := H3.out.trans (fr4.below H3.out.size (fun k hk => Nat.not_lt.1 (fun hl => H2.out.2.2 k hl hk)))
  obtain ⟨E1, hE1⟩ : ∃ E1, E1 = (List.replicate 2 none).set k (some e') := ⟨_, rfl⟩
  rw [← hE1] at st4
  have hl1 : E1.length = 2 := by rw [hE1]; simp
  have hin : ∀ (j : Nat) (e : Ke), E1[j]? = some (some e) → j = k ∧ e = e' := fun j e hj => by
    rw [hE1, List.getElem?_set] at hj
    split at hj
    · rename_i hkj
      rw [if_pos (by simpa using hk2)] at hj
      injection hj with hj
      injection hj with hj
      exact ⟨hkj.symm, hj.symm⟩
    · rw [List.getElem?_replicate] at hj
      split at hj
      · cases hj
      · cases hj
  have hmem : some e' ∈ E1 := by
    refine List.mem_of_getElem? (i := k) ?_
    rw [hE1, List.getElem?_set, if_pos rfl, if_pos (by simpa using hk2)]
  have HGT := Lib.hid (get_any t b sg (0 : Nat) E1 false K4 7 w4 st4.tab (by omega))
  have HIN := Lib.hid (And.intro hin (And.intro hmem (And.intro hb' (And.intro hk' (And.intro hl1 (two_shr k hk2))))))
  have H4 := Lib.hid (And.intro st4 (And.intro h4 hn4))
  clear hv4 hto4 t1 t2 hb' hk' st4 fr4 sub4 hn4 h4 hE1 hl1 hin hmem hk HPX H2 H3
  go_wp2_with fail
  refine HGT.out.mono ?_
  rintro e w5 ⟨hb5, hr⟩
  obtain ⟨v5, rfl, ho5⟩ : ∃ v, e = .returned (.tuple #[v, .bool true]) ∧ w5.ownsRow w4.heap.size 5 1 v 32 (u8s key1) := by
    rcases hr with ⟨-, hno⟩ | ⟨v, j, e2, rfl, hj, -, ho⟩
    · exact absurd HIN.out.2.2.1 (hno e' HIN.out.2.1)
    · obtain ⟨-, rfl⟩ := HIN.out.1 j e2 hj
      rw [HIN.out.2.2.2.1] at ho
      exact ⟨v, rfl, ho⟩
  obtain ⟨g5, c5, cur5, rfl, hg5, -, -, -, -⟩ := own_open ho5 (by omega)
  have H5 := Lib.hid (And.intro (H4.out.1.tight.below hb5) (H4.out.2.1.trans (hb5.mono H4.out.2.1.size)))
  have HS5 := Lib.hid (Sees.of_own ho5)
  have HNG := Lib.hid (show ¬ (F4 g5 ∨ K4 g5) from fun hg => Nat.lt_irrefl _ (Nat.lt_of_lt_of_le (hg.elim (fun h => (H4.out.1.fin _ h).2) (fun h => (H4.out.1.kin _ h).2)) hg5))
  have HFK := Lib.hid (fun k (hk : k < w.heap.size) (hg : F4 k ∨ K4 k) => H4.out.2.2 k hk (hg.elim (fun h => (H4.out.1.fin _ h).1) (fun h => (H4.out.1.kin _ h).1)))
  clear hr hb5 ho5 HGT H4
  obtain ⟨X1, hX1⟩ : ∃ X, str key1 = X := ⟨_, rfl⟩
  have hcv : ∀ W, Sees W 1 (some ⟨g5, 0, none⟩) 32 (u8s key1) → (convert 37 9 (.slice (some ⟨g5, 0, none⟩) 32 c5)).run Try.prog W = .ok (.string X1) W := fun W h => by rw [← hX1]; exact run_to_string Try.underlying37 Try.underlying5 Try.underlying9 c5 h
  have HCV := Lib.hid hcv
  have HX1 := Lib.hid hX1
  clear hcv hX1
  go_wp2_with fail
  refine region_tree (.read 0 (.read 1 (.read 2 (.read 3 (.one 4 (.one 5 (.read 6 (.read 7 (.read 8 (.read 9 (.one 10 (.read 11 (.read 12 (.read 13 (.read 14 (.two 15 (.two 16 (.one 17 (.one 18 (.read 19 (.read 20 (.read 21 .leaf))))) 17 (.two 16 (.one 18 (.read 19 (.read 20 (.read 21 .leaf)))) 18 (.one 16 (.read 19 (.read 20 (.read 21 .leaf)))))) 17 (.two 15 (.two 16 (.one 18 (.read 19 (.read 20 (.read 21 .leaf)))) 18 (.one 16 (.read 19 (.read 20 (.read 21 .leaf))))) 18 (.one 15 (.one 16 (.read 19 (.read 20 (.read 21 .leaf)))))))))))))))))))))) [4, 5, 17, 18] 393264 [(34359738368, 64, 0, 0), (68719476736, 34359738368, 1, 1), (137438953472, 68719476768, 2, 3), (274877906944, 206158430208, 6, 7), (549755813888, 68719476736, 2, 3), (1099511627776, 618475290624, 18, 19), (2199023255552, 1443109011456, 42, 63), (4398046511104, 2267742732288, 66, 127), (8796093022208, 4398046511104, 144, 255), (17592186044416, 8796093022216, 256, 511), (35184372088832, 26388279066624, 768, 1023), (70368744177664, 43980465111040, 1280, 2047), (140737488355328, 79164837199872, 2304, 4095), (281474976710656, 140737488355328, 5120, 8191), (562949953421312, 281474976710658, 8192, 16383), (1125899906842624, 844424930131968, 24576, 32767), (2251799813685248, 1407374883553280, 40960, 65535), (4503599627370496, 281474976710656, 8192, 16383), (9007199254740992, 4785074604081152, 139264, 147455), (18014398509481984, 11540474045136896, 335872, 524287), (36028797018963968, 18295873486192640, 532480, 1048575), (1, 36028797018963968, 2097151, 2097151)] (fun W => Sees W 1 (some ⟨g5, 0, none⟩) 32 (u8s key1)) (by kernel_rfl) (by kernel_rfl) (by kernel_rfl) rfl (by kernel_rfl) (by kernel_rfl) HS5.out (fun hS => ?_)
  repeat (first
    | (refine tree_read (v := ?_) rfl (fun _ _ _ h => by first | exact h | cases h.1) rfl hS ?_ ?_; rotate_left 1; (focus (intro w' hS'; have q0 := HCV.out _ hS'; go_simp; try rfl)); (simp only [Act.put, List.setIfInBounds_toArray]; dsimp only [List.set_cons_zero, List.set_cons_succ]))
    | (refine tree_skip rfl (fun _ _ _ h => by first | exact h | cases h.1) rfl hS ?_; (simp only [Act.put, List.setIfInBounds_toArray]; dsimp only [List.set_cons_zero, List.set_cons_succ])))
  refine tree_do (by rfl) (by rfl) (fun K hK => ?_)
  go_simp
  refine (HKY.out _).mono ?_
  rintro e w6 ⟨⟨v6, rfl, ho6⟩, hb6⟩
  obtain ⟨A6, c6, rfl⟩ := own_shape ho6
  have hb6' := below_of_drew hb6
  have H6 := Lib.hid (And.intro (H5.out.1.below hb6') (H5.out.2.trans (hb6'.mono H5.out.2.size)))
  have HS6 := Lib.hid (HS5.out.below hb6')
  have hcv6 := run_to_string Try.underlying37 Try.underlying5 Try.underlying9 c6 (Sees.of_own ho6)
  rw [show str (keyc 1) = X1 from HX1.out] at hcv6
  have HCV6 := Lib.hid hcv6
  clear ho6 hb6 hb6' hcv6 H5 HKY
  refine hK.out _ _ (fun _ => HS6.out) (fun hS => ?_); clear hK K; replace hS := hS rfl; try (simp only [Act.put, List.setIfInBounds_toArray]; dsimp only [List.set_cons_zero, List.set_cons_succ])
  refine tree_do (by rfl) (by rfl) (fun K hK => ?_)
  have hcv6 := HCV6.out
  go_simp
  clear hcv6
  refine hK.out _ _ (fun _ => HS6.out) (fun hS => ?_); clear hK K; replace hS := hS rfl; try (simp only [Act.put, List.setIfInBounds_toArray]; dsimp only [List.set_cons_zero, List.set_cons_succ])
  repeat (first
    | (refine tree_read (v := ?_) rfl (fun _ _ _ h => by first | exact h | cases h.1) rfl hS ?_ ?_; rotate_left 1; (focus (intro w' hS'; skip; go_simp; try rfl)); (simp only [Act.put, List.setIfInBounds_toArray]; dsimp only [List.set_cons_zero, List.set_cons_succ]))
    | (refine tree_skip rfl (fun _ _ _ h => by first | exact h | cases h.1) rfl hS ?_; (simp only [Act.put, List.setIfInBounds_toArray]; dsimp only [List.set_cons_zero, List.set_cons_succ])))
  have HSH := Lib.hid (shred_key t b sg 0 E1 (dk (cl (Q2.set k kd7)) (-1)) F4 K4 _ 7 w6 H6.out.1 (dk_ok (cl_ok (q2_set_ok k)) (by rw [cl_length, List.length_set]; decide) (by rw [cl_length, List.length_set]; decide) (by omega) (by omega)) (Nat.zero_le _) (by omega) (by rw [HIN.out.2.2.2.2.1]; omega)
    (by rw [show (dk (cl (Q2.set k kd7)) (-1)).safe.length = 512 from by rw [show (dk (cl (Q2.set k kd7)) (-1)).safe.length = _ from slos_length (cl_ok (q2_set_ok k)), cl_length, List.length_set]; rfl, HIN.out.2.2.2.2.1]; decide) ⟨e', HIN.out.2.1, HIN.out.2.2.1⟩)
  refine tree_do (by rfl) (by rfl) (fun K hK => ?_)
  go_simp
  refine HSH.out.mono ?_
  rintro e w7 ⟨k3, e3, hj3, -, ⟨v7, rfl, hv7⟩, hto7⟩
  obtain ⟨rfl, rfl⟩ := HIN.out.1 k3 e3 hj3
  rw [HIN.out.2.2.2.2.2.1, HIN.out.2.2.2.2.2.2] at hto7
  rw [HIN.out.2.2.2.2.2.2] at hv7
  have hv7' : v7 = Value.nilIface := by
    rcases hv7 with ⟨-, h⟩ | ⟨h, -⟩
    · exact h
    · cases h
  subst hv7'
  obtain ⟨F7, K7, G7, st7, fr7, -⟩ := hto7
  have HB7 := Lib.hid (H6.out.2.trans (fr7.below H6.out.2.size (fun k hk => Nat.not_lt.1 (fun hl => HFK.out k hl hk))))
  have HS7 := Lib.hid (Sees.fr (F := fun k => F4 k ∨ K4 k) HS6.out fr7 (fun _ a ha (hF : F4 a.block ∨ K4 a.block) => by injection ha with ha; subst ha; exact HNG.out hF))
  have HG7 := Lib.hid st7.disk
  have him : ∀ w, DiskAt w b F7 (dk (cl Q2) (-1)) → Calls Try.prog 20 #[.pointer (some ⟨b, 0, none⟩)] w fun e w' => (∃ v, e = .returned v ∧ w'.ownsRow w.heap.size 5 1 v 512 (u8s (List.replicate 512 0))) ∧ Below w.heap.size w w' := fun w hD => by
    have h := image_any b F7 _ w hD (dk_ok (cl_ok q2_ok) (by decide) (by decide) (by omega) (by omega)) (Nat.zero_le _)
    rw [img2, show (dk (cl Q2) (-1)).safe.length = 512 from by rw [show (dk (cl Q2) (-1)).safe = List.replicate 512 0 from slos_fresh 2, List.length_replicate]] at h
    exact h
  have HIM := Lib.hid him
  obtain ⟨X0, hX0⟩ : ∃ X0, str (List.replicate 512 0) = X0 := ⟨_, rfl⟩
  have HX0 := Lib.hid hX0
  generalize List.replicate 512 (0 : UInt8) = zz at *
  clear hX0 him hv7 st7 fr7 H6 HS6 HSH HIN HFK HNG HCV6 hj3
  refine hK.out _ _ (fun h => by cases h) (fun _ => ?_); clear hK K; try (simp only [Act.put, List.setIfInBounds_toArray]; dsimp only [List.set_cons_zero, List.set_cons_succ])
  clear hS
  have hS := HS7.out
  repeat (first
    | (refine tree_read (v := ?_) rfl (fun _ _ _ h => by first | exact h | cases h.1) rfl hS ?_ ?_; rotate_left 1; (focus (intro w' hS'; skip; go_simp; try rfl)); (simp only [Act.put, List.setIfInBounds_toArray]; dsimp only [List.set_cons_zero, List.set_cons_succ]))
    | (refine tree_skip rfl (fun _ _ _ h => by first | exact h | cases h.1) rfl hS ?_; (simp only [Act.put, List.setIfInBounds_toArray]; dsimp only [List.set_cons_zero, List.set_cons_succ])))
  refine tree_two ?_ ?_
  · skip
    refine tree_do (by rfl) (by rfl) (fun K hK => ?_)
    go_simp
    refine (HIM.out _ HG7.out).mono ?_
    rintro e w8 ⟨⟨v8, rfl, ho8⟩, hb8⟩
    obtain ⟨AI, cI, rfl⟩ := own_shape ho8
    have HB8 := Lib.hid (HB7.out.trans (hb8.mono HB7.out.size))
    have hI := Sees.of_own ho8
    have HG8 := Lib.hid (HG7.out.below hb8)
    have HS8 := Lib.hid (HS7.out.below hb8)
    clear ho8 hb8
    refine hK.out _ _ (fun h => by cases h) (fun _ => ?_); clear hK K; try (simp only [Act.put, List.setIfInBounds_toArray]; dsimp only [List.set_cons_zero, List.set_cons_succ])
    clear hS
    have hS := HS8.out
    refine tree_two ?_ ?_
    · skip
      refine tree_do (by rfl) (by rfl) (fun K hK => ?_)
      have hcv := run_to_string Try.underlying37 Try.underlying5 Try.underlying9 cI hI
      rw [HX0.out] at hcv
      go_simp
      clear hcv
      refine hK.out _ _ (fun h => by cases h) (fun _ => ?_); clear hK K; try (simp only [Act.put, List.setIfInBounds_toArray]; dsimp only [List.set_cons_zero, List.set_cons_succ])
      clear hS
      have hS := HS8.out
      refine tree_do (by rfl) (by rfl) (fun K hK => ?_)
      have hmk := HMK.out
      go_simp
      clear hmk
      have hb9 : Below (w8).heap.size w8 ((w8).alloc (.cells Z 5)) := (Below.refl _ _).alloc (Nat.le_refl _) _
      have hM := HZS.out w8
      have HB9 := Lib.hid (HB8.out.trans (hb9.mono HB8.out.size))
      have HG9 := Lib.hid (HG8.out.below hb9)
      have HS9 := Lib.hid (HS8.out.below hb9)
      replace hI := hI.below hb9
      clear hb9
      generalize ((w8).alloc (.cells Z 5)) = w9 at *
      refine hK.out _ _ (fun _ => HS9.out) (fun hS => ?_); clear hK K; replace hS := hS rfl; try (simp only [Act.put, List.setIfInBounds_toArray]; dsimp only [List.set_cons_zero, List.set_cons_succ])
      refine tree_do (by rfl) (by rfl) (fun K hK => ?_)
      have hcv := run_to_string Try.underlying37 Try.underlying5 Try.underlying9 512 hM
      rw [HX0.out] at hcv
      go_simp
      clear hcv
      refine hK.out _ _ (fun _ => HS9.out) (fun hS => ?_); clear hK K; replace hS := hS rfl; try (simp only [Act.put, List.setIfInBounds_toArray]; dsimp only [List.set_cons_zero, List.set_cons_succ])
      repeat (first
        | (refine tree_read (v := ?_) rfl (fun _ _ _ h => by first | exact h | cases h.1) rfl hS ?_ ?_; rotate_left 1; (focus (intro w' hS'; go_simp; try rfl)); (simp only [Act.put, List.setIfInBounds_toArray]; dsimp only [List.set_cons_zero, List.set_cons_succ]))
        | (refine tree_skip rfl (fun _ _ _ h => by first | exact h | cases h.1) rfl hS ?_; (simp only [Act.put, List.setIfInBounds_toArray]; dsimp only [List.set_cons_zero, List.set_cons_succ])))
      refine tree_leaf ?_
      go_wp2_with fail
      go_ret
      exact ⟨rfl, HB9.out⟩
    · skip
      refine tree_do (by rfl) (by rfl) (fun K hK => ?_)
      have hmk := HMK.out
      go_simp
      clear hmk
      have hb9 : Below (w8).heap.size w8 ((w8).alloc (.cells Z 5)) := (Below.refl _ _).alloc (Nat.le_refl _) _
      have hM := HZS.out w8
      have HB9 := Lib.hid (HB8.out.trans (hb9.mono HB8.out.size))
      have HG9 := Lib.hid (HG8.out.below hb9)
      have HS9 := Lib.hid (HS8.out.below hb9)
      replace hI := hI.below hb9
      clear hb9
      generalize ((w8).alloc (.cells Z 5)) = w9 at *
      refine hK.out _ _ (fun _ => HS9.out) (fun hS => ?_); clear hK K; replace hS := hS rfl; try (simp only [Act.put, List.setIfInBounds_toArray]; dsimp only [List.set_cons_zero, List.set_cons_succ])
      refine tree_two ?_ ?_
      · skip
        refine tree_do (by rfl) (by rfl) (fun K hK => ?_)
        have hcv := run_to_string Try.underlying37 Try.underlying5 Try.underlying9 cI hI
        rw [HX0.out] at hcv
        go_simp
        clear hcv
        refine hK.out _ _ (fun h => by cases h) (fun _ => ?_); clear hK K; try (simp only [Act.put, List.setIfInBounds_toArray]; dsimp only [List.set_cons_zero, List.set_cons_succ])
        clear hS
        have hS := HS9.out
        refine tree_do (by rfl) (by rfl) (fun K hK => ?_)
        have hcv := run_to_string Try.underlying37 Try.underlying5 Try.underlying9 512 hM
        rw [HX0.out] at hcv
        go_simp
        clear hcv
        refine hK.out _ _ (fun _ => HS9.out) (fun hS => ?_); clear hK K; replace hS := hS rfl; try (simp only [Act.put, List.setIfInBounds_toArray]; dsimp only [List.set_cons_zero, List.set_cons_succ])
        repeat (first
          | (refine tree_read (v := ?_) rfl (fun _ _ _ h => by first | exact h | cases h.1) rfl hS ?_ ?_; rotate_left 1; (focus (intro w' hS'; go_simp; try rfl)); (simp only [Act.put, List.setIfInBounds_toArray]; dsimp only [List.set_cons_zero, List.set_cons_succ]))
          | (refine tree_skip rfl (fun _ _ _ h => by first | exact h | cases h.1) rfl hS ?_; (simp only [Act.put, List.setIfInBounds_toArray]; dsimp only [List.set_cons_zero, List.set_cons_succ])))
        refine tree_leaf ?_
        go_wp2_with fail
        go_ret
        exact ⟨rfl, HB9.out⟩
      · skip
        refine tree_do (by rfl) (by rfl) (fun K hK => ?_)
        have hcv := run_to_string Try.underlying37 Try.underlying5 Try.underlying9 512 hM
        rw [HX0.out] at hcv
        go_simp
        clear hcv
        refine hK.out _ _ (fun _ => HS9.out) (fun hS => ?_); clear hK K; replace hS := hS rfl; try (simp only [Act.put, List.setIfInBounds_toArray]; dsimp only [List.set_cons_zero, List.set_cons_succ])
        refine tree_do (by rfl) (by rfl) (fun K hK => ?_)
        have hcv := run_to_string Try.underlying37 Try.underlying5 Try.underlying9 cI hI
        rw [HX0.out] at hcv
        go_simp
        clear hcv
        refine hK.out _ _ (fun h => by cases h) (fun _ => ?_); clear hK K; try (simp only [Act.put, List.setIfInBounds_toArray]; dsimp only [List.set_cons_zero, List.set_cons_succ])
        clear hS
        have hS := HS9.out
        repeat (first
          | (refine tree_read (v := ?_) rfl (fun _ _ _ h => by first | exact h | cases h.1) rfl hS ?_ ?_; rotate_left 1; (focus (intro w' hS'; go_simp; try rfl)); (simp only [Act.put, List.setIfInBounds_toArray]; dsimp only [List.set_cons_zero, List.set_cons_succ]))
          | (refine tree_skip rfl (fun _ _ _ h => by first | exact h | cases h.1) rfl hS ?_; (simp only [Act.put, List.setIfInBounds_toArray]; dsimp only [List.set_cons_zero, List.set_cons_succ])))
        refine tree_leaf ?_
        go_wp2_with fail
        go_ret
        exact ⟨rfl, HB9.out⟩
  · skip
    refine tree_do (by rfl) (by rfl) (fun K hK => ?_)
    have hmk := HMK.out
    go_simp
    clear hmk
    have hb8 : Below (w7).heap.size w7 ((w7).alloc (.cells Z 5)) := (Below.refl _ _).alloc (Nat.le_refl _) _
    have hM := HZS.out w7
    have HB8 := Lib.hid (HB7.out.trans (hb8.mono HB7.out.size))
    have HG8 := Lib.hid (HG7.out.below hb8)
    have HS8 := Lib.hid (HS7.out.below hb8)
    clear hb8
    generalize ((w7).alloc (.cells Z 5)) = w8 at *
    refine hK.out _ _ (fun _ => HS8.out) (fun hS => ?_); clear hK K; replace hS := hS rfl; try (simp only [Act.put, List.setIfInBounds_toArray]; dsimp only [List.set_cons_zero, List.set_cons_succ])
    refine tree_two ?_ ?_
    · skip
      refine tree_do (by rfl) (by rfl) (fun K hK => ?_)
      go_simp
      refine (HIM.out _ HG8.out).mono ?_
      rintro e w9 ⟨⟨v9, rfl, ho9⟩, hb9⟩
      obtain ⟨AI, cI, rfl⟩ := own_shape ho9
      have HB9 := Lib.hid (HB8.out.trans (hb9.mono HB8.out.size))
      have hI := Sees.of_own ho9
      have HG9 := Lib.hid (HG8.out.below hb9)
      have HS9 := Lib.hid (HS8.out.below hb9)
      replace hM := hM.below hb9
      clear ho9 hb9
      refine hK.out _ _ (fun h => by cases h) (fun _ => ?_); clear hK K; try (simp only [Act.put, List.setIfInBounds_toArray]; dsimp only [List.set_cons_zero, List.set_cons_succ])
      clear hS
      have hS := HS9.out
      refine tree_two ?_ ?_
      · skip
        refine tree_do (by rfl) (by rfl) (fun K hK => ?_)
        have hcv := run_to_string Try.underlying37 Try.underlying5 Try.underlying9 cI hI
        rw [HX0.out] at hcv
        go_simp
        clear hcv
        refine hK.out _ _ (fun h => by cases h) (fun _ => ?_); clear hK K; try (simp only [Act.put, List.setIfInBounds_toArray]; dsimp only [List.set_cons_zero, List.set_cons_succ])
        clear hS
        have hS := HS9.out
        refine tree_do (by rfl) (by rfl) (fun K hK => ?_)
        have hcv := run_to_string Try.underlying37 Try.underlying5 Try.underlying9 512 hM
        rw [HX0.out] at hcv
        go_simp
        clear hcv
        refine hK.out _ _ (fun _ => HS9.out) (fun hS => ?_); clear hK K; replace hS := hS rfl; try (simp only [Act.put, List.setIfInBounds_toArray]; dsimp only [List.set_cons_zero, List.set_cons_succ])
        repeat (first
          | (refine tree_read (v := ?_) rfl (fun _ _ _ h => by first | exact h | cases h.1) rfl hS ?_ ?_; rotate_left 1; (focus (intro w' hS'; go_simp; try rfl)); (simp only [Act.put, List.setIfInBounds_toArray]; dsimp only [List.set_cons_zero, List.set_cons_succ]))
          | (refine tree_skip rfl (fun _ _ _ h => by first | exact h | cases h.1) rfl hS ?_; (simp only [Act.put, List.setIfInBounds_toArray]; dsimp only [List.set_cons_zero, List.set_cons_succ])))
        refine tree_leaf ?_
        go_wp2_with fail
        go_ret
        exact ⟨rfl, HB9.out⟩
      · skip
        refine tree_do (by rfl) (by rfl) (fun K hK => ?_)
        have hcv := run_to_string Try.underlying37 Try.underlying5 Try.underlying9 512 hM
        rw [HX0.out] at hcv
        go_simp
        clear hcv
        refine hK.out _ _ (fun _ => HS9.out) (fun hS => ?_); clear hK K; replace hS := hS rfl; try (simp only [Act.put, List.setIfInBounds_toArray]; dsimp only [List.set_cons_zero, List.set_cons_succ])
        refine tree_do (by rfl) (by rfl) (fun K hK => ?_)
        have hcv := run_to_string Try.underlying37 Try.underlying5 Try.underlying9 cI hI
        rw [HX0.out] at hcv
        go_simp
        clear hcv
        refine hK.out _ _ (fun h => by cases h) (fun _ => ?_); clear hK K; try (simp only [Act.put, List.setIfInBounds_toArray]; dsimp only [List.set_cons_zero, List.set_cons_succ])
        clear hS
        have hS := HS9.out
        repeat (first
          | (refine tree_read (v := ?_) rfl (fun _ _ _ h => by first | exact h | cases h.1) rfl hS ?_ ?_; rotate_left 1; (focus (intro w' hS'; go_simp; try rfl)); (simp only [Act.put, List.setIfInBounds_toArray]; dsimp only [List.set_cons_zero, List.set_cons_succ]))
          | (refine tree_skip rfl (fun _ _ _ h => by first | exact h | cases h.1) rfl hS ?_; (simp only [Act.put, List.setIfInBounds_toArray]; dsimp only [List.set_cons_zero, List.set_cons_succ])))
        refine tree_leaf ?_
        go_wp2_with fail
        go_ret
        exact ⟨rfl, HB9.out⟩
    · skip
      refine tree_do (by rfl) (by rfl) (fun K hK => ?_)
      have hcv := run_to_string Try.underlying37 Try.underlying5 Try.underlying9 512 hM
      rw [HX0.out] at hcv
      go_simp
      clear hcv
      refine hK.out _ _ (fun _ => HS8.out) (fun hS => ?_); clear hK K; replace hS := hS rfl; try (simp only [Act.put, List.setIfInBounds_toArray]; dsimp only [List.set_cons_zero, List.set_cons_succ])
      refine tree_do (by rfl) (by rfl) (fun K hK => ?_)
      go_simp
      refine (HIM.out _ HG8.out).mono ?_
      rintro e w9 ⟨⟨v9, rfl, ho9⟩, hb9⟩
      obtain ⟨AI, cI, rfl⟩ := own_shape ho9
      have HB9 := Lib.hid (HB8.out.trans (hb9.mono HB8.out.size))
      have hI := Sees.of_own ho9
      have HG9 := Lib.hid (HG8.out.below hb9)
      have HS9 := Lib.hid (HS8.out.below hb9)
      replace hM := hM.below hb9
      clear ho9 hb9
      refine hK.out _ _ (fun h => by cases h) (fun _ => ?_); clear hK K; try (simp only [Act.put, List.setIfInBounds_toArray]; dsimp only [List.set_cons_zero, List.set_cons_succ])
      clear hS
      have hS := HS9.out
      refine tree_do (by rfl) (by rfl) (fun K hK => ?_)
      have hcv := run_to_string Try.underlying37 Try.underlying5 Try.underlying9 cI hI
      rw [HX0.out] at hcv
      go_simp
      clear hcv
      refine hK.out _ _ (fun h => by cases h) (fun _ => ?_); clear hK K; try (simp only [Act.put, List.setIfInBounds_toArray]; dsimp only [List.set_cons_zero, List.set_cons_succ])
      clear hS
      have hS := HS9.out
      repeat (first
        | (refine tree_read (v := ?_) rfl (fun _ _ _ h => by first | exact h | cases h.1) rfl hS ?_ ?_; rotate_left 1; (focus (intro w' hS'; go_simp; try rfl)); (simp only [Act.put, List.setIfInBounds_toArray]; dsimp only [List.set_cons_zero, List.set_cons_succ]))
        | (refine tree_skip rfl (fun _ _ _ h => by first | exact h | cases h.1) rfl hS ?_; (simp only [Act.put, List.setIfInBounds_toArray]; dsimp only [List.set_cons_zero, List.set_cons_succ])))
      refine tree_leaf ?_
      go_wp2_with fail
      go_ret
      exact ⟨rfl, HB9.out⟩
end Go.Proofs.Ytnlghpopjckhiaa
