/-
  The document's Parse of octets whose head fits: pz.
-/
import Derived.Test.YtldgnckchlbadaaDoorRf5
import Derived.Test.YtldgnckchlbadaaDoorLogT
import Derived.Deep.DeepCutAuto
namespace Go.Proofs.YtldgnckchlbadaaDoor
set_option maxRecDepth 4000
open Go.RowKit

theorem value_any (l : List UInt8) (hl : l.length ≤ 8) (w : World) : Calls Tryd.prog 74 #[.string (str l)] w fun e w' => e = .returned (.int .u64 (vl l)) ∧ w = w' := by
  go_enter Tryd.func74, Tryd.ntmps74
  go_wp2_with fail
  go_loop [3, 4] (fun x i => ∃ k : Nat, k ≤ l.length ∧ i = .int .i64 k ∧ x = .int .u64 (vl (l.take k) : Nat)) (fun _ i => l.length - (intOf i).toNat)
  case atStart => exact ⟨0, by omega, rfl, rfl⟩
  case round =>
    obtain ⟨k, hk, rfl, rfl⟩ := hrel
    by_cases hlt : k < l.length
    · have hlti : (k : Int) < (l.length : Int) := by omega
      obtain ⟨c, hc⟩ : ∃ c, c = (l[k]'hlt).toNat := ⟨_, rfl⟩
      have hc256 : c < 256 := by rw [hc]; exact UInt8.toNat_lt _
      have hget : ∀ h, ((str l)[k]'h).toNat = c := fun h => hc.symm
      have hget2 : (l[k]'hlt).toNat = c := hc.symm
      have hn : vl (l.take (k + 1)) = vl (l.take k) * 256 + c := by
        rw [List.take_add_one, List.getElem?_eq_getElem hlt, Option.toList_some, vl_snoc, hc]
      have hv := vl_lt (l.take k)
      have hp : 256 ^ (l.take k).length ≤ 256 ^ 7 := Nat.pow_le_pow_right (by omega) (by rw [List.length_take]; omega)
      have h7 : (256 : Nat) ^ 7 = 72057594037927936 := by decide
      have HC := Lib.hid hc; have HN := Lib.hid hn; clear hc hn
      generalize vl (l.take k) = x at *
      have hx : x < 72057594037927936 := by omega
      clear hv hp h7
      have e1 : IntKind.u64.wrap ((x : Int) * 256) = (x : Int) * 256 := by rw [IntKind.wrap_u64]; omega
      have e2 : IntKind.u64.wrap ((x : Int) * 256 + (c : Int)) = (x : Int) * 256 + (c : Int) := by rw [IntKind.wrap_u64]; omega
      have e3 : IntKind.u64.wrap (c : Int) = (c : Int) := by rw [IntKind.wrap_u64]; omega
      go_wp2_with fail
      go_round
      case rel => exact ⟨k + 1, by omega, by go_num, by rw [HN.out]; go_num⟩
      case measure => simp [intOf]; omega
    · obtain rfl : k = l.length := by omega
      have hge : ¬ ((l.length : Int) < (l.length : Int)) := by omega
      rw [List.take_length]
      go_wp2_with fail
      go_ret
      exact ⟨rfl, rfl⟩


/-- What is known of the octets so far, in its place. -/
def RPzAt (w : World) (base P : Nat) (s : Pz) : Prop := ∃ (A : Option Addr) (cT : Nat),
  Blk w P 110 #[.slice A s.texts.length cT, .string (str s.chain), .bool s.sealed_, .int .i64 s.used] ∧ w.ownsRow base 9 1 (.slice A s.texts.length cT) s.texts.length (strs s.texts)

set_option maxHeartbeats 8000000 in
theorem rparse_yes (X l : List UInt8) (m q k : Nat) (w : World) (hX : X.length = m) (hm : m % 128 = 0) (h2 : 256 ≤ m) (hmx : m ≤ 100000) (hl : l.length = 32) (hq : q < 4294967296) (hk : k ≤ 1000000000) (hyes : pref X (hd q k l) = true) :
    Calls Tryd.prog 58 #[.string (str X), .int .i64 q, .int .i64 k, .string (str l)] w fun e w' => ∃ A cT, e = .returned (.tuple #[.agg #[.slice A (pz X k m (pz0 l)).texts.length cT, .string (str (pz X k m (pz0 l)).chain), .bool (pz X k m (pz0 l)).sealed_, .int .i64 (pz X k m (pz0 l)).used], .bool true]) ∧
      w'.ownsRow w.heap.size 9 1 (.slice A (pz X k m (pz0 l)).texts.length cT) (pz X k m (pz0 l)).texts.length (strs (pz X k m (pz0 l)).texts) ∧ Below w.heap.size w w' := by
  have HH0 := Lib.hid (rhead_any q k l hl hq (by omega))
  have he : X.take 128 = hd q k l := by
    have := of_decide_eq_true hyes
    rwa [hd_len' _ _ _ hl] at this
  have hs : (str X).size = m := by rw [size_str, hX]
  have hx : ∀ a b, (str X).extract a b = str ((X.drop a).take (b - a)) := fun a b => str_extract X a b
  have hx0 : (str X).extract 0 128 = str (hd q k l) := by rw [hx, List.drop_zero, Nat.sub_zero, he]
  obtain ⟨Z, hZ⟩ : ∃ Z, Z = str X := ⟨_, rfl⟩
  obtain ⟨L, hL⟩ : ∃ Z, Z = str l := ⟨_, rfl⟩
  obtain ⟨V, hV⟩ : ∃ Z, Z = str (hd q k l) := ⟨_, rfl⟩
  rw [← hZ] at hs hx hx0 ⊢
  rw [← hL] at HH0 ⊢
  rw [← hV] at HH0 hx0
  have hmi : (m : Int).tmod 128 = 0 := by rw [Int.tmod_eq_emod_of_nonneg (by omega)]; omega
  have hmj : (m : Int) % 128 = 0 := by omega
  have h2i : ¬ (m : Int) < 256 := by omega
  have h3 : 128 ≤ m := by omega
  have h3i : (128 : Int) ≤ (m : Int) := by omega
  have HXX := Lib.hid hx
  have HL := Lib.hid (And.intro hL (And.intro hl hX))
  have HSZ := Lib.hid info_rprs
  clear hZ hL hV hX hl hyes he hx
  go_enter Tryd.func58, Tryd.ntmps58
  go_wp2_with fail
  have b0 := ((Below.refl w.heap.size w).alloc (Nat.le_refl _) (.cells #[.slice none 0 0, .string { data := #[] }, .bool false, .int .i64 0] 110)).drew
  refine region_fast [(0, true), (1, true), (2, true), (3, true), (4, true), (5, true), (6, true), (7, true), (8, true), (9, true), (10, true), (11, true), (12, true), (13, true), (14, true), (15, false), (16, true), (17, true)] [12, 13, 14, 15] 61440 [(65536, 1, 0, 0), (131072, 65536, 1, 1), (262144, 131072, 2, 3), (524288, 262144, 4, 7), (1048576, 524288, 8, 15), (2097152, 1048577, 16, 31), (4194304, 3145728, 48, 63), (8388608, 5242880, 80, 127), (16777216, 9437184, 144, 255), (33554432, 16777216, 272, 511), (67108864, 33554433, 512, 1023), (134217728, 100663296, 1536, 2047), (268435456, 33554434, 512, 1023), (536870912, 33554436, 512, 1023), (1073741824, 33554440, 512, 1023), (2147483648, 1912602624, 29184, 29695), (4294967296, 2315255808, 35328, 65535), (8589934592, 4328521728, 66048, 131071)] (fun W => Below w.heap.size w W) (by kernel_rfl) (by kernel_rfl) (by kernel_rfl) rfl (by kernel_rfl) (by kernel_rfl) b0 (fun hS => ?_)
  iterate 7 (first
    | (refine plan_read (v := ?_) rfl (fun _ _ _ h => h) rfl hS ?_ ?_; rotate_left 1; (focus (intro w' hS'; go_simp; try rfl)); (simp only [Act.put, List.setIfInBounds_toArray]; dsimp only [List.set_cons_zero, List.set_cons_succ]))
    | (refine plan_skip rfl (fun _ _ _ h => h) rfl hS ?_; (simp only [Act.put, List.setIfInBounds_toArray]; dsimp only [List.set_cons_zero, List.set_cons_succ])))
  refine plan_read (v := Value.bool false) rfl (fun _ _ _ h => h) rfl hS ?_ ?_; (focus (intro w' hS'; go_simp; first | done | simp [h2i] | (simp; omega))); (simp only [Act.put, List.setIfInBounds_toArray]; dsimp only [List.set_cons_zero, List.set_cons_succ])
  repeat (first
    | (refine plan_read (v := ?_) rfl (fun _ _ _ h => h) rfl hS ?_ ?_; rotate_left 1; (focus (intro w' hS'; go_simp; try rfl)); (simp only [Act.put, List.setIfInBounds_toArray]; dsimp only [List.set_cons_zero, List.set_cons_succ]))
    | (refine plan_skip rfl (fun _ _ _ h => h) rfl hS ?_; (simp only [Act.put, List.setIfInBounds_toArray]; dsimp only [List.set_cons_zero, List.set_cons_succ])))
  refine plan_do (by rfl) (by rfl) (fun K hK => ?_)
  go_simp
  refine (HH0.out _).mono ?_
  rintro e w1 ⟨rfl, bel⟩
  refine hK.out _ _ (fun _ => hS.trans (bel.mono hS.size)) (fun hS => ?_); clear hK K; replace hS := hS rfl; try (simp only [Act.put, List.setIfInBounds_toArray]; dsimp only [List.set_cons_zero, List.set_cons_succ])
  repeat (first
    | (refine plan_read (v := ?_) rfl (fun _ _ _ h => h) rfl hS ?_ ?_; rotate_left 1; (focus (intro w' hS'; go_simp; try rfl)); (simp only [Act.put, List.setIfInBounds_toArray]; dsimp only [List.set_cons_zero, List.set_cons_succ]))
    | (refine plan_skip rfl (fun _ _ _ h => h) rfl hS ?_; (simp only [Act.put, List.setIfInBounds_toArray]; dsimp only [List.set_cons_zero, List.set_cons_succ])))
  refine plan_nil ?_
  have hZ1 : Blk w1 w.heap.size 110 #[.slice none 0 0, .string { data := #[] }, .bool false, .int .i64 0] := (show Blk (w.alloc (.cells #[.slice none 0 0, .string { data := #[] }, .bool false, .int .i64 0] 110)).drew w.heap.size 110 #[.slice none 0 0, .string { data := #[] }, .bool false, .int .i64 0] from (Blk.new w 110 _).drew).below bel (by simp [World.drew])
  have hs1 := hS.size
  have hzp := hZ1.lt
  have hK1 : Blk (w1.alloc (.cells #[.slice none 0 0, .string { data := #[] }, .bool false, .int .i64 0] 110)) w1.heap.size 110 #[.slice none 0 0, .string { data := #[] }, .bool false, .int .i64 0] := Blk.new _ _ _
  have hal1 : Below w1.heap.size w1 ((w1.alloc (.cells #[.slice none 0 0, .string { data := #[] }, .bool false, .int .i64 0] 110)).setRow w1.heap.size #[.slice none 0 0, .string L, .bool false, .int .i64 128]) := below_setRow ((Below.refl _ _).alloc (Nat.le_refl _) _) (Nat.le_refl _) _
  have hP1 := hK1.setRow #[.slice none 0 0, .string L, .bool false, .int .i64 128]
  have HK1 := Lib.hid hK1
  have H1 : Hid (RPzAt ((w1.alloc (.cells #[.slice none 0 0, .string { data := #[] }, .bool false, .int .i64 0] 110)).setRow w1.heap.size #[.slice none 0 0, .string L, .bool false, .int .i64 128]) w.heap.size w1.heap.size (pz0 l) ∧ Blk ((w1.alloc (.cells #[.slice none 0 0, .string { data := #[] }, .bool false, .int .i64 0] 110)).setRow w1.heap.size #[.slice none 0 0, .string L, .bool false, .int .i64 128]) w.heap.size 110 #[.slice none 0 0, .string { data := #[] }, .bool false, .int .i64 0] ∧
      Below w.heap.size w ((w1.alloc (.cells #[.slice none 0 0, .string { data := #[] }, .bool false, .int .i64 0] 110)).setRow w1.heap.size #[.slice none 0 0, .string L, .bool false, .int .i64 128])) := Lib.hid (by
    refine ⟨⟨none, 0, ?_, World.ownsRow_nil _ _ _ _⟩, hZ1.below hal1 hZ1.lt, hS.trans (hal1.mono hs1)⟩
    rw [HL.out.1] at hP1 ⊢
    exact hP1)
  clear hZ1 hal1 hP1 hK1 hS bel b0
  go_wp2_with (have hk1 := HK1.out; refine wpList_store_row rfl 110 (.tmp 10) (.tmp 36) rfl w1.heap.size _ rfl rfl 110 _ hk1 (by exact HSZ.out) (Eq.refl 4) (by simp [Value.oneCell']) ?_; generalize (World.setRow _ _ _) = W at *; clear HK1 hk1)
  dsimp only [Act.put]
  obtain ⟨pb, hpb⟩ : ∃ p, w1.heap.size = p := ⟨_, rfl⟩
  rw [hpb] at hs1 hzp H1 ⊢
  clear hpb
  go_loopw [] (fun wr => ∃ (s : Pz) (f : Nat), pz X k f s = pz X k m (pz0 l) ∧ m < s.used + f ∧ s.used ≤ m ∧ s.chain.length = 32 ∧ s.texts.length ≤ s.used ∧ RPzAt wr w.heap.size pb s ∧ Blk wr w.heap.size 110 #[.slice none 0 0, .string { data := #[] }, .bool false, .int .i64 0] ∧ Below w.heap.size w wr)
    (fun wr => m - (match wr.cell? ⟨pb, 3, none⟩ with | some u => (intOf u).toNat | none => 0))
  case atStart => exact ⟨pz0 l, m, rfl, by show m < 128 + m; omega, by show 128 ≤ m; omega, HL.out.2.1, Nat.zero_le _, H1.out.1, H1.out.2.1, H1.out.2.2⟩
  case round =>
    obtain ⟨s, f, hpz, hf, hu, hc32, htl, ⟨A, cT, hblk, hown⟩, hZb, hbr⟩ := hrel
    obtain ⟨T, hT⟩ : ∃ T, T = s.texts.length := ⟨_, rfl⟩
    obtain ⟨u, hu'⟩ : ∃ u, u = s.used := ⟨_, rfl⟩
    obtain ⟨CS, hCS⟩ : ∃ Z, Z = str s.chain := ⟨_, rfl⟩
    rw [← hT, ← hu', ← hCS] at hblk
    rw [← hT] at hown htl
    rw [← hu'] at hf hu htl
    have c0 : wr.cell? ⟨pb, 0, none⟩ = some (.slice A T cT) := hblk.cell 0
    have c1 : wr.cell? ⟨pb, 1, none⟩ = some (.string CS) := hblk.cell 1
    have c2 : wr.cell? ⟨pb, 2, none⟩ = some (.bool s.sealed_) := hblk.cell 2
    have c3 : wr.cell? ⟨pb, 3, none⟩ = some (.int .i64 u) := hblk.cell 3
    have HC3 := Lib.hid c3
    have hFT := rfoot_any (k + T) s.chain hc32 (by omega)
    rw [Int.natCast_add, ← hCS] at hFT
    have hpt : Blk wr pb 110 _ := hblk
    have HNE : Hid (w.heap.size ≠ pb) := Lib.hid (Nat.ne_of_lt hzp)
    obtain ⟨R, hR⟩ : ∃ R, R = str (X.drop u) := ⟨_, rfl⟩
    obtain ⟨r, hr⟩ : ∃ r, r = m - u := ⟨_, rfl⟩
    have hRL : (X.drop u).length = r := by rw [List.length_drop, HL.out.2.2, hr]
    have hxu : Z.extract u m = R := by rw [HXX.out, List.take_of_length_le (by rw [hRL, hr]; exact Nat.le_refl _), hR]
    have hRs : R.size = r := by rw [hR, size_str, hRL]
    have hRx : ∀ a b, R.extract a b = str (((X.drop u).drop a).take (b - a)) := fun a b => by rw [hR]; exact str_extract _ a b
    have hui : (u : Int) ≤ (m : Int) := by omega
    have hum : u ≤ m := hu
    have hwk : IntKind.i64.wrap ((k : Int) + (T : Int)) = (k : Int) + (T : Int) := IntWalk.i64_in _ (by omega)
    have hwu : IntKind.i64.wrap ((u : Int) + 48) = (u : Int) + 48 := IntWalk.i64_in _ (by omega)
    obtain ⟨f, rfl⟩ : ∃ f', f = f' + 1 := ⟨f - 1, by omega⟩
    have HFT := Lib.hid hFT
    have HX := Lib.hid (And.intro hblk (And.intro hown (And.intro hZb hbr)))
    have HH := Lib.hid (And.intro hpz (And.intro hf (And.intro htl (And.intro hr (And.intro hc32 (And.intro hT hu'))))))
    have HCS := Lib.hid (And.intro hCS (And.intro hT hu'))
    have HRX := Lib.hid hRx
    have HRL := Lib.hid hRL
    clear hblk hown hZb hbr hpz hf htl hFT hr hRx hRL hR hT hu' hCS hpt
    by_cases h4 : r < 4
    · have h4i : (r : Int) < 4 := by omega
      have HZN := Lib.hid (pz_stop X k f s (by
        rw [← HH.out.2.2.2.2.2.2]
        refine Bool.eq_false_iff.2 fun e => ?_
        have := pref_length e
        rw [HRL.out, ft_length, HH.out.2.2.2.2.1] at this
        omega) (by
        rw [← HH.out.2.2.2.2.2.2]
        left
        unfold pzN eyeN
        rw [if_neg (by rw [HRL.out]; omega)]
        decide))
      clear h4
      go_wp2_with (have hzz := HX.out.2.2.1; refine wpList_store_row rfl 110 (.tmp 8) (.tmp 44) rfl w.heap.size _ rfl rfl 110 _ hzz (by exact HSZ.out) (Eq.refl 4) (by simp [Value.oneCell']) ?_)
      refine bodyPost_ret (results_row_tmp rfl _ _ w.heap.size 110 _ (0, 0) _ rfl (HX.out.2.2.1.setRow _) Tryd.underlying110 rfl (by exact HSZ.out)) rfl ?_
      have hpz := HH.out.1
      rw [HZN.out] at hpz
      rw [← hpz]
      exact ⟨A, cT, by rw [← HCS.out.1, ← HCS.out.2.1, ← HCS.out.2.2]; rfl, by rw [← HCS.out.2.1]; exact own_fr HX.out.2.1 (Fr.setRow (F := fun k => k = w.heap.size) _ w.heap.size _ rfl) (own_ne HX.out.2.1 HX.out.2.2.1 (by decide)), below_setRow HX.out.2.2.2 (Nat.le_refl _) _⟩
    · have h4i : ¬ (r : Int) < 4 := by omega
      have h4j' : 4 ≤ r := by omega
      go_wp2_with fail
      refine (HFT.out _).mono ?_
      rintro e w3 ⟨rfl, bel3⟩
      obtain ⟨VF, hVF⟩ : ∃ Z, Z = str (ft (k + T) s.chain) := ⟨_, rfl⟩
      rw [← hVF]
      have hK3 := HX.out.1.below bel3 HX.out.1.lt
      have HX3 := Lib.hid (And.intro hK3 (And.intro (own_below HX.out.2.1 bel3) (And.intro (HX.out.2.2.1.below bel3 HX.out.2.2.1.lt) (HX.out.2.2.2.trans (bel3.mono HX.out.2.2.2.size)))))
      clear bel3 HX c0 c1 c2 c3 HFT
      have c0 : w3.cell? ⟨pb, 0, none⟩ = some (.slice A T cT) := hK3.cell 0
      have c1 : w3.cell? ⟨pb, 1, none⟩ = some (.string CS) := hK3.cell 1
      have c2 : w3.cell? ⟨pb, 2, none⟩ = some (.bool s.sealed_) := hK3.cell 2
      have c3 : w3.cell? ⟨pb, 3, none⟩ = some (.int .i64 u) := hK3.cell 3
      clear hK3
      have hftl : (ft (k + T) s.chain).length = 48 := by rw [ft_length, HH.out.2.2.2.2.1]
      have hcm : 48 ≤ r → ((str ((X.drop u).take 48)).toList == VF.toList) = pref (X.drop u) (ft (k + T) s.chain) := fun _ => by
        rw [hVF, str_toList, str_toList, beq_dec]
        unfold pref
        rw [hftl]
      have hx48 : R.extract 0 48 = str ((X.drop u).take 48) := by rw [HRX.out, List.drop_zero]
      have hle48 : pref (X.drop u) (ft (k + T) s.chain) = true → 48 ≤ r := fun e => by
        have := pref_length e
        rwa [HRL.out, hftl] at this
      obtain ⟨S48, hS48⟩ : ∃ Z, Z = str ((X.drop u).take 48) := ⟨_, rfl⟩
      rw [← hS48] at hx48 hcm
      clear hVF hftl hS48
      by_cases hpf : pref (X.drop u) (ft (k + T) s.chain) = true
      · have h48n : 48 ≤ r := hle48 hpf
        have h48i : (48 : Int) ≤ (r : Int) := by omega
        replace hcm := hcm h48n
        rw [hpf] at hcm
        clear hle48
        have hZN := pz_seal X k f s (by rw [← HCS.out.2.2, ← HCS.out.2.1]; exact hpf)
        rw [← HCS.out.2.2] at hZN
        have HZN := Lib.hid hZN
        have f2 : w3.frozen? ⟨pb, 2, none⟩ = false := HX3.out.1.frozen 2
        have hK4 := HX3.out.1.set_ 2 (.bool true)
        have g4 : Fr (fun k => k = pb) w3 _ := Fr.setCell w3 ⟨pb, 2, none⟩ (.bool true) rfl
        have c34 := hK4.cell 3
        have f34 := hK4.frozen 3
        have hK5 := hK4.set_ 3 (.int .i64 ((u : Int) + 48))
        have g5 := g4.trans (Fr.setCell (F := fun k => k = pb) _ ⟨pb, 3, none⟩ (.int .i64 ((u : Int) + 48)) rfl) (fun _ _ h => h)
        have HX5 := Lib.hid (And.intro hK5 (And.intro (own_fr HX3.out.2.1 g5 (own_ne HX3.out.2.1 HX3.out.1 (by decide))) (And.intro (HX3.out.2.2.1.fr g5 HNE.out) (HX3.out.2.2.2.trans (g5.below HX3.out.2.2.2.size (fun k hk => by rw [hk]; have := hzp; omega))))))
        have d0 := hK5.cell 0
        have d1 := hK5.cell 1
        have d2 := hK5.cell 2
        have d3 := hK5.cell 3
        clear hpf hZN hK4 g4 hK5 g5
        go_wp2_with (have hzz := HX5.out.2.2.1; refine wpList_store_row rfl 110 (.tmp 8) (.tmp 67) rfl w.heap.size _ rfl rfl 110 _ hzz (by exact HSZ.out) (Eq.refl 4) (by simp [Value.oneCell']) ?_)
        refine bodyPost_ret (results_row_tmp rfl _ _ w.heap.size 110 _ (0, 0) _ rfl (HX5.out.2.2.1.setRow _) Tryd.underlying110 rfl (by exact HSZ.out)) rfl ?_
        have hpz := HH.out.1
        rw [HZN.out] at hpz
        rw [← hpz]
        refine ⟨A, cT, ?_, ?_, below_setRow HX5.out.2.2.2 (Nat.le_refl _) _⟩
        · show _ = Ending.returned (.tuple #[.agg #[.slice A s.texts.length cT, .string (str s.chain), .bool true, .int .i64 ((u + 48 : Nat) : Int)], .bool true])
          rw [← HCS.out.1, ← HCS.out.2.1, show ((u + 48 : Nat) : Int) = (u : Int) + 48 by omega]
          rfl
        · show World.ownsRow _ _ _ _ (.slice A s.texts.length cT) s.texts.length (strs s.texts)
          rw [← HCS.out.2.1]
          exact own_fr HX5.out.2.1 (Fr.setRow (F := fun k => k = w.heap.size) _ w.heap.size _ rfl) (own_ne HX5.out.2.1 HX5.out.2.2.1 (by decide))
      · have hpf2 : pref (X.drop u) (ft (k + T) s.chain) = false := by simpa using hpf
        rw [hpf2] at hcm
        have HPF := Lib.hid hpf2
        clear hpf hpf2 hle48
        have HCM := Lib.hid hcm
        clear hcm
        go_upto_region 8 with fail
        go_cut [61] (fun x w9 => x = .bool false ∧ w9 = w3)
        case first =>
          by_cases h48 : r < 48
          · have h48i : ¬ (48 : Int) ≤ (r : Int) := by omega
            go_wp2_with fail
            go_meet
            exact ⟨rfl, rfl⟩
          · have h48i : (48 : Int) ≤ (r : Int) := by omega
            have h48n : 48 ≤ r := by omega
            have hcm := HCM.out h48n
            go_wp2_with fail
            go_meet
            exact ⟨rfl, rfl⟩
        case rest =>
          obtain ⟨rfl, hwd⟩ := hcut
          obtain rfl := hwd.symm
          clear HCM hx48
          have hN4 : R.extract 0 4 = str ((X.drop u).take 4) := by rw [HRX.out, List.drop_zero]
          obtain ⟨N, hN⟩ : ∃ N, N = pzN (X.drop u) := ⟨_, rfl⟩
          have hNv : vl ((X.drop u).take 4) = N := by rw [hN]; unfold pzN eyeN; rw [if_pos ⟨rfl, by rw [HRL.out]; omega⟩]
          have hNl : N < 4294967296 := by
            have := eyeN_lt (X.drop u) 0 4
            have h44 : (256 : Nat) ^ 4 = 4294967296 := by decide
            rw [h44] at this
            rw [hN]; exact this
          have HV := value_any ((X.drop u).take 4) (by rw [List.length_take]; omega)
          rw [hNv] at HV
          obtain ⟨R4, hR4⟩ : ∃ Z, Z = str ((X.drop u).take 4) := ⟨_, rfl⟩
          rw [← hR4] at hN4 HV
          replace HV := Lib.hid HV
          replace hN := Lib.hid hN
          have h4j : (4 : Int) ≤ (r : Int) := by omega
          have h4n : 4 ≤ r := by omega
          have hwN0 : IntKind.i64.wrap (N : Int) = (N : Int) := IntWalk.i64_in _ (by omega)
          have hwN : IntKind.i64.wrap ((N : Int) + 40) = (N : Int) + 40 := IntWalk.i64_in _ (by omega)
          have hwN4 : IntKind.i64.wrap (4 + (N : Int)) = 4 + (N : Int) := IntWalk.i64_in _ (by omega)
          have hbd : pzBad (X.drop u) ↔ (N < 1 ∨ 65535 < N ∨ r < N + 40) := by unfold pzBad; rw [← hN.out, HRL.out]
          clear hR4 hNv
          go_wp2_with fail
          refine (HV.out _).mono ?_
          rintro e w4 ⟨rfl, rfl⟩
          clear HV
          by_cases hbad : pzBad (X.drop u)
          · have HZN := Lib.hid (pz_stop X k f s (by rw [← HCS.out.2.2, ← HCS.out.2.1]; exact HPF.out) (by rw [← HCS.out.2.2]; exact hbad))
            have hcs := hbd.1 hbad
            clear hbd hbad
            by_cases hq1 : N < 1
            · have hq1i : (N : Int) < 1 := by omega
              go_wp2_with (have hzz := HX3.out.2.2.1; refine wpList_store_row rfl 110 (.tmp 8) (.tmp 85) rfl w.heap.size _ rfl rfl 110 _ hzz (by exact HSZ.out) (Eq.refl 4) (by simp [Value.oneCell']) ?_)
              refine bodyPost_ret (results_row_tmp rfl _ _ w.heap.size 110 _ (0, 0) _ rfl (HX3.out.2.2.1.setRow _) Tryd.underlying110 rfl (by exact HSZ.out)) rfl ?_
              have hpz := HH.out.1
              rw [HZN.out] at hpz
              rw [← hpz]
              exact ⟨A, cT, by rw [← HCS.out.1, ← HCS.out.2.1, ← HCS.out.2.2]; rfl, by rw [← HCS.out.2.1]; exact own_fr HX3.out.2.1 (Fr.setRow (F := fun k => k = w.heap.size) _ w.heap.size _ rfl) (own_ne HX3.out.2.1 HX3.out.2.2.1 (by decide)), below_setRow HX3.out.2.2.2 (Nat.le_refl _) _⟩
            · have hq1i : ¬ (N : Int) < 1 := by omega
              by_cases hq2 : 65535 < N
              · have hq2i : (65535 : Int) < (N : Int) := by omega
                go_wp2_with (have hzz := HX3.out.2.2.1; refine wpList_store_row rfl 110 (.tmp 8) (.tmp 85) rfl w.heap.size _ rfl rfl 110 _ hzz (by exact HSZ.out) (Eq.refl 4) (by simp [Value.oneCell']) ?_)
                refine bodyPost_ret (results_row_tmp rfl _ _ w.heap.size 110 _ (0, 0) _ rfl (HX3.out.2.2.1.setRow _) Tryd.underlying110 rfl (by exact HSZ.out)) rfl ?_
                have hpz := HH.out.1
                rw [HZN.out] at hpz
                rw [← hpz]
                exact ⟨A, cT, by rw [← HCS.out.1, ← HCS.out.2.1, ← HCS.out.2.2]; rfl, by rw [← HCS.out.2.1]; exact own_fr HX3.out.2.1 (Fr.setRow (F := fun k => k = w.heap.size) _ w.heap.size _ rfl) (own_ne HX3.out.2.1 HX3.out.2.2.1 (by decide)), below_setRow HX3.out.2.2.2 (Nat.le_refl _) _⟩
              · have hq2i : ¬ (65535 : Int) < (N : Int) := by omega
                have hq3 : (r : Int) < (N : Int) + 40 := by omega
                go_wp2_with (have hzz := HX3.out.2.2.1; refine wpList_store_row rfl 110 (.tmp 8) (.tmp 85) rfl w.heap.size _ rfl rfl 110 _ hzz (by exact HSZ.out) (Eq.refl 4) (by simp [Value.oneCell']) ?_)
                refine bodyPost_ret (results_row_tmp rfl _ _ w.heap.size 110 _ (0, 0) _ rfl (HX3.out.2.2.1.setRow _) Tryd.underlying110 rfl (by exact HSZ.out)) rfl ?_
                have hpz := HH.out.1
                rw [HZN.out] at hpz
                rw [← hpz]
                exact ⟨A, cT, by rw [← HCS.out.1, ← HCS.out.2.1, ← HCS.out.2.2]; rfl, by rw [← HCS.out.2.1]; exact own_fr HX3.out.2.1 (Fr.setRow (F := fun k => k = w.heap.size) _ w.heap.size _ rfl) (own_ne HX3.out.2.1 HX3.out.2.2.1 (by decide)), below_setRow HX3.out.2.2.2 (Nat.le_refl _) _⟩
          · have hnb : 1 ≤ N ∧ N ≤ 65535 ∧ N + 40 ≤ r := by
              rcases Nat.lt_or_ge N 1 with h1 | h1
              · exact absurd (hbd.2 (.inl h1)) hbad
              · rcases Nat.lt_or_ge 65535 N with h2 | h2
                · exact absurd (hbd.2 (.inr (.inl h2))) hbad
                · rcases Nat.lt_or_ge r (N + 40) with h3 | h3
                  · exact absurd (hbd.2 (.inr (.inr h3))) hbad
                  · exact ⟨h1, h2, h3⟩
            obtain ⟨hb1, hb2, hb3⟩ := hnb
            have hq1i : ¬ (N : Int) < 1 := by omega
            have hq2i : ¬ (65535 : Int) < (N : Int) := by omega
            have hq3 : ¬ (r : Int) < (N : Int) + 40 := by omega
            have HNB := Lib.hid hbad
            clear hbd hbad
            obtain ⟨tx, htx⟩ : ∃ tx, tx = pzT (X.drop u) := ⟨_, rfl⟩
            have hpt : (((X.drop u).drop 4).take N) = tx := by rw [htx]; unfold pzT; rw [← hN.out]
            have htl2 : tx.length = N := by rw [← hpt, List.length_take, List.length_drop, HRL.out]; omega
            have hxt : R.extract 4 (4 + N) = str tx := by rw [HRX.out, Nat.add_sub_cancel_left, hpt]
            have hxn : R.extract 0 (N + 40) = str ((X.drop u).take (N + 40)) := by rw [HRX.out, List.drop_zero, Nat.sub_zero]
            have HFR := rframe_any s.chain tx HH.out.2.2.2.2.1 (by omega)
            have hfl : (frm s.chain tx).length = N + 40 := by rw [frm_length, htl2]
            have hcmp : ((str ((X.drop u).take (N + 40))).toList == (str (frm s.chain tx)).toList) = pref (X.drop u) (frm s.chain tx) := by
              rw [str_toList, str_toList, beq_dec]
              unfold pref
              rw [hfl]
            obtain ⟨TX, hTX⟩ : ∃ Z, Z = str tx := ⟨_, rfl⟩
            obtain ⟨FF, hFF⟩ : ∃ Z, Z = str (frm s.chain tx) := ⟨_, rfl⟩
            obtain ⟨NX, hNX⟩ : ∃ Z, Z = str (sha (s.chain ++ tx)) := ⟨_, rfl⟩
            obtain ⟨RN, hRN⟩ : ∃ Z, Z = str ((X.drop u).take (N + 40)) := ⟨_, rfl⟩
            rw [← hTX] at hxt HFR
            rw [← hFF] at HFR hcmp
            rw [← hNX, ← HCS.out.1] at HFR
            rw [← hRN] at hcmp hxn
            have HTX := Lib.hid (And.intro hTX (And.intro hNX (And.intro htx htl2)))
            replace HFR := Lib.hid HFR
            have h4p : (4 : Int) ≤ 4 + (N : Int) := by omega
            have h4q : 4 + (N : Int) ≤ (r : Int) := by omega
            have h40 : (0 : Int) ≤ 4 + (N : Int) := by omega
            have h4t : (4 + (N : Int)).toNat = 4 + N := by omega
            have hn40 : (0 : Int) ≤ (N : Int) + 40 := by omega
            have hn4q : (N : Int) + 40 ≤ (r : Int) := by omega
            have hn4t : ((N : Int) + 40).toNat = N + 40 := by omega
            clear hTX hFF hNX hRN htx hpt hfl htl2
            go_wp2_with fail
            refine region_fast [(0, true), (1, true), (2, true), (3, true), (4, true), (5, true), (6, false), (7, true), (8, true), (9, true), (10, true), (11, true)] [2, 3, 4, 5, 9, 10] 1596 [(154742504910672534362390528, 1024, 0, 0), (309485009821345068724781056, 154742504910672534362390528, 1, 1), (618970019642690137449562112, 2048, 0, 0), (1237940039285380274899124224, 8192, 0, 0), (2475880078570760549798248448, 1237940039285380274899124224, 8, 8), (4951760157141521099596496896, 3094850098213450687247810560, 20, 28), (9903520314283042199192993792, 5261245166962866168321277952, 34, 63), (77371252455336267181195264, 9903520314283042199192993792, 64, 127), (19807040628566084398385987584, 77371252455336267181195264, 128, 255), (39614081257132168796771975168, 77371252455336267181195264, 128, 255), (16384, 19807040628566084398385987584, 511, 511), (32768, 39614081257132168796771975168, 2047, 2047)] (fun W => W.cell? ⟨pb, 1, none⟩ = some (.string CS)) (by kernel_rfl) (by kernel_rfl) (by kernel_rfl) rfl (by kernel_rfl) (by kernel_rfl) c1 (fun hS => ?_)
            repeat (first
              | (refine plan_read (v := ?_) rfl (fun _ _ _ h => h) rfl hS ?_ ?_; rotate_left 1; (focus (intro w' hS'; have e1 := hS'; go_simp; try rfl)); (simp only [Act.put, List.setIfInBounds_toArray]; dsimp only [List.set_cons_zero, List.set_cons_succ]))
              | (refine plan_skip rfl (fun _ _ _ h => h) rfl hS ?_; (simp only [Act.put, List.setIfInBounds_toArray]; dsimp only [List.set_cons_zero, List.set_cons_succ])))
            refine plan_do (by rfl) (by rfl) (fun K hK => ?_)
            go_simp
            refine (HFR.out _).mono ?_
            rintro e w5 ⟨rfl, bel5⟩
            have bel5' : Below w3.heap.size w3 w5 := ((Below.refl _ _).drew : Below w3.heap.size w3 w3.drew).trans bel5
            have hK5 := HX3.out.1.below bel5' HX3.out.1.lt
            have HX5 := Lib.hid (And.intro hK5 (And.intro (own_below HX3.out.2.1 bel5') (And.intro (HX3.out.2.2.1.below bel5' HX3.out.2.2.1.lt) (HX3.out.2.2.2.trans (bel5'.mono HX3.out.2.2.2.size)))))
            have hS : w5.cell? ⟨pb, 1, none⟩ = some (.string CS) := hK5.cell 1
            refine hK.out _ _ (fun h => by cases h) (fun _ => ?_); clear hK K; try (simp only [Act.put, List.setIfInBounds_toArray]; dsimp only [List.set_cons_zero, List.set_cons_succ])
            repeat (first
              | (refine plan_read (v := ?_) rfl (fun _ _ _ h => h) rfl hS ?_ ?_; rotate_left 1; (focus (intro w' hS'; have e1 := hS'; go_simp; try rfl)); (simp only [Act.put, List.setIfInBounds_toArray]; dsimp only [List.set_cons_zero, List.set_cons_succ]))
              | (refine plan_skip rfl (fun _ _ _ h => h) rfl hS ?_; (simp only [Act.put, List.setIfInBounds_toArray]; dsimp only [List.set_cons_zero, List.set_cons_succ])))
            refine plan_nil ?_
            clear hS bel5 bel5' c0 c1 c2 c3 HFR
            have c0 : w5.cell? ⟨pb, 0, none⟩ = some (.slice A T cT) := hK5.cell 0
            have c1 : w5.cell? ⟨pb, 1, none⟩ = some (.string CS) := hK5.cell 1
            have c2 : w5.cell? ⟨pb, 2, none⟩ = some (.bool s.sealed_) := hK5.cell 2
            have c3 : w5.cell? ⟨pb, 3, none⟩ = some (.int .i64 u) := hK5.cell 3
            clear hK5
            by_cases hpm : pref (X.drop u) (frm s.chain tx) = true
            · rw [hpm] at hcmp
              have hZN := pz_on X k f s (by rw [← HCS.out.2.2, ← HCS.out.2.1]; exact HPF.out) (by rw [← HCS.out.2.2]; exact HNB.out) (by rw [← HCS.out.2.2, ← HTX.out.2.2.1]; exact hpm)
              rw [← HCS.out.2.2, ← HTX.out.2.2.1, ← hN.out] at hZN
              have HZN := Lib.hid hZN
              have HPM := Lib.hid hpm
              clear hZN hpm
              go_wp2_with fail
              have c05 : w5.drew.cell? ⟨pb, 0, none⟩ = some (.slice A T cT) := c0
              refine region_fast [(0, true), (1, true), (2, true), (3, true), (4, true), (5, true), (6, false), (7, false), (8, true), (9, false)] [2, 3, 4, 5, 6] 124 [(10141204801825835211973625643008, 1024, 0, 0), (20282409603651670423947251286016, 10141204801825835211973625643008, 1, 1), (40564819207303340847894502572032, 2048, 0, 0), (81129638414606681695789005144064, 8192, 0, 0), (162259276829213363391578010288128, 81129638414606681695789005144064, 8, 8), (324518553658426726783156020576256, 202824096036516704239472512860160, 20, 28), (649037107316853453566312041152512, 324518553658426726783156020576256, 32, 60), (1298074214633706907132624082305024, 669319516920505123990259292438528, 66, 127), (2596148429267413814265248164610048, 1024, 255, 255), (0, 3894222643901120721397872246915072, 511, 511)] (fun W => W.cell? ⟨pb, 0, none⟩ = some (.slice A T cT)) (by kernel_rfl) (by kernel_rfl) (by kernel_rfl) rfl (by kernel_rfl) (by kernel_rfl) c05 (fun hS => ?_)
              repeat (first
                | (refine plan_read (v := ?_) rfl (fun _ _ _ h => h) rfl hS ?_ ?_; rotate_left 1; (focus (intro w' hS'; have e0 := hS'; go_simp; try rfl)); (simp only [Act.put, List.setIfInBounds_toArray]; dsimp only [List.set_cons_zero, List.set_cons_succ]))
                | (refine plan_skip rfl (fun _ _ _ h => h) rfl hS ?_; (simp only [Act.put, List.setIfInBounds_toArray]; dsimp only [List.set_cons_zero, List.set_cons_succ])))
              refine plan_do (by rfl) (by rfl) (fun K hK => ?_)
              go_simp
              have bel6 : Below w5.heap.size w5 (w5.alloc (.cells #[.string TX] 9)).drew := ((Below.refl _ _).alloc (Nat.le_refl _) _).drew
              have hs6 : Sees (w5.alloc (.cells #[.string TX] 9)).drew 1 (some ⟨w5.heap.size, 0, none⟩) 1 [.string TX] := (sees_new w5 9 [.string TX] 1 1 rfl).below (Below.refl _ _).drew
              obtain ⟨w6, hw6⟩ : ∃ w6, (w5.alloc (.cells #[.string TX] 9)).drew = w6 := ⟨_, rfl⟩
              rw [hw6] at bel6 hs6 ⊢
              have hK6 := HX5.out.1.below bel6 HX5.out.1.lt
              have hS6 : w6.cell? ⟨pb, 0, none⟩ = some (.slice A T cT) := hK6.cell 0
              have hO6 := own_below HX5.out.2.1 bel6
              have hZ6 := HX5.out.2.2.1.below bel6 HX5.out.2.2.1.lt
              have hB6 := HX5.out.2.2.2.trans (bel6.mono HX5.out.2.2.2.size)
              clear hS
              refine hK.out _ _ (fun _ => hS6) (fun hS => ?_); clear hK K; replace hS := hS rfl; try (simp only [Act.put, List.setIfInBounds_toArray]; dsimp only [List.set_cons_zero, List.set_cons_succ])
              repeat (first
                | (refine plan_read (v := ?_) rfl (fun _ _ _ h => h) rfl hS ?_ ?_; rotate_left 1; (focus (intro w' hS'; have e0 := hS'; go_simp; try rfl)); (simp only [Act.put, List.setIfInBounds_toArray]; dsimp only [List.set_cons_zero, List.set_cons_succ]))
                | (refine plan_skip rfl (fun _ _ _ h => h) rfl hS ?_; (simp only [Act.put, List.setIfInBounds_toArray]; dsimp only [List.set_cons_zero, List.set_cons_succ])))
              refine plan_do (by rfl) (by rfl) (fun K hK => ?_)
              refine wp_app (.tmp 104) (.tmp 109) 47 rfl w.heap.size 9 _ 1 16 Tryd.underlying47 info_string rfl (by decide) (.slice A T cT) T _ rfl hO6 (some ⟨w5.heap.size, 0, none⟩) 1 1 [.string TX] rfl hs6 (by simp [Value.oneCell']) (by have := HH.out.2.2.1; unfold maxLen; omega) (by have := HH.out.2.2.1; omega) hB6.size ?_
              intro v7 w7 o1 o2 o3 o4
              obtain ⟨A7, c7, rfl⟩ := own_shape o1
              have hf7 : Fr (fun k => (Value.slice A T cT).ownBlock = some k) w6 w7 := Fr.of_grown o2 (fun k h => h)
              have hK7 := hK6.fr hf7 (fun e => own_ne hO6 hK6 (by decide) _ e rfl)
              have hZ7 := hZ6.fr hf7 (fun e => own_ne hO6 hZ6 (by decide) _ e rfl)
              have hB7 := hB6.grown o2 hB6.size (fun k hk => (hO6.lt k hk).1)
              have c07 : w7.cell? ⟨pb, 0, none⟩ = some (.slice A T cT) := hK7.cell 0
              have f07 : w7.frozen? ⟨pb, 0, none⟩ = false := hK7.frozen 0
              clear hS
              have hS : w7.cell? ⟨pb, 0, none⟩ = some (.slice A T cT) := c07
              refine hK.out _ _ (fun h => by cases h) (fun _ => ?_); clear hK K; try (simp only [Act.put, List.setIfInBounds_toArray]; dsimp only [List.set_cons_zero, List.set_cons_succ])
              repeat (first
                | (refine plan_read (v := ?_) rfl (fun _ _ _ h => h) rfl hS ?_ ?_; rotate_left 1; (focus (intro w' hS'; go_simp; try rfl)); (simp only [Act.put, List.setIfInBounds_toArray]; dsimp only [List.set_cons_zero, List.set_cons_succ]))
                | (refine plan_skip rfl (fun _ _ _ h => h) rfl hS ?_; (simp only [Act.put, List.setIfInBounds_toArray]; dsimp only [List.set_cons_zero, List.set_cons_succ])))
              refine plan_do (by rfl) (by rfl) (fun K hK => ?_)
              go_simp
              refine hK.out _ _ (fun h => by cases h) (fun _ => ?_); clear hK K; try (simp only [Act.put, List.setIfInBounds_toArray]; dsimp only [List.set_cons_zero, List.set_cons_succ])
              refine plan_nil ?_
              clear hS
              have hK8 := hK7.set_ 0 (.slice A7 (T + 1) c7)
              have g8 : Fr (fun k => k = pb) w7 _ := Fr.setCell w7 ⟨pb, 0, none⟩ (.slice A7 (T + 1) c7) rfl
              have c18 := hK8.cell 1
              have f18 := hK8.frozen 1
              have hK9 := hK8.set_ 1 (.string NX)
              have g9 := g8.trans (Fr.setCell (F := fun k => k = pb) _ ⟨pb, 1, none⟩ (.string NX) rfl) (fun _ _ h => h)
              have c39 := hK9.cell 3
              have f39 := hK9.frozen 3
              have hK10 := hK9.set_ 3 (.int .i64 ((u : Int) + ((N : Int) + 40)))
              have g10 := g9.trans (Fr.setCell (F := fun k => k = pb) _ ⟨pb, 3, none⟩ (.int .i64 ((u : Int) + ((N : Int) + 40))) rfl) (fun _ _ h => h)
              have hwu2 : IntKind.i64.wrap ((u : Int) + ((N : Int) + 40)) = (u : Int) + ((N : Int) + 40) := IntWalk.i64_in _ (by omega)
              have HF := Lib.hid (And.intro hK10 (And.intro (own_fr o1 g10 (own_ne o1 hK7 (by decide))) (And.intro (hZ7.fr g10 HNE.out) (hB7.trans (g10.below hB7.size (fun k hk => by rw [hk]; have := HNE.out; omega))))))
              clear hK6 hO6 hZ6 hB6 bel6 hs6 hS6 o1 o2 o3 o4 hf7 hK7 hZ7 hB7 c07 f07 hK8 g8 hK9 g9 hK10 g10 c05
              go_wp2_with fail
              go_roundw
              case rel =>
                refine ⟨⟨s.texts ++ [tx], sha (s.chain ++ tx), s.sealed_, u + (N + 40)⟩, f, ?_, ?_, ?_, sha_length _, ?_, ⟨A7, c7, ?_, ?_⟩, HF.out.2.2.1, HF.out.2.2.2⟩
                · rw [← HZN.out]; exact HH.out.1
                · show m < u + (N + 40) + f
                  have := HH.out.2.1; omega
                · show u + (N + 40) ≤ m
                  have := HH.out.2.2.2.1; omega
                · show (s.texts ++ [tx]).length ≤ u + (N + 40)
                  rw [List.length_append, ← HCS.out.2.1]
                  have := HH.out.2.2.1
                  simp; omega
                · have e1 : (s.texts ++ [tx]).length = T + 1 := by rw [List.length_append, ← HCS.out.2.1]; rfl
                  show Blk _ pb 110 #[.slice A7 (s.texts ++ [tx]).length c7, .string (str (sha (s.chain ++ tx))), .bool s.sealed_, .int .i64 ((u + (N + 40) : Nat) : Int)]
                  rw [e1, ← HTX.out.2.1, show ((u + (N + 40) : Nat) : Int) = (u : Int) + ((N : Int) + 40) by omega]
                  exact HF.out.1
                · have e1 : (s.texts ++ [tx]).length = T + 1 := by rw [List.length_append, ← HCS.out.2.1]; rfl
                  have e2 : strs (s.texts ++ [tx]) = strs s.texts ++ [.string TX] := by rw [HTX.out.1]; simp [strs]
                  show World.ownsRow _ _ _ _ (.slice A7 (s.texts ++ [tx]).length c7) (s.texts ++ [tx]).length (strs (s.texts ++ [tx]))
                  rw [e1, e2]
                  exact HF.out.2.1
              case measure =>
                rw [show World.cell? _ ⟨pb, 3, none⟩ = some (.int .i64 ((u : Int) + ((N : Int) + 40))) from HF.out.1.cell 3, HC3.out]
                show m - ((u : Int) + ((N : Int) + 40)).toNat < m - (u : Int).toNat
                have hrm := HH.out.2.2.2.1
                omega
            · have hpm2 : pref (X.drop u) (frm s.chain tx) = false := by simpa using hpm
              rw [hpm2] at hcmp
              have HZN := Lib.hid (pz_other X k f s (by rw [← HCS.out.2.2, ← HCS.out.2.1]; exact HPF.out) (by rw [← HCS.out.2.2]; exact HNB.out) (by rw [← HCS.out.2.2, ← HTX.out.2.2.1]; exact hpm2))
              clear hpm hpm2
              go_wp2_with (have hzz := HX5.out.2.2.1; refine wpList_store_row rfl 110 (.tmp 8) (.tmp 102) rfl w.heap.size _ rfl rfl 110 _ hzz (by exact HSZ.out) (Eq.refl 4) (by simp [Value.oneCell']) ?_)
              refine bodyPost_ret (results_row_tmp rfl _ _ w.heap.size 110 _ (0, 0) _ rfl (HX5.out.2.2.1.setRow _) Tryd.underlying110 rfl (by exact HSZ.out)) rfl ?_
              have hpz := HH.out.1
              rw [HZN.out] at hpz
              rw [← hpz]
              exact ⟨A, cT, by rw [← HCS.out.1, ← HCS.out.2.1, ← HCS.out.2.2]; rfl, by rw [← HCS.out.2.1]; exact own_fr HX5.out.2.1 (Fr.setRow (F := fun k => k = w.heap.size) _ w.heap.size _ rfl) (own_ne HX5.out.2.1 HX5.out.2.2.1 (by decide)), below_setRow HX5.out.2.2.2 (Nat.le_refl _) _⟩
end Go.Proofs.YtldgnckchlbadaaDoor
