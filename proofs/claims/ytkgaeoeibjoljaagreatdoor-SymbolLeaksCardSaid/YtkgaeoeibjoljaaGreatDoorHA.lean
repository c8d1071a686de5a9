/-
  A log and its disk, whatever is laid and flushed: plain.
  A run's other functions: Of, Epochs, Leaks, Flush, Shred.
-/
import Derived.Test.YtkgaeoeibjoljaaGreatDoorLog5
import Derived.Test.YtkgaeoeibjoljaaGreatDoorLog9
import Derived.Test.YtkgaeoeibjoljaaGreatDoorGH
import Derived.Test.YtkgaeoeibjoljaaGreatDoorSyE
import Derived.Test.YtkgaeoeibjoljaaGreatDoorGZ
import Derived.Test.YtkgaeoeibjoljaaGreatDoorGP
namespace Go.Proofs.YtkgaeoeibjoljaaGreatDoor
section
set_option maxRecDepth 4000
theorem puts_parts (S l : List UInt8) (a : Nat) : ∀ (n : Nat), n * 128 <= l.length -> (a + n) * 128 <= S.length -> puts S (parts a l n) = S.take (a * 128) ++ (l.take (n * 128) ++ S.drop ((a + n) * 128))
 | 0, _, _ => by simp [parts_zero, puts]
 | n + 1, h1, h2 => by
  have ih := puts_parts S l a n (by omega) (by omega)
  rw [parts_succ, puts_snoc, ih]
  have hs := length_sect l n (by omega)
  have hP : (S.take (a * 128) ++ l.take (n * 128)).length = (a + n) * 128 := by rw [List.length_append, List.length_take, List.length_take]; omega
  show splice (S.take (a * 128) ++ (l.take (n * 128) ++ S.drop ((a + n) * 128))) ((a + n) * 128) (sect l n) = _
  unfold splice
  have e1 : l.take ((n + 1) * 128) = l.take (n * 128) ++ sect l n := by rw [Nat.add_mul, Nat.one_mul, List.take_add]; rfl
  have e2 : ((S.take (a * 128) ++ l.take (n * 128)) ++ S.drop ((a + n) * 128)).drop ((a + n) * 128 + 128) = S.drop ((a + (n + 1)) * 128) := by
   rw [<- List.drop_drop, seg_next hP, List.drop_drop]
   congr 1
   omega
  have e0 : S.take (a * 128) ++ (l.take (n * 128) ++ S.drop ((a + n) * 128)) = (S.take (a * 128) ++ l.take (n * 128)) ++ S.drop ((a + n) * 128) := (List.append_assoc _ _ _).symm
  rw [hs, e0, seg_first hP, e2, e1]
  simp only [List.append_assoc]
theorem image_push {D : Dk} (hq : D.queue = []) (a n : Nat) (l : List UInt8) (h1 : l.length = n * 128) (h2 : (a + n) * 128 <= D.safe.length) : (D.push a l n).image = D.safe.take (a * 128) ++ (l ++ D.safe.drop ((a + n) * 128)) := by
 show puts D.safe (D.queue ++ parts a l n) = _
 have hl : l.take (n * 128) = l := List.take_of_length_le (by omega)
 rw [hq, List.nil_append, puts_parts D.safe l a n (by omega) h2, hl]
theorem image_idle {D : Dk} (hq : D.queue = []) : D.image = D.safe := by
 show puts D.safe D.queue = _
 rw [hq]
 rfl
theorem mid_splice (S l : List UInt8) (F A N : Nat) (hA : A + l.length <= N) (hN : F + N <= S.length) : ((S.take (F + A) ++ (l ++ S.drop (F + A + l.length))).drop F).take N = ((S.drop F).take N).take A ++ (l ++ ((S.drop F).take N).drop (A + l.length)) := by
 obtain ⟨X, Y, rfl, hX⟩ : ∃ X Y, S = X ++ Y /\ X.length = F := ⟨S.take F, S.drop F, (List.take_append_drop _ _).symm, by simp; omega⟩
 rw [List.length_append] at hN
 have e1 : (X ++ Y).take (F + A) = X ++ Y.take A := by rw [List.take_append, List.take_of_length_le (by omega), hX, Nat.add_sub_cancel_left]
 have e2 : (X ++ Y).drop (F + A + l.length) = Y.drop (A + l.length) := by rw [Nat.add_assoc, <- List.drop_drop, seg_next hX]
 rw [e1, e2, List.append_assoc, seg_next hX, seg_next hX]
 obtain ⟨R, Z, rfl, hR⟩ : ∃ R Z, Y = R ++ Z /\ R.length = N := ⟨Y.take N, Y.drop N, (List.take_append_drop _ _).symm, by simp; omega⟩
 have t1 : (R ++ Z).take A = R.take A := List.take_append_of_le_length (by omega)
 have t2 : (R ++ Z).drop (A + l.length) = R.drop (A + l.length) ++ Z := List.drop_append_of_le_length (by omega)
 have t3 : (R.take A ++ (l ++ (R.drop (A + l.length) ++ Z))) = (R.take A ++ (l ++ R.drop (A + l.length))) ++ Z := by simp
 rw [t1, t2, seg_first hR, t3, seg_first (by simp; omega)]
theorem seg_all (segs size : Nat) : segs * (size * 128) = segs * size * 128 := (Nat.mul_assoc _ _ _).symm
theorem piece_push {D : Dk} (hok : D.Ok) (hq : D.queue = []) (f a n P : Nat) (l : List UInt8) (h1 : l.length = n * 128) (haP : a + n <= P) (h2 : (f + P) * 128 <= D.safe.length) : (D.push (f + a) l n).flushed.piece f P = (D.piece f P).take (a * 128) ++ (l ++ (D.piece f P).drop ((a + n) * 128)) := by
 show ((puts (D.push (f + a) l n).image []).drop (f * 128)).take (P * 128) = ((D.image.drop (f * 128)).take (P * 128)).take (a * 128) ++ (l ++ ((D.image.drop (f * 128)).take (P * 128)).drop ((a + n) * 128))
 show ((D.push (f + a) l n).image.drop (f * 128)).take (P * 128) = _
 rw [image_push hq _ _ _ h1 (by omega), image_idle hq]
 have := mid_splice D.safe l (f * 128) (a * 128) (P * 128) (by omega) (by omega)
 rw [show (f + a) * 128 = f * 128 + a * 128 by omega, show (f + a + n) * 128 = f * 128 + a * 128 + l.length by omega, this, show (a + n) * 128 = a * 128 + l.length by omega]
theorem splice_front (l b : List UInt8) (e c : Nat) (h : c <= e) (h2 : e <= l.length) : (splice l e b).take c = l.take c := by
 unfold splice
 rw [List.take_append_of_le_length (by rw [List.length_take]; omega), List.take_take, Nat.min_eq_left h]
theorem put_front (s : Lg) (b : List UInt8) (c : Nat) (h : c <= s.end_) (h2 : s.end_ <= s.B.length) : (s.put b).B.take c = s.B.take c := splice_front _ _ _ _ h h2
theorem room_fix (s : Lg) (m : Nat) : (s.room m).segs = s.segs /\ (s.room m).size = s.size /\ (s.room m).sure = s.sure /\ (s.room m).clean = s.clean /\ (s.room m).dead = s.dead /\ (s.room m).texts = s.texts /\ (s.room m).chain = s.chain := by
 unfold Lg.room
 split
 ·exact ⟨rfl, rfl, rfl, rfl, rfl, rfl, rfl⟩
 ·split
  ·exact ⟨rfl, rfl, rfl, rfl, rfl, rfl, rfl⟩
  ·split
   ·exact ⟨rfl, rfl, rfl, rfl, rfl, rfl, rfl⟩
   ·exact ⟨rfl, rfl, rfl, rfl, rfl, rfl, rfl⟩
theorem room_front {s : Lg} {m : Nat} (hok : s.Ok) (hr : s.Room m) (hf : s.sealed_ = false -> s.used + 48 <= s.n) (hlast : s.used = 0 -> s.last = 0) : s.end_ <= (s.room m).end_ /\ (s.room m).B.take s.end_ = s.B.take s.end_ := by
 have hrk := hr.ok
 have hend := hok.end_le
 have hoct := hok.oct
 have key : ∀ (r : Lg), r.n = s.n -> r.B.length = s.all -> s.end_ <= (s.last + 1) * s.n -> (r.begin_ (s.last + 1)).end_ ≥ s.end_ /\ ((s.last + 1) * s.n <= s.all -> (r.begin_ (s.last + 1)).B.take s.end_ = r.B.take s.end_) := by
  intro r hn hb hle
  refine ⟨?_, fun h2 => ?_⟩
  ·show s.end_ <= (s.last + 1) * r.n + _
   rw [hn]
   omega
  ·show (splice r.B ((s.last + 1) * r.n + 0) _).take s.end_ = _
   rw [hn]
   exact splice_front _ _ _ _ (by omega) (by rw [hb]; omega)
 have hle : s.end_ <= (s.last + 1) * s.n := by
  have := hok.used
  unfold Lg.end_
  rw [Nat.add_mul]
  omega
 unfold Lg.room at hrk ⊢
 by_cases h0 : s.used = 0
 ·rw [if_pos h0] at hrk ⊢
  have he : s.end_ = 0 := by unfold Lg.end_; rw [h0, hlast h0, Nat.zero_mul]
  rw [he]
  exact ⟨Nat.zero_le _, rfl⟩
 ·rw [if_neg h0] at hrk ⊢
  have hnx : ∀ r : Lg, r.segs = s.segs -> r.n = s.n -> (r.begin_ (s.last + 1)).Ok -> (s.last + 1) * s.n <= s.all := by
   intro r h1 h2 h3
   have := h3.last
   have h4 : s.last + 1 < r.segs := this
   rw [h1] at h4
   exact Nat.mul_le_mul_right _ (by omega)
  by_cases h1 : s.sealed_ = true
  ·rw [if_pos h1] at hrk ⊢
   have k := key s rfl hoct hle
   exact ⟨k.1, k.2 (hnx s rfl rfl hrk)⟩
  ·rw [if_neg h1] at hrk ⊢
   by_cases h2 : s.fits m = false
   ·rw [if_pos h2] at hrk ⊢
    have hfl : (s.put (ft s.texts.length s.chain)).Ok := hok.put (by rw [ft_length, hok.chain]; exact hf (by simpa using h1))
    have k := key (s.put (ft s.texts.length s.chain)) rfl hfl.oct hle
    refine ⟨k.1, ?_⟩
    rw [k.2 (hnx (s.put (ft s.texts.length s.chain)) rfl rfl hrk)]
    exact put_front s _ _ (Nat.le_refl _) (by rw [hoct]; exact hend)
   ·rw [if_neg h2]
    exact ⟨Nat.le_refl _, rfl⟩
end
section
set_option maxRecDepth 4000
open Go.RowKit
theorem ecs_get {l : List (Int × Int)} {k : Nat} {x : Int × Int} (h : l[k]? = some x) (j : Nat) (hj : j < 2) : (ecs l)[k * 2 + j]? = (ecell x)[j]? := flatMap_get ecell 2 ecell_length l k j x h hj
section
variable {w : World} {base : Nat} {S : St} {a : Loc} {F K L P : Nat -> Prop} {T : Nat -> Nat}
theorem epochs_any (h : Rn w base S a F K L P T) : Calls Tryz.prog 31 #[.pointer (some ⟨a.r, 0, none⟩)] w fun e w' => e = .returned (.int .i64 S.eps.length) /\ w = w' := by
 have c8 : w.cell? ⟨a.r, 8, none⟩ = some (.slice a.eA S.eps.length a.eC) := h.top.cell 8
 clear h
 obtain ⟨N, hN⟩ : ∃ N, N = S.eps.length := ⟨_, rfl⟩
 rw [<- hN] at c8 ⊢
 clear hN
 go_enter Tryz.func31, Tryz.ntmps31
 go_wp2_with fail
 go_ret
 exact ⟨rfl, rfl⟩
set_option maxHeartbeats 1000000 in
theorem of_in (h : Rn w base S a F K L P T) (hl : S.eps.length <= 1000) (k : Nat) (x : Int × Int) (hk : S.eps[k]? = some x) :
  Calls Tryz.prog 24 #[.pointer (some ⟨a.r, 0, none⟩), .int .i64 k] w fun e w' => e = .returned (.tuple #[.int .i64 x.1, .int .i64 x.2, .bool true]) /\ Below w.heap.size w w' := by
 have c8 : w.cell? ⟨a.r, 8, none⟩ = some (.slice a.eA S.eps.length a.eC) := h.top.cell 8
 have hkl := (List.getElem?_eq_some_iff.1 hk).1
 obtain ⟨g, cap, cur, hv, -⟩ := own_open h.eps (by omega)
 injection hv with hA
 have hse := Sees.of_own h.eps
 rw [hA] at hse c8
 obtain ⟨g', off, e1, hc⟩ := hse.2 (by omega)
 injection e1 with e1
 injection e1 with e1 e2
 subst e1 e2
 have q0 := hc (k * 2 + 0) _ (ecs_get hk 0 (by omega))
 have q1 := hc (k * 2 + 1) _ (ecs_get hk 1 (by omega))
 replace q0 : w.drew.cell? ⟨g, k * 2, none⟩ = some (.int .i64 x.1) := by rw [Nat.zero_add] at q0; exact q0
 replace q1 : w.drew.cell? ⟨g, k * 2 + 1, none⟩ = some (.int .i64 x.2) := by rw [Nat.zero_add] at q1; exact q1
 have d8 : w.drew.cell? ⟨a.r, 8, none⟩ = some (.slice (some ⟨g, 0, none⟩) S.eps.length a.eC) := c8
 clear h hse hc hA hk
 obtain ⟨N, hN⟩ : ∃ N, N = S.eps.length := ⟨_, rfl⟩
 rw [<- hN] at c8 d8 hl hkl
 have h0 : ¬ (k : Int) < 0 := by omega
 have h1 : ¬ (N : Int) <= (k : Int) := by omega
 have h2 : (k : Int) < (N : Int) := by omega
 clear hN
 go_enter Tryz.func24, Tryz.ntmps24
 go_wp2_with fail
 refine region_fast [(0, true), (1, true), (2, true), (3, true), (4, true), (5, true), (6, true), (7, true), (8, true), (9, true), (10, true), (11, true), (12, true), (13, true), (14, true), (15, true), (16, true), (17, true), (18, true)] [4, 8, 9, 10, 11, 12, 13, 14, 15, 16] 130832 [(262144, 1, 0, 0), (524288, 262144, 1, 1), (1048576, 524288, 2, 3), (2097152, 1048576, 4, 7), (4194304, 2, 0, 0), (8388608, 6291456, 24, 31), (16777216, 8388608, 32, 63), (33554432, 16777216, 64, 127), (67108864, 1, 0, 0), (134217728, 67108864, 256, 256), (268435456, 134217728, 512, 768), (536870912, 268435456, 1024, 1792), (1073741824, 2, 0, 0), (2147483648, 1610612736, 6144, 7936), (4294967296, 2147483648, 8192, 16128), (8589934592, 4294967296, 16384, 32512), (16, 33554432, 255, 255), (32, 8589934592, 131071, 131071), (64, 0, 262143, 262143)] (fun W => W = w.drew) (by kernel_rfl) (by kernel_rfl) (by kernel_rfl) rfl (by kernel_rfl) (by kernel_rfl) rfl (fun hS => ?_)
 repeat (first
  | (refine plan_read (v := ?_) rfl (fun _ _ _ h => h) rfl hS ?_ ?_; rotate_left 1; (focus (intro w' hS'; subst hS'; go_simp; try rfl)); (simp only [Act.put, pu1]; dsimp only [pu2, pu3]))
  | (refine plan_skip rfl (fun _ _ _ h => h) rfl hS ?_; (simp only [Act.put, pu1]; dsimp only [pu2, pu3])))
 refine plan_nil ?_
 go_wp2_with fail
 go_ret3
 exact ⟨rfl, ⟨rfl, rfl, rfl, Nat.le_refl _, fun _ _ => rfl⟩⟩
def LeakB (S : St) (x : Int) (ss : List Int) : Bool := decide (x ∈ nums (clo S.l ss))
def SsIs (D : Dk) (ss : List Int) : Prop := ∀ y, y ∈ ss ↔ SeenOf D y
theorem seen_range {D : Dk} {x : Int} (h : SeenOf D x) : 0 <= x /\ x < 0 + (4096 : Nat) := by
 obtain ⟨l, -, n, rfl, hn, -⟩ := h
 omega
set_option maxHeartbeats 2000000 in
theorem leaks_in (h : Rn w base S a F K L P T) (hl : S.eps.length <= 1000) (hDk : S.D.Ok) (hsz : S.D.size <= 1000) (hq : S.D.queue.length <= 1000) (hp : Pool S.l) (hpl : S.l.length <= 1000) (hT : TabsS w) (k : Nat) (x : Int × Int) (hk : S.eps[k]? = some x) :
  Calls Tryz.prog 26 #[.pointer (some ⟨a.r, 0, none⟩), .int .i64 k] w fun e w' => ∃ ss, SsIs S.D ss /\ e = .returned (.bool (LeakB S x.2 ss)) /\ Below w.heap.size w w' := by
 have HO := Lh (of_in h hl k x hk)
 have HH := Lh (Ai h (Ai hDk (Ai hp hT)))
 clear h hDk hp hT hk
 go_enter Tryz.func26, Tryz.ntmps26
 go_wp2_with fail
 refine HO.out.mono ?_
 rintro e w1 ⟨rfl, hb1⟩
 have hR1 := HH.out.1.below hb1
 have c6 : w1.drew.cell? ⟨a.r, 6, none⟩ = some (.pointer (some ⟨a.p, 0, none⟩)) := hR1.top.cell 6
 have HS := Lh (seen_any a.r a.b F S.D w1.drew (hR1.drew.top.cell 0) hR1.drew.disk HH.out.2.1 hsz hq ((HH.out.2.2.2.below (Nat.le_refl _) hb1).below (Nat.le_refl _) (⟨rfl, rfl, rfl, Nat.le_refl _, fun _ _ => rfl⟩ : Below w1.heap.size w1 w1.drew)).mx)
 have H1 := Lh (Ai hR1.drew hb1)
 clear hR1 hb1 HO
 go_wp2_with fail
 refine region_fast [(0, true), (1, true), (2, true), (3, true), (4, true), (5, true), (6, true), (7, true), (8, false), (9, false), (10, true), (11, true)] [6, 7, 8] 448 [(32768, 128, 0, 0), (65536, 32768, 1, 1), (131072, 65537, 2, 3), (262144, 196608, 6, 7), (524288, 327680, 10, 15), (1048576, 589824, 18, 31), (2097152, 65600, 2, 3), (4194304, 65537, 2, 3), (8388608, 4259840, 130, 131), (16777216, 11599872, 354, 511), (33554432, 16842752, 514, 1023), (16, 33554432, 2047, 2047)] (fun W => Below w1.drew.heap.size w1.drew W) (by kernel_rfl) (by kernel_rfl) (by kernel_rfl) rfl (by kernel_rfl) (by kernel_rfl) (Below.refl w1.drew.heap.size w1.drew) (fun hS => ?_)
 repeat (first
  | (refine plan_read (v := ?_) rfl (fun _ _ _ h => h) rfl hS ?_ ?_; rotate_left 1; (focus (intro w' hS'; have e0 := (hS'.cell (p := ⟨a.r, 6, none⟩) H1.out.1.r_lt).trans c6; go_simp; try rfl)); (simp only [Act.put, pu1]; dsimp only [pu2, pu3]))
  | (refine plan_skip rfl (fun _ _ _ h => h) rfl hS ?_; (simp only [Act.put, pu1]; dsimp only [pu2, pu3])))
 refine plan_do (by rfl) (by rfl) (fun K hK => ?_)
 go_simp
 refine HS.out.mono ?_
 rintro e w2 ⟨v, ss, rfl, own2, hpw, hin, hS⟩
 obtain ⟨A2, c2, rfl⟩ := own_shape own2
 have H2 := Lh (Ai own2 (Ai hpw hin))
 clear own2 hpw hin HS
 refine hK.out _ _ (fun _ => hS) (fun hS => ?_); clear hK K; replace hS := hS rfl; try (simp only [Act.put, pu1]; dsimp only [pu2, pu3])
 repeat (first
  | (refine plan_read (v := ?_) rfl (fun _ _ _ h => h) rfl hS ?_ ?_; rotate_left 1; (focus (intro w' hS'; have e0 := (hS'.cell (p := ⟨a.r, 6, none⟩) H1.out.1.r_lt).trans c6; go_simp; try rfl)); (simp only [Act.put, pu1]; dsimp only [pu2, pu3]))
  | (refine plan_skip rfl (fun _ _ _ h => h) rfl hS ?_; (simp only [Act.put, pu1]; dsimp only [pu2, pu3])))
 refine plan_do (by rfl) (by rfl) (fun K hK => ?_)
 go_simp
 have hca : CloAt w2 base a.p S.l A2 ss := by
  obtain ⟨tA, tc, mb, dA, dc, sA, sc, hPP, -⟩ := (H1.out.1.below hS).pool
  have hlen : ss.length <= 10000 := Nat.le_trans (pairwise_few (a := 0) (n := 4096) H2.out.2.1 (fun y hy => seen_range ((H2.out.2.2 y).1 hy))) (by omega)
  have hwf : ∀ y ∈ ss, (Lit.int .i64 y).wf = true := fun y hy => WalkArith.wf_i64 (by have := seen_range ((H2.out.2.2 y).1 hy); omega)
  exact ⟨⟨tA, tc, mb, dA, dc, sA, sc, hPP⟩, HH.out.2.2.1, hpl, hlen, Sees.of_own H2.out.1, hwf⟩
 refine (follows_any a.p S.l x.2 A2 ss c2 base w2 hca).mono ?_
 rintro e w3 ⟨rfl, hb3⟩
 have hS := hS.trans (hb3.mono hS.size)
 refine hK.out _ _ (fun h => by cases h) (fun _ => ?_); clear hK K; try (simp only [Act.put, pu1]; dsimp only [pu2, pu3])
 repeat (first
  | (refine plan_read (v := ?_) rfl (fun _ _ _ h => h) rfl hS ?_ ?_; rotate_left 1; (focus (intro w' hS'; go_simp; try rfl)); (simp only [Act.put, pu1]; dsimp only [pu2, pu3]))
  | (refine plan_skip rfl (fun _ _ _ h => h) rfl hS ?_; (simp only [Act.put, pu1]; dsimp only [pu2, pu3])))
 refine plan_nil ?_
 go_wp2_with fail
 go_ret
 exact ⟨ss, H2.out.2.2, rfl, H1.out.2.trans ((below_of_drew hS).mono H1.out.2.size)⟩
structure Kq (s : Lg) (D : Dk) (f : Nat) : Prop where
 sok : s.Ok
 dead : s.dead = false
 lt : s.sure ≠ s.texts.length -> s.clean < s.end_
 ok : D.Ok
 calls : D.calls = -1
 queue : D.queue = []
 fit : (f + s.segs * s.size) * 128 <= D.safe.length
def St.flush (S : St) : St := if S.s.sure = S.s.texts.length then S else { S with s := S.s.flushed, D := (S.D.pushed (2 * S.slots) S.s).flushed }
set_option maxHeartbeats 1000000 in
theorem lflush_r (h : Rn w base S a F K L P T) (hk : Kq S.s S.D (2 * S.slots)) (hf : S.slots <= 8) :
  Calls Tryz.prog 55 #[.pointer (some ⟨a.lb, 0, none⟩)] w fun e w' => e = .returned Value.nilIface /\ (∃ F' T', Rn w' base S.flush a F' K L P T') /\ Below base w w' := by
 unfold St.flush
 by_cases hs : S.s.sure = S.s.texts.length
 ·rw [if_pos hs]
  refine (flush_idle h.log hk.dead hs).mono ?_
  rintro e' w' ⟨rfl, bel⟩
  exact ⟨rfl, ⟨F, T, h.below bel⟩, bel.mono h.base_le⟩
 ·rw [if_neg hs]
  refine (flush_on h.ld hk.sok hk.dead hs (hk.lt hs) hk.ok (by rw [hk.calls]; decide) (by rw [hk.calls]; decide) (by rw [hk.queue]; exact Nat.zero_le _) (by omega) hk.fit).mono ?_
  rintro e' w' ⟨rfl, F', l5, fr, hF⟩
  obtain ⟨T', hR, bel⟩ := h.flushTo l5 fr hF
  exact ⟨rfl, ⟨F', T', hR⟩, bel⟩
theorem flush_r (h : Rn w base S a F K L P T) (hk : Kq S.s S.D (2 * S.slots)) (hf : S.slots <= 8) :
  Calls Tryz.prog 18 #[.pointer (some ⟨a.r, 0, none⟩)] w fun e w' => e = .returned Value.nilIface /\ (∃ F' T', Rn w' base S.flush a F' K L P T') /\ Below base w w' := by
 have c5 : w.cell? ⟨a.r, 5, none⟩ = some (.pointer (some ⟨a.lb, 0, none⟩)) := h.top.cell 5
 have HF := Lh (lflush_r h hk hf)
 clear h hk
 go_enter Tryz.func18, Tryz.ntmps18
 go_wp2_with fail
 refine HF.out.mono ?_
 rintro e w1 ⟨rfl, h1⟩
 go_wp2_with fail
 go_ret
 exact ⟨rfl, h1⟩
set_option maxHeartbeats 1000000 in
theorem shred_r (h : Rn w base S a F K L P T) (hk : Kq S.s S.D (2 * S.slots)) (hf : S.slots <= 8) (hd : S.dead = false) (hE : S.E.length = S.slots) (hDk : S.flush.D.Ok) (hq : S.flush.D.queue.length <= 900) (hfit : (0 + 2 * S.E.length) * 128 <= S.flush.D.safe.length) (bk : Nat) (hin : ∃ e, some e ∈ S.E /\ e.buck = bk) :
  Calls Tryz.prog 19 #[.pointer (some ⟨a.r, 0, none⟩), .int .i64 bk] w fun e w' => (∃ (v : Value) (k : Nat) (e0 : Ke) (F' K' : Nat -> Prop) (T' : Nat -> Nat), e = .returned v /\ S.E[k]? = some (some e0) /\ e0.buck = bk /\ ErrIs (S.flush.D.twoOk (0 + 2 * k) zer) v /\
   Rn w' base { S.flush with E := S.E.set k none, dead := !(S.flush.D.twoOk (0 + 2 * k) zer), D := S.flush.D.two (0 + 2 * k) zer } a F' K' L P T') /\ Below base w w' := by
 have c5 : w.cell? ⟨a.r, 5, none⟩ = some (.pointer (some ⟨a.lb, 0, none⟩)) := h.top.cell 5
 have HF := Lh (lflush_r h hk hf)
 have HD := Lh (Ai hDk (Ai hfit hin))
 have e1 : S.flush.E = S.E := by unfold St.flush; split <;> rfl
 have e2 : S.flush.dead = false := by unfold St.flush; split <;> exact hd
 have HE := Lh (Ai e1 e2)
 clear h hk hDk hfit hin hd e1 e2
 go_enter Tryz.func19, Tryz.ntmps19
 go_wp2_with fail
 refine HF.out.mono ?_
 rintro e w1 ⟨rfl, ⟨F1, T1, hR1⟩, hb1⟩
 have d4 : w1.cell? ⟨a.r, 4, none⟩ = some (.pointer (some ⟨a.t, 0, none⟩)) := hR1.top.cell 4
 have hst := hR1.kst
 rw [HE.out.1, HE.out.2] at hst
 have HS := Lh (shred_key a.t a.b a.sg 0 S.E S.flush.D F1 K _ bk w1 hst HD.out.1 hq (by omega) (by omega) HD.out.2.1 HD.out.2.2)
 have H1 := Lh (Ai hR1 hb1)
 clear hR1 hb1 hst HF
 go_wp2_with fail
 refine HS.out.mono ?_
 rintro e w2 ⟨k, e0, hk0, hb0, ⟨v, rfl, herr⟩, hto⟩
 obtain ⟨F2, K2, T2, hR2, hb2⟩ := H1.out.1.keysTo hto
 have H2 := Lh (Ai hk0 (Ai hb0 (Ai herr (Ai hR2 (H1.out.2.trans hb2)))))
 clear hk0 hb0 herr hto hR2 hb2 HS
 go_wp2_with fail
 go_ret
 exact ⟨⟨v, k, e0, F2, K2, T2, rfl, H2.out.1, H2.out.2.1, H2.out.2.2.1, H2.out.2.2.2.1⟩, H2.out.2.2.2.2⟩
end
end
end Go.Proofs.YtkgaeoeibjoljaaGreatDoor
