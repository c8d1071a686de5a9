/-
  The document's log, opened.
-/
import Derived.Test.YtbcnbehneodlgaaGreatDoorRf3
import Derived.Test.YtbcnbehneodlgaaGreatDoorRf4
import Derived.Test.YtbcnbehneodlgaaGreatDoorLogD
namespace Go.Proofs.YtbcnbehneodlgaaGreatDoor
set_option maxRecDepth 4000
open Go.RowKit

def rlc (d f sg sz : Nat) (B : ByteArray) (la us cl : Nat) (x : Value) (ch : ByteArray) (su : Nat) (se de : Bool) : Array Value :=
  #[.pointer (some ⟨d, 0, none⟩), .int .i64 f, .int .i64 sg, .int .i64 sz, .string B, .int .i64 la, .int .i64 us, .int .i64 cl, x, .string ch, .int .i64 su, .bool se, .bool de]

theorem rend_any (lb d f sg sz la us cl su : Nat) (B ch : ByteArray) (x : Value) (se de : Bool) (w : World) (h : Blk w lb 58 (rlc d f sg sz B la us cl x ch su se de)) (hla : la ≤ 256) (hsz : sz ≤ 512) (hus : us ≤ 65536) :
    Calls Tryz.prog 45 #[.pointer (some ⟨lb, 0, none⟩)] w fun e w' => e = .returned (.int .i64 ((la * (sz * 128) + us : Nat) : Int)) ∧ Below w.heap.size w w' := by
  have c5 : w.drew.cell? ⟨lb, 5, none⟩ = some (.int .i64 la) := h.cell 5
  have c3 : w.drew.cell? ⟨lb, 3, none⟩ = some (.int .i64 sz) := h.cell 3
  have c6 : w.drew.cell? ⟨lb, 6, none⟩ = some (.int .i64 us) := h.cell 6
  have hm : la * (sz * 128) ≤ 256 * 65536 := Nat.mul_le_mul hla (by omega)
  obtain ⟨E, hE⟩ : ∃ E, E = la * (sz * 128) + us := ⟨_, rfl⟩
  obtain ⟨M, hM⟩ : ∃ M, M = la * (sz * 128) := ⟨_, rfl⟩
  have hMe : (la * 128) * sz = M := by rw [hM, Nat.mul_assoc, Nat.mul_comm 128]
  have hw1 : IntKind.i64.wrap ((la : Int) * 128) = ((la * 128 : Nat) : Int) := by rw [show (la : Int) * 128 = ((la * 128 : Nat) : Int) by omega]; exact IntWalk.i64_in _ (by omega)
  have hw2 : IntKind.i64.wrap (((la * 128 : Nat) : Int) * (sz : Int)) = (M : Int) := by rw [show ((la * 128 : Nat) : Int) * (sz : Int) = (((la * 128) * sz : Nat) : Int) by simp, hMe]; exact IntWalk.i64_in _ (by omega)
  have hw3 : IntKind.i64.wrap ((M : Int) + (us : Int)) = (E : Int) := by rw [show (M : Int) + (us : Int) = (E : Int) by omega]; exact IntWalk.i64_in _ (by omega)
  rw [← hE]
  obtain ⟨la8, h8⟩ : ∃ a, a = la * 128 := ⟨_, rfl⟩
  rw [← h8] at hw1 hw2
  clear h hm hE hM hMe h8
  go_enter Tryz.func45, Tryz.ntmps45
  go_wp2_with fail
  refine region_fast [(0, true), (1, true), (2, true), (3, true), (4, true), (5, true), (6, true), (7, true), (8, true), (9, true), (10, true), (11, true), (12, true), (13, true), (14, true), (15, true)] [5, 6, 7, 8, 10, 11, 12, 13] 15840 [(8, 1, 0, 0), (16, 8, 1, 1), (32, 16, 2, 3), (64, 32, 4, 7), (128, 64, 8, 15), (256, 1, 0, 0), (512, 256, 32, 32), (1024, 512, 64, 96), (2048, 1024, 128, 224), (4096, 2176, 272, 511), (8192, 1, 0, 0), (16384, 8192, 1024, 1024), (32768, 16384, 2048, 3072), (65536, 32768, 4096, 7168), (131072, 69632, 8704, 16383), (4, 131072, 32767, 32767)] (fun W => W = w.drew) (by kernel_rfl) (by kernel_rfl) (by kernel_rfl) rfl (by kernel_rfl) (by kernel_rfl) rfl (fun hS => ?_)
  iterate 4 (first
    | (refine plan_read (v := ?_) rfl (fun _ _ _ h => h) rfl hS ?_ ?_; rotate_left 1; (focus (intro w' hS'; subst hS'; go_simp; try rfl)); (simp only [Act.put, List.setIfInBounds_toArray]; dsimp only [List.set_cons_zero, List.set_cons_succ]))
    | (refine plan_skip rfl (fun _ _ _ h => h) rfl hS ?_; (simp only [Act.put, List.setIfInBounds_toArray]; dsimp only [List.set_cons_zero, List.set_cons_succ])))
  refine plan_read (v := Value.int .i64 (la8 : Int)) rfl (fun _ _ _ h => h) rfl hS ?_ ?_; (focus (intro w' hS'; go_simp; first | done | simp [hw1] | (simp; omega))); (simp only [Act.put, List.setIfInBounds_toArray]; dsimp only [List.set_cons_zero, List.set_cons_succ])
  iterate 4 (first
    | (refine plan_read (v := ?_) rfl (fun _ _ _ h => h) rfl hS ?_ ?_; rotate_left 1; (focus (intro w' hS'; subst hS'; go_simp; try rfl)); (simp only [Act.put, List.setIfInBounds_toArray]; dsimp only [List.set_cons_zero, List.set_cons_succ]))
    | (refine plan_skip rfl (fun _ _ _ h => h) rfl hS ?_; (simp only [Act.put, List.setIfInBounds_toArray]; dsimp only [List.set_cons_zero, List.set_cons_succ])))
  refine plan_read (v := Value.int .i64 (M : Int)) rfl (fun _ _ _ h => h) rfl hS ?_ ?_; (focus (intro w' hS'; go_simp; first | done | simp [hw2] | (simp; omega))); (simp only [Act.put, List.setIfInBounds_toArray]; dsimp only [List.set_cons_zero, List.set_cons_succ])
  iterate 4 (first
    | (refine plan_read (v := ?_) rfl (fun _ _ _ h => h) rfl hS ?_ ?_; rotate_left 1; (focus (intro w' hS'; subst hS'; go_simp; try rfl)); (simp only [Act.put, List.setIfInBounds_toArray]; dsimp only [List.set_cons_zero, List.set_cons_succ]))
    | (refine plan_skip rfl (fun _ _ _ h => h) rfl hS ?_; (simp only [Act.put, List.setIfInBounds_toArray]; dsimp only [List.set_cons_zero, List.set_cons_succ])))
  refine plan_read (v := Value.int .i64 (E : Int)) rfl (fun _ _ _ h => h) rfl hS ?_ ?_; (focus (intro w' hS'; go_simp; first | done | simp [hw3] | (simp; omega))); (simp only [Act.put, List.setIfInBounds_toArray]; dsimp only [List.set_cons_zero, List.set_cons_succ])
  repeat (first
    | (refine plan_read (v := ?_) rfl (fun _ _ _ h => h) rfl hS ?_ ?_; rotate_left 1; (focus (intro w' hS'; subst hS'; go_simp; try rfl)); (simp only [Act.put, List.setIfInBounds_toArray]; dsimp only [List.set_cons_zero, List.set_cons_succ]))
    | (refine plan_skip rfl (fun _ _ _ h => h) rfl hS ?_; (simp only [Act.put, List.setIfInBounds_toArray]; dsimp only [List.set_cons_zero, List.set_cons_succ])))
  refine plan_nil ?_
  go_wp2_with fail
  go_ret
  exact ⟨rfl, (Below.refl _ _).drew⟩

theorem RD.fr {w w' : World} {base d : Nat} {S W : List (List UInt8)} {T : List Int} {A B C : Option Addr} {cA cB cC lb : Nat} {cs : Array Value} (h : RD w base d S T W A cA B cB C cC) (hl : Blk w lb 58 cs) (hf : Fr (fun k => k = lb) w w') : RD w' base d S T W A cA B cB C cC :=
  ⟨h.top.fr hf (fun e => h.top.same hl (by decide) e), h.lo, own_fr h.s hf (own_ne h.s hl (by decide)), own_fr h.t hf (own_ne h.t hl (by decide)), own_fr h.w_ hf (own_ne h.w_ hl (by decide)), h.same⟩
theorem make_bytesL (n : Nat) (hn : n ≤ 100000000) (W : World) : (Instr.makeSlice 42 (.int .i64 (n : Int)) (.int .i64 (n : Int))).run Tryz.prog W = .ok (.slice (some ⟨W.heap.size, 0, none⟩) n n) (W.alloc (.cells (u8s (List.replicate n 0)).toArray 5)) := by
  obtain ⟨i, hi, hz, hs, hb⟩ := info_parts info_byte
  have h := run_make (P := Tryz.prog) W 42 5 i (.int .u8 0) Tryz.underlying42 hi hz .i64 .i64 (n : Int) (n : Int) (by omega) (by omega) (by rw [hb]; omega) (by omega)
  have e0 : u8s (List.replicate n 0) = List.replicate n (Value.int .u8 0) := by simp [u8s]
  have e1 : madeCells (Value.int .u8 0).cells ((n : Int).toNat * i.size) = (u8s (List.replicate n 0)).toArray := by
    rw [hs, Int.toNat_natCast, Nat.mul_one, e0, ← toList_madeCells_one (.int .u8 0) n]
    rfl
  rw [e1] at h
  simpa using h

set_option maxHeartbeats 8000000 in
theorem ropen_any (base d f sg sz : Nat) (S : List (List UInt8)) (A B C : Option Addr) (cA cB cC : Nat) (w : World) (h : RD w base d S [] [] A cA B cB C cC) (hb : base ≤ w.heap.size) (hS : S.length ≤ 100000) (h8 : ∀ s ∈ S, s.length = 128)
    (hsg : 1 ≤ sg ∧ sg ≤ 256) (hsz : 2 ≤ sz ∧ sz ≤ 512) (hfit : f + sg * sz ≤ S.length) (X : List UInt8) (hX : X = ((S.drop f).take (sg * sz)).flatten) (s : Lg) (hs : s = Lg.told sg sz X) (hok : s.Ok)
    (hT : ∀ W lb, base ≤ lb → Blk W lb 58 (rlc d f sg sz (str X) 0 0 0 (.slice none 0 0) (str (zr 32)) 0 false false) → Calls Tryz.prog 44 #[.pointer (some ⟨lb, 0, none⟩)] W fun e w' => e = .returned (.tuple #[]) ∧
      (∃ A c, Blk w' lb 58 (rlc d f sg sz (str X) s.last s.used 0 (.slice A s.texts.length c) (str s.chain) 0 s.sealed_ false) ∧ w'.ownsRow W.heap.size 9 1 (.slice A s.texts.length c) s.texts.length (strs s.texts)) ∧ Fr (fun k => k = lb) W w') :
    Calls Tryz.prog 21 #[.pointer (some ⟨d, 0, none⟩), .int .i64 f, .int .i64 sg, .int .i64 sz] w fun e w' => ∃ lb A c, e = .returned (.tuple #[.pointer (some ⟨lb, 0, none⟩), .int .i64 0]) ∧ w.heap.size ≤ lb ∧
      Blk w' lb 58 (rlc d f sg sz (str (X.take s.end_ ++ zr (X.length - s.end_))) s.last s.used s.end_ (.slice A s.texts.length c) (str s.chain) s.texts.length s.sealed_ false) ∧ w'.ownsRow w.heap.size 9 1 (.slice A s.texts.length c) s.texts.length (strs s.texts) ∧ Below base w w' ∧ Fr (fun k => k = d) w w' := by
  have hPb : sg * sz ≤ 256 * 512 := Nat.mul_le_mul hsg.2 hsz.2
  obtain ⟨P, hP⟩ : ∃ P, P = sg * sz := ⟨_, rfl⟩
  rw [← hP] at hPb hfit hX
  have hpi : IntKind.i64.wrap ((sg : Int) * (sz : Int)) = (P : Int) := by
    rw [hP, show (sg : Int) * (sz : Int) = ((sg * sz : Nat) : Int) by simp]
    exact IntWalk.i64_in _ (by omega)
  have hXl : X.length = P * 128 := by rw [hX, flat_length S h8 f P (by omega)]
  have HRD := fun W hW => rread_any base d S A B C cA cB cC f P W hW (by omega) hfit h8
  rw [← hX] at HRD
  replace HRD := Lib.hid HRD
  have H := Lib.hid (And.intro h (And.intro hb (And.intro hok hs)))
  have HB := Lib.hid (And.intro hS (And.intro hfit hP))
  have HTO := Lib.hid hT
  have hfx := Lg.scan_fix sg (Lg.init sg sz X) 0
  rw [show (Lg.init sg sz X).scan 0 sg = s from hs.symm] at hfx
  obtain ⟨E, hE⟩ : ∃ E, E = s.end_ := ⟨_, rfl⟩
  have hall : s.all = P * 128 := by unfold Lg.all Lg.n; rw [hfx.1, hfx.2.1, hP]; exact seg_all sg sz
  have hEP : E ≤ P * 128 := by rw [hE, ← hall]; exact hok.end_le
  have HEN : Hid (∀ (W : World) (lb : Nat) (B : ByteArray) (x : Value) (ch : ByteArray), Blk W lb 58 (rlc d f sg sz B s.last s.used 0 x ch 0 s.sealed_ false) → Calls Tryz.prog 45 #[.pointer (some ⟨lb, 0, none⟩)] W fun e w' => e = .returned (.int .i64 (E : Int)) ∧ Below W.heap.size W w') := Lib.hid (fun W lb B x ch hW => by
    have h1 := hok.last
    have h2 := hok.used
    have h3 : s.segs = sg := hfx.1
    have h4 : s.n = sz * 128 := by unfold Lg.n; rw [hfx.2.1]; rfl
    have := rend_any lb d f sg sz s.last s.used 0 0 B ch x s.sealed_ false W hW (by omega) hsz.2 (by omega)
    rw [show s.last * (sz * 128) + s.used = E by rw [hE]; unfold Lg.end_; rw [h4]] at this
    exact this)
  obtain ⟨T, hTl⟩ : ∃ T, T = s.texts.length := ⟨_, rfl⟩
  rw [← hE]
  have HE := Lib.hid (And.intro hE (And.intro hXl hTl))
  have hdl := h.top.lt
  clear h hb hS h8 hT hfit hP hX hs hok hXl hfx hE hall hTl
  obtain ⟨ZX, hZX⟩ : ∃ Z, Z = str X := ⟨_, rfl⟩
  rw [← hZX] at HTO HRD
  have hZs : ZX.size = P * 128 := by rw [hZX, size_str]; exact HE.out.2.1
  replace hZX := Lib.hid hZX
  go_enter Tryz.func21, Tryz.ntmps21
  go_wp2_with fail
  refine (rzero_any _).mono ?_
  rintro e w1 ⟨rfl, bel1⟩
  obtain ⟨L0, hL0⟩ : ∃ L, L = str (zr 32) := ⟨_, rfl⟩
  rw [← hL0] at HTO
  rw [show str (List.replicate 32 0) = L0 from hL0.symm]
  have hd1 := bel1.size
  have HB1 := Lib.hid bel1
  clear bel1 hL0
  have EM : str ([] : List UInt8) = { data := #[] } := rfl
  go_wp2_with fail
  have q0 : w1.heap.size = w1.heap.size := rfl
  obtain ⟨w2, hw2⟩ : ∃ w2, w1.alloc (.cells (rlc d f sg sz { data := #[] } 0 0 0 (.slice none 0 0) L0 0 false false) 58) = w2 := ⟨_, rfl⟩
  have top2 : Blk w2 w1.heap.size 58 (rlc d f sg sz { data := #[] } 0 0 0 (.slice none 0 0) L0 0 false false) := hw2 ▸ Blk.new _ _ _
  have bel2 : Below w.heap.size w w2 := hw2 ▸ HB1.out.alloc hd1 _
  unfold rlc at hw2
  rw [show (w1.alloc (.cells #[.pointer (some ⟨d, 0, none⟩), .int .i64 f, .int .i64 sg, .int .i64 sz, .string { data := #[] }, .int .i64 0, .int .i64 0, .int .i64 0, .slice none 0 0, .string L0, .int .i64 0, .bool false, .bool false] 58)) = w2 from hw2]
  obtain ⟨lb, hlb⟩ : ∃ l, w1.heap.size = l := ⟨_, rfl⟩
  rw [hlb] at top2 hd1 ⊢
  clear q0 hw2
  refine (HRD.out w2 (H.out.1.below bel2)).mono ?_
  rintro e w3 ⟨rfl, bel3⟩
  have top3 := top2.below bel3 top2.lt
  have c4 : w3.cell? ⟨lb, 4, none⟩ = some (.string { data := #[] }) := top3.cell 4
  have f4 : w3.frozen? ⟨lb, 4, none⟩ = false := top3.frozen 4
  have H3 := Lib.hid (And.intro (bel2.trans (bel3.mono bel2.size)) top3)
  clear top2 bel2 bel3 top3
  go_wp2_with fail
  have top4 : Blk (w3.setCell ⟨lb, 4, none⟩ (.string ZX)) lb 58 (rlc d f sg sz ZX 0 0 0 (.slice none 0 0) L0 0 false false) := H3.out.2.set_ 4 (.string ZX)
  have bel4 : Below w.heap.size w (w3.setCell ⟨lb, 4, none⟩ (.string ZX)) := H3.out.1.setCell hd1 _
  generalize w3.setCell ⟨lb, 4, none⟩ (.string ZX) = w4 at *
  have H4 := Lib.hid bel4
  have HC := HTO.out w4 lb (Nat.le_trans H.out.2.1 hd1) top4
  clear bel4 top4 H3 c4 f4
  refine HC.mono ?_
  rintro e w5 ⟨rfl, ⟨A1, c1, top5, own5⟩, fr5⟩
  clear HC
  have bel5 : Below w.heap.size w w5 := H4.out.trans (fr5.below H4.out.size (fun k hk => by rw [hk]; exact hd1))
  have own5 := own_base own5 H4.out.size
  rw [← HE.out.2.2] at top5 own5
  have HC := HEN.out w5 lb _ _ _ top5
  have H5 := Lib.hid (And.intro top5 (And.intro own5 bel5))
  clear top5 own5 bel5 fr5 H4
  go_wp2_with fail
  refine HC.mono ?_
  rintro e w6 ⟨rfl, bel6⟩
  have top6 := H5.out.1.below bel6 H5.out.1.lt
  have H6 := Lib.hid (And.intro top6 (And.intro (own_below H5.out.2.1 bel6) (H5.out.2.2.trans (bel6.mono H5.out.2.2.size))))
  clear HC H5 bel6 top6
  go_wp2_with fail
  obtain ⟨M, hM⟩ : ∃ M, M = P * 128 := ⟨_, rfl⟩
  rw [← hM] at hZs hEP
  obtain ⟨K0, hK0⟩ : ∃ K, K = M - E := ⟨_, rfl⟩
  have hEi : (E : Int) ≤ (M : Int) := by omega
  have hE0 : (0 : Int) ≤ (E : Int) := by omega
  have hwK : IntKind.i64.wrap ((M : Int) - (E : Int)) = (K0 : Int) := by rw [show (M : Int) - (E : Int) = (K0 : Int) by omega]; exact IntWalk.i64_in _ (by omega)
  have hmk := make_bytesL K0 (by omega)
  have hcv : ∀ W : World, (convert 42 9 (.slice (some ⟨W.heap.size, 0, none⟩) K0 K0)).run Tryz.prog (W.alloc (.cells (u8s (List.replicate K0 0)).toArray 5)).drew = .ok (.string (str (zr K0))) (W.alloc (.cells (u8s (List.replicate K0 0)).toArray 5)).drew := fun W => run_to_string Tryz.underlying42 Tryz.underlying5 Tryz.underlying9 K0 ((sees_new W 5 (u8s (List.replicate K0 0)) 1 K0 (by simp)).below (Below.refl _ _).drew)
  obtain ⟨Z, hZ⟩ : ∃ z : Array Value, z = (u8s (List.replicate K0 0)).toArray := ⟨_, rfl⟩
  rw [← hZ] at hmk hcv
  replace hmk : ∀ W : World, (Instr.makeSlice 42 (.int .i64 (K0 : Int)) (.int .i64 (K0 : Int))).run Tryz.prog W = .ok (.slice (some ⟨W.heap.size, 0, none⟩) K0 K0) (W.alloc (.cells Z 5)) := hmk
  have hex : ZX.extract 0 E = str (X.take E) := by rw [hZX.out, str_extract, List.drop_zero, Nat.sub_zero]
  have hcat : str (X.take E) ++ str (zr K0) = str (X.take E ++ zr K0) := str_cat _ _
  have hs1 : (str (X.take E)).size = E := by rw [size_str, List.length_take, HE.out.2.1, ← hM]; omega
  have hs2 : (str (zr K0)).size = K0 := by rw [size_str, zr_length]
  have hs3 : (str (X.take E ++ zr K0)).size = M := by rw [← hcat, ByteArray.size_append, hs1, hs2]; omega
  obtain ⟨X1, hX1⟩ : ∃ Z, Z = str (X.take E) := ⟨_, rfl⟩
  obtain ⟨X2, hX2⟩ : ∃ Z, Z = str (zr K0) := ⟨_, rfl⟩
  obtain ⟨X3, hX3⟩ : ∃ Z, Z = str (X.take E ++ zr K0) := ⟨_, rfl⟩
  rw [← hX1] at hex hcat hs1
  rw [← hX2] at hcv hcat hs2
  rw [← hX3] at hcat hs3
  have hlen : ¬ 9223372036854775807 < E + K0 := by omega
  have HX := Lib.hid (And.intro hM (And.intro hK0 (And.intro hX3 hZ)))
  clear hX1 hX2 hX3 hZ hM hK0
  have c4 : w6.drew.cell? ⟨lb, 4, none⟩ = some (.string ZX) := H6.out.1.cell 4
  have H6d := Lib.hid (And.intro (H6.out.1.drew) (And.intro (own_below H6.out.2.1 (Below.refl _ _).drew) H6.out.2.2.drew))
  have hl6 := H6d.out.1.lt
  refine region_fast [(0, true), (1, true), (2, true), (3, true), (4, true), (5, true), (6, true), (7, true), (8, true), (9, true), (10, true), (11, true), (12, true), (13, true), (14, false), (15, false), (16, true), (17, true), (18, true), (19, false)] [1, 2, 3, 4, 5, 6, 7, 8, 9, 10, 11, 12, 13, 14, 15, 16] 131070 [(4398046511104, 1024, 0, 0), (8796093022208, 1024, 0, 0), (17592186044416, 8796093022208, 2, 2), (35184372088832, 17592186044416, 4, 6), (70368744177664, 35184372088832, 8, 14), (140737488355328, 8192, 0, 0), (281474976710656, 211106232532992, 48, 62), (562949953421312, 1024, 0, 0), (1125899906842624, 562949953421312, 128, 128), (2251799813685248, 1125899906842624, 256, 384), (4503599627370496, 2251799813685248, 512, 896), (9007199254740992, 4503599627370496, 1024, 1920), (18014398509481984, 8192, 0, 0), (36028797018963968, 27021597764222976, 6144, 8064), (72057594037927936, 36028797018963968, 8192, 16256), (144115188075855872, 72057594037927936, 16384, 32640), (288230376151711744, 144396663052566528, 32832, 65534), (576460752303423488, 4398046511104, 131071, 131071), (1152921504606846976, 576460752303423488, 262143, 262143), (0, 1441151880758558720, 393215, 524287)] (fun W => Below w6.drew.heap.size w6.drew W) (by kernel_rfl) (by kernel_rfl) (by kernel_rfl) rfl (by kernel_rfl) (by kernel_rfl) (Below.refl _ _) (fun hS => ?_)
  repeat (first
    | (refine plan_read (v := ?_) rfl (fun _ _ _ h => h) rfl hS ?_ ?_; rotate_left 1; (focus (intro w' hS'; have e4 := (hS'.cell hl6).trans c4; go_simp; try rfl)); (simp only [Act.put, List.setIfInBounds_toArray]; dsimp only [List.set_cons_zero, List.set_cons_succ]))
    | (refine plan_skip rfl (fun _ _ _ h => h) rfl hS ?_; (simp only [Act.put, List.setIfInBounds_toArray]; dsimp only [List.set_cons_zero, List.set_cons_succ])))
  refine plan_do (by rfl) (by rfl) (fun K hK => ?_)
  go_simp
  have bel7 : Below w6.drew.heap.size w6.drew (w6.alloc (.cells Z 5)).drew := (Below.refl _ _).alloc (Nat.le_refl _) _
  have hcv7 := hcv w6
  refine hK.out _ _ (fun _ => bel7) (fun hS => ?_); clear hK K; replace hS := hS rfl; try (simp only [Act.put, List.setIfInBounds_toArray]; dsimp only [List.set_cons_zero, List.set_cons_succ])
  repeat (first
    | (refine plan_read (v := ?_) rfl (fun _ _ _ h => h) rfl hS ?_ ?_; rotate_left 1; (focus (intro w' hS'; have e4 := (hS'.cell hl6).trans c4; go_simp; try rfl)); (simp only [Act.put, List.setIfInBounds_toArray]; dsimp only [List.set_cons_zero, List.set_cons_succ]))
    | (refine plan_skip rfl (fun _ _ _ h => h) rfl hS ?_; (simp only [Act.put, List.setIfInBounds_toArray]; dsimp only [List.set_cons_zero, List.set_cons_succ])))
  refine plan_do (by rfl) (by rfl) (fun K hK => ?_)
  go_simp
  refine hK.out _ _ (fun _ => hS) (fun hS => ?_); clear hK K; replace hS := hS rfl; try (simp only [Act.put, List.setIfInBounds_toArray]; dsimp only [List.set_cons_zero, List.set_cons_succ])
  repeat (first
    | (refine plan_read (v := ?_) rfl (fun _ _ _ h => h) rfl hS ?_ ?_; rotate_left 1; (focus (intro w' hS'; have e4 := (hS'.cell hl6).trans c4; go_simp; try rfl)); (simp only [Act.put, List.setIfInBounds_toArray]; dsimp only [List.set_cons_zero, List.set_cons_succ]))
    | (refine plan_skip rfl (fun _ _ _ h => h) rfl hS ?_; (simp only [Act.put, List.setIfInBounds_toArray]; dsimp only [List.set_cons_zero, List.set_cons_succ])))
  obtain ⟨w7, hw7⟩ : ∃ w7, (w6.alloc (.cells Z 5)).drew = w7 := ⟨_, rfl⟩
  rw [hw7] at hS bel7 ⊢
  have H7 := Lib.hid (And.intro (H6d.out.1.below hS hl6) (And.intro (own_below H6d.out.2.1 hS) (H6d.out.2.2.trans (hS.mono H6d.out.2.2.size))))
  have c47 : w7.cell? ⟨lb, 4, none⟩ = some (.string ZX) := H7.out.1.cell 4
  have f47 : w7.frozen? ⟨lb, 4, none⟩ = false := H7.out.1.frozen 4
  clear hS bel7 hcv7 hw7 c4
  refine plan_do (by rfl) (by rfl) (fun K hK => ?_)
  go_simp
  refine hK.out _ _ (fun h => by cases h) (fun _ => ?_); clear hK K; try (simp only [Act.put, List.setIfInBounds_toArray]; dsimp only [List.set_cons_zero, List.set_cons_succ])
  refine plan_nil ?_
  have top8 : Blk (w7.setCell ⟨lb, 4, none⟩ (.string X3)) lb 58 (rlc d f sg sz X3 s.last s.used 0 (.slice A1 T c1) (str s.chain) 0 s.sealed_ false) := H7.out.1.set_ 4 (.string X3)
  have own8 := own_fr H7.out.2.1 (Fr.setCell (F := fun k => k = lb) w7 ⟨lb, 4, none⟩ (.string X3) rfl) (own_ne H7.out.2.1 H7.out.1 (by decide))
  have bel8 : Below w.heap.size w (w7.setCell ⟨lb, 4, none⟩ (.string X3)) := H7.out.2.2.setCell hd1 _
  generalize w7.setCell ⟨lb, 4, none⟩ (.string X3) = w8 at *
  have c48 : w8.cell? ⟨lb, 4, none⟩ = some (.string X3) := top8.cell 4
  have H8 := Lib.hid (And.intro top8 (And.intro own8 (And.intro bel8 (H.out.1.below bel8))))
  clear top8 own8 bel8 c47 f47 H7 H6 H6d hl6 hmk hcv hex hcat hs1 hs2 hlen hwK
  have HFIN : Hid (∀ (W : World), Fr (fun k => k = d) w8 W → Blk W lb 58 (rlc d f sg sz X3 s.last s.used 0 (.slice A1 T c1) (str s.chain) 0 s.sealed_ false) ∧ W.ownsRow w.heap.size 9 1 (.slice A1 T c1) T (strs s.texts)) := Lib.hid (by
    intro W hf
    have tp := H8.out.2.2.2.top
    exact ⟨H8.out.1.fr hf (fun e => tp.same H8.out.1 (by decide) e.symm), own_fr H8.out.2.1 hf (own_ne H8.out.2.1 tp (by decide))⟩)
  have HEND : Hid (∀ (W : World), Blk W lb 58 (rlc d f sg sz X3 s.last s.used E (.slice A1 T c1) (str s.chain) T s.sealed_ false) → W.ownsRow w.heap.size 9 1 (.slice A1 T c1) T (strs s.texts) → Below base w8 W → Fr (fun k => k = d ∨ k = lb) w8 W →
      w.heap.size ≤ lb ∧ Blk W lb 58 (rlc d f sg sz (str (X.take E ++ zr (X.length - E))) s.last s.used E (.slice A1 s.texts.length c1) (str s.chain) s.texts.length s.sealed_ false) ∧ W.ownsRow w.heap.size 9 1 (.slice A1 s.texts.length c1) s.texts.length (strs s.texts) ∧ Below base w W ∧ Fr (fun k => k = d) w W) := Lib.hid (by
    intro W h1 h2 h3 h4
    have e1 : X.length - E = K0 := by rw [HE.out.2.1, ← HX.out.1, HX.out.2.1]
    rw [e1, ← HX.out.2.2.1, ← HE.out.2.2]
    exact ⟨hd1, h1, h2, (H8.out.2.2.1.mono H.out.2.1).trans h3, (Fr.of_below H8.out.2.2.1 _).trans h4 (fun k hk h => h.elim id (fun e => by omega))⟩)
  by_cases hEM : E < M
  · have hEMi : (E : Int) < (M : Int) := by omega
    obtain ⟨a, ha⟩ : ∃ a, a = E / 128 := ⟨_, rfl⟩
    have hMP := HX.out.1
    have haP : a < P := by omega
    have hai : (E : Int) / 128 = (a : Int) := by omega
    have hwa0 : IntKind.i64.wrap (a : Int) = (a : Int) := IntWalk.i64_in _ (by omega)
    obtain ⟨N, hN⟩ : ∃ N, N = 128 * a := ⟨_, rfl⟩
    have hwN : IntKind.i64.wrap (128 * (a : Int)) = (N : Int) := by rw [show (128 : Int) * (a : Int) = (N : Int) by omega]; exact IntWalk.i64_in _ (by omega)
    have hwf : IntKind.i64.wrap ((f : Int) + (a : Int)) = ((f + a : Nat) : Int) := by rw [show (f : Int) + (a : Int) = ((f + a : Nat) : Int) by omega]; exact IntWalk.i64_in _ (by have := HB.out.1; have := HB.out.2.1; omega)
    have hNM : N ≤ M := by omega
    have hNi : (N : Int) ≤ (M : Int) := by omega
    have hex : X3.extract N M = str ((X.take E ++ zr K0).drop N) := by
      have hl : (X.take E ++ zr K0).length = M := by rw [List.length_append, List.length_take, zr_length, HE.out.2.1, ← hMP, HX.out.2.1]; omega
      rw [HX.out.2.2.1, str_extract, List.take_of_length_le (by rw [List.length_drop, hl]; exact Nat.le_refl _)]
    have hXl : ((X.take E ++ zr K0).drop N).length = (P - a) * 128 := by
      rw [List.length_drop, List.length_append, List.length_take, zr_length, HE.out.2.1, ← hMP, HX.out.2.1, Nat.sub_mul]
      omega
    have HW := Lib.hid (rwrite_any base d S A B C cA cB cC (f + a) (P - a) _ w8 H8.out.2.2.2 hXl (by have := HB.out.2.1; omega) HB.out.1 (Nat.le_trans H.out.2.1 H8.out.2.2.1.size))
    obtain ⟨X4, hX4⟩ : ∃ Z, Z = str ((X.take E ++ zr K0).drop N) := ⟨_, rfl⟩
    rw [← hX4] at hex HW
    clear ha hMP hN hXl hX4
    obtain ⟨fa, hfa⟩ : ∃ x, x = f + a := ⟨_, rfl⟩
    rw [← hfa] at hwf HW
    clear hfa
    go_wp2_with fail
    refine HW.out.mono ?_
    rintro e w9 ⟨rfl, ⟨T9, W9, B9, cB9, C9, cC9, hT9, hR9⟩, bel9, fr9⟩
    have HF := Lib.hid (rflush_any base d S W9 T9 A B9 C9 cA cB9 cC9 w9 hR9 (by have := HB.out.1; omega) (by omega) (Nat.le_trans (Nat.le_trans H.out.2.1 H8.out.2.2.1.size) bel9.size))
    have H9 := Lib.hid (And.intro bel9 fr9)
    clear hR9 bel9 fr9 HW hT9
    go_wp2_with fail
    refine HF.out.mono ?_
    rintro e w10 ⟨rfl, bel10, fr10⟩
    have H10 := Lib.hid (And.intro (H9.out.1.trans bel10) (H9.out.2.trans fr10 (fun _ _ h => h)))
    clear bel10 fr10 HF
    have q := HFIN.out w10 H10.out.2
    have c8a : w10.cell? ⟨lb, 8, none⟩ = some (.slice A1 T c1) := q.1.cell 8
    have c10 : w10.cell? ⟨lb, 10, none⟩ = some (.int .i64 0) := q.1.cell 10
    have f10 : w10.frozen? ⟨lb, 10, none⟩ = false := q.1.frozen 10
    have b1 := q.1.set_ 10 (.int .i64 T)
    have c7 := b1.cell 7
    have f7 := b1.frozen 7
    have b2 := b1.set_ 7 (.int .i64 E)
    have HQ := Lib.hid (And.intro q b2)
    clear q b1 b2
    go_wp2_with fail
    go_ret2
    have hlo := Nat.le_trans H.out.2.1 hd1
    have g1 := Fr.setCell (F := fun k => k = lb) w10 ⟨lb, 10, none⟩ (.int .i64 T) rfl
    have g2 := g1.trans (Fr.setCell (F := fun k => k = lb) _ ⟨lb, 7, none⟩ (.int .i64 E) rfl) (fun _ _ h => h)
    obtain ⟨h1, h2, h3, h4⟩ := HEND.out _ HQ.out.2 (own_fr HQ.out.1.2 g2 (own_ne HQ.out.1.2 HQ.out.1.1 (by decide))) ((H10.out.1.setCell hlo _).setCell hlo _) ((H10.out.2.mono (fun _ _ h => .inl h)).trans g2 (fun _ _ h => .inr h))
    exact ⟨lb, A1, c1, rfl, h1, h2, h3, h4⟩
  · have hEMi : ¬ ((E : Int) < (M : Int)) := by omega
    have HF := Lib.hid (rflush_any base d S [] [] A B C cA cB cC w8 H8.out.2.2.2 (by have := HB.out.1; omega) (by simp) (Nat.le_trans H.out.2.1 H8.out.2.2.1.size))
    go_wp2_with fail
    refine HF.out.mono ?_
    rintro e w10 ⟨rfl, bel10, fr10⟩
    have H10 := Lib.hid (And.intro bel10 fr10)
    clear bel10 fr10 HF
    have q := HFIN.out w10 H10.out.2
    have c8a : w10.cell? ⟨lb, 8, none⟩ = some (.slice A1 T c1) := q.1.cell 8
    have c10 : w10.cell? ⟨lb, 10, none⟩ = some (.int .i64 0) := q.1.cell 10
    have f10 : w10.frozen? ⟨lb, 10, none⟩ = false := q.1.frozen 10
    have b1 := q.1.set_ 10 (.int .i64 T)
    have c7 := b1.cell 7
    have f7 := b1.frozen 7
    have b2 := b1.set_ 7 (.int .i64 E)
    have HQ := Lib.hid (And.intro q b2)
    clear q b1 b2
    go_wp2_with fail
    go_ret2
    have hlo := Nat.le_trans H.out.2.1 hd1
    have g1 := Fr.setCell (F := fun k => k = lb) w10 ⟨lb, 10, none⟩ (.int .i64 T) rfl
    have g2 := g1.trans (Fr.setCell (F := fun k => k = lb) _ ⟨lb, 7, none⟩ (.int .i64 E) rfl) (fun _ _ h => h)
    obtain ⟨h1, h2, h3, h4⟩ := HEND.out _ HQ.out.2 (own_fr HQ.out.1.2 g2 (own_ne HQ.out.1.2 HQ.out.1.1 (by decide))) ((H10.out.1.setCell hlo _).setCell hlo _) ((H10.out.2.mono (fun _ _ h => .inl h)).trans g2 (fun _ _ h => .inr h))
    exact ⟨lb, A1, c1, rfl, h1, h2, h3, h4⟩
end Go.Proofs.YtbcnbehneodlgaaGreatDoor
