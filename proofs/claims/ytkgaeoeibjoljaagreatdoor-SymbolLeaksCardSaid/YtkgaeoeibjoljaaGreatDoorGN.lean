/-
  clear, on a part of a block of octets.
  trim.
-/
import Derived.Test.YtkgaeoeibjoljaaGreatDoorGA
import Derived.Lib.SliceRun
import Derived.Test.YtkgaeoeibjoljaaGreatDoorGL
import Derived.Test.YtkgaeoeibjoljaaGreatDoorGD
namespace Go.Proofs.YtkgaeoeibjoljaaGreatDoor
section
set_option maxRecDepth 4000
open Go.RowKit
theorem splice_set {α : Type} (l : List α) (o : Nat) (v : α) (vs : List α) (h : o < l.length) : splice (l.set o v) (o + 1) vs = splice l o (v :: vs) := by
 unfold splice
 have e1 : (l.set o v).take (o + 1) = l.take o ++ [v] := by
  rw [List.take_add_one, List.take_set_of_le (Nat.le_refl _), List.getElem?_set_self h]; rfl
 rw [e1, List.drop_set_of_lt (by omega), List.length_cons, List.append_assoc, show o + 1 + vs.length = o + (vs.length + 1) by omega]
 rfl
theorem blk_setCells {g : Nat} {t : TypeId} : ∀ (vs : List Value) (o : Nat) (w : World) (cs : Array Value), Blk w g t cs -> o + vs.length <= cs.size -> Blk (w.setCells g o vs) g t (splice cs.toList o vs).toArray
 | [], o, w, cs, h, _ => by simpa [splice, World.setCells] using h
 | v :: vs, o, w, cs, h, hl => by
  rw [List.length_cons] at hl
  have h1 := blk_setCells vs (o + 1) _ _ (h.set_ o v) (by rw [Array.size_setIfInBounds]; omega)
  rw [Array.toList_setIfInBounds, splice_set _ _ _ _ (by simp; omega)] at h1
  exact h1
theorem fr_setCells {g : Nat} : ∀ (vs : List Value) (o : Nat) (w : World), Fr (fun k => k = g) w (w.setCells g o vs)
 | [], _, _ => Fr.refl _ _
 | v :: vs, o, w => (Fr.setCell (F := fun k => k = g) w ⟨g, o, none⟩ v rfl).trans (fr_setCells vs (o + 1) _) (fun _ _ h => h)
theorem zero_byte : ∀ w, (zeroValue 5).run Tryz.prog w = .ok (.int .u8 0) w := by
 intro w
 rfl
theorem run_clear (w : World) (ty : TypeId) (g o n c : Nat) (cs : Array Value) (h : Blk w g 5 cs) (hl : o + n <= cs.size) (hn : 0 < n) :
  (Builtin.clear_ #[22] ty #[.slice (some ⟨g, o, none⟩) n c]).run Tryz.prog w = .ok (.tuple #[]) (w.setCells g o (List.replicate n (.int .u8 0))) :=
 Go.Lib.run_clear_slice w 22 5 ty (.int .u8 0) Tryz.underlying22 zero_byte rfl rfl g o n c hn (fun j hj => by rw [h.cell]; simp; omega) (fun j hj => h.frozen _)
theorem run_clear0 (w : World) (ty : TypeId) (A : Option Addr) (c : Nat) : (Builtin.clear_ #[22] ty #[.slice A 0 c]).run Tryz.prog w = .ok (.tuple #[]) w := by
 cases A <;> simp [Builtin.clear_, run_underlying Tryz.underlying22, zero_byte, Builtin.zeroCells]
end
section
set_option maxRecDepth 4000
open Go.RowKit
def Lg.cut (s : Lg) : Lg := { s with B := s.B.take s.end_ ++ zr (s.all - s.end_) }
theorem Lg.Ok.cut {s : Lg} (h : s.Ok) : s.cut.Ok := by
 refine ⟨h.segs, h.size, h.last, h.used, h.clean, ?_, h.many, h.chain, h.sure⟩
 show (s.B.take s.end_ ++ zr (s.all - s.end_)).length = s.all
 have h1 := h.end_le
 rw [List.length_append, List.length_take, h.oct, zr_length]
 omega
def Dk.cut (D : Dk) (f a P : Nat) (B : List UInt8) : Dk := if a < P then (D.push (f + a) (B.drop (a * 128)) (P - a)).flushed else D.flushed
structure LD (w : World) (lb b f : Nat) (s : Lg) (bg cB : Nat) (A : Option Addr) (cT : Nat) (C : Option Addr) (cC : Nat) (vs : List Pt) (K : Nat -> Prop) (D : Dk) (F : Nat -> Prop) : Prop where
 log : LgP w lb b f s bg cB A cT C cC vs K
 disk : DiskAt w b F D
 apart : ∀ k, F k -> ¬ K k
 flt : ∀ k, F k -> k < w.heap.size
 klt : ∀ k, K k -> k < w.heap.size
section
variable {w w' : World} {lb b f : Nat} {s : Lg} {bg cB : Nat} {A : Option Addr} {cT : Nat} {C : Option Addr} {cC : Nat} {vs : List Pt} {Kl F : Nat -> Prop} {D D' : Dk}
theorem LD.below (h : LD w lb b f s bg cB A cT C cC vs Kl D F) (hb : Below w.heap.size w w') : LD w' lb b f s bg cB A cT C cC vs Kl D F :=
 ⟨h.log.below hb, h.disk.below hb, h.apart, fun k hk => Nat.lt_of_lt_of_le (h.flt k hk) hb.size, fun k hk => Nat.lt_of_lt_of_le (h.klt k hk) hb.size⟩
theorem LD.move (h : LD w lb b f s bg cB A cT C cC vs Kl D F) (hd : DiskTo w b F D' w') : ∃ F', LD w' lb b f s bg cB A cT C cC vs Kl D' F' /\ Fr F w w' /\ ∀ k, k < w.heap.size -> F' k -> F k := by
 obtain ⟨F', h1, h2, h3⟩ := hd
 refine ⟨fun k => F' k /\ k < w'.heap.size, ⟨h.log.fr h2 (fun k hk hf => h.apart k hf hk), h1.restrict, ?_, fun k hk => hk.2, fun k hk => Nat.lt_of_lt_of_le (h.klt k hk) h2.size⟩, h2, fun k hk hf => h3 k hk hf.1⟩
 intro k hk hK
 exact h.apart k (h3 k (h.klt k hK) hk.1) hK
end
set_option maxHeartbeats 4000000 in
theorem trim_any {w : World} {lb b f : Nat} {s : Lg} {bg cB : Nat} {A : Option Addr} {cT : Nat} {C : Option Addr} {cC : Nat} {vs : List Pt} {Kl F : Nat -> Prop} {D : Dk} (h : LD w lb b f s bg cB A cT C cC vs Kl D F) (hok : s.Ok) (hDk : D.Ok) (hc : D.calls = -1) (hq : D.queue = []) (hf : f <= 1000000) (hfit : (f + s.segs * s.size) * 128 <= D.safe.length) :
  Calls Tryz.prog 123 #[.pointer (some ⟨lb, 0, none⟩)] w fun e w' => e = .returned (.int .i64 0) /\ ∃ F', LD w' lb b f s.cut bg cB A cT C cC vs Kl (D.cut f (s.end_ / 128) (s.segs * s.size) s.cut.B) F' /\ Fr (fun k => F k \/ Kl k) w w' /\ ∀ k, k < w.heap.size -> F' k -> F k := by
 have hal := hok.all_le
 have hel := hok.end_le
 obtain ⟨E, hE⟩ : ∃ E, E = s.end_ := ⟨_, rfl⟩
 obtain ⟨sg, hSG⟩ : ∃ m, m = s.segs := ⟨_, rfl⟩
 obtain ⟨sz, hSZ⟩ : ∃ m, m = s.size := ⟨_, rfl⟩
 obtain ⟨P, hP⟩ : ∃ m, m = sg * sz := ⟨_, rfl⟩
 obtain ⟨L, hL⟩ : ∃ L, L = s.B.length := ⟨_, rfl⟩
 have hLP : L = P * 128 := by rw [hL, hok.oct, hP, hSG, hSZ]; unfold Lg.all Lg.n; rw [Nat.mul_assoc]
 have hLa : L = s.all := by rw [hL, hok.oct]
 rw [<- hE, <- hLa] at hel
 rw [<- hLa] at hal
 rw [<- hSG, <- hSZ, <- hP] at hfit
 have hHE := fun W (hW : LgP W lb b f s bg cB A cT C cC vs Kl) => hE ▸ end_log hW hok
 have HE := Lh hHE
 obtain ⟨g, cap, cur, hv, -, hbl0, hcap1, hcap2, -⟩ := own_open h.log.oct (by have := hok.n_le; have := hok.all_le; rw [hok.oct]; omega)
 injection hv with hv1 hv2 hv3
 injection hv1 with hv1
 injection hv1 with hv1 _ _
 subst hv1
 subst hv3
 rw [<- hL] at hcap1
 have hcm := hcap2
 unfold maxLen at hcap2
 obtain ⟨a, ha⟩ : ∃ a, a = E / 128 := ⟨_, rfl⟩
 have hpi : IntKind.i64.wrap ((sg : Int) * (sz : Int)) = (P : Int) := by
  rw [hP, show (sg : Int) * (sz : Int) = ((sg * sz : Nat) : Int) by simp]
  exact IntWalk.i64_in _ (by rw [<- hP]; omega)
 have hcut : s.cut.B = splice s.B E (zr (L - E)) := by
  unfold Lg.cut splice
  rw [zr_length, <- hLa, <- hE, List.drop_eq_nil_of_le (by omega), List.append_nil]
 have hcl : s.cut.B.length = L := by rw [hok.cut.oct, hLa]; rfl
 have HCL := Lh (Ai hcut hcl)
 have HW : Hid (∀ (W : World) (F' : Nat -> Prop), DiskAt W b F' D -> (∀ k, F' k -> k ≠ bg) -> ∀ c', L - a * 128 <= c' -> c' <= maxLen -> a < P -> Sees W 1 (some ⟨bg, a * 128, none⟩) (L - a * 128) (u8s (s.cut.B.drop (a * 128))) -> Calls Tryz.prog 95 #[.pointer (some ⟨b, 0, none⟩), .int .i64 ((f : Int) + (a : Int)), (.slice (some ⟨bg, a * 128, none⟩) (L - a * 128) c')] W fun e w' => e = .returned (.int .i64 0) /\ DiskTo W b F' (D.push (f + a) (s.cut.B.drop (a * 128)) (P - a)) w') := Lh (by
  intro W F' hD hF c' hc1 hc2 haP hSe
  have e1 : L - a * 128 = (P - a) * 128 := by rw [hLP, Nat.sub_mul]
  rw [e1] at hc1 hSe ⊢
  have := write_good b F' D (f + a) (P - a) (some ⟨bg, a * 128, none⟩) c' (s.cut.B.drop (a * 128)) W hD hDk (by rw [List.length_drop, hcl, <- e1]) hc1 hc2 hSe (fun _ ad hA hF2 => by injection hA with hA; subst hA; exact hF bg hF2 rfl) (by rw [hq]; exact Nat.zero_le _) (by rw [show f + a + (P - a) = f + P by omega]; exact hfit) (by rw [hc]; decide)
  rw [show ((f + a : Nat) : Int) = (f : Int) + (a : Int) by omega] at this
  exact this)
 have HFL : Hid (∀ (W : World) (F' : Nat -> Prop) (D1 : Dk), DiskAt W b F' D1 -> D1.Ok -> D1.calls = -1 -> D1.queue.length <= 1099511627776 -> Calls Tryz.prog 96 #[.pointer (some ⟨b, 0, none⟩)] W fun e w' => e = .returned (.int .i64 0) /\ DiskTo W b F' D1.flushed w') := Lh (fun W F' D1 hD h1 h2 h3 => flush_good b F' D1 W hD h1 h3 (by rw [h2]; decide))
 have HH := Lh (Ai h (Ai hok (Ai hDk (Ai hc hq))))
 have hPb : P <= 131072 := by omega
 have HN := Lh (Ai hE (Ai hSG (Ai hSZ (Ai hP (Ai hL (Ai hLa hfit))))))
 have ha1 : a <= P := by omega
 have haE : a * 128 <= E := by omega
 have hane : E < L -> a < P := fun h => by omega
 have haeq : E = L -> ¬ a < P := fun h => by omega
 have hdiv : E / 128 = a := ha.symm
 have hdivi : (E : Int) / 128 = (a : Int) := by omega
 have HANE := Lh (Ai hane haeq)
 replace hLP := Lh hLP
 clear h hok hDk hc hq hE hSG hSZ hP hL hLa hfit hHE hcut hcl hal ha hane haeq
 go_enter Tryz.func123, Tryz.ntmps123
 go_wp2_with fail
 refine (HE.out _ HH.out.1.log).mono ?_
 rintro e w1 ⟨rfl, bel1⟩
 have H1 := Lh (Ai (HH.out.1.below bel1) bel1)
 clear bel1
 have c4 : w1.cell? ⟨lb, 4, none⟩ = some (.slice (some ⟨bg, 0, none⟩) L cB) := by rw [HN.out.2.2.2.2.1]; exact H1.out.1.log.top.cell 4
 have hfa : IntKind.i64.wrap ((f : Int) + (a : Int)) = (f : Int) + (a : Int) := IntWalk.i64_in _ (by omega)
 have hwa : IntKind.i64.wrap ((a : Int) * 128) = (a : Int) * 128 := IntWalk.i64_in _ (by omega)
 rcases Nat.lt_or_ge E L with hlt | hge
 ·have hEc : ¬ cB = E := by omega
  have haP := HANE.out.1 hlt
  obtain ⟨g, cap, cur1, hv, -, hb1, q1, q2, q3, q4⟩ := own_open H1.out.1.log.oct (by rw [<- HN.out.2.2.2.2.1]; omega)
  injection hv with hv1 hv2 hv3
  injection hv1 with hv1
  injection hv1 with hv1 _ _
  subst hv1
  subst hv3
  have HCLR := Lh (fun ty => run_clear w1 ty bg E (L - E) (cB - E) cur1 hb1 (by rw [q3]; omega) (by omega))
  have H2 : Hid (LD (w1.setCells bg E (List.replicate (L - E) (.int .u8 0))) lb b f s.cut bg cB A cT C cC vs Kl D F /\ Fr Kl w1 (w1.setCells bg E (List.replicate (L - E) (.int .u8 0)))) := Lh (by
   have f2 := fr_setCells (g := bg) (List.replicate (L - E) (.int .u8 0)) E w1
   have b2 := blk_setCells (List.replicate (L - E) (.int .u8 0)) E w1 cur1 hb1 (by rw [List.length_replicate, q3]; omega)
   have hl : s.cut.B.length = s.B.length := by rw [HCL.out.2, HN.out.2.2.2.2.1]
   have ho : (w1.setCells bg E (List.replicate (L - E) (.int .u8 0))).ownsRow 0 5 1 (.slice (some ⟨bg, 0, none⟩) s.B.length cB) s.B.length (u8s s.cut.B) := by
    refine own_mk (Nat.zero_le _) b2 q1 q2 ?_ ?_
    ·simp only [List.size_toArray]
     rw [length_splice _ _ _ (by simp; omega), Array.length_toList, q3]
    ·rw [List.toList_toArray, take_splice _ _ _ _ (by simp; rw [<- HN.out.2.2.2.2.1]; omega), q4, HCL.out.1, u8s_splice]
     simp [u8s, zr]
   have l2 := H1.out.1.log.octs hl ho f2
   have hz := f2.size
   exact ⟨⟨l2, H1.out.1.disk.fr f2 (fun k hk e => H1.out.1.apart k hk (e ▸ H1.out.1.log.kb)), H1.out.1.apart, fun k hk => Nat.lt_of_lt_of_le (H1.out.1.flt k hk) hz, fun k hk => Nat.lt_of_lt_of_le (H1.out.1.klt k hk) hz⟩, f2.mono (fun k _ e => by rw [e]; exact H1.out.1.log.kb)⟩)
  clear hb1 q1 q2 q3 q4
  go_wp2_with (simp only [HCLR.out])
  generalize w1.setCells bg E (List.replicate (L - E) (.int .u8 0)) = w2 at *
  have H2d := Lh (H2.out.1.below (Below.refl _ _).drew)
  refine region_fast [(0, true), (1, true), (2, true), (3, true), (4, true), (5, true), (6, true), (7, true), (8, true), (9, true), (10, true), (11, true), (12, true)] [1, 2, 3, 4, 5, 6, 7, 8, 9, 10, 11] 4094 [(65536, 16, 0, 0), (131072, 1, 0, 0), (262144, 131072, 2, 2), (524288, 262144, 4, 6), (1048576, 524288, 8, 14), (2097152, 1048576, 16, 30), (4194304, 1, 0, 0), (8388608, 4194304, 64, 64), (16777216, 8388608, 128, 192), (33554432, 16777216, 256, 448), (67108864, 33554432, 512, 960), (134217728, 69206016, 1056, 2046), (268435456, 134283264, 2049, 4095)] (fun W => W = w2.drew) (by kernel_rfl) (by kernel_rfl) (by kernel_rfl) rfl (by kernel_rfl) (by kernel_rfl) rfl (fun hS => ?_)
  repeat (first
   | (refine plan_read (v := ?_) rfl (fun _ _ _ h => h) rfl hS ?_ ?_; rotate_left 1; (focus (intro w' hS'; subst hS'; have e2 : w2.drew.cell? ⟨lb, 2, none⟩ = some (.int .i64 sg) := (by rw [HN.out.2.1]; exact H2d.out.log.top.cell 2); have e3 : w2.drew.cell? ⟨lb, 3, none⟩ = some (.int .i64 sz) := (by rw [HN.out.2.2.1]; exact H2d.out.log.top.cell 3); go_simp; try rfl)); (simp only [Act.put, pu1]; dsimp only [pu2, pu3]))
   | (refine plan_skip rfl (fun _ _ _ h => h) rfl hS ?_; (simp only [Act.put, pu1]; dsimp only [pu2, pu3])))
  refine plan_nil ?_
  have haL : a * 128 <= L := by omega
  have hac : ¬ cB = a * 128 := by omega
  have hti : ((a : Int) * 128).toNat = a * 128 := by omega
  have h0a : 0 <= (a : Int) * 128 := by omega
  have hla : (a : Int) * 128 <= (L : Int) := by omega
  have H3 := Lh (H2d.out.below (Below.refl _ _).drew)
  go_wp2_with fail
  refine region_fast [(0, true), (1, true), (2, true), (3, true), (4, true), (5, true), (6, true), (7, true), (8, true), (9, true), (10, true), (11, true), (12, true), (13, true), (14, true), (15, true), (16, true), (17, true), (18, true), (19, false), (20, true)] [5, 6, 7, 8, 9, 10, 11, 12, 13, 14, 15, 16, 17, 18] 524256 [(536870912, 1, 0, 0), (1073741824, 536870912, 1, 1), (2147483648, 1073741824, 2, 3), (4294967296, 2147483648, 4, 7), (8589934592, 4294967296, 8, 15), (17179869184, 1, 0, 0), (34359738368, 17179869184, 32, 32), (68719476736, 34359738368, 64, 96), (137438953472, 68719476736, 128, 224), (274877906944, 137438953472, 256, 480), (549755813888, 16, 0, 0), (1099511627776, 824633720832, 1536, 2016), (2199023255552, 1, 0, 0), (4398046511104, 2199023255552, 4096, 4096), (8796093022208, 4398046511104, 8192, 12288), (17592186044416, 8796093022208, 16384, 28672), (35184372088832, 16, 0, 0), (70368744177664, 35184372088832, 65536, 65536), (140737488355328, 87960930222080, 163840, 258048), (281474976710656, 141845589917696, 264208, 524287), (32, 281474976710656, 1048575, 1048575)] (fun W => W.cell? ⟨lb, 0, none⟩ = some (.pointer (some ⟨b, 0, none⟩)) /\ W.cell? ⟨lb, 1, none⟩ = some (.int .i64 f) /\ W.cell? ⟨lb, 4, none⟩ = some (.slice (some ⟨bg, 0, none⟩) L cB)) (by kernel_rfl) (by kernel_rfl) (by kernel_rfl) rfl (by kernel_rfl) (by kernel_rfl) ⟨H3.out.log.top.cell 0, H3.out.log.top.cell 1, by rw [<- HCL.out.2]; exact H3.out.log.top.cell 4⟩ (fun hS => ?_)
  iterate 18 (first
   | (refine plan_read (v := ?_) rfl (fun _ _ _ h => h) rfl hS ?_ ?_; rotate_left 1; (focus (intro w' hS'; have e0 := hS'.1; have e1 := hS'.2.1; have e4 := hS'.2.2; go_simp; try rfl)); (simp only [Act.put, pu1]; dsimp only [pu2, pu3]))
   | (refine plan_skip rfl (fun _ _ _ h => h) rfl hS ?_; (simp only [Act.put, pu1]; dsimp only [pu2, pu3])))
  refine plan_read (v := Value.slice (some ⟨bg, a * 128, none⟩) (L - a * 128) (cB - a * 128)) rfl (fun _ _ _ h => h) rfl hS ?_ ?_; (focus (intro w' hS'; go_simp; first | done | simp [hti, h0a, hla, hac] | (simp; omega))); (simp only [Act.put, pu1]; dsimp only [pu2, pu3])
  refine plan_do (by rfl) (by rfl) (fun K hK => ?_)
  go_simp
  have hpc := (Sees.of_own H3.out.log.oct).piece (a * 128) (L - a * 128) (by rw [HCL.out.2]; omega)
  rw [Nat.zero_add, <- u8s_drop, <- u8s_take, List.take_of_length_le (by rw [List.length_drop, HCL.out.2]; exact Nat.le_refl _)] at hpc
  have HWR := Lh (HW.out w2.drew.drew F H3.out.disk (fun k hk e => H3.out.apart k hk (e ▸ H3.out.log.kb)) (cB - a * 128) (by omega) (by unfold maxLen; omega) haP hpc)
  clear hpc
  refine HWR.out.mono ?_
  rintro e w3 ⟨rfl, hd⟩
  obtain ⟨F3, l3, f3, s3⟩ := H3.out.move hd
  have hq3 : (D.push (f + a) (s.cut.B.drop (a * 128)) (P - a)).queue.length <= 1099511627776 := by
   show (D.queue ++ parts _ _ _).length <= _
   rw [HH.out.2.2.2.2, List.nil_append, parts, List.length_map, List.length_range]
   omega
  have hok3 : (D.push (f + a) (s.cut.B.drop (a * 128)) (P - a)).Ok := HH.out.2.2.1.push _ _ _ (by rw [List.length_drop, HCL.out.2, hLP.out, Nat.sub_mul]; exact Nat.le_refl _) (by rw [show f + a + (P - a) = f + P by omega]; exact HN.out.2.2.2.2.2.2)
  have hc3 : (D.push (f + a) (s.cut.B.drop (a * 128)) (P - a)).calls = -1 := by show nextCalls D.calls = -1; rw [HH.out.2.2.2.1]; rfl
  have HF3 := Lh (HFL.out w3 F3 _ l3.disk hok3 hc3 hq3)
  have c0 : w3.cell? ⟨lb, 0, none⟩ = some (.pointer (some ⟨b, 0, none⟩)) := l3.log.top.cell 0
  have H4 := Lh (Ai l3 (Ai f3 s3))
  clear hS
  have hS := Ai c0 (Ai (l3.log.top.cell 1 : w3.cell? ⟨lb, 1, none⟩ = some (.int .i64 f)) (by rw [<- HCL.out.2]; exact l3.log.top.cell 4 : w3.cell? ⟨lb, 4, none⟩ = some (.slice (some ⟨bg, 0, none⟩) L cB)))
  clear hd l3 f3 s3 hq3 hok3 hc3 HWR
  refine hK.out _ _ (fun h => by cases h) (fun _ => ?_); clear hK K; try (simp only [Act.put, pu1]; dsimp only [pu2, pu3])
  repeat (first
   | (refine plan_read (v := ?_) rfl (fun _ _ _ h => h) rfl hS ?_ ?_; rotate_left 1; (focus (intro w' hS'; go_simp; try rfl)); (simp only [Act.put, pu1]; dsimp only [pu2, pu3]))
   | (refine plan_skip rfl (fun _ _ _ h => h) rfl hS ?_; (simp only [Act.put, pu1]; dsimp only [pu2, pu3])))
  refine plan_nil ?_
  go_wp2_with fail
  refine HF3.out.mono ?_
  rintro e w4 ⟨rfl, hd⟩
  obtain ⟨F4, l4, f4, s4⟩ := H4.out.1.move hd
  have H5 := Lh (Ai l4 (Ai f4 s4))
  clear hd l4 f4 s4
  go_wp2_with fail
  go_ret
  have hs12 := H1.out.2.size
  have hs2 := H2.out.2.size
  have hs3 := H4.out.2.1.size
  refine ⟨rfl, F4, ?_, ?_, ?_⟩
  ·have e1 : D.cut f (s.end_ / 128) (s.segs * s.size) s.cut.B = (D.push (f + a) (s.cut.B.drop (a * 128)) (P - a)).flushed := by
    unfold Dk.cut
    rw [<- HN.out.1, hdiv, <- HN.out.2.1, <- HN.out.2.2.1, <- HN.out.2.2.2.1, if_pos haP]
   rw [e1]
   exact H5.out.1
  ·have g1 : Fr (fun k => F k \/ Kl k) w w1 := Fr.of_below H1.out.2 _
   have g2 : Fr (fun k => F k \/ Kl k) w w2 := g1.trans H2.out.2 (fun _ _ h => .inr h)
   have g3 : Fr (fun k => F k \/ Kl k) w w3 := g2.trans (w3 := w3) (G := F) ⟨H4.out.2.1.os, H4.out.2.1.tape, H4.out.2.1.output, H4.out.2.1.size, H4.out.2.1.block⟩ (fun _ _ h => .inl h)
   exact g3.trans H5.out.2.1 (fun k hk hF => .inl (H4.out.2.2 k (show k < w2.heap.size by omega) hF))
  ·intro k hk hF
   have k2 : k < w2.heap.size := by omega
   have k3 : k < w3.heap.size := Nat.lt_of_lt_of_le k2 hs3
   exact H4.out.2.2 k k2 (H5.out.2.2 k k3 hF)
 ·obtain rfl : E = L := by omega
  have haP := HANE.out.2 rfl
  have hcE : s.cut = s := by
   have := HCL.out.1
   rw [Nat.sub_self] at this
   have e2 : s.cut.B = s.B := by rw [this]; simp [splice, zr]
   have e3 : s.cut = { s with B := s.cut.B } := rfl
   rw [e3, e2]
  have H2d := Lh (H1.out.1.below (Below.refl _ _).drew)
  have hcEh := Lh hcE
  clear hcE
  by_cases hcb : cB = E
  all_goals
   go_wp2_with (simp only [Nat.sub_self, run_clear0])
   refine region_fast [(0, true), (1, true), (2, true), (3, true), (4, true), (5, true), (6, true), (7, true), (8, true), (9, true), (10, true), (11, true), (12, true)] [1, 2, 3, 4, 5, 6, 7, 8, 9, 10, 11] 4094 [(65536, 16, 0, 0), (131072, 1, 0, 0), (262144, 131072, 2, 2), (524288, 262144, 4, 6), (1048576, 524288, 8, 14), (2097152, 1048576, 16, 30), (4194304, 1, 0, 0), (8388608, 4194304, 64, 64), (16777216, 8388608, 128, 192), (33554432, 16777216, 256, 448), (67108864, 33554432, 512, 960), (134217728, 69206016, 1056, 2046), (268435456, 134283264, 2049, 4095)] (fun W => W = w1.drew) (by kernel_rfl) (by kernel_rfl) (by kernel_rfl) rfl (by kernel_rfl) (by kernel_rfl) rfl (fun hS => ?_)
   repeat (first
    | (refine plan_read (v := ?_) rfl (fun _ _ _ h => h) rfl hS ?_ ?_; rotate_left 1; (focus (intro w' hS'; subst hS'; have e2 : w1.drew.cell? ⟨lb, 2, none⟩ = some (.int .i64 sg) := (by rw [HN.out.2.1]; exact H2d.out.log.top.cell 2); have e3 : w1.drew.cell? ⟨lb, 3, none⟩ = some (.int .i64 sz) := (by rw [HN.out.2.2.1]; exact H2d.out.log.top.cell 3); go_simp; try rfl)); (simp only [Act.put, pu1]; dsimp only [pu2, pu3]))
    | (refine plan_skip rfl (fun _ _ _ h => h) rfl hS ?_; (simp only [Act.put, pu1]; dsimp only [pu2, pu3])))
   refine plan_nil ?_
   have c0 : w1.drew.cell? ⟨lb, 0, none⟩ = some (.pointer (some ⟨b, 0, none⟩)) := H2d.out.log.top.cell 0
   have HF3 := Lh (HFL.out w1.drew F D H2d.out.disk HH.out.2.2.1 HH.out.2.2.2.1 (by rw [HH.out.2.2.2.2]; exact Nat.zero_le _))
   go_wp2_with fail
   refine HF3.out.mono ?_
   rintro e w4 ⟨rfl, hd⟩
   obtain ⟨F4, l4, f4, s4⟩ := H2d.out.move hd
   have H5 := Lh (Ai l4 (Ai f4 s4))
   clear hd l4 f4 s4
   go_wp2_with fail
   go_ret
   have hs12 := H1.out.2.size
   refine ⟨rfl, F4, ?_, ?_, ?_⟩
   ·have e1 : D.cut f (s.end_ / 128) (s.segs * s.size) s.cut.B = D.flushed := by
     unfold Dk.cut
     rw [<- HN.out.1, hdiv, <- HN.out.2.1, <- HN.out.2.2.1, <- HN.out.2.2.2.1, if_neg haP]
    rw [e1, hcEh.out]
    exact H5.out.1
   ·have g1 : Fr (fun k => F k \/ Kl k) w w1 := Fr.of_below H1.out.2 _
    exact g1.trans (w3 := w4) (G := F) ⟨H5.out.2.1.os, H5.out.2.1.tape, H5.out.2.1.output, H5.out.2.1.size, H5.out.2.1.block⟩ (fun _ _ h => .inl h)
   ·intro k hk hF
    exact H5.out.2.2 k (show k < w1.heap.size by omega) hF
end
end Go.Proofs.YtkgaeoeibjoljaaGreatDoor
