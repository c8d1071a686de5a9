/-
  Open, of a disk that is on and idle.
-/
import Derived.Test.YtkgaeoeibjoljaaGreatDoorLog4
import Derived.Test.YtkgaeoeibjoljaaGreatDoorGO
import Derived.Test.YtkgaeoeibjoljaaGreatDoorGB
namespace Go.Proofs.YtkgaeoeibjoljaaGreatDoor
set_option maxRecDepth 4000
open Go.RowKit
def Lg.init (segs size : Nat) (X : List UInt8) : Lg := { segs := segs, size := size, B := X, last := 0, used := 0, clean := 0, texts := [], chain := zr 32, sure := 0, sealed_ := false, dead := false }
def Lg.told (segs size : Nat) (X : List UInt8) : Lg := (Lg.init segs size X).scan 0 segs
def Lg.opened (segs size : Nat) (X : List UInt8) : Lg := (Lg.told segs size X).cut.flushed
def Dk.opened (D : Dk) (f segs size : Nat) : Dk := D.cut f ((Lg.told segs size (D.piece f (segs * size))).end_ / 128) (segs * size) (Lg.told segs size (D.piece f (segs * size))).cut.B
theorem Lg.init_ok {segs size : Nat} {X : List UInt8} (h1 : 1 <= segs /\ segs <= 256) (h2 : 2 <= size /\ size <= 512) (hX : X.length = segs * size * 128) : (Lg.init segs size X).Ok :=
 ⟨h1, h2, h1.1, Nat.zero_le _, Nat.zero_le _, by show X.length = segs * (size * 128); rw [hX, Nat.mul_assoc], Nat.zero_le _, zr_length 32, Nat.zero_le _⟩
theorem Lg.scan_fix : ∀ (f : Nat) (s : Lg) (i : Nat), (s.scan i f).segs = s.segs /\ (s.scan i f).size = s.size /\ (s.scan i f).B = s.B /\ (s.scan i f).sure = s.sure /\ (s.scan i f).clean = s.clean /\ (s.scan i f).dead = s.dead
 | 0, s, i => ⟨rfl, rfl, rfl, rfl, rfl, rfl⟩
 | f + 1, s, i => by
  have h1 : (s.scan1 i).1.segs = s.segs /\ (s.scan1 i).1.size = s.size /\ (s.scan1 i).1.B = s.B /\ (s.scan1 i).1.sure = s.sure /\ (s.scan1 i).1.clean = s.clean /\ (s.scan1 i).1.dead = s.dead := by
   unfold Lg.scan1
   split
   ·exact ⟨rfl, rfl, rfl, rfl, rfl, rfl⟩
   ·exact ⟨rfl, rfl, rfl, rfl, rfl, rfl⟩
  rw [Lg.scan]
  split
  ·have h2 := Lg.scan_fix f (s.scan1 i).1 (i + 1)
   rw [h1.1, h1.2.1, h1.2.2.1, h1.2.2.2.1, h1.2.2.2.2.1, h1.2.2.2.2.2] at h2
   exact h2
  ·exact h1
set_option maxHeartbeats 8000000 in
theorem open_log (b f sg sz : Nat) (D : Dk) (F : Nat -> Prop) (w : World) (hD : DiskAt w b F D) (hF : ∀ k, F k -> k < w.heap.size) (hDk : D.Ok) (hc : D.calls = -1) (hq : D.queue = []) (hf : f <= 1000000) (hsg : 1 <= sg /\ sg <= 256) (hsz : 2 <= sz /\ sz <= 512) (hfit : (f + sg * sz) * 128 <= D.safe.length) (hT : Tab w) (hKT : ∀ k, F k -> k ≠ 3 /\ k ≠ 2) :
  Calls Tryz.prog 78 #[.pointer (some ⟨b, 0, none⟩), .int .i64 f, .int .i64 sg, .int .i64 sz] w fun e w' => ∃ lb, e = .returned (.tuple #[.pointer (some ⟨lb, 0, none⟩), Value.nilIface]) /\ ∃ bg cB A cT C cC vs K' F', LD w' lb b f (Lg.opened sg sz (D.piece f (sg * sz))) bg cB A cT C cC vs K' (D.opened f sg sz) F' /\ Fr F w w' /\ (∀ k, k < w.heap.size -> F' k -> F k) /\ (∀ k, K' k -> w.heap.size <= k) /\ (Lg.opened sg sz (D.piece f (sg * sz))).Ok := by
 have hPb : sg * sz <= 256 * 512 := Nat.mul_le_mul hsg.2 hsz.2
 have hP2 : 2 <= sg * sz := by have := Nat.mul_le_mul hsg.1 hsz.1; omega
 obtain ⟨P, hP⟩ : ∃ P, P = sg * sz := ⟨_, rfl⟩
 rw [<- hP] at hP2
 have hpi : IntKind.i64.wrap ((sg : Int) * (sz : Int)) = (P : Int) := by
  rw [hP, show (sg : Int) * (sz : Int) = ((sg * sz : Nat) : Int) by simp]
  exact IntWalk.i64_in _ (by omega)
 have htk : D.ticked = D := by cases D; simp at hc; simp [Dk.ticked, nextCalls, hc]
 obtain ⟨X, hX⟩ : ∃ X, X = D.piece f (sg * sz) := ⟨_, rfl⟩
 have hXl : X.length = sg * sz * 128 := by
  rw [hX, Dk.piece, List.length_take, List.length_drop, hDk.image]
  rw [Nat.add_mul] at hfit
  omega
 obtain ⟨s1, hs1⟩ : ∃ s1, s1 = Lg.told sg sz X := ⟨_, rfl⟩
 have hiok := Lg.init_ok hsg hsz hXl
 have hfix := Lg.scan_fix sg (Lg.init sg sz X) 0
 rw [show (Lg.init sg sz X).scan 0 sg = s1 from hs1.symm] at hfix
 have hr := fun W hW => read_good b F D f (sg * sz) W hW hDk (by rw [hq]; exact Nat.zero_le _) (by rw [hc]; decide) hfit
 rw [<- hX, htk, <- hP] at hr
 have HR := Lh hr
 have hmk := make_bytes 32 (by omega)
 obtain ⟨Z, hZ⟩ : ∃ z : Array Value, z = (u8s (List.replicate 32 0)).toArray := ⟨_, rfl⟩
 rw [<- hZ] at hmk
 replace hmk : ∀ W : World, (Instr.makeSlice 22 (.int .i64 32) (.int .i64 32)).run Tryz.prog W = .ok (.slice (some ⟨W.heap.size, 0, none⟩) 32 32) (W.alloc (.cells Z 5)) := hmk
 have hg1 : ¬ ((sg : Int) < 1) := by omega
 have hg2 : ¬ ((256 : Int) < (sg : Int)) := by omega
 have hg3 : ¬ ((sz : Int) < 2) := by omega
 have hg4 : ¬ ((512 : Int) < (sz : Int)) := by omega
 have HM := Lh hmk
 have HA := Lh (Ai hD (Ai hF (Ai hDk (Ai hc (Ai hq (Ai hfit (Ai hT (Ai hKT (Ai hXl (Ai hiok hfix))))))))))
 have HE := Lh (Ai hP (Ai hX (Ai hZ hs1)))
 clear hmk hZ hr htk hD hF hDk hc hq hfit hT hKT hXl hiok hfix hP hX hs1 hPb
 go_enter Tryz.func78, Tryz.ntmps78
 go_wp2_with (simp only [HM.out])
 obtain ⟨w2, hw2⟩ : ∃ w2, (w.alloc (.cells Z 5)).alloc (.cells #[.pointer (some ⟨b, 0, none⟩), .int .i64 f, .int .i64 sg, .int .i64 sz, .slice none 0 0, .int .i64 0, .int .i64 0, .int .i64 0, .slice none 0 0, .slice (some ⟨w.heap.size, 0, none⟩) 32 32, .int .i64 0, .bool false, .bool false] 150) = w2 := ⟨_, rfl⟩
 have hb1 := (Below.refl w.heap.size w).alloc (Nat.le_refl _) (.cells Z 5)
 have hb2 : Below w.heap.size w w2 := hw2 ▸ hb1.alloc (by simp) _
 have top2 : Blk w2 (w.heap.size + 1) 150 (lgc b f sg sz (.slice none 0 0) 0 0 0 (.slice none 0 0) (.slice (some ⟨w.heap.size, 0, none⟩) 32 32) 0 false false) := by rw [<- hw2]; exact Blk.newAt (by simp) rfl
 have ch2 : Blk w2 w.heap.size 5 Z := by rw [<- hw2]; exact (Blk.new w 5 Z).alloc _
 rw [hw2]
 clear hw2 hb1
 have hFw := HA.out.2.1
 refine (HR.out _ (HA.out.1.below hb2)).mono ?_
 rintro e w3 ⟨v, rfl, ho, hD3, hf3⟩
 obtain ⟨gb, cb, cur, rfl, hgb, hblk, -, -, -, -⟩ := own_open ho (by omega)
 have top3 := top2.fr hf3 (fun hF => by have := hFw _ hF; omega)
 have ch3 := ch2.fr hf3 (fun hF => by have := hFw _ hF; omega)
 have c4 : w3.cell? ⟨w.heap.size + 1, 4, none⟩ = some (.slice none 0 0) := top3.cell 4
 have f4 : w3.frozen? ⟨w.heap.size + 1, 4, none⟩ = false := top3.frozen 4
 have hz2 := hb2.size
 have hz3 := hf3.size
 have H3 := Lh (Ai top3 (Ai ch3 (Ai ho (Ai hD3 (Ai hf3 hb2)))))
 have hgl := hblk.lt
 have hgl2 := ch2.lt
 have htl2 := top2.lt
 clear top2 ch2 top3 ch3 hblk ho hD3 hf3 hb2
 obtain ⟨lb, hlb⟩ : ∃ lb, w.heap.size + 1 = lb := ⟨_, rfl⟩
 rw [hlb] at c4 f4 H3 htl2 ⊢
 go_wp2_with fail
 have H4 : Hid (LgP (w3.setCell ⟨lb, 4, none⟩ (.slice (some ⟨gb, 0, none⟩) (P * 128) cb)) lb b f (Lg.init sg sz X) gb cb none 0 (some ⟨w.heap.size, 0, none⟩) 32 [] (fun k => k = lb \/ k = gb \/ k = w.heap.size) /\ Fr (fun k => k = lb) w3 (w3.setCell ⟨lb, 4, none⟩ (.slice (some ⟨gb, 0, none⟩) (P * 128) cb))) := Lh (by
  have hXP : X.length = P * 128 := by rw [HA.out.2.2.2.2.2.2.2.2.1, HE.out.1]
  have g4 : Fr (fun k => k = lb) w3 (w3.setCell ⟨lb, 4, none⟩ (.slice (some ⟨gb, 0, none⟩) (P * 128) cb)) := Fr.setCell _ _ _ rfl
  have b4 := H3.out.1.set_ 4 (.slice (some ⟨gb, 0, none⟩) (P * 128) cb)
  have hch : w3.ownsRow 0 5 1 (.slice (some ⟨w.heap.size, 0, none⟩) 32 32) 32 (u8s (zr 32)) := own_mk (Nat.zero_le _) H3.out.2.1 (Nat.le_refl _) (by unfold maxLen; omega) (by rw [HE.out.2.2.1]; simp) (by rw [HE.out.2.2.1]; simp [zr, u8s])
  refine ⟨⟨?_, ?_, World.ownsRow_nil _ _ _ _, rfl, (fun p hp => by cases hp), own_fr hch g4 (own_ne hch H3.out.1 (by decide)), ?_, (fun p hp => by cases hp), .inl rfl, .inr (.inl rfl), (fun g hg => by cases hg), (fun g hg => by injection hg with hg; exact .inr (.inr hg.symm)), (fun p hp => by cases hp)⟩, g4⟩
  ·show Blk _ lb 150 (lgc b f sg sz (.slice (some ⟨gb, 0, none⟩) X.length cb) 0 0 0 (.slice none 0 0) (.slice (some ⟨w.heap.size, 0, none⟩) 32 32) 0 false false)
   rw [hXP]
   exact b4
  ·show World.ownsRow _ 0 5 1 (.slice (some ⟨gb, 0, none⟩) X.length cb) X.length (u8s X)
   rw [hXP]
   exact own_base (own_fr H3.out.2.2.1 g4 (own_ne H3.out.2.2.1 H3.out.1 (by decide))) (Nat.zero_le _)
  ·intro e
   have e' : w.heap.size = gb := Option.some.inj e
   omega)
 clear c4 f4
 generalize w3.setCell ⟨lb, 4, none⟩ (.slice (some ⟨gb, 0, none⟩) (P * 128) cb) = w4 at *
 have hz4 := H4.out.2.size
 have hrl := HA.out.2.2.2.2.2.2.1.lt
 have hsl := HA.out.2.2.2.2.2.2.1.hlt
 have HT4 := Lh (((HA.out.2.2.2.2.2.2.1.below H3.out.2.2.2.2.2).fr H3.out.2.2.2.2.1 HA.out.2.2.2.2.2.2.2.1).fr H4.out.2 (fun k hk => by rw [hk]; omega))
 have hmn : ([] : List (List UInt8)).length + sg * (sz * 128) <= 100000000 := by
  have := Nat.mul_le_mul hsg.2 (show sz * 128 <= 65536 by omega)
  simp only [List.length_nil]
  omega
 have HSC := Lh (scan_any lb b f (Lg.init sg sz X) gb cb none 0 (some ⟨w.heap.size, 0, none⟩) 32 [] _ w4 H4.out.1 HA.out.2.2.2.2.2.2.2.2.2.1 hmn HT4.out (fun k hk => by rcases hk with rfl | rfl | rfl <;> omega))
 refine HSC.out.mono ?_
 rintro e w5 ⟨rfl, ok5, f5, A5, cT5, C5, cC5, vs5, l5⟩
 rw [show (Lg.init sg sz X).scan 0 (Lg.init sg sz X).segs = s1 from HE.out.2.2.2.symm] at ok5 l5
 have hz5 := f5.size
 have LD5 : LD w5 lb b f s1 gb cb A5 cT5 C5 cC5 vs5 (fun k => (((k = lb \/ k = gb \/ k = w.heap.size) \/ w4.heap.size <= k) /\ k < w5.heap.size)) D F := by
  refine ⟨l5.restrict, ?_, ?_, fun k hk => by have := hFw k hk; omega, fun k hk => hk.2⟩
  ·refine (H3.out.2.2.2.1.fr H4.out.2 (fun k hk e => by have := hFw k hk; omega)).fr f5 (fun k hk e => ?_)
   have := hFw k hk
   rcases e with e | e | e <;> omega
  ·intro k hk e
   have := hFw k hk
   rcases e.1 with (e | e | e) | e <;> omega
 obtain ⟨K5, hK5⟩ : ∃ K5 : Nat -> Prop, K5 = (fun k => (((k = lb \/ k = gb \/ k = w.heap.size) \/ w4.heap.size <= k) /\ k < w5.heap.size)) := ⟨_, rfl⟩
 rw [<- hK5] at LD5
 have hK5l : ∀ k, K5 k -> w.heap.size <= k := fun k hk => by
  rw [hK5] at hk
  rcases hk.1 with (e | e | e) | e <;> omega
 have hfx := HA.out.2.2.2.2.2.2.2.2.2.2
 have HTR := Lh (trim_any LD5 ok5 HA.out.2.2.1 HA.out.2.2.2.1 HA.out.2.2.2.2.1 hf (by rw [hfx.1, hfx.2.1]; exact HA.out.2.2.2.2.2.1))
 have HF5 : Hid (Fr F w w5) := Lh (by
  have q1 : Fr F w w2 := Fr.of_below H3.out.2.2.2.2.2 F
  have q2 : Fr F w w3 := q1.trans H3.out.2.2.2.2.1 (fun _ _ h => h)
  have q3 : Fr F w w4 := q2.trans H4.out.2 (fun k hk e => by omega)
  exact q3.trans f5 (fun k hk e => by rcases e with e | e | e <;> omega))
 have HOK := Lh (Ai ok5 (Ai hK5l hz5))
 clear ok5 f5 l5 LD5 hK5 hK5l HSC hz5
 go_wp2_with fail
 refine HTR.out.mono ?_
 rintro e w6 ⟨rfl, F6, l6, f6, s6⟩
 have H6 := Lh (Ai l6 (Ai f6 s6))
 clear l6 f6 s6 HTR
 go_wp2_with fail
 obtain ⟨T, hT⟩ : ∃ T, T = s1.texts.length := ⟨_, rfl⟩
 obtain ⟨E, hE⟩ : ∃ E, E = s1.end_ := ⟨_, rfl⟩
 have HEN := Lh (fun W (hW : LgP W lb b f s1.cut gb cb A5 cT5 C5 cC5 vs5 K5) => hE ▸ end_log hW HOK.out.1.cut)
 have HTE := Lh (Ai hT hE)
 clear hT hE
 have H6d := Lh (H6.out.1.below (Below.refl _ _).drew)
 refine region_free [0, 1, 2, 7] [(3, true), (4, true), (5, true), (6, true), (8, false), (9, true), (10, true), (11, false), (12, false), (13, false), (14, false)] [8] 256 [(2361183241434822606848, 1024, 0, 0), (4722366482869645213696, 1024, 0, 0), (9444732965739290427392, 1024, 0, 0), (18889465931478580854784, 9444732965739290427392, 4, 4), (37778931862957161709568, 18889465931478580854784, 8, 12), (75557863725914323419136, 37778931862957161709568, 16, 28), (151115727451828646838272, 75557863725914323419136, 32, 60), (302231454903657293676544, 1024, 0, 0), (604462909807314587353088, 302231454903657293676544, 128, 128), (1208925819614629174706176, 2361183241434822606848, 381, 509), (2417851639229258349412352, 1208925819614629174706176, 893, 1021), (0, 2568967366681086996250624, 1405, 2045), (4835703278458516698824704, 4722366482869645213696, 4095, 4095), (9671406556917033397649408, 4835703278458516698824704, 8191, 8191), (0, 10275869466724347985002496, 12287, 16383)] (fun W => LgP W lb b f s1.cut gb cb A5 cT5 C5 cC5 vs5 K5 /\ Below w6.heap.size w6 W) (by kernel_rfl) (by kernel_rfl) (by kernel_rfl) rfl (by kernel_rfl) (by kernel_rfl) ⟨H6d.out.log, (Below.refl _ _).drew⟩ (fun hS => ?_)
 repeat (refine free_read (v := ?_) rfl (fun _ _ _ h => h) rfl ?_ ?_; rotate_left 1; (focus (intro w'; go_simp; try rfl)); (simp only [Act.put, pu1]; dsimp only [pu2, pu3]))
 refine free_nil ?_
 intro _
 repeat (first
  | (refine plan_read (v := ?_) rfl (fun _ _ _ h => h) rfl hS ?_ ?_; rotate_left 1; (focus (intro w' hS'; have e8 : w'.cell? ⟨lb, 8, none⟩ = some (.slice A5 T cT5) := (by rw [HTE.out.1]; exact hS'.1.top.cell 8); go_simp; try rfl)); (simp only [Act.put, pu1]; dsimp only [pu2, pu3]))
  | (refine plan_skip rfl (fun _ _ _ h => h) rfl hS ?_; (simp only [Act.put, pu1]; dsimp only [pu2, pu3])))
 refine plan_do (by rfl) (by rfl) (fun K hK => ?_)
 go_simp
 refine (HEN.out _ hS.1).mono ?_
 rintro e w7 ⟨rfl, bel7⟩
 refine hK.out _ _ (fun _ => ⟨hS.1.below bel7, hS.2.trans (bel7.mono hS.2.size)⟩) (fun hS => ?_); clear hK K; replace hS := hS rfl; try (simp only [Act.put, pu1]; dsimp only [pu2, pu3])
 repeat (first
  | (refine plan_read (v := ?_) rfl (fun _ _ _ h => h) rfl hS ?_ ?_; rotate_left 1; (focus (intro w' hS'; go_simp; try rfl)); (simp only [Act.put, pu1]; dsimp only [pu2, pu3]))
  | (refine plan_skip rfl (fun _ _ _ h => h) rfl hS ?_; (simp only [Act.put, pu1]; dsimp only [pu2, pu3])))
 have b5 := hS.1.top
 have c10 : w7.cell? ⟨lb, 10, none⟩ = some (.int .i64 s1.cut.sure) := b5.cell 10
 have f10 : w7.frozen? ⟨lb, 10, none⟩ = false := b5.frozen 10
 have H7 := Lh hS
 refine plan_do (by rfl) (by rfl) (fun K hK => ?_)
 go_simp
 refine hK.out _ _ (fun h => by cases h) (fun _ => ?_); clear hK K; try (simp only [Act.put, pu1]; dsimp only [pu2, pu3])
 have b6 := b5.set_ 10 (.int .i64 T)
 have g6 : Fr (fun k => k = lb) w7 _ := Fr.setCell w7 ⟨lb, 10, none⟩ (.int .i64 T) rfl
 clear b5 hS
 refine plan_do (by rfl) (by rfl) (fun K hK => ?_)
 go_simp
 refine hK.out _ _ (fun h => by cases h) (fun _ => ?_); clear hK K; try (simp only [Act.put, pu1]; dsimp only [pu2, pu3])
 refine plan_do (by rfl) (by rfl) (fun K hK => ?_)
 go_simp
 refine hK.out _ _ (fun h => by cases h) (fun _ => ?_); clear hK K; try (simp only [Act.put, pu1]; dsimp only [pu2, pu3])
 have c7 : (w7.setCell ⟨lb, 10, none⟩ (.int .i64 T)).cell? ⟨lb, 7, none⟩ = some (.int .i64 s1.cut.clean) := b6.cell 7
 have f7 : (w7.setCell ⟨lb, 10, none⟩ (.int .i64 T)).frozen? ⟨lb, 7, none⟩ = false := b6.frozen 7
 refine plan_do (by rfl) (by rfl) (fun K hK => ?_)
 go_simp
 refine hK.out _ _ (fun h => by cases h) (fun _ => ?_); clear hK K; try (simp only [Act.put, pu1]; dsimp only [pu2, pu3])
 refine plan_nil ?_
 have b7 := b6.set_ 7 (.int .i64 E)
 have g7 : Fr (fun k => k = lb) w7 _ := g6.trans (Fr.setCell (F := fun k => k = lb) _ ⟨lb, 7, none⟩ (.int .i64 E) rfl) (fun _ _ h => h)
 go_wp2_with fail
 go_ret2
 have k3 := H6.out.2.1.size
 have k4 := H7.out.2.size
 have hz5 := HOK.out.2.2
 have hopn : Lg.opened sg sz (D.piece f (sg * sz)) = s1.cut.flushed := by unfold Lg.opened; rw [<- HE.out.2.1, <- HE.out.2.2.2]
 have hdk : D.opened f sg sz = D.cut f (s1.end_ / 128) (s1.segs * s1.size) s1.cut.B := by unfold Dk.opened; rw [<- HE.out.2.1, <- HE.out.2.2.2, hfx.1, hfx.2.1]; rfl
 refine ⟨lb, rfl, gb, cb, A5, cT5, C5, cC5, vs5, K5, F6, ⟨?_, ?_, H6.out.1.apart, fun k hk => ?_, fun k hk => ?_⟩, ?_, fun k hk hF => H6.out.2.2 k (by omega) hF, HOK.out.2.1, hopn ▸ HOK.out.1.cut.flushed⟩
 ·rw [hopn]
  refine H7.out.1.own (s' := s1.cut.flushed) rfl rfl rfl ?_ g7
  rw [show s1.cut.flushed.sure = T from HTE.out.1.symm, show s1.cut.flushed.clean = E from HTE.out.2.symm]
  exact b7
 ·rw [hdk]
  exact ((H6.out.1.disk.fr (Fr.of_below H7.out.2 (fun _ => False)) (fun _ _ h => h)).fr g7 (fun k hk e => H6.out.1.apart k hk (e ▸ H6.out.1.log.kl)))
 ·exact Nat.lt_of_lt_of_le (H6.out.1.flt k hk) (Nat.le_trans k4 g7.size)
 ·exact Nat.lt_of_lt_of_le (H6.out.1.klt k hk) (Nat.le_trans k4 g7.size)
 ·have q1 : Fr F w w6 := HF5.out.trans H6.out.2.1 (fun k hk e => by
   rcases e with e | e
   ·exact e
   ·have := HOK.out.2.1 k e; omega)
  exact (q1.trans (Fr.of_below H7.out.2 F) (fun _ _ h => h)).trans g7 (fun k hk e => by omega)
end Go.Proofs.YtkgaeoeibjoljaaGreatDoor
