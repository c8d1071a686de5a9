/-
  The eye: U64; octets passed by.
  Results: a row of cells and a value.
  A sector's key, by the code.
  The disk, as plain data: what it has, what waits, and what its calls do. No program in sight.
  The disk's small functions: part, Clone, there, call, Size, Waiting, New.
  The disk in memory; Image.
-/
import Derived.Test.YtkgaeoeibjoljaaGreatDoorGB
import Derived.Test.YtkgaeoeibjoljaaGreatDoorProg
import Derived.ProofKit
import Derived.Laws.ResultCell
import Derived.Laws.Rows
import Derived.Test.YtkgaeoeibjoljaaGreatDoorGA
import Derived.BigQuiet
import Derived.Handy
import Derived.Deep.RegionHeld3
namespace Go.Proofs.YtkgaeoeibjoljaaGreatDoor
section
set_option maxRecDepth 4000
open Go.RowKit
theorem Eye.keep {w w' : World} {base p err : Nat} {l : List UInt8} (h : Eye w base p l err) (hb : Below w.heap.size w w') : Eye w' base p l err := by
 obtain ⟨h1, A, c, h2, h3, h4⟩ := h
 exact ⟨h1, A, c, h2.below hb h2.lt, h3.below hb, h4⟩
theorem e64_any (base p err : Nat) (l : List UInt8) (w : World) (hE : Eye w base p l err) (he : err <= 1000) (hl : l.length <= 1000000000) :
  Calls Tryz.prog 42 #[.pointer (some ⟨p, 0, none⟩)] w fun e w' => e = .returned (.int .u64 (eyeN l err 8 : Nat)) /\ Eye w' base p (eyeL l err 8) (eyeE l err 8) /\ Below base w w' := by
 have HN := Lh (enum_any base p 8 err l w hE he (by omega) hl)
 clear hE
 go_enter Tryz.func42, Tryz.ntmps42
 go_wp2_with fail
 refine HN.out.mono ?_
 rintro e w1 ⟨rfl, h1, h2⟩
 go_wp2_with fail
 go_ret
 exact ⟨rfl, h1, h2⟩
theorem pass_any (base p k : Nat) (l : List UInt8) (w : World) (hE : Eye w base p l 0) (h0 : 0 < k) (hk : k <= 1000) (hl : l.length <= 1000000000) (hb : base <= w.heap.size) :
  Calls Tryz.prog 41 #[.pointer (some ⟨p, 0, none⟩), .int .i64 k] w fun e w' => (∃ v, e = .returned v) /\ Eye w' base p (eyeL l 0 k) (eyeE l 0 k) /\ Below base w w' := by
 by_cases hkl : k <= l.length
 ·have e2 : eyeL l 0 k = l.drop k := if_pos ⟨rfl, hkl⟩
  have e3 : eyeE l 0 k = 0 := if_neg (by omega)
  rw [e2, e3]
  have HX := Lh (next_ok base p k l w hE hkl hl)
  clear hE
  go_enter Tryz.func41, Tryz.ntmps41
  go_wp2_with fail
  refine HX.out.mono ?_
  rintro e w1 ⟨A, c, rfl, hS, hE1, hb1⟩
  obtain ⟨g, off, rfl, -⟩ := hS.2 (by omega)
  have HC := Lh (clone_any _ k c _ w1 hS (u8s_one _) (by omega))
  have HE := Lh hE1; have HB := Lh hb1; clear hE1 hb1 hS
  go_wp2_with fail
  refine HC.out.mono ?_
  rintro e w2 ⟨v, rfl, -, hb2⟩
  have hs := HB.out.size
  have HE2 := Lh (HE.out.keep hb2); have HB2 := Lh (HB.out.trans (hb2.mono (by omega)))
  go_wp2_with fail
  go_ret
  exact ⟨⟨_, rfl⟩, HE2.out, HB2.out⟩
 ·have e2 : eyeL l 0 k = l := if_neg (by omega)
  have e3 : eyeE l 0 k = 10 := if_pos (by omega)
  rw [e2, e3]
  have HX := Lh (next_short base p k l w hE (by omega) hk)
  clear hE
  go_enter Tryz.func41, Tryz.ntmps41
  go_wp2_with fail
  refine HX.out.mono ?_
  rintro e w1 ⟨rfl, hE1, hb1⟩
  have HC := Lh (clone_nil 0 0 w1)
  have HE := Lh hE1; have HB := Lh hb1; clear hE1 hb1
  go_wp2_with fail
  refine HC.out.mono ?_
  rintro e w2 ⟨rfl, rfl⟩
  go_wp2_with fail
  go_ret
  exact ⟨⟨_, rfl⟩, HE.out, HB.out⟩
end
section
set_option maxRecDepth 4000
open Go.RowKit
theorem results_row_tmp {P : Program} {fn : Func} {p u : Tmp} {ty : TypeId} (h : fn.results = #[.cell p ty, .tmp u]) (tmps : Array Value) (w : World) (g : Nat) (t : TypeId) (cs : Array Value) (fr : Nat × Nat) (d : TypeDesc)
  (hp : tmps.getD p undef = .pointer (some ⟨g, 0, none⟩)) (hg : w.heap[g]? = some (.cells cs t fr))
  (hu : P.underlying ty = some d) (hd : (match d with | .struct _ | .array _ _ => true | _ => false) = true) (hi : (P.info? ty).map (·.size) = some cs.size) :
  (results fn tmps).run P w = .ok (.tuple #[.agg cs, tmps.getD u undef]) w := by
 rw [results_cell_tmp h, hp]
 simp [asAddr, run_loadVar_row w g t ty cs fr d hg hu hd hi]
end
section
set_option maxRecDepth 4000
open Go.RowKit
theorem raw_eye (base p k : Nat) (l : List UInt8) (w : World) (hE : Eye w base p l 0) (h0 : 0 < k) (hkl : k <= l.length) (hk : k <= 1000) (hl : l.length <= 1000000000) (hb : base <= w.heap.size) :
  Calls Tryz.prog 41 #[.pointer (some ⟨p, 0, none⟩), .int .i64 k] w fun e w' => (∃ v, e = .returned v /\ w'.ownsRow base 5 1 v k (u8s (l.take k))) /\ Eye w' base p (l.drop k) 0 /\ Below base w w' := by
 have HX := Lh (next_ok base p k l w hE hkl hl)
 clear hE
 go_enter Tryz.func41, Tryz.ntmps41
 go_wp2_with fail
 refine HX.out.mono ?_
 rintro e w1 ⟨A, c, rfl, hS, hE1, hb1⟩
 obtain ⟨g, off, rfl, -⟩ := hS.2 (by omega)
 have HC := Lh (clone_any _ k c _ w1 hS (u8s_one _) (by omega))
 have HE := Lh hE1; have HB := Lh hb1; clear hE1 hb1 hS
 go_wp2_with fail
 refine HC.out.mono ?_
 rintro e w2 ⟨v, rfl, hown, hb2⟩
 have hs := HB.out.size
 have HE2 := Lh (HE.out.keep hb2); have HB2 := Lh (HB.out.trans (hb2.mono (by omega)))
 have HO := Lh (own_base hown (base' := base) (by omega))
 clear hown hb2
 go_wp2_with fail
 go_ret
 exact ⟨⟨_, rfl, HO.out⟩, HE2.out, HB2.out⟩
def kbuck (l : List UInt8) : Int := wrap64 (vl ((l.drop 4).take 8) : Nat)
def kkey (l : List UInt8) : List UInt8 := (l.drop 12).take 32
def kIs (l : List UInt8) : Prop := 0 <= kbuck l /\ kbuck l <= 1099511627776 /\ keyo (kbuck l).toNat (kkey l) = l
instance (l : List UInt8) : Decidable (kIs l) := by unfold kIs; infer_instance
def ReadTo (w : World) (base : Nat) (l : List UInt8) (x : Value) : Prop :=
 (¬ kIs l /\ x = .agg #[.bool false, .int .i64 0, .slice none 0 0]) \/ ∃ v, kIs l /\ x = .agg #[.bool true, .int .i64 (kbuck l), v] /\ w.ownsRow base 5 1 v 32 (u8s (kkey l))
set_option maxHeartbeats 1000000 in
theorem read_any (l : List UInt8) (ad : Addr) (c : Nat) (w : World) (hl : l.length = 128) (hS : Sees w 1 (some ad) 128 (u8s l)) :
  Calls Tryz.prog 152 #[.slice (some ad) 128 c] w fun e w' => ∃ x, e = .returned x /\ ReadTo w' w.heap.size l x /\ Below w.heap.size w w' := by
 have hal : Below w.heap.size w (w.alloc (.cells #[.bool false, .int .i64 0, .slice none 0 0] 160)) := (Below.refl _ _).alloc (Nat.le_refl _) _
 have HZ := Lh (Blk.new w 160 #[.bool false, .int .i64 0, .slice none 0 0])
 have HX := Lh (open_any l ad 128 c _ (hS.below hal) hl (by omega))
 have HS := Lh hS
 have HA := Lh hal
 have HL := Lh hl
 have HSZ := Lh (show (Tryz.prog.info? 160).map (·.size) = some 3 by kernel_rfl)
 clear hal hS
 have hv8 := vl_lt ((l.drop 4).take 8)
 have hp8 : 256 ^ ((l.drop 4).take 8).length <= 256 ^ 8 := Nat.pow_le_pow_right (by omega) (by rw [List.length_take]; omega)
 go_enter Tryz.func152, Tryz.ntmps152
 go_wp2_with fail
 refine HX.out.mono ?_
 rintro e w1 ⟨p, rfl, hE1, hb1⟩
 have HQ := Lh (raw_eye _ p 4 l w1 hE1 (by omega) (by omega) (by omega) (by omega) (by have := hb1.size; omega))
 have HB1 := Lh hb1
 clear hE1 hb1 HX
 go_wp2_with fail
 refine HQ.out.mono ?_
 rintro e w2 ⟨⟨v2, rfl, -⟩, hE2, hb2⟩
 have hq2 := e64_any _ p 0 (l.drop 4) w2 hE2 (by omega) (by rw [List.length_drop]; omega)
 have e1 : eyeN (l.drop 4) 0 8 = vl ((l.drop 4).take 8) := if_pos ⟨rfl, by rw [List.length_drop]; omega⟩
 have e2 : eyeL (l.drop 4) 0 8 = l.drop 12 := by rw [eyeL, if_pos ⟨rfl, by rw [List.length_drop]; omega⟩, List.drop_drop]
 have e3 : eyeE (l.drop 4) 0 8 = 0 := if_neg (by rw [List.length_drop]; omega)
 rw [e1, e2, e3] at hq2
 have HQ2 := Lh hq2
 have HB2 := Lh (HB1.out.trans hb2)
 obtain ⟨f, hf⟩ : ∃ f, f = vl ((l.drop 4).take 8) := ⟨_, rfl⟩
 have HK := Lh (show kbuck l = wrap64 (f : Int) by rw [hf]; rfl)
 rw [<- hf] at HQ2
 clear hE2 hb2 hq2 e1 e2 e3 HQ HB1 hf hv8 hp8
 go_wp2_with fail
 refine HQ2.out.mono ?_
 rintro e w3 ⟨rfl, hE3, hb3⟩
 have HB3 := Lh (HB2.out.trans hb3)
 have HQ3 := Lh (raw_eye _ p 32 (l.drop 12) w3 hE3 (by omega) (by rw [List.length_drop]; omega) (by omega) (by rw [List.length_drop]; omega) (by have := HB3.out.size; simp at this ⊢; omega))
 clear hE3 hb3 HQ2 HB2
 go_wp2_with fail
 refine HQ3.out.mono ?_
 rintro e w4 ⟨⟨v4, rfl, hown4⟩, -, hb4⟩
 obtain ⟨A4, c4, rfl⟩ := own_shape hown4
 have HR := Lh (kright_any (wrap64 (f : Int)) A4 32 c4 w4)
 have HO4 := Lh hown4
 have HB4 := Lh (HB3.out.trans hb4)
 have hba := HA.out.trans (HB4.out.mono (by simp))
 have HZ4 := Lh (HZ.out.below (HB4.out) (by simp))
 have HBA := Lh hba
 clear hown4 hb4 hba HQ3 HB3 HB4 HZ
 obtain ⟨x, hx⟩ : ∃ x, x = wrap64 (f : Int) := ⟨_, rfl⟩
 rw [<- hx] at HR HK ⊢
 have hbz : Below w4.heap.size w4 w4 := Below.refl _ _
 by_cases hr : keyRight x 32
 ·obtain ⟨n, rfl⟩ : ∃ n : Nat, x = n := ⟨x.toNat, by have := hr.1; omega⟩
  rw [decide_eq_true hr] at HR
  have hn := hr.2.1
  have hkl : ((l.drop 12).take 32).length = 32 := by rw [List.length_take, List.length_drop]; omega
  have HOC := Lh (koctets_any n ((l.drop 12).take 32) A4 c4 w4 (by omega) hkl (Sees.of_own HO4.out))
  have HKI := Lh (show keyo n ((l.drop 12).take 32) = l ↔ kIs l by
   unfold kIs
   rw [HK.out, Int.toNat_natCast]
   exact ⟨fun h => ⟨by omega, by omega, h⟩, fun h => h.2.2⟩)
  clear hx hn hr hkl hbz
  go_wp2_with fail
  refine HR.out.mono ?_
  rintro e w5 ⟨rfl, rfl⟩
  go_wp2_with fail
  refine HOC.out.mono ?_
  rintro e w6 ⟨v6, rfl, hown6, hb6⟩
  obtain ⟨A6, c6, rfl⟩ := own_shape hown6
  have HE := Lh (equal_any _ l A6 (some ad) 128 c6 128 c w6 (Sees.of_own hown6) (HS.out.below (HBA.out.trans (hb6.mono HBA.out.size))))
  have HB6 := Lh (HBA.out.trans (hb6.mono HBA.out.size))
  have HZ6 := Lh (HZ4.out.below hb6 HZ4.out.lt)
  have HO6 := Lh (own_below HO4.out hb6)
  clear hown6 hb6 HOC HR HZ4 HO4 HBA
  by_cases hk : kIs l
  ·rw [decide_eq_true (HKI.out.2 hk)] at HE
   have HKK := Lh hk; clear hk
   go_wp2_with fail
   refine HE.out.mono ?_
   rintro e w7 ⟨rfl, rfl⟩
   go_wp2_with (refine wpList_store_row rfl 160 (.tmp 2) (.tmp 30) rfl w.heap.size _ rfl rfl 160 _ HZ6.out (by exact HSZ.out) (Eq.refl 3) (by simp [Value.oneCell']) ?_)
   refine bodyPost_ret (results_cell_row rfl _ _ w.heap.size 160 _ (0, 0) _ rfl (HZ6.out.setRow _) Tryz.underlying160 rfl (by exact HSZ.out)) rfl ⟨_, rfl, ?_, below_setRow HB6.out (Nat.le_refl _) _⟩
   refine .inr ⟨_, HKK.out, by rw [HK.out], ?_⟩
   exact own_fr (own_base HO6.out (by simp)) (Fr.setRow (F := (· = w.heap.size)) _ w.heap.size _ rfl) (own_ne HO6.out HZ6.out (by decide))
  ·rw [decide_eq_false (fun h => hk (HKI.out.1 h))] at HE
   have HKK := Lh hk; clear hk
   go_wp2_with fail
   refine HE.out.mono ?_
   rintro e w7 ⟨rfl, rfl⟩
   go_wp2_with (refine wpList_store_row rfl 160 (.tmp 2) (.tmp 27) rfl w.heap.size _ rfl rfl 160 _ HZ6.out (by exact HSZ.out) (Eq.refl 3) (by simp [Value.oneCell']) ?_)
   refine bodyPost_ret (results_cell_row rfl _ _ w.heap.size 160 _ (0, 0) _ rfl (HZ6.out.setRow _) Tryz.underlying160 rfl (by exact HSZ.out)) rfl ⟨_, rfl, ?_, below_setRow HB6.out (Nat.le_refl _) _⟩
   exact .inl ⟨HKK.out, rfl⟩
 ·rw [decide_eq_false hr] at HR
  have HKK : Hid (¬ kIs l) := Lh (fun h => hr ⟨by rw [<- HK.out]; exact h.1, by rw [<- HK.out]; exact h.2.1, rfl⟩)
  clear hx hr hbz
  go_wp2_with fail
  refine HR.out.mono ?_
  rintro e w5 ⟨rfl, rfl⟩
  go_wp2_with (refine wpList_store_row rfl 160 (.tmp 2) (.tmp 27) rfl w.heap.size _ rfl rfl 160 _ HZ4.out (by exact HSZ.out) (Eq.refl 3) (by simp [Value.oneCell']) ?_)
  refine bodyPost_ret (results_cell_row rfl _ _ w.heap.size 160 _ (0, 0) _ rfl (HZ4.out.setRow _) Tryz.underlying160 rfl (by exact HSZ.out)) rfl ⟨_, rfl, ?_, below_setRow HBA.out (Nat.le_refl _) _⟩
  exact .inl ⟨HKK.out, rfl⟩
end
section
set_option maxRecDepth 4000
structure Dk where
 safe : List UInt8
 queue : List (Nat × List UInt8)
 calls : Int
def put (s : List UInt8) (q : Nat × List UInt8) : List UInt8 := splice s (q.1 * 128) q.2
def puts (s : List UInt8) (q : List (Nat × List UInt8)) : List UInt8 := q.foldl put s
def Dk.image (d : Dk) : List UInt8 := puts d.safe d.queue
structure Dk.Ok (d : Dk) : Prop where
 whole : 128 ∣ d.safe.length
 pos : 128 <= d.safe.length
 most : d.safe.length <= 8388608
 fits : ∀ q ∈ d.queue, q.2.length = 128 /\ (q.1 + 1) * 128 <= d.safe.length
 lo : -9223372036854775808 <= d.calls
 hi : d.calls <= 9223372036854775807
theorem length_put (s : List UInt8) (q : Nat × List UInt8) (h : q.2.length = 128) (h2 : (q.1 + 1) * 128 <= s.length) : (put s q).length = s.length :=
 length_splice _ _ _ (by omega)
theorem length_puts (s : List UInt8) (l : List (Nat × List UInt8)) (h : ∀ q ∈ l, q.2.length = 128 /\ (q.1 + 1) * 128 <= s.length) : (puts s l).length = s.length := by
 induction l generalizing s with
 | nil => rfl
 | cons q l ih =>
  have h1 := h q (by simp)
  have hl := length_put s q h1.1 h1.2
  show (puts (put s q) l).length = _
  rw [ih (put s q) (fun q' hq' => by rw [hl]; exact h q' (by simp [hq'])), hl]
theorem puts_snoc (s : List UInt8) (l : List (Nat × List UInt8)) (q : Nat × List UInt8) : puts s (l ++ [q]) = put (puts s l) q := by simp [puts]
theorem Dk.Ok.image {d : Dk} (h : Dk.Ok d) : d.image.length = d.safe.length := length_puts _ _ h.fits
def sect (l : List UInt8) (i : Nat) : List UInt8 := (l.drop (i * 128)).take 128
def parts (at_ : Nat) (l : List UInt8) (n : Nat) : List (Nat × List UInt8) := (List.range n).map fun i => (at_ + i, sect l i)
theorem parts_zero (at_ : Nat) (l : List UInt8) : parts at_ l 0 = [] := rfl
theorem parts_succ (at_ : Nat) (l : List UInt8) (n : Nat) : parts at_ l (n + 1) = parts at_ l n ++ [(at_ + n, sect l n)] := by simp [parts, List.range_succ]
theorem length_sect (l : List UInt8) (i : Nat) (h : (i + 1) * 128 <= l.length) : (sect l i).length = 128 := by simp [sect]; omega
def thereB (at_ n size : Int) : Bool := decide (0 <= at_ /\ 0 <= n /\ at_ <= size /\ n <= size - at_)
def nextCalls (k : Int) : Int := if 0 < k then k - 1 else k
def Dk.size (d : Dk) : Nat := d.safe.length / 128
def thereN (at_ : Int) (n size : Nat) : Bool := thereB at_ n size
def Dk.writeE (d : Dk) (at_ : Int) (l : List UInt8) : Int :=
 if l.length % 128 ≠ 0 then 2 else if thereN at_ (l.length / 128) d.size = false then 20 else if d.calls = 0 then 22 else 0
def Dk.push (d : Dk) (at_ : Nat) (l : List UInt8) (n : Nat) : Dk := { d with queue := d.queue ++ parts at_ l n, calls := nextCalls d.calls }
theorem nextCalls_in (k : Int) (h : -9223372036854775808 <= k) (h2 : k <= 9223372036854775807) : -9223372036854775808 <= nextCalls k /\ nextCalls k <= 9223372036854775807 := by
 unfold nextCalls; split <;> omega
theorem Dk.Ok.push {d : Dk} (h : d.Ok) (at_ : Nat) (l : List UInt8) (n : Nat) (hl : n * 128 <= l.length) (hs : (at_ + n) * 128 <= d.safe.length) : (d.push at_ l n).Ok := by
 refine ⟨h.whole, h.pos, h.most, ?_, (nextCalls_in _ h.lo h.hi).1, (nextCalls_in _ h.lo h.hi).2⟩
 intro q hq
 rcases List.mem_append.1 hq with hq | hq
 ·exact h.fits q hq
 ·obtain ⟨i, hi, rfl⟩ := List.mem_map.1 hq
  have := List.mem_range.1 hi
  exact ⟨length_sect l i (by omega), show (at_ + i + 1) * 128 <= d.safe.length by omega⟩
end
section
set_option maxRecDepth 4000
open Go.RowKit
theorem size_any (b : Nat) (s : Option Addr) (n c : Nat) (w : World) (hn : n <= maxLen) (h0 : w.cell? ⟨b, 0, none⟩ = some (.slice s n c)) :
  Calls Tryz.prog 30 #[.pointer (some ⟨b, 0, none⟩)] w fun e w' => e = .returned (.int .i64 ((n / 128 : Nat) : Int)) /\ w = w' := by
 unfold maxLen at hn
 go_enter Tryz.func30, Tryz.ntmps30
 go_wp2
 go_ret
 exact ⟨rfl, rfl⟩
theorem there_any (b : Nat) (at_ k : Int) (s : Option Addr) (n c : Nat) (w : World) (hn : n <= maxLen) (h0 : w.cell? ⟨b, 0, none⟩ = some (.slice s n c)) :
  Calls Tryz.prog 138 #[.pointer (some ⟨b, 0, none⟩), .int .i64 at_, .int .i64 k] w fun e w' => e = .returned (.bool (thereB at_ k (n / 128 : Nat))) /\ w = w' := by
 have hn' := hn
 unfold maxLen at hn
 by_cases h1 : 0 <= at_
 ·by_cases h2 : 0 <= k
  ·by_cases h3 : at_ <= (n / 128 : Nat)
   ·go_enter Tryz.func138, Tryz.ntmps138
    go_wp2_with (go_at_call 30; refine (size_any _ _ _ _ _ hn' h0).mono ?_; rintro e w' ⟨rfl, rfl⟩)
    go_ret
    refine ⟨?_, rfl⟩
    exact ret_bool (bool_iff (by show decide (k <= (n : Int) / 128 - at_) = true ↔ _; rw [thereB, decide_eq_true_eq, decide_eq_true_eq]; omega))
   ·go_enter Tryz.func138, Tryz.ntmps138
    go_wp2_with (go_at_call 30; refine (size_any _ _ _ _ _ hn' h0).mono ?_; rintro e w' ⟨rfl, rfl⟩)
    go_ret
    refine ⟨?_, rfl⟩
    exact ret_bool (by simp [thereB]; omega)
  ·go_enter Tryz.func138, Tryz.ntmps138
   go_wp2_with fail
   go_ret
   refine ⟨?_, rfl⟩
   exact ret_bool (by simp [thereB]; omega)
 ·go_enter Tryz.func138, Tryz.ntmps138
  go_wp2_with fail
  go_ret
  refine ⟨?_, rfl⟩
  exact ret_bool (by simp [thereB]; omega)
theorem call_any (b : Nat) (k : Int) (cs : Value × Value) (w : World) (h0 : Blk w b 104 #[cs.1, cs.2, .int .i64 k]) (hk2 : k <= 9223372036854775807) :
  Calls Tryz.prog 139 #[.pointer (some ⟨b, 0, none⟩)] w fun e w' => e = .returned (.bool (decide (k ≠ 0))) /\ Blk w' b 104 #[cs.1, cs.2, .int .i64 (nextCalls k)] /\ Fr (· = b) w w' /\ w'.heap.size = w.heap.size := by
 have c2 : w.cell? ⟨b, 2, none⟩ = some (.int .i64 k) := h0.cell 2
 have f2 := h0.frozen 2
 have H := Lh h0
 clear h0
 by_cases hk : 0 < k
 ·go_enter Tryz.func139, Tryz.ntmps139
  go_wp2
  go_ret
  refine ⟨?_, ?_, Fr.setCell _ _ _ rfl, by simp [World.setCell]⟩
  ·exact ret_bool (by simp; omega)
  ·have := H.out.set_ 2 (.int .i64 (k - 1))
   simp only [nextCalls, if_pos hk]
   exact this
 ·go_enter Tryz.func139, Tryz.ntmps139
  go_wp2
  go_ret
  refine ⟨?_, ?_, Fr.refl _ _, rfl⟩
  ·exact ret_bool (bool_iff (by show decide (k < 0) = true ↔ _; simp; omega))
  ·have hn : ¬ 0 < k := by omega
   simp only [nextCalls, if_neg hn]
   exact H.out
theorem part_any (g off n c : Nat) (k : Int) (w : World) (hn : n <= c) (hc : c <= maxLen) (h0 : 0 <= k) (hk : (k + 1) * 128 <= n) :
  Calls Tryz.prog 99 #[.slice (some ⟨g, off, none⟩) n c, .int .i64 k] w fun e w' => (∃ c', 128 <= c' /\ c' <= maxLen /\ e = .returned (.slice (some ⟨g, off + k.toNat * 128, none⟩) 128 c')) /\ w = w' := by
 unfold maxLen at hc
 obtain ⟨k, rfl⟩ := Int.eq_ofNat_of_zero_le h0
 go_enter Tryz.func99, Tryz.ntmps99
 go_wp2
 go_ret
 refine ⟨⟨c - k * 128, by omega, by unfold maxLen; omega, ret_val ?_⟩, rfl⟩
 show Value.slice _ _ _ = _
 rw [show (k + 1) * 128 - k * 128 = 128 by omega, Int.toNat_natCast]
end
section
set_option maxRecDepth 4000
open Go.RowKit
structure Qe where
 at_ : Nat
 g : Nat
 cap : Nat
 l : List UInt8
def Qe.cells (q : Qe) : List Value := [.int .i64 q.at_, .slice (some ⟨q.g, 0, none⟩) 128 q.cap]
def Qe.data (q : Qe) : Nat × List UInt8 := (q.at_, q.l)
def DiskParts (w : World) (b : Nat) (F : Nat -> Prop) (D : Dk) (s sc : Nat) (cur : Array Value) (qA : Option Addr) (qc : Nat) (Q : List Qe) : Prop :=
 (Blk w b 104 #[.slice (some ⟨s, 0, none⟩) D.safe.length sc, .slice qA Q.length qc, .int .i64 D.calls] /\ F b) /\
 (Blk w s 5 cur /\ F s /\ D.safe.length <= sc /\ sc <= maxLen /\ cur.size = sc /\ cur.toList.take D.safe.length = u8s D.safe) /\
 (w.ownsRow 0 164 2 (.slice qA Q.length qc) Q.length (Q.flatMap Qe.cells) /\ ∀ a, qA = some a -> F a.block) /\
 (∀ q ∈ Q, w.ownsRow 0 5 1 (.slice (some ⟨q.g, 0, none⟩) 128 q.cap) 128 (u8s q.l) /\ F q.g /\ q.g ≠ s /\ q.l.length = 128 /\ (q.at_ + 1) * 128 <= D.safe.length) /\
 D.queue = Q.map Qe.data
def DiskAt (w : World) (b : Nat) (F : Nat -> Prop) (D : Dk) : Prop :=
 ∃ (s sc : Nat) (cur : Array Value) (qA : Option Addr) (qc : Nat) (Q : List Qe), DiskParts w b F D s sc cur qA qc Q
theorem DiskParts.keep {w w' : World} {b : Nat} {F : Nat -> Prop} {D : Dk} {s sc : Nat} {cur : Array Value} {qA : Option Addr} {qc : Nat} {Q : List Qe}
  (h : DiskParts w b F D s sc cur qA qc Q) (hk : ∀ k, F k -> k < w.heap.size -> w'.heap[k]? = w.heap[k]?) : DiskParts w' b F D s sc cur qA qc Q := by
 obtain ⟨⟨h1, h2⟩, ⟨h3, h4, h5⟩, ⟨h6, h7⟩, h8, h9⟩ := h
 refine ⟨⟨h1.keep (hk b h2 h1.lt), h2⟩, ⟨h3.keep (hk s h4 h3.lt), h4, h5⟩, ⟨own_keep h6 ?_, h7⟩, ?_, h9⟩
 ·intro g hg
  rcases qA with _ | a
  ·cases hg
  ·exact hk g (by simp [Value.ownBlock] at hg; subst hg; exact h7 a rfl) (h6.lt g hg).2
 ·intro q hq
  obtain ⟨a1, a2, a3⟩ := h8 q hq
  refine ⟨own_keep a1 ?_, a2, a3⟩
  intro g hg
  have hg' : q.g = g := by simpa [Value.ownBlock] using hg
  subst hg'
  exact hk q.g a2 (a1.lt q.g hg).2
theorem DiskAt.keep {w w' : World} {b : Nat} {F : Nat -> Prop} {D : Dk} (h : DiskAt w b F D) (hk : ∀ k, F k -> k < w.heap.size -> w'.heap[k]? = w.heap[k]?) : DiskAt w' b F D := by
 obtain ⟨s, sc, cur, qA, qc, Q, h⟩ := h
 exact ⟨s, sc, cur, qA, qc, Q, h.keep hk⟩
theorem DiskAt.fr {w w' : World} {b : Nat} {F G : Nat -> Prop} {D : Dk} (h : DiskAt w b F D) (hf : Fr G w w') (hn : ∀ k, F k -> ¬ G k) : DiskAt w' b F D :=
 h.keep fun k hk hl => hf.block k hl (hn k hk)
theorem DiskAt.below {w w' : World} {b : Nat} {F : Nat -> Prop} {D : Dk} (h : DiskAt w b F D) (hb : Below w.heap.size w w') : DiskAt w' b F D :=
 h.keep fun k _ hl => hb.block k hl
set_option maxHeartbeats 400000 in
theorem image_any (b : Nat) (F : Nat -> Prop) (D : Dk) (w : World) (hD : DiskAt w b F D) (hok : D.Ok) (hq : D.queue.length <= 1099511627776) :
  Calls Tryz.prog 64 #[.pointer (some ⟨b, 0, none⟩)] w fun e w' => (∃ v, e = .returned v /\ w'.ownsRow w.heap.size 5 1 v D.safe.length (u8s D.image)) /\ Below w.heap.size w w' := by
 obtain ⟨s, sc, cur, qA, qc, Q, ⟨h1, h2⟩, ⟨h3, h4, h5, h5a, h5b, h5c⟩, ⟨h6, h7⟩, h8, h9⟩ := hD
 have c0 : w.cell? ⟨b, 0, none⟩ = some (.slice (some ⟨s, 0, none⟩) D.safe.length sc) := h1.cell 0
 have c1 : w.cell? ⟨b, 1, none⟩ = some (.slice qA Q.length qc) := h1.cell 1
 have hsee : Sees w 1 (some ⟨s, 0, none⟩) D.safe.length (u8s D.safe) := Sees.of_own (own_mk (base := 0) (Nat.zero_le _) h3 h5 h5a (by omega) (by simpa using h5c))
 have bl := h1.lt
 have hmost := hok.most
 have hpos := hok.pos
 have H1 := Lh h1; clear h1
 have H3 := Lh h3; clear h3
 have H5b := Lh h5b; clear h5b
 have H5c := Lh h5c; clear h5c
 have hQl : Q.length <= 1099511627776 := by rw [h9, List.length_map] at hq; exact hq
 have H9 := Lh h9; clear h9
 go_enter Tryz.func64, Tryz.ntmps64
 go_wp2_with fail
 refine (clone_any _ _ _ _ _ hsee (u8s_one _) (by omega)).mono ?_
 rintro e w1 ⟨v, rfl, hown, hb1⟩
 obtain ⟨g, cap, cur1, rfl, hg, hblk, hcap, hcm, hcs, htk⟩ := own_open hown (by omega)
 have c1' := (hb1.cell (p := ⟨b, 1, none⟩) bl).trans c1
 have H := Lh hblk; clear hblk
 have Hcs := Lh hcs; clear hcs
 have Htk := Lh htk; clear htk
 go_wp2_with fail
 go_loopw [16] (fun i wr => ∃ k : Nat, k <= Q.length /\ i = .int .i64 k /\ (∃ cur, Blk wr g 5 cur /\ cur.size = cap /\ cur.toList.take D.safe.length = u8s (puts D.safe ((Q.take k).map Qe.data))) /\ Below w.heap.size w wr)
  (fun i _ => Q.length - (intOf i).toNat)
 case atStart =>
  refine ⟨0, Nat.zero_le _, rfl, ⟨cur1, H.out, by have := Hcs.out; omega, ?_⟩, hb1⟩
  have := Htk.out
  simpa [puts] using this
 case round =>
  obtain ⟨k, hk, rfl, ⟨cu, hcu, hcuz, hcut⟩, hbr⟩ := hrel
  by_cases hlt : k < Q.length
  ·obtain ⟨qg, qcap, qcur, hqe, hqb, hqblk, hq1, hq2, hq3, hq4⟩ := own_open h6 (by omega)
   obtain rfl : qA = some ⟨qg, 0, none⟩ := by injection hqe
   have hlti : (k : Int) < (Q.length : Int) := by omega
   obtain ⟨q, hqk⟩ : ∃ q, Q[k]? = some q := ⟨_, List.getElem?_eq_getElem hlt⟩
   have hk0 := flatMap_get Qe.cells 2 (fun _ => rfl) Q k 0 q hqk (by decide)
   have hk1 := flatMap_get Qe.cells 2 (fun _ => rfl) Q k 1 q hqk (by decide)
   have e0 := (hbr.cell (p := ⟨qg, k * 2, none⟩) hqblk.lt).trans (own_cell h6 (j := k * 2) hk0)
   have e1 := (hbr.cell (p := ⟨qg, k * 2 + 1, none⟩) hqblk.lt).trans (own_cell h6 (j := k * 2 + 1) hk1)
   have h8q := h8 q (List.mem_of_getElem? hqk)
   have HQK := Lh hqk; clear hqk hk0 hk1
   go_wp2_with fail
   have hW : Below wr.heap.size wr (wr.alloc (.cells #[.int .i64 q.at_, .slice (some ⟨q.g, 0, none⟩) 128 q.cap] 164)) := (Below.refl _ _).alloc (Nat.le_refl _) _
   have hN := Blk.new wr 164 #[.int .i64 q.at_, .slice (some ⟨q.g, 0, none⟩) 128 q.cap]
   have hgl := hcu.lt
   obtain ⟨z, hz⟩ : ∃ z, z = wr.heap.size := ⟨_, rfl⟩
   rw [<- hz] at hN hW hgl ⊢
   generalize wr.alloc (.cells #[.int .i64 q.at_, .slice (some ⟨q.g, 0, none⟩) 128 q.cap] 164) = W at hW hN ⊢
   have n0 : W.cell? ⟨z, 0, none⟩ = some (.int .i64 q.at_) := hN.cell 0
   have n1 : W.cell? ⟨z, 1, none⟩ = some (.slice (some ⟨q.g, 0, none⟩) 128 q.cap) := hN.cell 1
   have hcuW : Blk W g 5 cu := hcu.below hW hgl
   have hqW : w.heap[q.g]? = wr.heap[q.g]? := (hbr.block _ (h8q.1.lt q.g rfl).2).symm
   have hsq : Sees W 1 (some ⟨q.g, 0, none⟩) 128 (u8s q.l) := Sees.keep (Sees.of_own h8q.1) (by
    intro g' off e hg'
    injection e with e
    injection e with e1 e2
    subst e1
    rw [hW.block _ (by have := hbr.size; omega)]
    exact hbr.block _ hg')
   have HN := Lh hN; clear hN
   have HC := Lh hcu; clear hcu
   have HCW := Lh hcuW; clear hcuW
   have HZ := Lh hz; clear hz
   have Hcut := Lh hcut; clear hcut
   have Hqw := Lh hqW; clear hqW
   have hp1 : (q.at_ + 1) * 128 <= D.safe.length := h8q.2.2.2.2
   go_region_held3 (fun w' => w'.cell? ⟨z, 0, none⟩ = some (.int .i64 q.at_) /\ w'.cell? ⟨z, 1, none⟩ = some (.slice (some ⟨q.g, 0, none⟩) 128 q.cap))
    (first
     | go_keep
     | exact ⟨hF2.cell n0 (show ¬ z = g by omega), hF2.cell n1 (show ¬ z = g by omega)⟩)
    (first
     | (go_at_call 99; refine (part_any g 0 D.safe.length cap q.at_ _ hcap hcm (by omega) (by omega)).mono ?_; rintro e w' ⟨⟨c', hc1, hc2, rfl⟩, rfl⟩)
     | (refine step_cpy rfl (.tmp 23) (.tmp 25) 22 22 rfl 5 Tryz.underlying22 (by kernel_rfl) g _ 128 c' (some ⟨q.g, 0, none⟩) 128 q.cap rfl rfl cu 5 HCW.out (u8s q.l) hsq (by omega) (u8s_one _) ?_; intro w2 hB2 hF2))
   go_wp2_with fail
   go_roundw
   case rel =>
    refine ⟨k + 1, by omega, by go_num, ⟨_, hB2, ?_, ?_⟩, ?_⟩
    ·have := length_splice cu.toList (q.at_ * 128) ((u8s q.l).take 128) (by simp; omega)
     simp at this ⊢
     omega
    ·have hl : q.l.length = 128 := h8q.2.2.2.1
     rw [List.take_of_length_le (by simp; omega : (u8s q.l).length <= 128)]
     have h3 := take_splice cu.toList (q.at_ * 128) D.safe.length (u8s q.l) (by simp; omega)
     rw [List.toList_toArray, h3, Hcut.out, <- u8s_splice, List.take_add_one, HQK.out, Option.toList_some, List.map_append, List.map_cons, List.map_nil, puts_snoc]
     rfl
    ·have h1 : w.heap.size <= z := by have := hbr.size; rw [<- HZ.out] at this; exact this
     have h2 : Below w.heap.size W.drew w2 := hF2.below (by have := hW.size; rw [<- HZ.out] at this; exact Nat.le_trans h1 this) (by rintro k rfl; exact hg)
     exact hbr.trans ((hW.mono h1).drew.trans h2)
   case measure => simp [intOf]; omega
  ·obtain rfl : k = Q.length := by omega
   have hge : ¬ ((Q.length : Int) < (Q.length : Int)) := by omega
   have Hcut := Lh hcut; clear hcut
   have HC := Lh hcu; clear hcu
   go_wp2_with fail
   go_ret
   refine ⟨⟨_, rfl, ?_⟩, hbr⟩
   have := Hcut.out
   rw [List.take_length, <- H9.out] at this
   exact own_mk hg HC.out hcap hcm (by omega) (by simpa [Dk.image] using this)
end
end Go.Proofs.YtkgaeoeibjoljaaGreatDoor
