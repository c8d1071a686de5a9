/-
  What flushed sectors keep behind a crash: plain.
  What a log tells behind a crash: plain.
  A new run.
-/
import Derived.Test.YtkgaeoeibjoljaaGreatDoorGH
import Derived.Test.YtkgaeoeibjoljaaGreatDoorHA
import Derived.Test.YtkgaeoeibjoljaaGreatDoorHC
import Derived.Test.YtkgaeoeibjoljaaGreatDoorGQ
namespace Go.Proofs.YtkgaeoeibjoljaaGreatDoor
set_option maxRecDepth 4000








end Go.Proofs.YtkgaeoeibjoljaaGreatDoor

namespace Go.Proofs.YtkgaeoeibjoljaaGreatDoor
set_option maxRecDepth 4000






/-! ### What was sure is told -/
theorem scan_more : ∀ (f i : Nat) (s : Lg), ∃ more, (s.scan i f).texts = s.texts ++ more
  | 0, _, s => ⟨[], by simp [Lg.scan]⟩
  | f + 1, i, s => by
    cases hp : pref (s.seg i) (hd i s.texts.length s.chain) with
    | false => exact ⟨[], by rw [Lg.scan_no hp]; simp⟩
    | true =>
      rw [Lg.scan_yes hp]
      have h1 := congrArg Lg.texts (Lg.scan1_yes hp)
      split
      · obtain ⟨more, hm⟩ := scan_more f (i + 1) (s.scan1 i).1
        rw [h1] at hm
        exact ⟨_, by rw [hm, List.append_assoc]⟩
      · exact ⟨_, h1⟩
theorem scan_sure (cur : List (List UInt8)) : ∀ (r : List (List (List UInt8))) (i : Nat) (s : Lg) (rest : List UInt8) (f : Nat), s.chain.length = 32 → AllFit s.n i s.texts.length s.chain r → Fine cur →
    (bod (i + r.length) (s.texts.length + r.flatten.length) (chn s.chain r.flatten) cur false).length ≤ s.n → r.length < f → 128 ≤ s.n →
    s.B.drop (i * s.n) = sgs s.n i s.texts.length s.chain r ++ (bod (i + r.length) (s.texts.length + r.flatten.length) (chn s.chain r.flatten) cur false ++ rest) → s.n ≤ (bod (i + r.length) (s.texts.length + r.flatten.length) (chn s.chain r.flatten) cur false).length + rest.length →
    ∃ more, (s.scan i f).texts = s.texts ++ (r.flatten ++ cur) ++ more
  | [], i, s, rest, f, hc, _, hf, hl, hr, hn, hB, hrl => by
    obtain ⟨f, rfl⟩ : ∃ g, f = g + 1 := ⟨f - 1, by simp at hr; omega⟩
    simp only [List.flatten_nil, List.length_nil, Nat.add_zero, chn, sgs, List.nil_append] at hl hB hrl ⊢
    have hseg : s.seg i = bod i s.texts.length s.chain cur false ++ rest.take (s.n - (bod i s.texts.length s.chain cur false).length) := by
      unfold Lg.seg
      rw [hB, List.take_append, List.take_of_length_le hl]
    have hhd : (hd i s.texts.length s.chain).length = 128 := hd_len' _ _ _ hc
    have hbd : bod i s.texts.length s.chain cur false = hd i s.texts.length s.chain ++ frs s.chain cur := by unfold bod; simp
    have hp : pref (s.seg i) (hd i s.texts.length s.chain) = true := by
      rw [hseg, hbd, List.append_assoc]
      exact pref_append _ _
    have hsl : (s.seg i).length = s.n := by rw [hseg, List.length_append, List.length_take]; omega
    have hm := frs_many cur s.chain
    have hbl : (bod i s.texts.length s.chain cur false).length = 128 + (frs s.chain cur).length := by rw [hbd, List.length_append, hhd]
    obtain ⟨g, hg⟩ : ∃ g, s.n = g + cur.length := ⟨s.n - cur.length, by omega⟩
    have hrun := pz_run (s.seg i) s.texts.length (rest.take (s.n - (bod i s.texts.length s.chain cur false).length)) cur (pz0 s.chain) g hf (by
      show (s.seg i).drop 128 = _
      rw [hseg, hbd, List.append_assoc, ← hhd, List.drop_left]
      rfl)
    rw [← hg] at hrun
    obtain ⟨ts, _, a1, _⟩ := pz_told (s.seg i) s.texts.length g ⟨(pz0 s.chain).texts ++ cur, chn (pz0 s.chain).chain cur, (pz0 s.chain).sealed_, (pz0 s.chain).used + (frs (pz0 s.chain).chain cur).length⟩ rfl (chn_length _ _ hc) (by
      show 128 + (frs s.chain cur).length ≤ (s.seg i).length
      rw [hsl, ← hbl]; exact hl)
    rw [← hrun] at a1
    have ht1 := congrArg Lg.texts (Lg.scan1_yes hp)
    have ht2 : (s.scan1 i).1.texts = s.texts ++ cur ++ ts := by
      rw [ht1]
      show s.texts ++ (pz (s.seg i) s.texts.length s.n (pz0 s.chain)).texts = _
      rw [a1]
      simp [pz0]
    rw [Lg.scan_yes hp]
    split
    · obtain ⟨more, hmo⟩ := scan_more f (i + 1) (s.scan1 i).1
      exact ⟨ts ++ more, by rw [hmo, ht2]; simp⟩
    · exact ⟨ts, ht2⟩
  | ts :: r, i, s, rest, f, hc, ha, hf, hl, hr, hn, hB, hrl => by
    obtain ⟨f, rfl⟩ : ∃ g, f = g + 1 := ⟨f - 1, by simp at hr; omega⟩
    have e1 : i + (ts :: r).length = i + 1 + r.length := by simp; omega
    have e2 : s.texts.length + (ts :: r).flatten.length = (s.texts ++ ts).length + r.flatten.length := by simp; omega
    have e3 : chn s.chain (ts :: r).flatten = chn (chn s.chain ts) r.flatten := by rw [List.flatten_cons, chn_append]
    rw [e1, e2, e3] at hl hB hrl
    have hseg : s.seg i = pad s.n (bod i s.texts.length s.chain ts true) := by
      unfold Lg.seg
      rw [hB, sgs, List.append_assoc]
      exact seg_first (pad_length ha.1.1)
    have hp : pref (s.seg i) (hd i s.texts.length s.chain) = true := by
      rw [hseg]
      unfold pad bod
      rw [List.append_assoc]
      exact pref_append _ _
    have hz' := pz_bod s.n i s.texts.length s.chain ts true hc ha.1.2 ha.1.1 (fun h => by cases h)
    have h1 : s.scan1 i = ({ s with texts := s.texts ++ ts, chain := chn s.chain ts, last := i, used := (bod i s.texts.length s.chain ts true).length, sealed_ := true }, true) := by
      unfold Lg.scan1
      rw [if_pos hp, hseg, hz']
    rw [Lg.scan, h1]
    simp only [if_true]
    have hB' : s.B.drop ((i + 1) * s.n) = sgs s.n (i + 1) (s.texts ++ ts).length (chn s.chain ts) r ++ (bod (i + 1 + r.length) ((s.texts ++ ts).length + r.flatten.length) (chn (chn s.chain ts) r.flatten) cur false ++ rest) := by
      rw [Nat.add_mul, Nat.one_mul, ← List.drop_drop, hB, sgs, List.append_assoc, seg_next (pad_length ha.1.1), List.length_append]
    obtain ⟨more, ih⟩ := scan_sure cur r (i + 1) { s with texts := s.texts ++ ts, chain := chn s.chain ts, last := i, used := (bod i s.texts.length s.chain ts true).length, sealed_ := true } rest f (chn_length _ _ hc) (by rw [List.length_append]; exact ha.2) hf hl (by simp at hr; omega) hn hB' hrl
    exact ⟨more, by rw [ih]; simp [List.append_assoc]⟩

def Sre (s : Lg) : Prop := s.sure = 0 ∨ ∃ done cur, AllFit s.n 0 0 (zr 32) done ∧ Fine cur ∧ done.length < s.segs ∧ (bod done.length (Cnt done) (Chd done) cur false).length ≤ s.n ∧ (Lx s done cur).length = s.clean ∧ s.B.take s.clean = Lx s done cur ∧ s.sure = (done.flatten ++ cur).length
theorem Sre.told {s : Lg} (h : Sre s) (hok : s.Ok) {X : List UInt8} (hX : X.length = s.all) (ht : X.take s.clean = s.B.take s.clean) : s.sure ≤ (Lg.opened s.segs s.size X).texts.length := by
  rcases h with h | ⟨done, cur, h1, h2, h3, h4, h5, h6, h7⟩
  · omega
  · have hn := hok.n_le
    have hXd : X = Lx s done cur ++ X.drop s.clean := by rw [← h6, ← ht, List.take_append_drop]
    have hLl : (Lx s done cur).length = done.length * s.n + (bod done.length (Cnt done) (Chd done) cur false).length := by
      unfold Lx
      rw [List.length_append, sgs_length _ _ _ _ _ h1]
    have hal : (done.length + 1) * s.n ≤ s.segs * s.n := Nat.mul_le_mul_right _ h3
    rw [Nat.add_mul, Nat.one_mul] at hal
    obtain ⟨more, hm⟩ := scan_sure cur done 0 (Lg.init s.segs s.size X) (X.drop s.clean) s.segs (zr_length 32) h1 h2 (by show (bod (0 + done.length) (0 + done.flatten.length) (chn (zr 32) done.flatten) cur false).length ≤ s.n; rw [Nat.zero_add, Nat.zero_add]; exact h4) h3 (by show 128 ≤ s.n; omega) (by
      show X.drop (0 * s.n) = sgs s.n 0 0 (zr 32) done ++ (bod (0 + done.length) (0 + done.flatten.length) (chn (zr 32) done.flatten) cur false ++ X.drop s.clean)
      rw [Nat.zero_mul, List.drop_zero, Nat.zero_add, Nat.zero_add, ← List.append_assoc]
      exact hXd) (by
      show s.n ≤ (bod (0 + done.length) (0 + done.flatten.length) (chn (zr 32) done.flatten) cur false).length + (X.drop s.clean).length
      rw [Nat.zero_add, Nat.zero_add, List.length_drop, hX]
      have h8 : (bod done.length done.flatten.length (chn (zr 32) done.flatten) cur false).length = (bod done.length (Cnt done) (Chd done) cur false).length := rfl
      have h9 : s.all = s.segs * s.n := rfl
      omega)
    show s.sure ≤ ((Lg.init s.segs s.size X).scan 0 s.segs).texts.length
    rw [hm, h7]
    simp only [List.length_append]
    omega
theorem Sre.append {s : Lg} {D : Dk} {f : Nat} {t : List UInt8} (h : Sre s) (hk : Kp s D f) (he : s.err t.length = 0) : Sre (s.append t) := by
  have hf := laid_foot hk.laid
  have hr := hk.sok.room (fun _ => hf.2) he
  have hx := room_fix s t.length
  have hfr := room_front hk.sok hr (fun _ => hf.2) (laid_last hk.laid)
  have hce : s.clean ≤ s.end_ := by rcases hk.even with e | e <;> omega
  have hre := hr.ok.end_le
  have hn : (s.append t).n = s.n := by unfold Lg.n; rw [show (s.append t).size = s.size from hx.2.1]
  have hB : (s.append t).B.take s.clean = s.B.take s.clean := by
    have h1 : (s.append t).B.take s.end_ = s.B.take s.end_ := by
      have : (s.append t).B.take s.end_ = (s.room t.length).B.take s.end_ := put_front (s.room t.length) _ _ hfr.1 (by rw [hr.ok.oct]; exact hre)
      rw [this, hfr.2]
    have h2 := congrArg (List.take s.clean) h1
    rwa [List.take_take, List.take_take, Nat.min_eq_left hce] at h2
  have hcl : (s.append t).clean = s.clean := hx.2.2.2.1
  have hsu : (s.append t).sure = s.sure := hx.2.2.1
  have hsg : (s.append t).segs = s.segs := hx.1
  rcases h with h | ⟨done, cur, h1, h2, h3, h4, h5, h6, h7⟩
  · exact .inl (by rw [hsu]; exact h)
  · have hL : Lx (s.append t) done cur = Lx s done cur := by unfold Lx; rw [hn]
    exact .inr ⟨done, cur, by rw [hn]; exact h1, h2, by rw [hsg]; exact h3, by rw [hn]; exact h4, by rw [hL, hcl]; exact h5, by rw [hcl, hB, hL]; exact h6, by rw [hsu]; exact h7⟩
theorem Sre.flushed {s : Lg} (hl : Laid0 s ∨ ∃ done cur, Laid1 s done cur) : Sre s.flushed := by
  rcases hl with l | ⟨done, cur, l⟩
  · exact .inl (by show s.texts.length = 0; rw [l.texts]; rfl)
  · have h1 := l.foot
    refine .inr ⟨done, cur, l.fit, l.fine, l.room, by have := l.used; show _ ≤ s.n; omega, l.len, ?_, by show s.texts.length = _; rw [l.texts]⟩
    show s.B.take s.end_ = Lx s done cur
    rw [l.octs]
    exact seg_first l.len

/-! ### The region behind a crash -/
theorem Kp.still {s : Lg} {D : Dk} {f : Nat} (h : Kp s D f) (k : Int) (keep : List Int) : ((({ D with calls := k } : Dk).crashed keep).piece f (s.segs * s.size)).take s.clean = s.B.take s.clean := by
  have hsf : (({ D with calls := k } : Dk).crashed keep).safe = D.safe := by
    show (crashS { D with calls := k } keep).1 = D.safe
    unfold crashS
    show (keep.foldl (crashF D.queue) (D.safe, [])).1 = D.safe
    rw [h.queue]
    suffices hh : ∀ (l : List Int) (st : List UInt8 × List Int), (l.foldl (crashF []) st).1 = st.1 from hh keep _
    intro l
    induction l with
    | nil => intro st; rfl
    | cons a l ih => intro st; rw [List.foldl_cons, ih]; unfold crashF; simp
  have hoct := h.sok.oct
  have hel := h.sok.end_le
  have hce : s.clean ≤ s.end_ := by rcases h.even with e | e <;> omega
  have hall : s.all = s.segs * s.size * 128 := by unfold Lg.all Lg.n; rw [seg_all]
  have h1 := h.same
  unfold Dk.piece at h1 ⊢
  rw [image_idle h.queue] at h1
  rw [image_idle rfl, hsf, h1]
  unfold pad
  exact seg_first (by rw [List.length_take]; omega)
end Go.Proofs.YtkgaeoeibjoljaaGreatDoor

namespace Go.Proofs.YtkgaeoeibjoljaaGreatDoor
set_option maxRecDepth 4000
open Go.RowKit

/-! ### Plain -/
theorem zsafe (N : Nat) : (Dk.new N).safe = zr (N * 128) := rfl
theorem dknew_ok {N : Nat} (h1 : 1 ≤ N) (h2 : N ≤ 1000) : (Dk.new N).Ok := by
  have hl : (Dk.new N).safe.length = N * 128 := by rw [zsafe, zr_length]
  exact ⟨by rw [hl]; exact ⟨N, by omega⟩, by rw [hl]; omega, by rw [hl]; omega, (fun q hq => by cases hq), by show (-9223372036854775808 : Int) ≤ -1; omega, by show (-1 : Int) ≤ 9223372036854775807; omega⟩
theorem dknew_piece (N f P : Nat) (h : f + P ≤ N) : (Dk.new N).piece f P = zr (P * 128) := by
  unfold Dk.piece
  rw [image_idle (show (Dk.new N).queue = [] from rfl), zsafe, zr_drop, zr_take]
  congr 1
  have : (f + P) * 128 ≤ N * 128 := Nat.mul_le_mul_right _ h
  rw [Nat.add_mul] at this
  omega
theorem dknew_opened (N f sg sz : Nat) (h1 : 1 ≤ sg) (h2 : 1 ≤ sz) (h : f + sg * sz ≤ N) : (Dk.new N).opened f sg sz = Dk.new N := by
  obtain ⟨n, rfl⟩ : ∃ n, sg = n + 1 := ⟨sg - 1, by omega⟩
  have hz := dknew_piece N f ((n + 1) * sz) h
  have htold : Lg.told (n + 1) sz ((Dk.new N).piece f ((n + 1) * sz)) = Lg.init (n + 1) sz ((Dk.new N).piece f ((n + 1) * sz)) := by
    unfold Lg.told
    refine scan_zero _ _ ?_
    show (Dk.new N).piece f ((n + 1) * sz) = zr ((n + 1) * (sz * 128))
    rw [seg_all, hz]
  have hend : (Lg.init (n + 1) sz ((Dk.new N).piece f ((n + 1) * sz))).end_ = 0 := by show 0 * _ + 0 = 0; omega
  have hcutB : (Lg.init (n + 1) sz ((Dk.new N).piece f ((n + 1) * sz))).cut.B = zr ((n + 1) * sz * 128) := by
    show ((Dk.new N).piece f ((n + 1) * sz)).take (Lg.init (n + 1) sz ((Dk.new N).piece f ((n + 1) * sz))).end_ ++ zr ((n + 1) * (sz * 128) - (Lg.init (n + 1) sz ((Dk.new N).piece f ((n + 1) * sz))).end_) = _
    rw [hend, List.take_zero, List.nil_append, Nat.sub_zero, seg_all]
  have hP : 0 < (n + 1) * sz := Nat.mul_pos (by omega) (by omega)
  unfold Dk.opened
  rw [htold, hend, hcutB]
  unfold Dk.cut
  rw [Nat.zero_div, if_pos hP, Nat.zero_mul, List.drop_zero, Nat.sub_zero]
  have him := image_push (D := Dk.new N) rfl (f + 0) ((n + 1) * sz) (zr ((n + 1) * sz * 128)) (zr_length _) (by rw [zsafe, zr_length]; exact Nat.mul_le_mul_right _ h)
  generalize (n + 1) * sz = Pz at him h ⊢
  unfold Dk.flushed
  rw [him, zsafe, zr_take, zr_drop, zr_add, zr_add]
  have e : min ((f + 0) * 128) (N * 128) + (Pz * 128 + (N * 128 - (f + 0 + Pz) * 128)) = N * 128 := by omega
  rw [e]
  rfl
theorem slos_zero (n : Nat) : slos (cl (List.replicate n none)) = zr (n * 256) := slos_fresh n
theorem kopen_fresh (n N : Nat) (h0 : 1 ≤ n) (h64 : n ≤ 64) (hN : 2 * n ≤ N) (h2 : N ≤ 1000) (b : Nat) (F : Nat → Prop) (w : World) (hD : DiskAt w b F (Dk.new N)) (hF : ∀ k, F k → k < w.heap.size) :
    Calls Tryz.prog 77 #[.pointer (some ⟨b, 0, none⟩), .int .i64 0, .int .i64 n] w fun e w' => ∃ t sg E D', e = .returned (.tuple #[.pointer (some ⟨t, 0, none⟩), Value.nilIface]) ∧ KTo w F t b sg (0 : Nat) E false D' w' ∧ (E = List.replicate n none ∧ D' = Dk.new N) := by
  have hQ : ∀ q ∈ List.replicate n (none : Kd), KdOk q := fun q hq => by
    rw [List.eq_of_mem_replicate hq]
    intro p hp; cases hp
  have hn : ∀ (k : Nat) (s : Sl), (cl (List.replicate n none))[k]? = some s → s.1 = none := fun k s hs => by
    unfold cl at hs
    rw [List.getElem?_map, List.getElem?_replicate] at hs
    split at hs
    · injection hs with hs; rw [← hs]
    · cases hs
  have hlen : (cl (List.replicate n none)).length = n := by rw [cl_length, List.length_replicate]
  have h := open_any' b 0 (cl (List.replicate n none)) (Dk.new N) F w hD hF (dknew_ok (by omega) h2) rfl rfl (by omega) (by omega) (by omega) (by rw [hlen, zsafe, zr_length]; exact Nat.mul_le_mul_right _ (by omega)) (cl_ok hQ)
    (by rw [hlen, dknew_piece _ _ _ (by omega), slos_zero]; congr 1; omega) (fun i j p q Y Z h1 => by have := hn i _ h1; cases this)
  rw [hlen] at h
  refine h.mono ?_
  rintro e w' ⟨t, sg, E, D', he, hl, hE, hto, hsame⟩
  have hD' : D' = Dk.new N := hsame fun s hs => by
    obtain ⟨q, hq, rfl⟩ := List.mem_map.1 hs
    rfl
  have hEE : E = List.replicate n none := by
    refine List.ext_getElem? fun k => ?_
    rw [List.getElem?_replicate]
    split
    · rename_i hk
      obtain ⟨e, h1, h2⟩ := hE k (none, enc none) (by unfold cl; rw [List.getElem?_map, List.getElem?_replicate, if_pos hk]; rfl)
      rw [h1, keD_none h2]
    · rename_i hk
      exact List.getElem?_eq_none (by omega)
  exact ⟨t, sg, E, D', he, hto, hEE, hD'⟩
def St.fresh (sl sg sz : Nat) : St := { slots := sl, segs := sg, size := sz, D := Dk.new (2 * sl + sg * sz), E := List.replicate sl none, dead := false, s := Lg.opened sg sz (zr (sg * sz * 128)), l := [], atoms := 0, eps := [] }
theorem pool_new {w : World} {base base' p : Nat} (h : PoolIs w base p []) (hb : base' ≤ base) : PoolIn w base' p [] (fun k => base ≤ k ∧ k < w.heap.size) := by
  obtain ⟨tA, tc, mb, dA, dc, sA, sc, hP⟩ := h
  have h1 := hP.lt
  exact ⟨tA, tc, mb, dA, dc, sA, sc, ⟨hP.blk, own_base hP.ts hb, own_base hP.ds hb, own_base hP.ss hb, hP.mp, hP.ne, ⟨Nat.le_trans hb hP.lo.1, Nat.le_trans hb hP.lo.2⟩⟩, ⟨⟨hP.lo.1, h1.1⟩, ⟨hP.lo.2, h1.2⟩, fun g hg => hP.ts.lt g hg, fun g hg => hP.ds.lt g hg, fun g hg => hP.ss.lt g hg⟩⟩
set_option maxHeartbeats 4000000 in
theorem new_r (sl sg sz : Nat) (h1 : 1 ≤ sl ∧ sl ≤ 8) (h2 : 1 ≤ sg ∧ sg ≤ 8) (h3 : 3 ≤ sz ∧ sz ≤ 16) (w : World) (hT : TabsS w) (hbt : ∀ k, w.heap.size ≤ k → k ≠ 3 ∧ k ≠ 2) :
    Calls Tryz.prog 15 #[.int .i64 sl, .int .i64 sg, .int .i64 sz] w fun e w' => (∃ a F K L P T, e = .returned (.tuple #[.pointer (some ⟨a.r, 0, none⟩), Value.nilIface]) ∧ Rn w' w.heap.size (St.fresh sl sg sz) a F K L P T) ∧ Below w.heap.size w w' := by
  have hPl : sg * sz ≤ 8 * 16 := Nat.mul_le_mul h2.2 h3.2
  have hPg : 1 * 3 ≤ sg * sz := Nat.mul_le_mul h2.1 h3.1
  obtain ⟨N, hN⟩ : ∃ N, N = 2 * sl + sg * sz := ⟨_, rfl⟩
  have hi1 : IntKind.i64.wrap (2 * (sl : Int)) = ((2 * sl : Nat) : Int) := (IntWalk.i64_in _ (by omega)).trans (by omega)
  have hi2 : IntKind.i64.wrap ((sg : Int) * (sz : Int)) = ((sg * sz : Nat) : Int) := by
    rw [show (sg : Int) * (sz : Int) = ((sg * sz : Nat) : Int) by simp]
    exact IntWalk.i64_in _ (by omega)
  have hi3 : IntKind.i64.wrap (((2 * sl : Nat) : Int) + ((sg * sz : Nat) : Int)) = (N : Int) := (IntWalk.i64_in _ (by omega)).trans (by omega)
  obtain ⟨M, hM⟩ : ∃ M, M = 2 * sl := ⟨_, rfl⟩
  obtain ⟨Pz, hPz⟩ : ∃ P, P = sg * sz := ⟨_, rfl⟩
  rw [← hM] at hi1 hi3
  rw [← hPz] at hi2 hi3
  have HNN := Lib.hid (And.intro hN (And.intro hM hPz))
  have hNb : 5 ≤ N ∧ N ≤ 200 := by omega
  have a1 : ¬ (sl : Int) < 1 := by omega
  have a2 : ¬ (8 : Int) < (sl : Int) := by omega
  have b1 : ¬ (sg : Int) < 1 := by omega
  have b2 : ¬ (8 : Int) < (sg : Int) := by omega
  have z1 : ¬ (sz : Int) < 3 := by omega
  have z2 : ¬ (16 : Int) < (sz : Int) := by omega
  have HD := Lib.hid (new_good N w (by omega) (by omega))
  have HT := Lib.hid (And.intro hT hbt)
  clear hPl hPg hN hM hPz hT hbt
  go_enter Tryz.func15, Tryz.ntmps15
  go_wp2_with fail
  refine HD.out.mono ?_
  rintro e w1 ⟨⟨b, F, rfl, hD, hF⟩, hb1⟩
  have HTN := Lib.hid (tnew_any w1.heap.size w1 (Nat.le_refl _))
  have H1 := Lib.hid (And.intro hD (And.intro hF hb1))
  clear hD hF hb1 HD
  go_wp2_with fail
  refine HTN.out.mono ?_
  rintro e w2 ⟨p, rfl, hpl, hb2, hpb⟩
  have H2 := Lib.hid (And.intro hpl (And.intro hb2 hpb))
  clear hpl hb2 hpb HTN
  go_wp2_with fail
  obtain ⟨r, hr⟩ : ∃ r, r = w2.heap.size := ⟨_, rfl⟩
  obtain ⟨w3, hw3⟩ : ∃ w3, w3 = w2.alloc (.cells #[.pointer (some ⟨b, 0, none⟩), .int .i64 sl, .int .i64 sg, .int .i64 sz, .pointer none, .pointer none, .pointer (some ⟨p, 0, none⟩), .int .i64 0, .slice none 0 0] 91) := ⟨_, rfl⟩
  have hal : Below w2.heap.size w2 w3 := hw3 ▸ (Below.refl _ _).alloc (Nat.le_refl _) _
  have hz1 := H1.out.2.2.size
  have hz2 := H2.out.2.1.size
  have hz3 : w3.heap.size = w2.heap.size + 1 := by rw [hw3]; simp
  have hpre : RPre w3 w.heap.size (St.fresh sl sg sz) ⟨r, b, 0, 0, 0, p, none, 0, 0, 0, none, 0, none, 0, []⟩ (.pointer none) (.pointer none) F (fun k => w1.heap.size ≤ k ∧ k < w2.heap.size) (fun k => if k < w1.heap.size then 1 else if k < w2.heap.size then 4 else 5) := by
    refine ⟨?_, World.ownsRow_nil _ _ _ _, ?_, (pool_new H2.out.1 hz1).below hal, fun k hk => ?_, fun k hk => ?_, fun k hk => ?_, fun k o hk => by cases hk⟩
    · rw [hw3, hr]; exact Blk.new _ _ _
    · have := (H1.out.1.below H2.out.2.1).below hal
      rw [HNN.out.1] at this
      exact this
    · have := H1.out.2.1 k hk
      rw [if_pos this.2]
      exact ⟨rfl, this.1, by omega⟩
    · rw [if_neg (by omega), if_pos hk.2]
      exact ⟨rfl, by omega, by omega⟩
    · rcases hk with hk | hk
      · have hk : k = r := hk
        rw [hk]
        show (if r < _ then 1 else if r < _ then 4 else 5) = 5 ∧ _ ≤ r ∧ r < _
        rw [if_neg (by omega), if_neg (by omega)]
        exact ⟨rfl, by omega, by omega⟩
      · simp [Value.ownBlock] at hk
  have hb3 : Below w.heap.size w w3 := (H1.out.2.2.trans (H2.out.2.1.mono hz1)).trans (hal.mono (by omega))
  have hTB : TabsB w.heap.size w3 := HT.out.1.at_.below hb3
  have hdr : Below w3.heap.size w3 w3.drew := ⟨rfl, rfl, rfl, Nat.le_refl _, fun _ _ => rfl⟩
  have hko := kopen_fresh sl N h1.1 (by omega) (by rw [HNN.out.1]; omega) (by omega) b F w3.drew (by have := (hpre.below hdr).disk; rw [HNN.out.1]; exact this) (fun k hk => (hpre.tF k hk).2.2)
  have HO := Lib.hid (open_r hpre hTB HT.out.2 h1.2 h2 (show 2 ≤ sz ∧ sz ≤ 16 by omega) (fun E D' => E = List.replicate sl none ∧ D' = Dk.new N) hko (by
    rintro E D' ⟨-, rfl⟩
    refine ⟨dknew_ok (by omega) (by omega), rfl, rfl, ?_⟩
    rw [zsafe, zr_length]
    show (2 * sl + sg * sz) * 128 ≤ N * 128
    rw [HNN.out.1]
    exact Nat.le_refl _))
  rw [← hr, ← hw3]
  have HB := Lib.hid hb3
  clear hr hw3 hal hz1 hz2 hz3 hpre hb3 hTB hdr hko
  refine HO.out.mono ?_
  rintro e w4 ⟨rfl, ⟨E, D1, a, F', K', L', T', ⟨rfl, rfl⟩, ha, hR⟩, hb4⟩
  have H4 := Lib.hid (And.intro hR (And.intro (HB.out.trans hb4) ha))
  clear hR hb4 ha HO
  go_wp2_with fail
  go_ret2
  refine ⟨⟨a, F', K', L', (fun k => w1.heap.size ≤ k ∧ k < w2.heap.size), T', ?_, ?_⟩, H4.out.2.1⟩
  · have e : a.r = r := H4.out.2.2
    show Ending.returned (.tuple #[.pointer (some ⟨r, 0, none⟩), Value.nilIface]) = _
    rw [e]
  · have hR := H4.out.1
    have e1 : (Dk.new N).opened (2 * (St.fresh sl sg sz).slots) (St.fresh sl sg sz).segs (St.fresh sl sg sz).size = Dk.new (2 * sl + sg * sz) := by
      rw [HNN.out.1]
      exact dknew_opened (2 * sl + sg * sz) (2 * sl) sg sz h2.1 (by omega) (Nat.le_refl _)
    have e2 : (Dk.new N).piece (2 * (St.fresh sl sg sz).slots) ((St.fresh sl sg sz).segs * (St.fresh sl sg sz).size) = zr (sg * sz * 128) := by
      rw [HNN.out.1]
      exact dknew_piece (2 * sl + sg * sz) (2 * sl) (sg * sz) (Nat.le_refl _)
    rw [e1, e2] at hR
    exact hR
end Go.Proofs.YtkgaeoeibjoljaaGreatDoor
