/-
  The law AesApart, walked.
-/
import Derived.Test.YtimaeghbjfialaaAes7
import Derived.Test.YtimaeghbjfialaaArrArg
import Derived.Stop.BytesEq
namespace Go.Proofs.Ytimaeghbjfialaa
open Go.RowKit

theorem bytes_nat {zs : List Int} (hw : ∀ z ∈ zs, (Lit.int .u8 z).wf = true) : ∃ l : List Nat, l.length = zs.length ∧ byt l ∧ zs.map (Value.int .u8 ·) = nbs l := by
  refine ⟨zs.map Int.toNat, by simp, fun i => ?_, ?_⟩
  · rw [List.getD_eq_getElem?_getD, List.getElem?_map]
    by_cases hi : i < zs.length
    · have := bounds_u8 (hw _ (List.getElem_mem hi))
      rw [List.getElem?_eq_getElem hi]
      simp only [Option.map_some, Option.getD_some]
      omega
    · rw [List.getElem?_eq_none (by omega)]; decide
  · unfold nbs
    rw [List.map_map]
    refine List.map_congr_left fun z hz => ?_
    have := bounds_u8 (hw z hz)
    simp only [Function.comp_apply]
    rw [Int.toNat_of_nonneg this.1]

theorem oct_inj {a b : List Nat} (ha : byt a) (hb : byt b) (h : oct a = oct b) : a = b := by
  have h2 := congrArg u8s h
  rw [u8s_oct ha, u8s_oct hb] at h2
  refine list_ext (by simpa [nbs] using congrArg List.length h2) fun i hi => ?_
  have hl : a.length = b.length := by simpa [nbs] using congrArg List.length h2
  have h3 := congrArg (fun l => l[i]?) h2
  simp only [nbs_get hi, nbs_get (hl ▸ hi)] at h3
  injection h3 with h3
  injection h3 with _ h3
  omega
theorem eql_bytes (a b : List Nat) (ha : byt a) (hb : byt b) (la : a.length = 16) (lb : b.length = 16) (w : World) :
    (binOp .eql 22 (.agg (nbs a).toArray) (.agg (nbs b).toArray)).run Try.prog w = .ok (.bool (decide (a = b))) w := by
  have h := run_eql_bytes (P := Try.prog) w 22 5 16 Try.underlying22 Try.underlying5 (fun w => by kernel_rfl) (oct a) (oct b) (by simp [oct, la]) (by simp [oct, lb])
  have e1 : ∀ l : List UInt8, l.map Extern.Stop.cell = u8s l := fun l => rfl
  rw [e1, e1, u8s_oct ha, u8s_oct hb] at h
  rw [h]
  congr 2
  rw [Bool.eq_iff_iff]
  simp only [beq_iff_eq, decide_eq_true_eq]
  exact ⟨oct_inj ha hb, fun h => by rw [h]⟩

theorem range_row {w : World} {g : Nat} {t : TypeId} {cs : Array Value} (h : Blk w g t cs) : w.rangeAt g 0 cs.toList := fun j v hv => by
  rw [Nat.zero_add, h.cell, ← Array.getElem?_toList]; exact hv

theorem plan_row {P : Program} {ops : Array Oper} {Q : Exit → Act → World → Prop} {S : World → Prop} {need : Nat → Bool} {i : Nat} {o : Oper} {rest : List (Nat × Bool)} {a : Act} {w : World}
    (ho : ops.toList[i]? = some o) (hQ : ∀ v c a w, Q (.panic c) (a.put o.dst v) w → Q (.panic c) a w) (hg : Region.wanted o (yielded ops a.tmps) = true) (hS : S w) (ty : TypeId) (x : Operand) (hop : o.op = .load ty x)
    (b : Nat) (hx : a.eval x = .pointer (some ⟨b, 0, none⟩)) (t : TypeId) (cs : Array Value) (d : TypeDesc) (hc : ∀ w, S w → Blk w b t cs) (hu : P.underlying ty = some d) (hd : d.isRow = true) (hi : (P.info? ty).map (·.size) = some cs.size)
    (h : wpPlan P ops Q S need rest (a.put o.dst (.agg cs)) w) : wpPlan P ops Q S need ((i, true) :: rest) a w :=
  plan_load ho hQ hg hS ty x hop b 0 hx cs.toList d (fun w h => range_row (hc w h)) hu hd (by rw [Array.length_toList]; exact hi) (by rw [Array.toArray_toList]; exact h)

theorem apart_walk (k a b : List Nat) (w : World) (lk : k.length = 16) (hk : byt k) (la : a.length = 16) (ha : byt a) (lb : b.length = 16) (hb : byt b) :
    Calls Try.prog 5 #[.agg (nbs k).toArray, .agg (nbs a).toArray, .agg (nbs b).toArray] w fun e w' => e = .returned (.bool true) ∧ Below w.heap.size w w' := by
  have hi16 : (Try.prog.info? 22).map (·.size) = some 16 := by kernel_rfl
  have HI16 := Lib.hid hi16; clear hi16
  obtain ⟨v, hv⟩ : ∃ v, v = decide (a = b) := ⟨_, rfl⟩
  have E1 := eql_bytes a b ha hb la lb
  have E2 := eql_bytes (enc k a) (enc k b) (st_byt hk ha 10) (st_byt hk hb 10) (st_length _ _ _) (st_length _ _ _)
  rw [show decide (enc k a = enc k b) = decide (a = b) from decide_eq_decide.2 (enc_inj hk ha hb la lb), ← hv] at E2
  rw [← hv] at E1
  clear hv
  have HB1 := Lib.hid (block_any k a lk la hk ha)
  have HB2 := Lib.hid (block_any k b lk lb hk hb)
  obtain ⟨x, hx⟩ : ∃ x, x = a.getD 0 0 := ⟨_, rfl⟩
  obtain ⟨y, hy⟩ : ∃ y, y = b.getD 0 0 := ⟨_, rfl⟩
  have hx2 : x < 256 := by rw [hx]; exact ha 0
  have hy2 : y < 256 := by rw [hy]; exact hb 0
  have HX1 := Lib.hid (box_any x hx2)
  have HX2 := Lib.hid (box_any y hy2)
  obtain ⟨u, hu⟩ : ∃ u : Bool, u = ((x : Int) == (y : Int)) := ⟨_, rfl⟩
  have hbu : ((box x : Int) == (box y : Int)) = u := by
    rw [hu, Bool.eq_iff_iff]
    simp only [beq_iff_eq]
    constructor
    · intro h
      have := box_inj hx2 hy2 (by omega)
      omega
    · intro h
      have h2 : x = y := by omega
      rw [h2]
  replace hu := hu.symm
  generalize box x = X at *
  generalize box y = Y at *
  obtain ⟨ck, hck⟩ : ∃ c, c = (nbs k).toArray := ⟨_, rfl⟩
  obtain ⟨ca, hca⟩ : ∃ c, c = (nbs a).toArray := ⟨_, rfl⟩
  obtain ⟨cb, hcb⟩ : ∃ c, c = (nbs b).toArray := ⟨_, rfl⟩
  have sk : ck.size = 16 := by rw [hck, nbs_size, lk]
  have sa : ca.size = 16 := by rw [hca, nbs_size, la]
  have sb' : cb.size = 16 := by rw [hcb, nbs_size, lb]
  have hc1 : ∀ (w' : World) g, Blk w' g 22 ca → w'.cell? ⟨g, 0, none⟩ = some (.int .u8 (x : Nat)) := fun w' g h => by rw [hx]; rw [hca] at h; exact blk_cell h (by omega)
  have hc2 : ∀ (w' : World) g, Blk w' g 22 cb → w'.cell? ⟨g, 0, none⟩ = some (.int .u8 (y : Nat)) := fun w' g h => by rw [hy]; rw [hcb] at h; exact blk_cell h (by omega)
  have HC1 := Lib.hid hc1; have HC2 := Lib.hid hc2; clear hc1 hc2 hx hy
  rw [← hca, ← hcb] at E1
  rw [← hck, ← hca] at HB1
  rw [← hck, ← hcb] at HB2
  rw [← hck, ← hca, ← hcb]
  clear hck hca hcb
  generalize (nbs (enc k a)).toArray = A at *
  generalize (nbs (enc k b)).toArray = B at *
  have hK0 : Blk (((w.alloc (.cells ck 22)).alloc (.cells ca 22)).alloc (.cells cb 22)) w.heap.size 22 ck := ((Blk.new _ _ _).alloc _).alloc _
  have hA0 : Blk (((w.alloc (.cells ck 22)).alloc (.cells ca 22)).alloc (.cells cb 22)) (w.heap.size + 1) 22 ca := (Blk.new' (by simp) rfl).alloc _
  have hB0 : Blk (((w.alloc (.cells ck 22)).alloc (.cells ca 22)).alloc (.cells cb 22)) (w.heap.size + 1 + 1) 22 cb := Blk.new' (by simp) rfl
  have hbel0 : Below w.heap.size w (((w.alloc (.cells ck 22)).alloc (.cells ca 22)).alloc (.cells cb 22)) := (((Below.refl _ _).alloc (Nat.le_refl _) _).alloc (by simp) _).alloc (by simp; omega) _
  have HK0 := Lib.hid hK0; have HA0 := Lib.hid hA0; have HB0 := Lib.hid hB0; have HBEL0 := Lib.hid hbel0; clear hK0 hA0 hB0 hbel0
  go_enter Try.func5, Try.ntmps5
  go_wp2_with fail
  refine (awake_any _).mono ?_
  rintro e w1 ⟨rfl, hbw⟩
  have hK1 := HK0.out.below hbw HK0.out.lt
  have hA1 := HA0.out.below hbw HA0.out.lt
  have hB1 := HB0.out.below hbw HB0.out.lt
  have hbel1 : Below w.heap.size w w1 := HBEL0.out.trans (hbw.mono HBEL0.out.size)
  clear HK0 HA0 HB0 HBEL0 hbw
  have HK1 := Lib.hid hK1; have HA1 := Lib.hid hA1; have HB1' := Lib.hid hB1; have HBEL1 := Lib.hid hbel1; clear hK1 hA1 hB1 hbel1
  go_wp2_with fail
  refine region_plan [(0, true), (1, true), (3, true), (4, true), (7, true), (8, true), (9, true), (2, false), (5, false), (6, true), (10, true), (11, true), (12, true), (13, true), (15, true), (16, true), (19, true), (20, true), (21, true), (22, true), (23, true), (14, false), (17, false), (18, true), (24, true), (25, true), (26, true)] [1, 2, 3, 4, 5, 6, 7, 8, 9, 14, 15, 16, 17, 18, 19, 20, 21, 22, 23] (fun w' => Blk w' w.heap.size 22 ck ∧ Blk w' (w.heap.size + 1) 22 ca ∧ Blk w' (w.heap.size + 1 + 1) 22 cb) (by kernel_rfl) (by kernel_rfl) rfl (by kernel_rfl) ⟨HK1.out, HA1.out, HB1'.out⟩ (fun hS => ?_)
  refine plan_row rfl (fun _ _ _ _ h => h) rfl hS 22 (.tmp 3) rfl w.heap.size rfl 22 ck _ (fun w' h => h.1) Try.underlying22 rfl (by rw [sk]; exact HI16.out) ?_; simp only [Act.put, List.setIfInBounds_toArray, List.set_cons_zero, List.set_cons_succ]
  refine plan_row rfl (fun _ _ _ _ h => h) rfl hS 22 (.tmp 4) rfl (w.heap.size + 1) rfl 22 ca _ (fun w' h => h.2.1) Try.underlying22 rfl (by rw [sa]; exact HI16.out) ?_; simp only [Act.put, List.setIfInBounds_toArray, List.set_cons_zero, List.set_cons_succ]
  refine plan_row rfl (fun _ _ _ _ h => h) rfl hS 22 (.tmp 3) rfl w.heap.size rfl 22 ck _ (fun w' h => h.1) Try.underlying22 rfl (by rw [sk]; exact HI16.out) ?_; simp only [Act.put, List.setIfInBounds_toArray, List.set_cons_zero, List.set_cons_succ]
  refine plan_row rfl (fun _ _ _ _ h => h) rfl hS 22 (.tmp 5) rfl (w.heap.size + 1 + 1) rfl 22 cb _ (fun w' h => h.2.2) Try.underlying22 rfl (by rw [sb']; exact HI16.out) ?_; simp only [Act.put, List.setIfInBounds_toArray, List.set_cons_zero, List.set_cons_succ]
  refine plan_row rfl (fun _ _ _ _ h => h) rfl hS 22 (.tmp 4) rfl (w.heap.size + 1) rfl 22 ca _ (fun w' h => h.2.1) Try.underlying22 rfl (by rw [sa]; exact HI16.out) ?_; simp only [Act.put, List.setIfInBounds_toArray, List.set_cons_zero, List.set_cons_succ]
  refine plan_row rfl (fun _ _ _ _ h => h) rfl hS 22 (.tmp 5) rfl (w.heap.size + 1 + 1) rfl 22 cb _ (fun w' h => h.2.2) Try.underlying22 rfl (by rw [sb']; exact HI16.out) ?_; simp only [Act.put, List.setIfInBounds_toArray, List.set_cons_zero, List.set_cons_succ]
  repeat (first
    | (refine plan_read (v := ?_) rfl (fun _ _ _ h => h) rfl hS ?_ ?_; rotate_left 1; (focus (intro w' hS'; go_simp; try rfl)); simp only [Act.put, List.setIfInBounds_toArray, List.set_cons_zero, List.set_cons_succ])
    | (refine plan_skip rfl (fun _ _ _ h => h) rfl hS ?_; simp only [Act.put, List.setIfInBounds_toArray, List.set_cons_zero, List.set_cons_succ]))
  refine plan_do (by rfl) (by rfl) (fun K hK => ?_)
  go_simp
  refine (HB1.out _).mono ?_
  rintro e w2 ⟨rfl, hb2⟩
  have hs2 : Blk w2 w.heap.size 22 ck ∧ Blk w2 (w.heap.size + 1) 22 ca ∧ Blk w2 (w.heap.size + 1 + 1) 22 cb := ⟨hS.1.below hb2 hS.1.lt, hS.2.1.below hb2 hS.2.1.lt, hS.2.2.below hb2 hS.2.2.lt⟩
  have hbel2 : Below w.heap.size w w2 := HBEL1.out.drew.trans (hb2.mono HBEL1.out.drew.size)
  refine hK.out _ _ (fun _ => hs2) (fun hS => ?_); clear hK K; replace hS := hS rfl; try simp only [Act.put, List.setIfInBounds_toArray, List.set_cons_zero, List.set_cons_succ]
  refine plan_do (by rfl) (by rfl) (fun K hK => ?_)
  go_simp
  refine (HB2.out _).mono ?_
  rintro e w3 ⟨rfl, hb3⟩
  have hs3 : Blk w3 w.heap.size 22 ck ∧ Blk w3 (w.heap.size + 1) 22 ca ∧ Blk w3 (w.heap.size + 1 + 1) 22 cb := ⟨hS.1.below hb3 hS.1.lt, hS.2.1.below hb3 hS.2.1.lt, hS.2.2.below hb3 hS.2.2.lt⟩
  have hbel3 : Below w.heap.size w w3 := hbel2.trans (hb3.mono hbel2.size)
  refine hK.out _ _ (fun _ => hs3) (fun hS => ?_); clear hK K; replace hS := hS rfl; try simp only [Act.put, List.setIfInBounds_toArray, List.set_cons_zero, List.set_cons_succ]
  repeat (first
    | (refine plan_read (v := ?_) rfl (fun _ _ _ h => h) rfl hS ?_ ?_; rotate_left 1; (focus (intro w' hS'; have hc1 := HC1.out _ _ hS'.2.1; have hc2 := HC2.out _ _ hS'.2.2; go_simp; try rfl)); simp only [Act.put, List.setIfInBounds_toArray, List.set_cons_zero, List.set_cons_succ])
    | (refine plan_skip rfl (fun _ _ _ h => h) rfl hS ?_; simp only [Act.put, List.setIfInBounds_toArray, List.set_cons_zero, List.set_cons_succ]))
  refine plan_do (by rfl) (by rfl) (fun K hK => ?_)
  go_simp
  refine (HX1.out _).mono ?_
  rintro e w' ⟨rfl, rfl⟩
  refine hK.out _ _ (fun _ => hS) (fun hS => ?_); clear hK K; replace hS := hS rfl; try simp only [Act.put, List.setIfInBounds_toArray, List.set_cons_zero, List.set_cons_succ]
  refine plan_do (by rfl) (by rfl) (fun K hK => ?_)
  go_simp
  refine (HX2.out _).mono ?_
  rintro e w' ⟨rfl, rfl⟩
  refine hK.out _ _ (fun _ => hS) (fun hS => ?_); clear hK K; replace hS := hS rfl; try simp only [Act.put, List.setIfInBounds_toArray, List.set_cons_zero, List.set_cons_succ]
  repeat (first
    | (refine plan_read (v := ?_) rfl (fun _ _ _ h => h) rfl hS ?_ ?_; rotate_left 1; (focus (intro w' hS'; go_simp; try rfl)); simp only [Act.put, List.setIfInBounds_toArray, List.set_cons_zero, List.set_cons_succ])
    | (refine plan_skip rfl (fun _ _ _ h => h) rfl hS ?_; simp only [Act.put, List.setIfInBounds_toArray, List.set_cons_zero, List.set_cons_succ]))
  refine plan_nil ?_
  go_wp2_with fail
  go_ret
  exact ⟨rfl, hbel3⟩
end Go.Proofs.Ytimaeghbjfialaa
