/-
  Write.
-/
import Derived.Test.YtnlghpopjckhiaaDisk3
import Derived.Test.YtnlghpopjckhiaaRegion
namespace Go.Proofs.Ytnlghpopjckhiaa
set_option maxRecDepth 4000
open Go.RowKit

set_option maxHeartbeats 1000000 in
theorem write_bad (b : Nat) (F : Nat → Prop) (D : Dk) (at_ : Int) (A : Option Addr) (c : Nat) (l : List UInt8) (w : World) (hD : DiskAt w b F D) (hok : D.Ok) (hlen : l.length ≤ 140737488355328) (he : D.writeE at_ l ≠ 0) :
    Calls Try.prog 41 #[.pointer (some ⟨b, 0, none⟩), .int .i64 at_, .slice A l.length c] w fun e w' => e = .returned (.int .i64 (D.writeE at_ l)) ∧ DiskTo w b F D w' := by
  by_cases h1 : l.length % 128 = 0
  · by_cases h2 : thereN at_ (l.length / 128) D.size = true
    · by_cases h3 : D.calls = 0
      · have hfin : D.writeE at_ l = 22 := by simp [Dk.writeE, h1, h2, h3]
        rw [hfin]
        have hd : decide (D.calls ≠ 0) = false := by simp [h3]
        have hn : ({ D with calls := nextCalls D.calls } : Dk) = D := by cases D; simp at h3; simp [nextCalls, h3]
        have ht := there_disk b F D at_ (l.length / 128 : Nat) w hD hok
        have hc := call_disk b F D w hD hok.hi
        rw [show thereB at_ ((l.length / 128 : Nat) : Int) D.size = true from h2] at ht
        rw [hd, hn] at hc
        have HT := Lib.hid ht; clear ht
        have HC := Lib.hid hc; clear hc
        have HN := Lib.hid hn; clear hn
        clear h2 h3 hd he hfin
        have h1' : (((l.length : Int) % 128) != 0) = false := by simp; omega
        go_enter Try.func41, Try.ntmps41
        go_wp2_with fail
        refine HT.out.mono ?_
        rintro e w' ⟨rfl, rfl⟩
        go_wp2_with fail
        refine HC.out.mono ?_
        rintro e w' ⟨rfl, hD', hF, _⟩
        go_wp2_with fail
        go_ret
        exact ⟨rfl, F, hD', hF, fun _ _ h => h⟩
      · exact absurd (by simp [Dk.writeE, h1, h2, h3]) he
    · have h2' : thereN at_ (l.length / 128) D.size = false := by simpa using h2
      have hfin : D.writeE at_ l = 20 := by simp [Dk.writeE, h1, h2']
      rw [hfin]
      have ht := there_disk b F D at_ (l.length / 128 : Nat) w hD hok
      rw [show thereB at_ ((l.length / 128 : Nat) : Int) D.size = false from h2'] at ht
      have HT := Lib.hid ht; clear ht
      clear h2 h2' he hfin
      have h1' : (((l.length : Int) % 128) != 0) = false := by simp; omega
      go_enter Try.func41, Try.ntmps41
      go_wp2_with fail
      refine HT.out.mono ?_
      rintro e w' ⟨rfl, rfl⟩
      go_wp2_with fail
      go_ret
      exact ⟨rfl, DiskTo.refl hD⟩
  · have hfin : D.writeE at_ l = 2 := by simp [Dk.writeE, h1]
    rw [hfin]
    have h1' : (((l.length : Int) % 128) != 0) = true := by simp; omega
    go_enter Try.func41, Try.ntmps41
    go_wp2_with fail
    go_ret
    exact ⟨rfl, DiskTo.refl hD⟩


/-- One sector more waits. -/
theorem push_step {w wr W1 W2 : World} {b : Nat} {F F' : Nat → Prop} {D : Dk} {a k m : Nat} {l : List UInt8} (hl : l.length = m * 128) (hk : k < m) (hfit : (a + m) * 128 ≤ D.safe.length)
    (hF1 : Fr F w wr) (hsub : ∀ k, k < w.heap.size → F' k → F k)
    {s sc : Nat} {cur : Array Value} {qA : Option Addr} {qc : Nat} {Q : List Qe}
    (h1 : Blk wr b 59 #[.slice (some ⟨s, 0, none⟩) D.safe.length sc, .slice qA Q.length qc, .int .i64 (nextCalls D.calls)]) (h2 : F' b)
    (h3 : Blk wr s 5 cur) (h4 : F' s) (h5 : D.safe.length ≤ sc) (h5a : sc ≤ maxLen) (h5b : cur.size = sc) (h5c : cur.toList.take D.safe.length = u8s D.safe)
    (h6 : wr.ownsRow 0 79 2 (.slice qA Q.length qc) Q.length (Q.flatMap Qe.cells)) (h7 : ∀ a, qA = some a → F' a.block)
    (h8 : ∀ q ∈ Q, wr.ownsRow 0 5 1 (.slice (some ⟨q.g, 0, none⟩) 128 q.cap) 128 (u8s q.l) ∧ F' q.g ∧ q.g ≠ s ∧ q.l.length = 128 ∧ (q.at_ + 1) * 128 ≤ D.safe.length)
    (h9 : (D.push a l k).queue = Q.map Qe.data)
    (hb1 : Below wr.heap.size wr W1) {g cap : Nat} (hg : wr.heap.size ≤ g) (hown1 : W1.ownsRow wr.heap.size 5 1 (.slice (some ⟨g, 0, none⟩) 128 cap) 128 (u8s (sect l k)))
    {cs : Array Value} {g2 cap2 : Nat} (hown2 : W2.ownsRow 0 79 2 (.slice (some ⟨g2, 0, none⟩) (Q.length + 1) cap2) (Q.length + 1) (Q.flatMap Qe.cells ++ [.int .i64 ((a : Int) + k), .slice (some ⟨g, 0, none⟩) 128 cap]))
    (hgrow2 : (W1.alloc (.cells cs 79)).grownBy W2 (Value.slice qA Q.length qc).ownBlock)
    (hat2 : (Value.slice (some ⟨g2, 0, none⟩) (Q.length + 1) cap2).ownBlock = (Value.slice qA Q.length qc).ownBlock ∨ (Value.slice (some ⟨g2, 0, none⟩) (Q.length + 1) cap2).ownBlock = some (W1.alloc (.cells cs 79)).heap.size) :
    DiskTo w b F (D.push a l (k + 1)) (W2.setCell ⟨b, 1, none⟩ (.slice (some ⟨g2, 0, none⟩) (Q.length + 1) cap2)) := by
  have hqb := own_ne h6 h1 (by decide)
  have hqs := own_ne h6 h3 (by decide)
  have hbl := h1.lt
  have hw1 := hb1.size
  have hqF : ∀ x, (Value.slice qA Q.length qc).ownBlock = some x → F' x := by
    intro x hx
    rcases qA with _ | ad
    · cases hx
    · simp [Value.ownBlock] at hx
      subst hx
      exact h7 ad rfl
  have hql : ∀ x, (Value.slice qA Q.length qc).ownBlock = some x → x < wr.heap.size := fun x hx => (h6.lt x hx).2
  have hf2 : Fr (fun x => (Value.slice qA Q.length qc).ownBlock = some x) wr W2 := by
    refine ((Fr.of_below hb1 _).trans (Fr.alloc W1 (.cells cs 79) (fun x => (Value.slice qA Q.length qc).ownBlock = some x)) (fun _ _ h => h)).trans (Fr.of_grown hgrow2 (fun k hk => hk)) (fun _ _ h => h)
  have hf3 : Fr (fun x => x = b ∨ (Value.slice qA Q.length qc).ownBlock = some x) wr (W2.setCell ⟨b, 1, none⟩ (.slice (some ⟨g2, 0, none⟩) (Q.length + 1) cap2)) :=
    (hf2.mono (fun _ _ h => .inr h)).trans (Fr.setCell (F := fun x => x = b ∨ (Value.slice qA Q.length qc).ownBlock = some x) W2 ⟨b, 1, none⟩ _ (.inl rfl)) (fun _ _ h => h)
  have hB2 : Blk W2 b 59 #[.slice (some ⟨s, 0, none⟩) D.safe.length sc, .slice qA Q.length qc, .int .i64 (nextCalls D.calls)] := h1.fr hf2 (fun h => hqb b h rfl)
  have hg2b : g2 ≠ b := by
    rcases hat2 with e | e
    · exact fun h => hqb g2 e.symm h
    · simp [Value.ownBlock] at e; omega
  have hgW2 : W2.heap[g]? = W1.heap[g]? := by
    have hlt : g < W1.heap.size := (hown1.lt g rfl).2
    rw [hgrow2.block g (by simp; omega) (fun e => by have := hql g e.symm; omega)]
    exact Below.heap_alloc _ _ _ hlt
  refine ⟨fun x => F' x ∨ wr.heap.size ≤ x, ⟨s, sc, cur, some ⟨g2, 0, none⟩, cap2, Q ++ [⟨a + k, g, cap, sect l k⟩], ⟨?_, .inl h2⟩, ⟨h3.fr hf3 (by
      rintro (h | h)
      · exact h3.same h1 (by decide) h
      · exact hqs s h rfl), .inl h4, h5, h5a, h5b, h5c⟩, ⟨?_, ?_⟩, ?_, ?_⟩, ?_, ?_⟩
  · have := hB2.set_ 1 (.slice (some ⟨g2, 0, none⟩) (Q.length + 1) cap2)
    simpa [Dk.push] using this
  · rw [List.length_append, List.flatMap_append]
    have : List.flatMap Qe.cells [⟨a + k, g, cap, sect l k⟩] = [.int .i64 ((a : Int) + k), .slice (some ⟨g, 0, none⟩) 128 cap] := by simp [Qe.cells]
    rw [this]
    exact own_keep hown2 (fun x hx => Below.heap_setCell _ _ _ _ (by simp [Value.ownBlock] at hx; subst hx; exact hg2b))
  · intro ad had
    injection had with had
    subst had
    rcases hat2 with e | e
    · exact .inl (hqF g2 e.symm)
    · simp [Value.ownBlock] at e; exact .inr (by show _ ≤ g2; omega)
  · intro q hq
    rcases List.mem_append.1 hq with hq | hq
    · obtain ⟨a1, a2, a3⟩ := h8 q hq
      exact ⟨own_fr a1 hf3 (by
        intro x hx
        rintro (h | h)
        · exact own_ne a1 h1 (by decide) x hx h
        · exact own_ne2 a1 h6 (by decide) x hx h), .inl a2, a3⟩
    · simp at hq
      subst hq
      refine ⟨own_base (own_keep hown1 ?_) (Nat.zero_le _), .inr hg, ?_, length_sect l k (by omega), by show (a + k + 1) * 128 ≤ D.safe.length; omega⟩
      · intro x hx
        simp [Value.ownBlock] at hx
        subst hx
        rw [Below.heap_setCell _ _ _ _ (show g ≠ b by omega)]
        exact hgW2
      · have := h3.lt; show g ≠ s; omega
  · have := congrArg (· ++ [(a + k, sect l k)]) h9
    simp only [Dk.push, parts_succ, List.map_append] at this ⊢
    rw [← List.append_assoc]
    exact this
  · refine hF1.trans hf3 (fun x hx h => hsub x hx ?_)
    rcases h with h | h
    · rw [h]; exact h2
    · exact hqF x h
  · intro x hx h
    rcases h with h | h
    · exact hsub x hx h
    · have := hF1.size; omega

set_option maxHeartbeats 1000000 in
theorem write_good (b : Nat) (F : Nat → Prop) (D : Dk) (a m : Nat) (A : Option Addr) (c : Nat) (l : List UInt8) (w : World) (hD : DiskAt w b F D) (hok : D.Ok) (hlen : l.length = m * 128) (hc : m * 128 ≤ c) (hcm : c ≤ maxLen)
    (hS : Sees w 1 A (m * 128) (u8s l)) (hA : 0 < m → ∀ a, A = some a → ¬ F a.block) (hq : D.queue.length ≤ 1099511627776) (hfit : (a + m) * 128 ≤ D.safe.length) (hcl : D.calls ≠ 0) :
    Calls Try.prog 41 #[.pointer (some ⟨b, 0, none⟩), .int .i64 a, .slice A (m * 128 : Nat) c] w fun e w' => e = .returned (.int .i64 0) ∧ DiskTo w b F (D.push a l m) w' := by
  have hmost := hok.most
  have ht := there_disk b F D a m w hD hok
  have hth : thereB a m D.size = true := by
    simp only [thereB, Dk.size]
    exact decide_eq_true (by have := hok.whole; omega)
  rw [hth] at ht
  have hc2 := call_disk b F D w hD hok.hi
  rw [show decide (D.calls ≠ 0) = true by simp [hcl]] at hc2
  have HT := Lib.hid ht; clear ht
  have HC := Lib.hid hc2; clear hc2
  have HL := Lib.hid hlen; clear hlen hth
  have h1' : (((m * 128 : Nat) : Int) % 128 != 0) = false := by simp
  go_enter Try.func41, Try.ntmps41
  go_wp2_with fail
  refine HT.out.mono ?_
  rintro e w' ⟨rfl, rfl⟩
  go_wp2_with fail
  refine HC.out.mono ?_
  rintro e w' ⟨rfl, hD', hF, _⟩
  go_wp2_with fail
  have h0 : DiskTo w b F (D.push a l 0) w' := ⟨F, by simpa [Dk.push, parts_zero] using hD', hF, fun _ _ h => h⟩
  go_loopw [28] (fun i wr => ∃ k : Nat, k ≤ m ∧ i = .int .i64 k ∧ DiskTo w b F (D.push a l k) wr) (fun i _ => m - (intOf i).toNat)
  case atStart => exact ⟨0, Nat.zero_le _, rfl, h0⟩
  case round =>
    obtain ⟨k, hk, rfl, F', hD1, hF1, hsub⟩ := hrel
    by_cases hlt : k < m
    · have hlti : (k : Int) < (m : Int) := by omega
      obtain ⟨sg, so, rfl, -⟩ := hS.2 (by omega)
      have hSr : Sees wr 1 (some ⟨sg, so, none⟩) (m * 128) (u8s l) := hS.fr hF1 (fun h => hA (by omega))
      have hsp : Sees wr 1 (some ⟨sg, so + k * 128, none⟩) 128 (u8s (sect l k)) := by
        have := hSr.piece (k * 128) 128 (by omega)
        rwa [← u8s_drop, ← u8s_take] at this
      obtain ⟨s, sc, cur, qA, qc, Q, ⟨h1, h2⟩, ⟨h3, h4, h5, h5a, h5b, h5c⟩, ⟨h6, h7⟩, h8, h9⟩ := hD1
      have c1 : wr.cell? ⟨b, 1, none⟩ = some (.slice qA Q.length qc) := h1.cell 1
      have hQl : Q.length ≤ 1099511627776 + k := by
        have := congrArg List.length h9
        simp [Dk.push, parts] at this
        omega
      have hqb := own_ne h6 h1 (by decide)
      have HA := Lib.hid hA; clear hA
      have H1 := Lib.hid h1; clear h1
      have H3 := Lib.hid h3; clear h3
      have H5b := Lib.hid h5b; clear h5b
      have H5c := Lib.hid h5c; clear h5c
      have H9 := Lib.hid h9; clear h9
      have H7 := Lib.hid h7; clear h7
      have H8 := Lib.hid h8; clear h8
      have HQB := Lib.hid hqb; clear hqb
      have HS := Lib.hid hS; clear hS
      have hak : (a : Int) + (k : Int) ≤ 8388608 := by omega
      have hsum : IntKind.i64.wrap ((a : Int) + (k : Int)) = (a : Int) + (k : Int) := IntWalk.i64_in _ (by omega)
      go_wp2_with fail
      refine region_fast [(0, true), (1, true), (2, true), (3, true), (4, true), (5, true), (6, true), (7, true), (8, true), (9, true), (10, false), (11, false), (12, true), (13, false), (14, false), (15, true), (16, true), (17, false)] [1, 2, 3, 4, 5, 6, 7, 8, 9, 10, 11, 12, 13, 14] 32766 [(2147483648, 1, 0, 0), (4294967296, 1, 0, 0), (8589934592, 4294967296, 2, 2), (17179869184, 8589934592, 4, 6), (34359738368, 17179869184, 8, 14), (68719476736, 2, 0, 0), (137438953472, 256, 0, 0), (274877906944, 206158430208, 96, 96), (549755813888, 4, 0, 0), (1099511627776, 256, 0, 0), (2199023255552, 1649267441664, 768, 768), (4398046511104, 2199023255552, 1024, 1792), (8796093022208, 4672924418048, 2176, 4064), (17592186044416, 8796093022208, 4096, 8160), (35184372088832, 17626545782784, 10256, 16382), (70368744177664, 2147483648, 32767, 32767), (140737488355328, 70368744177664, 65535, 65535), (0, 175921860444160, 98303, 131071)] (fun w' => w'.cell? ⟨b, 1, none⟩ = some (.slice qA Q.length qc)) (by kernel_rfl) (by kernel_rfl) (by kernel_rfl) rfl (by kernel_rfl) (by kernel_rfl) c1 (fun hS => ?_)
      repeat (refine plan_read (v := ?_) rfl (fun _ _ _ h => h) rfl hS ?_ ?_; rotate_left 1; (focus (intro w' hS'; go_simp; try rfl)); simp only [Act.put, List.setIfInBounds_toArray, List.set_cons_zero, List.set_cons_succ])
      -- part
      refine plan_do (by rfl) (by rfl) (fun K hK => ?_)
      go_simp
      refine (part_any sg so (m * 128) c k _ hc hcm (by omega) (by omega)).mono ?_
      rintro e w' ⟨⟨c', hc1, hc2, rfl⟩, rfl⟩
      refine hK.out _ _ (fun _ => hS) (fun _ => ?_); clear hK K
      try simp only [Act.put, List.setIfInBounds_toArray, List.set_cons_zero, List.set_cons_succ]
      -- Clone
      refine plan_do (by rfl) (by rfl) (fun K hK => ?_)
      go_simp
      refine (clone_any _ 128 _ (u8s (sect l k)) _ (by exact hsp) (u8s_one _) (by omega)).mono ?_
      rintro e W1 ⟨v, rfl, hown1, hb1⟩
      obtain ⟨g, cap, cur1, rfl, hg, hblk, hcap, hcapm, hcs, htk⟩ := own_open hown1 (by omega)
      have hq1 := own_below h6.drew hb1
      have hB1 : Blk W1 b 59 #[.slice (some ⟨s, 0, none⟩) D.safe.length sc, .slice qA Q.length qc, .int .i64 (nextCalls D.calls)] := (show Blk wr.drew b _ _ from H1.out).below hb1 H1.out.lt
      have c1w : W1.cell? ⟨b, 1, none⟩ = some (.slice qA Q.length qc) := hB1.cell 1
      refine hK.out _ _ (fun _ => c1w) (fun hS => ?_); clear hK K
      replace hS := hS rfl
      try simp only [Act.put, List.setIfInBounds_toArray, List.set_cons_zero, List.set_cons_succ]
      have HB1 := Lib.hid hB1; clear hB1
      have Hblk := Lib.hid hblk; clear hblk
      have Hcs := Lib.hid hcs; clear hcs
      have Htk := Lib.hid htk; clear htk
      repeat (refine plan_read (v := ?_) rfl (fun _ _ _ h => h) rfl hS ?_ ?_; rotate_left 1; (focus (intro w' hS'; go_simp; try rfl)); simp only [Act.put, List.setIfInBounds_toArray, List.set_cons_zero, List.set_cons_succ])
      refine plan_do (by rfl) (by rfl) (fun K hK => ?_)
      go_simp
      refine hK.out _ _ (fun _ => (HB1.out.alloc _).cell 1) (fun hS => ?_); clear hK K
      replace hS := hS rfl
      try simp only [Act.put, List.setIfInBounds_toArray, List.set_cons_zero, List.set_cons_succ]
      -- append
      refine plan_do (by rfl) (by rfl) (fun K hK => ?_)
      refine wp_app (.tmp 35) (.tmp 44) 57 rfl 0 79 _ 2 32 Try.underlying57 info_write rfl (by decide) (.slice qA Q.length qc) Q.length (Q.flatMap Qe.cells) rfl (own_below hq1 ((Below.refl _ _).alloc (Nat.le_refl _) _)) _ 1 _ [.int .i64 ((a : Int) + k), .slice (some ⟨g, 0, none⟩) 128 cap] rfl ?_ ?_ (by unfold maxLen; omega) (by omega) (Nat.zero_le _) ?_
      · refine ⟨rfl, fun _ => ⟨_, 0, rfl, fun j u hu => ?_⟩⟩
        rw [Nat.zero_add, (Blk.new _ _ _).cell j, List.getElem?_toArray]
        exact hu
      · intro u hu
        simp at hu
        rcases hu with rfl | rfl <;> rfl
      intro v2 W2 hown2 hgrow2 hat2 hnil2
      obtain ⟨g2, cap2, cur2, rfl, hg2, hblk2, r2⟩ := own_open hown2 (by omega)
      have hB2 := (HB1.out.alloc (.cells #[.int .i64 ((a : Int) + k), .slice (some ⟨g, 0, none⟩) 128 cap] 79)).keep (hgrow2.block b (by have := HB1.out.lt; simp; omega) (fun e => HQB.out b e.symm rfl))
      have c2 : W2.cell? ⟨b, 1, none⟩ = some (.slice qA Q.length qc) := hB2.cell 1
      have f2 := hB2.frozen 1
      have HB2 := Lib.hid hB2; clear hB2
      have Hblk2 := Lib.hid hblk2; clear hblk2
      refine hK.out _ _ (fun _ => c2) (fun hS => ?_); clear hK K
      replace hS := hS rfl
      try simp only [Act.put, List.setIfInBounds_toArray, List.set_cons_zero, List.set_cons_succ]
      repeat (refine plan_read (v := ?_) rfl (fun _ _ _ h => h) rfl hS ?_ ?_; rotate_left 1; (focus (intro w' hS'; go_simp; try rfl)); simp only [Act.put, List.setIfInBounds_toArray, List.set_cons_zero, List.set_cons_succ])
      -- store
      refine plan_do (by rfl) (by rfl) (fun K hK => ?_)
      go_simp
      refine hK.out _ _ (fun h => by cases h) (fun _ => ?_); clear hK K
      try simp only [Act.put, List.setIfInBounds_toArray, List.set_cons_zero, List.set_cons_succ]
      refine plan_nil ?_
      go_wp2_with fail
      go_roundw
      case rel => exact ⟨k + 1, by omega, by go_num, push_step HL.out hlt hfit hF1 hsub H1.out h2 H3.out h4 h5 h5a H5b.out H5c.out h6 H7.out H8.out H9.out (below_of_drew hb1) hg hown1 hown2 hgrow2 hat2⟩
      case measure => simp [intOf]; omega
    · obtain rfl : k = m := by omega
      have hge : ¬ ((k : Int) < (k : Int)) := by omega
      go_wp2_with fail
      go_ret
      exact ⟨rfl, F', hD1, hF1, hsub⟩
end Go.Proofs.Ytnlghpopjckhiaa
