/-
  Write.
  Write.
  New, Flush, Read.
  fault.Wrap.
  The table of keys, as plain data and in memory.
-/
import Derived.Test.YtkgaeoeibjoljaaGreatDoorGC
import Derived.Deep.AppendLies
import Derived.Test.YtkgaeoeibjoljaaGreatDoorGA
import Derived.OwnWalk
namespace Go.Proofs.YtkgaeoeibjoljaaGreatDoor
section
set_option maxRecDepth 4000
open Go.RowKit
theorem info_write : (Tryz.prog.info? 164).map (fun i => (i.zero, i.size, i.bytes)) = some (some (.agg #[.int .i64 0, .slice none 0 0]), 2, 32) := by kernel_rfl
def DiskTo (w : World) (b : Nat) (F : Nat -> Prop) (D : Dk) (w' : World) : Prop :=
 ∃ F', DiskAt w' b F' D /\ Fr F w w' /\ ∀ k, k < w.heap.size -> F' k -> F k
theorem DiskTo.refl {w : World} {b : Nat} {F : Nat -> Prop} {D : Dk} (h : DiskAt w b F D) : DiskTo w b F D w := ⟨F, h, Fr.refl _ _, fun _ _ h => h⟩
theorem DiskAt.restrict {w : World} {b : Nat} {F : Nat -> Prop} {D : Dk} (h : DiskAt w b F D) : DiskAt w b (fun k => F k /\ k < w.heap.size) D := by
 obtain ⟨s, sc, cur, qA, qc, Q, ⟨h1, h2⟩, ⟨h3, h4, h5⟩, ⟨h6, h7⟩, h8, h9⟩ := h
 refine ⟨s, sc, cur, qA, qc, Q, ⟨h1, h2, h1.lt⟩, ⟨h3, ⟨h4, h3.lt⟩, h5⟩, ⟨h6, fun a ha => ⟨h7 a ha, ?_⟩⟩, fun q hq => ⟨(h8 q hq).1, ⟨(h8 q hq).2.1, ((h8 q hq).1.lt q.g rfl).2⟩, (h8 q hq).2.2⟩, h9⟩
 subst ha
 exact (h6.lt a.block rfl).2
theorem DiskAt.set2 {w w' : World} {b : Nat} {F : Nat -> Prop} {D : Dk} {u : Value × Value} {k : Int} (h : DiskAt w b F D) (hu : Blk w b 104 #[u.1, u.2, .int .i64 D.calls]) (hb : Blk w' b 104 #[u.1, u.2, .int .i64 k]) (hf : Fr (· = b) w w') :
  DiskAt w' b F { D with calls := k } := by
 obtain ⟨s, sc, cur, qA, qc, Q, ⟨h1, h2⟩, ⟨h3, h4, h5⟩, ⟨h6, h7⟩, h8, h9⟩ := h
 have e := hu.symm.trans h1
 simp at e
 obtain ⟨e1, e2⟩ := e
 refine ⟨s, sc, cur, qA, qc, Q, ⟨by rw [<- e1, <- e2]; exact hb, h2⟩, ⟨h3.fr hf (h3.same h1 (by decide)), h4, h5⟩, ⟨own_fr h6 hf (own_ne h6 h1 (by decide)), h7⟩, fun q hq => ⟨own_fr (h8 q hq).1 hf (own_ne (h8 q hq).1 h1 (by decide)), (h8 q hq).2⟩, h9⟩
theorem call_disk (b : Nat) (F : Nat -> Prop) (D : Dk) (w : World) (hD : DiskAt w b F D) (hhi : D.calls <= 9223372036854775807) :
  Calls Tryz.prog 139 #[.pointer (some ⟨b, 0, none⟩)] w fun e w' => e = .returned (.bool (decide (D.calls ≠ 0))) /\ DiskAt w' b F { D with calls := nextCalls D.calls } /\ Fr F w w' /\ w'.heap.size = w.heap.size := by
 have hD' := hD
 obtain ⟨s, sc, cur, qA, qc, Q, ⟨h1, h2⟩, -⟩ := hD
 refine (call_any b D.calls (_, _) w h1 hhi).mono ?_
 rintro e w' ⟨rfl, hb, hf, hz⟩
 exact ⟨rfl, hD'.set2 (u := (_, _)) h1 hb hf, hf.mono (fun k _ hk => by subst hk; exact h2), hz⟩
theorem there_disk (b : Nat) (F : Nat -> Prop) (D : Dk) (at_ k : Int) (w : World) (hD : DiskAt w b F D) (hok : D.Ok) :
  Calls Tryz.prog 138 #[.pointer (some ⟨b, 0, none⟩), .int .i64 at_, .int .i64 k] w fun e w' => e = .returned (.bool (thereB at_ k D.size)) /\ w = w' := by
 obtain ⟨s, sc, cur, qA, qc, Q, ⟨h1, h2⟩, -⟩ := hD
 exact there_any b at_ k _ D.safe.length sc w (by have := hok.most; unfold maxLen; omega) (h1.cell 0)
end
section
set_option maxRecDepth 4000
open Go.RowKit
set_option maxHeartbeats 1000000 in
theorem write_bad (b : Nat) (F : Nat -> Prop) (D : Dk) (at_ : Int) (A : Option Addr) (c : Nat) (l : List UInt8) (w : World) (hD : DiskAt w b F D) (hok : D.Ok) (hlen : l.length <= 140737488355328) (he : D.writeE at_ l ≠ 0) :
  Calls Tryz.prog 95 #[.pointer (some ⟨b, 0, none⟩), .int .i64 at_, .slice A l.length c] w fun e w' => e = .returned (.int .i64 (D.writeE at_ l)) /\ DiskTo w b F D w' := by
 by_cases h1 : l.length % 128 = 0
 ·by_cases h2 : thereN at_ (l.length / 128) D.size = true
  ·by_cases h3 : D.calls = 0
   ·have hfin : D.writeE at_ l = 22 := by simp [Dk.writeE, h1, h2, h3]
    rw [hfin]
    have hd : decide (D.calls ≠ 0) = false := by simp [h3]
    have hn : ({ D with calls := nextCalls D.calls } : Dk) = D := by cases D; simp at h3; simp [nextCalls, h3]
    have ht := there_disk b F D at_ (l.length / 128 : Nat) w hD hok
    have hc := call_disk b F D w hD hok.hi
    rw [show thereB at_ ((l.length / 128 : Nat) : Int) D.size = true from h2] at ht
    rw [hd, hn] at hc
    have HT := Lh ht; clear ht
    have HC := Lh hc; clear hc
    have HN := Lh hn; clear hn
    clear h2 h3 hd he hfin
    have h1' : (((l.length : Int) % 128) != 0) = false := by simp; omega
    go_enter Tryz.func95, Tryz.ntmps95
    go_wp2_with fail
    refine HT.out.mono ?_
    rintro e w' ⟨rfl, rfl⟩
    go_wp2_with fail
    refine HC.out.mono ?_
    rintro e w' ⟨rfl, hD', hF, _⟩
    go_wp2_with fail
    go_ret
    exact ⟨rfl, F, hD', hF, fun _ _ h => h⟩
   ·exact absurd (by simp [Dk.writeE, h1, h2, h3]) he
  ·have h2' : thereN at_ (l.length / 128) D.size = false := by simpa using h2
   have hfin : D.writeE at_ l = 20 := by simp [Dk.writeE, h1, h2']
   rw [hfin]
   have ht := there_disk b F D at_ (l.length / 128 : Nat) w hD hok
   rw [show thereB at_ ((l.length / 128 : Nat) : Int) D.size = false from h2'] at ht
   have HT := Lh ht; clear ht
   clear h2 h2' he hfin
   have h1' : (((l.length : Int) % 128) != 0) = false := by simp; omega
   go_enter Tryz.func95, Tryz.ntmps95
   go_wp2_with fail
   refine HT.out.mono ?_
   rintro e w' ⟨rfl, rfl⟩
   go_wp2_with fail
   go_ret
   exact ⟨rfl, DiskTo.refl hD⟩
 ·have hfin : D.writeE at_ l = 2 := by simp [Dk.writeE, h1]
  rw [hfin]
  have h1' : (((l.length : Int) % 128) != 0) = true := by simp; omega
  go_enter Tryz.func95, Tryz.ntmps95
  go_wp2_with fail
  go_ret
  exact ⟨rfl, DiskTo.refl hD⟩
theorem push_step {w wr W1 W2 : World} {b : Nat} {F F' : Nat -> Prop} {D : Dk} {a k m : Nat} {l : List UInt8} (hl : l.length = m * 128) (hk : k < m) (hfit : (a + m) * 128 <= D.safe.length)
  (hF1 : Fr F w wr) (hsub : ∀ k, k < w.heap.size -> F' k -> F k)
  {s sc : Nat} {cur : Array Value} {qA : Option Addr} {qc : Nat} {Q : List Qe}
  (h1 : Blk wr b 104 #[.slice (some ⟨s, 0, none⟩) D.safe.length sc, .slice qA Q.length qc, .int .i64 (nextCalls D.calls)]) (h2 : F' b)
  (h3 : Blk wr s 5 cur) (h4 : F' s) (h5 : D.safe.length <= sc) (h5a : sc <= maxLen) (h5b : cur.size = sc) (h5c : cur.toList.take D.safe.length = u8s D.safe)
  (h6 : wr.ownsRow 0 164 2 (.slice qA Q.length qc) Q.length (Q.flatMap Qe.cells)) (h7 : ∀ a, qA = some a -> F' a.block)
  (h8 : ∀ q ∈ Q, wr.ownsRow 0 5 1 (.slice (some ⟨q.g, 0, none⟩) 128 q.cap) 128 (u8s q.l) /\ F' q.g /\ q.g ≠ s /\ q.l.length = 128 /\ (q.at_ + 1) * 128 <= D.safe.length)
  (h9 : (D.push a l k).queue = Q.map Qe.data)
  (hb1 : Below wr.heap.size wr W1) {g cap : Nat} (hg : wr.heap.size <= g) (hown1 : W1.ownsRow wr.heap.size 5 1 (.slice (some ⟨g, 0, none⟩) 128 cap) 128 (u8s (sect l k)))
  {cs : Array Value} {g2 cap2 : Nat} (hown2 : W2.ownsRow 0 164 2 (.slice (some ⟨g2, 0, none⟩) (Q.length + 1) cap2) (Q.length + 1) (Q.flatMap Qe.cells ++ [.int .i64 ((a : Int) + k), .slice (some ⟨g, 0, none⟩) 128 cap]))
  (hgrow2 : (W1.alloc (.cells cs 164)).grownBy W2 (Value.slice qA Q.length qc).ownBlock)
  (hat2 : (Value.slice (some ⟨g2, 0, none⟩) (Q.length + 1) cap2).ownBlock = (Value.slice qA Q.length qc).ownBlock \/ (Value.slice (some ⟨g2, 0, none⟩) (Q.length + 1) cap2).ownBlock = some (W1.alloc (.cells cs 164)).heap.size) :
  DiskTo w b F (D.push a l (k + 1)) (W2.setCell ⟨b, 1, none⟩ (.slice (some ⟨g2, 0, none⟩) (Q.length + 1) cap2)) := by
 have hqb := own_ne h6 h1 (by decide)
 have hqs := own_ne h6 h3 (by decide)
 have hbl := h1.lt
 have hw1 := hb1.size
 have hqF : ∀ x, (Value.slice qA Q.length qc).ownBlock = some x -> F' x := by
  intro x hx
  rcases qA with _ | ad
  ·cases hx
  ·simp [Value.ownBlock] at hx
   subst hx
   exact h7 ad rfl
 have hql : ∀ x, (Value.slice qA Q.length qc).ownBlock = some x -> x < wr.heap.size := fun x hx => (h6.lt x hx).2
 have hf2 : Fr (fun x => (Value.slice qA Q.length qc).ownBlock = some x) wr W2 := by
  refine ((Fr.of_below hb1 _).trans (Fr.alloc W1 (.cells cs 164) (fun x => (Value.slice qA Q.length qc).ownBlock = some x)) (fun _ _ h => h)).trans (Fr.of_grown hgrow2 (fun k hk => hk)) (fun _ _ h => h)
 have hf3 : Fr (fun x => x = b \/ (Value.slice qA Q.length qc).ownBlock = some x) wr (W2.setCell ⟨b, 1, none⟩ (.slice (some ⟨g2, 0, none⟩) (Q.length + 1) cap2)) :=
  (hf2.mono (fun _ _ h => .inr h)).trans (Fr.setCell (F := fun x => x = b \/ (Value.slice qA Q.length qc).ownBlock = some x) W2 ⟨b, 1, none⟩ _ (.inl rfl)) (fun _ _ h => h)
 have hB2 : Blk W2 b 104 #[.slice (some ⟨s, 0, none⟩) D.safe.length sc, .slice qA Q.length qc, .int .i64 (nextCalls D.calls)] := h1.fr hf2 (fun h => hqb b h rfl)
 have hg2b : g2 ≠ b := by
  rcases hat2 with e | e
  ·exact fun h => hqb g2 e.symm h
  ·simp [Value.ownBlock] at e; omega
 have hgW2 : W2.heap[g]? = W1.heap[g]? := by
  have hlt : g < W1.heap.size := (hown1.lt g rfl).2
  rw [hgrow2.block g (by simp; omega) (fun e => by have := hql g e.symm; omega)]
  exact Below.heap_alloc _ _ _ hlt
 refine ⟨fun x => F' x \/ wr.heap.size <= x, ⟨s, sc, cur, some ⟨g2, 0, none⟩, cap2, Q ++ [⟨a + k, g, cap, sect l k⟩], ⟨?_, .inl h2⟩, ⟨h3.fr hf3 (by
   rintro (h | h)
   ·exact h3.same h1 (by decide) h
   ·exact hqs s h rfl), .inl h4, h5, h5a, h5b, h5c⟩, ⟨?_, ?_⟩, ?_, ?_⟩, ?_, ?_⟩
 ·have := hB2.set_ 1 (.slice (some ⟨g2, 0, none⟩) (Q.length + 1) cap2)
  simpa [Dk.push] using this
 ·rw [List.length_append, List.flatMap_append]
  have : List.flatMap Qe.cells [⟨a + k, g, cap, sect l k⟩] = [.int .i64 ((a : Int) + k), .slice (some ⟨g, 0, none⟩) 128 cap] := by simp [Qe.cells]
  rw [this]
  exact own_keep hown2 (fun x hx => Below.heap_setCell _ _ _ _ (by simp [Value.ownBlock] at hx; subst hx; exact hg2b))
 ·intro ad had
  injection had with had
  subst had
  rcases hat2 with e | e
  ·exact .inl (hqF g2 e.symm)
  ·simp [Value.ownBlock] at e; exact .inr (by show _ <= g2; omega)
 ·intro q hq
  rcases List.mem_append.1 hq with hq | hq
  ·obtain ⟨a1, a2, a3⟩ := h8 q hq
   exact ⟨own_fr a1 hf3 (by
    intro x hx
    rintro (h | h)
    ·exact own_ne a1 h1 (by decide) x hx h
    ·exact own_ne2 a1 h6 (by decide) x hx h), .inl a2, a3⟩
  ·simp at hq
   subst hq
   refine ⟨own_base (own_keep hown1 ?_) (Nat.zero_le _), .inr hg, ?_, length_sect l k (by omega), by show (a + k + 1) * 128 <= D.safe.length; omega⟩
   ·intro x hx
    simp [Value.ownBlock] at hx
    subst hx
    rw [Below.heap_setCell _ _ _ _ (show g ≠ b by omega)]
    exact hgW2
   ·have := h3.lt; show g ≠ s; omega
 ·have := congrArg (· ++ [(a + k, sect l k)]) h9
  simp only [Dk.push, parts_succ, List.map_append] at this ⊢
  rw [<- List.append_assoc]
  exact this
 ·refine hF1.trans hf3 (fun x hx h => hsub x hx ?_)
  rcases h with h | h
  ·rw [h]; exact h2
  ·exact hqF x h
 ·intro x hx h
  rcases h with h | h
  ·exact hsub x hx h
  ·have := hF1.size; omega
set_option maxHeartbeats 1000000 in
theorem write_good (b : Nat) (F : Nat -> Prop) (D : Dk) (a m : Nat) (A : Option Addr) (c : Nat) (l : List UInt8) (w : World) (hD : DiskAt w b F D) (hok : D.Ok) (hlen : l.length = m * 128) (hc : m * 128 <= c) (hcm : c <= maxLen)
  (hS : Sees w 1 A (m * 128) (u8s l)) (hA : 0 < m -> ∀ a, A = some a -> ¬ F a.block) (hq : D.queue.length <= 1099511627776) (hfit : (a + m) * 128 <= D.safe.length) (hcl : D.calls ≠ 0) :
  Calls Tryz.prog 95 #[.pointer (some ⟨b, 0, none⟩), .int .i64 a, .slice A (m * 128 : Nat) c] w fun e w' => e = .returned (.int .i64 0) /\ DiskTo w b F (D.push a l m) w' := by
 have hmost := hok.most
 have ht := there_disk b F D a m w hD hok
 have hth : thereB a m D.size = true := by
  simp only [thereB, Dk.size]
  exact decide_eq_true (by have := hok.whole; omega)
 rw [hth] at ht
 have hc2 := call_disk b F D w hD hok.hi
 rw [show decide (D.calls ≠ 0) = true by simp [hcl]] at hc2
 have HT := Lh ht; clear ht
 have HC := Lh hc2; clear hc2
 have HL := Lh hlen; clear hlen hth
 have h1' : (((m * 128 : Nat) : Int) % 128 != 0) = false := by simp
 go_enter Tryz.func95, Tryz.ntmps95
 go_wp2_with fail
 refine HT.out.mono ?_
 rintro e w' ⟨rfl, rfl⟩
 go_wp2_with fail
 refine HC.out.mono ?_
 rintro e w' ⟨rfl, hD', hF, _⟩
 go_wp2_with fail
 have h0 : DiskTo w b F (D.push a l 0) w' := ⟨F, by simpa [Dk.push, parts_zero] using hD', hF, fun _ _ h => h⟩
 go_loopw [28] (fun i wr => ∃ k : Nat, k <= m /\ i = .int .i64 k /\ DiskTo w b F (D.push a l k) wr) (fun i _ => m - (intOf i).toNat)
 case atStart => exact ⟨0, Nat.zero_le _, rfl, h0⟩
 case round =>
  obtain ⟨k, hk, rfl, F', hD1, hF1, hsub⟩ := hrel
  by_cases hlt : k < m
  ·have hlti : (k : Int) < (m : Int) := by omega
   obtain ⟨sg, so, rfl, -⟩ := hS.2 (by omega)
   have hSr : Sees wr 1 (some ⟨sg, so, none⟩) (m * 128) (u8s l) := hS.fr hF1 (fun h => hA (by omega))
   have hsp : Sees wr 1 (some ⟨sg, so + k * 128, none⟩) 128 (u8s (sect l k)) := by
    have := hSr.piece (k * 128) 128 (by omega)
    rwa [<- u8s_drop, <- u8s_take] at this
   obtain ⟨s, sc, cur, qA, qc, Q, ⟨h1, h2⟩, ⟨h3, h4, h5, h5a, h5b, h5c⟩, ⟨h6, h7⟩, h8, h9⟩ := hD1
   have c1 : wr.cell? ⟨b, 1, none⟩ = some (.slice qA Q.length qc) := h1.cell 1
   have hQl : Q.length <= 1099511627776 + k := by
    have := congrArg List.length h9
    simp [Dk.push, parts] at this
    omega
   have hqb := own_ne h6 h1 (by decide)
   have HA := Lh hA; clear hA
   have H1 := Lh h1; clear h1
   have H3 := Lh h3; clear h3
   have H5b := Lh h5b; clear h5b
   have H5c := Lh h5c; clear h5c
   have H9 := Lh h9; clear h9
   have H7 := Lh h7; clear h7
   have H8 := Lh h8; clear h8
   have HQB := Lh hqb; clear hqb
   have HS := Lh hS; clear hS
   have hak : (a : Int) + (k : Int) <= 8388608 := by omega
   have hsum : IntKind.i64.wrap ((a : Int) + (k : Int)) = (a : Int) + (k : Int) := IntWalk.i64_in _ (by omega)
   go_wp2_with fail
   refine region_fast [(0, true), (1, true), (2, true), (3, true), (4, true), (5, true), (6, true), (7, true), (8, true), (9, true), (10, false), (11, false), (12, true), (13, false), (14, false), (15, true), (16, true), (17, false)] [1, 2, 3, 4, 5, 6, 7, 8, 9, 10, 11, 12, 13, 14] 32766 [(2147483648, 1, 0, 0), (4294967296, 1, 0, 0), (8589934592, 4294967296, 2, 2), (17179869184, 8589934592, 4, 6), (34359738368, 17179869184, 8, 14), (68719476736, 2, 0, 0), (137438953472, 256, 0, 0), (274877906944, 206158430208, 96, 96), (549755813888, 4, 0, 0), (1099511627776, 256, 0, 0), (2199023255552, 1649267441664, 768, 768), (4398046511104, 2199023255552, 1024, 1792), (8796093022208, 4672924418048, 2176, 4064), (17592186044416, 8796093022208, 4096, 8160), (35184372088832, 17626545782784, 10256, 16382), (70368744177664, 2147483648, 32767, 32767), (140737488355328, 70368744177664, 65535, 65535), (0, 175921860444160, 98303, 131071)] (fun w' => w'.cell? ⟨b, 1, none⟩ = some (.slice qA Q.length qc)) (by kernel_rfl) (by kernel_rfl) (by kernel_rfl) rfl (by kernel_rfl) (by kernel_rfl) c1 (fun hS => ?_)
   repeat (refine plan_read (v := ?_) rfl (fun _ _ _ h => h) rfl hS ?_ ?_; rotate_left 1; (focus (intro w' hS'; go_simp; try rfl)); simp only [Act.put, List.setIfInBounds_toArray, List.set_cons_zero, List.set_cons_succ])
   -- part
   refine plan_do (by rfl) (by rfl) (fun K hK => ?_)
   go_simp
   refine (part_any sg so (m * 128) c k _ hc hcm (by omega) (by omega)).mono ?_
   rintro e w' ⟨⟨c', hc1, hc2, rfl⟩, rfl⟩
   refine hK.out _ _ (fun _ => hS) (fun _ => ?_); clear hK K
   try simp only [Act.put, List.setIfInBounds_toArray, List.set_cons_zero, List.set_cons_succ]
   -- Clone
   refine plan_do (by rfl) (by rfl) (fun K hK => ?_)
   go_simp
   refine (clone_any _ 128 _ (u8s (sect l k)) _ (by exact hsp) (u8s_one _) (by omega)).mono ?_
   rintro e W1 ⟨v, rfl, hown1, hb1⟩
   obtain ⟨g, cap, cur1, rfl, hg, hblk, hcap, hcapm, hcs, htk⟩ := own_open hown1 (by omega)
   have hq1 := own_below h6.drew hb1
   have hB1 : Blk W1 b 104 #[.slice (some ⟨s, 0, none⟩) D.safe.length sc, .slice qA Q.length qc, .int .i64 (nextCalls D.calls)] := (show Blk wr.drew b _ _ from H1.out).below hb1 H1.out.lt
   have c1w : W1.cell? ⟨b, 1, none⟩ = some (.slice qA Q.length qc) := hB1.cell 1
   refine hK.out _ _ (fun _ => c1w) (fun hS => ?_); clear hK K
   replace hS := hS rfl
   try simp only [Act.put, List.setIfInBounds_toArray, List.set_cons_zero, List.set_cons_succ]
   have HB1 := Lh hB1; clear hB1
   have Hblk := Lh hblk; clear hblk
   have Hcs := Lh hcs; clear hcs
   have Htk := Lh htk; clear htk
   repeat (refine plan_read (v := ?_) rfl (fun _ _ _ h => h) rfl hS ?_ ?_; rotate_left 1; (focus (intro w' hS'; go_simp; try rfl)); simp only [Act.put, List.setIfInBounds_toArray, List.set_cons_zero, List.set_cons_succ])
   refine plan_do (by rfl) (by rfl) (fun K hK => ?_)
   go_simp
   refine hK.out _ _ (fun _ => (HB1.out.alloc _).cell 1) (fun hS => ?_); clear hK K
   replace hS := hS rfl
   try simp only [Act.put, List.setIfInBounds_toArray, List.set_cons_zero, List.set_cons_succ]
   -- append
   refine plan_do (by rfl) (by rfl) (fun K hK => ?_)
   refine wp_app (.tmp 35) (.tmp 44) 102 rfl 0 164 _ 2 32 Tryz.underlying102 info_write rfl (by decide) (.slice qA Q.length qc) Q.length (Q.flatMap Qe.cells) rfl (own_below hq1 ((Below.refl _ _).alloc (Nat.le_refl _) _)) _ 1 _ [.int .i64 ((a : Int) + k), .slice (some ⟨g, 0, none⟩) 128 cap] rfl ?_ ?_ (by unfold maxLen; omega) (by omega) (Nat.zero_le _) ?_
   ·refine ⟨rfl, fun _ => ⟨_, 0, rfl, fun j u hu => ?_⟩⟩
    rw [Nat.zero_add, (Blk.new _ _ _).cell j, List.getElem?_toArray]
    exact hu
   ·intro u hu
    simp at hu
    rcases hu with rfl | rfl <;> rfl
   intro v2 W2 hown2 hgrow2 hat2 hnil2
   obtain ⟨g2, cap2, cur2, rfl, hg2, hblk2, r2⟩ := own_open hown2 (by omega)
   have hB2 := (HB1.out.alloc (.cells #[.int .i64 ((a : Int) + k), .slice (some ⟨g, 0, none⟩) 128 cap] 164)).keep (hgrow2.block b (by have := HB1.out.lt; simp; omega) (fun e => HQB.out b e.symm rfl))
   have c2 : W2.cell? ⟨b, 1, none⟩ = some (.slice qA Q.length qc) := hB2.cell 1
   have f2 := hB2.frozen 1
   have HB2 := Lh hB2; clear hB2
   have Hblk2 := Lh hblk2; clear hblk2
   refine hK.out _ _ (fun _ => c2) (fun hS => ?_); clear hK K
   replace hS := hS rfl
   try simp only [Act.put, List.setIfInBounds_toArray, List.set_cons_zero, List.set_cons_succ]
   repeat (refine plan_read (v := ?_) rfl (fun _ _ _ h => h) rfl hS ?_ ?_; rotate_left 1; (focus (intro w' hS'; go_simp; try rfl)); simp only [Act.put, List.setIfInBounds_toArray, List.set_cons_zero, List.set_cons_succ])
   -- store
   refine plan_do (by rfl) (by rfl) (fun K hK => ?_)
   go_simp
   refine hK.out _ _ (fun h => by cases h) (fun _ => ?_); clear hK K
   try simp only [Act.put, List.setIfInBounds_toArray, List.set_cons_zero, List.set_cons_succ]
   refine plan_nil ?_
   go_wp2_with fail
   go_roundw
   case rel => exact ⟨k + 1, by omega, by go_num, push_step HL.out hlt hfit hF1 hsub H1.out h2 H3.out h4 h5 h5a H5b.out H5c.out h6 H7.out H8.out H9.out (below_of_drew hb1) hg hown1 hown2 hgrow2 hat2⟩
   case measure => simp [intOf]; omega
  ·obtain rfl : k = m := by omega
   have hge : ¬ ((k : Int) < (k : Int)) := by omega
   go_wp2_with fail
   go_ret
   exact ⟨rfl, F', hD1, hF1, hsub⟩
end
section
set_option maxRecDepth 4000
open Go.RowKit
theorem u8s_zero (n : Nat) : u8s (List.replicate n 0) = List.replicate n (.int .u8 0) := by simp [u8s]
def Dk.new (n : Nat) : Dk := { safe := List.replicate (n * 128) 0, queue := [], calls := -1 }
theorem new_good (n : Nat) (w : World) (h1 : 1 <= n) (h2 : n <= 65536) :
  Calls Tryz.prog 46 #[.int .i64 n] w fun e w' => (∃ b F, e = .returned (.tuple #[.pointer (some ⟨b, 0, none⟩), .int .i64 0]) /\ DiskAt w' b F (Dk.new n) /\ ∀ k, F k -> w.heap.size <= k /\ k < w'.heap.size) /\ Below w.heap.size w w' := by
 obtain ⟨i, hi, hz, hs, hb⟩ := info_parts info_byte
 go_enter Tryz.func46, Tryz.ntmps46
 go_wp2_with (refine wpList_make_full _ rfl (.tmp 11) (.tmp 11) 22 rfl w.heap.size 5 i (.int .u8 0) 1 Tryz.underlying22 hi hz hs .i64 .i64 ((n : Int) * 128) ((n : Int) * 128) (n * 128) rfl rfl (by simp) (by simp) (by rw [hb]; omega) (by unfold maxLen; omega) (Nat.le_refl _) ?_; intro w1 hown hgrow)
 go_ret2
 have hl : (Dk.new n).safe.length = n * 128 := by simp [Dk.new]
 obtain ⟨g, cap, cur, e, hg, hblk, hcap, hcm, hcs, htk⟩ := own_open hown (by omega)
 injection e with e1 e2 e3
 injection e1 with e1
 injection e1 with e1
 subst e1; subst e3
 have hb1 : Below w.heap.size w w1 := (Below.refl _ _).grown hgrow (Nat.le_refl _) (fun k h => by cases h)
 refine ⟨⟨_, fun k => w.heap.size <= k /\ k < w1.heap.size + 1, rfl, ⟨w.heap.size, n * 128, cur, none, 0, [], ⟨?_, hb1.size, by omega⟩, ⟨hblk.alloc _, ⟨Nat.le_refl _, by have := hblk.lt; omega⟩, by omega, hcm, by omega, ?_⟩, ⟨World.ownsRow_nil _ _ _ _, fun a h => by cases h⟩, (fun q hq => by cases hq), rfl⟩, fun _ h => by simpa using h⟩, hb1.alloc hb1.size _⟩
 ·rw [hl]; exact Blk.new _ _ _
 ·rw [hl]
  rw [Nat.mul_one] at htk
  rw [htk]
  simp [Dk.new, u8s_zero, toList_madeCells_one, Value.cells]
def Dk.flushed (d : Dk) : Dk := { safe := d.image, queue := [], calls := nextCalls d.calls }
theorem Dk.Ok.flushed {d : Dk} (h : d.Ok) : d.flushed.Ok := by
 have hl : d.flushed.safe.length = d.safe.length := h.image
 exact ⟨by rw [hl]; exact h.whole, by rw [hl]; exact h.pos, by rw [hl]; exact h.most, (fun q hq => by cases hq), (nextCalls_in _ h.lo h.hi).1, (nextCalls_in _ h.lo h.hi).2⟩
theorem calls_zero {D : Dk} (h : D.calls = 0) : ({ D with calls := nextCalls D.calls } : Dk) = D := by cases D; simp at h; simp [nextCalls, h]
theorem flush_bad (b : Nat) (F : Nat -> Prop) (D : Dk) (w : World) (hD : DiskAt w b F D) (hok : D.Ok) (h0 : D.calls = 0) :
  Calls Tryz.prog 96 #[.pointer (some ⟨b, 0, none⟩)] w fun e w' => e = .returned (.int .i64 22) /\ DiskTo w b F D w' := by
 have hc := call_disk b F D w hD hok.hi
 rw [show decide (D.calls ≠ 0) = false by simp [h0], calls_zero h0] at hc
 have HC := Lh hc; clear hc
 clear h0
 go_enter Tryz.func96, Tryz.ntmps96
 go_wp2_with fail
 refine HC.out.mono ?_
 rintro e w' ⟨rfl, hD', hF, _⟩
 go_wp2_with fail
 go_ret
 exact ⟨rfl, F, hD', hF, fun _ _ h => h⟩
theorem flush_good (b : Nat) (F : Nat -> Prop) (D : Dk) (w : World) (hD : DiskAt w b F D) (hok : D.Ok) (hq : D.queue.length <= 1099511627776) (h0 : D.calls ≠ 0) :
  Calls Tryz.prog 96 #[.pointer (some ⟨b, 0, none⟩)] w fun e w' => e = .returned (.int .i64 0) /\ DiskTo w b F D.flushed w' := by
 have hc := call_disk b F D w hD hok.hi
 rw [show decide (D.calls ≠ 0) = true by simp [h0]] at hc
 have HC := Lh hc; clear hc
 clear h0
 go_enter Tryz.func96, Tryz.ntmps96
 go_wp2_with fail
 refine HC.out.mono ?_
 rintro e w1 ⟨rfl, hD1, hF1, _⟩
 have hok1 : ({ D with calls := nextCalls D.calls } : Dk).Ok := ⟨hok.whole, hok.pos, hok.most, hok.fits, (nextCalls_in _ hok.lo hok.hi).1, (nextCalls_in _ hok.lo hok.hi).2⟩
 go_wp2_with fail
 refine (image_any b F _ w1 hD1 hok1 hq).mono ?_
 rintro e w2 ⟨⟨v, rfl, hown⟩, hb2⟩
 obtain ⟨g, cap, cur, rfl, hg, hblk, hcap, hcm, hcs, htk⟩ := own_open hown (by have := hok.pos; show 0 < D.safe.length; omega)
 obtain ⟨s, sc, cu, qA, qc, Q, ⟨h1, h2⟩, -⟩ := hD1
 have hB2 := h1.below hb2 h1.lt
 have c0 : w2.cell? ⟨b, 0, none⟩ = some (.slice (some ⟨s, 0, none⟩) D.safe.length sc) := hB2.cell 0
 have f0 := hB2.frozen 0
 have c1 : w2.cell? ⟨b, 1, none⟩ = some (.slice qA Q.length qc) := hB2.cell 1
 have f1 := hB2.frozen 1
 have HB2 := Lh hB2; clear hB2
 have Hblk := Lh hblk; clear hblk
 have Htk := Lh htk; clear htk
 have Hcs := Lh hcs; clear hcs
 have H1 := Lh h1; clear h1
 go_wp2_with fail
 go_ret
 have hl : D.flushed.safe.length = D.safe.length := hok.image
 refine ⟨rfl, fun x => F x \/ w1.heap.size <= x, ⟨g, cap, cur, none, 0, [], ⟨?_, .inl h2⟩, ⟨?_, .inr hg, ?_, hcm, by have := Hcs.out; omega, ?_⟩, ⟨World.ownsRow_nil _ _ _ _, fun a h => by cases h⟩, (fun q hq => by cases hq), rfl⟩, ?_, ?_⟩
 ·rw [hl]
  exact (HB2.out.set_ 0 _).set_ 1 _
 ·exact (Hblk.out.far (p := ⟨b, 0, none⟩) (show g ≠ b by have := H1.out.lt; omega) _).far (p := ⟨b, 1, none⟩) (show g ≠ b by have := H1.out.lt; omega) _
 ·rw [hl]; exact hcap
 ·rw [hl]
  have := Htk.out
  rw [Nat.mul_one] at this
  exact this
 ·exact (hF1.trans (Fr.of_below hb2 F) (fun _ _ h => h)).trans ((Fr.setCell (F := F) w2 ⟨b, 0, none⟩ _ h2).trans (Fr.setCell (F := F) _ ⟨b, 1, none⟩ _ h2) (fun _ _ h => h)) (fun _ _ h => h)
 ·intro k hk h
  rcases h with h | h
  ·exact h
  ·have := hF1.size; omega
def Dk.piece (d : Dk) (at_ n : Nat) : List UInt8 := (d.image.drop (at_ * 128)).take (n * 128)
def Dk.ticked (d : Dk) : Dk := { d with calls := nextCalls d.calls }
theorem Dk.Ok.ticked {d : Dk} (h : d.Ok) : d.ticked.Ok := ⟨h.whole, h.pos, h.most, h.fits, (nextCalls_in _ h.lo h.hi).1, (nextCalls_in _ h.lo h.hi).2⟩
theorem read_good (b : Nat) (F : Nat -> Prop) (D : Dk) (a m : Nat) (w : World) (hD : DiskAt w b F D) (hok : D.Ok) (hq : D.queue.length <= 1099511627776) (h0 : D.calls ≠ 0) (hfit : (a + m) * 128 <= D.safe.length) :
  Calls Tryz.prog 120 #[.pointer (some ⟨b, 0, none⟩), .int .i64 a, .int .i64 m] w fun e w' => ∃ v, e = .returned (.tuple #[v, .int .i64 0]) /\ w'.ownsRow w.heap.size 5 1 v (m * 128) (u8s (D.piece a m)) /\ DiskAt w' b F D.ticked /\ Fr F w w' := by
 have ht := there_disk b F D a m w hD hok
 have hth : thereB a m D.size = true := by
  simp only [thereB, Dk.size]
  exact decide_eq_true (by have := hok.whole; omega)
 rw [hth] at ht
 have hc := call_disk b F D w hD hok.hi
 rw [show decide (D.calls ≠ 0) = true by simp [h0]] at hc
 have HT := Lh ht; clear ht
 have HC := Lh hc; clear hc
 have hmost := hok.most
 have hpos := hok.pos
 clear h0 hth
 go_enter Tryz.func120, Tryz.ntmps120
 go_wp2_with fail
 refine HT.out.mono ?_
 rintro e w' ⟨rfl, rfl⟩
 go_wp2_with fail
 refine HC.out.mono ?_
 rintro e w1 ⟨rfl, hD1, hF1, hsz⟩
 go_wp2_with fail
 refine (image_any b F _ w1 hD1 hok.ticked hq).mono ?_
 rintro e w2 ⟨⟨v, rfl, hown⟩, hb2⟩
 obtain ⟨g, cap, cur, rfl, hg, hblk, hcap, hcm, hcs, htk⟩ := own_open hown (by show 0 < D.safe.length; omega)
 unfold maxLen at hcm
 go_wp2_with fail
 all_goals
  have hi : D.ticked.image.length = D.safe.length := hok.ticked.image
  have hsee0 : Sees w2 1 (some ⟨g, 0, none⟩) D.safe.length (u8s D.ticked.image) := Sees.of_own hown
  have hsee : ∀ off, m = 0 \/ off = a * 128 -> Sees w2 1 (some ⟨g, off, none⟩) (m * 128) (u8s (D.piece a m)) := by
   intro off h
   rcases h with rfl | rfl
   ·have : D.piece a 0 = [] := by simp [Dk.piece]
    rw [this]; exact Sees.none_ _ _ _
   ·have := hsee0.piece (a * 128) (m * 128) (by omega)
    rw [<- u8s_drop, <- u8s_take, Nat.zero_add] at this
    exact this
  have hn : (a + m) * 128 - a * 128 = m * 128 := by omega
  have H2 := Lh hi; clear hi
  have HN := Lh hn; clear hn
  rw [HN.out]
  refine (clone_any _ (m * 128) _ (u8s (D.piece a m)) _ (hsee _ (by omega)) (u8s_one _) (by omega)).mono ?_
  rintro e w3 ⟨v, rfl, hown3, hb3⟩
  go_wp2_with fail
  go_ret2
  have hs : w.heap.size <= w2.heap.size := by have := hF1.size; have := hb2.size; omega
  exact ⟨v, rfl, own_base hown3 hs, (hD1.below hb2).below hb3, (hF1.trans (Fr.of_below hb2 F) (fun _ _ h => h)).trans (Fr.of_below hb3 F) (fun _ _ h => h)⟩
end
section
set_option maxRecDepth 4000
open Go.RowKit
theorem wrap_ok (op : ByteArray) (k : Int) (w : World) : Calls Tryz.prog 45 #[.string op, .int .i64 k, .int .i64 0] w fun e w' => e = .returned Value.nilIface /\ w = w' := by
 go_enter Tryz.func45, Tryz.ntmps45
 go_wp2_with fail
 go_ret
 exact ⟨rfl, rfl⟩
theorem wrap_no (op : ByteArray) (k n : Int) (hn : n ≠ 0) (w : World) : Calls Tryz.prog 45 #[.string op, .int .i64 k, .int .i64 n] w fun e w' => e = .returned (.iface 110 (.pointer (some ⟨w.heap.size, 0, none⟩))) /\ Blk w' w.heap.size 112 #[.string op, .int .i64 k, .iface 62 (.int .i64 n)] /\ Below w.heap.size w w' := by
 have hn2 : (n == 0) = false := by rw [beq_eq_false_iff_ne]; exact hn
 go_enter Tryz.func45, Tryz.ntmps45
 go_wp2_with fail
 go_ret
 exact ⟨rfl, Blk.new _ _ _, (Below.refl _ _).alloc (Nat.le_refl _) _⟩
end
section
set_option maxRecDepth 4000
open Go.RowKit
structure Ke where
 buck : Int
 g : Nat
 cap : Nat
 key : List UInt8
def keCells : Option Ke -> List Value
 | none => [.bool false, .int .i64 0, .slice none 0 0]
 | some e => [.bool true, .int .i64 e.buck, .slice (some ⟨e.g, 0, none⟩) 32 e.cap]
@[simp] theorem keCells_length (e : Option Ke) : (keCells e).length = 3 := by cases e <;> rfl
def kcs (E : List (Option Ke)) : List Value := E.flatMap keCells
@[simp] theorem kcs_length (E : List (Option Ke)) : (kcs E).length = E.length * 3 := by unfold kcs; rw [length_flatMap_const _ 3 keCells_length]
structure KAt (w : World) (t b sg : Nat) (from_ : Int) (E : List (Option Ke)) (dead : Bool) (K : Nat -> Prop) : Prop where
 top : Blk w t 158 #[.pointer (some ⟨b, 0, none⟩), .int .i64 from_, .slice (some ⟨sg, 0, none⟩) E.length E.length, .bool dead]
 row : Blk w sg 160 (kcs E).toArray
 keys : ∀ e : Ke, some e ∈ E -> w.ownsRow 0 5 1 (.slice (some ⟨e.g, 0, none⟩) 32 e.cap) 32 (u8s e.key) /\ K e.g /\ e.key.length = 32
 once : ∀ (i j : Nat) (e f : Ke), E[i]? = some (some e) -> E[j]? = some (some f) -> e.g = f.g -> i = j
 tin : K t
 sin : K sg
theorem KAt.keep {w w' : World} {t b sg : Nat} {from_ : Int} {E : List (Option Ke)} {dead : Bool} {K : Nat -> Prop} (h : KAt w t b sg from_ E dead K) (hk : ∀ k, K k -> k < w.heap.size -> w'.heap[k]? = w.heap[k]?) : KAt w' t b sg from_ E dead K := by
 refine ⟨h.top.keep (hk t h.tin h.top.lt), h.row.keep (hk sg h.sin h.row.lt), fun e he => ?_, h.once, h.tin, h.sin⟩
 obtain ⟨a1, a2, a3⟩ := h.keys e he
 refine ⟨own_keep a1 fun g hg => ?_, a2, a3⟩
 have hg' : e.g = g := by simpa [Value.ownBlock] using hg
 subst hg'
 exact hk e.g a2 (a1.lt e.g hg).2
theorem KAt.fr {w w' : World} {t b sg : Nat} {from_ : Int} {E : List (Option Ke)} {dead : Bool} {K G : Nat -> Prop} (h : KAt w t b sg from_ E dead K) (hf : Fr G w w') (hn : ∀ k, K k -> ¬ G k) : KAt w' t b sg from_ E dead K :=
 h.keep fun k hk hl => hf.block k hl (hn k hk)
theorem KAt.below {w w' : World} {t b sg : Nat} {from_ : Int} {E : List (Option Ke)} {dead : Bool} {K : Nat -> Prop} (h : KAt w t b sg from_ E dead K) (hb : Below w.heap.size w w') : KAt w' t b sg from_ E dead K :=
 h.keep fun k _ hl => hb.block k hl
structure KSt (w : World) (t b sg : Nat) (from_ : Int) (E : List (Option Ke)) (dead : Bool) (D : Dk) (F K G : Nat -> Prop) : Prop where
 disk : DiskAt w b F D
 tab : KAt w t b sg from_ E dead K
 apart : ∀ k, F k -> ¬ K k
 fin : ∀ k, F k -> G k /\ k < w.heap.size
 kin : ∀ k, K k -> G k /\ k < w.heap.size
theorem KSt.below {w w' : World} {t b sg : Nat} {from_ : Int} {E : List (Option Ke)} {dead : Bool} {D : Dk} {F K G : Nat -> Prop} (h : KSt w t b sg from_ E dead D F K G) (hb : Below w.heap.size w w') : KSt w' t b sg from_ E dead D F K G :=
 ⟨h.disk.below hb, h.tab.below hb, h.apart, fun k hk => ⟨(h.fin k hk).1, Nat.lt_of_lt_of_le (h.fin k hk).2 hb.size⟩, fun k hk => ⟨(h.kin k hk).1, Nat.lt_of_lt_of_le (h.kin k hk).2 hb.size⟩⟩
theorem KSt.drew {w : World} {t b sg : Nat} {from_ : Int} {E : List (Option Ke)} {dead : Bool} {D : Dk} {F K G : Nat -> Prop} (h : KSt w t b sg from_ E dead D F K G) : KSt w.drew t b sg from_ E dead D F K G :=
 h.below ⟨rfl, rfl, rfl, Nat.le_refl _, fun _ _ => rfl⟩
def KTo (w : World) (G : Nat -> Prop) (t b sg : Nat) (from_ : Int) (E : List (Option Ke)) (dead : Bool) (D : Dk) (w' : World) : Prop :=
 ∃ F' K' G', KSt w' t b sg from_ E dead D F' K' G' /\ Fr G w w' /\ ∀ k, k < w.heap.size -> G' k -> G k
theorem KTo.refl {w : World} {t b sg : Nat} {from_ : Int} {E : List (Option Ke)} {dead : Bool} {D : Dk} {F K G : Nat -> Prop} (h : KSt w t b sg from_ E dead D F K G) : KTo w G t b sg from_ E dead D w := ⟨F, K, G, h, Fr.refl _ _, fun _ _ h => h⟩
theorem KTo.below {w w1 w2 : World} {t b sg : Nat} {from_ : Int} {E : List (Option Ke)} {dead : Bool} {D : Dk} {G : Nat -> Prop} (h : KTo w G t b sg from_ E dead D w1) (hb : Below w1.heap.size w1 w2) : KTo w G t b sg from_ E dead D w2 := by
 obtain ⟨F', K', G', h1, h2, h3⟩ := h
 exact ⟨F', K', G', h1.below hb, h2.trans (Fr.of_below hb G) (fun _ _ h => h), h3⟩
theorem KTo.after {w w1 w2 : World} {t b sg : Nat} {from_ : Int} {E : List (Option Ke)} {dead : Bool} {D : Dk} {G G1 : Nat -> Prop} (hf : Fr G w w1) (hs : ∀ k, k < w.heap.size -> G1 k -> G k) (h : KTo w1 G1 t b sg from_ E dead D w2) : KTo w G t b sg from_ E dead D w2 := by
 obtain ⟨F', K', G', h1, h2, h3⟩ := h
 exact ⟨F', K', G', h1, hf.trans h2 hs, fun k hk hg => hs k hk (h3 k (Nat.lt_of_lt_of_le hk hf.size) hg)⟩
theorem KTo.of_drew {w w1 : World} {t b sg : Nat} {from_ : Int} {E : List (Option Ke)} {dead : Bool} {D : Dk} {G : Nat -> Prop} (h : KTo w.drew G t b sg from_ E dead D w1) : KTo w G t b sg from_ E dead D w1 := by
 obtain ⟨F', K', G', h1, h2, h3⟩ := h
 exact ⟨F', K', G', h1, ⟨h2.os, h2.tape, h2.output, h2.size, h2.block⟩, h3⟩
theorem KSt.diskTo {w w' : World} {t b sg : Nat} {from_ : Int} {E : List (Option Ke)} {dead : Bool} {D D' : Dk} {F K G : Nat -> Prop} (h : KSt w t b sg from_ E dead D F K G) (hd : DiskTo w b F D' w') : KTo w G t b sg from_ E dead D' w' := by
 obtain ⟨F', h1, h2, h3⟩ := hd
 refine ⟨fun k => F' k /\ k < w'.heap.size, K, fun k => G k \/ w.heap.size <= k, ⟨h1.restrict, h.tab.fr h2 (fun k hk hf => h.apart k hf hk), ?_, ?_, ?_⟩, h2.mono (fun k _ hk => (h.fin k hk).1), ?_⟩
 ·intro k hk hK
  have hl := (h.kin k hK).2
  exact h.apart k (h3 k hl hk.1) hK
 ·intro k hk
  refine ⟨?_, hk.2⟩
  rcases Nat.lt_or_ge k w.heap.size with hl | hl
  ·exact .inl (h.fin k (h3 k hl hk.1)).1
  ·exact .inr hl
 ·intro k hk
  exact ⟨.inl (h.kin k hk).1, Nat.lt_of_lt_of_le (h.kin k hk).2 h2.size⟩
 ·intro k hk hg
  rcases hg with hg | hg
  ·exact hg
  ·omega
theorem KSt.die {w : World} {t b sg : Nat} {from_ : Int} {E : List (Option Ke)} {dead : Bool} {D : Dk} {F K G : Nat -> Prop} (h : KSt w t b sg from_ E dead D F K G) (d : Bool) : KTo w G t b sg from_ E d D (w.setCell ⟨t, 3, none⟩ (.bool d)) := by
 have hf : Fr (· = t) w (w.setCell ⟨t, 3, none⟩ (.bool d)) := Fr.setCell _ _ _ rfl
 have htn : t ≠ sg := h.tab.top.same h.tab.row (by decide)
 refine ⟨F, K, G, ⟨h.disk.fr hf (fun k hk e => h.apart k hk (e ▸ h.tab.tin)), ⟨?_, h.tab.row.keep (hf.block sg h.tab.row.lt (fun e => htn e.symm)), fun e he => ?_, h.tab.once, h.tab.tin, h.tab.sin⟩, h.apart, fun k hk => ⟨(h.fin k hk).1, Nat.lt_of_lt_of_le (h.fin k hk).2 hf.size⟩, fun k hk => ⟨(h.kin k hk).1, Nat.lt_of_lt_of_le (h.kin k hk).2 hf.size⟩⟩, hf.mono (fun k _ e => by subst e; exact (h.kin _ h.tab.tin).1), fun _ _ h => h⟩
 ·exact h.tab.top.set_ 3 (.bool d)
 ·obtain ⟨a1, a2, a3⟩ := h.tab.keys e he
  exact ⟨own_fr a1 hf (own_ne a1 h.tab.top (by decide)), a2, a3⟩
/-! ### A copy is laid -/
def Dk.lay (D : Dk) (a : Nat) (l : List UInt8) : Dk := if D.calls = 0 then D else if D.calls = 1 then D.push a l 1 else (D.push a l 1).flushed
def Dk.layOk (D : Dk) : Bool := decide (D.calls ≠ 0 /\ D.calls ≠ 1)
theorem Dk.Ok.lay {D : Dk} (h : D.Ok) (a : Nat) (l : List UInt8) (hl : 128 <= l.length) (ha : (a + 1) * 128 <= D.safe.length) : (D.lay a l).Ok := by
 unfold Dk.lay
 split
 ·exact h
 ·split
  ·exact h.push a l 1 (by omega) ha
  ·exact (h.push a l 1 (by omega) ha).flushed
def ErrIs (ok : Bool) (v : Value) : Prop := (ok = true /\ v = Value.nilIface) \/ (ok = false /\ ∃ g, v = .iface 110 (.pointer (some ⟨g, 0, none⟩)))
end
end Go.Proofs.YtkgaeoeibjoljaaGreatDoor
