/-
  The eye: octets that are read one behind the other; octets compared.
  bytes.HasPrefix, bytes.Clone.
-/
import Derived.Test.YtldgnckchlbadaaDoorGB
import Derived.Test.YtldgnckchlbadaaDoorGD
namespace Go.Proofs.YtldgnckchlbadaaDoor
set_option maxRecDepth 4000
open Go.RowKit

theorem equal_any (l m : List UInt8) (A B : Option Addr) (n c n' c' : Nat) (w : World) (hA : Sees w 1 A n (u8s l)) (hB : Sees w 1 B n' (u8s m)) :
    Calls Tryd.prog 38 #[.slice A n c, .slice B n' c'] w fun e w' => e = .returned (.bool (decide (l = m))) ∧ w = w' := by
  have h1 := run_to_string Tryd.underlying35 Tryd.underlying5 Tryd.underlying9 c hA
  have h2 := run_to_string Tryd.underlying35 Tryd.underlying5 Tryd.underlying9 c' hB
  have h3 : ((str l).toList == (str m).toList) = decide (l = m) := by rw [str_toList, str_toList, beq_dec]
  obtain ⟨X, hX⟩ : ∃ X, X = str l := ⟨_, rfl⟩
  obtain ⟨Y, hY⟩ : ∃ Y, Y = str m := ⟨_, rfl⟩
  rw [← hX] at h1 h3
  rw [← hY] at h2 h3
  have H3 := Lib.hid h3
  clear hX hY hA hB h3
  go_enter Tryd.func38, Tryd.ntmps38
  go_wp2_with fail
  go_ret
  exact ⟨ret_bool H3.out, rfl⟩

/-- An eye that sees l, with an error's number. -/
def Eye (w : World) (base p : Nat) (l : List UInt8) (err : Nat) : Prop :=
  base ≤ p ∧ ∃ A c, Blk w p 141 #[.slice A l.length c, .int .i64 (err : Nat)] ∧ Sees w 1 A l.length (u8s l) ∧ l.length ≤ c ∧ (∀ a, A = some a → a.block ≠ p) ∧ (A = none → c = 0)

theorem open_any (l : List UInt8) (ad : Addr) (n c : Nat) (w : World) (hA : Sees w 1 (some ad) n (u8s l)) (hl : l.length = n) (hn : n ≤ 140737488355328) :
    Calls Tryd.prog 63 #[.slice (some ad) n c] w fun e w' => ∃ p, e = .returned (.pointer (some ⟨p, 0, none⟩)) ∧ Eye w' w.heap.size p l 0 ∧ Below w.heap.size w w' := by
  have HC := Lib.hid (clone_any ad n c (u8s l) w hA (u8s_one l) hn)
  clear hA
  go_enter Tryd.func63, Tryd.ntmps63
  go_wp2_with fail
  refine HC.out.mono ?_
  rintro e w1 ⟨v, rfl, hown, hb⟩
  obtain ⟨A, c', rfl⟩ := own_shape hown
  have HOWN := Lib.hid hown; have HB := Lib.hid hb; clear hown hb
  go_wp2_with fail
  go_ret
  have hsz := HB.out.size
  have hcs : n ≤ c' ∧ (∀ a, A = some a → a.block ≠ w1.heap.size) ∧ (A = none → c' = 0) := by
    rcases HOWN.out.2 with ⟨hv, h0⟩ | ⟨g, cap, cur, hv, hb, hg, hnc, _⟩
    · injection hv with h1 h2 h3
      subst h1 h3
      exact ⟨by omega, fun a e => (by cases e), fun _ => rfl⟩
    · injection hv with h1 h2 h3
      subst h1 h3
      have := (Array.getElem?_eq_some_iff.1 hg).1
      exact ⟨hnc, fun a e => (by injection e with e; subst e; exact Nat.ne_of_lt this), fun e => (by cases e)⟩
  have hal : Below w1.heap.size w1 (w1.alloc (.cells #[.slice A n c', .int .i64 0] 141)) := (Below.refl _ _).alloc (Nat.le_refl _) _
  refine ⟨w1.heap.size, rfl, ⟨hsz, A, c', ?_, ?_, ?_, hcs.2.1, hcs.2.2⟩, HB.out.trans (hal.mono hsz)⟩
  · rw [hl]; exact Blk.newAt rfl rfl
  · rw [hl]; exact (Sees.of_own HOWN.out).below hal
  · rw [hl]; exact hcs.1

/-- The first k octets come. -/
theorem next_ok (base p k : Nat) (l : List UInt8) (w : World) (hE : Eye w base p l 0) (hk : k ≤ l.length) (hl : l.length ≤ 1000000000) :
    Calls Tryd.prog 87 #[.pointer (some ⟨p, 0, none⟩), .int .i64 k] w fun e w' => ∃ A c, e = .returned (.slice A k c) ∧ Sees w' 1 A k (u8s (l.take k)) ∧ Eye w' base p (l.drop k) 0 ∧ Below base w w' := by
  obtain ⟨hbp, A, c, hb, hS, hlc, hne, hA0⟩ := hE
  obtain ⟨n, hn⟩ : ∃ n, n = l.length := ⟨_, rfl⟩
  rw [← hn] at hb hS hlc hl hk
  have hc0 : w.cell? ⟨p, 0, none⟩ = some (.slice A n c) := by rw [hb.cell]; rfl
  have hc1 : w.cell? ⟨p, 1, none⟩ = some (.int .i64 0) := by rw [hb.cell]; rfl
  have hfz : w.frozen? ⟨p, 0, none⟩ = false := hb.frozen 0
  have hki : (k : Int) ≤ (n : Int) := by omega
  have hkc : (k : Int) ≤ (c : Int) := by omega
  have hnc : (n : Int) ≤ (c : Int) := by omega
  have hkc2 : k ≤ c := by omega
  have HB := Lib.hid hb; have HS := Lib.hid hS; have HN := Lib.hid hn; clear hb hS hn
  have hT : Sees w 1 A k (u8s (l.take k)) := by
    refine ⟨by simp [← HN.out]; omega, fun hm => ?_⟩
    obtain ⟨g, off, e, hc⟩ := HS.out.2 (by omega)
    refine ⟨g, off, e, fun j u hu => hc j u ?_⟩
    rw [u8s_take, List.getElem?_take] at hu
    split at hu
    · exact hu
    · cases hu
  have hdl : (l.drop k).length = n - k := by rw [List.length_drop, ← HN.out]
  have HT := Lib.hid hT; have HDL := Lib.hid hdl; clear hT hdl
  by_cases hck : c = k
  · obtain rfl : n = k := by omega
    subst hck
    go_enter Tryd.func87, Tryd.ntmps87
    go_wp2_with fail
    go_ret
    have hl0 : l.drop c = [] := List.eq_nil_of_length_eq_zero (by rw [HDL.out]; omega)
    have hfar : ∀ {B : Option Addr} {m : Nat} {xs : List Value}, Sees w 1 B m xs → (∀ a, B = some a → a.block ≠ p) → Sees (w.setCell ⟨p, 0, none⟩ (.slice A 0 0)) 1 B m xs := fun h hn => h.keep fun g off e _ => Below.heap_setCell _ _ _ _ (hn _ e)
    refine ⟨A, c, rfl, hfar HT.out hne, ⟨hbp, A, 0, ?_, ?_, by rw [hl0]; exact Nat.le_refl _, hne, fun _ => rfl⟩, (Below.refl _ _).setCell hbp _⟩
    · rw [hl0]; exact HB.out.set_ 0 (.slice A 0 0)
    · rw [hl0]; exact Sees.none_ _ _ _
  · have hdS : Sees w 1 (A.map (·.add k)) (n - k) (u8s (l.drop k)) := by
      refine ⟨by simp [← HN.out], fun hm => ?_⟩
      obtain ⟨g, off, e, hc⟩ := HS.out.2 (by omega)
      refine ⟨g, off + k, ?_, fun j u hu => ?_⟩
      · rw [e]
        simp only [Option.map_some, Option.some.injEq]
        unfold Addr.add
        split <;> simp_all
      · rw [u8s_drop, List.getElem?_drop] at hu
        rw [Nat.add_assoc]
        exact hc _ u hu
    have hnb : ∀ a, A.map (·.add k) = some a → a.block ≠ p := by
      intro a e
      rw [Option.map_eq_some_iff] at e
      obtain ⟨a', e1, e2⟩ := e
      have := hne a' e1
      rw [← e2]
      unfold Addr.add
      split <;> simpa using this
    have hb2 := HB.out.set_ 0 (.slice (A.map (·.add k)) (n - k) (c - k))
    have HDS := Lib.hid hdS; have HB2 := Lib.hid hb2; clear hdS hb2
    go_enter Tryd.func87, Tryd.ntmps87
    go_wp2_with fail
    go_ret
    have hfar : ∀ {B : Option Addr} {m : Nat} {xs : List Value}, Sees w 1 B m xs → (∀ a, B = some a → a.block ≠ p) → Sees (w.setCell ⟨p, 0, none⟩ (.slice (A.map (·.add k)) (n - k) (c - k))) 1 B m xs := fun h hn => h.keep fun g off e _ => Below.heap_setCell _ _ _ _ (hn _ e)
    refine ⟨A, k, rfl, hfar HT.out hne, ⟨hbp, A.map (·.add k), c - k, ?_, ?_, by rw [HDL.out]; omega, hnb, fun e => ?_⟩, (Below.refl _ _).setCell hbp _⟩
    · rw [HDL.out]; exact HB2.out
    · rw [HDL.out]; exact hfar HDS.out hnb
    · cases A with
      | none => have := hA0 rfl; omega
      | some a => cases e

/-- Too few octets: the error's number stays behind, nothing comes. -/
theorem next_short (base p k : Nat) (l : List UInt8) (w : World) (hE : Eye w base p l 0) (hk : l.length < k) (hk2 : k ≤ 1000) :
    Calls Tryd.prog 87 #[.pointer (some ⟨p, 0, none⟩), .int .i64 k] w fun e w' => e = .returned (.slice none 0 0) ∧ Eye w' base p l 10 ∧ Below base w w' := by
  obtain ⟨hbp, A, c, hb, hS, hlc, hne, hA0⟩ := hE
  obtain ⟨n, hn⟩ : ∃ n, n = l.length := ⟨_, rfl⟩
  rw [← hn] at hb hS hlc hk
  have hc0 : w.cell? ⟨p, 0, none⟩ = some (.slice A n c) := by rw [hb.cell]; rfl
  have hc1 : w.cell? ⟨p, 1, none⟩ = some (.int .i64 0) := by rw [hb.cell]; rfl
  have hfz : w.frozen? ⟨p, 1, none⟩ = false := hb.frozen 1
  have hki : (n : Int) < (k : Int) := by omega
  have hb2 := hb.set_ 1 (.int .i64 10)
  have HS := Lib.hid hS; have HN := Lib.hid hn; have HB2 := Lib.hid hb2; clear hb hS hn hb2
  go_enter Tryd.func87, Tryd.ntmps87
  go_wp2_with fail
  go_ret
  refine ⟨rfl, ⟨hbp, A, c, ?_, ?_, by rw [← HN.out]; exact hlc, hne, hA0⟩, (Below.refl _ _).setCell hbp _⟩
  · rw [← HN.out]; exact HB2.out
  · rw [← HN.out]; exact HS.out.keep fun g off e _ => Below.heap_setCell _ _ _ _ (hne _ e)

/-- There is an error: nothing comes. -/
theorem next_err (base p k err : Nat) (l : List UInt8) (w : World) (hE : Eye w base p l err) (he : 0 < err) (he2 : err ≤ 1000) (hk2 : k ≤ 1000) :
    Calls Tryd.prog 87 #[.pointer (some ⟨p, 0, none⟩), .int .i64 k] w fun e w' => e = .returned (.slice none 0 0) ∧ w = w' := by
  obtain ⟨hbp, A, c, hb, hS, hlc, hne, hA0⟩ := hE
  have hc1 : w.cell? ⟨p, 1, none⟩ = some (.int .i64 (err : Nat)) := by rw [hb.cell]; rfl
  have h0 : ((err : Int) == 0) = false := by rw [beq_eq_false_iff_ne]; omega
  have h1 : ((err : Int) != 0) = true := by rw [bne, h0]; rfl
  clear hb hS
  go_enter Tryd.func87, Tryd.ntmps87
  go_wp2_with fail
  go_ret
  exact ⟨rfl, rfl⟩

/-- The number of octets, the greatest one first. -/
def vl (l : List UInt8) : Nat := l.foldl (fun a c => a * 256 + c.toNat) 0
theorem vl_snoc (l : List UInt8) (c : UInt8) : vl (l ++ [c]) = vl l * 256 + c.toNat := by simp [vl]
theorem vl_go : ∀ (l : List UInt8) (a : Nat), l.foldl (fun a c => a * 256 + c.toNat) a < (a + 1) * 256 ^ l.length
  | [], a => by simp
  | c :: l, a => by
    have h := vl_go l (a * 256 + c.toNat)
    have hc := c.toNat_lt
    rw [List.foldl_cons, List.length_cons, Nat.pow_succ, Nat.mul_comm (256 ^ l.length), ← Nat.mul_assoc]
    exact Nat.lt_of_lt_of_le h (Nat.mul_le_mul_right _ (by omega))
theorem vl_lt (l : List UInt8) : vl l < 256 ^ l.length := by
  have := vl_go l 0
  rwa [Nat.zero_add, Nat.one_mul] at this

/-- What the eye's number is. -/
def eyeN (l : List UInt8) (err k : Nat) : Nat := if err = 0 ∧ k ≤ l.length then vl (l.take k) else 0
def eyeL (l : List UInt8) (err k : Nat) : List UInt8 := if err = 0 ∧ k ≤ l.length then l.drop k else l
def eyeE (l : List UInt8) (err k : Nat) : Nat := if err = 0 ∧ l.length < k then 10 else err

theorem enum_any (base p k err : Nat) (l : List UInt8) (w : World) (hE : Eye w base p l err) (he : err ≤ 1000) (hk : k ≤ 8) (hl : l.length ≤ 1000000000) :
    Calls Tryd.prog 80 #[.pointer (some ⟨p, 0, none⟩), .int .i64 k] w fun e w' => e = .returned (.int .u64 (eyeN l err k : Nat)) ∧ Eye w' base p (eyeL l err k) (eyeE l err k) ∧ Below base w w' := by
  by_cases h0 : err = 0
  · subst h0
    by_cases hkl : k ≤ l.length
    · have e1 : eyeN l 0 k = vl (l.take k) := if_pos ⟨rfl, hkl⟩
      have e2 : eyeL l 0 k = l.drop k := if_pos ⟨rfl, hkl⟩
      have e3 : eyeE l 0 k = 0 := if_neg (by omega)
      rw [e1, e2, e3]
      have HX := Lib.hid (next_ok base p k l w hE hkl hl)
      obtain ⟨q, hq⟩ : ∃ q, q = l.take k := ⟨_, rfl⟩
      have hql : q.length = k := by rw [hq, List.length_take]; omega
      rw [← hq] at HX ⊢
      clear e1 e2 e3 hE hq
      go_enter Tryd.func80, Tryd.ntmps80
      go_wp2_with fail
      refine HX.out.mono ?_
      rintro e w1 ⟨A, c, rfl, hS, hE1, hb⟩
      have HS := Lib.hid hS; have HE := Lib.hid hE1; have HB := Lib.hid hb; clear hS hE1 hb HX
      go_wp2_with fail
      go_loop [5, 12] (fun x i => ∃ j : Nat, j ≤ k ∧ i = .int .i64 j ∧ x = .int .u64 (vl (q.take j) : Nat)) (fun _ i => k - (intOf i).toNat)
      case atStart => exact ⟨0, by omega, rfl, rfl⟩
      case round =>
        obtain ⟨j, hj, rfl, rfl⟩ := hrel
        by_cases hlt : j < k
        · have hlti : (j : Int) < (k : Int) := by omega
          obtain ⟨d, hd⟩ : ∃ d, d = (q[j]'(by omega)).toNat := ⟨_, rfl⟩
          have hd256 : d < 256 := by rw [hd]; exact UInt8.toNat_lt _
          have hcd : ∃ g off, A = some ⟨g, off, none⟩ ∧ w1.cell? ⟨g, off + j, none⟩ = some (.int .u8 (d : Nat)) := by
            obtain ⟨g, off, e, hc⟩ := sees_u8 HS.out (show j < k from hlt) (by omega)
            exact ⟨g, off, e, by rw [hc, hd]⟩
          obtain ⟨g, off, rfl, hcd⟩ := hcd
          have hnx : vl (q.take (j + 1)) = vl (q.take j) * 256 + d := by
            rw [List.take_add_one, List.getElem?_eq_getElem (by omega)]
            show vl (q.take j ++ [q[j]'(by omega)]) = _
            rw [vl_snoc, hd]
          have hvl := vl_lt (q.take j)
          rw [List.length_take, Nat.min_eq_left (by omega)] at hvl
          have hp7 : (256 : Nat) ^ j ≤ 256 ^ 7 := Nat.pow_le_pow_right (by decide) (by omega)
          obtain ⟨x, hx⟩ : ∃ x, x = vl (q.take j) := ⟨_, rfl⟩
          rw [← hx] at hnx hvl ⊢
          have hx7 : x < 72057594037927936 := by omega
          have hor : bits BinOp.or IntKind.u64 ((x : Int) * 256) (d : Int) = ((x * 256 + d : Nat) : Int) := by
            have e : ((x : Int) * 256) = ((x * 256 : Nat) : Int) := by omega
            rw [e, u64_or_nat _ _ (by omega) (by omega), or_add hd256]
          have hdw : IntKind.u64.wrap (d : Int) = (d : Int) := by rw [IntKind.wrap_u64]; omega
          have hxw : IntKind.u64.wrap ((x : Int) * 256) = (x : Int) * 256 := by rw [IntKind.wrap_u64]; omega
          have HOR := Lib.hid hor; have HNX := Lib.hid hnx
          clear hor hnx hx hd hvl hp7
          go_wp2_with fail
          go_round
          case rel => exact ⟨j + 1, by omega, by go_num, by rw [HNX.out, ← HOR.out]⟩
          case measure => simp [intOf]; omega
        · obtain rfl : j = k := by omega
          rw [List.take_of_length_le (by omega)]
          have hge : ¬ ((j : Int) < (j : Int)) := by omega
          go_wp2_with fail
          go_ret
          exact ⟨rfl, HE.out, HB.out⟩
    · have e1 : eyeN l 0 k = 0 := if_neg (by omega)
      have e2 : eyeL l 0 k = l := if_neg (by omega)
      have e3 : eyeE l 0 k = 10 := if_pos ⟨rfl, by omega⟩
      rw [e1, e2, e3]
      have HX := Lib.hid (next_short base p k l w hE (by omega) (by omega))
      clear e1 e2 e3 hE
      go_enter Tryd.func80, Tryd.ntmps80
      go_wp2_with fail
      refine HX.out.mono ?_
      rintro e w1 ⟨rfl, hE1, hb⟩
      have HE := Lib.hid hE1; have HB := Lib.hid hb; clear hE1 hb HX
      go_wp2_with fail
      go_loop [5, 12] (fun x i => i = .int .i64 0 ∧ x = .int .u64 0) (fun _ _ => 0)
      case atStart => exact ⟨rfl, rfl⟩
      case round =>
        obtain ⟨rfl, rfl⟩ := hrel
        go_wp2_with fail
        go_ret
        exact ⟨rfl, HE.out, HB.out⟩
  · have e1 : eyeN l err k = 0 := if_neg (by omega)
    have e2 : eyeL l err k = l := if_neg (by omega)
    have e3 : eyeE l err k = err := if_neg (by omega)
    rw [e1, e2, e3]
    have HX := Lib.hid (next_err base p k err l w hE (by omega) he (by omega))
    have HE := Lib.hid hE
    clear e1 e2 e3 hE
    go_enter Tryd.func80, Tryd.ntmps80
    go_wp2_with fail
    refine HX.out.mono ?_
    rintro e w1 ⟨rfl, rfl⟩
    go_wp2_with fail
    go_loop [5, 12] (fun x i => i = .int .i64 0 ∧ x = .int .u64 0) (fun _ _ => 0)
    case atStart => exact ⟨rfl, rfl⟩
    case round =>
      obtain ⟨rfl, rfl⟩ := hrel
      go_wp2_with fail
      go_ret
      exact ⟨rfl, HE.out, Below.refl _ _⟩

theorem eyeN_lt (l : List UInt8) (err k : Nat) : eyeN l err k < 256 ^ k := by
  unfold eyeN
  split
  · rename_i h
    have := vl_lt (l.take k)
    rwa [List.length_take, Nat.min_eq_left h.2] at this
  · exact Nat.pow_pos (by decide)

theorem e32_any (base p err : Nat) (l : List UInt8) (w : World) (hE : Eye w base p l err) (he : err ≤ 1000) (hl : l.length ≤ 1000000000) :
    Calls Tryd.prog 64 #[.pointer (some ⟨p, 0, none⟩)] w fun e w' => e = .returned (.int .i64 (eyeN l err 4 : Nat)) ∧ Eye w' base p (eyeL l err 4) (eyeE l err 4) ∧ Below base w w' := by
  have HN := Lib.hid (enum_any base p 4 err l w hE he (by omega) hl)
  have hx := eyeN_lt l err 4
  obtain ⟨x, hxe⟩ : ∃ x, x = eyeN l err 4 := ⟨_, rfl⟩
  rw [← hxe] at HN hx ⊢
  have hxw : IntKind.i64.wrap (x : Int) = (x : Int) := IntWalk.i64_in _ (by omega)
  clear hE hxe
  go_enter Tryd.func64, Tryd.ntmps64
  go_wp2_with fail
  refine HN.out.mono ?_
  rintro e w1 ⟨rfl, h1, h2⟩
  go_wp2_with fail
  go_ret
  exact ⟨rfl, h1, h2⟩
end Go.Proofs.YtldgnckchlbadaaDoor

namespace Go.Proofs.YtldgnckchlbadaaDoor
set_option maxRecDepth 4000
open Go.RowKit

/-- Do octets begin with others? -/
def pref (l q : List UInt8) : Bool := decide (l.take q.length = q)
theorem prefix_any (l q : List UInt8) (ad : Addr) (B : Option Addr) (n c m c' : Nat) (w : World) (hA : Sees w 1 (some ad) n (u8s l)) (hB : Sees w 1 B m (u8s q)) (hl : l.length = n) (hq : q.length = m) (hnc : n ≤ c) :
    Calls Tryd.prog 79 #[.slice (some ad) n c, .slice B m c'] w fun e w' => e = .returned (.bool (pref l q)) ∧ w = w' := by
  by_cases hmn : m ≤ n
  · have hA2 : Sees w 1 (some ad) m (u8s (l.take m)) := by
      refine ⟨by simp [hl]; omega, fun hm => ?_⟩
      obtain ⟨g, off, e, hc⟩ := hA.2 (by omega)
      refine ⟨g, off, e, fun j u hu => hc j u ?_⟩
      rw [u8s_take, List.getElem?_take] at hu
      split at hu
      · exact hu
      · cases hu
    have HE := Lib.hid (equal_any (l.take m) q (some ad) B m c m c' w hA2 hB)
    have hp : decide (l.take m = q) = pref l q := by rw [pref, hq]
    rw [hp] at HE
    have hi : (m : Int) ≤ (n : Int) := by omega
    have hi2 : (m : Int) ≤ (c : Int) := by omega
    have hi3 : m ≤ c := by omega
    clear hA hB hA2 hp hl hq
    go_enter Tryd.func79, Tryd.ntmps79
    go_wp2_with fail
    refine HE.out.mono ?_
    rintro e w' ⟨rfl, rfl⟩
    go_wp2_with fail
    go_ret
    exact ⟨rfl, rfl⟩
  · have hi : ¬ ((m : Int) ≤ (n : Int)) := by omega
    have hp : pref l q = false := by
      rw [pref, decide_eq_false_iff_not]
      intro e
      have := congrArg List.length e
      rw [List.length_take, hl, hq] at this
      omega
    have HP := Lib.hid hp; clear hp hA hB hl hq
    go_enter Tryd.func79, Tryd.ntmps79
    go_wp2_with fail
    go_ret
    exact ⟨ret_bool (by rw [HP.out]), rfl⟩

theorem bclone_any (ad : Addr) (n c : Nat) (xs : List Value) (w : World) (hr : Sees w 1 (some ad) n xs) (h1 : ∀ u ∈ xs, u.oneCell' = true) (hn : n ≤ 140737488355328) :
    Calls Tryd.prog 62 #[.slice (some ad) n c] w fun e w' => ∃ v, e = .returned v ∧ w'.ownsRow w.heap.size 5 1 v n xs ∧ Below w.heap.size w w' := by
  have q : ∀ (w : World) (a : Option Addr) (n c n' c' : Nat), (binOp .eql 35 (.slice a n c) (.slice none n' c')).run Tryd.prog w = .ok (.bool a.isNone) w := fun w a n c n' c' => Lib.run_eql_slice_nil w _ _ a n c n' c' Tryd.underlying35
  have hr1 : Sees (w.alloc (.cells #[] 5)) 1 (some ad) n xs := hr.below ((Below.refl _ _).alloc (Nat.le_refl _) _)
  go_enter Tryd.func62, Tryd.ntmps62
  go_wp2_with (at_builtin; refine wpList_app rfl (.tmp 5) (.tmp 6) _ rfl w.heap.size 5 _ 1 1 Tryd.underlying35 info_byte rfl (by decide) (.slice (some ⟨w.heap.size, 0, none⟩) 0 0) 0 [] rfl (World.ownsRow_made w #[] 0 (Nat.le_refl _) (Nat.zero_le _) rfl) _ n c xs rfl hr1 h1 (by unfold maxLen; omega) (by omega) (by simp) ?_; intro v' w1 hown hgrow hat hnil)
  go_ret
  refine ⟨v', rfl, by simpa using hown, ?_⟩
  exact ((Below.refl _ w).alloc (Nat.le_refl _) _).grown hgrow (by simp) (by intro k hk; simp [Value.ownBlock] at hk; omega)
end Go.Proofs.YtldgnckchlbadaaDoor
