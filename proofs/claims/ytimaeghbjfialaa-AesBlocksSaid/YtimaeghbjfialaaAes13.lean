/-
  The document's octets as numbers, and back.
-/
import Derived.Test.YtimaeghbjfialaaAes12
namespace Go.Proofs.Ytimaeghbjfialaa
open Go.RowKit

theorem nis_append (a b : List Nat) : nis (a ++ b) = nis a ++ nis b := by simp [nis]
theorem nis_ones (l : List Nat) : ∀ u ∈ nis l, u.oneCell' = true := by
  intro u hu
  obtain ⟨c, _, rfl⟩ := List.mem_map.1 hu
  rfl
theorem take_next {l : List Nat} {k : Nat} (h : k < l.length) : l.take (k + 1) = l.take k ++ [l.getD k 0] := by
  rw [List.take_succ_eq_append_getElem h, List.getD_eq_getElem?_getD, List.getElem?_eq_getElem h]; rfl
theorem info_byte : (Try.prog.info? 5).map (fun i => (i.zero, i.size, i.bytes)) = some (some (.int .u8 0), 1, 1) := by kernel_rfl

theorem ints_any (l : List Nat) (hb : byt l) (hl : l.length ≤ 1000) (w : World) :
    Calls Try.prog 24 #[.string (str (oct l))] w fun e w' => (∃ v, e = .returned v ∧ w'.ownsRow w.heap.size 3 1 v l.length (nis l)) ∧ Below w.heap.size w w' := by
  have hlo : (oct l).length = l.length := by simp [oct]
  obtain ⟨s, hs⟩ : ∃ s, s = str (oct l) := ⟨_, rfl⟩
  have hss : s.size = l.length := by rw [hs, size_str, hlo]
  have hget : ∀ k (h : k < s.size), (s[k]'h).toNat = l.getD k 0 := by
    subst hs
    intro k h
    have hk : k < l.length := by rw [← hss]; exact h
    have h1 : ((str (oct l))[k]'h) = (oct l)[k]'(by rw [hlo]; exact hk) := rfl
    rw [h1]
    have hl := hb k
    rw [List.getD_eq_getElem?_getD, List.getElem?_eq_getElem hk] at hl ⊢
    simp only [Option.getD_some] at hl ⊢
    simp [oct, UInt8.toNat_ofNat', Nat.mod_eq_of_lt hl]
  rw [← hs]
  have HG := Lib.hid hget; clear hget hs
  go_enter Try.func24, Try.ntmps24
  go_wp2_with fail
  go_loopw [3, 4] (fun v i wr => ∃ k : Nat, k ≤ l.length ∧ i = .int .i64 k ∧ wr.ownsRow w.heap.size 3 1 v k (nis (l.take k)) ∧ Below w.heap.size w wr) (fun _ i _ => l.length - (intOf i).toNat)
  case atStart => exact ⟨0, by omega, rfl, World.ownsRow_nil _ _ _ _, Below.refl _ _⟩
  case round =>
    obtain ⟨k, hk, rfl, hown, hbr⟩ := hrel
    by_cases hlt : k < l.length
    · have hlti : (k : Int) < (l.length : Int) := by omega
      obtain ⟨x, hx⟩ : ∃ x, x = l.getD k 0 := ⟨_, rfl⟩
      have hx2 : x < 256 := by rw [hx]; exact hb k
      have hg : ∀ h, (s[k]'h).toNat = x := fun h => by rw [HG.out k h, hx]
      have hbsz := hbr.size
      have key : ∀ (w1 : World), (wr.alloc (.cells #[.int .i64 (x : Nat)] 3)).grownBy w1 u3.ownBlock → Below w.heap.size w w1 := fun w1 hg =>
        (hbr.alloc hbr.size _).grown hg (by simp; omega) (fun k hk => (hown.lt k hk).1)
      have KEY := Lib.hid key; clear key
      have HX := Lib.hid hx; clear hx
      go_wp2_with (at_builtin; refine wpList_app rfl (.tmp 11) (.tmp 16) _ rfl w.heap.size 3 _ 1 8 Try.underlying30 info_int rfl (by decide) u3 k (nis (l.take k)) rfl (own_below hown ((Below.refl _ _).alloc (Nat.le_refl _) _)) _ 1 _ [.int .i64 (x : Nat)] rfl (sees_new wr _ [.int .i64 (x : Nat)] 1 1 rfl) (by simp [Value.oneCell']) (by unfold maxLen; omega) (by omega) (by simp; omega) ?_; intro v' w1 hown1 hgr1 hat1 hnil1)
      go_roundw
      case rel => exact ⟨k + 1, by omega, by go_num, by rw [take_next hlt, nis_append, ← HX.out]; exact hown1, KEY.out _ hgr1⟩
      case measure => simp [intOf]; omega
    · obtain rfl : k = l.length := by omega
      have hge : ¬ ((l.length : Int) < (l.length : Int)) := by omega
      rw [List.take_length] at hown
      go_wp2_with fail
      go_ret
      exact ⟨⟨_, rfl, hown⟩, hbr⟩

theorem text2_any (l : List Nat) (hb : byt l) (n : Nat) (hl : l.length = n) (hn : n ≤ 1000) (hn0 : 0 < n) (g c : Nat) (w : World) (hblk : Sees w 1 (some ⟨g, 0, none⟩) n (nis l)) :
    Calls Try.prog 21 #[.slice (some ⟨g, 0, none⟩) n c] w fun e w' => e = .returned (.string (str (oct l))) ∧ Below w.heap.size w w' := by
  go_enter Try.func21, Try.ntmps21
  go_wp2_with fail
  go_loopw [3, 4] (fun v i wr => ∃ k : Nat, k ≤ n ∧ i = .int .i64 k ∧ wr.ownsRow w.heap.size 5 1 v k (u8s (oct (l.take k))) ∧ Below w.heap.size w wr) (fun _ i _ => n - (intOf i).toNat)
  case atStart => exact ⟨0, by omega, rfl, World.ownsRow_nil _ _ _ _, Below.refl _ _⟩
  case round =>
    obtain ⟨k, hk, rfl, hown, hbr⟩ := hrel
    by_cases hlt : k < n
    · have hlti : (k : Int) < (n : Int) := by omega
      obtain ⟨x, hx⟩ : ∃ x, x = l.getD k 0 := ⟨_, rfl⟩
      have hx2 : x < 256 := by rw [hx]; exact hb k
      have hxi : (x : Int) < 256 := by omega
      have hw8 : IntKind.u8.wrap (x : Int) = (x : Int) := by rw [IntKind.wrap_u8']; omega
      have hc1 : wr.cell? ⟨g, k, none⟩ = some (.int .i64 (x : Nat)) := by
        obtain ⟨g', off, e, hc⟩ := (hblk.keep (fun g' _ _ h => hbr.block g' h)).2 hn0
        injection e with e; injection e with e1 e2; subst e1 e2
        have := hc k (.int .i64 (x : Nat)) (by rw [nis_get (by omega), hx])
        rwa [Nat.zero_add] at this
      have hbsz := hbr.size
      have key : ∀ (w1 : World), (wr.alloc (.cells #[.int .u8 (x : Nat)] 5)).grownBy w1 u3.ownBlock → Below w.heap.size w w1 := fun w1 hg =>
        (hbr.alloc hbr.size _).grown hg (by simp; omega) (fun k hk => (hown.lt k hk).1)
      have KEY := Lib.hid key; clear key
      have HX := Lib.hid hx; clear hx
      go_wp2_with (at_builtin; refine wpList_app rfl (.tmp 11) (.tmp 17) _ rfl w.heap.size 5 _ 1 1 Try.underlying38 info_byte rfl (by decide) u3 k (u8s (oct (l.take k))) rfl (own_below hown ((Below.refl _ _).alloc (Nat.le_refl _) _)) _ 1 _ [.int .u8 (x : Nat)] rfl (sees_new wr _ [.int .u8 (x : Nat)] 1 1 rfl) (by simp [Value.oneCell']) (by unfold maxLen; omega) (by omega) (by simp; omega) ?_; intro v' w1 hown1 hgr1 hat1 hnil1)
      go_roundw
      case rel =>
        refine ⟨k + 1, by omega, by go_num, ?_, KEY.out _ hgr1⟩
        have e : u8s (oct (l.take (k + 1))) = u8s (oct (l.take k)) ++ [.int .u8 (x : Nat)] := by
          rw [take_next (by omega), ← HX.out]
          simp [oct, u8s, UInt8.toNat_ofNat', Nat.mod_eq_of_lt hx2]
        rw [e]; exact hown1
      case measure => simp [intOf]; omega
    · obtain rfl : k = n := by omega
      rw [List.take_of_length_le (by omega)] at hown
      obtain ⟨g2, cap, cu, rfl, hg2, hb2, -⟩ := own_open hown hn0
      have hS : Sees wr 1 (some ⟨g2, 0, none⟩) k (u8s (oct l)) := Sees.of_own hown
      have hcv := run_to_string Try.underlying38 Try.underlying5 Try.underlying9 cap hS
      have HS := Lib.hid hS; have HO := Lib.hid hown; have HB := Lib.hid hb2; clear hS hown hb2
      have hge : ¬ ((k : Int) < (k : Int)) := by omega
      go_wp2_with fail
      go_ret
      exact ⟨rfl, hbr⟩
end Go.Proofs.Ytimaeghbjfialaa
