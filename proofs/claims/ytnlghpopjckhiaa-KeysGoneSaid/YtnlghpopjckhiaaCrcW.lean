/-
  The code's text with its checksum.
-/
import Derived.Test.YtnlghpopjckhiaaWire
namespace Go.Proofs.Ytnlghpopjckhiaa
set_option maxRecDepth 4000
open Go.RowKit

theorem cwith_any (l : List UInt8) (A : Option Addr) (n c : Nat) (w : World) (hS : Sees w 1 A n (u8s l)) (hl : l.length = n) (hn : n ≤ 100000) :
    Calls Try.prog 47 #[.slice A n c] w fun e w' => ∃ v, e = .returned v ∧ w'.ownsRow w.heap.size 5 1 v (n + 4) (u8s (crcw l)) ∧ Below w.heap.size w w' := by
  have hcl := crc_lt l
  have hlen : (crcw l).length = n + 4 := by rw [crcw, List.length_append, length_be, hl]
  have HS := Lib.hid hS; clear hS
  have HN := Lib.hid new_any
  go_enter Try.func47, Try.ntmps47
  go_wp2_with fail
  refine (HN.out _).mono ?_
  rintro e w1 ⟨rfl, hp1, hb1⟩
  have hR := raw_any w.heap.size w.heap.size [] l A n c w1 hp1 (HS.out.below hb1) hl (by simp; omega)
  rw [List.nil_append] at hR
  have HR := Lib.hid hR; have HB1 := Lib.hid hb1; clear hR hp1 hb1
  go_wp2_with fail
  refine HR.out.mono ?_
  rintro e w2 ⟨rfl, hp2, hb2⟩
  have hb12 : Below w.heap.size w w2 := HB1.out.trans hb2
  have hal : Below w2.heap.size w2 (w2.alloc (.cells #[.slice A n c] 37)) := (Below.refl _ _).alloc (Nat.le_refl _) _
  have hb13 := hb12.trans (hal.mono hb12.size)
  have hp3 := hp2.keep hal
  have hcell : (w2.alloc (.cells #[.slice A n c] 37)).cell? ⟨w2.heap.size, 0, none⟩ = some (.slice A n c) := by rw [(Blk.new w2 37 #[.slice A n c]).cell]; rfl
  have HC := Lib.hid (ccrc_any l w2.heap.size 1 A n c _ hl hn hcell (HS.out.below hb13))
  have HU := Lib.hid (u32_any w.heap.size w.heap.size l (crc l) _ hp3 hcl (by omega))
  rw [show l ++ be (crc l) 4 = crcw l from rfl] at HU
  have HB13 := Lib.hid hb13; clear hp2 hb2 hb12 hal hb13 hp3 hcell HR HB1
  generalize crc l = x at *
  have hxi : (x : Int) < 4294967296 := by omega
  have hxw : IntKind.i64.wrap (x : Int) = (x : Int) := IntWalk.i64_in _ (by omega)
  go_wp2_with fail
  refine HC.out.mono ?_
  rintro e w' ⟨rfl, rfl⟩
  go_wp2_with fail
  refine HU.out.mono ?_
  rintro e w4 ⟨rfl, hp4, hb4⟩
  have hb14 : Below w.heap.size w w4 := HB13.out.trans hb4
  have hBy := bytes_any w.heap.size w.heap.size (crcw l) w4 hp4 (by omega) (by omega)
  rw [hlen] at hBy
  have HBy := Lib.hid hBy; have HB14 := Lib.hid hb14; clear hBy hb14 hp4 hb4 HU HB13 HC
  go_wp2_with fail
  refine HBy.out.mono ?_
  rintro e w5 ⟨v, rfl, hown, hb5⟩
  go_wp2_with fail
  go_ret
  exact ⟨v, rfl, own_base hown HB14.out.size, HB14.out.trans (hb5.mono HB14.out.size)⟩
end Go.Proofs.Ytnlghpopjckhiaa
