/-
  A literal slice of one element, laid in new memory, appended to an owned row, in whatever order with other such: a stage, and which blocks it may lean on. No program in sight.
  Put.
-/
import Derived.Test.YtkgaeoeibjoljaaGreatDoorGA
import Derived.Test.YtkgaeoeibjoljaaGreatDoorGQ
import Derived.Test.YtkgaeoeibjoljaaGreatDoorGO
namespace Go.Proofs.YtkgaeoeibjoljaaGreatDoor
section
set_option maxRecDepth 4000
open Go.RowKit
structure Ch (base : Nat) (e : TypeId) (size n : Nat) (v : Value) (xs news : List Value) (st : Nat) (x y : Value) (w : World) (G : Nat -> Prop) : Prop where
 lies : ∀ g, G g -> base <= g /\ g < w.heap.size
 own : st <= 1 -> w.ownsRow base e size v n xs /\ ∀ g, v.ownBlock = some g -> G g
 lit : st = 1 -> ∃ g1, x = .slice (some ⟨g1, 0, none⟩) 1 1 /\ Sees w size (some ⟨g1, 0, none⟩) 1 news /\ G g1 /\ v.ownBlock ≠ some g1
 new : st = 2 -> w.ownsRow base e size y (n + 1) (xs ++ news) /\ ∀ g, y.ownBlock = some g -> G g
section
variable {base : Nat} {e : TypeId} {size n : Nat} {v : Value} {xs news : List Value} {st : Nat} {x y : Value} {w w' : World} {G : Nat -> Prop}
theorem Ch.start (h : w.ownsRow base e size v n xs) (x y : Value) : Ch base e size n v xs news 0 x y w (fun g => v.ownBlock = some g) := by
 refine ⟨fun g hg => ?_, fun _ => ⟨h, fun g hg => hg⟩, (fun h => by cases h), (fun h => by cases h)⟩
 rcases h.2 with ⟨rfl, _⟩ | ⟨g', cap, cur, rfl, hb, hh, _⟩
 ·simp [Value.ownBlock] at hg
 ·simp [Value.ownBlock] at hg
  subst hg
  exact ⟨hb, (Array.getElem?_eq_some_iff.1 hh).1⟩
theorem Ch.fr (h : Ch base e size n v xs news st x y w G) {F : Nat -> Prop} (hf : Fr F w w') (hd : ∀ k, F k -> ¬ G k) : Ch base e size n v xs news st x y w' G := by
 refine ⟨fun g hg => ⟨(h.lies g hg).1, Nat.lt_of_lt_of_le (h.lies g hg).2 hf.size⟩, fun hs => ⟨own_fr (h.own hs).1 hf (fun g hg hk => hd g hk ((h.own hs).2 g hg)), (h.own hs).2⟩, fun hs => ?_, fun hs => ⟨own_fr (h.new hs).1 hf (fun g hg hk => hd g hk ((h.new hs).2 g hg)), (h.new hs).2⟩⟩
 obtain ⟨g1, e1, s1, k1, k2⟩ := h.lit hs
 exact ⟨g1, e1, s1.fr hf (fun _ a ha hk => by injection ha with ha; subst ha; exact hd _ hk k1), k1, k2⟩
theorem Ch.build (h : Ch base e size n v xs news 0 x y w G) (hb : base <= w.heap.size) (hl : news.length = size) (T : TypeId) (y' : Value) :
  Ch base e size n v xs news 1 (.slice (some ⟨w.heap.size, 0, none⟩) 1 1) y' (w.alloc (.cells news.toArray T)) (fun g => G g \/ g = w.heap.size) := by
 have hf : Fr (fun _ => False) w (w.alloc (.cells news.toArray T)) := Fr.alloc _ _ _
 refine ⟨fun g hg => ?_, fun _ => ⟨own_fr (h.own (by omega)).1 hf (fun _ _ h => h), fun g hg => .inl ((h.own (by omega)).2 g hg)⟩, fun _ => ?_, (fun h => by cases h)⟩
 ·rcases hg with hg | rfl
  ·exact ⟨(h.lies g hg).1, Nat.lt_of_lt_of_le (h.lies g hg).2 hf.size⟩
  ·exact ⟨hb, by simp⟩
 ·refine ⟨w.heap.size, rfl, sees_new w T news size 1 (by omega), .inr rfl, fun hv => ?_⟩
  have := (h.lies _ ((h.own (by omega)).2 _ hv)).2
  omega
theorem Ch.app (h : Ch base e size n v xs news 1 x y w G) (hb : base <= w.heap.size) {v' : Value} (x' : Value) (hown : w'.ownsRow base e size v' (n + 1) (xs ++ news)) (hg : w.grownBy w' v.ownBlock) (hv : v'.ownBlock = v.ownBlock \/ v'.ownBlock = some w.heap.size) :
  Ch base e size n v xs news 2 x' v' w' (fun g => (G g \/ g = w.heap.size) /\ g < w'.heap.size) /\ Fr (fun k => v.ownBlock = some k) w w' := by
 have hf : Fr (fun k => v.ownBlock = some k) w w' := Fr.of_grown hg (fun k hk => hk)
 refine ⟨⟨fun g hg => ?_, (fun h => by omega), (fun h => by cases h), fun _ => ⟨hown, fun g hg => ⟨?_, ?_⟩⟩⟩, hf⟩
 ·refine ⟨?_, hg.2⟩
  rcases hg.1 with hg | rfl
  ·exact (h.lies g hg).1
  ·exact hb
 ·rcases hv with hv | hv
  ·exact .inl ((h.own (by omega)).2 g (hv ▸ hg))
  ·rw [hv] at hg
   injection hg with hg
   exact .inr hg.symm
 ·rcases hown.2 with ⟨rfl, _⟩ | ⟨g', cap, cur, rfl, _, hh, _⟩
  ·simp [Value.ownBlock] at hg
  ·simp [Value.ownBlock] at hg
   subst hg
   exact (Array.getElem?_eq_some_iff.1 hh).1
end
/-! ### Three such chains, apart from one another and from what must stay -/
structure Cd where
 e : TypeId
 size : Nat
 n : Nat
 v : Value
 xs : List Value
 news : List Value
abbrev Cd.at_ (D : Cd) (base : Nat) (s : Nat × Value × Value) (w : World) (G : Nat -> Prop) : Prop := Ch base D.e D.size D.n D.v D.xs D.news s.1 s.2.1 s.2.2 w G
def Old3 (D1 D2 D3 : Cd) (k : Nat) : Prop := D1.v.ownBlock = some k \/ D2.v.ownBlock = some k \/ D3.v.ownBlock = some k
def Three (base : Nat) (D1 : Cd) (s1 : Nat × Value × Value) (D2 : Cd) (s2 : Nat × Value × Value) (D3 : Cd) (s3 : Nat × Value × Value) (R : Nat -> Prop) (w0 w : World) : Prop :=
 ∃ G1 G2 G3, (D1.at_ base s1 w G1 /\ ∀ k, G1 k -> D1.v.ownBlock = some k \/ w0.heap.size <= k) /\ (D2.at_ base s2 w G2 /\ ∀ k, G2 k -> D2.v.ownBlock = some k \/ w0.heap.size <= k) /\ (D3.at_ base s3 w G3 /\ ∀ k, G3 k -> D3.v.ownBlock = some k \/ w0.heap.size <= k) /\
  (∀ k, G1 k -> ¬ G2 k /\ ¬ G3 k /\ ¬ R k) /\ (∀ k, G2 k -> ¬ G3 k /\ ¬ R k) /\ (∀ k, G3 k -> ¬ R k) /\
  base <= w.heap.size /\ Fr (Old3 D1 D2 D3) w0 w /\ ∀ k, R k -> k < w.heap.size /\ w.heap[k]? = w0.heap[k]?
section
variable {base : Nat} {D1 D2 D3 : Cd} {s1 s2 s3 : Nat × Value × Value} {R : Nat -> Prop} {w0 w w' : World} {x y : Value}
theorem Three.swap12 (h : Three base D1 s1 D2 s2 D3 s3 R w0 w) : Three base D2 s2 D1 s1 D3 s3 R w0 w := by
 obtain ⟨G1, G2, G3, a, b, c, d, e, f, g, o, r⟩ := h
 exact ⟨G2, G1, G3, b, a, c, fun k hk => ⟨fun h1 => (d k h1).1 hk, (e k hk).1, (e k hk).2⟩, fun k hk => ⟨(d k hk).2.1, (d k hk).2.2⟩, f, g,
  (show Fr (Old3 D2 D1 D3) w0 w from o.mono (fun k _ hk => hk.elim (fun h => .inr (.inl h)) (fun h => h.elim .inl (fun h => .inr (.inr h))))), r⟩
theorem Three.swap13 (h : Three base D1 s1 D2 s2 D3 s3 R w0 w) : Three base D3 s3 D2 s2 D1 s1 R w0 w := by
 obtain ⟨G1, G2, G3, a, b, c, d, e, f, g, o, r⟩ := h
 exact ⟨G3, G2, G1, c, b, a, fun k hk => ⟨fun h1 => (e k h1).1 hk, fun h1 => (d k h1).2.1 hk, f k hk⟩, fun k hk => ⟨fun h1 => (d k h1).1 hk, (e k hk).2⟩, fun k hk => (d k hk).2.2, g,
  (show Fr (Old3 D3 D2 D1) w0 w from o.mono (fun k _ hk => hk.elim (fun h => .inr (.inr h)) (fun h => h.elim (fun h => .inr (.inl h)) .inl))), r⟩
theorem Three.build (h : Three base D1 (0, x, y) D2 s2 D3 s3 R w0 w) (hl : D1.news.length = D1.size) (T : TypeId) (y' : Value) :
  Three base D1 (1, .slice (some ⟨w.heap.size, 0, none⟩) 1 1, y') D2 s2 D3 s3 R w0 (w.alloc (.cells D1.news.toArray T)) := by
 obtain ⟨G1, G2, G3, ⟨a, a2⟩, ⟨b, b2⟩, ⟨c, c2⟩, d, e, f, hb, hbel, hR⟩ := h
 have hf : Fr (fun _ => False) w (w.alloc (.cells D1.news.toArray T)) := Fr.alloc _ _ _
 refine ⟨_, G2, G3, ⟨Ch.build a hb hl T y', fun k hk => ?_⟩, ⟨Ch.fr b hf (fun _ h => h.elim), b2⟩, ⟨Ch.fr c hf (fun _ h => h.elim), c2⟩, fun k hk => ?_, e, f, Nat.le_trans hb hf.size, hbel.trans hf (fun _ _ h => h.elim), fun k hk => ⟨Nat.lt_of_lt_of_le (hR k hk).1 hf.size, (hf.block k (hR k hk).1 (fun h => h)).trans (hR k hk).2⟩⟩
 ·rcases hk with hk | rfl
  ·exact a2 k hk
  ·exact .inr hbel.size
 ·rcases hk with hk | rfl
  ·exact d k hk
  ·exact ⟨fun h => by have := (b.lies _ h).2; omega, fun h => by have := (c.lies _ h).2; omega, fun h => by have := (hR _ h).1; omega⟩
theorem Three.app (h : Three base D1 (1, x, y) D2 s2 D3 s3 R w0 w) {v' : Value} (x' : Value) (hown : w'.ownsRow base D1.e D1.size v' (D1.n + 1) (D1.xs ++ D1.news)) (hg : w.grownBy w' D1.v.ownBlock) (hv : v'.ownBlock = D1.v.ownBlock \/ v'.ownBlock = some w.heap.size) :
  Three base D1 (2, x', v') D2 s2 D3 s3 R w0 w' := by
 obtain ⟨G1, G2, G3, ⟨a, a2⟩, ⟨b, b2⟩, ⟨c, c2⟩, d, e, f, hb, hbel, hR⟩ := h
 obtain ⟨a', hf⟩ := Ch.app a hb x' hown hg hv
 have hG1 : ∀ k, D1.v.ownBlock = some k -> G1 k := (a.own (Nat.le_refl 1)).2
 refine ⟨_, G2, G3, ⟨a', fun k hk => ?_⟩, ⟨Ch.fr b hf (fun k hk => (d k (hG1 k hk)).1), b2⟩, ⟨Ch.fr c hf (fun k hk => (d k (hG1 k hk)).2.1), c2⟩, fun k hk => ?_, e, f, Nat.le_trans hb hf.size, hbel.trans hf (fun k _ hk => .inl hk), fun k hk => ⟨Nat.lt_of_lt_of_le (hR k hk).1 hf.size, (hf.block k (hR k hk).1 (fun h => (d k (hG1 k h)).2.2 hk)).trans (hR k hk).2⟩⟩
 ·rcases hk.1 with hk | rfl
  ·exact a2 k hk
  ·exact .inr hbel.size
 ·rcases hk.1 with hk | rfl
  ·exact d k hk
  ·exact ⟨fun h => by have := (b.lies _ h).2; omega, fun h => by have := (c.lies _ h).2; omega, fun h => by have := (hR _ h).1; omega⟩
theorem Three.lit (h : Three base D1 (1, x, y) D2 s2 D3 s3 R w0 w) : w.ownsRow base D1.e D1.size D1.v D1.n D1.xs /\ base <= w.heap.size /\ ∃ g1, x = .slice (some ⟨g1, 0, none⟩) 1 1 /\ Sees w D1.size (some ⟨g1, 0, none⟩) 1 D1.news := by
 obtain ⟨G1, G2, G3, a, b, c, d, e, f, hb, hbel, hR⟩ := h
 obtain ⟨g1, h1, h2, _⟩ := a.1.lit rfl
 exact ⟨(a.1.own (Nat.le_refl 1)).1, hb, g1, h1, h2⟩
theorem Three.stay (h : Three base D1 s1 D2 s2 D3 s3 R w0 w) : ∀ k, R k -> w.heap[k]? = w0.heap[k]? := by
 obtain ⟨G1, G2, G3, a, b, c, d, e, f, hb, hbel, hR⟩ := h
 exact fun k hk => (hR k hk).2
theorem Three.done {x2 y2 x3 y3 : Value} (h : Three base D1 (2, x, y) D2 (2, x2, y2) D3 (2, x3, y3) R w0 w) :
  w.ownsRow base D1.e D1.size y (D1.n + 1) (D1.xs ++ D1.news) /\ w.ownsRow base D2.e D2.size y2 (D2.n + 1) (D2.xs ++ D2.news) /\ w.ownsRow base D3.e D3.size y3 (D3.n + 1) (D3.xs ++ D3.news) /\
   (∀ g, y2.ownBlock = some g -> y3.ownBlock ≠ some g) /\ (∀ g, y.ownBlock = some g \/ y2.ownBlock = some g \/ y3.ownBlock = some g -> ¬ R g /\ (Old3 D1 D2 D3 g \/ w0.heap.size <= g)) /\ Fr (Old3 D1 D2 D3) w0 w := by
 obtain ⟨G1, G2, G3, ⟨a, a2⟩, ⟨b, b2⟩, ⟨c, c2⟩, d, e, f, hb, hbel, hR⟩ := h
 refine ⟨(a.new rfl).1, (b.new rfl).1, (c.new rfl).1, fun g h1 h2 => (e g ((b.new rfl).2 g h1)).1 ((c.new rfl).2 g h2), fun g hg => ?_, hbel⟩
 rcases hg with hg | hg | hg
 ·exact ⟨(d g ((a.new rfl).2 g hg)).2.2, (a2 g ((a.new rfl).2 g hg)).imp .inl id⟩
 ·exact ⟨(e g ((b.new rfl).2 g hg)).2, (b2 g ((b.new rfl).2 g hg)).imp (fun h => .inr (.inl h)) id⟩
 ·exact ⟨f g ((c.new rfl).2 g hg), (c2 g ((c.new rfl).2 g hg)).imp (fun h => .inr (.inr h)) id⟩
theorem Three.start (h1 : w.ownsRow base D1.e D1.size D1.v D1.n D1.xs) (h2 : w.ownsRow base D2.e D2.size D2.v D2.n D2.xs) (h3 : w.ownsRow base D3.e D3.size D3.v D3.n D3.xs)
  (n12 : ∀ g, D1.v.ownBlock = some g -> D2.v.ownBlock ≠ some g) (n13 : ∀ g, D1.v.ownBlock = some g -> D3.v.ownBlock ≠ some g) (n23 : ∀ g, D2.v.ownBlock = some g -> D3.v.ownBlock ≠ some g)
  (hR : ∀ g, D1.v.ownBlock = some g \/ D2.v.ownBlock = some g \/ D3.v.ownBlock = some g -> ¬ R g) (hb : base <= w.heap.size) (hl : ∀ k, R k -> k < w.heap.size) (x1 y1 x2 y2 x3 y3 : Value) :
  Three base D1 (0, x1, y1) D2 (0, x2, y2) D3 (0, x3, y3) R w w :=
 ⟨_, _, _, ⟨Ch.start h1 _ _, fun _ h => .inl h⟩, ⟨Ch.start h2 _ _, fun _ h => .inl h⟩, ⟨Ch.start h3 _ _, fun _ h => .inl h⟩, fun k hk => ⟨n12 k hk, n13 k hk, hR k (.inl hk)⟩, fun k hk => ⟨n23 k hk, hR k (.inr (.inl hk))⟩, fun k hk => hR k (.inr (.inr hk)), hb, Fr.refl _ _, fun k hk => ⟨hl k hk, rfl⟩⟩
end
theorem bit_one' (i k : Nat) : (1 <<< i).testBit k = decide (i = k) := by
 rw [Nat.one_shiftLeft, Nat.testBit_two_pow]
def stg (L i j : Nat) : Nat := if L.testBit j then 2 else if L.testBit i then 1 else 0
theorem stg_build {L i j : Nat} (h1 : L.testBit i = false) (h2 : L.testBit j = false) (hij : i ≠ j) : stg L i j = 0 /\ stg (L ||| 1 <<< i) i j = 1 := by
 unfold stg
 rw [Nat.testBit_or, Nat.testBit_or, bit_one', bit_one', h1, h2]
 simp [hij]
theorem stg_app {L i j : Nat} (h1 : L.testBit i = true) (h2 : L.testBit j = false) : stg L i j = 1 /\ stg (L ||| 1 <<< j) i j = 2 := by
 unfold stg
 rw [Nat.testBit_or, Nat.testBit_or, bit_one', bit_one', h1, h2]
 simp
theorem stg_other {L i j k : Nat} (h1 : k ≠ i) (h2 : k ≠ j) : stg (L ||| 1 <<< k) i j = stg L i j := by
 unfold stg
 rw [Nat.testBit_or, Nat.testBit_or, bit_one', bit_one']
 simp [h1, h2]
end
section
set_option maxRecDepth 4000
open Go.RowKit
structure PutAt (w W : World) (base p : Nat) (l : List Tm) (tA : Option Addr) (tc mb : Nat) (dA : Option Addr) (dc : Nat) (sA : Option Addr) (sc : Nat) (k a x y : Int) : Prop where
 parts : PoolParts W base p l tA tc mb dA dc sA sc
 box : Blk W w.heap.size 95 #[.int .i64 k, .int .i64 a, .int .i64 x, .int .i64 y]
 bel : Below w.heap.size w W
section
variable {w W W' : World} {base p : Nat} {l : List Tm} {tA : Option Addr} {tc mb : Nat} {dA : Option Addr} {dc : Nat} {sA : Option Addr} {sc : Nat} {k a x y : Int}
theorem PutAt.below (h : PutAt w W base p l tA tc mb dA dc sA sc k a x y) (hb : Below W.heap.size W W') : PutAt w W' base p l tA tc mb dA dc sA sc k a x y :=
 ⟨h.parts.below hb, h.box.keep (hb.block _ h.box.lt), h.bel.trans (hb.mono h.bel.size)⟩
theorem PutAt.drew (h : PutAt w W base p l tA tc mb dA dc sA sc k a x y) : PutAt w W.drew base p l tA tc mb dA dc sA sc k a x y := h.below (Below.refl _ _).drew
theorem PutAt.start (h : PoolParts w base p l tA tc mb dA dc sA sc) : PutAt w (w.alloc (.cells #[.int .i64 k, .int .i64 a, .int .i64 x, .int .i64 y] 95)) base p l tA tc mb dA dc sA sc k a x y :=
 ⟨h.below ((Below.refl _ _).alloc (Nat.le_refl _) _), Blk.new _ _ _, (Below.refl _ _).alloc (Nat.le_refl _) _⟩
theorem PutAt.is (h : PutAt w W base p l tA tc mb dA dc sA sc k a x y) : PoolIs W base p l := ⟨_, _, _, _, _, _, _, h.parts⟩
end
theorem lookup_term {W : World} {mb : Nat} {l : List Tm} (h : TMap W mb l) (k a x y : Int) :
  (Instr.lookup 133 (.map (some mb)) (.agg #[.int .i64 k, .int .i64 a, .int .i64 x, .int .i64 y]) true).run Tryz.prog W = .ok (.tuple #[.int .i64 (if (⟨k, a, x, y⟩ : Tm) ∈ l then (l.idxOf (⟨k, a, x, y⟩ : Tm) : Int) else 0), .bool (decide ((⟨k, a, x, y⟩ : Tm) ∈ l))]) W :=
 run_lookup_tm termType Tryz.underlying133 (by kernel_rfl) h ⟨k, a, x, y⟩
end
end Go.Proofs.YtkgaeoeibjoljaaGreatDoor
