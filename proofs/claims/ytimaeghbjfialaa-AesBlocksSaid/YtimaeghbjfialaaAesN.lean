/-
  The cipher, in plain numbers: round keys, rounds, a block; a block comes back. No program in sight.
-/
import Derived.Test.YtimaeghbjfialaaAesM
namespace Go.Proofs.Ytimaeghbjfialaa

def tab (m : Nat) (f : Nat → Nat) : List Nat := (List.range m).map f
theorem tab_length (m : Nat) (f : Nat → Nat) : (tab m f).length = m := by simp [tab]
theorem tab_get {m i : Nat} (f : Nat → Nat) (h : i < m) : (tab m f).getD i 0 = f i := by simp [tab, List.getD_eq_getElem?_getD, h]
theorem tab_ext {m : Nat} {f g : Nat → Nat} (h : ∀ i, i < m → f i = g i) : tab m f = tab m g := List.map_congr_left fun i hi => h i (List.mem_range.1 hi)
theorem tab_inj {m : Nat} {f g : Nat → Nat} (h : tab m f = tab m g) : ∀ i, i < m → f i = g i := fun i hi => by rw [← tab_get f hi, h, tab_get g hi]
theorem list_ext {a b : List Nat} (hl : a.length = b.length) (h : ∀ i, i < a.length → a.getD i 0 = b.getD i 0) : a = b := by
  refine List.ext_getElem hl fun i h1 h2 => ?_
  have := h i h1
  simpa [List.getD_eq_getElem?_getD, h1, h2] using this
theorem tab_self {m : Nat} {l : List Nat} (h : l.length = m) : tab m (fun i => l.getD i 0) = l := list_ext (by rw [tab_length, h]) fun i hi => by
  rw [tab_length] at hi; rw [tab_get _ hi]
theorem tab_set {m n v : Nat} (f : Nat → Nat) : (tab m f).set n v = tab m (fun j => if j = n then v else f j) := by
  refine list_ext (by simp [tab]) fun i hi => ?_
  have hi : i < m := by simpa [tab] using hi
  rw [tab_get _ hi, List.getD_eq_getElem?_getD, List.getElem?_set]
  by_cases h : n = i
  · subst h; simp [tab, hi]
  · rw [if_neg h, if_neg (fun e => h e.symm)]; simp [tab, hi]

theorem getD_left {a b : List Nat} {i : Nat} (h : i < a.length) : (a ++ b).getD i 0 = a.getD i 0 := by
  rw [List.getD_eq_getElem?_getD, List.getD_eq_getElem?_getD, List.getElem?_append_left h]
def byt (l : List Nat) : Prop := ∀ i, l.getD i 0 < 256
theorem byt_tab {m : Nat} {f : Nat → Nat} (h : ∀ i, i < m → f i < 256) : byt (tab m f) := fun i => by
  by_cases hi : i < m
  · rw [tab_get f hi]; exact h i hi
  · rw [List.getD_eq_getElem?_getD, List.getElem?_eq_none (by rw [tab_length]; omega)]; decide

def sb (a : Nat) : Nat := sbox.getD a 0
theorem sb_lt (a : Nat) : sb a < 256 := sbox_lt a
theorem sb_box {a : Nat} (h : a < 256) : sb a = box a := (box_eq h).symm
theorem sb_inj {a b : Nat} (ha : a < 256) (hb : b < 256) (h : sb a = sb b) : a = b := by rw [← isbox_ok ha, ← isbox_ok hb]; exact congrArg (fun x => isbox.getD x 0) h

/-! ### The round keys -/
def pw : Nat → Nat
  | 0 => 1
  | n + 1 => dbl (pw n)
theorem pw_lt : ∀ n, pw n < 256
  | 0 => by decide
  | n + 1 => dbl_lt (pw_lt n)
def kb (l : List Nat) (j : Nat) : Nat := l.getD (j - 16) 0 ^^^ (if j / 4 % 4 = 0 then sb (l.getD (4 * (j / 4) - 4 + (j % 4 + 1) % 4) 0) ^^^ (if j % 4 = 0 then pw (j / 16 - 1) else 0) else l.getD (j - 4) 0)
def kl (key : List Nat) : Nat → List Nat
  | 0 => key
  | n + 1 => kl key n ++ [kb (kl key n) (16 + n)]
def KF (key : List Nat) : List Nat := kl key 160
section
variable {key : List Nat}
theorem kl_length (key : List Nat) : ∀ n, (kl key n).length = key.length + n
  | 0 => rfl
  | n + 1 => by simp [kl, kl_length key n]; omega
theorem kl_pre (n : Nat) : ∀ m, n ≤ m → ∀ i, i < key.length + n → (kl key m).getD i 0 = (kl key n).getD i 0
  | 0, h, i, _ => by obtain rfl : n = 0 := by omega
                     rfl
  | m + 1, h, i, hi => by
    by_cases e : n = m + 1
    · rw [e]
    · rw [kl, getD_left (by rw [kl_length]; omega)]
      exact kl_pre n m (by omega) i hi
theorem KF_pre {n i : Nat} (hn : n ≤ 160) (hi : i < key.length + n) : (KF key).getD i 0 = (kl key n).getD i 0 := kl_pre n 160 hn i hi
theorem KF_key {i : Nat} (hi : i < key.length) : (KF key).getD i 0 = key.getD i 0 := KF_pre (n := 0) (by omega) (by omega)
theorem KF_length (hk : key.length = 16) : (KF key).length = 176 := by rw [KF, kl_length, hk]
theorem KF_step (hk : key.length = 16) {j : Nat} (h1 : 16 ≤ j) (h2 : j < 176) : (KF key).getD j 0 = kb (KF key) j := by
  obtain ⟨n, rfl⟩ : ∃ n, j = 16 + n := ⟨j - 16, by omega⟩
  rw [KF_pre (n := n + 1) (by omega) (by omega), kl, List.getD_eq_getElem?_getD, List.getElem?_append_right (by rw [kl_length]; omega), kl_length, hk, Nat.sub_self]
  show kb (kl key n) (16 + n) = _
  have e : ∀ i, i < 16 + n → (kl key n).getD i 0 = (KF key).getD i 0 := fun i hi => (KF_pre (by omega) (by omega)).symm
  unfold kb
  rw [e _ (by omega), e _ (by omega), e _ (by omega)]
theorem kb_lt {l : List Nat} (h : byt l) (j : Nat) : kb l j < 256 := by
  unfold kb
  refine xor_lt (h _) ?_
  split
  · refine xor_lt (sb_lt _) ?_
    split
    · exact pw_lt _
    · decide
  · exact h _
theorem kl_byt (h : byt key) : ∀ n, byt (kl key n)
  | 0 => h
  | n + 1 => fun i => by
    by_cases hi : i < (kl key n).length
    · rw [kl, getD_left hi]; exact kl_byt h n i
    · rw [kl, List.getD_eq_getElem?_getD, List.getElem?_append_right (by omega)]
      rcases Nat.eq_zero_or_pos (i - (kl key n).length) with e | e
      · rw [e]; exact kb_lt (kl_byt h n) _
      · rw [List.getElem?_eq_none (by simp; omega)]; decide
theorem KF_byt (h : byt key) : byt (KF key) := kl_byt h 160
end

/-! ### The rounds -/
def addk (b k : List Nat) : List Nat := tab 16 fun i => b.getD i 0 ^^^ k.getD i 0
def shi (j : Nat) : Nat := (4 * (j / 4 + j % 4) + j % 4) % 16
def sh (b : List Nat) (j : Nat) : Nat := sb (b.getD (shi j) 0)
def mx (c : Nat → Nat) (i : Nat) : Nat := dbl (c i) ^^^ dbl (c ((i + 1) % 4)) ^^^ c ((i + 1) % 4) ^^^ c ((i + 2) % 4) ^^^ c ((i + 3) % 4)
def rnd (b : List Nat) (last : Bool) : List Nat := tab 16 fun j => if last then sh b j else mx (fun i => sh b (4 * (j / 4) + i)) (j % 4)
def kr (key : List Nat) (r : Nat) : List Nat := tab 16 fun i => (KF key).getD (16 * r + i) 0
def st (key b : List Nat) : Nat → List Nat
  | 0 => addk b (kr key 0)
  | r + 1 => addk (rnd (st key b r) (r + 1 == 10)) (kr key (r + 1))
def enc (key b : List Nat) : List Nat := st key b 10

theorem addk_byt {b k : List Nat} (hb : byt b) (hk : byt k) : byt (addk b k) := byt_tab fun i _ => xor_lt (hb i) (hk i)
theorem sh_lt (b : List Nat) (j : Nat) : sh b j < 256 := sb_lt _
theorem mx_lt {c : Nat → Nat} (h : ∀ i, c i < 256) (i : Nat) : mx c i < 256 := xor_lt (xor_lt (xor_lt (xor_lt (dbl_lt (h _)) (dbl_lt (h _))) (h _)) (h _)) (h _)
theorem rnd_byt (b : List Nat) (last : Bool) : byt (rnd b last) := byt_tab fun i _ => by
  split
  · exact sh_lt _ _
  · exact mx_lt (fun _ => sh_lt _ _) _
theorem kr_byt {key : List Nat} (h : byt key) (r : Nat) : byt (kr key r) := byt_tab fun _ _ => KF_byt h _
theorem st_byt {key b : List Nat} (hk : byt key) (hb : byt b) : ∀ r, byt (st key b r)
  | 0 => addk_byt hb (kr_byt hk 0)
  | r + 1 => addk_byt (rnd_byt _ _) (kr_byt hk _)
theorem st_length (key b : List Nat) : ∀ r, (st key b r).length = 16
  | 0 => tab_length _ _
  | _ + 1 => tab_length _ _

/-! ### A block comes back -/
def imx (c : Nat → Nat) (i : Nat) : Nat := mul (c i) 14 ^^^ mul (c ((i + 1) % 4)) 11 ^^^ mul (c ((i + 2) % 4)) 13 ^^^ mul (c ((i + 3) % 4)) 9
theorem mx_xor {c d : Nat → Nat} (hc : ∀ i, c i < 256) (hd : ∀ i, d i < 256) (i : Nat) : mx (fun i => c i ^^^ d i) i = mx c i ^^^ mx d i := by
  unfold mx
  rw [dbl_xor (hc _) (hd _), dbl_xor (hc _) (hd _)]
  simp only
  ac_rfl
theorem imx_xor {c d : Nat → Nat} (hc : ∀ i, c i < 256) (hd : ∀ i, d i < 256) (i : Nat) : imx (fun i => c i ^^^ d i) i = imx c i ^^^ imx d i := by
  unfold imx
  rw [mul_xl _ (hc _) (hd _), mul_xl _ (hc _) (hd _), mul_xl _ (hc _) (hd _), mul_xl _ (hc _) (hd _)]
  try simp only
  ac_rfl
/-- One octet alone. -/
def el (k x : Nat) (i : Nat) : Nat := if i = k then x else 0
theorem el_lt {k x : Nat} (h : x < 256) (i : Nat) : el k x i < 256 := by unfold el; split <;> omega
theorem el_xor (k x y : Nat) : el k (x ^^^ y) = fun i => el k x i ^^^ el k y i := by funext i; unfold el; split <;> simp
theorem el_basis : (List.range 4).all (fun k => (List.range 4).all fun i => basis fun n => imx (mx (el k (2 ^ n))) i == el k (2 ^ n) i) = true := by decide +kernel
theorem el_back {k i : Nat} (hk : k < 4) (hi : i < 4) : ∀ x, x < 256 → imx (mx (el k x)) i = el k x i :=
  lin_ext (f := fun x => imx (mx (el k x)) i) (g := fun x => el k x i)
    (fun x y hx hy => by
      show imx (mx (el k (x ^^^ y))) i = _
      rw [el_xor, show mx (fun i => el k x i ^^^ el k y i) = fun i => mx (el k x) i ^^^ mx (el k y) i from funext fun i => mx_xor (el_lt hx) (el_lt hy) i,
        imx_xor (mx_lt (el_lt hx)) (mx_lt (el_lt hy))])
    (fun x y _ _ => by show el k (x ^^^ y) i = _; rw [el_xor])
    (fun n hn => beq_iff_eq.1 (of_basis (List.all_eq_true.1 (List.all_eq_true.1 el_basis k (List.mem_range.2 hk)) i (List.mem_range.2 hi)) n hn))
theorem imx_mx {c : Nat → Nat} (hc : ∀ i, c i < 256) {i : Nat} (hi : i < 4) : imx (mx c) i = c i := by
  have hm : ∀ {c d : Nat → Nat}, (∀ i, i < 4 → c i = d i) → ∀ i, i < 4 → mx c i = mx d i := fun h i hi => by
    unfold mx
    rw [h i hi, h _ (Nat.mod_lt _ (by decide)), h _ (Nat.mod_lt _ (by decide)), h _ (Nat.mod_lt _ (by decide))]
  have hn : ∀ {c d : Nat → Nat}, (∀ i, i < 4 → c i = d i) → ∀ i, i < 4 → imx c i = imx d i := fun h i hi => by
    unfold imx
    rw [h i hi, h _ (Nat.mod_lt _ (by decide)), h _ (Nat.mod_lt _ (by decide)), h _ (Nat.mod_lt _ (by decide))]
  have h0 := el_lt (k := 0) (hc 0)
  have h1 := el_lt (k := 1) (hc 1)
  have h2 := el_lt (k := 2) (hc 2)
  have h3 := el_lt (k := 3) (hc 3)
  have h23 : ∀ i, (fun i => el 2 (c 2) i ^^^ el 3 (c 3) i) i < 256 := fun i => xor_lt (h2 i) (h3 i)
  have h123 : ∀ i, (fun i => el 1 (c 1) i ^^^ (fun i => el 2 (c 2) i ^^^ el 3 (c 3) i) i) i < 256 := fun i => xor_lt (h1 i) (h23 i)
  have hs : ∀ i, i < 4 → c i = (fun i => el 0 (c 0) i ^^^ (fun i => el 1 (c 1) i ^^^ (fun i => el 2 (c 2) i ^^^ el 3 (c 3) i) i) i) i := fun i hi => by
    have : i = 0 ∨ i = 1 ∨ i = 2 ∨ i = 3 := by omega
    rcases this with rfl | rfl | rfl | rfl <;> simp [el]
  rw [hn (hm hs) i hi]
  rw [show mx (fun i => el 0 (c 0) i ^^^ (fun i => el 1 (c 1) i ^^^ (fun i => el 2 (c 2) i ^^^ el 3 (c 3) i) i) i) = fun i => mx (el 0 (c 0)) i ^^^ (fun i => mx (el 1 (c 1)) i ^^^ (fun i => mx (el 2 (c 2)) i ^^^ mx (el 3 (c 3)) i) i) i from
    funext fun i => by rw [mx_xor h0 h123, mx_xor h1 h23, mx_xor h2 h3]]
  rw [imx_xor (mx_lt h0) (fun i => xor_lt (mx_lt h1 i) (xor_lt (mx_lt h2 i) (mx_lt h3 i))), imx_xor (mx_lt h1) (fun i => xor_lt (mx_lt h2 i) (mx_lt h3 i)), imx_xor (mx_lt h2) (mx_lt h3),
    el_back (by omega) hi _ (hc 0), el_back (by omega) hi _ (hc 1), el_back (by omega) hi _ (hc 2), el_back (by omega) hi _ (hc 3)]
  exact (hs i hi).symm

theorem shi_lt (j : Nat) : shi j < 16 := Nat.mod_lt _ (by decide)
theorem shi_onto : ∀ i, i < 16 → ∃ j, j < 16 ∧ shi j = i := by
  have h : (List.range 16).all (fun i => (List.range 16).any fun j => shi j == i) = true := by decide +kernel
  intro i hi
  obtain ⟨j, hj, e⟩ := List.any_eq_true.1 (List.all_eq_true.1 h i (List.mem_range.2 hi))
  exact ⟨j, List.mem_range.1 hj, beq_iff_eq.1 e⟩
theorem rnd_inj {a b : List Nat} {last : Bool} (ha : byt a) (hb : byt b) (la : a.length = 16) (lb : b.length = 16) (h : rnd a last = rnd b last) : a = b := by
  have key : ∀ j, j < 16 → sh a j = sh b j := by
    have h := tab_inj h
    cases last with
    | true => simpa using h
    | false =>
      intro j hj
      have hc : ∀ i, i < 4 → mx (fun i => sh a (4 * (j / 4) + i)) i = mx (fun i => sh b (4 * (j / 4) + i)) i := fun i hi => by
        have := h (4 * (j / 4) + i) (by omega)
        rw [show (4 * (j / 4) + i) / 4 = j / 4 by omega, show (4 * (j / 4) + i) % 4 = i by omega] at this
        simpa using this
      have hn : ∀ {c d : Nat → Nat}, (∀ i, i < 4 → c i = d i) → ∀ i, i < 4 → imx c i = imx d i := fun h i hi => by
        unfold imx
        rw [h i hi, h _ (Nat.mod_lt _ (by decide)), h _ (Nat.mod_lt _ (by decide)), h _ (Nat.mod_lt _ (by decide))]
      have h2 := hn hc (j % 4) (Nat.mod_lt _ (by decide))
      rw [imx_mx (fun _ => sh_lt _ _) (Nat.mod_lt _ (by decide)), imx_mx (fun _ => sh_lt _ _) (Nat.mod_lt _ (by decide))] at h2
      simpa [show 4 * (j / 4) + j % 4 = j by omega] using h2
  refine list_ext (by rw [la, lb]) fun i hi => ?_
  obtain ⟨j, hj, rfl⟩ := shi_onto i (by omega)
  exact sb_inj (ha _) (hb _) (key j hj)
theorem addk_inj {a b k : List Nat} (la : a.length = 16) (lb : b.length = 16) (h : addk a k = addk b k) : a = b :=
  list_ext (by rw [la, lb]) fun i hi => xor_inj' (tab_inj h i (by omega))
theorem st_inj {key a b : List Nat} (hk : byt key) (ha : byt a) (hb : byt b) (la : a.length = 16) (lb : b.length = 16) : ∀ r, st key a r = st key b r → a = b
  | 0, h => addk_inj la lb h
  | r + 1, h => st_inj hk ha hb la lb r (rnd_inj (st_byt hk ha r) (st_byt hk hb r) (st_length _ _ _) (st_length _ _ _) (addk_inj (tab_length _ _) (tab_length _ _) h))
theorem enc_inj {key a b : List Nat} (hk : byt key) (ha : byt a) (hb : byt b) (la : a.length = 16) (lb : b.length = 16) : enc key a = enc key b ↔ a = b :=
  ⟨st_inj hk ha hb la lb 10, fun h => by rw [h]⟩

/-- The document's example. -/
theorem enc_awake : enc (tab 16 fun i => i) (tab 16 fun i => 17 * i) = [0x69, 0xc4, 0xe0, 0xd8, 0x6a, 0x7b, 0x04, 0x30, 0xd8, 0xcd, 0xb7, 0x80, 0x70, 0xb4, 0xc5, 0x5a] := by decide +kernel
end Go.Proofs.Ytimaeghbjfialaa
