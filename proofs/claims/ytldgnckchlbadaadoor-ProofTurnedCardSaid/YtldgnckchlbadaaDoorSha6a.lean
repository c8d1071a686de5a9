/-
  The regions of the document's digest that draw their order.
-/
import Derived.Test.YtldgnckchlbadaaDoorGH
namespace Go.Proofs.YtldgnckchlbadaaDoor
set_option maxRecDepth 4000
open Go.RowKit

/-- The operations of a region of code. -/
def opsAt (id : Nat) : Code → Option (Array Oper)
  | .region i ops _ => if i = id then some ops else none
  | .seq a b => (opsAt id a).or (opsAt id b)
  | .cond _ a b => (opsAt id a).or (opsAt id b)
  | .block _ c => opsAt id c
  | .loop c => opsAt id c
  | .scope c => opsAt id c
  | _ => none

set_option maxRecDepth 4000 in
set_option maxHeartbeats 4000000 in
theorem reg22 {ops : Array Oper} (ho : (Tryd.f59.body.bind (opsAt 22)) = some ops) {Q : Exit → Act → World → Prop} {u0 u1 u2 u3 u5 u6 u8 u9 u10 u11 u12 u15 u16 u17 u18 u19 u20 u21 u22 u23 u24 u25 u26 u27 u28 u29 u30 u31 u32 u33 u34 u35 u36 u37 u38 u39 u40 u41 u42 u43 u44 u45 u46 u47 u48 u49 u50 u51 u52 u53 u54 u55 u56 u57 u58 u59 u60 u61 u62 u63 u64 u65 u66 u67 u68 u69 u70 u71 u72 u73 u74 u75 u76 u77 u78 u79 u80 u81 u82 u83 u84 u85 u86 u87 u88 u89 u90 u91 u92 u93 u94 u95 u96 u97 u98 u99 u100 u101 u102 u103 u104 u105 u106 u107 u108 u109 u110 u111 u112 u113 u114 u115 u116 u117 u118 u119 u120 u121 u122 u123 u124 u125 u126 u127 u128 u129 u130 u131 u132 u133 u134 u135 u136 u137 u138 u139 u140 u141 u142 u143 u144 u145 u146 u147 u148 u149 u150 u151 u152 u153 u154 u155 u156 u157 u158 u159 u160 u161 u162 u163 u164 u165 u166 u167 u168 u169 u170 u171 u172 u173 u174 u175 u176 u177 u178 u179 u180 u181 u182 u183 u184 u185 u186 u187 u188 u189 u190 u191 u192 u193 u194 u195 u196 u197 u198 u199 u200 u201 u202 u203 u204 u205 u206 u207 u208 u209 u210 u211 u212 u213 u214 u215 u216 u217 u218 u219 u220 u221 u222 u223 u224 u225 u226 u227 u228 u229 u230 u231 u232 u233 u234 u235 u236 u237 u238 u239 u240 u241 u242 u243 u244 u245 u246 u247 u248 u249 u250 u251 u252 u253 u254 u255 u256 u257 u258 u259 u260 u261 u262 u263 u264 u265 u266 u267 u268 u269 u270 u271 u272 u273 u274 u275 u276 u277 u278 u279 u280 u281 : Value} (V vc : Nat) (T : List Nat) (w : World) (hw8 : w8 T) (hS : Sees w 1 (some ⟨V, 0, none⟩) 8 (wds T)) (Hk Wb n kn wn : Nat) (hn : n < 64) (hkl : kn < 4294967296) (hwl : wn < 4294967296) (hkc : w.cell? ⟨Hk, n, none⟩ = some (.int .u32 (kn : Nat))) (hwc : w.cell? ⟨Wb, n, none⟩ = some (.int .u32 (wn : Nat)))
    (hQ : ∀ c d v a w, Q (.panic c) (Act.put a (some d) v) w → Q (.panic c) a w) (K : ∀ (wc : World) (y124 y125 y126 y127 y128 y129 y130 y131 y132 y133 y134 y135 y136 y137 y138 y139 y140 y141 y142 y143 y144 y145 y146 y147 y148 y149 y150 y151 y152 y153 y154 y155 y156 y157 y158 y159 y160 y161 y162 y163 y164 y165 y166 y167 y168 : Value) (_ : Below w.heap.size w wc), Q .normal { tmps := (List.toArray (u0 :: u1 :: u2 :: u3 :: .slice (some ⟨Hk, 0, none⟩) 64 64 :: u5 :: u6 :: .slice (some ⟨Wb, 0, none⟩) 64 64 :: u8 :: u9 :: u10 :: u11 :: u12 :: .slice (some ⟨V, 0, none⟩) 8 vc :: .int .i64 (n : Int) :: .int .u32 (t1 T kn wn : Nat) :: u16 :: u17 :: u18 :: u19 :: u20 :: u21 :: u22 :: u23 :: u24 :: u25 :: u26 :: u27 :: u28 :: u29 :: u30 :: u31 :: u32 :: u33 :: u34 :: u35 :: u36 :: u37 :: u38 :: u39 :: u40 :: u41 :: u42 :: u43 :: u44 :: u45 :: u46 :: u47 :: u48 :: u49 :: u50 :: u51 :: u52 :: u53 :: u54 :: u55 :: u56 :: u57 :: u58 :: u59 :: u60 :: u61 :: u62 :: u63 :: u64 :: u65 :: u66 :: u67 :: u68 :: u69 :: u70 :: u71 :: u72 :: u73 :: u74 :: u75 :: u76 :: u77 :: u78 :: u79 :: u80 :: u81 :: u82 :: u83 :: u84 :: u85 :: u86 :: u87 :: u88 :: u89 :: u90 :: u91 :: u92 :: u93 :: u94 :: u95 :: u96 :: u97 :: u98 :: u99 :: u100 :: u101 :: u102 :: u103 :: u104 :: u105 :: u106 :: u107 :: u108 :: u109 :: u110 :: u111 :: u112 :: u113 :: u114 :: u115 :: u116 :: u117 :: u118 :: u119 :: u120 :: u121 :: u122 :: u123 :: y124 :: y125 :: y126 :: y127 :: y128 :: y129 :: y130 :: y131 :: y132 :: y133 :: y134 :: y135 :: y136 :: y137 :: y138 :: y139 :: y140 :: y141 :: y142 :: y143 :: y144 :: y145 :: y146 :: y147 :: y148 :: y149 :: y150 :: y151 :: y152 :: y153 :: y154 :: y155 :: y156 :: y157 :: y158 :: y159 :: y160 :: y161 :: y162 :: y163 :: y164 :: y165 :: y166 :: y167 :: y168 :: u169 :: u170 :: u171 :: u172 :: u173 :: u174 :: u175 :: u176 :: u177 :: u178 :: u179 :: u180 :: u181 :: u182 :: u183 :: u184 :: u185 :: u186 :: u187 :: u188 :: u189 :: u190 :: u191 :: u192 :: u193 :: u194 :: u195 :: u196 :: u197 :: u198 :: u199 :: u200 :: u201 :: u202 :: u203 :: u204 :: u205 :: u206 :: u207 :: u208 :: u209 :: u210 :: u211 :: u212 :: u213 :: u214 :: u215 :: u216 :: u217 :: u218 :: u219 :: u220 :: u221 :: u222 :: u223 :: u224 :: u225 :: u226 :: u227 :: u228 :: u229 :: u230 :: u231 :: u232 :: u233 :: u234 :: u235 :: u236 :: u237 :: u238 :: u239 :: u240 :: u241 :: u242 :: u243 :: u244 :: u245 :: u246 :: u247 :: u248 :: u249 :: u250 :: u251 :: u252 :: u253 :: u254 :: u255 :: u256 :: u257 :: u258 :: u259 :: u260 :: u261 :: u262 :: u263 :: u264 :: u265 :: u266 :: u267 :: u268 :: u269 :: u270 :: u271 :: u272 :: u273 :: u274 :: u275 :: u276 :: u277 :: u278 :: u279 :: u280 :: u281 :: [])), defers := [] } wc) :
    (Code.region 22 ops true).wp Tryd.prog Q { tmps := (List.toArray (u0 :: u1 :: u2 :: u3 :: .slice (some ⟨Hk, 0, none⟩) 64 64 :: u5 :: u6 :: .slice (some ⟨Wb, 0, none⟩) 64 64 :: u8 :: u9 :: u10 :: u11 :: u12 :: .slice (some ⟨V, 0, none⟩) 8 vc :: .int .i64 (n : Int) :: u15 :: u16 :: u17 :: u18 :: u19 :: u20 :: u21 :: u22 :: u23 :: u24 :: u25 :: u26 :: u27 :: u28 :: u29 :: u30 :: u31 :: u32 :: u33 :: u34 :: u35 :: u36 :: u37 :: u38 :: u39 :: u40 :: u41 :: u42 :: u43 :: u44 :: u45 :: u46 :: u47 :: u48 :: u49 :: u50 :: u51 :: u52 :: u53 :: u54 :: u55 :: u56 :: u57 :: u58 :: u59 :: u60 :: u61 :: u62 :: u63 :: u64 :: u65 :: u66 :: u67 :: u68 :: u69 :: u70 :: u71 :: u72 :: u73 :: u74 :: u75 :: u76 :: u77 :: u78 :: u79 :: u80 :: u81 :: u82 :: u83 :: u84 :: u85 :: u86 :: u87 :: u88 :: u89 :: u90 :: u91 :: u92 :: u93 :: u94 :: u95 :: u96 :: u97 :: u98 :: u99 :: u100 :: u101 :: u102 :: u103 :: u104 :: u105 :: u106 :: u107 :: u108 :: u109 :: u110 :: u111 :: u112 :: u113 :: u114 :: u115 :: u116 :: u117 :: u118 :: u119 :: u120 :: u121 :: u122 :: u123 :: u124 :: u125 :: u126 :: u127 :: u128 :: u129 :: u130 :: u131 :: u132 :: u133 :: u134 :: u135 :: u136 :: u137 :: u138 :: u139 :: u140 :: u141 :: u142 :: u143 :: u144 :: u145 :: u146 :: u147 :: u148 :: u149 :: u150 :: u151 :: u152 :: u153 :: u154 :: u155 :: u156 :: u157 :: u158 :: u159 :: u160 :: u161 :: u162 :: u163 :: u164 :: u165 :: u166 :: u167 :: u168 :: u169 :: u170 :: u171 :: u172 :: u173 :: u174 :: u175 :: u176 :: u177 :: u178 :: u179 :: u180 :: u181 :: u182 :: u183 :: u184 :: u185 :: u186 :: u187 :: u188 :: u189 :: u190 :: u191 :: u192 :: u193 :: u194 :: u195 :: u196 :: u197 :: u198 :: u199 :: u200 :: u201 :: u202 :: u203 :: u204 :: u205 :: u206 :: u207 :: u208 :: u209 :: u210 :: u211 :: u212 :: u213 :: u214 :: u215 :: u216 :: u217 :: u218 :: u219 :: u220 :: u221 :: u222 :: u223 :: u224 :: u225 :: u226 :: u227 :: u228 :: u229 :: u230 :: u231 :: u232 :: u233 :: u234 :: u235 :: u236 :: u237 :: u238 :: u239 :: u240 :: u241 :: u242 :: u243 :: u244 :: u245 :: u246 :: u247 :: u248 :: u249 :: u250 :: u251 :: u252 :: u253 :: u254 :: u255 :: u256 :: u257 :: u258 :: u259 :: u260 :: u261 :: u262 :: u263 :: u264 :: u265 :: u266 :: u267 :: u268 :: u269 :: u270 :: u271 :: u272 :: u273 :: u274 :: u275 :: u276 :: u277 :: u278 :: u279 :: u280 :: u281 :: [])), defers := [] } w := by
  simp only [Tryd.f59, Option.bind_some, opsAt, Nat.reduceEqDiff, if_true, if_false, Option.or_none, Option.none_or, Option.some_or, Option.some.injEq] at ho
  subst ho
  obtain ⟨s0, e0⟩ : ∃ x, x = T.getD 0 0 := ⟨_, rfl⟩
  obtain ⟨s1, e1⟩ : ∃ x, x = T.getD 1 0 := ⟨_, rfl⟩
  obtain ⟨s2, e2⟩ : ∃ x, x = T.getD 2 0 := ⟨_, rfl⟩
  obtain ⟨s3, e3⟩ : ∃ x, x = T.getD 3 0 := ⟨_, rfl⟩
  obtain ⟨s4, e4⟩ : ∃ x, x = T.getD 4 0 := ⟨_, rfl⟩
  obtain ⟨s5, e5⟩ : ∃ x, x = T.getD 5 0 := ⟨_, rfl⟩
  obtain ⟨s6, e6⟩ : ∃ x, x = T.getD 6 0 := ⟨_, rfl⟩
  obtain ⟨s7, e7⟩ : ∃ x, x = T.getD 7 0 := ⟨_, rfl⟩
  have l0 : s0 < 4294967296 := by rw [e0]; exact hw8.2 0
  have l1 : s1 < 4294967296 := by rw [e1]; exact hw8.2 1
  have l2 : s2 < 4294967296 := by rw [e2]; exact hw8.2 2
  have l3 : s3 < 4294967296 := by rw [e3]; exact hw8.2 3
  have l4 : s4 < 4294967296 := by rw [e4]; exact hw8.2 4
  have l5 : s5 < 4294967296 := by rw [e5]; exact hw8.2 5
  have l6 : s6 < 4294967296 := by rw [e6]; exact hw8.2 6
  have l7 : s7 < 4294967296 := by rw [e7]; exact hw8.2 7
  have hTl : T.length = 8 := hw8.1
  have hcl : ∀ w', Sees w' 1 (some ⟨V, 0, none⟩) 8 (wds T) → (w'.cell? ⟨V, 0, none⟩ = some (.int .u32 (s0 : Nat)) ∧ w'.cell? ⟨V, 1, none⟩ = some (.int .u32 (s1 : Nat)) ∧ w'.cell? ⟨V, 2, none⟩ = some (.int .u32 (s2 : Nat)) ∧ w'.cell? ⟨V, 3, none⟩ = some (.int .u32 (s3 : Nat)) ∧ w'.cell? ⟨V, 4, none⟩ = some (.int .u32 (s4 : Nat)) ∧ w'.cell? ⟨V, 5, none⟩ = some (.int .u32 (s5 : Nat)) ∧ w'.cell? ⟨V, 6, none⟩ = some (.int .u32 (s6 : Nat)) ∧ w'.cell? ⟨V, 7, none⟩ = some (.int .u32 (s7 : Nat))) := fun w' hh' =>
    ⟨by rw [sees_wd hh' hTl (by omega), e0], by rw [sees_wd hh' hTl (by omega), e1], by rw [sees_wd hh' hTl (by omega), e2], by rw [sees_wd hh' hTl (by omega), e3], by rw [sees_wd hh' hTl (by omega), e4], by rw [sees_wd hh' hTl (by omega), e5], by rw [sees_wd hh' hTl (by omega), e6], by rw [sees_wd hh' hTl (by omega), e7]⟩
  have HCL := Lib.hid hcl; clear hcl
  have hand : ∀ {x y : Nat}, x < 4294967296 → x &&& y < 4294967296 := fun {x y} hx => Nat.lt_of_le_of_lt Nat.and_le_left hx
  have F1 := Lib.hid (right_any s4 6 l4 (by omega) (by omega))
  have F2 := Lib.hid (right_any s4 11 l4 (by omega) (by omega))
  have F3 := Lib.hid (right_any s4 25 l4 (by omega) (by omega))
  have hr6 := rr_lt 6 l4; have hr11 := rr_lt 11 l4; have hr25 := rr_lt 25 l4
  have hx1 : bits BinOp.xor IntKind.u32 (bits BinOp.xor IntKind.u32 (rr s4 6 : Nat) (rr s4 11 : Nat)) (rr s4 25 : Nat) = ((tu3 s4 6 11 25 : Nat) : Int) := by
    rw [u32_xor_nat _ _ hr6 hr11, u32_xor_nat _ _ (xor32 hr6 hr11) hr25]; rfl
  have hch : bits BinOp.xor IntKind.u32 (bits BinOp.and IntKind.u32 (s4 : Int) (s5 : Int)) (bits BinOp.and IntKind.u32 (bits BinOp.xor IntKind.u32 IntKind.u32.max (s4 : Int)) (s6 : Int)) = ((ch s4 s5 s6 : Nat) : Int) := by
    rw [show IntKind.u32.max = ((4294967295 : Nat) : Int) from rfl, u32_and_nat _ _ l4 l5, u32_xor_nat _ _ (by omega) l4, u32_and_nat _ _ (xor32 (by omega) l4) l6, u32_xor_nat _ _ (hand l4) (hand (xor32 (by omega) l4))]
    rfl
  have hchl : ch s4 s5 s6 < 4294967296 := xor32 (hand l4) (hand (xor32 (by omega) l4))
  have hT1l : tu3 s4 6 11 25 < 4294967296 := xor32 (xor32 hr6 hr11) hr25
  have ht1 : t1 T kn wn = (s7 + tu3 s4 6 11 25 + ch s4 s5 s6 + kn + wn) % 4294967296 := by rw [e4, e5, e6, e7]; rfl
  clear e0 e1 e2 e3 e4 e5 e6 e7 hand
  generalize tu3 s4 6 11 25 = q1 at *
  generalize ch s4 s5 s6 = q3 at *
  generalize rr s4 6 = f1 at *
  generalize rr s4 11 = f2 at *
  generalize rr s4 25 = f3 at *
  obtain ⟨v1, hv1⟩ : ∃ v, v = t1 T kn wn := ⟨_, rfl⟩
  rw [← hv1] at K ht1
  have g1 : IntKind.u32.wrap (IntKind.u32.wrap (IntKind.u32.wrap (IntKind.u32.wrap ((s7 : Int) + (q1 : Int)) + (q3 : Int)) + (kn : Int)) + (wn : Int)) = (v1 : Int) := by simp only [IntKind.wrap_u32']; rw [ht1]; omega
  have hni : (n : Int) < 64 := by omega
  have hsg : (if IntKind.u32.signed = true then (-1 : Int) else IntKind.u32.max) = IntKind.u32.max := rfl
  have HSV := Lib.hid hS; have HKK := Lib.hid @K
  clear hS hv1 ht1 hw8 K
  refine region_fast [(0, true), (1, true), (2, true), (3, true), (4, true), (5, true), (7, true), (8, true), (9, true), (12, true), (13, true), (14, true), (18, true), (19, true), (20, true), (21, true), (22, true), (23, true), (24, true), (25, true), (26, true), (27, true), (28, true), (29, true), (30, true), (31, true), (32, true), (33, true), (35, true), (36, true), (37, true), (38, true), (40, true), (41, true), (42, true), (43, true), (6, false), (10, false), (11, true), (15, false), (16, true), (17, true), (34, true), (39, true), (44, true), (45, false)] [3, 4, 5, 6, 7, 8, 9, 10, 11, 12, 13, 14, 15, 16, 17, 18, 19, 20, 21, 22, 23, 24, 25, 26, 27, 28, 29, 30, 31, 32, 33, 34, 35, 36, 37, 38, 39, 40, 41, 42, 43] 17592186044408 [(21267647932558653966460912964485513216, 8192, 0, 0), (42535295865117307932921825928971026432, 21267647932558653966460912964485513216, 1, 1), (85070591730234615865843651857942052864, 42535295865117307932921825928971026432, 2, 3), (170141183460469231731687303715884105728, 8192, 0, 0), (340282366920938463463374607431768211456, 170141183460469231731687303715884105728, 8, 8), (680564733841876926926749214863536422912, 340282366920938463463374607431768211456, 16, 24), (1361129467683753853853498429727072845824, 680564733841876926926749214863536422912, 32, 56), (2722258935367507707706996859454145691648, 8192, 0, 0), (5444517870735015415413993718908291383296, 2722258935367507707706996859454145691648, 128, 128), (10889035741470030830827987437816582766592, 5444517870735015415413993718908291383296, 256, 384), (21778071482940061661655974875633165533184, 10889035741470030830827987437816582766592, 576, 1016), (43556142965880123323311949751266331066368, 23139200950623815515509473305360238379008, 1088, 2040), (87112285931760246646623899502532662132736, 8192, 0, 0), (174224571863520493293247799005065324265472, 87112285931760246646623899502532662132736, 4096, 4096), (348449143727040986586495598010130648530944, 174224571863520493293247799005065324265472, 8192, 12288), (696898287454081973172991196020261297061888, 348449143727040986586495598010130648530944, 17408, 30712), (1393796574908163946345982392040522594123776, 740454430419962096496303145771527628128256, 34816, 65528), (2787593149816327892691964784081045188247552, 1393881645499894180961848235692380536176640, 65540, 131071), (5575186299632655785383929568162090376495104, 8192, 0, 0), (11150372599265311570767859136324180752990208, 5575186299632655785383929568162090376495104, 262144, 262144), (22300745198530623141535718272648361505980416, 11150372599265311570767859136324180752990208, 524288, 786432), (44601490397061246283071436545296723011960832, 8192, 0, 0), (89202980794122492566142873090593446023921664, 44601490397061246283071436545296723011960832, 2097152, 2097152), (178405961588244985132285746181186892047843328, 89202980794122492566142873090593446023921664, 4194304, 6291456), (356811923176489970264571492362373784095686656, 200706706786775608273821464453835253553823744, 9437184, 16515072), (713623846352979940529142984724747568191373312, 8192, 0, 0), (1427247692705959881058285969449495136382746624, 713623846352979940529142984724747568191373312, 33554432, 33554432), (2854495385411919762116571938898990272765493248, 1427247692705959881058285969449495136382746624, 67108864, 100663296), (5708990770823839524233143877797980545530986496, 2854495385411919762116571938898990272765493248, 134217728, 234881024), (11417981541647679048466287755595961091061972992, 8192, 0, 0), (22835963083295358096932575511191922182123945984, 11417981541647679048466287755595961091061972992, 536870912, 536870912), (45671926166590716193865151022383844364247891968, 22835963083295358096932575511191922182123945984, 1073741824, 1610612736), (91343852333181432387730302044767688728495783936, 51380916937414555718098294900181824909778878464, 2415919104, 4261412864), (182687704666362864775460604089535377456991567872, 91700664256357922357994873537130062512591470592, 4311744512, 8589672448), (365375409332725729550921208179070754913983135744, 182690492259512681103353296054319458502179815424, 8590065664, 17179869183), (730750818665451459101842416358141509827966271488, 16, 0, 0), (1461501637330902918203684832716283019655932542976, 16384, 0, 0), (2923003274661805836407369665432566039311865085952, 2192252455996354377305527249074424529483898814464, 103079215104, 103079215104), (5846006549323611672814739330865132078623730171904, 2923003274661805836407369665432566039311865085952, 137438953472, 240518168576), (11692013098647223345629478661730264157247460343808, 6211381958656337402365660539044202833537713307648, 292057776128, 549755813887), (23384026197294446691258957323460528314494920687616, 128, 0, 0), (46768052394588893382517914646921056628989841375232, 16384, 0, 0), (93536104789177786765035829293842113257979682750464, 70152078591883340073776871970381584943484762062848, 3298534883328, 3298534883328), (187072209578355573530071658587684226515959365500928, 93536104789177786765035829293842113257979682750464, 4398046511104, 7696581394432), (374144419156711147060143317175368453031918731001856, 198764222677002796875701137249414490673206825844736, 9345848836096, 17592186044415), (32768, 374144419156711147060143317175368453031918731001856, 35184372088831, 35184372088831)] (fun w' => Sees w' 1 (some ⟨V, 0, none⟩) 8 (wds T) ∧ w'.cell? ⟨Hk, n, none⟩ = some (.int .u32 (kn : Nat)) ∧ w'.cell? ⟨Wb, n, none⟩ = some (.int .u32 (wn : Nat))) (by kernel_rfl) (by kernel_rfl) (by kernel_rfl) rfl (by kernel_rfl) (by kernel_rfl) ⟨HSV.out, hkc, hwc⟩ (fun hS => ?_)
  repeat (first
    | (refine plan_read (v := ?_) rfl (fun c a w h => hQ c _ _ a w h) rfl hS ?_ ?_; rotate_left 1; (focus (intro w' hS'; obtain ⟨c0, c1, c2, c3, c4, c5, c6, c7⟩ := HCL.out _ hS'.1; have ck := hS'.2.1; have cw := hS'.2.2; go_simp; try rfl)); (simp only [Act.put, List.setIfInBounds_toArray]; dsimp only [List.set_cons_zero, List.set_cons_succ]))
    | (refine plan_skip rfl (fun c a w h => hQ c _ _ a w h) rfl hS ?_; (simp only [Act.put, List.setIfInBounds_toArray]; dsimp only [List.set_cons_zero, List.set_cons_succ])))
  refine plan_do (by rfl) (by rfl) (fun K hK => ?_)
  go_simp
  refine (F1.out _).mono ?_
  rintro e wa ⟨rfl, hba⟩
  have hsa : Sees wa 1 (some ⟨V, 0, none⟩) 8 (wds T) ∧ wa.cell? ⟨Hk, n, none⟩ = some (.int .u32 (kn : Nat)) ∧ wa.cell? ⟨Wb, n, none⟩ = some (.int .u32 (wn : Nat)) := ⟨hS.1.below hba, (hba.cell (World.block_lt_of_cell? _ _ hS.2.1)).trans hS.2.1, (hba.cell (World.block_lt_of_cell? _ _ hS.2.2)).trans hS.2.2⟩
  have hBa : Below w.heap.size w wa := below_of_drew hba
  refine hK.out _ _ (fun _ => hsa) (fun hS => ?_); clear hK K; replace hS := hS rfl; try (simp only [Act.put, List.setIfInBounds_toArray]; dsimp only [List.set_cons_zero, List.set_cons_succ])
  repeat (first
    | (refine plan_read (v := ?_) rfl (fun c a w h => hQ c _ _ a w h) rfl hS ?_ ?_; rotate_left 1; (focus (intro w' hS'; go_simp; try rfl)); (simp only [Act.put, List.setIfInBounds_toArray]; dsimp only [List.set_cons_zero, List.set_cons_succ]))
    | (refine plan_skip rfl (fun c a w h => hQ c _ _ a w h) rfl hS ?_; (simp only [Act.put, List.setIfInBounds_toArray]; dsimp only [List.set_cons_zero, List.set_cons_succ])))
  refine plan_do (by rfl) (by rfl) (fun K hK => ?_)
  go_simp
  refine (F2.out _).mono ?_
  rintro e wb ⟨rfl, hbb⟩
  have hsb : Sees wb 1 (some ⟨V, 0, none⟩) 8 (wds T) ∧ wb.cell? ⟨Hk, n, none⟩ = some (.int .u32 (kn : Nat)) ∧ wb.cell? ⟨Wb, n, none⟩ = some (.int .u32 (wn : Nat)) := ⟨hS.1.below hbb, (hbb.cell (World.block_lt_of_cell? _ _ hS.2.1)).trans hS.2.1, (hbb.cell (World.block_lt_of_cell? _ _ hS.2.2)).trans hS.2.2⟩
  have hBb : Below w.heap.size w wb := hBa.trans (hbb.mono hBa.size)
  refine hK.out _ _ (fun _ => hsb) (fun hS => ?_); clear hK K; replace hS := hS rfl; try (simp only [Act.put, List.setIfInBounds_toArray]; dsimp only [List.set_cons_zero, List.set_cons_succ])
  repeat (first
    | (refine plan_read (v := ?_) rfl (fun c a w h => hQ c _ _ a w h) rfl hS ?_ ?_; rotate_left 1; (focus (intro w' hS'; go_simp; try rfl)); (simp only [Act.put, List.setIfInBounds_toArray]; dsimp only [List.set_cons_zero, List.set_cons_succ]))
    | (refine plan_skip rfl (fun c a w h => hQ c _ _ a w h) rfl hS ?_; (simp only [Act.put, List.setIfInBounds_toArray]; dsimp only [List.set_cons_zero, List.set_cons_succ])))
  refine plan_do (by rfl) (by rfl) (fun K hK => ?_)
  go_simp
  refine (F3.out _).mono ?_
  rintro e wc ⟨rfl, hbc⟩
  have hsc : Sees wc 1 (some ⟨V, 0, none⟩) 8 (wds T) ∧ wc.cell? ⟨Hk, n, none⟩ = some (.int .u32 (kn : Nat)) ∧ wc.cell? ⟨Wb, n, none⟩ = some (.int .u32 (wn : Nat)) := ⟨hS.1.below hbc, (hbc.cell (World.block_lt_of_cell? _ _ hS.2.1)).trans hS.2.1, (hbc.cell (World.block_lt_of_cell? _ _ hS.2.2)).trans hS.2.2⟩
  have hBc : Below w.heap.size w wc := hBb.trans (hbc.mono hBb.size)
  refine hK.out _ _ (fun _ => hsc) (fun hS => ?_); clear hK K; replace hS := hS rfl; try (simp only [Act.put, List.setIfInBounds_toArray]; dsimp only [List.set_cons_zero, List.set_cons_succ])
  repeat (first
    | (refine plan_read (v := ?_) rfl (fun c a w h => hQ c _ _ a w h) rfl hS ?_ ?_; rotate_left 1; (focus (intro w' hS'; go_simp; try rfl)); (simp only [Act.put, List.setIfInBounds_toArray]; dsimp only [List.set_cons_zero, List.set_cons_succ]))
    | (refine plan_skip rfl (fun c a w h => hQ c _ _ a w h) rfl hS ?_; (simp only [Act.put, List.setIfInBounds_toArray]; dsimp only [List.set_cons_zero, List.set_cons_succ])))
  refine plan_do (by rfl) (by rfl) (fun K hK => ?_)
  go_simp
  refine hK.out _ _ (fun h => by cases h) (fun _ => ?_); clear hK K; try (simp only [Act.put, List.setIfInBounds_toArray]; dsimp only [List.set_cons_zero, List.set_cons_succ])
  refine plan_nil ?_
  exact HKK.out wc _ _ _ _ _ _ _ _ _ _ _ _ _ _ _ _ _ _ _ _ _ _ _ _ _ _ _ _ _ _ _ _ _ _ _ _ _ _ _ _ _ _ _ _ _ hBc

set_option maxRecDepth 4000 in
set_option maxHeartbeats 4000000 in
theorem reg23 {ops : Array Oper} (ho : (Tryd.f59.body.bind (opsAt 23)) = some ops) {Q : Exit → Act → World → Prop} {u0 u1 u2 u3 u4 u5 u6 u7 u8 u9 u10 u11 u12 u14 u15 u16 u17 u18 u19 u20 u21 u22 u23 u24 u25 u26 u27 u28 u29 u30 u31 u32 u33 u34 u35 u36 u37 u38 u39 u40 u41 u42 u43 u44 u45 u46 u47 u48 u49 u50 u51 u52 u53 u54 u55 u56 u57 u58 u59 u60 u61 u62 u63 u64 u65 u66 u67 u68 u69 u70 u71 u72 u73 u74 u75 u76 u77 u78 u79 u80 u81 u82 u83 u84 u85 u86 u87 u88 u89 u90 u91 u92 u93 u94 u95 u96 u97 u98 u99 u100 u101 u102 u103 u104 u105 u106 u107 u108 u109 u110 u111 u112 u113 u114 u115 u116 u117 u118 u119 u120 u121 u122 u123 u124 u125 u126 u127 u128 u129 u130 u131 u132 u133 u134 u135 u136 u137 u138 u139 u140 u141 u142 u143 u144 u145 u146 u147 u148 u149 u150 u151 u152 u153 u154 u155 u156 u157 u158 u159 u160 u161 u162 u163 u164 u165 u166 u167 u168 u169 u170 u171 u172 u173 u174 u175 u176 u177 u178 u179 u180 u181 u182 u183 u184 u185 u186 u187 u188 u189 u190 u191 u192 u193 u194 u195 u196 u197 u198 u199 u200 u201 u202 u203 u204 u205 u206 u207 u208 u209 u210 u211 u212 u213 u214 u215 u216 u217 u218 u219 u220 u221 u222 u223 u224 u225 u226 u227 u228 u229 u230 u231 u232 u233 u234 u235 u236 u237 u238 u239 u240 u241 u242 u243 u244 u245 u246 u247 u248 u249 u250 u251 u252 u253 u254 u255 u256 u257 u258 u259 u260 u261 u262 u263 u264 u265 u266 u267 u268 u269 u270 u271 u272 u273 u274 u275 u276 u277 u278 u279 u280 u281 : Value} (V vc : Nat) (T : List Nat) (w : World) (hw8 : w8 T) (hS : Sees w 1 (some ⟨V, 0, none⟩) 8 (wds T))
    (hQ : ∀ c d v a w, Q (.panic c) (Act.put a (some d) v) w → Q (.panic c) a w) (K : ∀ (wc : World) (y169 y170 y171 y172 y173 y174 y175 y176 y177 y178 y179 y180 y181 y182 y183 y184 y185 y186 y187 y188 y189 y190 y191 y192 y193 y194 y195 y196 y197 y198 y199 y200 y201 y202 y203 y204 y205 y206 : Value) (_ : Below w.heap.size w wc), Q .normal { tmps := (List.toArray (u0 :: u1 :: u2 :: u3 :: u4 :: u5 :: u6 :: u7 :: u8 :: u9 :: u10 :: u11 :: u12 :: .slice (some ⟨V, 0, none⟩) 8 vc :: u14 :: u15 :: .int .u32 (t2 T : Nat) :: u17 :: u18 :: u19 :: u20 :: u21 :: u22 :: u23 :: u24 :: u25 :: u26 :: u27 :: u28 :: u29 :: u30 :: u31 :: u32 :: u33 :: u34 :: u35 :: u36 :: u37 :: u38 :: u39 :: u40 :: u41 :: u42 :: u43 :: u44 :: u45 :: u46 :: u47 :: u48 :: u49 :: u50 :: u51 :: u52 :: u53 :: u54 :: u55 :: u56 :: u57 :: u58 :: u59 :: u60 :: u61 :: u62 :: u63 :: u64 :: u65 :: u66 :: u67 :: u68 :: u69 :: u70 :: u71 :: u72 :: u73 :: u74 :: u75 :: u76 :: u77 :: u78 :: u79 :: u80 :: u81 :: u82 :: u83 :: u84 :: u85 :: u86 :: u87 :: u88 :: u89 :: u90 :: u91 :: u92 :: u93 :: u94 :: u95 :: u96 :: u97 :: u98 :: u99 :: u100 :: u101 :: u102 :: u103 :: u104 :: u105 :: u106 :: u107 :: u108 :: u109 :: u110 :: u111 :: u112 :: u113 :: u114 :: u115 :: u116 :: u117 :: u118 :: u119 :: u120 :: u121 :: u122 :: u123 :: u124 :: u125 :: u126 :: u127 :: u128 :: u129 :: u130 :: u131 :: u132 :: u133 :: u134 :: u135 :: u136 :: u137 :: u138 :: u139 :: u140 :: u141 :: u142 :: u143 :: u144 :: u145 :: u146 :: u147 :: u148 :: u149 :: u150 :: u151 :: u152 :: u153 :: u154 :: u155 :: u156 :: u157 :: u158 :: u159 :: u160 :: u161 :: u162 :: u163 :: u164 :: u165 :: u166 :: u167 :: u168 :: y169 :: y170 :: y171 :: y172 :: y173 :: y174 :: y175 :: y176 :: y177 :: y178 :: y179 :: y180 :: y181 :: y182 :: y183 :: y184 :: y185 :: y186 :: y187 :: y188 :: y189 :: y190 :: y191 :: y192 :: y193 :: y194 :: y195 :: y196 :: y197 :: y198 :: y199 :: y200 :: y201 :: y202 :: y203 :: y204 :: y205 :: y206 :: u207 :: u208 :: u209 :: u210 :: u211 :: u212 :: u213 :: u214 :: u215 :: u216 :: u217 :: u218 :: u219 :: u220 :: u221 :: u222 :: u223 :: u224 :: u225 :: u226 :: u227 :: u228 :: u229 :: u230 :: u231 :: u232 :: u233 :: u234 :: u235 :: u236 :: u237 :: u238 :: u239 :: u240 :: u241 :: u242 :: u243 :: u244 :: u245 :: u246 :: u247 :: u248 :: u249 :: u250 :: u251 :: u252 :: u253 :: u254 :: u255 :: u256 :: u257 :: u258 :: u259 :: u260 :: u261 :: u262 :: u263 :: u264 :: u265 :: u266 :: u267 :: u268 :: u269 :: u270 :: u271 :: u272 :: u273 :: u274 :: u275 :: u276 :: u277 :: u278 :: u279 :: u280 :: u281 :: [])), defers := [] } wc) :
    (Code.region 23 ops true).wp Tryd.prog Q { tmps := (List.toArray (u0 :: u1 :: u2 :: u3 :: u4 :: u5 :: u6 :: u7 :: u8 :: u9 :: u10 :: u11 :: u12 :: .slice (some ⟨V, 0, none⟩) 8 vc :: u14 :: u15 :: u16 :: u17 :: u18 :: u19 :: u20 :: u21 :: u22 :: u23 :: u24 :: u25 :: u26 :: u27 :: u28 :: u29 :: u30 :: u31 :: u32 :: u33 :: u34 :: u35 :: u36 :: u37 :: u38 :: u39 :: u40 :: u41 :: u42 :: u43 :: u44 :: u45 :: u46 :: u47 :: u48 :: u49 :: u50 :: u51 :: u52 :: u53 :: u54 :: u55 :: u56 :: u57 :: u58 :: u59 :: u60 :: u61 :: u62 :: u63 :: u64 :: u65 :: u66 :: u67 :: u68 :: u69 :: u70 :: u71 :: u72 :: u73 :: u74 :: u75 :: u76 :: u77 :: u78 :: u79 :: u80 :: u81 :: u82 :: u83 :: u84 :: u85 :: u86 :: u87 :: u88 :: u89 :: u90 :: u91 :: u92 :: u93 :: u94 :: u95 :: u96 :: u97 :: u98 :: u99 :: u100 :: u101 :: u102 :: u103 :: u104 :: u105 :: u106 :: u107 :: u108 :: u109 :: u110 :: u111 :: u112 :: u113 :: u114 :: u115 :: u116 :: u117 :: u118 :: u119 :: u120 :: u121 :: u122 :: u123 :: u124 :: u125 :: u126 :: u127 :: u128 :: u129 :: u130 :: u131 :: u132 :: u133 :: u134 :: u135 :: u136 :: u137 :: u138 :: u139 :: u140 :: u141 :: u142 :: u143 :: u144 :: u145 :: u146 :: u147 :: u148 :: u149 :: u150 :: u151 :: u152 :: u153 :: u154 :: u155 :: u156 :: u157 :: u158 :: u159 :: u160 :: u161 :: u162 :: u163 :: u164 :: u165 :: u166 :: u167 :: u168 :: u169 :: u170 :: u171 :: u172 :: u173 :: u174 :: u175 :: u176 :: u177 :: u178 :: u179 :: u180 :: u181 :: u182 :: u183 :: u184 :: u185 :: u186 :: u187 :: u188 :: u189 :: u190 :: u191 :: u192 :: u193 :: u194 :: u195 :: u196 :: u197 :: u198 :: u199 :: u200 :: u201 :: u202 :: u203 :: u204 :: u205 :: u206 :: u207 :: u208 :: u209 :: u210 :: u211 :: u212 :: u213 :: u214 :: u215 :: u216 :: u217 :: u218 :: u219 :: u220 :: u221 :: u222 :: u223 :: u224 :: u225 :: u226 :: u227 :: u228 :: u229 :: u230 :: u231 :: u232 :: u233 :: u234 :: u235 :: u236 :: u237 :: u238 :: u239 :: u240 :: u241 :: u242 :: u243 :: u244 :: u245 :: u246 :: u247 :: u248 :: u249 :: u250 :: u251 :: u252 :: u253 :: u254 :: u255 :: u256 :: u257 :: u258 :: u259 :: u260 :: u261 :: u262 :: u263 :: u264 :: u265 :: u266 :: u267 :: u268 :: u269 :: u270 :: u271 :: u272 :: u273 :: u274 :: u275 :: u276 :: u277 :: u278 :: u279 :: u280 :: u281 :: [])), defers := [] } w := by
  simp only [Tryd.f59, Option.bind_some, opsAt, Nat.reduceEqDiff, if_true, if_false, Option.or_none, Option.none_or, Option.some_or, Option.some.injEq] at ho
  subst ho
  obtain ⟨s0, e0⟩ : ∃ x, x = T.getD 0 0 := ⟨_, rfl⟩
  obtain ⟨s1, e1⟩ : ∃ x, x = T.getD 1 0 := ⟨_, rfl⟩
  obtain ⟨s2, e2⟩ : ∃ x, x = T.getD 2 0 := ⟨_, rfl⟩
  obtain ⟨s3, e3⟩ : ∃ x, x = T.getD 3 0 := ⟨_, rfl⟩
  obtain ⟨s4, e4⟩ : ∃ x, x = T.getD 4 0 := ⟨_, rfl⟩
  obtain ⟨s5, e5⟩ : ∃ x, x = T.getD 5 0 := ⟨_, rfl⟩
  obtain ⟨s6, e6⟩ : ∃ x, x = T.getD 6 0 := ⟨_, rfl⟩
  obtain ⟨s7, e7⟩ : ∃ x, x = T.getD 7 0 := ⟨_, rfl⟩
  have l0 : s0 < 4294967296 := by rw [e0]; exact hw8.2 0
  have l1 : s1 < 4294967296 := by rw [e1]; exact hw8.2 1
  have l2 : s2 < 4294967296 := by rw [e2]; exact hw8.2 2
  have l3 : s3 < 4294967296 := by rw [e3]; exact hw8.2 3
  have l4 : s4 < 4294967296 := by rw [e4]; exact hw8.2 4
  have l5 : s5 < 4294967296 := by rw [e5]; exact hw8.2 5
  have l6 : s6 < 4294967296 := by rw [e6]; exact hw8.2 6
  have l7 : s7 < 4294967296 := by rw [e7]; exact hw8.2 7
  have hTl : T.length = 8 := hw8.1
  have hcl : ∀ w', Sees w' 1 (some ⟨V, 0, none⟩) 8 (wds T) → (w'.cell? ⟨V, 0, none⟩ = some (.int .u32 (s0 : Nat)) ∧ w'.cell? ⟨V, 1, none⟩ = some (.int .u32 (s1 : Nat)) ∧ w'.cell? ⟨V, 2, none⟩ = some (.int .u32 (s2 : Nat)) ∧ w'.cell? ⟨V, 3, none⟩ = some (.int .u32 (s3 : Nat)) ∧ w'.cell? ⟨V, 4, none⟩ = some (.int .u32 (s4 : Nat)) ∧ w'.cell? ⟨V, 5, none⟩ = some (.int .u32 (s5 : Nat)) ∧ w'.cell? ⟨V, 6, none⟩ = some (.int .u32 (s6 : Nat)) ∧ w'.cell? ⟨V, 7, none⟩ = some (.int .u32 (s7 : Nat))) := fun w' hh' =>
    ⟨by rw [sees_wd hh' hTl (by omega), e0], by rw [sees_wd hh' hTl (by omega), e1], by rw [sees_wd hh' hTl (by omega), e2], by rw [sees_wd hh' hTl (by omega), e3], by rw [sees_wd hh' hTl (by omega), e4], by rw [sees_wd hh' hTl (by omega), e5], by rw [sees_wd hh' hTl (by omega), e6], by rw [sees_wd hh' hTl (by omega), e7]⟩
  have HCL := Lib.hid hcl; clear hcl
  have hand : ∀ {x y : Nat}, x < 4294967296 → x &&& y < 4294967296 := fun {x y} hx => Nat.lt_of_le_of_lt Nat.and_le_left hx
  have G1 := Lib.hid (right_any s0 2 l0 (by omega) (by omega))
  have G2 := Lib.hid (right_any s0 13 l0 (by omega) (by omega))
  have G3 := Lib.hid (right_any s0 22 l0 (by omega) (by omega))
  have hr2 := rr_lt 2 l0; have hr13 := rr_lt 13 l0; have hr22 := rr_lt 22 l0
  have hx2 : bits BinOp.xor IntKind.u32 (bits BinOp.xor IntKind.u32 (rr s0 2 : Nat) (rr s0 13 : Nat)) (rr s0 22 : Nat) = ((tu3 s0 2 13 22 : Nat) : Int) := by
    rw [u32_xor_nat _ _ hr2 hr13, u32_xor_nat _ _ (xor32 hr2 hr13) hr22]; rfl
  have hmj : bits BinOp.xor IntKind.u32 (bits BinOp.xor IntKind.u32 (bits BinOp.and IntKind.u32 (s0 : Int) (s1 : Int)) (bits BinOp.and IntKind.u32 (s0 : Int) (s2 : Int))) (bits BinOp.and IntKind.u32 (s1 : Int) (s2 : Int)) = ((mj s0 s1 s2 : Nat) : Int) := by
    rw [u32_and_nat _ _ l0 l1, u32_and_nat _ _ l0 l2, u32_and_nat _ _ l1 l2, u32_xor_nat _ _ (hand l0) (hand l0), u32_xor_nat _ _ (xor32 (hand l0) (hand l0)) (hand l1)]
    rfl
  have hmjl : mj s0 s1 s2 < 4294967296 := xor32 (xor32 (hand l0) (hand l0)) (hand l1)
  have hU1l : tu3 s0 2 13 22 < 4294967296 := xor32 (xor32 hr2 hr13) hr22
  have ht2 : t2 T = (tu3 s0 2 13 22 + mj s0 s1 s2) % 4294967296 := by rw [e0, e1, e2]; rfl
  clear e0 e1 e2 e3 e4 e5 e6 e7 hand
  generalize tu3 s0 2 13 22 = q2 at *
  generalize mj s0 s1 s2 = q4 at *
  generalize rr s0 2 = f4 at *
  generalize rr s0 13 = f5 at *
  generalize rr s0 22 = f6 at *
  obtain ⟨v2, hv2⟩ : ∃ v, v = t2 T := ⟨_, rfl⟩
  rw [← hv2] at K ht2
  have g2 : IntKind.u32.wrap ((q2 : Int) + (q4 : Int)) = (v2 : Int) := by rw [IntKind.wrap_u32', ht2]; omega
  have HSV := Lib.hid hS; have HKK := Lib.hid @K
  clear hS hv2 ht2 hw8 K
  refine region_fast [(0, true), (1, true), (2, true), (4, true), (5, true), (6, true), (9, true), (10, true), (11, true), (14, true), (15, true), (16, true), (17, true), (18, true), (19, true), (20, true), (21, true), (22, true), (23, true), (24, true), (25, true), (26, true), (27, true), (28, true), (29, true), (30, true), (31, true), (32, true), (33, true), (34, true), (35, true), (36, true), (3, false), (7, false), (8, true), (12, false), (13, true), (37, true), (38, false)] [3, 4, 5, 6, 7, 8, 9, 10, 11, 12, 13, 14, 15, 16, 17, 18, 19, 20, 21, 22, 23, 24, 25, 26, 27, 28, 29, 30, 31, 32, 33, 34, 35, 36] 137438953464 [(748288838313422294120286634350736906063837462003712, 8192, 0, 0), (1496577676626844588240573268701473812127674924007424, 748288838313422294120286634350736906063837462003712, 1, 1), (2993155353253689176481146537402947624255349848014848, 1496577676626844588240573268701473812127674924007424, 2, 3), (5986310706507378352962293074805895248510699696029696, 2993155353253689176481146537402947624255349848014848, 4, 7), (11972621413014756705924586149611790497021399392059392, 8192, 0, 0), (23945242826029513411849172299223580994042798784118784, 11972621413014756705924586149611790497021399392059392, 16, 16), (47890485652059026823698344598447161988085597568237568, 23945242826029513411849172299223580994042798784118784, 32, 48), (95780971304118053647396689196894323976171195136475136, 47890485652059026823698344598447161988085597568237568, 72, 127), (191561942608236107294793378393788647952342390272950272, 101767282010625432000358982271700219224681894832504832, 136, 255), (383123885216472214589586756787577295904684780545900544, 8192, 0, 0), (766247770432944429179173513575154591809369561091801088, 383123885216472214589586756787577295904684780545900544, 512, 512), (1532495540865888858358347027150309183618739122183602176, 766247770432944429179173513575154591809369561091801088, 1024, 1536), (3064991081731777716716694054300618367237478244367204352, 1532495540865888858358347027150309183618739122183602176, 2176, 3839), (6129982163463555433433388108601236734474956488734408704, 3256553024340013824011487432694407015189820634640154624, 4352, 8191), (12259964326927110866866776217202473468949912977468817408, 8192, 0, 0), (24519928653854221733733552434404946937899825954937634816, 12259964326927110866866776217202473468949912977468817408, 16384, 16384), (49039857307708443467467104868809893875799651909875269632, 24519928653854221733733552434404946937899825954937634816, 32768, 49152), (98079714615416886934934209737619787751599303819750539264, 8192, 0, 0), (196159429230833773869868419475239575503198607639501078528, 98079714615416886934934209737619787751599303819750539264, 131072, 131072), (392318858461667547739736838950479151006397215279002157056, 196159429230833773869868419475239575503198607639501078528, 262144, 393216), (784637716923335095479473677900958302012794430558004314112, 441358715769375991207203943819289044882196867188877426688, 589824, 1032192), (1569275433846670190958947355801916604025588861116008628224, 8192, 0, 0), (3138550867693340381917894711603833208051177722232017256448, 1569275433846670190958947355801916604025588861116008628224, 2097152, 2097152), (6277101735386680763835789423207666416102355444464034512896, 3138550867693340381917894711603833208051177722232017256448, 4194304, 6291456), (12554203470773361527671578846415332832204710888928069025792, 8192, 0, 0), (25108406941546723055343157692830665664409421777856138051584, 12554203470773361527671578846415332832204710888928069025792, 16777216, 16777216), (50216813883093446110686315385661331328818843555712276103168, 25108406941546723055343157692830665664409421777856138051584, 33554432, 50331648), (100433627766186892221372630771322662657637687111424552206336, 56493915618480126874522104808868997744921199000176310616064, 75497472, 132120576), (200867255532373784442745261542645325315275374222849104412672, 101218265483110227316852104449223620959650481541982556520448, 135266304, 268419072), (401734511064747568885490523085290650630550748445698208825344, 8192, 0, 0), (803469022129495137770981046170581301261101496891396417650688, 401734511064747568885490523085290650630550748445698208825344, 536870912, 536870912), (1606938044258990275541962092341162602522202993782792835301376, 803469022129495137770981046170581301261101496891396417650688, 1073741824, 1610612736), (3213876088517980551083924184682325205044405987565585670602752, 8192, 0, 0), (6427752177035961102167848369364650410088811975131171341205504, 3213876088517980551083924184682325205044405987565585670602752, 4294967296, 4294967296), (12855504354071922204335696738729300820177623950262342682411008, 6427752177035961102167848369364650410088811975131171341205504, 8589934592, 12884901888), (25711008708143844408671393477458601640355247900524685364822016, 14462442398330912479877658831070463422699826944045135517712384, 19327352832, 33822867456), (51422017416287688817342786954917203280710495801049370729644032, 25911875963676218193114138739001246965670523274747534469234688, 34628173824, 68719460352), (102844034832575377634685573909834406561420991602098741459288064, 51422023546269852280898220388305311881947230276005859464052736, 68719484928, 137438953471), (65536, 102844034832575377634685573909834406561420991602098741459288064, 274877906943, 274877906943)] (fun w' => Sees w' 1 (some ⟨V, 0, none⟩) 8 (wds T)) (by kernel_rfl) (by kernel_rfl) (by kernel_rfl) rfl (by kernel_rfl) (by kernel_rfl) HSV.out (fun hS => ?_)
  repeat (first
    | (refine plan_read (v := ?_) rfl (fun c a w h => hQ c _ _ a w h) rfl hS ?_ ?_; rotate_left 1; (focus (intro w' hS'; obtain ⟨c0, c1, c2, c3, c4, c5, c6, c7⟩ := HCL.out _ hS'; go_simp; try rfl)); (simp only [Act.put, List.setIfInBounds_toArray]; dsimp only [List.set_cons_zero, List.set_cons_succ]))
    | (refine plan_skip rfl (fun c a w h => hQ c _ _ a w h) rfl hS ?_; (simp only [Act.put, List.setIfInBounds_toArray]; dsimp only [List.set_cons_zero, List.set_cons_succ])))
  refine plan_do (by rfl) (by rfl) (fun K hK => ?_)
  go_simp
  refine (G1.out _).mono ?_
  rintro e wa ⟨rfl, hba⟩
  have hBa : Below w.heap.size w wa := below_of_drew hba
  have hsa := hS.below hba
  refine hK.out _ _ (fun _ => hsa) (fun hS => ?_); clear hK K; replace hS := hS rfl; try (simp only [Act.put, List.setIfInBounds_toArray]; dsimp only [List.set_cons_zero, List.set_cons_succ])
  repeat (first
    | (refine plan_read (v := ?_) rfl (fun c a w h => hQ c _ _ a w h) rfl hS ?_ ?_; rotate_left 1; (focus (intro w' hS'; go_simp; try rfl)); (simp only [Act.put, List.setIfInBounds_toArray]; dsimp only [List.set_cons_zero, List.set_cons_succ]))
    | (refine plan_skip rfl (fun c a w h => hQ c _ _ a w h) rfl hS ?_; (simp only [Act.put, List.setIfInBounds_toArray]; dsimp only [List.set_cons_zero, List.set_cons_succ])))
  refine plan_do (by rfl) (by rfl) (fun K hK => ?_)
  go_simp
  refine (G2.out _).mono ?_
  rintro e wb ⟨rfl, hbb⟩
  have hBb : Below w.heap.size w wb := hBa.trans (hbb.mono hBa.size)
  have hsb := hS.below hbb
  refine hK.out _ _ (fun _ => hsb) (fun hS => ?_); clear hK K; replace hS := hS rfl; try (simp only [Act.put, List.setIfInBounds_toArray]; dsimp only [List.set_cons_zero, List.set_cons_succ])
  repeat (first
    | (refine plan_read (v := ?_) rfl (fun c a w h => hQ c _ _ a w h) rfl hS ?_ ?_; rotate_left 1; (focus (intro w' hS'; go_simp; try rfl)); (simp only [Act.put, List.setIfInBounds_toArray]; dsimp only [List.set_cons_zero, List.set_cons_succ]))
    | (refine plan_skip rfl (fun c a w h => hQ c _ _ a w h) rfl hS ?_; (simp only [Act.put, List.setIfInBounds_toArray]; dsimp only [List.set_cons_zero, List.set_cons_succ])))
  refine plan_do (by rfl) (by rfl) (fun K hK => ?_)
  go_simp
  refine (G3.out _).mono ?_
  rintro e wd ⟨rfl, hbd⟩
  have hBd : Below w.heap.size w wd := hBb.trans (hbd.mono hBb.size)
  have hsd := hS.below hbd
  refine hK.out _ _ (fun _ => hsd) (fun hS => ?_); clear hK K; replace hS := hS rfl; try (simp only [Act.put, List.setIfInBounds_toArray]; dsimp only [List.set_cons_zero, List.set_cons_succ])
  repeat (first
    | (refine plan_read (v := ?_) rfl (fun c a w h => hQ c _ _ a w h) rfl hS ?_ ?_; rotate_left 1; (focus (intro w' hS'; go_simp; try rfl)); (simp only [Act.put, List.setIfInBounds_toArray]; dsimp only [List.set_cons_zero, List.set_cons_succ]))
    | (refine plan_skip rfl (fun c a w h => hQ c _ _ a w h) rfl hS ?_; (simp only [Act.put, List.setIfInBounds_toArray]; dsimp only [List.set_cons_zero, List.set_cons_succ])))
  refine plan_do (by rfl) (by rfl) (fun K hK => ?_)
  go_simp
  refine hK.out _ _ (fun h => by cases h) (fun _ => ?_); clear hK K; try (simp only [Act.put, List.setIfInBounds_toArray]; dsimp only [List.set_cons_zero, List.set_cons_succ])
  refine plan_nil ?_
  exact HKK.out wd _ _ _ _ _ _ _ _ _ _ _ _ _ _ _ _ _ _ _ _ _ _ _ _ _ _ _ _ _ _ _ _ _ _ _ _ _ _ hBd

set_option maxRecDepth 4000 in
set_option maxHeartbeats 4000000 in
theorem reg24 {ops : Array Oper} (ho : (Tryd.f59.body.bind (opsAt 24)) = some ops) {Q : Exit → Act → World → Prop} {u0 u1 u2 u3 u4 u5 u6 u7 u8 u9 u10 u11 u12 u14 u17 u18 u19 u20 u21 u22 u23 u24 u25 u26 u27 u28 u29 u30 u31 u32 u33 u34 u35 u36 u37 u38 u39 u40 u41 u42 u43 u44 u45 u46 u47 u48 u49 u50 u51 u52 u53 u54 u55 u56 u57 u58 u59 u60 u61 u62 u63 u64 u65 u66 u67 u68 u69 u70 u71 u72 u73 u74 u75 u76 u77 u78 u79 u80 u81 u82 u83 u84 u85 u86 u87 u88 u89 u90 u91 u92 u93 u94 u95 u96 u97 u98 u99 u100 u101 u102 u103 u104 u105 u106 u107 u108 u109 u110 u111 u112 u113 u114 u115 u116 u117 u118 u119 u120 u121 u122 u123 u124 u125 u126 u127 u128 u129 u130 u131 u132 u133 u134 u135 u136 u137 u138 u139 u140 u141 u142 u143 u144 u145 u146 u147 u148 u149 u150 u151 u152 u153 u154 u155 u156 u157 u158 u159 u160 u161 u162 u163 u164 u165 u166 u167 u168 u169 u170 u171 u172 u173 u174 u175 u176 u177 u178 u179 u180 u181 u182 u183 u184 u185 u186 u187 u188 u189 u190 u191 u192 u193 u194 u195 u196 u197 u198 u199 u200 u201 u202 u203 u204 u205 u206 u207 u208 u209 u210 u211 u212 u213 u214 u215 u216 u217 u218 u219 u220 u221 u222 u223 u224 u225 u226 u227 u228 u229 u230 u231 u232 u233 u234 u235 u236 u237 u238 u239 u240 u241 u242 u243 u244 u245 u246 u247 u248 u249 u250 u251 u252 u253 u254 u255 u256 u257 u258 u259 u260 u261 u262 u263 u264 u265 u266 u267 u268 u269 u270 u271 u272 u273 u274 u275 u276 u277 u278 u279 u280 u281 : Value} (V vc : Nat) (T : List Nat) (w : World) (hw8 : w8 T) (hS : Sees w 1 (some ⟨V, 0, none⟩) 8 (wds T)) (kn wn : Nat)
    (hQ : ∀ c d v a w, Q (.panic c) (Act.put a (some d) v) w → Q (.panic c) a w) (K : ∀  (y207 y208 y209 y210 y211 y212 y213 y214 y215 y216 y217 y218 y219 y220 y221 y222 y223 y224 y225 y226 y227 y228 y229 y230 y231 y232 y233 : Value), Q .normal { tmps := (List.toArray (u0 :: u1 :: u2 :: u3 :: u4 :: u5 :: u6 :: u7 :: u8 :: u9 :: u10 :: u11 :: u12 :: .slice (some ⟨w.heap.size, 0, none⟩) 8 8 :: u14 :: .int .u32 (t1 T kn wn : Nat) :: .int .u32 (t2 T : Nat) :: u17 :: u18 :: u19 :: u20 :: u21 :: u22 :: u23 :: u24 :: u25 :: u26 :: u27 :: u28 :: u29 :: u30 :: u31 :: u32 :: u33 :: u34 :: u35 :: u36 :: u37 :: u38 :: u39 :: u40 :: u41 :: u42 :: u43 :: u44 :: u45 :: u46 :: u47 :: u48 :: u49 :: u50 :: u51 :: u52 :: u53 :: u54 :: u55 :: u56 :: u57 :: u58 :: u59 :: u60 :: u61 :: u62 :: u63 :: u64 :: u65 :: u66 :: u67 :: u68 :: u69 :: u70 :: u71 :: u72 :: u73 :: u74 :: u75 :: u76 :: u77 :: u78 :: u79 :: u80 :: u81 :: u82 :: u83 :: u84 :: u85 :: u86 :: u87 :: u88 :: u89 :: u90 :: u91 :: u92 :: u93 :: u94 :: u95 :: u96 :: u97 :: u98 :: u99 :: u100 :: u101 :: u102 :: u103 :: u104 :: u105 :: u106 :: u107 :: u108 :: u109 :: u110 :: u111 :: u112 :: u113 :: u114 :: u115 :: u116 :: u117 :: u118 :: u119 :: u120 :: u121 :: u122 :: u123 :: u124 :: u125 :: u126 :: u127 :: u128 :: u129 :: u130 :: u131 :: u132 :: u133 :: u134 :: u135 :: u136 :: u137 :: u138 :: u139 :: u140 :: u141 :: u142 :: u143 :: u144 :: u145 :: u146 :: u147 :: u148 :: u149 :: u150 :: u151 :: u152 :: u153 :: u154 :: u155 :: u156 :: u157 :: u158 :: u159 :: u160 :: u161 :: u162 :: u163 :: u164 :: u165 :: u166 :: u167 :: u168 :: u169 :: u170 :: u171 :: u172 :: u173 :: u174 :: u175 :: u176 :: u177 :: u178 :: u179 :: u180 :: u181 :: u182 :: u183 :: u184 :: u185 :: u186 :: u187 :: u188 :: u189 :: u190 :: u191 :: u192 :: u193 :: u194 :: u195 :: u196 :: u197 :: u198 :: u199 :: u200 :: u201 :: u202 :: u203 :: u204 :: u205 :: u206 :: y207 :: y208 :: y209 :: y210 :: y211 :: y212 :: y213 :: y214 :: y215 :: y216 :: y217 :: y218 :: y219 :: y220 :: y221 :: y222 :: y223 :: y224 :: y225 :: y226 :: y227 :: y228 :: y229 :: y230 :: y231 :: y232 :: y233 :: u234 :: u235 :: u236 :: u237 :: u238 :: u239 :: u240 :: u241 :: u242 :: u243 :: u244 :: u245 :: u246 :: u247 :: u248 :: u249 :: u250 :: u251 :: u252 :: u253 :: u254 :: u255 :: u256 :: u257 :: u258 :: u259 :: u260 :: u261 :: u262 :: u263 :: u264 :: u265 :: u266 :: u267 :: u268 :: u269 :: u270 :: u271 :: u272 :: u273 :: u274 :: u275 :: u276 :: u277 :: u278 :: u279 :: u280 :: u281 :: [])), defers := [] } (w.alloc (.cells (wds (stp T kn wn)).toArray 123)).drew) :
    (Code.region 24 ops true).wp Tryd.prog Q { tmps := (List.toArray (u0 :: u1 :: u2 :: u3 :: u4 :: u5 :: u6 :: u7 :: u8 :: u9 :: u10 :: u11 :: u12 :: .slice (some ⟨V, 0, none⟩) 8 vc :: u14 :: .int .u32 (t1 T kn wn : Nat) :: .int .u32 (t2 T : Nat) :: u17 :: u18 :: u19 :: u20 :: u21 :: u22 :: u23 :: u24 :: u25 :: u26 :: u27 :: u28 :: u29 :: u30 :: u31 :: u32 :: u33 :: u34 :: u35 :: u36 :: u37 :: u38 :: u39 :: u40 :: u41 :: u42 :: u43 :: u44 :: u45 :: u46 :: u47 :: u48 :: u49 :: u50 :: u51 :: u52 :: u53 :: u54 :: u55 :: u56 :: u57 :: u58 :: u59 :: u60 :: u61 :: u62 :: u63 :: u64 :: u65 :: u66 :: u67 :: u68 :: u69 :: u70 :: u71 :: u72 :: u73 :: u74 :: u75 :: u76 :: u77 :: u78 :: u79 :: u80 :: u81 :: u82 :: u83 :: u84 :: u85 :: u86 :: u87 :: u88 :: u89 :: u90 :: u91 :: u92 :: u93 :: u94 :: u95 :: u96 :: u97 :: u98 :: u99 :: u100 :: u101 :: u102 :: u103 :: u104 :: u105 :: u106 :: u107 :: u108 :: u109 :: u110 :: u111 :: u112 :: u113 :: u114 :: u115 :: u116 :: u117 :: u118 :: u119 :: u120 :: u121 :: u122 :: u123 :: u124 :: u125 :: u126 :: u127 :: u128 :: u129 :: u130 :: u131 :: u132 :: u133 :: u134 :: u135 :: u136 :: u137 :: u138 :: u139 :: u140 :: u141 :: u142 :: u143 :: u144 :: u145 :: u146 :: u147 :: u148 :: u149 :: u150 :: u151 :: u152 :: u153 :: u154 :: u155 :: u156 :: u157 :: u158 :: u159 :: u160 :: u161 :: u162 :: u163 :: u164 :: u165 :: u166 :: u167 :: u168 :: u169 :: u170 :: u171 :: u172 :: u173 :: u174 :: u175 :: u176 :: u177 :: u178 :: u179 :: u180 :: u181 :: u182 :: u183 :: u184 :: u185 :: u186 :: u187 :: u188 :: u189 :: u190 :: u191 :: u192 :: u193 :: u194 :: u195 :: u196 :: u197 :: u198 :: u199 :: u200 :: u201 :: u202 :: u203 :: u204 :: u205 :: u206 :: u207 :: u208 :: u209 :: u210 :: u211 :: u212 :: u213 :: u214 :: u215 :: u216 :: u217 :: u218 :: u219 :: u220 :: u221 :: u222 :: u223 :: u224 :: u225 :: u226 :: u227 :: u228 :: u229 :: u230 :: u231 :: u232 :: u233 :: u234 :: u235 :: u236 :: u237 :: u238 :: u239 :: u240 :: u241 :: u242 :: u243 :: u244 :: u245 :: u246 :: u247 :: u248 :: u249 :: u250 :: u251 :: u252 :: u253 :: u254 :: u255 :: u256 :: u257 :: u258 :: u259 :: u260 :: u261 :: u262 :: u263 :: u264 :: u265 :: u266 :: u267 :: u268 :: u269 :: u270 :: u271 :: u272 :: u273 :: u274 :: u275 :: u276 :: u277 :: u278 :: u279 :: u280 :: u281 :: [])), defers := [] } w := by
  simp only [Tryd.f59, Option.bind_some, opsAt, Nat.reduceEqDiff, if_true, if_false, Option.or_none, Option.none_or, Option.some_or, Option.some.injEq] at ho
  subst ho
  obtain ⟨s0, e0⟩ : ∃ x, x = T.getD 0 0 := ⟨_, rfl⟩
  obtain ⟨s1, e1⟩ : ∃ x, x = T.getD 1 0 := ⟨_, rfl⟩
  obtain ⟨s2, e2⟩ : ∃ x, x = T.getD 2 0 := ⟨_, rfl⟩
  obtain ⟨s3, e3⟩ : ∃ x, x = T.getD 3 0 := ⟨_, rfl⟩
  obtain ⟨s4, e4⟩ : ∃ x, x = T.getD 4 0 := ⟨_, rfl⟩
  obtain ⟨s5, e5⟩ : ∃ x, x = T.getD 5 0 := ⟨_, rfl⟩
  obtain ⟨s6, e6⟩ : ∃ x, x = T.getD 6 0 := ⟨_, rfl⟩
  obtain ⟨s7, e7⟩ : ∃ x, x = T.getD 7 0 := ⟨_, rfl⟩
  have l0 : s0 < 4294967296 := by rw [e0]; exact hw8.2 0
  have l1 : s1 < 4294967296 := by rw [e1]; exact hw8.2 1
  have l2 : s2 < 4294967296 := by rw [e2]; exact hw8.2 2
  have l3 : s3 < 4294967296 := by rw [e3]; exact hw8.2 3
  have l4 : s4 < 4294967296 := by rw [e4]; exact hw8.2 4
  have l5 : s5 < 4294967296 := by rw [e5]; exact hw8.2 5
  have l6 : s6 < 4294967296 := by rw [e6]; exact hw8.2 6
  have l7 : s7 < 4294967296 := by rw [e7]; exact hw8.2 7
  have hTl : T.length = 8 := hw8.1
  have hcl : ∀ w', Sees w' 1 (some ⟨V, 0, none⟩) 8 (wds T) → (w'.cell? ⟨V, 0, none⟩ = some (.int .u32 (s0 : Nat)) ∧ w'.cell? ⟨V, 1, none⟩ = some (.int .u32 (s1 : Nat)) ∧ w'.cell? ⟨V, 2, none⟩ = some (.int .u32 (s2 : Nat)) ∧ w'.cell? ⟨V, 3, none⟩ = some (.int .u32 (s3 : Nat)) ∧ w'.cell? ⟨V, 4, none⟩ = some (.int .u32 (s4 : Nat)) ∧ w'.cell? ⟨V, 5, none⟩ = some (.int .u32 (s5 : Nat)) ∧ w'.cell? ⟨V, 6, none⟩ = some (.int .u32 (s6 : Nat)) ∧ w'.cell? ⟨V, 7, none⟩ = some (.int .u32 (s7 : Nat))) := fun w' hh' =>
    ⟨by rw [sees_wd hh' hTl (by omega), e0], by rw [sees_wd hh' hTl (by omega), e1], by rw [sees_wd hh' hTl (by omega), e2], by rw [sees_wd hh' hTl (by omega), e3], by rw [sees_wd hh' hTl (by omega), e4], by rw [sees_wd hh' hTl (by omega), e5], by rw [sees_wd hh' hTl (by omega), e6], by rw [sees_wd hh' hTl (by omega), e7]⟩
  have HCL := Lib.hid hcl; clear hcl
  have hst : stp T kn wn = [(t1 T kn wn + t2 T) % 4294967296, s0, s1, s2, (s3 + t1 T kn wn) % 4294967296, s4, s5, s6] := by
    rw [e0, e1, e2, e3, e4, e5, e6]; rfl
  have ht1 : t1 T kn wn < 4294967296 := Nat.mod_lt _ (by decide)
  have ht2 : t2 T < 4294967296 := Nat.mod_lt _ (by decide)
  clear e0 e1 e2 e3 e4 e5 e6 e7
  obtain ⟨v1, hv1⟩ : ∃ v, v = t1 T kn wn := ⟨_, rfl⟩
  obtain ⟨v2, hv2⟩ : ∃ v, v = t2 T := ⟨_, rfl⟩
  rw [← hv1, ← hv2] at hst
  rw [← hv1] at ht1 K ⊢
  rw [← hv2] at ht2 K ⊢
  obtain ⟨v3, hv3⟩ : ∃ v, v = (v1 + v2) % 4294967296 := ⟨_, rfl⟩
  obtain ⟨v4, hv4⟩ : ∃ v, v = (s3 + v1) % 4294967296 := ⟨_, rfl⟩
  rw [← hv3, ← hv4] at hst
  rw [hst] at K
  have g3 : IntKind.u32.wrap ((v1 : Int) + (v2 : Int)) = (v3 : Int) := by rw [IntKind.wrap_u32', hv3]; omega
  have g4 : IntKind.u32.wrap ((s3 : Int) + (v1 : Int)) = (v4 : Int) := by rw [IntKind.wrap_u32', hv4]; omega
  have HSV := Lib.hid hS; have HKK := Lib.hid @K
  clear hS hv1 hv2 hv3 hv4 hst hw8 K
  refine region_fast [(0, true), (1, true), (2, true), (3, true), (4, true), (5, true), (6, true), (7, true), (8, true), (9, true), (10, true), (11, true), (12, true), (13, true), (14, true), (15, true), (16, true), (17, true), (18, true), (19, true), (20, true), (21, true), (22, true), (23, true), (24, true), (25, true), (26, false), (27, false)] [1, 3, 4, 5, 6, 7, 8, 9, 10, 11, 12, 13, 14, 15, 16, 17, 18, 19, 20, 21, 22, 23, 24, 25] 67108858 [(205688069665150755269371147819668813122841983204197482918576128, 32768, 0, 0), (411376139330301510538742295639337626245683966408394965837152256, 65536, 0, 0), (822752278660603021077484591278675252491367932816789931674304512, 617064208995452265808113443459006439368525949612592448755728384, 3, 3), (1645504557321206042154969182557350504982735865633579863348609024, 8192, 0, 0), (3291009114642412084309938365114701009965471731267159726697218048, 1645504557321206042154969182557350504982735865633579863348609024, 8, 8), (6582018229284824168619876730229402019930943462534319453394436096, 3291009114642412084309938365114701009965471731267159726697218048, 16, 24), (13164036458569648337239753460458804039861886925068638906788872192, 8192, 0, 0), (26328072917139296674479506920917608079723773850137277813577744384, 13164036458569648337239753460458804039861886925068638906788872192, 64, 64), (52656145834278593348959013841835216159447547700274555627155488768, 26328072917139296674479506920917608079723773850137277813577744384, 128, 192), (105312291668557186697918027683670432318895095400549111254310977536, 8192, 0, 0), (210624583337114373395836055367340864637790190801098222508621955072, 105312291668557186697918027683670432318895095400549111254310977536, 512, 512), (421249166674228746791672110734681729275580381602196445017243910144, 210624583337114373395836055367340864637790190801098222508621955072, 1024, 1536), (842498333348457493583344221469363458551160763204392890034487820288, 8192, 0, 0), (1684996666696914987166688442938726917102321526408785780068975640576, 842498333348457493583344221469363458551160763204392890034487820288, 4096, 4096), (3369993333393829974333376885877453834204643052817571560137951281152, 1684996666696914987166688442938726917102321526408785780068975640576, 8192, 12288), (6739986666787659948666753771754907668409286105635143120275902562304, 32768, 0, 0), (13479973333575319897333507543509815336818572211270286240551805124608, 10109980000181489923000130657632361502613929158452714680413853843456, 49152, 61440), (26959946667150639794667015087019630673637144422540572481103610249216, 8192, 0, 0), (53919893334301279589334030174039261347274288845081144962207220498432, 26959946667150639794667015087019630673637144422540572481103610249216, 131072, 131072), (107839786668602559178668060348078522694548577690162289924414440996864, 53919893334301279589334030174039261347274288845081144962207220498432, 262144, 393216), (215679573337205118357336120696157045389097155380324579848828881993728, 8192, 0, 0), (431359146674410236714672241392314090778194310760649159697657763987456, 215679573337205118357336120696157045389097155380324579848828881993728, 1048576, 1048576), (862718293348820473429344482784628181556388621521298319395315527974912, 431359146674410236714672241392314090778194310760649159697657763987456, 2097152, 3145728), (1725436586697640946858688965569256363112777243042596638790631055949824, 8192, 0, 0), (3450873173395281893717377931138512726225554486085193277581262111899648, 1725436586697640946858688965569256363112777243042596638790631055949824, 8388608, 8388608), (6901746346790563787434755862277025452451108972170386555162524223799296, 3450873173395281893717377931138512726225554486085193277581262111899648, 16777216, 25165824), (13803492693581127574869511724554050904902217944340773110325048447598592, 7886265710224578592707432241439139997061572193833815272832835466035200, 38340900, 67108863), (8192, 13803492693581127574869511724554050904902217944340773110325048447598592, 134217727, 134217727)] (fun w' => Sees w' 1 (some ⟨V, 0, none⟩) 8 (wds T)) (by kernel_rfl) (by kernel_rfl) (by kernel_rfl) rfl (by kernel_rfl) (by kernel_rfl) HSV.out (fun hS => ?_)
  repeat (first
    | (refine plan_read (v := ?_) rfl (fun c a w h => hQ c _ _ a w h) rfl hS ?_ ?_; rotate_left 1; (focus (intro w' hS'; obtain ⟨c0, c1, c2, c3, c4, c5, c6, c7⟩ := HCL.out _ hS'; go_simp; try rfl)); (simp only [Act.put, List.setIfInBounds_toArray]; dsimp only [List.set_cons_zero, List.set_cons_succ]))
    | (refine plan_skip rfl (fun c a w h => hQ c _ _ a w h) rfl hS ?_; (simp only [Act.put, List.setIfInBounds_toArray]; dsimp only [List.set_cons_zero, List.set_cons_succ])))
  refine plan_do (by rfl) (by rfl) (fun K hK => ?_)
  go_simp
  refine hK.out _ _ (fun h => by cases h) (fun _ => ?_); clear hK K; try (simp only [Act.put, List.setIfInBounds_toArray]; dsimp only [List.set_cons_zero, List.set_cons_succ])
  refine plan_do (by rfl) (by rfl) (fun K hK => ?_)
  go_simp
  refine hK.out _ _ (fun h => by cases h) (fun _ => ?_); clear hK K; try (simp only [Act.put, List.setIfInBounds_toArray]; dsimp only [List.set_cons_zero, List.set_cons_succ])
  refine plan_nil ?_
  exact HKK.out _ _ _ _ _ _ _ _ _ _ _ _ _ _ _ _ _ _ _ _ _ _ _ _ _ _ _

set_option maxRecDepth 4000 in
set_option maxHeartbeats 4000000 in
theorem reg17 {ops : Array Oper} (ho : (Tryd.f59.body.bind (opsAt 17)) = some ops) {Q : Exit → Act → World → Prop} {u0 u1 u2 u3 u4 u5 u6 u8 u9 u13 u14 u15 u16 u17 u18 u19 u20 u21 u22 u23 u24 u25 u26 u27 u28 u29 u30 u31 u32 u33 u34 u35 u36 u37 u38 u39 u40 u41 u42 u43 u44 u45 u46 u47 u48 u49 u50 u51 u52 u53 u54 u55 u56 u57 u58 u59 u60 u61 u62 u63 u64 u65 u66 u67 u68 u69 u70 u71 u72 u73 u74 u75 u76 u77 u78 u79 u80 u81 u82 u83 u84 u85 u86 u87 u88 u89 u90 u91 u92 u93 u94 u95 u96 u97 u98 u99 u100 u101 u102 u103 u104 u105 u106 u107 u108 u109 u110 u111 u112 u113 u114 u115 u116 u117 u118 u119 u120 u121 u122 u123 u124 u125 u126 u127 u128 u129 u130 u131 u132 u133 u134 u135 u136 u137 u138 u139 u140 u141 u142 u143 u144 u145 u146 u147 u148 u149 u150 u151 u152 u153 u154 u155 u156 u157 u158 u159 u160 u161 u162 u163 u164 u165 u166 u167 u168 u169 u170 u171 u172 u173 u174 u175 u176 u177 u178 u179 u180 u181 u182 u183 u184 u185 u186 u187 u188 u189 u190 u191 u192 u193 u194 u195 u196 u197 u198 u199 u200 u201 u202 u203 u204 u205 u206 u207 u208 u209 u210 u211 u212 u213 u214 u215 u216 u217 u218 u219 u220 u221 u222 u223 u224 u225 u226 u227 u228 u229 u230 u231 u232 u233 u234 u235 u236 u237 u238 u239 u240 u241 u242 u243 u244 u245 u246 u247 u248 u249 u250 u251 u252 u253 u254 u255 u256 u257 u258 u259 u260 u261 u262 u263 u264 u265 u266 u267 u268 u269 u270 u271 u272 u273 u274 u275 u276 u277 u278 u279 u280 u281 : Value} (b : List UInt8) (n Wb a2 a15 : Nat) (hn1 : 16 ≤ n) (hlt2 : n < 64) (h2 : a2 = (ws b 64).getD (n - 2) 0) (h15 : a15 = (ws b 64).getD (n - 15) 0) (w : World) (hT : Blk w Wb 123 (wds (wg b n)).toArray)
    (hQ : ∀ c d v a w, Q (.panic c) (Act.put a (some d) v) w → Q (.panic c) a w) (K : ∀ (wc : World) (y85 y86 y87 y88 y89 y90 y91 y92 y93 y94 y95 y96 y97 y98 y99 y100 y101 y102 y103 y104 y105 y106 y107 y108 y109 y110 y111 y112 y113 y114 y115 y116 : Value) (_ : Blk wc Wb 123 (wds (wg b (n + 1))).toArray) (_ : Fr (fun k => Wb ≤ k) w wc), Q .normal { tmps := (List.toArray (u0 :: u1 :: u2 :: u3 :: u4 :: u5 :: u6 :: .slice (some ⟨Wb, 0, none⟩) 64 64 :: u8 :: u9 :: .int .i64 (n : Int) :: .int .u32 (a15 : Nat) :: .int .u32 (a2 : Nat) :: u13 :: u14 :: u15 :: u16 :: u17 :: u18 :: u19 :: u20 :: u21 :: u22 :: u23 :: u24 :: u25 :: u26 :: u27 :: u28 :: u29 :: u30 :: u31 :: u32 :: u33 :: u34 :: u35 :: u36 :: u37 :: u38 :: u39 :: u40 :: u41 :: u42 :: u43 :: u44 :: u45 :: u46 :: u47 :: u48 :: u49 :: u50 :: u51 :: u52 :: u53 :: u54 :: u55 :: u56 :: u57 :: u58 :: u59 :: u60 :: u61 :: u62 :: u63 :: u64 :: u65 :: u66 :: u67 :: u68 :: u69 :: u70 :: u71 :: u72 :: u73 :: u74 :: u75 :: u76 :: u77 :: u78 :: u79 :: u80 :: u81 :: u82 :: u83 :: u84 :: y85 :: y86 :: y87 :: y88 :: y89 :: y90 :: y91 :: y92 :: y93 :: y94 :: y95 :: y96 :: y97 :: y98 :: y99 :: y100 :: y101 :: y102 :: y103 :: y104 :: y105 :: y106 :: y107 :: y108 :: y109 :: y110 :: y111 :: y112 :: y113 :: y114 :: y115 :: y116 :: u117 :: u118 :: u119 :: u120 :: u121 :: u122 :: u123 :: u124 :: u125 :: u126 :: u127 :: u128 :: u129 :: u130 :: u131 :: u132 :: u133 :: u134 :: u135 :: u136 :: u137 :: u138 :: u139 :: u140 :: u141 :: u142 :: u143 :: u144 :: u145 :: u146 :: u147 :: u148 :: u149 :: u150 :: u151 :: u152 :: u153 :: u154 :: u155 :: u156 :: u157 :: u158 :: u159 :: u160 :: u161 :: u162 :: u163 :: u164 :: u165 :: u166 :: u167 :: u168 :: u169 :: u170 :: u171 :: u172 :: u173 :: u174 :: u175 :: u176 :: u177 :: u178 :: u179 :: u180 :: u181 :: u182 :: u183 :: u184 :: u185 :: u186 :: u187 :: u188 :: u189 :: u190 :: u191 :: u192 :: u193 :: u194 :: u195 :: u196 :: u197 :: u198 :: u199 :: u200 :: u201 :: u202 :: u203 :: u204 :: u205 :: u206 :: u207 :: u208 :: u209 :: u210 :: u211 :: u212 :: u213 :: u214 :: u215 :: u216 :: u217 :: u218 :: u219 :: u220 :: u221 :: u222 :: u223 :: u224 :: u225 :: u226 :: u227 :: u228 :: u229 :: u230 :: u231 :: u232 :: u233 :: u234 :: u235 :: u236 :: u237 :: u238 :: u239 :: u240 :: u241 :: u242 :: u243 :: u244 :: u245 :: u246 :: u247 :: u248 :: u249 :: u250 :: u251 :: u252 :: u253 :: u254 :: u255 :: u256 :: u257 :: u258 :: u259 :: u260 :: u261 :: u262 :: u263 :: u264 :: u265 :: u266 :: u267 :: u268 :: u269 :: u270 :: u271 :: u272 :: u273 :: u274 :: u275 :: u276 :: u277 :: u278 :: u279 :: u280 :: u281 :: [])), defers := [] } wc) :
    (Code.region 17 ops true).wp Tryd.prog Q { tmps := (List.toArray (u0 :: u1 :: u2 :: u3 :: u4 :: u5 :: u6 :: .slice (some ⟨Wb, 0, none⟩) 64 64 :: u8 :: u9 :: .int .i64 (n : Int) :: .int .u32 (a15 : Nat) :: .int .u32 (a2 : Nat) :: u13 :: u14 :: u15 :: u16 :: u17 :: u18 :: u19 :: u20 :: u21 :: u22 :: u23 :: u24 :: u25 :: u26 :: u27 :: u28 :: u29 :: u30 :: u31 :: u32 :: u33 :: u34 :: u35 :: u36 :: u37 :: u38 :: u39 :: u40 :: u41 :: u42 :: u43 :: u44 :: u45 :: u46 :: u47 :: u48 :: u49 :: u50 :: u51 :: u52 :: u53 :: u54 :: u55 :: u56 :: u57 :: u58 :: u59 :: u60 :: u61 :: u62 :: u63 :: u64 :: u65 :: u66 :: u67 :: u68 :: u69 :: u70 :: u71 :: u72 :: u73 :: u74 :: u75 :: u76 :: u77 :: u78 :: u79 :: u80 :: u81 :: u82 :: u83 :: u84 :: u85 :: u86 :: u87 :: u88 :: u89 :: u90 :: u91 :: u92 :: u93 :: u94 :: u95 :: u96 :: u97 :: u98 :: u99 :: u100 :: u101 :: u102 :: u103 :: u104 :: u105 :: u106 :: u107 :: u108 :: u109 :: u110 :: u111 :: u112 :: u113 :: u114 :: u115 :: u116 :: u117 :: u118 :: u119 :: u120 :: u121 :: u122 :: u123 :: u124 :: u125 :: u126 :: u127 :: u128 :: u129 :: u130 :: u131 :: u132 :: u133 :: u134 :: u135 :: u136 :: u137 :: u138 :: u139 :: u140 :: u141 :: u142 :: u143 :: u144 :: u145 :: u146 :: u147 :: u148 :: u149 :: u150 :: u151 :: u152 :: u153 :: u154 :: u155 :: u156 :: u157 :: u158 :: u159 :: u160 :: u161 :: u162 :: u163 :: u164 :: u165 :: u166 :: u167 :: u168 :: u169 :: u170 :: u171 :: u172 :: u173 :: u174 :: u175 :: u176 :: u177 :: u178 :: u179 :: u180 :: u181 :: u182 :: u183 :: u184 :: u185 :: u186 :: u187 :: u188 :: u189 :: u190 :: u191 :: u192 :: u193 :: u194 :: u195 :: u196 :: u197 :: u198 :: u199 :: u200 :: u201 :: u202 :: u203 :: u204 :: u205 :: u206 :: u207 :: u208 :: u209 :: u210 :: u211 :: u212 :: u213 :: u214 :: u215 :: u216 :: u217 :: u218 :: u219 :: u220 :: u221 :: u222 :: u223 :: u224 :: u225 :: u226 :: u227 :: u228 :: u229 :: u230 :: u231 :: u232 :: u233 :: u234 :: u235 :: u236 :: u237 :: u238 :: u239 :: u240 :: u241 :: u242 :: u243 :: u244 :: u245 :: u246 :: u247 :: u248 :: u249 :: u250 :: u251 :: u252 :: u253 :: u254 :: u255 :: u256 :: u257 :: u258 :: u259 :: u260 :: u261 :: u262 :: u263 :: u264 :: u265 :: u266 :: u267 :: u268 :: u269 :: u270 :: u271 :: u272 :: u273 :: u274 :: u275 :: u276 :: u277 :: u278 :: u279 :: u280 :: u281 :: [])), defers := [] } w := by
  simp only [Tryd.f59, Option.bind_some, opsAt, Nat.reduceEqDiff, if_true, if_false, Option.or_none, Option.none_or, Option.some_or, Option.some.injEq] at ho
  subst ho
  have hlt2i : (n : Int) < 64 := by omega
  obtain ⟨a7, h7⟩ : ∃ a, a = (ws b 64).getD (n - 7) 0 := ⟨_, rfl⟩
  obtain ⟨a16, h16'⟩ : ∃ a, a = (ws b 64).getD (n - 16) 0 := ⟨_, rfl⟩
  have l2 : a2 < 4294967296 := by rw [h2]; exact ws_lt _ _ _
  have l7 : a7 < 4294967296 := by rw [h7]; exact ws_lt _ _ _
  have l15 : a15 < 4294967296 := by rw [h15]; exact ws_lt _ _ _
  have l16 : a16 < 4294967296 := by rw [h16']; exact ws_lt _ _ _
  have hst := ws_step b (show 16 ≤ n by omega) hlt2
  rw [← h2, ← h7, ← h15, ← h16'] at hst
  have hwl : (wg b n).length = 64 := tabn_length _ _
  have hcs : ∀ w', Blk w' Wb 123 (wds (wg b n)).toArray → w'.cell? ⟨Wb, n - 2, none⟩ = some (.int .u32 (a2 : Nat)) ∧ w'.cell? ⟨Wb, n - 7, none⟩ = some (.int .u32 (a7 : Nat)) ∧ w'.cell? ⟨Wb, n - 15, none⟩ = some (.int .u32 (a15 : Nat)) ∧ w'.cell? ⟨Wb, n - 16, none⟩ = some (.int .u32 (a16 : Nat)) := fun w' h =>
    ⟨by rw [wblk_cell h (by omega), wg_get b (by omega) (by omega), h2], by rw [wblk_cell h (by omega), wg_get b (by omega) (by omega), h7],
     by rw [wblk_cell h (by omega), wg_get b (by omega) (by omega), h15], by rw [wblk_cell h (by omega), wg_get b (by omega) (by omega), h16']⟩
  have hr : ∀ x k, x < 4294967296 → rr x k < 4294967296 := fun x k hx => rr_lt k hx
  have r17 := hr a2 17 l2; have r19 := hr a2 19 l2; have r7 := hr a15 7 l15; have r18 := hr a15 18 l15
  obtain ⟨q2, hq2⟩ : ∃ q, q = a2 / 1024 := ⟨_, rfl⟩
  obtain ⟨q15, hq15⟩ : ∃ q, q = a15 / 8 := ⟨_, rfl⟩
  have hq2i : (a2 : Int) / 1024 = (q2 : Int) := by omega
  have hq15i : (a15 : Int) / 8 = (q15 : Int) := by omega
  have hq2l : q2 < 4294967296 := by omega
  have hq15l : q15 < 4294967296 := by omega
  have hs1e : sf3 a2 17 19 10 = rr a2 17 ^^^ rr a2 19 ^^^ q2 := by rw [hq2]; rfl
  have hs2e : sf3 a15 7 18 3 = rr a15 7 ^^^ rr a15 18 ^^^ q15 := by rw [hq15]; rfl
  have F1 := Lib.hid (right_any a2 17 l2 (by omega) (by omega))
  have F2 := Lib.hid (right_any a2 19 l2 (by omega) (by omega))
  have F3 := Lib.hid (right_any a15 7 l15 (by omega) (by omega))
  have F4 := Lib.hid (right_any a15 18 l15 (by omega) (by omega))
  have hx1 : bits BinOp.xor IntKind.u32 (bits BinOp.xor IntKind.u32 (rr a2 17 : Nat) (rr a2 19 : Nat)) (q2 : Int) = ((sf3 a2 17 19 10 : Nat) : Int) := by
    rw [u32_xor_nat _ _ r17 r19, u32_xor_nat _ _ (xor32 r17 r19) hq2l, hs1e]
  have hx2 : bits BinOp.xor IntKind.u32 (bits BinOp.xor IntKind.u32 (rr a15 7 : Nat) (rr a15 18 : Nat)) (q15 : Int) = ((sf3 a15 7 18 3 : Nat) : Int) := by
    rw [u32_xor_nat _ _ r7 r18, u32_xor_nat _ _ (xor32 r7 r18) hq15l, hs2e]
  have hs1l : sf3 a2 17 19 10 < 4294967296 := by rw [hs1e]; exact xor32 (xor32 r17 r19) hq2l
  have hs2l : sf3 a15 7 18 3 < 4294967296 := by rw [hs2e]; exact xor32 (xor32 r7 r18) hq15l
  have HCS := Lib.hid hcs; have HST := Lib.hid hst; clear hcs hst h2 h7 h15 h16' hq2 hq15 hs1e hs2e hr
  generalize sf3 a2 17 19 10 = s1 at *
  generalize sf3 a15 7 18 3 = s2 at *
  generalize rr a2 17 = p1 at *
  generalize rr a2 19 = p2 at *
  generalize rr a15 7 = p3 at *
  generalize rr a15 18 = p4 at *
  obtain ⟨v1, hv1⟩ : ∃ v, v = (s1 + a7) % 4294967296 := ⟨_, rfl⟩
  obtain ⟨v2, hv2⟩ : ∃ v, v = (v1 + s2) % 4294967296 := ⟨_, rfl⟩
  obtain ⟨v3, hv3⟩ : ∃ v, v = (v2 + a16) % 4294967296 := ⟨_, rfl⟩
  have g1 : IntKind.u32.wrap (IntKind.u32.wrap (IntKind.u32.wrap ((s1 : Int) + (a7 : Int)) + (s2 : Int)) + (a16 : Int)) = (v3 : Int) := by simp only [IntKind.wrap_u32']; omega
  have hv : v3 = (ws b 64).getD n 0 := by rw [HST.out]; omega
  have HV := Lib.hid hv
  have hfz : ∀ w', Blk w' Wb 123 (wds (wg b n)).toArray → w'.frozen? ⟨Wb, n, none⟩ = false := fun w' h => h.frozen n
  have hcu : ∀ w', Blk w' Wb 123 (wds (wg b n)).toArray → ∃ u, w'.cell? ⟨Wb, n, none⟩ = some u := fun w' h => ⟨_, wblk_cell h (by omega)⟩
  have HFZ := Lib.hid hfz; have HCU := Lib.hid hcu
  clear hv1 hv2 hv3 hv hfz hcu HST
  have m2 : ((n : Int) - 2).toNat = n - 2 := by omega
  have m7 : ((n : Int) - 7).toNat = n - 7 := by omega
  have m15 : ((n : Int) - 15).toNat = n - 15 := by omega
  have m16 : ((n : Int) - 16).toNat = n - 16 := by omega
  have p2' : (0 : Int) ≤ (n : Int) - 2 := by omega
  have p7 : (0 : Int) ≤ (n : Int) - 7 := by omega
  have p15 : (0 : Int) ≤ (n : Int) - 15 := by omega
  have p16 : (0 : Int) ≤ (n : Int) - 16 := by omega
  have q2' : (n : Int) - 2 < 64 := by omega
  have q7 : (n : Int) - 7 < 64 := by omega
  have q15' : (n : Int) - 15 < 64 := by omega
  have q16 : (n : Int) - 16 < 64 := by omega
  have u2 : (2 : Int) ≤ (n : Int) := by omega
  have u7' : (7 : Int) ≤ (n : Int) := by omega
  have u15' : (15 : Int) ≤ (n : Int) := by omega
  have u16' : (16 : Int) ≤ (n : Int) := by omega
  have v2' : (n : Int) < 66 := by omega
  have v7 : (n : Int) < 71 := by omega
  have v15 : (n : Int) < 79 := by omega
  have v16 : (n : Int) < 80 := by omega
  have r2 : IntKind.i64.wrap ((n : Int) - 2) = (n : Int) - 2 := IntWalk.i64_in _ (by omega)
  have r7' : IntKind.i64.wrap ((n : Int) - 7) = (n : Int) - 7 := IntWalk.i64_in _ (by omega)
  have r15 : IntKind.i64.wrap ((n : Int) - 15) = (n : Int) - 15 := IntWalk.i64_in _ (by omega)
  have r16 : IntKind.i64.wrap ((n : Int) - 16) = (n : Int) - 16 := IntWalk.i64_in _ (by omega)
  have HT := Lib.hid hT; have HKK := Lib.hid @K; clear hT K
  refine region_fast [(0, true), (1, true), (2, true), (4, true), (7, true), (8, true), (10, true), (11, true), (12, true), (13, true), (14, true), (16, true), (18, true), (21, true), (22, true), (25, true), (26, true), (27, true), (28, true), (29, true), (3, false), (5, false), (6, true), (9, true), (15, true), (17, false), (19, false), (20, true), (23, true), (24, true), (30, true), (31, true), (32, false)] [1, 2, 3, 4, 5, 6, 7, 8, 9, 10, 11, 12, 13, 14, 15, 16, 17, 18, 19, 20, 21, 22, 23, 24, 25, 26, 27, 28, 29, 30] 2147483646 [(38685626227668133590597632, 128, 0, 0), (77371252455336267181195264, 1024, 0, 0), (154742504910672534362390528, 4096, 0, 0), (309485009821345068724781056, 154742504910672534362390528, 4, 4), (618970019642690137449562112, 4096, 0, 0), (1237940039285380274899124224, 618970019642690137449562112, 24, 28), (2475880078570760549798248448, 1547425049106725343623905280, 40, 60), (4951760157141521099596496896, 4096, 0, 0), (9903520314283042199192993792, 4951760157141521099596496896, 128, 128), (19807040628566084398385987584, 12379400392853802748991242240, 320, 508), (39614081257132168796771975168, 128, 0, 0), (79228162514264337593543950336, 1024, 0, 0), (158456325028528675187087900672, 79228162514264337593543950336, 2048, 2048), (316912650057057350374175801344, 198070406285660843983859875840, 5120, 7168), (633825300114114700748351602688, 316912650057057350374175801344, 8192, 15360), (1267650600228229401496703205376, 653632340742680785146737590272, 16896, 32764), (2535301200456458802993406410752, 2048, 0, 0), (5070602400912917605986812821504, 2535301200456458802993406410752, 65568, 65596), (10141204801825835211973625643008, 2048, 0, 0), (20282409603651670423947251286016, 10141204801825835211973625643008, 393216, 458812), (40564819207303340847894502572032, 25353012004564588029934064107520, 655360, 983100), (81129638414606681695789005144064, 2048, 0, 0), (162259276829213363391578010288128, 81129638414606681695789005144064, 2097152, 2097152), (324518553658426726783156020576256, 202824096036516704239472512860160, 5242880, 8323132), (649037107316853453566312041152512, 325786204258654956184652723781632, 8421376, 16777212), (1298074214633706907132624082305024, 128, 0, 0), (2596148429267413814265248164610048, 1024, 0, 0), (5192296858534827628530496329220096, 2596148429267413814265248164610048, 67108864, 67108864), (10384593717069655257060992658440192, 6490371073168534535663120411525120, 167772160, 234881024), (20769187434139310514121985316880384, 10384593717069655257060992658440192, 268435456, 503316480), (41538374868278621028243970633760768, 21418224541456163967688297358032896, 553648128, 1073741820), (83076749736557242056487941267521536, 116056878683004400771792896, 2147483647, 2147483647), (0, 124615124604835863084731911901282304, 4294967295, 4294967295)] (fun w' => Blk w' Wb 123 (wds (wg b n)).toArray) (by kernel_rfl) (by kernel_rfl) (by kernel_rfl) rfl (by kernel_rfl) (by kernel_rfl) HT.out (fun hS => ?_)
  repeat (first
    | (refine plan_read (v := ?_) rfl (fun c a w h => hQ c _ _ a w h) rfl hS ?_ ?_; rotate_left 1; (focus (intro w' hS'; obtain ⟨c2, c7, c15, c16⟩ := HCS.out _ hS'; go_simp; try rfl)); (simp only [Act.put, List.setIfInBounds_toArray]; dsimp only [List.set_cons_zero, List.set_cons_succ]))
    | (refine plan_skip rfl (fun c a w h => hQ c _ _ a w h) rfl hS ?_; (simp only [Act.put, List.setIfInBounds_toArray]; dsimp only [List.set_cons_zero, List.set_cons_succ])))
  refine plan_do (by rfl) (by rfl) (fun K hK => ?_)
  go_simp
  refine (F1.out _).mono ?_
  rintro e w5 ⟨rfl, hb5⟩
  have hs5 : Blk w5 Wb 123 (wds (wg b n)).toArray := hS.below hb5 hS.lt
  have hF5 : Fr (fun k => Wb ≤ k) w w5 := (Fr.refl (fun k => Wb ≤ k) w).drew.trans (Fr.of_below hb5 (fun k => Wb ≤ k)) (fun _ _ h => h)
  refine hK.out _ _ (fun _ => hs5) (fun hS => ?_); clear hK K; replace hS := hS rfl; try (simp only [Act.put, List.setIfInBounds_toArray]; dsimp only [List.set_cons_zero, List.set_cons_succ])
  repeat (first
    | (refine plan_read (v := ?_) rfl (fun c a w h => hQ c _ _ a w h) rfl hS ?_ ?_; rotate_left 1; (focus (intro w' hS'; go_simp; try rfl)); (simp only [Act.put, List.setIfInBounds_toArray]; dsimp only [List.set_cons_zero, List.set_cons_succ]))
    | (refine plan_skip rfl (fun c a w h => hQ c _ _ a w h) rfl hS ?_; (simp only [Act.put, List.setIfInBounds_toArray]; dsimp only [List.set_cons_zero, List.set_cons_succ])))
  refine plan_do (by rfl) (by rfl) (fun K hK => ?_)
  go_simp
  refine (F2.out _).mono ?_
  rintro e w6 ⟨rfl, hb6⟩
  have hs6 : Blk w6 Wb 123 (wds (wg b n)).toArray := hS.below hb6 hS.lt
  have hF6 : Fr (fun k => Wb ≤ k) w w6 := hF5.trans (Fr.of_below hb6 (fun k => Wb ≤ k)) (fun _ _ h => h)
  refine hK.out _ _ (fun _ => hs6) (fun hS => ?_); clear hK K; replace hS := hS rfl; try (simp only [Act.put, List.setIfInBounds_toArray]; dsimp only [List.set_cons_zero, List.set_cons_succ])
  repeat (first
    | (refine plan_read (v := ?_) rfl (fun c a w h => hQ c _ _ a w h) rfl hS ?_ ?_; rotate_left 1; (focus (intro w' hS'; go_simp; try rfl)); (simp only [Act.put, List.setIfInBounds_toArray]; dsimp only [List.set_cons_zero, List.set_cons_succ]))
    | (refine plan_skip rfl (fun c a w h => hQ c _ _ a w h) rfl hS ?_; (simp only [Act.put, List.setIfInBounds_toArray]; dsimp only [List.set_cons_zero, List.set_cons_succ])))
  refine plan_do (by rfl) (by rfl) (fun K hK => ?_)
  go_simp
  refine (F3.out _).mono ?_
  rintro e w7 ⟨rfl, hb7⟩
  have hs7 : Blk w7 Wb 123 (wds (wg b n)).toArray := hS.below hb7 hS.lt
  have hF7 : Fr (fun k => Wb ≤ k) w w7 := hF6.trans (Fr.of_below hb7 (fun k => Wb ≤ k)) (fun _ _ h => h)
  refine hK.out _ _ (fun _ => hs7) (fun hS => ?_); clear hK K; replace hS := hS rfl; try (simp only [Act.put, List.setIfInBounds_toArray]; dsimp only [List.set_cons_zero, List.set_cons_succ])
  repeat (first
    | (refine plan_read (v := ?_) rfl (fun c a w h => hQ c _ _ a w h) rfl hS ?_ ?_; rotate_left 1; (focus (intro w' hS'; go_simp; try rfl)); (simp only [Act.put, List.setIfInBounds_toArray]; dsimp only [List.set_cons_zero, List.set_cons_succ]))
    | (refine plan_skip rfl (fun c a w h => hQ c _ _ a w h) rfl hS ?_; (simp only [Act.put, List.setIfInBounds_toArray]; dsimp only [List.set_cons_zero, List.set_cons_succ])))
  refine plan_do (by rfl) (by rfl) (fun K hK => ?_)
  go_simp
  refine (F4.out _).mono ?_
  rintro e w8 ⟨rfl, hb8⟩
  have hs8 : Blk w8 Wb 123 (wds (wg b n)).toArray := hS.below hb8 hS.lt
  have hF8 : Fr (fun k => Wb ≤ k) w w8 := hF7.trans (Fr.of_below hb8 (fun k => Wb ≤ k)) (fun _ _ h => h)
  refine hK.out _ _ (fun _ => hs8) (fun hS => ?_); clear hK K; replace hS := hS rfl; try (simp only [Act.put, List.setIfInBounds_toArray]; dsimp only [List.set_cons_zero, List.set_cons_succ])
  repeat (first
    | (refine plan_read (v := ?_) rfl (fun c a w h => hQ c _ _ a w h) rfl hS ?_ ?_; rotate_left 1; (focus (intro w' hS'; go_simp; try rfl)); (simp only [Act.put, List.setIfInBounds_toArray]; dsimp only [List.set_cons_zero, List.set_cons_succ]))
    | (refine plan_skip rfl (fun c a w h => hQ c _ _ a w h) rfl hS ?_; (simp only [Act.put, List.setIfInBounds_toArray]; dsimp only [List.set_cons_zero, List.set_cons_succ])))
  have hfz := HFZ.out _ hs8
  obtain ⟨u, hcu⟩ := HCU.out _ hs8
  have hB9 := hs8.set_ n (.int .u32 (v3 : Nat))
  rw [wds_set, HV.out, wg_next, ← HV.out] at hB9
  have hF9 := hF8.trans (Fr.setCell (F := (fun k => Wb ≤ k)) w8 ⟨Wb, n, none⟩ (.int .u32 (v3 : Nat)) (Nat.le_refl _)) (fun _ _ h => h)
  have HB9 := Lib.hid hB9; have HF9 := Lib.hid hF9; clear hB9 hF9
  refine plan_do (by rfl) (by rfl) (fun K hK => ?_)
  go_simp
  refine hK.out _ _ (fun h => by cases h) (fun _ => ?_); clear hK K; try (simp only [Act.put, List.setIfInBounds_toArray]; dsimp only [List.set_cons_zero, List.set_cons_succ])
  refine plan_nil ?_
  exact HKK.out _ _ _ _ _ _ _ _ _ _ _ _ _ _ _ _ _ _ _ _ _ _ _ _ _ _ _ _ _ _ _ _ _ HB9.out HF9.out

end Go.Proofs.YtldgnckchlbadaaDoor
