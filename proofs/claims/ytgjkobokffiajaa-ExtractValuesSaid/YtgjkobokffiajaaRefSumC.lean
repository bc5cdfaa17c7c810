/- The reference hash: the rounds of a block. -/
import Derived.Test.YtgjkobokffiajaaRefSumB
namespace Go.Proofs.Ytgjkobokffiajaa
open Go.RowKit
set_option maxRecDepth 100000
set_option maxHeartbeats 4000000
/-- The eight words that a slice shows. -/
def Eight (B : Nat) (w : World) (v : Value) (s : St) : Prop := ∃ g c, v = .slice (some ⟨g, 0, none⟩) 8 c ∧ (8 : Int) ≤ (c : Int) ∧ B ≤ g ∧ g < w.heap.size ∧ ∀ j (h : j < s.l.length), w.cell? ⟨g, j, none⟩ = some (uv s.l[j])
theorem eight_new (W : World) (cs : Array Value) (t : TypeId) (s : St) (h : cs = wa s.l) {B : Nat} (hB : B ≤ W.heap.size) : Eight B (W.alloc (.cells cs t)) (.slice (some ⟨W.heap.size, 0, none⟩) 8 8) s := by
  subst h
  exact ⟨_, 8, rfl, by decide, hB, by simp, fun j hj => (cell_at _ _ _ _ _ _ (hp_new rfl)).trans (wa_get _ _ hj)⟩
theorem ch_eq (e f g : UInt32) : (e &&& f) ^^^ (~~~ e &&& g) = (e &&& f ||| ~~~ e &&& g) := by
  apply UInt32.toBitVec_inj.1
  ext i hi
  simp
  cases e.toBitVec[i] <;> simp
theorem maj_eq (a b c : UInt32) : (a &&& b) ^^^ (a &&& c) ^^^ (b &&& c) = (a &&& b ||| a &&& c ||| b &&& c) := by
  apply UInt32.toBitVec_inj.1
  ext i hi
  simp
  cases a.toBitVec[i] <;> cases b.toBitVec[i] <;> cases c.toBitVec[i] <;> simp
theorem refstep_eq (a b c d e f g h kk ww : UInt32) :
    #[Value.int .u32 (((h.toNat : Int) + bits .xor .u32 (bits .xor .u32 ((rotr e (rightK 64)).toNat : Int) ((rotr e (rightK 2048)).toNat : Int)) ((rotr e (rightK 33554432)).toNat : Int) + bits .xor .u32 (bits .and .u32 (e.toNat : Int) (f.toNat : Int)) (bits .and .u32 ((4294967295 - (e.toNat : Int)) % 4294967296) (g.toNat : Int)) + (kk.toNat : Int) + (ww.toNat : Int) + (bits .xor .u32 (bits .xor .u32 ((rotr a (rightK 4)).toNat : Int) ((rotr a (rightK 8192)).toNat : Int)) ((rotr a (rightK 4194304)).toNat : Int) + bits .xor .u32 (bits .xor .u32 (bits .and .u32 (a.toNat : Int) (b.toNat : Int)) (bits .and .u32 (a.toNat : Int) (c.toNat : Int))) (bits .and .u32 (b.toNat : Int) (c.toNat : Int)))) % 4294967296), uv a, uv b, uv c, Value.int .u32 (((d.toNat : Int) + ((h.toNat : Int) + bits .xor .u32 (bits .xor .u32 ((rotr e (rightK 64)).toNat : Int) ((rotr e (rightK 2048)).toNat : Int)) ((rotr e (rightK 33554432)).toNat : Int) + bits .xor .u32 (bits .and .u32 (e.toNat : Int) (f.toNat : Int)) (bits .and .u32 ((4294967295 - (e.toNat : Int)) % 4294967296) (g.toNat : Int)) + (kk.toNat : Int) + (ww.toNat : Int))) % 4294967296), uv e, uv f, uv g] = wa ((St.mk a b c d e f g h).step kk ww).l := by
  have hn : (4294967295 - (e.toNat : Int)) % 4294967296 = ((~~~ e).toNat : Int) := by
    have h1 := e.toNat_lt
    rw [UInt32.toNat_not]
    simp only [UInt32.size]
    omega
  rw [hn, show rightK 64 = 6 from rfl, show rightK 2048 = 11 from rfl, show rightK 33554432 = 25 from rfl, show rightK 4 = 2 from rfl, show rightK 8192 = 13 from rfl, show rightK 4194304 = 22 from rfl]
  simp only [bits_u32_and, bits_u32_xor, ch_eq, maj_eq]
  have h1 : ((h.toNat : Int) + ((rotr e 6 ^^^ rotr e 11 ^^^ rotr e 25).toNat : Int) + ((e &&& f ||| ~~~ e &&& g).toNat : Int) + (kk.toNat : Int) + (ww.toNat : Int) + (((rotr a 2 ^^^ rotr a 13 ^^^ rotr a 22).toNat : Int) + ((a &&& b ||| a &&& c ||| b &&& c).toNat : Int))) % 4294967296 =
      ((pOf ⟨a, b, c, d, e, f, g, h⟩ kk ww + qOf ⟨a, b, c, d, e, f, g, h⟩).toNat : Int) := by
    unfold pOf qOf
    simp only [UInt32.toNat_add]
    omega
  have h2 : ((d.toNat : Int) + ((h.toNat : Int) + ((rotr e 6 ^^^ rotr e 11 ^^^ rotr e 25).toNat : Int) + ((e &&& f ||| ~~~ e &&& g).toNat : Int) + (kk.toNat : Int) + (ww.toNat : Int))) % 4294967296 =
      ((d + pOf ⟨a, b, c, d, e, f, g, h⟩ kk ww).toNat : Int) := by
    unfold pOf
    simp only [UInt32.toNat_add]
    omega
  rw [h1, h2]
  rfl
theorem refsum_b6 {c0 c1 c2 c3 c5 c6 c8 c9 c10 c11 c12 c15 c16 c17 c18 c19 c20 c21 c22 c23 c24 c25 c26 c27 c28 c29 c30 c31 c32 c33 c34 c35 c36 c37 c38 c39 c40 c41 c42 c43 c44 c45 c46 c47 c48 c49 c50 c51 c52 c53 c54 c55 c56 c57 c58 c59 c60 c61 c62 c63 c64 c65 c66 c67 c68 c69 c70 c71 c72 c73 c74 c75 c76 c77 c78 c79 c80 c81 c82 c83 c84 c85 c86 c87 c88 c89 c90 c91 c92 c93 c94 c95 c96 c97 c98 c99 c100 c101 c102 c103 c104 c105 c106 c107 c108 c109 c110 c111 c112 c113 c114 c115 c116 c117 c118 c119 c120 c121 c122 c123 c124 c125 c126 c127 c128 c129 c130 c131 c132 c133 c134 c135 c136 c137 c138 c139 c140 c141 c142 c143 c144 c145 c146 c147 c148 c149 c150 c151 c152 c153 c154 c155 c156 c157 c158 c159 c160 c161 c162 c163 c164 c165 c166 c167 c168 c169 c170 c171 c172 c173 c174 c175 c176 c177 c178 c179 c180 c181 c182 c183 c184 c185 c186 c187 c188 c189 c190 c191 c192 c193 c194 c195 c196 c197 c198 c199 c200 c201 c202 c203 c204 c205 c206 c207 c208 c209 c210 c211 c212 c213 c214 c215 c216 c217 c218 c219 c220 c221 c222 c223 c224 c225 c226 c227 c228 c229 c230 c231 c232 c233 c234 c235 c236 c237 c238 c239 c240 c241 c242 c243 c244 c245 c246 c247 c248 c249 c250 c251 c252 c253 c254 c255 c256 c257 c258 c259 c260 c261 c262 c263 c264 c265 c266 c267 c268 c269 c270 c271 c272 c273 c274 c275 c276 c277 c278 c279 c280 c281 c282 c283 : Value} {Q : Exit → Act → World → Prop} (wo : World) (gk gw : Nat) (X : List UInt32) (s : St) (v0 : Value) (hX : X.length = 64) {B : Nat} (hB : B ≤ wo.heap.size) (hv0 : Eight B wo v0 s)
    (hk : wo.heap[gk]? = some (.cells (wa K256) 99)) (hx : wo.heap[gw]? = some (.cells (wa X) 99))
    (h : ∀ (u13 u15 u16 u17 u18 u19 u20 u124 u125 u126 u127 u128 u129 u130 u131 u132 u133 u134 u135 u136 u137 u138 u139 u140 u141 u142 u143 u144 u145 u146 u147 u148 u149 u150 u151 u152 u153 u154 u155 u156 u157 u158 u159 u160 u161 u162 u163 u164 u165 u166 u167 u168 u169 u170 u171 u172 u173 u174 u175 u176 u177 u178 u179 u180 u181 u182 u183 u184 u185 u186 u187 u188 u189 u190 u191 u192 u193 u194 u195 u196 u197 u198 u199 u200 u201 u202 u203 u204 u205 u206 u207 u208 u209 u210 u211 u212 u213 u214 u215 u216 u217 u218 u219 u220 u221 : Value) (w' : World), Same (fun _ => True) wo w' ∧ Eight B w' u13 (rounds s K256 X 64) → Q .normal (⟨#[c0, c1, c2, c3, (.slice (some ⟨gk, 0, none⟩) 64 64), c5, c6, (.slice (some ⟨gw, 0, none⟩) 64 64), c8, c9, c10, c11, c12, u13, (.int .i64 64), u15, u16, u17, u18, u19, u20, c21, c22, c23, c24, c25, c26, c27, c28, c29, c30, c31, c32, c33, c34, c35, c36, c37, c38, c39, c40, c41, c42, c43, c44, c45, c46, c47, c48, c49, c50, c51, c52, c53, c54, c55, c56, c57, c58, c59, c60, c61, c62, c63, c64, c65, c66, c67, c68, c69, c70, c71, c72, c73, c74, c75, c76, c77, c78, c79, c80, c81, c82, c83, c84, c85, c86, c87, c88, c89, c90, c91, c92, c93, c94, c95, c96, c97, c98, c99, c100, c101, c102, c103, c104, c105, c106, c107, c108, c109, c110, c111, c112, c113, c114, c115, c116, c117, c118, c119, c120, c121, c122, c123, u124, u125, u126, u127, u128, u129, u130, u131, u132, u133, u134, u135, u136, u137, u138, u139, u140, u141, u142, u143, u144, u145, u146, u147, u148, u149, u150, u151, u152, u153, u154, u155, u156, u157, u158, u159, u160, u161, u162, u163, u164, u165, u166, u167, u168, u169, u170, u171, u172, u173, u174, u175, u176, u177, u178, u179, u180, u181, u182, u183, u184, u185, u186, u187, u188, u189, u190, u191, u192, u193, u194, u195, u196, u197, u198, u199, u200, u201, u202, u203, u204, u205, u206, u207, u208, u209, u210, u211, u212, u213, u214, u215, u216, u217, u218, u219, u220, u221, c222, c223, c224, c225, c226, c227, c228, c229, c230, c231, c232, c233, c234, c235, c236, c237, c238, c239, c240, c241, c242, c243, c244, c245, c246, c247, c248, c249, c250, c251, c252, c253, c254, c255, c256, c257, c258, c259, c260, c261, c262, c263, c264, c265, c266, c267, c268, c269, c270, c271, c272, c273, c274, c275, c276, c277, c278, c279, c280, c281, c282, c283], []⟩ : Act) w') :
    Code.wp Try.prog (pieceOf Try.f40 6) Q (⟨#[c0, c1, c2, c3, (.slice (some ⟨gk, 0, none⟩) 64 64), c5, c6, (.slice (some ⟨gw, 0, none⟩) 64 64), c8, c9, c10, c11, c12, v0, (.int .i64 0), c15, c16, c17, c18, c19, c20, c21, c22, c23, c24, c25, c26, c27, c28, c29, c30, c31, c32, c33, c34, c35, c36, c37, c38, c39, c40, c41, c42, c43, c44, c45, c46, c47, c48, c49, c50, c51, c52, c53, c54, c55, c56, c57, c58, c59, c60, c61, c62, c63, c64, c65, c66, c67, c68, c69, c70, c71, c72, c73, c74, c75, c76, c77, c78, c79, c80, c81, c82, c83, c84, c85, c86, c87, c88, c89, c90, c91, c92, c93, c94, c95, c96, c97, c98, c99, c100, c101, c102, c103, c104, c105, c106, c107, c108, c109, c110, c111, c112, c113, c114, c115, c116, c117, c118, c119, c120, c121, c122, c123, c124, c125, c126, c127, c128, c129, c130, c131, c132, c133, c134, c135, c136, c137, c138, c139, c140, c141, c142, c143, c144, c145, c146, c147, c148, c149, c150, c151, c152, c153, c154, c155, c156, c157, c158, c159, c160, c161, c162, c163, c164, c165, c166, c167, c168, c169, c170, c171, c172, c173, c174, c175, c176, c177, c178, c179, c180, c181, c182, c183, c184, c185, c186, c187, c188, c189, c190, c191, c192, c193, c194, c195, c196, c197, c198, c199, c200, c201, c202, c203, c204, c205, c206, c207, c208, c209, c210, c211, c212, c213, c214, c215, c216, c217, c218, c219, c220, c221, c222, c223, c224, c225, c226, c227, c228, c229, c230, c231, c232, c233, c234, c235, c236, c237, c238, c239, c240, c241, c242, c243, c244, c245, c246, c247, c248, c249, c250, c251, c252, c253, c254, c255, c256, c257, c258, c259, c260, c261, c262, c263, c264, c265, c266, c267, c268, c269, c270, c271, c272, c273, c274, c275, c276, c277, c278, c279, c280, c281, c282, c283], []⟩ : Act) wo := by
  conv => arg 2; whnf
  go_wp2_with fail
  go_loopw [13, 14] (fun v t wi => ∃ k : Nat, k ≤ 64 ∧ t = .int .i64 (k : Int) ∧ Same (fun _ => True) wo wi ∧ Eight B wi v (rounds s K256 X k)) (fun _ t _ => 64 - (intOf t).toNat)
  case atStart => exact ⟨0, by omega, rfl, Same.refl _ _, hv0⟩
  case round =>
    obtain ⟨k, hk64, rfl, hsi, g, c, rfl, hc8, hBg, hgl, hcell⟩ := hrel
    by_cases hkt : k < 64
    · have htt : decide ((k : Int) < 64) = true := by simp; omega
      have hki : (k : Int) < 64 := by omega
      have cK : wr.cell? ⟨gk, k, none⟩ = some (uv (K256.getD k 0)) := by
        rw [cell_at _ _ _ _ _ _ (hsi.heap hk trivial), wa_get _ _ (by show k < 64; exact hkt), List.getD_eq_getElem?_getD, List.getElem?_eq_getElem (by show k < 64; exact hkt)]; rfl
      have cW : wr.cell? ⟨gw, k, none⟩ = some (uv (X.getD k 0)) := by
        rw [cell_at _ _ _ _ _ _ (hsi.heap hx trivial), wa_get _ _ (by omega), List.getD_eq_getElem?_getD, List.getElem?_eq_getElem (by omega)]; rfl
      obtain ⟨t, hT⟩ : ∃ t, t = rounds s K256 X k := ⟨_, rfl⟩
      rw [← hT] at hcell
      have HT := Lib.hid hT
      clear hT
      obtain ⟨a, b', c3, d, e, f, g7, h7⟩ := t
      have c0 : wr.cell? ⟨g, 0, none⟩ = some (uv a) := hcell 0 (by show 0 < 8; decide)
      have c1 : wr.cell? ⟨g, 1, none⟩ = some (uv b') := hcell 1 (by show 1 < 8; decide)
      have c2 : wr.cell? ⟨g, 2, none⟩ = some (uv c3) := hcell 2 (by show 2 < 8; decide)
      have c3' : wr.cell? ⟨g, 3, none⟩ = some (uv d) := hcell 3 (by show 3 < 8; decide)
      have c4 : wr.cell? ⟨g, 4, none⟩ = some (uv e) := hcell 4 (by show 4 < 8; decide)
      have c5 : wr.cell? ⟨g, 5, none⟩ = some (uv f) := hcell 5 (by show 5 < 8; decide)
      have c6 : wr.cell? ⟨g, 6, none⟩ = some (uv g7) := hcell 6 (by show 6 < 8; decide)
      have c7 : wr.cell? ⟨g, 7, none⟩ = some (uv h7) := hcell 7 (by show 7 < 8; decide)
      clear hcell hv0
      obtain ⟨kk, hkk⟩ : ∃ kk, kk = K256.getD k 0 := ⟨_, rfl⟩
      obtain ⟨ww, hww⟩ : ∃ ww, ww = X.getD k 0 := ⟨_, rfl⟩
      rw [← hkk] at cK
      rw [← hww] at cW
      have HKW := Lib.hid (And.intro hkk hww)
      clear hkk hww
      have e0 : ∀ x : Ext wr, x.1.cell? ⟨g, 0, none⟩ = some (uv a) := fun x => x.cell c0
      have e1 : ∀ x : Ext wr, x.1.cell? ⟨g, 1, none⟩ = some (uv b') := fun x => x.cell c1
      have e2 : ∀ x : Ext wr, x.1.cell? ⟨g, 2, none⟩ = some (uv c3) := fun x => x.cell c2
      have e3 : ∀ x : Ext wr, x.1.cell? ⟨g, 3, none⟩ = some (uv d) := fun x => x.cell c3'
      have e5 : ∀ x : Ext wr, x.1.cell? ⟨g, 5, none⟩ = some (uv f) := fun x => x.cell c5
      have e6 : ∀ x : Ext wr, x.1.cell? ⟨g, 6, none⟩ = some (uv g7) := fun x => x.cell c6
      have e7 : ∀ x : Ext wr, x.1.cell? ⟨g, 7, none⟩ = some (uv h7) := fun x => x.cell c7
      have eK : ∀ x : Ext wr, x.1.cell? ⟨gk, k, none⟩ = some (uv kk) := fun x => x.cell cK
      have eW : ∀ x : Ext wr, x.1.cell? ⟨gw, k, none⟩ = some (uv ww) := fun x => x.cell cW
      have hr0 := Same.refl (fun _ => True) wr
      go_wp2_with fail
      refine region_ext wr (by kernel_rfl) (by kernel_rfl) hr0 ?_
      repeat (quiet_step (fail))
      refine wpQuiet_nil ?_
      intro W1 hW1
      go_wp2_with fail
      refine region_ext wr (by kernel_rfl) (by kernel_rfl) hW1 ?_
      repeat (quiet_step (fail))
      refine wpQuiet_nil ?_
      intro W2 hW2
      go_wp2_with fail
      refine region_ext wr (by kernel_rfl) (by kernel_rfl) hW2 ?_
      repeat (quiet_step ((go_at_call 71; exact ext_drew _ (right_any _ _ _ (by decide) _))))
      refine wpQuiet_nil ?_
      intro W3 hW3
      go_wp2_with ((go_at_call 71; refine (right_any _ _ _ (by decide) _).mono ?_; rintro e w' ⟨rfl, nn, rfl⟩))
      refine region_ext_tail wr 22 (by kernel_rfl) (by kernel_rfl) (hW3.drewN _) ?_
      simp only [List.take_succ_cons, List.take_zero, List.drop_succ_cons, List.drop_zero]
      repeat (quiet_step (fail))
      refine wpQuiet_nil ?_
      intro W4 hW4
      go_wp2_with fail
      go_roundw
      case rel =>
        refine ⟨k + 1, by omega, by go_num, (hsi.trans hW4).alloc _, eight_new _ _ _ _ ?_ (Nat.le_trans hB (Nat.le_trans hsi.size hW4.size))⟩
        have e9 : rounds s K256 X (k + 1) = (St.mk a b' c3 d e f g7 h7).step kk ww := by rw [rounds, ← HT.out, ← HKW.out.1, ← HKW.out.2]
        rw [e9]
        exact refstep_eq a b' c3 d e f g7 h7 kk ww
      case measure => simp [intOf]; omega
    · obtain rfl : k = 64 := by omega
      go_wp2_with fail
      exact ⟨hsi, g, c, rfl, hc8, hBg, hgl, hcell⟩
end Go.Proofs.Ytgjkobokffiajaa
