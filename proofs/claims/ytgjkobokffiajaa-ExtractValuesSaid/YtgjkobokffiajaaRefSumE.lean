/- The reference hash: a block's words added; the digest's bytes. -/
import Derived.Test.YtgjkobokffiajaaRefSumC
namespace Go.Proofs.Ytgjkobokffiajaa
open Go.RowKit
set_option maxRecDepth 100000
set_option maxHeartbeats 4000000
theorem refsum_b8 {c0 c1 c2 c4 c5 c6 c7 c8 c9 c10 c11 c12 c14 c15 c16 c17 c18 c19 c20 c22 c23 c24 c25 c26 c27 c28 c29 c30 c31 c32 c33 c34 c35 c36 c37 c38 c39 c40 c41 c42 c43 c44 c45 c46 c47 c48 c49 c50 c51 c52 c53 c54 c55 c56 c57 c58 c59 c60 c61 c62 c63 c64 c65 c66 c67 c68 c69 c70 c71 c72 c73 c74 c75 c76 c77 c78 c79 c80 c81 c82 c83 c84 c85 c86 c87 c88 c89 c90 c91 c92 c93 c94 c95 c96 c97 c98 c99 c100 c101 c102 c103 c104 c105 c106 c107 c108 c109 c110 c111 c112 c113 c114 c115 c116 c117 c118 c119 c120 c121 c122 c123 c124 c125 c126 c127 c128 c129 c130 c131 c132 c133 c134 c135 c136 c137 c138 c139 c140 c141 c142 c143 c144 c145 c146 c147 c148 c149 c150 c151 c152 c153 c154 c155 c156 c157 c158 c159 c160 c161 c162 c163 c164 c165 c166 c167 c168 c169 c170 c171 c172 c173 c174 c175 c176 c177 c178 c179 c180 c181 c182 c183 c184 c185 c186 c187 c188 c189 c190 c191 c192 c193 c194 c195 c196 c197 c198 c199 c200 c201 c202 c203 c204 c205 c206 c207 c208 c209 c210 c211 c212 c213 c214 c215 c216 c217 c218 c219 c220 c221 c222 c223 c224 c225 c226 c227 c228 c229 c230 c231 c232 c233 c234 c235 c236 c237 c238 c239 c240 c241 c242 c243 c244 c245 c246 c247 c248 c249 c250 c251 c252 c253 c254 c255 c256 c257 c258 c259 c260 c261 c262 c263 c264 c265 c266 c267 c268 c269 c270 c271 c272 c273 c274 c275 c276 c277 c278 c279 c280 c281 c282 c283 : Value} {Q : Exit → Act → World → Prop} (wo : World) (gs : Nat) (s t : St) (v0 : Value) {B : Nat} (hv : Eight B wo v0 t) (hne : gs < B)
    (hs : wo.heap[gs]? = some (.cells (wa s.l) 99))
    (h : ∀ (u222 u223 u224 u225 u226 u227 u228 u229 u230 u231 u232 u233 u234 u235 u236 u237 : Value) (w' : World), Same (· ≠ gs) wo w' ∧ w'.heap[gs]? = some (.cells (wa (s.add t).l) 99) → Q .normal (⟨#[c0, c1, c2, (.slice (some ⟨gs, 0, none⟩) 8 8), c4, c5, c6, c7, c8, c9, c10, c11, c12, v0, c14, c15, c16, c17, c18, c19, c20, (.int .i64 8), c22, c23, c24, c25, c26, c27, c28, c29, c30, c31, c32, c33, c34, c35, c36, c37, c38, c39, c40, c41, c42, c43, c44, c45, c46, c47, c48, c49, c50, c51, c52, c53, c54, c55, c56, c57, c58, c59, c60, c61, c62, c63, c64, c65, c66, c67, c68, c69, c70, c71, c72, c73, c74, c75, c76, c77, c78, c79, c80, c81, c82, c83, c84, c85, c86, c87, c88, c89, c90, c91, c92, c93, c94, c95, c96, c97, c98, c99, c100, c101, c102, c103, c104, c105, c106, c107, c108, c109, c110, c111, c112, c113, c114, c115, c116, c117, c118, c119, c120, c121, c122, c123, c124, c125, c126, c127, c128, c129, c130, c131, c132, c133, c134, c135, c136, c137, c138, c139, c140, c141, c142, c143, c144, c145, c146, c147, c148, c149, c150, c151, c152, c153, c154, c155, c156, c157, c158, c159, c160, c161, c162, c163, c164, c165, c166, c167, c168, c169, c170, c171, c172, c173, c174, c175, c176, c177, c178, c179, c180, c181, c182, c183, c184, c185, c186, c187, c188, c189, c190, c191, c192, c193, c194, c195, c196, c197, c198, c199, c200, c201, c202, c203, c204, c205, c206, c207, c208, c209, c210, c211, c212, c213, c214, c215, c216, c217, c218, c219, c220, c221, u222, u223, u224, u225, u226, u227, u228, u229, u230, u231, u232, u233, u234, u235, u236, u237, c238, c239, c240, c241, c242, c243, c244, c245, c246, c247, c248, c249, c250, c251, c252, c253, c254, c255, c256, c257, c258, c259, c260, c261, c262, c263, c264, c265, c266, c267, c268, c269, c270, c271, c272, c273, c274, c275, c276, c277, c278, c279, c280, c281, c282, c283], []⟩ : Act) w') :
    Code.wp Try.prog (pieceOf Try.f40 8) Q (⟨#[c0, c1, c2, (.slice (some ⟨gs, 0, none⟩) 8 8), c4, c5, c6, c7, c8, c9, c10, c11, c12, v0, c14, c15, c16, c17, c18, c19, c20, (.int .i64 0), c22, c23, c24, c25, c26, c27, c28, c29, c30, c31, c32, c33, c34, c35, c36, c37, c38, c39, c40, c41, c42, c43, c44, c45, c46, c47, c48, c49, c50, c51, c52, c53, c54, c55, c56, c57, c58, c59, c60, c61, c62, c63, c64, c65, c66, c67, c68, c69, c70, c71, c72, c73, c74, c75, c76, c77, c78, c79, c80, c81, c82, c83, c84, c85, c86, c87, c88, c89, c90, c91, c92, c93, c94, c95, c96, c97, c98, c99, c100, c101, c102, c103, c104, c105, c106, c107, c108, c109, c110, c111, c112, c113, c114, c115, c116, c117, c118, c119, c120, c121, c122, c123, c124, c125, c126, c127, c128, c129, c130, c131, c132, c133, c134, c135, c136, c137, c138, c139, c140, c141, c142, c143, c144, c145, c146, c147, c148, c149, c150, c151, c152, c153, c154, c155, c156, c157, c158, c159, c160, c161, c162, c163, c164, c165, c166, c167, c168, c169, c170, c171, c172, c173, c174, c175, c176, c177, c178, c179, c180, c181, c182, c183, c184, c185, c186, c187, c188, c189, c190, c191, c192, c193, c194, c195, c196, c197, c198, c199, c200, c201, c202, c203, c204, c205, c206, c207, c208, c209, c210, c211, c212, c213, c214, c215, c216, c217, c218, c219, c220, c221, c222, c223, c224, c225, c226, c227, c228, c229, c230, c231, c232, c233, c234, c235, c236, c237, c238, c239, c240, c241, c242, c243, c244, c245, c246, c247, c248, c249, c250, c251, c252, c253, c254, c255, c256, c257, c258, c259, c260, c261, c262, c263, c264, c265, c266, c267, c268, c269, c270, c271, c272, c273, c274, c275, c276, c277, c278, c279, c280, c281, c282, c283], []⟩ : Act) wo := by
  conv => arg 2; whnf
  obtain ⟨g, c, rfl, hc8, hBg, hgl, hcell⟩ := hv
  have hgs : g ≠ gs := by omega
  go_wp2_with fail
  go_loopw [21] (fun i wr => ∃ j : Nat, j ≤ 8 ∧ i = .int .i64 (j : Int) ∧ Same (· ≠ gs) wo wr ∧ wr.heap[gs]? = some (.cells (wa (addTo s.l t.l j)) 99)) (fun i _ => 8 - (intOf i).toNat)
  case atStart => exact ⟨0, by omega, rfl, Same.refl _ _, hs⟩
  case round =>
    obtain ⟨j, hj, rfl, hsj, hbj⟩ := hrel
    by_cases hj8 : j < 8
    · have htt : decide ((j : Int) < 8) = true := by simp; omega
      have hji : (j : Int) < 8 := by omega
      have hal := addTo_length s t j hj
      obtain ⟨x, hx⟩ : ∃ x, x = (addTo s.l t.l j).getD j 0 := ⟨_, rfl⟩
      obtain ⟨y, hy⟩ : ∃ y, y = t.l.getD j 0 := ⟨_, rfl⟩
      have cj : wr.cell? ⟨gs, j, none⟩ = some (uv x) := by
        rw [cell_at _ _ _ _ _ _ hbj, wa_get _ _ (by omega), hx, List.getD_eq_getElem?_getD, List.getElem?_eq_getElem (by omega)]; rfl
      have tj : wr.cell? ⟨g, j, none⟩ = some (uv y) := by
        rw [hsj.cell (hcell j (by rw [St.l_length]; exact hj8)) hgs, hy, List.getD_eq_getElem?_getD, List.getElem?_eq_getElem (by rw [St.l_length]; exact hj8)]; rfl
      have hadd := addTo_succ s t j hj8
      rw [← hx, ← hy] at hadd
      have HA := Lib.hid hadd
      have HL := Lib.hid hal
      clear hadd hal hx hy hcell
      go_wp2_with fail
      refine region_tail 12 (by kernel_rfl) (by kernel_rfl) (fun W hWh hWc hWs => ?_)
      simp only [List.take_succ_cons, List.take_zero, List.drop_succ_cons, List.drop_zero]
      repeat still_step
      refine wpStill_nil ?_
      go_wp2_with (refine wpList_plain rfl fun _ hK => wp_store_one 99 _ _ rfl gs j rfl (uv (x + y)) (congrArg (Value.int .u32) (by first | exact u32_add _ _ | exact u32_add' _ _)) rfl _ _ (by rw [hWh]; exact hbj) info_w (by rw [wa_size, HL.out]; omega) fun w7 hb7 hs7 => hK _ _ ?_)
      go_roundw
      case rel =>
        refine ⟨j + 1, by omega, by go_num, (hsj.trans (hWs.mono fun _ _ _ => trivial)).trans hs7, ?_⟩
        rw [hb7, wa_set _ _ _ (by rw [HL.out]; exact hj8), HA.out]
      case measure => simp [intOf]; omega
    · obtain rfl : j = 8 := by omega
      go_wp2_with fail
      refine ⟨hsj, ?_⟩
      rw [hbj]
      rfl
theorem refout_len (s : St) (k : Nat) : (outs s (4 * k) ++ List.replicate (32 - 4 * k) 0).length = 4 * k + (32 - 4 * k) := by rw [List.length_append, outs_length, List.length_replicate]
theorem outs_four (s : St) (k : Nat) (h : 4 * k + 4 ≤ 32) : ((((outs s (4 * k) ++ List.replicate (32 - 4 * k) 0).set (4 * k) (outByte s (4 * k))).set (4 * k + 1) (outByte s (4 * k + 1))).set (4 * k + 2) (outByte s (4 * k + 2))).set (4 * k + 3) (outByte s (4 * k + 3)) =
    outs s (4 * (k + 1)) ++ List.replicate (32 - 4 * (k + 1)) 0 := by
  have e : 32 - 4 * k = (32 - 4 * (k + 1)) + 1 + 1 + 1 + 1 := by omega
  have o : outs s (4 * (k + 1)) = outs s (4 * k) ++ [outByte s (4 * k), outByte s (4 * k + 1), outByte s (4 * k + 2), outByte s (4 * k + 3)] := by
    rw [show 4 * (k + 1) = 4 * k + 1 + 1 + 1 + 1 by omega, outs_succ, outs_succ, outs_succ, outs_succ]
    simp
  rw [e, o]
  simp only [List.replicate_succ]
  have hl := outs_length s (4 * k)
  generalize outs s (4 * k) = l at *
  generalize 4 * k = n at *
  subst hl
  simp [List.set_append]
theorem refsum_b10 {c0 c1 c2 c4 c5 c6 c7 c8 c9 c10 c11 c12 c13 c14 c15 c16 c17 c18 c19 c20 c21 c24 c25 c26 c27 c28 c29 c30 c31 c32 c33 c34 c35 c36 c37 c38 c39 c40 c41 c42 c43 c44 c45 c46 c47 c48 c49 c50 c51 c52 c53 c54 c55 c56 c57 c58 c59 c60 c61 c62 c63 c64 c65 c66 c67 c68 c69 c70 c71 c72 c73 c74 c75 c76 c77 c78 c79 c80 c81 c82 c83 c84 c85 c86 c87 c88 c89 c90 c91 c92 c93 c94 c95 c96 c97 c98 c99 c100 c101 c102 c103 c104 c105 c106 c107 c108 c109 c110 c111 c112 c113 c114 c115 c116 c117 c118 c119 c120 c121 c122 c123 c124 c125 c126 c127 c128 c129 c130 c131 c132 c133 c134 c135 c136 c137 c138 c139 c140 c141 c142 c143 c144 c145 c146 c147 c148 c149 c150 c151 c152 c153 c154 c155 c156 c157 c158 c159 c160 c161 c162 c163 c164 c165 c166 c167 c168 c169 c170 c171 c172 c173 c174 c175 c176 c177 c178 c179 c180 c181 c182 c183 c184 c185 c186 c187 c188 c189 c190 c191 c192 c193 c194 c195 c196 c197 c198 c199 c200 c201 c202 c203 c204 c205 c206 c207 c208 c209 c210 c211 c212 c213 c214 c215 c216 c217 c218 c219 c220 c221 c222 c223 c224 c225 c226 c227 c228 c229 c230 c231 c232 c233 c234 c235 c236 c237 c238 c239 c240 c241 c242 c243 c244 c245 c246 c247 c248 c249 c250 c251 c252 c253 c254 c255 c256 c257 c258 c259 c260 c261 c262 c263 c264 c265 c266 c267 c268 c269 c270 c271 c272 c273 c274 c275 c276 c277 c278 c279 c280 c281 c282 c283 : Value} {Q : Exit → Act → World → Prop} (wo wb : World) (gs : Nat) (s : St) (hw : Same (fun _ => True) wo wb)
    (hs : wo.heap[gs]? = some (.cells (wa s.l) 99)) (ho : wb.heap[wo.heap.size]? = some (.cells (da zeroDig) 32))
    (h : ∀ (u238 u239 u240 u241 u242 u243 u244 u245 u246 u247 u248 u249 u250 u251 u252 u253 u254 u255 u256 u257 u258 u259 u260 u261 u262 u263 u264 u265 u266 u267 u268 u269 u270 u271 u272 u273 u274 u275 u276 u277 u278 u279 u280 u281 u282 : Value) (w' : World), Same (fun _ => True) wo w' ∧ w'.heap[wo.heap.size]? = some (.cells (bv (outs s 32)).toArray 32) → Q .normal (⟨#[c0, c1, c2, (.slice (some ⟨gs, 0, none⟩) 8 8), c4, c5, c6, c7, c8, c9, c10, c11, c12, c13, c14, c15, c16, c17, c18, c19, c20, c21, (.pointer (some ⟨wo.heap.size, 0, none⟩)), (.int .i64 8), c24, c25, c26, c27, c28, c29, c30, c31, c32, c33, c34, c35, c36, c37, c38, c39, c40, c41, c42, c43, c44, c45, c46, c47, c48, c49, c50, c51, c52, c53, c54, c55, c56, c57, c58, c59, c60, c61, c62, c63, c64, c65, c66, c67, c68, c69, c70, c71, c72, c73, c74, c75, c76, c77, c78, c79, c80, c81, c82, c83, c84, c85, c86, c87, c88, c89, c90, c91, c92, c93, c94, c95, c96, c97, c98, c99, c100, c101, c102, c103, c104, c105, c106, c107, c108, c109, c110, c111, c112, c113, c114, c115, c116, c117, c118, c119, c120, c121, c122, c123, c124, c125, c126, c127, c128, c129, c130, c131, c132, c133, c134, c135, c136, c137, c138, c139, c140, c141, c142, c143, c144, c145, c146, c147, c148, c149, c150, c151, c152, c153, c154, c155, c156, c157, c158, c159, c160, c161, c162, c163, c164, c165, c166, c167, c168, c169, c170, c171, c172, c173, c174, c175, c176, c177, c178, c179, c180, c181, c182, c183, c184, c185, c186, c187, c188, c189, c190, c191, c192, c193, c194, c195, c196, c197, c198, c199, c200, c201, c202, c203, c204, c205, c206, c207, c208, c209, c210, c211, c212, c213, c214, c215, c216, c217, c218, c219, c220, c221, c222, c223, c224, c225, c226, c227, c228, c229, c230, c231, c232, c233, c234, c235, c236, c237, u238, u239, u240, u241, u242, u243, u244, u245, u246, u247, u248, u249, u250, u251, u252, u253, u254, u255, u256, u257, u258, u259, u260, u261, u262, u263, u264, u265, u266, u267, u268, u269, u270, u271, u272, u273, u274, u275, u276, u277, u278, u279, u280, u281, u282, c283], []⟩ : Act) w') :
    Code.wp Try.prog (pieceOf Try.f40 10) Q (⟨#[c0, c1, c2, (.slice (some ⟨gs, 0, none⟩) 8 8), c4, c5, c6, c7, c8, c9, c10, c11, c12, c13, c14, c15, c16, c17, c18, c19, c20, c21, (.pointer (some ⟨wo.heap.size, 0, none⟩)), (.int .i64 0), c24, c25, c26, c27, c28, c29, c30, c31, c32, c33, c34, c35, c36, c37, c38, c39, c40, c41, c42, c43, c44, c45, c46, c47, c48, c49, c50, c51, c52, c53, c54, c55, c56, c57, c58, c59, c60, c61, c62, c63, c64, c65, c66, c67, c68, c69, c70, c71, c72, c73, c74, c75, c76, c77, c78, c79, c80, c81, c82, c83, c84, c85, c86, c87, c88, c89, c90, c91, c92, c93, c94, c95, c96, c97, c98, c99, c100, c101, c102, c103, c104, c105, c106, c107, c108, c109, c110, c111, c112, c113, c114, c115, c116, c117, c118, c119, c120, c121, c122, c123, c124, c125, c126, c127, c128, c129, c130, c131, c132, c133, c134, c135, c136, c137, c138, c139, c140, c141, c142, c143, c144, c145, c146, c147, c148, c149, c150, c151, c152, c153, c154, c155, c156, c157, c158, c159, c160, c161, c162, c163, c164, c165, c166, c167, c168, c169, c170, c171, c172, c173, c174, c175, c176, c177, c178, c179, c180, c181, c182, c183, c184, c185, c186, c187, c188, c189, c190, c191, c192, c193, c194, c195, c196, c197, c198, c199, c200, c201, c202, c203, c204, c205, c206, c207, c208, c209, c210, c211, c212, c213, c214, c215, c216, c217, c218, c219, c220, c221, c222, c223, c224, c225, c226, c227, c228, c229, c230, c231, c232, c233, c234, c235, c236, c237, c238, c239, c240, c241, c242, c243, c244, c245, c246, c247, c248, c249, c250, c251, c252, c253, c254, c255, c256, c257, c258, c259, c260, c261, c262, c263, c264, c265, c266, c267, c268, c269, c270, c271, c272, c273, c274, c275, c276, c277, c278, c279, c280, c281, c282, c283], []⟩ : Act) wb := by
  conv => arg 2; whnf
  go_wp2_with fail
  go_loopw [23] (fun i wr => ∃ k : Nat, k ≤ 8 ∧ i = .int .i64 (k : Int) ∧ Same (fun _ => True) wo wr ∧ wr.heap[wo.heap.size]? = some (.cells (bv (outs s (4 * k) ++ List.replicate (32 - 4 * k) 0)).toArray 32)) (fun i _ => 8 - (intOf i).toNat)
  case atStart => exact ⟨0, by omega, rfl, hw, ho⟩
  case round =>
    obtain ⟨k, hk, rfl, hsr, hb⟩ := hrel
    by_cases hk8 : k < 8
    · have htt : decide ((k : Int) < 8) = true := by simp; omega
      have hki : (k : Int) < 8 := by omega
      obtain ⟨x, hx⟩ : ∃ x, x = s.l.getD k 0 := ⟨_, rfl⟩
      have cx : ∀ W : World, Same (fun _ => True) wo W → W.cell? ⟨gs, k, none⟩ = some (uv x) := fun W hW => by
        rw [cell_at _ _ _ _ _ _ (hW.heap hs trivial), wa_get _ _ (by rw [St.l_length]; exact hk8), hx, List.getD_eq_getElem?_getD, List.getElem?_eq_getElem (by rw [St.l_length]; exact hk8)]; rfl
      have c0 := cx wr hsr
      have HX := Lib.hid hx
      clear hx
      have hsz : ∀ r, r < 4 → ∀ l : List UInt8, l.length = 32 → 4 * k + r < (bv l).toArray.size := fun r hr l hl => by simp [bv_length, hl]; omega
      have y0 : (x.toNat : Int) / 16777216 % 256 = ((outByte s (4 * k)).toNat : Int) := (by have h := outByte_eq s (4 * k) x (by rw [HX.out]; congr 1; omega); rw [show 24 - 8 * ((4 * k) % 4) = 24 by omega] at h; exact h)
      have y1 : (x.toNat : Int) / 65536 % 256 = ((outByte s (4 * k + 1)).toNat : Int) := (by have h := outByte_eq s (4 * k + 1) x (by rw [HX.out]; congr 1; omega); rw [show 24 - 8 * ((4 * k + 1) % 4) = 16 by omega] at h; exact h)
      have y2 : (x.toNat : Int) / 256 % 256 = ((outByte s (4 * k + 2)).toNat : Int) := (by have h := outByte_eq s (4 * k + 2) x (by rw [HX.out]; congr 1; omega); rw [show 24 - 8 * ((4 * k + 2) % 4) = 8 by omega] at h; exact h)
      have y3 : (x.toNat : Int) % 256 = ((outByte s (4 * k + 3)).toNat : Int) := (by have h := outByte_eq s (4 * k + 3) x (by rw [HX.out]; congr 1; omega); rw [show 24 - 8 * ((4 * k + 3) % 4) = 0 by omega] at h; simpa using h)
      have hx32 : (x.toNat : Int) < 4294967296 := by have := x.toNat_lt; omega
      have z1 : (4 * (k : Int) + 1).toNat = 4 * k + 1 := by omega
      have z2 : (4 * (k : Int) + 2).toNat = 4 * k + 2 := by omega
      have z3 : (4 * (k : Int) + 3).toNat = 4 * k + 3 := by omega
      have hl0 : (outs s (4 * k) ++ List.replicate (32 - 4 * k) 0).length = 32 := by rw [refout_len]; omega
      obtain ⟨l0, hl0e⟩ : ∃ l0, l0 = outs s (4 * k) ++ List.replicate (32 - 4 * k) (0 : UInt8) := ⟨_, rfl⟩
      rw [← hl0e] at hb hl0
      have HL0 := Lib.hid hl0e
      clear hl0e
      obtain ⟨o0, ho0⟩ : ∃ o, o = outByte s (4 * k) := ⟨_, rfl⟩
      obtain ⟨o1, ho1⟩ : ∃ o, o = outByte s (4 * k + 1) := ⟨_, rfl⟩
      obtain ⟨o2, ho2⟩ : ∃ o, o = outByte s (4 * k + 2) := ⟨_, rfl⟩
      obtain ⟨o3, ho3⟩ : ∃ o, o = outByte s (4 * k + 3) := ⟨_, rfl⟩
      rw [← ho0] at y0
      rw [← ho1] at y1
      rw [← ho2] at y2
      rw [← ho3] at y3
      have HO := Lib.hid (And.intro ho0 (And.intro ho1 (And.intro ho2 ho3)))
      clear ho0 ho1 ho2 ho3
      go_wp2_with (first
        | (refine wpList_plain rfl fun _ hK => wp_store_one 5 (.tmp 250) (.tmp 249) rfl wo.heap.size (4 * k) rfl (.int .u8 (o0.toNat : Int)) (by first | exact congrArg (Value.int .u8) (by omega) | fail) rfl _ _ hb info_u81 (hsz 0 (by decide) _ hl0) fun w1 hb1 hs1 => hK _ _ ?_
           rw [ba_set _ _ _ (by rw [hl0]; omega)] at hb1
           have hg1 := (hsr).past hs1 (Nat.le_refl _)
           have d1 := cx w1 hg1)
        | (refine wpList_plain rfl fun _ hK => wp_store_one 5 (.tmp 261) (.tmp 260) rfl wo.heap.size (4 * k + 1) rfl (.int .u8 (o1.toNat : Int)) (by first | exact congrArg (Value.int .u8) (by omega) | fail) rfl _ _ hb1 info_u81 (hsz 1 (by decide) _ (List.length_set.trans hl0)) fun w2 hb2 hs2 => hK _ _ ?_
           rw [ba_set _ _ _ (by rw [(List.length_set.trans hl0)]; omega)] at hb2
           have hg2 := (hg1).past hs2 (Nat.le_refl _)
           have d2 := cx w2 hg2)
        | (refine wpList_plain rfl fun _ hK => wp_store_one 5 (.tmp 272) (.tmp 271) rfl wo.heap.size (4 * k + 2) rfl (.int .u8 (o2.toNat : Int)) (by first | exact congrArg (Value.int .u8) (by omega) | fail) rfl _ _ hb2 info_u81 (hsz 2 (by decide) _ (List.length_set.trans (List.length_set.trans hl0))) fun w3 hb3 hs3 => hK _ _ ?_
           rw [ba_set _ _ _ (by rw [(List.length_set.trans (List.length_set.trans hl0))]; omega)] at hb3
           have hg3 := (hg2).past hs3 (Nat.le_refl _)
           have d3 := cx w3 hg3)
        | (refine wpList_plain rfl fun _ hK => wp_store_one 5 (.tmp 282) (.tmp 281) rfl wo.heap.size (4 * k + 3) rfl (.int .u8 (o3.toNat : Int)) (by first | exact congrArg (Value.int .u8) (by omega) | fail) rfl _ _ hb3 info_u81 (hsz 3 (by decide) _ (List.length_set.trans (List.length_set.trans (List.length_set.trans hl0)))) fun w4 hb4 hs4 => hK _ _ ?_
           rw [ba_set _ _ _ (by rw [(List.length_set.trans (List.length_set.trans (List.length_set.trans hl0)))]; omega)] at hb4
           have hg4 := (hg3).past hs4 (Nat.le_refl _)
           have d4 := cx w4 hg4))
      go_roundw
      case rel =>
        refine ⟨k + 1, by omega, by go_num, hg4, ?_⟩
        rw [hb4, HL0.out, HO.out.1, HO.out.2.1, HO.out.2.2.1, HO.out.2.2.2]
        rw [outs_four s k (by omega)]
      case measure => simp [intOf]; omega
    · obtain rfl : k = 8 := by omega
      go_wp2_with fail
      refine ⟨hsr, ?_⟩
      rw [hb]
      simp
end Go.Proofs.Ytgjkobokffiajaa
