/- The reference hash: the schedule's words behind the first 16. -/
import Derived.Test.YtgjkobokffiajaaRefSumA
namespace Go.Proofs.Ytgjkobokffiajaa
open Go.RowKit
set_option maxRecDepth 100000
set_option maxHeartbeats 4000000
theorem refsum_b4 {c0 c1 c2 c3 c4 c5 c6 c8 c9 c11 c12 c13 c14 c15 c16 c17 c18 c19 c20 c21 c22 c23 c24 c25 c26 c27 c28 c29 c30 c31 c32 c33 c34 c35 c36 c37 c38 c39 c40 c41 c42 c43 c44 c45 c46 c47 c48 c49 c50 c51 c52 c53 c54 c55 c56 c57 c58 c59 c60 c61 c62 c63 c64 c65 c66 c67 c68 c69 c70 c71 c72 c73 c74 c75 c76 c77 c78 c79 c80 c81 c82 c83 c84 c85 c86 c87 c88 c89 c90 c91 c92 c93 c94 c95 c96 c97 c98 c99 c100 c101 c102 c103 c104 c105 c106 c107 c108 c109 c110 c111 c112 c113 c114 c115 c116 c117 c118 c119 c120 c121 c122 c123 c124 c125 c126 c127 c128 c129 c130 c131 c132 c133 c134 c135 c136 c137 c138 c139 c140 c141 c142 c143 c144 c145 c146 c147 c148 c149 c150 c151 c152 c153 c154 c155 c156 c157 c158 c159 c160 c161 c162 c163 c164 c165 c166 c167 c168 c169 c170 c171 c172 c173 c174 c175 c176 c177 c178 c179 c180 c181 c182 c183 c184 c185 c186 c187 c188 c189 c190 c191 c192 c193 c194 c195 c196 c197 c198 c199 c200 c201 c202 c203 c204 c205 c206 c207 c208 c209 c210 c211 c212 c213 c214 c215 c216 c217 c218 c219 c220 c221 c222 c223 c224 c225 c226 c227 c228 c229 c230 c231 c232 c233 c234 c235 c236 c237 c238 c239 c240 c241 c242 c243 c244 c245 c246 c247 c248 c249 c250 c251 c252 c253 c254 c255 c256 c257 c258 c259 c260 c261 c262 c263 c264 c265 c266 c267 c268 c269 c270 c271 c272 c273 c274 c275 c276 c277 c278 c279 c280 c281 c282 c283 : Value} {Q : Exit → Act → World → Prop} (wo wb : World) (blk : List UInt8) (hw : Same (fun _ => True) wo wb)
    (hi0 : wb.heap[wo.heap.size]? = some (.cells (wa (words blk 16 ++ List.replicate 48 0)) 99))
    (h : ∀ (u10 u11 u12 u75 u76 u77 u78 u79 u80 u81 u82 u83 u84 u85 u86 u87 u88 u89 u90 u91 u92 u93 u94 u95 u96 u97 u98 u99 u100 u101 u102 u103 u104 u105 u106 u107 u108 u109 u110 u111 u112 u113 u114 u115 u116 u117 u118 u119 u120 : Value) (w' : World), Same (fun _ => True) wo w' ∧ w'.heap[wo.heap.size]? = some (.cells (wa (sched blk)) 99) → Q .normal (⟨#[c0, c1, c2, c3, c4, c5, c6, (.slice (some ⟨wo.heap.size, 0, none⟩) 64 64), c8, c9, u10, u11, u12, c13, c14, c15, c16, c17, c18, c19, c20, c21, c22, c23, c24, c25, c26, c27, c28, c29, c30, c31, c32, c33, c34, c35, c36, c37, c38, c39, c40, c41, c42, c43, c44, c45, c46, c47, c48, c49, c50, c51, c52, c53, c54, c55, c56, c57, c58, c59, c60, c61, c62, c63, c64, c65, c66, c67, c68, c69, c70, c71, c72, c73, c74, u75, u76, u77, u78, u79, u80, u81, u82, u83, u84, u85, u86, u87, u88, u89, u90, u91, u92, u93, u94, u95, u96, u97, u98, u99, u100, u101, u102, u103, u104, u105, u106, u107, u108, u109, u110, u111, u112, u113, u114, u115, u116, u117, u118, u119, u120, c121, c122, c123, c124, c125, c126, c127, c128, c129, c130, c131, c132, c133, c134, c135, c136, c137, c138, c139, c140, c141, c142, c143, c144, c145, c146, c147, c148, c149, c150, c151, c152, c153, c154, c155, c156, c157, c158, c159, c160, c161, c162, c163, c164, c165, c166, c167, c168, c169, c170, c171, c172, c173, c174, c175, c176, c177, c178, c179, c180, c181, c182, c183, c184, c185, c186, c187, c188, c189, c190, c191, c192, c193, c194, c195, c196, c197, c198, c199, c200, c201, c202, c203, c204, c205, c206, c207, c208, c209, c210, c211, c212, c213, c214, c215, c216, c217, c218, c219, c220, c221, c222, c223, c224, c225, c226, c227, c228, c229, c230, c231, c232, c233, c234, c235, c236, c237, c238, c239, c240, c241, c242, c243, c244, c245, c246, c247, c248, c249, c250, c251, c252, c253, c254, c255, c256, c257, c258, c259, c260, c261, c262, c263, c264, c265, c266, c267, c268, c269, c270, c271, c272, c273, c274, c275, c276, c277, c278, c279, c280, c281, c282, c283], []⟩ : Act) w') :
    Code.wp Try.prog (pieceOf Try.f40 4) Q (⟨#[c0, c1, c2, c3, c4, c5, c6, (.slice (some ⟨wo.heap.size, 0, none⟩) 64 64), c8, c9, (.int .i64 16), c11, c12, c13, c14, c15, c16, c17, c18, c19, c20, c21, c22, c23, c24, c25, c26, c27, c28, c29, c30, c31, c32, c33, c34, c35, c36, c37, c38, c39, c40, c41, c42, c43, c44, c45, c46, c47, c48, c49, c50, c51, c52, c53, c54, c55, c56, c57, c58, c59, c60, c61, c62, c63, c64, c65, c66, c67, c68, c69, c70, c71, c72, c73, c74, c75, c76, c77, c78, c79, c80, c81, c82, c83, c84, c85, c86, c87, c88, c89, c90, c91, c92, c93, c94, c95, c96, c97, c98, c99, c100, c101, c102, c103, c104, c105, c106, c107, c108, c109, c110, c111, c112, c113, c114, c115, c116, c117, c118, c119, c120, c121, c122, c123, c124, c125, c126, c127, c128, c129, c130, c131, c132, c133, c134, c135, c136, c137, c138, c139, c140, c141, c142, c143, c144, c145, c146, c147, c148, c149, c150, c151, c152, c153, c154, c155, c156, c157, c158, c159, c160, c161, c162, c163, c164, c165, c166, c167, c168, c169, c170, c171, c172, c173, c174, c175, c176, c177, c178, c179, c180, c181, c182, c183, c184, c185, c186, c187, c188, c189, c190, c191, c192, c193, c194, c195, c196, c197, c198, c199, c200, c201, c202, c203, c204, c205, c206, c207, c208, c209, c210, c211, c212, c213, c214, c215, c216, c217, c218, c219, c220, c221, c222, c223, c224, c225, c226, c227, c228, c229, c230, c231, c232, c233, c234, c235, c236, c237, c238, c239, c240, c241, c242, c243, c244, c245, c246, c247, c248, c249, c250, c251, c252, c253, c254, c255, c256, c257, c258, c259, c260, c261, c262, c263, c264, c265, c266, c267, c268, c269, c270, c271, c272, c273, c274, c275, c276, c277, c278, c279, c280, c281, c282, c283], []⟩ : Act) wb := by
  conv => arg 2; whnf
  have H1 : wb.heap[wo.heap.size]? = some (.cells (wa (grow (words blk 16) (16 - 16) ++ List.replicate (64 - 16) 0)) 99) := by rw [Nat.sub_self, grow_zero]; exact hi0
  clear hi0
  go_wp2_with fail
  go_loopw [10] (fun t wi => ∃ m : Nat, 16 ≤ m ∧ m ≤ 64 ∧ t = .int .i64 (m : Int) ∧ Same (fun _ => True) wo wi ∧ wi.heap[wo.heap.size]? = some (.cells (wa (grow (words blk 16) (m - 16) ++ List.replicate (64 - m) 0)) 99)) (fun t _ => 64 - (intOf t).toNat)
  case atStart => exact ⟨16, by omega, by omega, rfl, hw, H1⟩
  case round =>
    obtain ⟨j, hj1, hj2, rfl, hsi, hi⟩ := hrel
    have hGl : (grow (words blk 16) (j - 16)).length = j := by rw [grow_length, words_length]; omega
    by_cases hj64 : j < 64
    · have htt : decide ((j : Int) < 64) = true := by simp; omega
      have hj64i : (j : Int) < 64 := by omega
      have hcl : ∀ r, r < j → ∃ x, x = (grow (words blk 16) (j - 16)).getD r 0 ∧ wr.cell? ⟨wo.heap.size, r, none⟩ = some (uv x) := fun r hr => by
        refine ⟨_, rfl, ?_⟩
        rw [cell_at _ _ _ _ _ _ hi, wa_get _ _ (by simp [hGl]; omega), List.getElem_append_left (by omega)]
        simp [hGl, hr]
      obtain ⟨x15, e15, c15⟩ := hcl (j - 15) (by omega)
      obtain ⟨x2, e2, c2⟩ := hcl (j - 2) (by omega)
      obtain ⟨x7, e7, c7⟩ := hcl (j - 7) (by omega)
      obtain ⟨x16, e16, c16⟩ := hcl (j - 16) (by omega)
      clear hcl
      have E := Lib.hid (And.intro e15 (And.intro e2 (And.intro e7 e16)))
      clear e15 e2 e7 e16
      have HG := Lib.hid hGl
      clear hGl
      have b15 : ((j - 15 : Nat) : Int) < 64 := by omega
      have b2 : ((j - 2 : Nat) : Int) < 64 := by omega
      have b7 : ((j - 7 : Nat) : Int) < 64 := by omega
      have b16 : ((j - 16 : Nat) : Int) < 64 := by omega
      have b15' : (j : Int) - 15 < 64 := by omega
      have b2' : (j : Int) - 2 < 64 := by omega
      have a15 : (15 : Int) ≤ (j : Int) := by omega
      have a2 : (2 : Int) ≤ (j : Int) := by omega
      have t15 : ((j : Int) - 15).toNat = j - 15 := by omega
      have t2 : ((j : Int) - 2).toNat = j - 2 := by omega
      go_wp2_with fail
      have w7 : IntKind.i64.wrap ((j : Int) - 7) = ((j - 7 : Nat) : Int) := by rw [IntWalk.i64_in _ (by omega)]; omega
      have w16 : IntKind.i64.wrap ((j : Int) - 16) = ((j - 16 : Nat) : Int) := by rw [IntWalk.i64_in _ (by omega)]; omega
      have cx7 : ∀ x : Ext wr, x.1.cell? ⟨wo.heap.size, j - 7, none⟩ = some (uv x7) := fun x => x.cell c7
      have cx16 : ∀ x : Ext wr, x.1.cell? ⟨wo.heap.size, j - 16, none⟩ = some (uv x16) := fun x => x.cell c16
      refine region_ext_tail wr 32 (by kernel_rfl) (by kernel_rfl) (Same.refl _ _) ?_
      simp only [List.take_succ_cons, List.take_zero, List.drop_succ_cons, List.drop_zero]
      repeat (quiet_step ((go_at_call 71; exact ext_drew _ (right_any _ _ _ (by decide) _))))
      refine wpQuiet_nil ?_
      intro W hWs
      go_wp2_with (refine wpList_plain rfl fun _ hK => wp_store_one _ _ _ rfl wo.heap.size j rfl (uv (ext (grow (words blk 16) (j - 16)))) ?_ rfl _ _ (hWs.heap hi trivial) info_w (by simp [wa_size, HG.out]; omega) fun w1 hb1 hs1 => hK _ _ ?_)
      · refine congrArg (Value.int .u32) (?_ : _ = ((ext (grow (words blk 16) (j - 16))).toNat : Int))
        refine (refext_eq x2 x15 x7 x16).trans ?_
        unfold ext
        rw [HG.out, E.out.1, E.out.2.1, E.out.2.2.1, E.out.2.2.2]
      · go_roundw
        case rel =>
          refine ⟨j + 1, by omega, by omega, by go_num, (hsi.trans hWs).past hs1 (Nat.le_refl _), ?_⟩
          rw [hb1, wa_set _ _ _ (by simp [HG.out]; omega), show j + 1 - 16 = (j - 16) + 1 by omega, grow]
          have hr : List.replicate (64 - j) (0 : UInt32) = 0 :: List.replicate (64 - (j + 1)) 0 := by rw [show 64 - j = (64 - (j + 1)) + 1 by omega, List.replicate_succ]
          have e : ((grow (words blk 16) (j - 16)) ++ 0 :: List.replicate (64 - (j + 1)) 0).set j (ext (grow (words blk 16) (j - 16))) = (grow (words blk 16) (j - 16)) ++ [ext (grow (words blk 16) (j - 16))] ++ List.replicate (64 - (j + 1)) 0 := by
            rw [List.set_append_right _ _ (by rw [HG.out]; exact Nat.le_refl _), HG.out]
            simp
          rw [hr, e]
        case measure => simp [intOf]; omega
    · obtain rfl : j = 64 := by omega
      have hfin : grow (words blk 16) (64 - 16) ++ List.replicate (64 - 64) 0 = sched blk := by simp [sched]
      rw [hfin] at hi
      clear hfin hGl
      go_wp2_with fail
      exact ⟨hsi, hi⟩
end Go.Proofs.Ytgjkobokffiajaa
