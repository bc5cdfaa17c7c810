/- The reference hash: it computes the plain one. -/
import Derived.Test.YtgjkobokffiajaaRefPad
import Derived.Deep.CutBlock
namespace Go.Proofs.Ytgjkobokffiajaa
open Go.RowKit
set_option maxRecDepth 100000
set_option maxHeartbeats 4000000
theorem info_u32 : (Try.prog.info? 99).map (fun i => (i.zero, i.size, i.bytes)) = some (some (.int .u32 0), 1, 4) := by kernel_rfl
theorem make_u32 (u : World) (n : Nat) (hn : n ≤ 1000000) : (Instr.makeSlice 100 (.int .i64 (n : Int)) (.int .i64 (n : Int))).run Try.prog u =
    .ok (.slice (some ⟨u.heap.size, 0, none⟩) n n) (u.alloc (.cells (wa (List.replicate n 0)) 99)) := by
  obtain ⟨i0, hi, hz0, hz1, hz2⟩ := info_parts info_u32
  have h := run_make (P := Try.prog) u 100 99 i0 (.int .u32 0) Try.underlying100 hi hz0 .i64 .i64 (n : Int) (n : Int) (by omega) (by omega) (by rw [hz2]; omega) (by omega)
  have e : madeCells #[Value.int .u32 0] n = wa (List.replicate n 0) := by
    apply Array.ext_getElem?
    intro i
    by_cases h : i < n <;> simp [madeCells, wa, wv, h, Nat.mod_one]
  simp only [Int.toNat_natCast, hz1, Nat.mul_one, Value.cells, e] at h
  exact h
theorem u32wrap (z : Int) : IntKind.u32.wrap z = z % 4294967296 := by simp [IntKind.wrap, IntKind.bits, IntKind.signed]
theorem word_eq (b : List UInt8) (k : Nat) (x0 x1 x2 x3 : Int) (E : (∃ h : 4 * k + 0 < b.length, x0 = ((b[4 * k + 0]).toNat : Int)) ∧ (∃ h : 4 * k + 1 < b.length, x1 = ((b[4 * k + 1]).toNat : Int)) ∧ (∃ h : 4 * k + 2 < b.length, x2 = ((b[4 * k + 2]).toNat : Int)) ∧ (∃ h : 4 * k + 3 < b.length, x3 = ((b[4 * k + 3]).toNat : Int))) :
    IntKind.u32.wrap (IntKind.u32.wrap (IntKind.u32.wrap (IntKind.u32.wrap (IntKind.u32.wrap x0 * 16777216) + IntKind.u32.wrap (IntKind.u32.wrap x1 * 65536)) + IntKind.u32.wrap (IntKind.u32.wrap x2 * 256)) + IntKind.u32.wrap x3) = ((wordPart b k 4).toNat : Int) := by
  obtain ⟨⟨h0, e0⟩, ⟨h1, e1⟩, ⟨h2, e2⟩, ⟨h3, e3⟩⟩ := E
  have b0 := (b[4 * k + 0]).toNat_lt
  have b1 := (b[4 * k + 1]).toNat_lt
  have b2 := (b[4 * k + 2]).toNat_lt
  have b3 := (b[4 * k + 3]).toNat_lt
  rw [word_value b k h3]
  simp only [Nat.add_zero] at e0 b0
  simp only [u32wrap]
  generalize (b[4 * k]).toNat = y0 at *
  generalize (b[4 * k + 1]).toNat = y1 at *
  generalize (b[4 * k + 2]).toNat = y2 at *
  generalize (b[4 * k + 3]).toNat = y3 at *
  subst e0 e1 e2 e3
  omega
theorem wrap_div (x : UInt32) (k : Nat) : IntKind.u32.wrap ((x.toNat : Int) / (k : Int)) = (x.toNat : Int) / (k : Int) := by
  have h1 : x.toNat / k < 4294967296 := Nat.lt_of_le_of_lt (Nat.div_le_self _ _) x.toNat_lt
  rw [u32wrap, ← Int.natCast_ediv]
  generalize x.toNat / k = q at *
  omega
theorem refext_eq (x2 x15 x7 x16 : UInt32) :
    IntKind.u32.wrap (IntKind.u32.wrap (IntKind.u32.wrap (bits .xor .u32 (bits .xor .u32 ((rotr x2 (rightK 131072)).toNat : Int) ((rotr x2 (rightK 524288)).toNat : Int)) (IntKind.u32.wrap ((x2.toNat : Int) / 1024)) + (x7.toNat : Int)) +
      bits .xor .u32 (bits .xor .u32 ((rotr x15 (rightK 128)).toNat : Int) ((rotr x15 (rightK 262144)).toNat : Int)) (IntKind.u32.wrap ((x15.toNat : Int) / 8))) + (x16.toNat : Int)) =
    (((rotr x2 17 ^^^ rotr x2 19 ^^^ x2 >>> UInt32.ofNat 10) + x7 + (rotr x15 7 ^^^ rotr x15 18 ^^^ x15 >>> UInt32.ofNat 3) + x16).toNat : Int) := by
  have h1 := wrap_div x2 1024
  have h2 := wrap_div x15 8
  rw [show rightK 131072 = 17 from rfl, show rightK 524288 = 19 from rfl, show rightK 128 = 7 from rfl, show rightK 262144 = 18 from rfl]
  rw [show ((x2.toNat : Int) / 1024) = (x2.toNat : Int) / ((1024 : Nat) : Int) from rfl, h1, show ((x15.toNat : Int) / 8) = (x15.toNat : Int) / ((8 : Nat) : Int) from rfl, h2]
  exact ext_eq x2 x15 x7 x16
theorem refsum_b2 {c0 c1 c2 c3 c4 c9 c10 c11 c12 c13 c14 c15 c16 c17 c18 c19 c20 c21 c22 c23 c24 c25 c26 c27 c28 c29 c30 c31 c32 c33 c34 c35 c36 c37 c38 c39 c40 c41 c42 c43 c44 c45 c46 c47 c48 c49 c50 c51 c52 c53 c54 c55 c56 c57 c58 c59 c60 c61 c62 c63 c64 c65 c66 c67 c68 c69 c70 c71 c72 c73 c74 c75 c76 c77 c78 c79 c80 c81 c82 c83 c84 c85 c86 c87 c88 c89 c90 c91 c92 c93 c94 c95 c96 c97 c98 c99 c100 c101 c102 c103 c104 c105 c106 c107 c108 c109 c110 c111 c112 c113 c114 c115 c116 c117 c118 c119 c120 c121 c122 c123 c124 c125 c126 c127 c128 c129 c130 c131 c132 c133 c134 c135 c136 c137 c138 c139 c140 c141 c142 c143 c144 c145 c146 c147 c148 c149 c150 c151 c152 c153 c154 c155 c156 c157 c158 c159 c160 c161 c162 c163 c164 c165 c166 c167 c168 c169 c170 c171 c172 c173 c174 c175 c176 c177 c178 c179 c180 c181 c182 c183 c184 c185 c186 c187 c188 c189 c190 c191 c192 c193 c194 c195 c196 c197 c198 c199 c200 c201 c202 c203 c204 c205 c206 c207 c208 c209 c210 c211 c212 c213 c214 c215 c216 c217 c218 c219 c220 c221 c222 c223 c224 c225 c226 c227 c228 c229 c230 c231 c232 c233 c234 c235 c236 c237 c238 c239 c240 c241 c242 c243 c244 c245 c246 c247 c248 c249 c250 c251 c252 c253 c254 c255 c256 c257 c258 c259 c260 c261 c262 c263 c264 c265 c266 c267 c268 c269 c270 c271 c272 c273 c274 c275 c276 c277 c278 c279 c280 c281 c282 c283 : Value} {Q : Exit → Act → World → Prop} (wo wb : World) (blk : List UInt8) (gm L cm P : Nat) (hPi : (P : Int) ≤ 10000000) (hPL : P + 64 ≤ L) (hLi : L ≤ 6400000) (hLc : (L : Int) ≤ (cm : Int)) (hbl : blk.length = 64) (hw : Same (fun _ => True) wo wb)
    (hcb : ∀ j (h : j < blk.length), wo.cell? ⟨gm, P + j, none⟩ = some (.int .u8 (blk[j].toNat : Int)))
    (hi0 : wb.heap[wo.heap.size]? = some (.cells (wa (List.replicate 64 0)) 99))
    (h : ∀ (u9 u35 u36 u37 u38 u39 u40 u41 u42 u43 u44 u45 u46 u47 u48 u49 u50 u51 u52 u53 u54 u55 u56 u57 u58 u59 u60 u61 u62 u63 u64 u65 u66 u67 u68 u69 u70 u71 u72 u73 u74 : Value) (w' : World), Same (fun _ => True) wo w' ∧ w'.heap[wo.heap.size]? = some (.cells (wa (words blk 16 ++ List.replicate 48 0)) 99) → Q .normal (⟨#[c0, c1, c2, c3, c4, (.slice (some ⟨gm, 0, none⟩) L cm), (.int .i64 (P : Int)), (.slice (some ⟨wo.heap.size, 0, none⟩) 64 64), (.int .i64 16), u9, c10, c11, c12, c13, c14, c15, c16, c17, c18, c19, c20, c21, c22, c23, c24, c25, c26, c27, c28, c29, c30, c31, c32, c33, c34, u35, u36, u37, u38, u39, u40, u41, u42, u43, u44, u45, u46, u47, u48, u49, u50, u51, u52, u53, u54, u55, u56, u57, u58, u59, u60, u61, u62, u63, u64, u65, u66, u67, u68, u69, u70, u71, u72, u73, u74, c75, c76, c77, c78, c79, c80, c81, c82, c83, c84, c85, c86, c87, c88, c89, c90, c91, c92, c93, c94, c95, c96, c97, c98, c99, c100, c101, c102, c103, c104, c105, c106, c107, c108, c109, c110, c111, c112, c113, c114, c115, c116, c117, c118, c119, c120, c121, c122, c123, c124, c125, c126, c127, c128, c129, c130, c131, c132, c133, c134, c135, c136, c137, c138, c139, c140, c141, c142, c143, c144, c145, c146, c147, c148, c149, c150, c151, c152, c153, c154, c155, c156, c157, c158, c159, c160, c161, c162, c163, c164, c165, c166, c167, c168, c169, c170, c171, c172, c173, c174, c175, c176, c177, c178, c179, c180, c181, c182, c183, c184, c185, c186, c187, c188, c189, c190, c191, c192, c193, c194, c195, c196, c197, c198, c199, c200, c201, c202, c203, c204, c205, c206, c207, c208, c209, c210, c211, c212, c213, c214, c215, c216, c217, c218, c219, c220, c221, c222, c223, c224, c225, c226, c227, c228, c229, c230, c231, c232, c233, c234, c235, c236, c237, c238, c239, c240, c241, c242, c243, c244, c245, c246, c247, c248, c249, c250, c251, c252, c253, c254, c255, c256, c257, c258, c259, c260, c261, c262, c263, c264, c265, c266, c267, c268, c269, c270, c271, c272, c273, c274, c275, c276, c277, c278, c279, c280, c281, c282, c283], []⟩ : Act) w') :
    Code.wp Try.prog (pieceOf Try.f40 2) Q (⟨#[c0, c1, c2, c3, c4, (.slice (some ⟨gm, 0, none⟩) L cm), (.int .i64 (P : Int)), (.slice (some ⟨wo.heap.size, 0, none⟩) 64 64), (.int .i64 0), c9, c10, c11, c12, c13, c14, c15, c16, c17, c18, c19, c20, c21, c22, c23, c24, c25, c26, c27, c28, c29, c30, c31, c32, c33, c34, c35, c36, c37, c38, c39, c40, c41, c42, c43, c44, c45, c46, c47, c48, c49, c50, c51, c52, c53, c54, c55, c56, c57, c58, c59, c60, c61, c62, c63, c64, c65, c66, c67, c68, c69, c70, c71, c72, c73, c74, c75, c76, c77, c78, c79, c80, c81, c82, c83, c84, c85, c86, c87, c88, c89, c90, c91, c92, c93, c94, c95, c96, c97, c98, c99, c100, c101, c102, c103, c104, c105, c106, c107, c108, c109, c110, c111, c112, c113, c114, c115, c116, c117, c118, c119, c120, c121, c122, c123, c124, c125, c126, c127, c128, c129, c130, c131, c132, c133, c134, c135, c136, c137, c138, c139, c140, c141, c142, c143, c144, c145, c146, c147, c148, c149, c150, c151, c152, c153, c154, c155, c156, c157, c158, c159, c160, c161, c162, c163, c164, c165, c166, c167, c168, c169, c170, c171, c172, c173, c174, c175, c176, c177, c178, c179, c180, c181, c182, c183, c184, c185, c186, c187, c188, c189, c190, c191, c192, c193, c194, c195, c196, c197, c198, c199, c200, c201, c202, c203, c204, c205, c206, c207, c208, c209, c210, c211, c212, c213, c214, c215, c216, c217, c218, c219, c220, c221, c222, c223, c224, c225, c226, c227, c228, c229, c230, c231, c232, c233, c234, c235, c236, c237, c238, c239, c240, c241, c242, c243, c244, c245, c246, c247, c248, c249, c250, c251, c252, c253, c254, c255, c256, c257, c258, c259, c260, c261, c262, c263, c264, c265, c266, c267, c268, c269, c270, c271, c272, c273, c274, c275, c276, c277, c278, c279, c280, c281, c282, c283], []⟩ : Act) wb := by
  conv => arg 2; whnf
  go_wp2_with fail
  go_loopw [8] (fun t wi => ∃ k : Nat, k ≤ 16 ∧ t = .int .i64 (k : Int) ∧ Same (fun _ => True) wo wi ∧ wi.heap[wo.heap.size]? = some (.cells (wa (words blk k ++ List.replicate (64 - k) 0)) 99)) (fun t _ => 16 - (intOf t).toNat)
  case atStart => exact ⟨0, by omega, rfl, hw, by rw [words_zero]; exact hi0⟩
  case round =>
    obtain ⟨k, hk, rfl, hsi, hi⟩ := hrel
    by_cases hk16 : k < 16
    · have hkt : decide ((k : Int) < 16) = true := by simp; omega
      have hcb4 : ∀ r, r < 4 → ∃ x : Int, wo.cell? ⟨gm, P + 4 * k + r, none⟩ = some (.int .u8 x) ∧ 0 ≤ x ∧ x ≤ 255 ∧ ∃ h : 4 * k + r < blk.length, x = ((blk[4 * k + r]).toNat : Int) := fun r hr => by
        have h1 : 4 * k + r < blk.length := by omega
        refine ⟨_, by rw [Nat.add_assoc]; exact hcb _ h1, Int.natCast_nonneg _, by have := (blk[4 * k + r]).toNat_lt; omega, h1, rfl⟩
      obtain ⟨x0, c0, l0, u0, e0⟩ := hcb4 0 (by decide)
      obtain ⟨x1, c1, l1, u1, e1⟩ := hcb4 1 (by decide)
      obtain ⟨x2, c2, l2, u2, e2⟩ := hcb4 2 (by decide)
      obtain ⟨x3, c3, l3, u3, e3⟩ := hcb4 3 (by decide)
      have E := Lib.hid (And.intro e0 (And.intro e1 (And.intro e2 e3)))
      clear e0 e1 e2 e3 hcb4
      have c0 := hsi.cell c0 trivial
      have c1 := hsi.cell c1 trivial
      have c2 := hsi.cell c2 trivial
      have c3 := hsi.cell c3 trivial
      go_wp2_with fail
      obtain ⟨Y, hY⟩ : ∃ Y, Y = P + 4 * k := ⟨_, rfl⟩
      rw [show (P : Int) + 4 * (k : Int) = (Y : Int) by omega]
      rw [← hY] at c0 c1 c2 c3
      rw [Nat.add_zero] at c0
      have hYL : Y + 4 ≤ L := by omega
      have hy0 : (Y : Int) < (L : Int) := by omega
      have hy1 : (Y : Int) + 1 < (L : Int) := by omega
      have hz1y : (0 : Int) ≤ (Y : Int) + 1 := by omega
      have hy2 : (Y : Int) + 2 < (L : Int) := by omega
      have hz2y : (0 : Int) ≤ (Y : Int) + 2 := by omega
      have hy3 : (Y : Int) + 3 < (L : Int) := by omega
      have hz3y : (0 : Int) ≤ (Y : Int) + 3 := by omega
      have hk64 : (k : Int) < 64 := by omega
      have hn0 : Y < L := by omega
      have hn1 : Y + 1 < L := by omega
      have hn2 : Y + 2 < L := by omega
      have hn3 : Y + 3 < L := by omega
      have hk64n : k < 64 := by omega
      have q1 : IntKind.i64.wrap ((Y : Int) + 1) = (Y : Int) + 1 := IntWalk.i64_in _ (by omega)
      have q2 : IntKind.i64.wrap ((Y : Int) + 2) = (Y : Int) + 2 := IntWalk.i64_in _ (by omega)
      have q3 : IntKind.i64.wrap ((Y : Int) + 3) = (Y : Int) + 3 := IntWalk.i64_in _ (by omega)
      have t1 : ((Y : Int) + 1).toNat = Y + 1 := by omega
      have t2 : ((Y : Int) + 2).toNat = Y + 2 := by omega
      have t3 : ((Y : Int) + 3).toNat = Y + 3 := by omega
      have HY := Lib.hid hY
      clear hY
      refine region_tail 32 (by kernel_rfl) (by kernel_rfl) (fun W hWh hWc hWs => ?_)
      simp only [List.take_succ_cons, List.take_zero, List.drop_succ_cons, List.drop_zero]
      repeat still_step
      refine wpStill_nil ?_
      go_wp2_with (refine wpList_plain rfl fun _ hK => wp_store_one _ _ _ rfl wo.heap.size k rfl (uv (wordPart blk k 4)) ?_ rfl _ _ (by rw [hWh]; exact hi) info_w (by simp [wa_size, words_length]; omega) fun w5 hb5 hs5 => hK _ _ ?_)
      · refine congrArg (Value.int .u32) (?_ : _ = ((wordPart blk k 4).toNat : Int))
        exact word_eq blk k _ _ _ _ E.out
      · go_roundw
        case rel =>
          refine ⟨k + 1, by omega, by go_num, (hsi.trans hWs).past hs5 (Nat.le_refl _), ?_⟩
          rw [hb5, wa_set _ _ _ (by simp [words_length]; omega), words_succ]
          have hr' : List.replicate (64 - k) (0 : UInt32) = 0 :: List.replicate (64 - (k + 1)) 0 := by rw [show 64 - k = (64 - (k + 1)) + 1 by omega, List.replicate_succ]
          rw [hr', List.set_append_right _ _ (by rw [words_length]; exact Nat.le_refl _), words_length]
          simp
        case measure => simp [intOf]; omega
    · obtain rfl : k = 16 := by omega
      go_wp2_with fail
      exact ⟨hsi, hi⟩
end Go.Proofs.Ytgjkobokffiajaa
