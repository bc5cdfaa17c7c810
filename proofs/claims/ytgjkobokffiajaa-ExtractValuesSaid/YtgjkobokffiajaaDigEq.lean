/- Two digests compared. -/
import Derived.Test.YtgjkobokffiajaaSteps
import Derived.DeepKeys
namespace Go.Proofs.Ytgjkobokffiajaa
open Go.RowKit
theorem cells_u8 : Try.prog.cellsOf 5 = 1 := by kernel_rfl
theorem plain_u8 : Try.prog.plainKey 5 = true := by kernel_rfl
theorem da_get (d : Dig) (i : Nat) (h : i < 32) : (da d)[i]? = some (.int .u8 ((d.1.getD i 0).toNat : Int)) := by
  have hl : i < d.1.length := by rw [d.2]; exact h
  simp [da, bv, hl]
theorem eqItems_bytes (w : World) (d : Nat) (a b : Dig) : ∀ is : List Nat, (∀ i ∈ is, i < 32) →
    (Op.eqItems (d + 1) 5 (Try.prog.cellsOf 5) (da a) (da b) is).run Try.prog w = .ok (is.all fun i => a.1.getD i 0 == b.1.getD i 0) w
  | [], _ => rfl
  | i :: is, h => by
    have hi := h i List.mem_cons_self
    have ih := eqItems_bytes w d a b is fun j hj => h j (List.mem_cons_of_mem _ hj)
    unfold Op.eqItems
    have e1 : (part 5 (da a) (i * Try.prog.cellsOf 5)).run Try.prog w = .ok _ w := run_part_plain w plain_u8 (by rw [cells_u8, Nat.mul_one]; exact da_get a i hi)
    have e2 : (part 5 (da b) (i * Try.prog.cellsOf 5)).run Try.prog w = .ok _ w := run_part_plain w plain_u8 (by rw [cells_u8, Nat.mul_one]; exact da_get b i hi)
    have e3 := run_equalIn_int (P := Try.prog) w d 5 .u8 .u8 ((a.1.getD i 0).toNat : Int) ((b.1.getD i 0).toNat : Int) Try.underlying5
    simp only [Sem.run_bind, e1, e2, e3, Result.andThen_ok]
    have e4 : (((a.1.getD i 0).toNat : Int) == ((b.1.getD i 0).toNat : Int)) = (a.1.getD i 0 == b.1.getD i 0) := by
      rw [Bool.eq_iff_iff]
      simp only [beq_iff_eq, Int.natCast_inj, UInt8.toNat_inj]
    rw [e4]
    cases hq : (a.1.getD i 0 == b.1.getD i 0)
    · simp only [List.all_cons, hq, Bool.not_false, if_true, Bool.false_and]
      rfl
    · simp only [List.all_cons, hq, Bool.not_true, Bool.false_eq_true, if_false, Bool.true_and]
      exact ih
theorem dig_all (a b : Dig) : ((List.range 32).all fun i => a.1.getD i 0 == b.1.getD i 0) = decide (a = b) := by
  rw [Bool.eq_iff_iff, decide_eq_true_iff]
  simp only [List.all_eq_true, List.mem_range, beq_iff_eq]
  constructor
  · intro h
    refine Subtype.ext (List.ext_getElem (a.2.trans b.2.symm) fun i h1 h2 => ?_)
    have := h i (by rw [← a.2]; exact h1)
    simpa [List.getD_eq_getElem?_getD, h1, h2] using this
  · rintro rfl i _
    rfl
theorem run_eq_dig (a b : Dig) (w : World) : (Op.equal 32 (dg a) (dg b)).run Try.prog w = .ok (decide (a = b)) w := by
  have hi : ∃ i, Try.prog.info? 5 = some i := by
    cases h : Try.prog.info? 5 with
    | none => have h1 := info_u81; rw [h] at h1; cases h1
    | some i => exact ⟨i, rfl⟩
  obtain ⟨i, hi⟩ := hi
  unfold Op.equal
  rw [show Op.maxDepth = 9998 + 1 + 1 from rfl, run_equalIn_array w (9998 + 1) (da a) (da b) Try.underlying32 hi, eqItems_bytes w 9998 a b _ (by simp)]
  rw [dig_all]
theorem run_eqIn_dig (a b : Dig) (w : World) : (Op.equalIn 10000 32 (.agg (da a)) (.agg (da b))).run Try.prog w = .ok (decide (a = b)) w := run_eq_dig a b w
theorem guard_dig : Try.prog.eqGuardType Try.prog.depth 32 = false := by kernel_rfl
theorem size_dig (d : Dig) : (Try.prog.info? 32).map (·.size) = some (da d).size := by rw [da_size]; kernel_rfl
theorem one_dig (d : Dig) : ∀ u ∈ (da d).toList, u.oneCell' = true := by rw [da_list]; exact bv_one _
section
variable {w : World} {ops : Array Oper} {rest : List Oper} {o : Oper} {a : Act} {Q : Exit → Act → World → Prop}
/-- A variable for a digest, a load of one, a store of one. -/
theorem al_dig (hgd : o.guard = none) (ho : o.op = .alloc 32) (h : wpList Try.prog ops Q rest (a.put o.dst (.pointer (some ⟨w.heap.size, 0, none⟩))) (w.alloc (.cells (da zeroDig) 32))) : wpList Try.prog ops Q (o :: rest) a w :=
  wpList_plain hgd fun _ hK => wp_alloc 32 ho (da zeroDig) zero_dg (hK _ _ h)
theorem ld_dig (hw : Region.wanted o (yielded ops a.tmps) = true) (x : Operand) (ho : o.op = .load 32 x) {g : Nat} (hx : a.eval x = .pointer (some ⟨g, 0, none⟩)) {D : Dig} (hg : w.heap[g]? = some (.cells (da D) 32)) (h : wpList Try.prog ops Q rest (a.put o.dst (dg D)) w) :
    wpList Try.prog ops Q (o :: rest) a w :=
  wpList_step fun _ hK => by rw [if_pos hw]; exact wp_load_row 32 x ho g hx 32 (da D) (0, 0) _ hg Try.underlying32 rfl (size_dig D) (hK _ _ h)
theorem st_dig (hgd : o.guard = none) (x y : Operand) (ho : o.op = .store 32 x y) {g : Nat} (hx : a.eval x = .pointer (some ⟨g, 0, none⟩)) {D D0 : Dig} (hy : a.eval y = dg D) (hb : w.heap[g]? = some (.cells (da D0) 32))
    (h : ∀ w', w'.heap[g]? = some (.cells (da D) 32) → Same (· ≠ g) w w' → wpList Try.prog ops Q rest (a.put o.dst undef) w') : wpList Try.prog ops Q (o :: rest) a w :=
  wpList_plain hgd fun _ hK => wp_store_row 32 x y ho g hx (da D) hy (da D0) 32 hb (by rw [da_size, da_size]) (size_dig D) (one_dig D) fun w' h1 h2 => hK _ _ (h w' h1 h2)
theorem bu_dig (hgd : o.guard = none) {parts : Array (Nat × Operand)} (ho : o.op = .build 32 parts) (hp : parts = #[]) (h : wpList Try.prog ops Q rest (a.put o.dst (dg zeroDig)) w) : wpList Try.prog ops Q (o :: rest) a w := by
  subst hp
  refine wpList_plain hgd fun _ hK => wp_run (v := dg zeroDig) ?_ (hK _ _ h)
  unfold execOp
  rw [ho]
  kernel_rfl
end
end Go.Proofs.Ytgjkobokffiajaa
