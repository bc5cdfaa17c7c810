/- The law planchetlaw23.ExtractValues returns true at every input; no conditions: the statement 'Rows.ExtractValuesSaid'. -/
import Derived.Test.YtgjkobokffiajaaLaw2
import Derived.Test.YtgjkobokffiajaaValuesLaw
namespace Go.Proofs.Ytgjkobokffiajaa
open Go.ChangeShapes Go.WideShapes Go.ChangeAt Go.RowKit
set_option maxRecDepth 100000
set_option linter.unusedVariables false
theorem extractValues_lifted (os : Os) (started : os.Started) (H : Type) (enc : TypeId × Value → H) :
    ReturnsInHanded {} Try.checked os 4 .any (Rows.extractValuesSpec.pre6 enc Try.prog Try.f4 Rows.extractValuesRow.domain false) (Rows.extractValuesSpec.post enc Try.prog Try.f4 false true false false) := by
  refine returnsInHanded_of_change_sized (C := Try.checked) own started (by kernel_rfl) Try.func4
    (ChangeSpec.witness6 (enc := enc) (C := Try.checked) false ⟨#[], #[.agg (Array.replicate 32 (.int .u8 0)), .agg (Array.replicate 32 (.int .u8 0)), .agg (Array.replicate 32 (.int .u8 0)), .slice none 0 0, .slice none 0 0], []⟩ 8 (by kernel_rfl) (by kernel_rfl) (by kernel_rfl) (by kernel_rfl)) ?_
  intro W base args ds gs before hval0 hW _ hsz0 _
  have hsz : (DataW.weightsEach Try.prog (Try.f4.params.toList ++ Rows.extractValuesSpec.plain.varTypes Try.prog) (ds ++ gs)).all (· ≤ reachBytes) = true := hsz0
  have hval : ∀ (j : Nat) t v, Try.f4.params[j]? = some t → args[j]? = some v → Value.okWide Try.prog W .any base t v := hval0
  clear hsz0 hval0
  have hW' := hW
  obtain ⟨p, q, hA0, hV, rfl, _, _⟩ := hW
  have hA : DataW.TrodAll enc Try.prog W 0 (fun _ => true) true Try.f4.params.toList args.toList ds p := hA0
  rw [Try.params4] at hA hval hsz
  obtain ⟨v0, vs0, d0, ds0, p0, q0, hargs, rfl, rfl, h0, r0⟩ := trodAll_cons hA
  obtain ⟨v1, vs1, d1, ds1, p1, q1, rfl, rfl, rfl, h1, r1⟩ := trodAll_cons r0
  obtain ⟨v2, vs2, d2, ds2, p2, q2, rfl, rfl, rfl, h2, r2⟩ := trodAll_cons r1
  obtain ⟨v3, vs3, d3, ds3, p3, q3, rfl, rfl, rfl, h3, r3⟩ := trodAll_cons r2
  obtain ⟨v4, vs4, d4, ds4, p4, q4, rfl, rfl, rfl, h4, r4⟩ := trodAll_cons r3
  obtain ⟨rfl, rfl, rfl⟩ := trodAll_nil r4
  obtain rfl : args = #[v0, v1, v2, v3, v4] := by cases args; simp_all
  obtain ⟨rfl, rfl⟩ := trodVars_none hV
  clear hA0
  simp only [List.append_nil] at hW'
  have hlt0 : ∀ x ∈ p0, x.block < W.heap.size := fun x hx => by have h := hW'.lt x; simp only [List.mem_append, hx, true_or, or_true, forall_const] at h; exact h
  have hlt1 : ∀ x ∈ p1, x.block < W.heap.size := fun x hx => by have h := hW'.lt x; simp only [List.mem_append, hx, true_or, or_true, forall_const] at h; exact h
  have hlt2 : ∀ x ∈ p2, x.block < W.heap.size := fun x hx => by have h := hW'.lt x; simp only [List.mem_append, hx, true_or, or_true, forall_const] at h; exact h
  have hlt3 : ∀ x ∈ p3, x.block < W.heap.size := fun x hx => by have h := hW'.lt x; simp only [List.mem_append, hx, true_or, or_true, forall_const] at h; exact h
  have hlt4 : ∀ x ∈ p4, x.block < W.heap.size := fun x hx => by have h := hW'.lt x; simp only [List.mem_append, hx, true_or, or_true, forall_const] at h; exact h
  obtain ⟨D0, rfl⟩ := dig_open (hval 0 _ v0 rfl rfl) h0
  obtain ⟨D1, rfl⟩ := dig_open (hval 1 _ v1 rfl rfl) h1
  obtain ⟨D2, rfl⟩ := dig_open (hval 2 _ v2 rfl rfl) h2
  obtain ⟨l3, hb3⟩ := bytes_open (hval 3 _ v3 rfl rfl) h3
  obtain ⟨l4, hb4⟩ := bytes_open (hval 4 _ v4 rfl rfl) h4
  refine (valueslaw_calls W D0 D1 D2 v3 v4 l3 l4 hb3 hb4).mono fun e W' ⟨he, hb⟩ => ?_
  subst he
  refine ⟨_, rfl, _, _, _, [], p0 ++ (p1 ++ (p2 ++ (p3 ++ (p4 ++ [])))), [], hW', ?_, ?_, rfl, hb.frame _, fun h => by cases h⟩
  · exact trodAll_cons_mk (shut_bool Try.underlying4 _) trodAll_mk0
  · exact trodAll_cons_mk (Below.trod laidOut (by kernel_rfl) (of_decide_eq_true (by kernel_rfl)) h0 hb hlt0) (trodAll_cons_mk (Below.trod laidOut (by kernel_rfl) (of_decide_eq_true (by kernel_rfl)) h1 hb hlt1) (trodAll_cons_mk (Below.trod laidOut (by kernel_rfl) (of_decide_eq_true (by kernel_rfl)) h2 hb hlt2) (trodAll_cons_mk (Below.trod laidOut (by kernel_rfl) (of_decide_eq_true (by kernel_rfl)) h3 hb hlt3) (trodAll_cons_mk (Below.trod laidOut (by kernel_rfl) (of_decide_eq_true (by kernel_rfl)) h4 hb hlt4) trodAll_mk0))))
theorem extractValues_over : Rows.extractValuesRow.holds Try.pinned (OpenSpec.ofChange Rows.extractValuesSpec) :=
  OpenClaim.holds_of_wide 4 Try.f4 rfl rfl rfl rfl rfl rfl rfl ⟨rfl, rfl, rfl, rfl, rfl⟩ rfl rfl rfl rfl rfl (by kernel_rfl) Try.func4 (by kernel_rfl)
    (of_decide_eq_true (by kernel_rfl)) (by unfold Func.isWrapper; first | (rw [if_pos (by decide +kernel)]; kernel_rfl) | (rw [if_neg (by decide +kernel)]; exact ⟨rfl, rfl⟩))
    (fun os started H enc _ => extractValues_lifted os started H enc)
/-- The statement. -/
theorem extractValues_proved : Rows.ExtractValuesSaid := extractValues_over
end Go.Proofs.Ytgjkobokffiajaa
