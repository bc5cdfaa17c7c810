/- The reference hash's small functions. -/
import Derived.Test.YtgjkobokffiajaaRefSpec
import Derived.Test.YtgjkobokffiajaaTake
namespace Go.Proofs.Ytgjkobokffiajaa
open Go.RowKit
set_option maxRecDepth 100000
set_option maxHeartbeats 1000000
theorem right_2 (x : UInt32) (w : World) :
    Calls Try.prog 71 #[uv x, .int .u32 4, .int .u32 1073741824] w fun e w' => e = .returned (uv (rotr x 2)) ∧ ∃ n, w' = w.drewN n := by
  have hx : (x.toNat : Int) < 4294967296 := by have := x.toNat_lt; omega
  have hr : (rotr x 2).toNat = x.toNat / 4 + x.toNat % 4 * 1073741824 := rotr_div x 2 (by decide) (by decide)
  go_enter Try.func71, Try.ntmps71
  go_wp2_with fail
  go_quiet (fail)
  go_wp2_with fail
  go_ret
  refine ⟨congrArg (fun z => Ending.returned (.int .u32 z)) ?_, nq, rfl⟩
  rw [hr]
  omega
theorem right_6 (x : UInt32) (w : World) :
    Calls Try.prog 71 #[uv x, .int .u32 64, .int .u32 67108864] w fun e w' => e = .returned (uv (rotr x 6)) ∧ ∃ n, w' = w.drewN n := by
  have hx : (x.toNat : Int) < 4294967296 := by have := x.toNat_lt; omega
  have hr : (rotr x 6).toNat = x.toNat / 64 + x.toNat % 64 * 67108864 := rotr_div x 6 (by decide) (by decide)
  go_enter Try.func71, Try.ntmps71
  go_wp2_with fail
  go_quiet (fail)
  go_wp2_with fail
  go_ret
  refine ⟨congrArg (fun z => Ending.returned (.int .u32 z)) ?_, nq, rfl⟩
  rw [hr]
  omega
theorem right_7 (x : UInt32) (w : World) :
    Calls Try.prog 71 #[uv x, .int .u32 128, .int .u32 33554432] w fun e w' => e = .returned (uv (rotr x 7)) ∧ ∃ n, w' = w.drewN n := by
  have hx : (x.toNat : Int) < 4294967296 := by have := x.toNat_lt; omega
  have hr : (rotr x 7).toNat = x.toNat / 128 + x.toNat % 128 * 33554432 := rotr_div x 7 (by decide) (by decide)
  go_enter Try.func71, Try.ntmps71
  go_wp2_with fail
  go_quiet (fail)
  go_wp2_with fail
  go_ret
  refine ⟨congrArg (fun z => Ending.returned (.int .u32 z)) ?_, nq, rfl⟩
  rw [hr]
  omega
theorem right_11 (x : UInt32) (w : World) :
    Calls Try.prog 71 #[uv x, .int .u32 2048, .int .u32 2097152] w fun e w' => e = .returned (uv (rotr x 11)) ∧ ∃ n, w' = w.drewN n := by
  have hx : (x.toNat : Int) < 4294967296 := by have := x.toNat_lt; omega
  have hr : (rotr x 11).toNat = x.toNat / 2048 + x.toNat % 2048 * 2097152 := rotr_div x 11 (by decide) (by decide)
  go_enter Try.func71, Try.ntmps71
  go_wp2_with fail
  go_quiet (fail)
  go_wp2_with fail
  go_ret
  refine ⟨congrArg (fun z => Ending.returned (.int .u32 z)) ?_, nq, rfl⟩
  rw [hr]
  omega
theorem right_13 (x : UInt32) (w : World) :
    Calls Try.prog 71 #[uv x, .int .u32 8192, .int .u32 524288] w fun e w' => e = .returned (uv (rotr x 13)) ∧ ∃ n, w' = w.drewN n := by
  have hx : (x.toNat : Int) < 4294967296 := by have := x.toNat_lt; omega
  have hr : (rotr x 13).toNat = x.toNat / 8192 + x.toNat % 8192 * 524288 := rotr_div x 13 (by decide) (by decide)
  go_enter Try.func71, Try.ntmps71
  go_wp2_with fail
  go_quiet (fail)
  go_wp2_with fail
  go_ret
  refine ⟨congrArg (fun z => Ending.returned (.int .u32 z)) ?_, nq, rfl⟩
  rw [hr]
  omega
theorem right_17 (x : UInt32) (w : World) :
    Calls Try.prog 71 #[uv x, .int .u32 131072, .int .u32 32768] w fun e w' => e = .returned (uv (rotr x 17)) ∧ ∃ n, w' = w.drewN n := by
  have hx : (x.toNat : Int) < 4294967296 := by have := x.toNat_lt; omega
  have hr : (rotr x 17).toNat = x.toNat / 131072 + x.toNat % 131072 * 32768 := rotr_div x 17 (by decide) (by decide)
  go_enter Try.func71, Try.ntmps71
  go_wp2_with fail
  go_quiet (fail)
  go_wp2_with fail
  go_ret
  refine ⟨congrArg (fun z => Ending.returned (.int .u32 z)) ?_, nq, rfl⟩
  rw [hr]
  omega
theorem right_18 (x : UInt32) (w : World) :
    Calls Try.prog 71 #[uv x, .int .u32 262144, .int .u32 16384] w fun e w' => e = .returned (uv (rotr x 18)) ∧ ∃ n, w' = w.drewN n := by
  have hx : (x.toNat : Int) < 4294967296 := by have := x.toNat_lt; omega
  have hr : (rotr x 18).toNat = x.toNat / 262144 + x.toNat % 262144 * 16384 := rotr_div x 18 (by decide) (by decide)
  go_enter Try.func71, Try.ntmps71
  go_wp2_with fail
  go_quiet (fail)
  go_wp2_with fail
  go_ret
  refine ⟨congrArg (fun z => Ending.returned (.int .u32 z)) ?_, nq, rfl⟩
  rw [hr]
  omega
theorem right_19 (x : UInt32) (w : World) :
    Calls Try.prog 71 #[uv x, .int .u32 524288, .int .u32 8192] w fun e w' => e = .returned (uv (rotr x 19)) ∧ ∃ n, w' = w.drewN n := by
  have hx : (x.toNat : Int) < 4294967296 := by have := x.toNat_lt; omega
  have hr : (rotr x 19).toNat = x.toNat / 524288 + x.toNat % 524288 * 8192 := rotr_div x 19 (by decide) (by decide)
  go_enter Try.func71, Try.ntmps71
  go_wp2_with fail
  go_quiet (fail)
  go_wp2_with fail
  go_ret
  refine ⟨congrArg (fun z => Ending.returned (.int .u32 z)) ?_, nq, rfl⟩
  rw [hr]
  omega
theorem right_22 (x : UInt32) (w : World) :
    Calls Try.prog 71 #[uv x, .int .u32 4194304, .int .u32 1024] w fun e w' => e = .returned (uv (rotr x 22)) ∧ ∃ n, w' = w.drewN n := by
  have hx : (x.toNat : Int) < 4294967296 := by have := x.toNat_lt; omega
  have hr : (rotr x 22).toNat = x.toNat / 4194304 + x.toNat % 4194304 * 1024 := rotr_div x 22 (by decide) (by decide)
  go_enter Try.func71, Try.ntmps71
  go_wp2_with fail
  go_quiet (fail)
  go_wp2_with fail
  go_ret
  refine ⟨congrArg (fun z => Ending.returned (.int .u32 z)) ?_, nq, rfl⟩
  rw [hr]
  omega
theorem right_25 (x : UInt32) (w : World) :
    Calls Try.prog 71 #[uv x, .int .u32 33554432, .int .u32 128] w fun e w' => e = .returned (uv (rotr x 25)) ∧ ∃ n, w' = w.drewN n := by
  have hx : (x.toNat : Int) < 4294967296 := by have := x.toNat_lt; omega
  have hr : (rotr x 25).toNat = x.toNat / 33554432 + x.toNat % 33554432 * 128 := rotr_div x 25 (by decide) (by decide)
  go_enter Try.func71, Try.ntmps71
  go_wp2_with fail
  go_quiet (fail)
  go_wp2_with fail
  go_ret
  refine ⟨congrArg (fun z => Ending.returned (.int .u32 z)) ?_, nq, rfl⟩
  rw [hr]
  omega
def rightK (p : Int) : Nat := if p = 4 then 2 else if p = 64 then 6 else if p = 128 then 7 else if p = 2048 then 11 else if p = 8192 then 13 else if p = 131072 then 17 else if p = 262144 then 18 else if p = 524288 then 19 else if p = 4194304 then 22 else if p = 33554432 then 25 else 0
def rightOk (p q : Int) : Bool := decide (p = 4 ∧ q = 1073741824) || decide (p = 64 ∧ q = 67108864) || decide (p = 128 ∧ q = 33554432) || decide (p = 2048 ∧ q = 2097152) || decide (p = 8192 ∧ q = 524288) || decide (p = 131072 ∧ q = 32768) || decide (p = 262144 ∧ q = 16384) || decide (p = 524288 ∧ q = 8192) || decide (p = 4194304 ∧ q = 1024) || decide (p = 33554432 ∧ q = 128)
theorem right_any (x : UInt32) (p q : Int) (h : rightOk p q = true) (w : World) :
    Calls Try.prog 71 #[uv x, .int .u32 p, .int .u32 q] w fun e w' => e = .returned (uv (rotr x (rightK p))) ∧ ∃ n, w' = w.drewN n := by
  simp only [rightOk, Bool.or_eq_true, decide_eq_true_eq] at h
  rcases h with ((((((((h | h) | h) | h) | h) | h) | h) | h) | h) | h <;> obtain ⟨rfl, rfl⟩ := h
  · exact right_2 x w
  · exact right_6 x w
  · exact right_7 x w
  · exact right_11 x w
  · exact right_13 x w
  · exact right_17 x w
  · exact right_18 x w
  · exact right_19 x w
  · exact right_22 x w
  · exact right_25 x w
theorem refkeys_calls (w : World) : Calls Try.prog 69 #[] w fun e w' => e = .returned (.slice (some ⟨w.heap.size, 0, none⟩) 64 64) ∧ w'.heap[w.heap.size]? = some (.cells (wa K256) 99) ∧ Below w.heap.size w w' := by
  go_enter Try.func69, Try.ntmps69
  go_wp2_with fail
  go_ret
  exact ⟨rfl, hp_new rfl, (Below.refl _ _).alloc (Nat.le_refl _) _⟩
end Go.Proofs.Ytgjkobokffiajaa
