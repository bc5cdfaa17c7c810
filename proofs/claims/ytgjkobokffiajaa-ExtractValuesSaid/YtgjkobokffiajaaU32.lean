/-
  uint32 as UInt32: the model's operations on values '.int .u32 x.toNat' in UInt32's own words. Over whatever program.
-/
import Derived.WalkKit
namespace Go.Proofs.Ytgjkobokffiajaa
abbrev uv (x : UInt32) : Value := .int .u32 (x.toNat : Int)
theorem wrap_u32_nat (n : Nat) : IntKind.u32.wrap (n : Int) = ((n % 4294967296 : Nat) : Int) := by
  simp only [IntKind.wrap, IntKind.bits, IntKind.signed]
  simp
section
variable {P : Program} {w : World} (x y : UInt32)
theorem u32_add : IntKind.u32.wrap ((x.toNat : Int) + y.toNat) = ((x + y).toNat : Int) := by
  rw [← Int.natCast_add, wrap_u32_nat, UInt32.toNat_add]
theorem u32_sub : IntKind.u32.wrap ((x.toNat : Int) - y.toNat) = ((x - y).toNat : Int) := by
  have hx := x.toNat_lt
  have hy := y.toNat_lt
  have e : IntKind.u32.wrap ((x.toNat : Int) - y.toNat) = ((x.toNat : Int) - y.toNat) % 4294967296 := by
    simp only [IntKind.wrap, IntKind.bits, IntKind.signed]
    simp
  rw [e, UInt32.toNat_sub]
  omega
theorem u32_mul : IntKind.u32.wrap ((x.toNat : Int) * y.toNat) = ((x * y).toNat : Int) := by
  rw [← Int.natCast_mul, wrap_u32_nat, UInt32.toNat_mul]
theorem u32_ofInt : BitVec.ofInt 32 (x.toNat : Int) = x.toBitVec := by
  apply BitVec.eq_of_toNat_eq
  have := x.toNat_lt
  simp [BitVec.toNat_ofInt]
theorem u32_back (r : BitVec 32) : IntKind.u32.wrap (r.toNat : Int) = (UInt32.ofBitVec r).toNat := by
  rw [wrap_u32_nat, Nat.mod_eq_of_lt r.isLt]; rfl
theorem run_u32_and : (Op.intBits .and .u32 (x.toNat : Int) (y.toNat : Int)).run P w = .ok (.int .u32 ((x &&& y).toNat : Int)) w := by
  simp only [Op.intBits, IntKind.bits, u32_ofInt, u32_back]; rfl
theorem run_u32_or : (Op.intBits .or .u32 (x.toNat : Int) (y.toNat : Int)).run P w = .ok (.int .u32 ((x ||| y).toNat : Int)) w := by
  simp only [Op.intBits, IntKind.bits, u32_ofInt, u32_back]; rfl
theorem run_u32_xor : (Op.intBits .xor .u32 (x.toNat : Int) (y.toNat : Int)).run P w = .ok (.int .u32 ((x ^^^ y).toNat : Int)) w := by
  simp only [Op.intBits, IntKind.bits, u32_ofInt, u32_back]; rfl
theorem run_u32_add : (Op.intArith .add .u32 (x.toNat : Int) (y.toNat : Int)).run P w = .ok (.int .u32 ((x + y).toNat : Int)) w := by
  simp only [Op.intArith, u32_add]; rfl
theorem run_u32_mul : (Op.intArith .mul .u32 (x.toNat : Int) (y.toNat : Int)).run P w = .ok (.int .u32 ((x * y).toNat : Int)) w := by
  simp only [Op.intArith, u32_mul]; rfl
theorem run_u32_sub : (Op.intArith .sub .u32 (x.toNat : Int) (y.toNat : Int)).run P w = .ok (.int .u32 ((x - y).toNat : Int)) w := by
  simp only [Op.intArith, u32_sub]; rfl
theorem run_u32_not : (Op.unary .xor (.int .u32 (x.toNat : Int))).run P w = .ok (.int .u32 ((~~~ x).toNat : Int)) w := by
  have h := run_u32_xor (P := P) (w := w) 4294967295 x
  have e : (4294967295 : UInt32) ^^^ x = ~~~ x := by
    apply UInt32.toBitVec_inj.1
    simp
    exact BitVec.allOnes_xor
  rw [e] at h
  exact h
theorem run_u32_shl (k : IntKind) (n : Nat) (hn : n < 32) : (Op.shift .shl .u32 (x.toNat : Int) k (n : Int)).run P w = .ok (.int .u32 ((x <<< UInt32.ofNat n).toNat : Int)) w := by
  have e : min n 32 = n := by omega
  have h0 : ¬ (n : Int) < 0 := by omega
  have e2 : (UInt32.ofNat n).toNat % 32 = n := by simp; omega
  simp only [Op.shift, IntKind.bits, h0, if_false, Int.toNat_natCast, e]
  have : (x.toNat : Int) * 2 ^ n = ((x.toNat * 2 ^ n : Nat) : Int) := by simp
  rw [this, wrap_u32_nat, UInt32.toNat_shiftLeft, e2, Nat.shiftLeft_eq]
  rfl
theorem run_u32_shr (k : IntKind) (n : Nat) (hn : n < 32) : (Op.shift .shr .u32 (x.toNat : Int) k (n : Int)).run P w = .ok (.int .u32 ((x >>> UInt32.ofNat n).toNat : Int)) w := by
  have e : min n 32 = n := by omega
  have h0 : ¬ (n : Int) < 0 := by omega
  have e2 : (UInt32.ofNat n).toNat % 32 = n := by simp; omega
  simp only [Op.shift, IntKind.bits, h0, if_false, Int.toNat_natCast, e]
  have : ((x.toNat : Int)).fdiv (2 ^ n) = ((x.toNat / 2 ^ n : Nat) : Int) := by
    rw [Int.fdiv_eq_ediv_of_nonneg _ (by exact_mod_cast Nat.zero_le (2 ^ n))]
    simp
  rw [this, UInt32.toNat_shiftRight, e2, Nat.shiftRight_eq_div_pow]
  rfl
theorem bits_u32_or : bits .or .u32 (x.toNat : Int) (y.toNat : Int) = ((x ||| y).toNat : Int) := by
  simp only [bits, IntKind.bits, u32_ofInt, u32_back]; rfl
theorem bits_u32_and : bits .and .u32 (x.toNat : Int) (y.toNat : Int) = ((x &&& y).toNat : Int) := by
  simp only [bits, IntKind.bits, u32_ofInt, u32_back]; rfl
theorem bits_u32_xor : bits .xor .u32 (x.toNat : Int) (y.toNat : Int) = ((x ^^^ y).toNat : Int) := by
  simp only [bits, IntKind.bits, u32_ofInt, u32_back]; rfl
theorem shl_u32 (n : Nat) (hn : n < 32) : (x.toNat : Int) * 2 ^ n % 4294967296 = ((x <<< UInt32.ofNat n).toNat : Int) := by
  have e2 : (UInt32.ofNat n).toNat % 32 = n := by simp; omega
  rw [UInt32.toNat_shiftLeft, e2, Nat.shiftLeft_eq]
  simp
theorem shr_u32 (n : Nat) (hn : n < 32) : (x.toNat : Int) / 2 ^ n = ((x >>> UInt32.ofNat n).toNat : Int) := by
  have e2 : (UInt32.ofNat n).toNat % 32 = n := by simp; omega
  rw [UInt32.toNat_shiftRight, e2, Nat.shiftRight_eq_div_pow]
  simp
end
end Go.Proofs.Ytgjkobokffiajaa
