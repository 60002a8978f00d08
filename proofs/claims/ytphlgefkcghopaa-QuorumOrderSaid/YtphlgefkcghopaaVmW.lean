/- Numbers: wraps. -/
import Derived.Test.YtphlgefkcghopaaVmS2
set_option linter.unusedVariables false
set_option linter.unusedSimpArgs false
namespace Go.Vm
theorem wrap_i64 {n : Int} (h1 : -9223372036854775808 ≤ n) (h2 : n ≤ 9223372036854775807) : IntKind.wrap .i64 n = n := by
  show (if (true && decide (n % (18446744073709551616 : Int) ≥ (9223372036854775808 : Int))) = true then n % 18446744073709551616 - 18446744073709551616 else n % 18446744073709551616) = n
  simp only [Bool.true_and, decide_eq_true_eq]
  split <;> omega
theorem wrap_u64 {n : Int} (h1 : 0 ≤ n) (h2 : n ≤ 18446744073709551615) : IntKind.wrap .u64 n = n := by
  show (if (false && decide (n % (18446744073709551616 : Int) ≥ (9223372036854775808 : Int))) = true then n % 18446744073709551616 - 18446744073709551616 else n % 18446744073709551616) = n
  simp only [Bool.false_and, Bool.false_eq_true, if_false]
  omega
theorem wrap_u8 {n : Int} (h1 : 0 ≤ n) (h2 : n ≤ 255) : IntKind.wrap .u8 n = n := by
  show (if (false && decide (n % (256 : Int) ≥ (128 : Int))) = true then n % 256 - 256 else n % 256) = n
  simp only [Bool.false_and, Bool.false_eq_true, if_false]
  omega
theorem and_one (n : Int) : bitsV .u64 (BitVec.ofInt IntKind.u64.bits n &&& BitVec.ofInt IntKind.u64.bits 1) = .int .u64 (n % 2) := by
  show V.int .u64 (IntKind.wrap .u64 ((BitVec.ofInt 64 n &&& BitVec.ofInt 64 1).toNat : Nat)) = .int .u64 (n % 2)
  congr 1
  have h1 : (BitVec.ofInt 64 1).toNat = 1 := rfl
  rw [BitVec.toNat_and, h1, Nat.and_one_is_mod, BitVec.toNat_ofInt, wrap_u64] <;> omega
@[simp high] theorem bin_and1 (ek : EK) (n : Int) : binV .and ek (.int .u64 n) (.int .u64 1) = some (.int .u64 (n % 2)) := by rw [bin_and, and_one]
end Go.Vm
