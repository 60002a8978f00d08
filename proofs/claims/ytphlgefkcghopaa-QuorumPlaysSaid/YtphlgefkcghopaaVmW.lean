/- Numbers: wraps. -/
import Derived.Test.YtphlgefkcghopaaVmS2
set_option linter.unusedVariables false
set_option linter.unusedSimpArgs false
namespace Go.Vm
theorem wrap_i64 {n : Int} (h1 : -9223372036854775808 ≤ n) (h2 : n ≤ 9223372036854775807) : IntKind.wrap .i64 n = n := by
  show (if (true && decide (n % (18446744073709551616 : Int) ≥ (9223372036854775808 : Int))) = true then n % 18446744073709551616 - 18446744073709551616 else n % 18446744073709551616) = n
  simp only [Bool.true_and, decide_eq_true_eq]
  split <;> omega
theorem wrap_u64 {n : Int} (h1 : 0 ≤ n) (h2 : n ≤ 18446744073709551615) : IntKind.wrap .u64 n = n := by
  show (if (false && decide (n % (18446744073709551616 : Int) ≥ (9223372036854775808 : Int))) = true then n % 18446744073709551616 - 18446744073709551616 else n % 18446744073709551616) = n
  simp only [Bool.false_and, Bool.false_eq_true, if_false]
  omega
theorem wrap_u8 {n : Int} (h1 : 0 ≤ n) (h2 : n ≤ 255) : IntKind.wrap .u8 n = n := by
  show (if (false && decide (n % (256 : Int) ≥ (128 : Int))) = true then n % 256 - 256 else n % 256) = n
  simp only [Bool.false_and, Bool.false_eq_true, if_false]
  omega
end Go.Vm
