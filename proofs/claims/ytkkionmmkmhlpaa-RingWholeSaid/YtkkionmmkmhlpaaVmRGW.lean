/- RingPlaces. -/
import Derived.Test.YtkkionmmkmhlpaaVmRGV
import Derived.Test.YtkkionmmkmhlpaaVRO
set_option linter.unusedVariables false
set_option linter.unusedSimpArgs false
namespace Go.Proofs.Ytkkionmmkmhlpaa.W2
open Go.Vm Go.Proofs.Ytkkionmmkmhlpaa.V

noncomputable def farN (pl x : Int) : Nat → Int
  | 0 => 4294967295
  | k + 1 => mn2 (farN pl x k) (gap pl x k)
theorem u64' (n : Int) : IntKind.wrap .u64 n = n % 18446744073709551616 := by simp [IntKind.wrap, IntKind.bits, IntKind.signed]
theorem nodes_drawn (n : Int) (c : Int) (hc : 1 ≤ c ∧ c ≤ 16) : ∃ N : Nat, (N : Int) < c ∧ IntKind.wrap .i64 ((IntKind.wrap .u64 n).tmod c) = (N : Int) := by
  have h0 : 0 ≤ IntKind.wrap .u64 n := by rw [u64']; omega
  have h1 := Int.emod_nonneg (IntKind.wrap .u64 n) (show c ≠ 0 by omega)
  have h2 := Int.emod_lt_of_pos (IntKind.wrap .u64 n) (show 0 < c by omega)
  refine ⟨((IntKind.wrap .u64 n) % c).toNat, by omega, ?_⟩
  rw [Int.tmod_eq_emod_of_nonneg h0, wrap_i64 (by omega) (by omega)]
  omega
end Go.Proofs.Ytkkionmmkmhlpaa.W2
