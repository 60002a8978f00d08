/- Where a list has what is looked for. -/
import Derived.Test.YtfdhldbhbigfhaaVmG5
set_option linter.unusedVariables false
set_option linter.unusedSimpArgs false
namespace Go.Proofs.Ytfdhldbhbigfhaa.V
open Go.Vm

def idxV (o : Option Nat) : V := .int .i64 (match o with | some i => (i : Int) | none => -1)
theorem idx_ge (o : Option Nat) : binV .geq .no (idxV o) (.int .i64 0) = some (.bool o.isSome) := by
  cases o <;> simp [idxV]
end Go.Proofs.Ytfdhldbhbigfhaa.V
