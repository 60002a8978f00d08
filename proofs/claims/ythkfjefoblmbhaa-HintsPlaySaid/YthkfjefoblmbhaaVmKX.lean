/- Where a list has what is looked for. -/
import Derived.Test.YthkfjefoblmbhaaVmG5
set_option linter.unusedVariables false
set_option linter.unusedSimpArgs false
namespace Go.Proofs.Ythkfjefoblmbhaa.V
open Go.Vm

def idxV (o : Option Nat) : V := .int .i64 (match o with | some i => (i : Int) | none => -1)
end Go.Proofs.Ythkfjefoblmbhaa.V
