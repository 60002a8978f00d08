/- More of joining: one that has seen more; reaped. No function of the program in sight. -/
import Derived.Test.YthkfjefoblmbhaaVmSD
import Derived.Test.YthkfjefoblmbhaaVmTM
set_option linter.unusedVariables false
set_option linter.unusedSimpArgs false
namespace Go.Proofs.Ythkfjefoblmbhaa.V
open Go.Vm

def wide (s : Sib) (v : Vec) : Sib := ⟨s.seen.join v, s.vals⟩
end Go.Proofs.Ythkfjefoblmbhaa.V
