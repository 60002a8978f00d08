/- What 'tattlerref5.Same' computes. -/
import Derived.Test.YthkfjefoblmbhaaVmKS
import Derived.Test.YthkfjefoblmbhaaVmG5
set_option linter.unusedVariables false
set_option linter.unusedSimpArgs false
namespace Go.Proofs.Ythkfjefoblmbhaa.V
open Go.Vm

end Go.Proofs.Ythkfjefoblmbhaa.V
