/- What 'tattlerref5.Same' computes. -/
import Derived.Test.YtionebfmjjpnbaaVmKS
import Derived.Test.YtionebfmjjpnbaaVmG4
set_option linter.unusedVariables false
set_option linter.unusedSimpArgs false
namespace Go.Proofs.Ytionebfmjjpnbaa.V
open Go.Vm

end Go.Proofs.Ytionebfmjjpnbaa.V
