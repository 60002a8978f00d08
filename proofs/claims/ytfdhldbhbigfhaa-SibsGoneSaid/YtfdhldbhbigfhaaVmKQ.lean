/- What 'tattlerref5.Same' computes. -/
import Derived.Test.YtfdhldbhbigfhaaVmKS
import Derived.Test.YtfdhldbhbigfhaaVmG5
set_option linter.unusedVariables false
set_option linter.unusedSimpArgs false
namespace Go.Proofs.Ytfdhldbhbigfhaa.V
open Go.Vm

end Go.Proofs.Ytfdhldbhbigfhaa.V
