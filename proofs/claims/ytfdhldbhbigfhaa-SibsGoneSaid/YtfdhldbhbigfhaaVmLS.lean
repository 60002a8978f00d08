/- What 'sibs.Same' computes. -/
import Derived.Test.YtfdhldbhbigfhaaVmKV
import Derived.Test.YtfdhldbhbigfhaaVmKX
set_option linter.unusedVariables false
set_option linter.unusedSimpArgs false
namespace Go.Proofs.Ytfdhldbhbigfhaa.V
open Go.Vm

end Go.Proofs.Ytfdhldbhbigfhaa.V
