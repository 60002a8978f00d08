/- What 'sibs.Same' computes. -/
import Derived.Test.YtklmddbnjookiaaVmKV
import Derived.Test.YtklmddbnjookiaaVmKX
set_option linter.unusedVariables false
set_option linter.unusedSimpArgs false
namespace Go.Proofs.Ytklmddbnjookiaa.V
open Go.Vm

end Go.Proofs.Ytklmddbnjookiaa.V
