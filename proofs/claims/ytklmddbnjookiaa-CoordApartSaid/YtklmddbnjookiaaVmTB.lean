/- The order of texts. -/
import Derived.Test.YtklmddbnjookiaaVmG5
set_option linter.unusedVariables false
set_option linter.unusedSimpArgs false
namespace Go.Proofs.Ytklmddbnjookiaa.V
open Go.Vm

end Go.Proofs.Ytklmddbnjookiaa.V
