/- What the functions of 'tattlerref1' compute: vectors. -/
import Derived.Test.YthkfjefoblmbhaaVmKV
import Derived.Test.YthkfjefoblmbhaaVmG5
set_option linter.unusedVariables false
set_option linter.unusedSimpArgs false
namespace Go.Proofs.Ythkfjefoblmbhaa.V
open Go.Vm

def _root_.Go.Vm.Dot.less (a b : Dot) : Bool := decide (a.node < b.node) || (decide (a.node = b.node) && decide (a.n < b.n))
def cntOk (n : Int) : Bool := decide (0 ≤ n) && decide (n ≤ 1099511627776)
def _root_.Go.Vm.Vec.may (v : Vec) : Bool := v.l.all cntOk
end Go.Proofs.Ythkfjefoblmbhaa.V
