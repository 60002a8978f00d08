/- What the functions of 'tattlerref5' compute: sibs joined. -/
import Derived.Test.YthkfjefoblmbhaaVmR5
set_option linter.unusedVariables false
set_option linter.unusedSimpArgs false
namespace Go.Proofs.Ythkfjefoblmbhaa.V
open Go.Vm

def findD (l : List Val) (d : Dot) : Option Nat := l.findIdx? fun v => decide (v.dot = d)
def _root_.Go.Vm.Val.first (a b : Val) : Val := if a.dead ≠ b.dead then (if a.dead = true then b else a) else if bytesLess b.data a.data = true then b else a
def insertV : List Val → Val → List Val
  | [], v => [v]
  | u :: l, v => if u.dot.less v.dot = true then u :: insertV l v else v :: u :: l
end Go.Proofs.Ythkfjefoblmbhaa.V
