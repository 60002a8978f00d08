/- What 'coord.Got' computes. -/
import Derived.Test.YtklmddbnjookiaaVmCOA
set_option linter.unusedVariables false
set_option linter.unusedSimpArgs false
namespace Go.Proofs.Ytklmddbnjookiaa.V
open Go.Vm

def gotB (has : List Bool) (ans : List Sib) (s : Sib) (j : Nat) : Bool := has.getD j false && !decide (ans.getD j zeroSib = s)
/-- Who knows less, or more. -/
def gotN (has : List Bool) (ans : List Sib) (s : Sib) (m : Nat) : List Nat := (List.range m).filter (gotB has ans s)
def natV (n : Nat) : V := .int .i64 n
end Go.Proofs.Ytklmddbnjookiaa.V
