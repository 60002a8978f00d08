/- What the other functions of 'sibs' compute: live data, dots, reaped; Leq. -/
import Derived.Test.YtklmddbnjookiaaVmSC
import Derived.Test.YtklmddbnjookiaaVmLS
set_option linter.unusedVariables false
set_option linter.unusedSimpArgs false
namespace Go.Proofs.Ytklmddbnjookiaa.V
open Go.Vm

/-! ### live data -/
def lives : List Val → List (List UInt8)
  | [] => []
  | v :: l => cnd v.dead (lives l) (v.data :: lives l)
def liveV (out : List (List UInt8)) (v : Val) : List (List UInt8) := cnd v.dead out (out ++ [v.data])
noncomputable def liveS (s : Sib) : List (List UInt8) := cnd s.may (lives s.vals) []
/-! ### dots -/
def sdots (s : Sib) : List Dot := s.vals.map Val.dot
noncomputable def dotsS (s : Sib) : List Dot := cnd s.may (sdots s) []
/-! ### reaped -/
noncomputable def reapS (s : Sib) : Sib := cnd s.may (cnd (s.vals.any fun v => !v.dead) s ⟨s.seen, []⟩) zeroSib
noncomputable def _root_.Go.Vm.Sib.leq (a b : Sib) : Bool := a.may && (b.may && decide (a.join b = b))
end Go.Proofs.Ytklmddbnjookiaa.V
