/- What 'sibs.Put' computes. -/
import Derived.Test.YthkfjefoblmbhaaVmSB
set_option linter.unusedVariables false
set_option linter.unusedSimpArgs false
namespace Go.Proofs.Ythkfjefoblmbhaa.V
open Go.Vm

def _root_.Go.Vm.Vec.at (v : Vec) (n : Nat) : Int := v.l[n]?.getD 0
def _root_.Go.Vm.Vec.put (v : Vec) (n : Nat) (x : Int) : Vec := ⟨v.l.set n x, by simp⟩
def zeroDot : Dot := ⟨0, 0⟩
def pF (seen : Vec) (out : List Val) (v : Val) : List Val := cnd (seen.covers v.dot) out (out ++ [v])
def kept (s : Sib) (seen : Vec) : List Val := s.vals.filter fun v => !seen.covers v.dot
def putS (s : Sib) (seen : Vec) (n : Nat) (data : List UInt8) (dead : Bool) : Sib × Int :=
  cnd (decide (1099511627776 ≤ (s.seen.join seen).at n)) (zeroSib, 11)
    (cnd (decide (16 < (kept s seen).length + 1)) (zeroSib, 11)
      (⟨(s.seen.join seen).put n ((s.seen.join seen).at n + 1), insertV (kept s seen) ⟨⟨n, (s.seen.join seen).at n + 1⟩, data, dead⟩⟩, 0))
end Go.Proofs.Ythkfjefoblmbhaa.V
