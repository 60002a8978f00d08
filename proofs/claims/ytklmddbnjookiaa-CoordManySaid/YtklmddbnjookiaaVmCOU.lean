/- What 'coord.Got' computes: as a whole. -/
import Derived.Test.YtklmddbnjookiaaVmCOT
set_option linter.unusedVariables false
set_option linter.unusedSimpArgs false
namespace Go.Proofs.Ytklmddbnjookiaa.V
open Go.Vm

section
variable {h : Heap} {i mi : Nat} {wait last : Int} {ans : List Ans} {ops : List (Int × Nat)} (t : CAt h i mi wait last ans ops)
include t
variable {p q : Nat} {o : OpS} {need : Int} {has : List Bool} (u : OAt h p q o need has)
include u
/-- The operation behind an answer. -/
noncomputable def OpS.got (o : OpS) (k : Nat) (s : Sib) : OpS := ⟨o.key, o.wr, o.s.join s, o.ans.set k s, o.age⟩
end
end Go.Proofs.Ytklmddbnjookiaa.V
