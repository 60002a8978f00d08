/- An object with a vector and a list of its own. -/
import Derived.Test.YtfdhldbhbigfhaaVmKV
import Derived.Test.YtfdhldbhbigfhaaVmG4
set_option linter.unusedVariables false
set_option linter.unusedSimpArgs false
namespace Go.Proofs.Ytfdhldbhbigfhaa.V
open Go.Vm

def sbC (v : Vec) (x : V) : List V := v.c ++ [x]
def sbO (v : Vec) (l : List Val) : Vm.Obj := .cells (sbC v (.own (l.map Val.v))) [(8, 1000004)]
section
variable (v : Vec) (x y : V)
@[simp] theorem sbC_len : (sbC v x).length = 9 := by simp [sbC]
@[simp] theorem sbC8 : (sbC v x)[8]? = some x := by simp [sbC]
@[simp] theorem sbC_lt (n : Nat) : V.ltL n (sbC v x) = x.lt n := by simp [sbC, Sib.ltL_append]
@[simp] theorem sbC_set8 : (sbC v x).set 8 y = sbC v y := by simp [sbC]
end
end Go.Proofs.Ytfdhldbhbigfhaa.V
