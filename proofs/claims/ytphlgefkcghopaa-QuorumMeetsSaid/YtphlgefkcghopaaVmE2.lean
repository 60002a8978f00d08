/- A table of functions, each looked at by the kernel. -/
import Derived.Test.YtphlgefkcghopaaVmE1
set_option linter.unusedVariables false
set_option linter.unusedSimpArgs false
namespace Go.Vm

def tabFn : List (Nat × VFun) → Nat → Option VFun
  | [], _ => none
  | (k, v) :: l, f => cnd (decide (f = k)) (some v) (tabFn l f)
def ownB (R : Nat → Option Nat) (f : Nat) (v : VFun) : Bool :=
  match codeC R v.body [] with
  | some c => match R f with
    | some sz => ownRet sz v.res c
    | none => true
  | none => false

section
variable {P : Program} {R : Nat → Option Nat}
theorem funOk_of {f : Nat} {v : VFun} {fn : Func} {code : Code} (h1 : P.funcs[f]? = some fn) (h2 : fn.body = some code) (h3 : (fn.name == "runtime.NumGoroutine") = false) (h4 : trCode P code v.body = some v.body) (h5 : trRes P fn.results.toList = some v.res)
    (h6 : preC code v.body = true) (h7 : dstC fn.ntmps v.body = true) (h8 : v.params ≤ fn.ntmps) (h9 : ownB R f v = true) : FunOk P R f v := by
  unfold ownB at h9
  split at h9
  · rename_i c hc
    refine ⟨fn, code, c, h1, h2, h3, h4, h5, h6, h7, h8, hc, fun sz hsz => ?_⟩
    rw [hsz] at h9
    exact h9
  · cases h9
def TabOk (P : Program) (R : Nat → Option Nat) : List (Nat × VFun) → Prop
  | [] => True
  | (f, v) :: l => FunOk P R f v ∧ TabOk P R l
theorem tab_ok : ∀ {l : List (Nat × VFun)} {f : Nat} {v : VFun}, TabOk P R l → tabFn l f = some v → FunOk P R f v
  | [], f, v, _, h => by cases h
  | (k, x) :: l, f, v, ⟨h1, h2⟩, h => by
    simp only [tabFn] at h
    cases hd : decide (f = k) <;> rw [hd] at h
    · exact tab_ok h2 h
    · cases h
      cases of_decide_eq_true hd
      exact h1
theorem env_tab {l : List (Nat × VFun)} (hm : P.follows .mixedOrders = true) (h : TabOk P R l) : EnvOk P R ⟨tabFn l, fun _ => none⟩ := ⟨hm, fun _ _ _ hf => tab_ok h hf, fun _ _ hf => by cases hf⟩
end
end Go.Vm
