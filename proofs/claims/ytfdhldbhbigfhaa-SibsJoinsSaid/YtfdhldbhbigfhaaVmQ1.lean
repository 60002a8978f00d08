/- SibsJoins. -/
import Derived.Test.YtfdhldbhbigfhaaVmSE
import Derived.Test.YtfdhldbhbigfhaaVmKQ
set_option linter.unusedVariables false
set_option linter.unusedSimpArgs false
namespace Go.Proofs.Ytfdhldbhbigfhaa.V
open Go.Vm

theorem join_len (a b : Sib) : (a.join b).vals.length ≤ 16 := by
  unfold Sib.join
  cases (a.may && b.may)
  · simp [zeroSib]
  · simp only [cnd_true]; unfold joinVals; simp; omega
theorem SibsJoins_eq (a b : Sib) (h : Heap) : callL E F.tattlerlaw5_SibsJoins [a.v, b.v] h = some (.bool true, h, .no) := by
  refine callL_of rfl fn_tattlerlaw5_SibsJoins ?_
  have g1 := fun l => light5_eq [a, b] (by simp) (h ++ l)
  have g2 := fun l => sibsJoin_eq a b (h ++ l)
  have g3 := fun l => r5Join_eq a b (h ++ l)
  have g4 := fun l => same_eq (a.join b) (a.join b) (by have := join_len a b; omega) (h ++ l)
  have g5 := fun l => awake5_eq (h ++ l)
  simp only [Sib.v, List.map_cons, List.map_nil, decide_true] at g1 g2 g3 g4
  cases hl : lightL [a, b] with
  | false =>
    rw [hl] at g1
    simp [-getElem?_pos, c_tattlerlaw5_SibsJoins, g1]
  | true =>
    rw [hl] at g1
    simp [-getElem?_pos, c_tattlerlaw5_SibsJoins, g1, g2, g3, g4, g5]
theorem tattlerlaw5_SibsJoins_top {c0 c1 : List V} (h0 : Ty.Has sibT c0) (h1 : Ty.Has sibT c1) : ∃ h fl, callL E F.tattlerlaw5_SibsJoins [Ty.el sibT c0, Ty.el sibT c1] [] = some (.bool true, h, fl) := by
  obtain ⟨a, _, rfl⟩ := Sib.dec h0
  obtain ⟨b, _, rfl⟩ := Sib.dec h1
  exact ⟨_, _, SibsJoins_eq a b []⟩
end Go.Proofs.Ytfdhldbhbigfhaa.V
