/- What the document's own functions compute: live data, dots, reaped, Leq; the same. -/
import Derived.Test.YthkfjefoblmbhaaVmSD
import Derived.Test.YthkfjefoblmbhaaVmKQ
import Derived.Test.YthkfjefoblmbhaaVmSM
set_option linter.unusedVariables false
set_option linter.unusedSimpArgs false
namespace Go.Proofs.Ythkfjefoblmbhaa.V
open Go.Vm

theorem r5Leq_eq (a b : Sib) (hb : b.vals.length ≤ 1099511627776) (h : Heap) : callL E F.tattlerref5_Leq [a.v, b.v] h = some (.bool (a.leq b), h, .no) := by
  refine callL_of rfl fn_tattlerref5_Leq ?_
  have g1 := fun l => r5May_eq a (h ++ l)
  have g2 := fun l => r5May_eq b (h ++ l)
  have g3 := fun l => r5Join_eq a b (h ++ l)
  have hjl : (a.join b).vals.length ≤ 1099511627776 := by
    unfold Sib.join
    cases (a.may && b.may)
    · simp [zeroSib]
    · simp only [cnd_true]; unfold joinVals; simp; omega
  have g4 := fun l => same_eq (a.join b) b hjl (h ++ l)
  simp only [Sib.v] at g1 g2 g3 g4
  unfold Sib.leq
  cases ha : a.may with
  | false =>
    rw [ha] at g1
    simp [-getElem?_pos, c_tattlerref5_Leq, g1]
  | true =>
    rw [ha] at g1
    cases hb : b.may with
    | false =>
      rw [hb] at g2
      simp [-getElem?_pos, c_tattlerref5_Leq, g1, g2]
    | true =>
      rw [hb] at g2
      simp [-getElem?_pos, c_tattlerref5_Leq, g1, g2, g3, g4]
end Go.Proofs.Ythkfjefoblmbhaa.V
