/- What 'sibs.MayEntry' computes. -/
import Derived.Test.YthkfjefoblmbhaaVmSA
set_option linter.unusedVariables false
set_option linter.unusedSimpArgs false
namespace Go.Proofs.Ythkfjefoblmbhaa.V
open Go.Vm

theorem sibsMayEntry_eq (e : Ent) (h : Heap) : callL E F.sibs_MayEntry [e.v] h = some (.bool e.may, h, .no) := by
  refine callL_of rfl fn_sibs_MayEntry ?_
  have g1 := fun l => sibsMay_eq e.sib (h ++ l)
  simp only [Sib.v] at g1
  unfold Ent.may keyOk
  by_cases h1 : 1 ≤ e.key.length
  · have e1 : (1 : Int) ≤ (e.key.length : Int) := by omega
    by_cases h2 : e.key.length ≤ 32
    · have e2 : (e.key.length : Int) ≤ 32 := by omega
      cases hm : e.sib.may <;> rw [hm] at g1 <;> simp [-getElem?_pos, c_sibs_MayEntry, g1, h1, h2, e1, e2]
    · have e2 : ¬ (e.key.length : Int) ≤ 32 := by omega
      simp [-getElem?_pos, c_sibs_MayEntry, h1, h2, e1, e2]
  · have e1 : ¬ (1 : Int) ≤ (e.key.length : Int) := by omega
    simp [-getElem?_pos, c_sibs_MayEntry, h1, e1]
end Go.Proofs.Ythkfjefoblmbhaa.V
