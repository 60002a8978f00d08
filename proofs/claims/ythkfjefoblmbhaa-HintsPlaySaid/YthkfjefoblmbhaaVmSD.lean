/- What the other functions of 'sibs' compute: live data, dots, reaped; Leq. -/
import Derived.Test.YthkfjefoblmbhaaVmSC
import Derived.Test.YthkfjefoblmbhaaVmLS
set_option linter.unusedVariables false
set_option linter.unusedSimpArgs false
namespace Go.Proofs.Ythkfjefoblmbhaa.V
open Go.Vm

def lives : List Val → List (List UInt8)
  | [] => []
  | v :: l => cnd v.dead (lives l) (v.data :: lives l)
def liveV (out : List (List UInt8)) (v : Val) : List (List UInt8) := cnd v.dead out (out ++ [v.data])
noncomputable def liveS (s : Sib) : List (List UInt8) := cnd s.may (lives s.vals) []
def sdots (s : Sib) : List Dot := s.vals.map Val.dot
noncomputable def dotsS (s : Sib) : List Dot := cnd s.may (sdots s) []
noncomputable def reapS (s : Sib) : Sib := cnd s.may (cnd (s.vals.any fun v => !v.dead) s ⟨s.seen, []⟩) zeroSib
noncomputable def _root_.Go.Vm.Sib.leq (a b : Sib) : Bool := a.may && (b.may && decide (a.join b = b))
theorem leq_eq (a b : Sib) (h : Heap) : callL E F.sibs_Leq [a.v, b.v] h = some (.bool (a.leq b), h, .no) := by
  refine callL_of rfl fn_sibs_Leq ?_
  have g1 := fun l => sibsMay_eq a (h ++ l)
  have g2 := fun l => sibsMay_eq b (h ++ l)
  have g3 := fun l => sibsJoin_eq a b (h ++ l)
  have hjl : (a.join b).vals.length ≤ 1099511627776 := by
    unfold Sib.join
    cases (a.may && b.may)
    · simp [zeroSib]
    · simp only [cnd_true]; unfold joinVals; simp; omega
  have g4 := fun l => sibsSame_eq (a.join b) b hjl (h ++ l)
  simp only [Sib.v] at g1 g2 g3 g4
  unfold Sib.leq
  cases ha : a.may with
  | false =>
    rw [ha] at g1
    simp [-getElem?_pos, c_sibs_Leq, g1]
  | true =>
    rw [ha] at g1
    cases hb : b.may with
    | false =>
      rw [hb] at g2
      simp [-getElem?_pos, c_sibs_Leq, g1, g2]
    | true =>
      rw [hb] at g2
      simp [-getElem?_pos, c_sibs_Leq, g1, g2, g3, g4]
end Go.Proofs.Ythkfjefoblmbhaa.V
