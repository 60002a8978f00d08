/- SibsLess. -/
import Derived.Test.YtfdhldbhbigfhaaVmSE
import Derived.Test.YtfdhldbhbigfhaaVmTN
set_option linter.unusedVariables false
set_option linter.unusedSimpArgs false
namespace Go.Proofs.Ytfdhldbhbigfhaa.V
open Go.Vm

set_option maxRecDepth 4000 in
theorem SibsLess_eq (s : Sib) (seen : Vec) (h : Heap) : callL E F.tattlerlaw5_SibsLess [s.v, seen.v] h = some (.bool true, h, .no) := by
  refine callL_of rfl fn_tattlerlaw5_SibsLess ?_
  have g1 := fun l => r5May_eq s (h ++ l)
  have g2 := fun l => r1May_eq seen (h ++ l)
  have g5 := fun l => awake5_eq (h ++ l)
  simp only [Sib.v, Vec.v] at g1 g2
  cases hs : s.may with
  | false =>
    rw [hs] at g1
    simp [-getElem?_pos, c_tattlerlaw5_SibsLess, g1, g5]
  | true =>
    rw [hs] at g1
    cases hv : seen.may with
    | false =>
      rw [hv] at g2
      simp [-getElem?_pos, c_tattlerlaw5_SibsLess, g1, g2, g5]
    | true =>
      rw [hv] at g2
      have j0 := fun l => r1Join_eq s.seen seen (h ++ l)
      have q1 := fun l => leq_eq s (wide s seen) (h ++ l)
      have q2 := fun l => leq_eq (wide s seen) s (h ++ l)
      have q3 := fun l => leq_eq zeroSib s (h ++ l)
      have r1 := fun l => reap_eq s (h ++ l)
      have j1 := fun l => sibsJoin_eq (reapS s) (wide s seen) (h ++ l)
      have q4 := fun l => leq_eq (reapS s) ((reapS s).join (wide s seen)) (h ++ l)
      rw [wide_leq hs hv] at q1
      rw [leq_wide hs hv] at q2
      rw [zero_leq hs] at q3
      rw [reap_wide_leq hs hv] at q4
      have hcc : (s.seen.join seen).c ++ [V.sl (s.vals.map Val.v)] = (wide s seen).c := rfl
      have hd9 : ∀ x : V, List.drop 9 ((s.seen.join seen).c ++ [x]) = [] := fun x => List.drop_of_length_le (by simp)
      have hse : (wide s seen).seen = s.seen.join seen := rfl
      have hz : zeroSib.v = .agg [.int .i64 0, .int .i64 0, .int .i64 0, .int .i64 0, .int .i64 0, .int .i64 0, .int .i64 0, .int .i64 0, .sl []] := rfl
      rw [hz] at q3
      have t1 : (wide s seen).c.take 8 = (wide s seen).seen.c := Sib.c_seen _
      have t2 : s.c.take 8 = s.seen.c := Sib.c_seen _
      simp only [Sib.v, Vec.v] at j0 q1 q2 q3 r1 j1 q4
      generalize (wide s seen) = W at *
      generalize (reapS s).join W = J at *
      by_cases hq : W.seen = s.seen
      · rw [decide_eq_true hq] at q2
        simp [-getElem?_pos, c_tattlerlaw5_SibsLess, g1, g2, g5, j0, q1, q2, q3, r1, j1, q4, hcc, hd9, Vec.eq_cells, hq]
        done
      · rw [decide_eq_false hq] at q2
        simp [-getElem?_pos, c_tattlerlaw5_SibsLess, g1, g2, g5, j0, q1, q2, q3, r1, j1, q4, hcc, hd9, Vec.eq_cells, hq]
        done
theorem tattlerlaw5_SibsLess_top {c0 c1 : List V} (h0 : Ty.Has sibT c0) (h1 : Ty.Has vecT c1) : ∃ h fl, callL E F.tattlerlaw5_SibsLess [Ty.el sibT c0, Ty.el vecT c1] [] = some (.bool true, h, fl) := by
  obtain ⟨a, wa, rfl⟩ := Sib.dec h0
  obtain ⟨b, wb, rfl⟩ := Vec.dec h1
  exact ⟨_, _, SibsLess_eq a b []⟩
end Go.Proofs.Ytfdhldbhbigfhaa.V
