/- CoordApart: may they all be? -/
import Derived.Test.YtklmddbnjookiaaVmCPD
set_option linter.unusedVariables false
set_option linter.unusedSimpArgs false
set_option linter.unusedSectionVars false
namespace Go.Proofs.Ytklmddbnjookiaa.V
open Go.Vm

theorem apart_scan (h : Heap) (LA LB : List V) (nA nB : Int) (k : Int) (l : List Sib) (hl : l.length ≤ 1000) :
    ((∀ s ∈ l, s.may = true) ∧ loopRun (callL E) loopL h.length [0, 1, 2, 3, 51, 52, 55, 56, 57] c_tattlerlaw22_CoordApart_l0 ⟨[(0, .sl LA), (1, .sl LB), (2, .int .i64 nA), (3, .int .i64 nB), (51, .agg [.sl LA, .sl LB]), (52, .int .i64 k), (55, .sl (l.map Sib.v)), (56, .int .i64 l.length), (57, .int .i64 0)], h, .no⟩ =
      some (.exit 2, ⟨[(0, .sl LA), (1, .sl LB), (2, .int .i64 nA), (3, .int .i64 nB), (51, .agg [.sl LA, .sl LB]), (52, .int .i64 k), (55, .sl (l.map Sib.v)), (56, .int .i64 l.length), (57, .int .i64 l.length), (58, .bool false)], h, .no⟩)) ∨
    ∃ x, loopRun (callL E) loopL h.length [0, 1, 2, 3, 51, 52, 55, 56, 57] c_tattlerlaw22_CoordApart_l0 ⟨[(0, .sl LA), (1, .sl LB), (2, .int .i64 nA), (3, .int .i64 nB), (51, .agg [.sl LA, .sl LB]), (52, .int .i64 k), (55, .sl (l.map Sib.v)), (56, .int .i64 l.length), (57, .int .i64 0)], h, .no⟩ =
      some (.ret, ⟨[(8, .bool true)], h ++ [.cells x []], .no⟩) := by
  have key := loop_scan (C := callL E) (fb := h.length) (live := [0, 1, 2, 3, 51, 52, 55, 56, 57]) (c := c_tattlerlaw22_CoordApart_l0)
    (fun j => ⟨[(0, .sl LA), (1, .sl LB), (2, .int .i64 nA), (3, .int .i64 nB), (51, .agg [.sl LA, .sl LB]), (52, .int .i64 k), (55, .sl (l.map Sib.v)), (56, .int .i64 l.length), (57, .int .i64 j)], h, .no⟩) l.length (getB l Sib.may)
    (.exit 2, ⟨[(0, .sl LA), (1, .sl LB), (2, .int .i64 nA), (3, .int .i64 nB), (51, .agg [.sl LA, .sl LB]), (52, .int .i64 k), (55, .sl (l.map Sib.v)), (56, .int .i64 l.length), (57, .int .i64 l.length), (58, .bool false)], h, .no⟩)
    (fun j => (.ret, ⟨[(8, .bool true)], h ++ [.cells (match l[j]? with | some v => v.c | none => []) []], .no⟩)) ?_ ?_ (fun _ => rfl) ?_ rfl
  · rw [show ((0 : Nat) : Int) = 0 from rfl] at key
    rcases key with ⟨h1, h2⟩ | ⟨j, h1, h2, h3, h4⟩
    · left
      have := all_getB h1
      rw [List.all_eq_true] at this
      exact ⟨this, h2⟩
    · right
      exact ⟨_, h4⟩
  · intro j hj hp
    obtain ⟨x, hx, _, _⟩ := get_of_lt hj
    have hlt : (j : Int) < (l.length : Int) := by omega
    have h1 := i64_add1 (n := j) (by omega)
    rw [getB_at hx] at hp
    have g1 := fun z => r5May_eq x (h ++ z)
    rw [hp] at g1
    simp only [Sib.v] at g1
    rw [s_round]
    simp [-getElem?_pos, c_tattlerlaw22_CoordApart_l0, hlt, hj, hx, h1, g1]
    done
  · intro j hj hp
    obtain ⟨x, hx, _, _⟩ := get_of_lt hj
    have hlt : (j : Int) < (l.length : Int) := by omega
    rw [getB_at hx] at hp
    have g1 := fun z => r5May_eq x (h ++ z)
    rw [hp] at g1
    have g2 := fun z => awake22_eq (h ++ z)
    simp only [Sib.v] at g1
    rw [s_round]
    simp [-getElem?_pos, c_tattlerlaw22_CoordApart_l0, hlt, hj, hx, g1, g2]
    done
  · rw [s_round]
    simp [c_tattlerlaw22_CoordApart_l0]
theorem apart_scan2 (h : Heap) (la lb : List Sib) (nA nB : Int) (hla : la.length ≤ 1000) (hlb : lb.length ≤ 1000) :
    (((∀ s ∈ la, s.may = true) ∧ ∀ s ∈ lb, s.may = true) ∧ loopRun (callL E) loopL h.length [0, 1, 2, 3, 51, 52] c_tattlerlaw22_CoordApart_l1 ⟨[(0, .sl (la.map Sib.v)), (1, .sl (lb.map Sib.v)), (2, .int .i64 nA), (3, .int .i64 nB), (51, .agg [.sl (la.map Sib.v), .sl (lb.map Sib.v)]), (52, .int .i64 0)], h, .no⟩ =
      some (.exit 0, ⟨[(0, .sl (la.map Sib.v)), (1, .sl (lb.map Sib.v)), (2, .int .i64 nA), (3, .int .i64 nB), (51, .agg [.sl (la.map Sib.v), .sl (lb.map Sib.v)]), (52, .int .i64 2), (53, .bool false)], h, .no⟩)) ∨
    ∃ x, loopRun (callL E) loopL h.length [0, 1, 2, 3, 51, 52] c_tattlerlaw22_CoordApart_l1 ⟨[(0, .sl (la.map Sib.v)), (1, .sl (lb.map Sib.v)), (2, .int .i64 nA), (3, .int .i64 nB), (51, .agg [.sl (la.map Sib.v), .sl (lb.map Sib.v)]), (52, .int .i64 0)], h, .no⟩ =
      some (.ret, ⟨[(8, .bool true)], h ++ [.cells x []], .no⟩) := by
  have w1 : IntKind.i64.wrap 1 = 1 := by rw [wrap_i64] <;> omega
  have w2 : IntKind.i64.wrap 2 = 2 := by rw [wrap_i64] <;> omega
  have hmla : (la.map Sib.v).length = la.length := by simp
  have hmlb : (lb.map Sib.v).length = lb.length := by simp
  have s0 := apart_scan h (la.map Sib.v) (lb.map Sib.v) nA nB 0 la hla
  have s1 := apart_scan h (la.map Sib.v) (lb.map Sib.v) nA nB 1 lb hlb
  generalize la.map Sib.v = LA at *
  generalize lb.map Sib.v = LB at *
  have rend : roundV (callL E) loopL h.length [0, 1, 2, 3, 51, 52] c_tattlerlaw22_CoordApart_l1 ⟨[(0, .sl LA), (1, .sl LB), (2, .int .i64 nA), (3, .int .i64 nB), (51, .agg [.sl LA, .sl LB]), (52, .int .i64 2)], h, .no⟩ =
      some (.exit 0, ⟨[(0, .sl LA), (1, .sl LB), (2, .int .i64 nA), (3, .int .i64 nB), (51, .agg [.sl LA, .sl LB]), (52, .int .i64 2), (53, .bool false)], h, .no⟩) := by
    rw [s_round]
    simp [c_tattlerlaw22_CoordApart_l1]
  rcases s0 with ⟨ha, p0⟩ | ⟨x, p0⟩
  · have r0 : roundV (callL E) loopL h.length [0, 1, 2, 3, 51, 52] c_tattlerlaw22_CoordApart_l1 ⟨[(0, .sl LA), (1, .sl LB), (2, .int .i64 nA), (3, .int .i64 nB), (51, .agg [.sl LA, .sl LB]), (52, .int .i64 0)], h, .no⟩ =
        some (.normal, ⟨[(0, .sl LA), (1, .sl LB), (2, .int .i64 nA), (3, .int .i64 nB), (51, .agg [.sl LA, .sl LB]), (52, .int .i64 1)], h, .no⟩) := by
      rw [s_round]
      simp [-getElem?_pos, c_tattlerlaw22_CoordApart_l1, hmla, p0, w1]
    rcases s1 with ⟨hb, p1⟩ | ⟨x, p1⟩
    · have r1 : roundV (callL E) loopL h.length [0, 1, 2, 3, 51, 52] c_tattlerlaw22_CoordApart_l1 ⟨[(0, .sl LA), (1, .sl LB), (2, .int .i64 nA), (3, .int .i64 nB), (51, .agg [.sl LA, .sl LB]), (52, .int .i64 1)], h, .no⟩ =
          some (.normal, ⟨[(0, .sl LA), (1, .sl LB), (2, .int .i64 nA), (3, .int .i64 nB), (51, .agg [.sl LA, .sl LB]), (52, .int .i64 2)], h, .no⟩) := by
        rw [s_round]
        simp [-getElem?_pos, c_tattlerlaw22_CoordApart_l1, hmlb, p1, w2]
      exact .inl ⟨⟨ha, hb⟩, loop_next r0 (loop_next r1 (loop_done rend rfl))⟩
    · have r1 : roundV (callL E) loopL h.length [0, 1, 2, 3, 51, 52] c_tattlerlaw22_CoordApart_l1 ⟨[(0, .sl LA), (1, .sl LB), (2, .int .i64 nA), (3, .int .i64 nB), (51, .agg [.sl LA, .sl LB]), (52, .int .i64 1)], h, .no⟩ =
          some (.ret, ⟨[(8, .bool true)], h ++ [.cells x []], .no⟩) := by
        rw [s_round]
        simp [-getElem?_pos, c_tattlerlaw22_CoordApart_l1, hmlb, p1, w2]
      exact .inr ⟨x, loop_next r0 (loop_done r1 rfl)⟩
  · have r0 : roundV (callL E) loopL h.length [0, 1, 2, 3, 51, 52] c_tattlerlaw22_CoordApart_l1 ⟨[(0, .sl LA), (1, .sl LB), (2, .int .i64 nA), (3, .int .i64 nB), (51, .agg [.sl LA, .sl LB]), (52, .int .i64 0)], h, .no⟩ =
        some (.ret, ⟨[(8, .bool true)], h ++ [.cells x []], .no⟩) := by
      rw [s_round]
      simp [-getElem?_pos, c_tattlerlaw22_CoordApart_l1, hmla, p0, w1]
    exact .inr ⟨x, loop_done r0 rfl⟩
end Go.Proofs.Ytklmddbnjookiaa.V
