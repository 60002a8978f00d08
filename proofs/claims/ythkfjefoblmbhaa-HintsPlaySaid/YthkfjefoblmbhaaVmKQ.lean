/- What 'tattlerref5.Same' computes. -/
import Derived.Test.YthkfjefoblmbhaaVmKS
import Derived.Test.YthkfjefoblmbhaaVmG5
set_option linter.unusedVariables false
set_option linter.unusedSimpArgs false
namespace Go.Proofs.Ythkfjefoblmbhaa.V
open Go.Vm

theorem same_loop (a b : List Val) (hl : a.length = b.length) (hb : a.length ≤ 1099511627776) (s : Vec) (i : Nat) (h : Heap) (fb : Nat) (hfb : fb ≤ h.length) (hi : hget h i = some (.cells (Sib.c ⟨s, b⟩) [])) : ∀ (k j : Nat), j + k = a.length →
    (a.drop j = b.drop j ∧ loopRun (callL E) loopL fb [3, 23, 24, 25] c_tattlerref5_Same_l0 ⟨[(3, .ptr (some (i, 0))), (23, .sl (a.map Val.v)), (24, .int .i64 a.length), (25, .int .i64 j)], h, .no⟩ =
      some (.exit 0, ⟨[(3, .ptr (some (i, 0))), (23, .sl (a.map Val.v)), (24, .int .i64 a.length), (25, .int .i64 a.length), (26, .bool false)], h, .no⟩)) ∨
    (a.drop j ≠ b.drop j ∧ ∃ l, loopRun (callL E) loopL fb [3, 23, 24, 25] c_tattlerref5_Same_l0 ⟨[(3, .ptr (some (i, 0))), (23, .sl (a.map Val.v)), (24, .int .i64 a.length), (25, .int .i64 j)], h, .no⟩ = some (.ret, ⟨[(4, .bool false)], h ++ l, .no⟩)) := by
  intro k
  induction k with
  | zero =>
    intro j hj
    have : j = a.length := by omega
    subst this
    refine .inl ⟨by rw [List.drop_length, hl, List.drop_length], loop_exit ?_⟩
    rw [s_round]
    simp [c_tattlerref5_Same_l0]
  | succ k ih =>
    intro j hj
    have hlt : (j : Int) < (a.length : Int) := by omega
    obtain ⟨x, hx, hdx, _⟩ := get_of_lt (l := a) (i := j) (by omega)
    obtain ⟨y, hy, hdy, _⟩ := get_of_lt (l := b) (i := j) (by omega)
    have h1 := i64_add1 (n := j) (by omega)
    have hil := hget_lt hi
    have hfb' : fb ≤ h.length + 1 := by omega
    have gi : hget (h ++ [.cells x.c []]) i = some (.cells (Sib.c ⟨s, b⟩) []) := by rw [hget_app hil]; exact hi
    have hdr : x.c.drop 4 = [] := rfl
    have hdr' : y.c.drop 4 = [] := rfl
    by_cases hxy : x = y
    · subst hxy
      have h4 : roundV (callL E) loopL fb [3, 23, 24, 25] c_tattlerref5_Same_l0 ⟨[(3, .ptr (some (i, 0))), (23, .sl (a.map Val.v)), (24, .int .i64 a.length), (25, .int .i64 j)], h, .no⟩ =
          some (.normal, ⟨[(3, .ptr (some (i, 0))), (23, .sl (a.map Val.v)), (24, .int .i64 a.length), (25, .int .i64 ((j + 1 : Nat) : Int))], h, .no⟩) := by
        rw [s_round]
        simp [-getElem?_pos, c_tattlerref5_Same_l0, hlt, hx, hy, gi, h1, hfb, hfb', Dot.eq_cells, hil]
      rw [hdx, hdy]
      rcases ih (j + 1) (by omega) with ⟨h5, h6⟩ | ⟨h5, l, h6⟩
      · exact .inl ⟨by rw [h5], loop_next h4 h6⟩
      · exact .inr ⟨fun h => h5 (List.cons.inj h).2, l, loop_next h4 h6⟩
    · refine .inr ⟨fun h => hxy (by rw [hdx, hdy] at h; exact (List.cons.inj h).1), [.cells x.c [], .cells y.c []], loop_ret ?_⟩
      rw [s_round]
      by_cases e1 : x.dot = y.dot
      · by_cases e2 : x.dead = y.dead
        · have e3 : (x.data == y.data) = false := by
            by_cases e : x.data = y.data
            · exact absurd (by cases x; cases y; simp_all) hxy
            · simpa using e
          simp [-getElem?_pos, c_tattlerref5_Same_l0, hlt, hx, hy, gi, h1, hfb, hfb', Dot.eq_cells, e1, e2, e3]
        · have e3 : (x.dead == y.dead) = false := by simpa using e2
          simp [-getElem?_pos, c_tattlerref5_Same_l0, hlt, hx, hy, gi, h1, hfb, hfb', Dot.eq_cells, e1, e3]
      · simp [-getElem?_pos, c_tattlerref5_Same_l0, hlt, hx, hy, gi, h1, hfb, hfb', Dot.eq_cells, e1]
theorem same_eq (a b : Sib) (hb : a.vals.length ≤ 1099511627776) (h : Heap) : callL E F.tattlerref5_Same [a.v, b.v] h = some (.bool (decide (a = b)), h, .no) := by
  refine callL_of rfl fn_tattlerref5_Same ?_
  obtain ⟨s, a⟩ := a
  obtain ⟨t, b⟩ := b
  by_cases hs : s = t
  · subst hs
    by_cases hl : a.length = b.length
    · rcases same_loop a b hl hb s (h.length + 1) (h ++ [.cells (Sib.c ⟨s, a⟩) [], .cells (Sib.c ⟨s, b⟩) []]) h.length (by simp) (by simp) a.length 0 (by omega) with ⟨h1, h2⟩ | ⟨h1, l, h2⟩
      · have : a = b := by simpa using h1
        subst this
        rw [show ((0 : Nat) : Int) = 0 from rfl] at h2
        simp [-getElem?_pos, c_tattlerref5_Same, h2, Vec.eq_cells]
      · have : a ≠ b := by simpa using h1
        rw [show ((0 : Nat) : Int) = 0 from rfl] at h2
        have hle : ((a.length : Int) == (b.length : Int)) = true := by simp [hl]
        simp [-getElem?_pos, c_tattlerref5_Same, h2, Vec.eq_cells, hle, this]
    · have h1 : ((a.length : Int) == (b.length : Int)) = false := by simp; omega
      have h2 : a ≠ b := fun h => hl (by rw [h])
      simp [-getElem?_pos, c_tattlerref5_Same, Vec.eq_cells, h1, h2]
  · simp [-getElem?_pos, c_tattlerref5_Same, Vec.eq_cells, hs]
end Go.Proofs.Ythkfjefoblmbhaa.V
