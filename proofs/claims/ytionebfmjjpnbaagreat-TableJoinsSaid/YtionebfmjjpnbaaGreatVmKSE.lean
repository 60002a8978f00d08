/- What 'tattlerref5.SameEntries' computes. -/
import Derived.Test.YtionebfmjjpnbaaGreatVmKQ
set_option linter.unusedVariables false
set_option linter.unusedSimpArgs false
namespace Go.Proofs.YtionebfmjjpnbaaGreat.V
open Go.Vm

theorem sameEntries_loop (a b : List Ent) (hl : a.length = b.length) (hb : a.length ≤ 1099511627776) (hs : ∀ e ∈ a, e.sib.vals.length ≤ 1099511627776) (h : Heap) (fb : Nat) : ∀ (k j : Nat), j + k = a.length →
    (a.drop j = b.drop j ∧ loopRun (callL E) loopL fb [0, 1, 12, 13] c_tattlerref5_SameEntries_l0 ⟨[(0, .sl (a.map Ent.v)), (1, .sl (b.map Ent.v)), (12, .int .i64 a.length), (13, .int .i64 j)], h, .no⟩ =
      some (.exit 0, ⟨[(0, .sl (a.map Ent.v)), (1, .sl (b.map Ent.v)), (12, .int .i64 a.length), (13, .int .i64 a.length), (14, .bool false)], h, .no⟩)) ∨
    (a.drop j ≠ b.drop j ∧ loopRun (callL E) loopL fb [0, 1, 12, 13] c_tattlerref5_SameEntries_l0 ⟨[(0, .sl (a.map Ent.v)), (1, .sl (b.map Ent.v)), (12, .int .i64 a.length), (13, .int .i64 j)], h, .no⟩ = some (.ret, ⟨[(4, .bool false)], h, .no⟩)) := by
  intro k
  induction k with
  | zero =>
    intro j hj
    have : j = a.length := by omega
    subst this
    refine .inl ⟨by rw [List.drop_length, hl, List.drop_length], loop_exit ?_⟩
    rw [s_round]
    simp [c_tattlerref5_SameEntries_l0]
  | succ k ih =>
    intro j hj
    have hlt : (j : Int) < (a.length : Int) := by omega
    obtain ⟨x, hx, hdx, hm⟩ := get_of_lt (l := a) (i := j) (by omega)
    obtain ⟨y, hy, hdy, _⟩ := get_of_lt (l := b) (i := j) (by omega)
    have h1 := i64_add1 (n := j) (by omega)
    have h2 := same_eq x.sib y.sib (hs x hm) h
    by_cases hxy : x = y
    · subst hxy
      have h4 : roundV (callL E) loopL fb [0, 1, 12, 13] c_tattlerref5_SameEntries_l0 ⟨[(0, .sl (a.map Ent.v)), (1, .sl (b.map Ent.v)), (12, .int .i64 a.length), (13, .int .i64 j)], h, .no⟩ =
          some (.normal, ⟨[(0, .sl (a.map Ent.v)), (1, .sl (b.map Ent.v)), (12, .int .i64 a.length), (13, .int .i64 ((j + 1 : Nat) : Int))], h, .no⟩) := by
        rw [s_round]
        simp [-getElem?_pos, c_tattlerref5_SameEntries_l0, hlt, hx, hy, h1, h2]
      rw [hdx, hdy]
      rcases ih (j + 1) (by omega) with ⟨h5, h6⟩ | ⟨h5, h6⟩
      · exact .inl ⟨by rw [h5], loop_next h4 h6⟩
      · exact .inr ⟨fun h => h5 (List.cons.inj h).2, loop_next h4 h6⟩
    · refine .inr ⟨fun h => hxy (by rw [hdx, hdy] at h; exact (List.cons.inj h).1), loop_ret ?_⟩
      rw [s_round]
      by_cases e1 : x.key = y.key
      · have e2 : ¬ x.sib = y.sib := fun e => hxy (by cases x; cases y; simp_all)
        simp [-getElem?_pos, c_tattlerref5_SameEntries_l0, hlt, hx, hy, h1, h2, e1, e2]
      · have e3 : (x.key == y.key) = false := by simpa using e1
        simp [-getElem?_pos, c_tattlerref5_SameEntries_l0, hlt, hx, hy, h1, h2, e3]
theorem sameEntries_eq (a b : List Ent) (hb : a.length ≤ 1099511627776) (hs : ∀ e ∈ a, e.sib.vals.length ≤ 1099511627776) (h : Heap) :
    callL E F.tattlerref5_SameEntries [.sl (a.map Ent.v), .sl (b.map Ent.v)] h = some (.bool (decide (a = b)), h, .no) := by
  refine callL_of rfl fn_tattlerref5_SameEntries ?_
  by_cases hl : a.length = b.length
  · rcases sameEntries_loop a b hl hb hs h h.length a.length 0 (by omega) with ⟨h1, h2⟩ | ⟨h1, h2⟩
    · have : a = b := by simpa using h1
      subst this
      rw [show ((0 : Nat) : Int) = 0 from rfl] at h2
      simp [-getElem?_pos, c_tattlerref5_SameEntries, h2]
    · have : a ≠ b := by simpa using h1
      rw [show ((0 : Nat) : Int) = 0 from rfl] at h2
      have hle : ((a.length : Int) == (b.length : Int)) = true := by simp [hl]
      simp [-getElem?_pos, c_tattlerref5_SameEntries, h2, hle, this]
  · have h1 : ((a.length : Int) == (b.length : Int)) = false := by simp; omega
    have h2 : a ≠ b := fun h => hl (by rw [h])
    simp [-getElem?_pos, c_tattlerref5_SameEntries, h1, h2]
end Go.Proofs.YtionebfmjjpnbaaGreat.V
