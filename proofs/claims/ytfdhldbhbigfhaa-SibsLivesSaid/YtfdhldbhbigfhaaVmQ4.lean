/- SibsLives. -/
import Derived.Test.YtfdhldbhbigfhaaVmSE
import Derived.Test.YtfdhldbhbigfhaaVmTN
set_option linter.unusedVariables false
set_option linter.unusedSimpArgs false
namespace Go.Proofs.Ytfdhldbhbigfhaa.V
open Go.Vm

def deads : List Val → Nat
  | [] => 0
  | v :: l => cnd v.dead (deads l + 1) (deads l)
theorem deads_app (l : List Val) (v : Val) : deads (l ++ [v]) = cnd v.dead (deads l + 1) (deads l) := by
  induction l with
  | nil => cases h : v.dead <;> simp [deads, h]
  | cons u l ih =>
    simp only [List.cons_append, deads, ih]
    cases u.dead <;> cases v.dead <;> simp
theorem lives_deads (l : List Val) : (lives l).length + deads l = l.length := by
  induction l with
  | nil => rfl
  | cons v l ih =>
    simp only [lives, deads]
    cases v.dead <;> simp <;> omega
theorem lives_none {l : List Val} (h : (l.any fun v => !v.dead) = false) : lives l = [] ∧ deads l = l.length := by
  induction l with
  | nil => exact ⟨rfl, rfl⟩
  | cons v l ih =>
    simp only [List.any_cons, Bool.or_eq_false_iff, Bool.not_eq_false'] at h
    obtain ⟨h1, h2⟩ := ih h.2
    simp only [lives, deads, h.1, cnd_true, h1, h2]
    simp
theorem lives_some {l : List Val} (h : (l.any fun v => !v.dead) = true) : deads l < l.length := by
  induction l with
  | nil => cases h
  | cons v l ih =>
    simp only [List.any_cons, Bool.or_eq_true, Bool.not_eq_true'] at h
    have h2 := lives_deads l
    simp only [deads, List.length_cons]
    cases hv : v.dead with
    | false => simp only [cnd_false]; omega
    | true =>
      rw [hv] at h
      have := ih (by simpa using h)
      simp only [cnd_true]; omega
theorem deads_loop (s : Sib) (hs : s.may = true) (h : Heap) :
    loopRun (callL E) loopL h.length [1, 3, 24, 25, 26] c_tattlerlaw5_SibsLives_l0 ⟨[(1, .ptr (some (h.length, 0))), (3, .int .i64 0), (24, .sl (s.vals.map Val.v)), (25, .int .i64 s.vals.length), (26, .int .i64 0)], h ++ [.cells s.c []], .no⟩ =
      some (.exit 0, ⟨[(1, .ptr (some (h.length, 0))), (3, .int .i64 (deads s.vals)), (24, .sl (s.vals.map Val.v)), (25, .int .i64 s.vals.length), (26, .int .i64 s.vals.length), (27, .bool false)], h ++ [.cells s.c []], .no⟩) := by
  have key := loop_to (C := callL E) (fb := h.length) (live := [1, 3, 24, 25, 26]) (c := c_tattlerlaw5_SibsLives_l0)
    (fun j => ⟨[(1, .ptr (some (h.length, 0))), (3, .int .i64 (deads (s.vals.take j))), (24, .sl (s.vals.map Val.v)), (25, .int .i64 s.vals.length), (26, .int .i64 j)], h ++ [.cells s.c []], .no⟩) s.vals.length
    (r := (.exit 0, ⟨[(1, .ptr (some (h.length, 0))), (3, .int .i64 (deads s.vals)), (24, .sl (s.vals.map Val.v)), (25, .int .i64 s.vals.length), (26, .int .i64 s.vals.length), (27, .bool false)], h ++ [.cells s.c []], .no⟩)) (fun j hj => ?_) ?_ rfl
  · rw [show ((0 : Nat) : Int) = 0 from rfl, List.take_zero, show deads [] = 0 from rfl, show ((0 : Nat) : Int) = 0 from rfl] at key
    exact key
  · obtain ⟨v, hx, _, hm⟩ := get_of_lt (l := s.vals) (i := j) hj
    have hlt : (j : Int) < (s.vals.length : Int) := by omega
    have hs16 := may_len hs
    have h1 := i64_add1 (n := j) (by omega)
    have e1 : deads (s.vals.take (j + 1)) = cnd v.dead (deads (s.vals.take j) + 1) (deads (s.vals.take j)) := by rw [List.take_add_one, hx]; exact deads_app _ _
    have h2 := lives_deads (s.vals.take j)
    rw [List.length_take] at h2
    have h3 := i64_add1 (n := deads (s.vals.take j)) (by omega)
    rw [e1]
    generalize deads (s.vals.take j) = D at *
    rw [s_round]
    cases hd : v.dead with
    | true => simp [-getElem?_pos, c_tattlerlaw5_SibsLives_l0, hlt, hx, h1, hj, hd, h3]
    | false => simp [-getElem?_pos, c_tattlerlaw5_SibsLives_l0, hlt, hx, h1, hj, hd]
  · rw [s_round, List.take_length]
    simp [c_tattlerlaw5_SibsLives_l0]
set_option maxRecDepth 4000 in
theorem SibsLives_eq (s : Sib) (h : Heap) : callL E F.tattlerlaw5_SibsLives [s.v] h = some (.bool true, h, .no) := by
  refine callL_of rfl fn_tattlerlaw5_SibsLives ?_
  have g1 := fun l => r5May_eq s (h ++ l)
  have g5 := fun l => awake5_eq (h ++ l)
  have l1 := fun l => live_eq s (h ++ l)
  have d1 := fun l => sibsDots_eq s (h ++ l)
  have r1 := fun l => reap_eq s (h ++ l)
  simp only [Sib.v] at g1 l1 d1 r1
  cases hs : s.may with
  | false =>
    rw [hs] at g1
    have e1 : liveS s = [] := by unfold liveS; rw [hs]; rfl
    have e2 : dotsS s = [] := by unfold dotsS; rw [hs]; rfl
    rw [e1] at l1
    rw [e2] at d1
    simp [-getElem?_pos, c_tattlerlaw5_SibsLives, g1, g5, l1, d1]
  | true =>
    rw [hs] at g1
    have lp := deads_loop s hs h
    have hs16 := may_len hs
    have e1 : (liveS s) = lives s.vals := by unfold liveS; rw [hs]; rfl
    have e2 : (dotsS s).length = s.vals.length := by unfold dotsS; rw [hs]; simp [sdots]
    have e3 := lives_deads s.vals
    have hrm := reap_may hs
    have e6 : (liveS (reapS s)) = lives (reapS s).vals := by unfold liveS; rw [hrm]; rfl
    have l2 := fun l => live_eq (reapS s) (h ++ l)
    have r2 := fun l => reap_eq (reapS s) (h ++ l)
    have rr : reapS (reapS s) = reapS s := by
      rcases reap_cases hs with ⟨h1, h2⟩ | ⟨h1, h2⟩
      · rw [h1, h1]
      · rcases reap_cases hrm with ⟨h3, h4⟩ | ⟨h3, h4⟩
        · exact h3
        · rw [h3]
          have : (reapS s).vals = [] := by rw [h1]
          cases hh : reapS s with
          | mk a b => rw [hh] at this; simp only at this; rw [this]
    rw [rr] at r2
    have s1 := fun l => sibsSame_eq (reapS s) (reapS s) (by have := may_len hrm; omega) (h ++ l)
    have s2 := fun l => sibsSame_eq (reapS s) s (by have := may_len hrm; omega) (h ++ l)
    have hseen := reap_seen hs
    have t1 : (reapS s).c.take 8 = (reapS s).seen.c := Sib.c_seen _
    have hw : IntKind.wrap .i64 (((lives s.vals).length : Int) + (deads s.vals : Int)) = (s.vals.length : Int) := by rw [wrap_i64] <;> omega
    rw [e1] at l1
    rw [e6] at l2
    have len1 : ((lives s.vals).map bytesV).length = (lives s.vals).length := by simp
    have len2 : ((dotsS s).map Dot.v).length = s.vals.length := by simpa using e2
    have len3 : ((lives (reapS s).vals).map bytesV).length = (lives s.vals).length := by
      rcases reap_cases hs with ⟨h1, h2⟩ | ⟨h1, h2⟩
      · rw [h1]; simp
      · rw [h1, (lives_none h2).1]; rfl
    have fin : decide (reapS s = s) = (decide ((deads s.vals : Int) < (s.vals.length : Int)) || ((deads s.vals : Int) == 0)) := by
      rcases reap_cases hs with ⟨h1, h2⟩ | ⟨h1, h2⟩
      · have := lives_some h2
        rw [decide_eq_true h1, decide_eq_true (by omega)]; rfl
      · have h3 := (lives_none h2).2
        rw [decide_eq_false (p := (deads s.vals : Int) < (s.vals.length : Int)) (by omega), Bool.false_or, Bool.eq_iff_iff, decide_eq_true_eq, beq_iff_eq, h3, h1]
        constructor
        · intro e
          have : s.vals = [] := by rw [← e]
          rw [this]; rfl
        · intro e
          have : s.vals = [] := List.length_eq_zero_iff.1 (by omega)
          cases s
          simp only at this
          rw [this]
    simp only [Sib.v, decide_true] at l2 r2 s1 s2
    generalize (lives s.vals).map bytesV = LS at *
    generalize (lives (reapS s).vals).map bytesV = LR at *
    generalize (dotsS s).map Dot.v = DS at *
    generalize hRe : decide (reapS s = s) = RE at *
    generalize reapS s = Rr at *
    have t2 : Rr.c.take 8 = s.seen.c := by rw [t1, hseen]
    cases RE with
    | true =>
      by_cases hd : (deads s.vals : Int) < (s.vals.length : Int)
      · simp [-getElem?_pos, c_tattlerlaw5_SibsLives, g1, g5, l1, d1, r1, lp, l2, r2, s1, s2, len1, len2, len3, hw, t2, Vec.eq_cells, hd]
        done
      · have hd0 : ((deads s.vals : Int) == 0) = true := by
          rw [decide_eq_false hd] at fin
          simpa using fin.symm
        simp [-getElem?_pos, c_tattlerlaw5_SibsLives, g1, g5, l1, d1, r1, lp, l2, r2, s1, s2, len1, len2, len3, hw, t2, Vec.eq_cells, hd, hd0]
        done
    | false =>
      have h9 := fin.symm
      rw [Bool.or_eq_false_iff] at h9
      have hd : ¬ (deads s.vals : Int) < (s.vals.length : Int) := by simpa using h9.1
      have hd0 := h9.2
      simp [-getElem?_pos, c_tattlerlaw5_SibsLives, g1, g5, l1, d1, r1, lp, l2, r2, s1, s2, len1, len2, len3, hw, t2, Vec.eq_cells, hd, hd0]
      done
theorem tattlerlaw5_SibsLives_top {c0 : List V} (h0 : Ty.Has sibT c0) : ∃ h fl, callL E F.tattlerlaw5_SibsLives [Ty.el sibT c0] [] = some (.bool true, h, fl) := by
  obtain ⟨a, wa, rfl⟩ := Sib.dec h0
  exact ⟨_, _, SibsLives_eq a []⟩
end Go.Proofs.Ytfdhldbhbigfhaa.V
