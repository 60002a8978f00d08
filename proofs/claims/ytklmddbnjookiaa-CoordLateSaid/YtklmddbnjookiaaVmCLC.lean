/- CoordLate: the law. -/
import Derived.Test.YtklmddbnjookiaaVmCLB
set_option linter.unusedVariables false
set_option linter.unusedSimpArgs false
set_option linter.unusedSectionVars false
namespace Go.Proofs.Ytklmddbnjookiaa.V
open Go.Vm

theorem mod8 (a : Int) : ∃ n : Nat, n < 8 ∧ IntKind.i64.wrap ((IntKind.u64.wrap a).tmod 8) = (n : Int) := modN a 8 (by omega) (by omega)
theorem mod5 (a : Int) : ∃ n : Nat, n < 5 ∧ IntKind.i64.wrap ((IntKind.u64.wrap a).tmod 5) = (n : Int) := modN a 5 (by omega) (by omega)
theorem late_loop (h : Heap) (b need : Nat) (hb : b = h.length) (hn : need ≤ 1000) (ns : List Int) (hns : ns.length ≤ 140737488355328) (H0 : Heap) (y0 : ∃ hs S, LAt b need h H0 hs S) :
    ∃ r, loopRun (callL E) loopL b [0, 5, 6, 8, 10, 48, 49, 50] c_tattlerlaw22_CoordLate_l0 ⟨[(0, .int .i64 need), (5, .ptr (some (b + 1, 0))), (6, .int .i64 1), (8, .int .i64 2), (10, .map (some (b + 10))), (48, .sl (ns.map (.int .i64))), (49, .int .i64 ns.length), (50, .int .i64 0)], H0, ⟨[], [b], false⟩⟩ = some r ∧
      ((∃ H, (∃ hs S, LAt b need h H hs S) ∧ r = (.exit 0, ⟨[(0, .int .i64 need), (5, .ptr (some (b + 1, 0))), (6, .int .i64 1), (8, .int .i64 2), (10, .map (some (b + 10))), (48, .sl (ns.map (.int .i64))), (49, .int .i64 ns.length), (50, .int .i64 ns.length), (51, .bool false)], H, ⟨[], [b], false⟩⟩)) ∨
       (∃ H x j, (∃ hs S, LAt b need h H hs S) ∧ r = (.exit 0, ⟨[(0, .int .i64 need), (5, .ptr (some (b + 1, 0))), (6, .int .i64 1), (8, .int .i64 2), (10, .map (some (b + 10))), (12, x), (48, .sl (ns.map (.int .i64))), (49, .int .i64 ns.length), (50, .int .i64 j), (56, .bool true)], H, ⟨[], [b], false⟩⟩))) := by
  refine loop_inv0 (C := callL E) (fb := b) (live := [0, 5, 6, 8, 10, 48, 49, 50]) (c := c_tattlerlaw22_CoordLate_l0)
    (fun j s => ∃ H, (∃ hs S, LAt b need h H hs S) ∧ s = ⟨[(0, .int .i64 need), (5, .ptr (some (b + 1, 0))), (6, .int .i64 1), (8, .int .i64 2), (10, .map (some (b + 10))), (48, .sl (ns.map (.int .i64))), (49, .int .i64 ns.length), (50, .int .i64 j)], H, ⟨[], [b], false⟩⟩) _ ns.length (fun j hj s hs => ?_) (fun s hs => ?_) ⟨H0, y0, rfl⟩
  · obtain ⟨H, ⟨hs, S, y⟩, rfl⟩ := hs
    obtain ⟨x, hx, _, _⟩ := get_of_lt hj
    have hlt : (j : Int) < (ns.length : Int) := by omega
    have h1 := i64_add1 (n := j) (by omega)
    by_cases h30 : 30 ≤ j
    · right
      refine ⟨_, ?_, ?_, .inr ⟨H, .int .i64 x, j, ⟨hs, S, y⟩, rfl⟩⟩
      · have e30 : (30 : Int) ≤ (j : Int) := by omega
        rw [s_round]
        simp [-getElem?_pos, c_tattlerlaw22_CoordLate_l0, hlt, hj, hx, h1, e30]
        done
      · rfl
    · left
      have e30 : ¬ (30 : Int) ≤ (j : Int) := by omega
      obtain ⟨n, hn8, hmod⟩ := mod8 x
      obtain ⟨nodes, H2, f2, H3, f3, ok, g1, c1, g2, c2, g3, g4, hok, hs', y3⟩ := late_calls y hn8 rfl
      have hlen := y.len
      have h3l := y3.len
      have lk := findV_seen n S
      have pv := putV_seen n S
      have hseen := y.seen
      have hseen2 : hget (hset H (b + 10) (.map (seenM (if n ∈ S then S else S ++ [n])))) (b + 10) = some (.map (seenM (if n ∈ S then S else S ++ [n]))) := hsets (by omega) _
      have hl' : (seenM (if n ∈ S then S else S ++ [n])).length = (if n ∈ S then S else S ++ [n]).length := seenM_len _
      have hS'l : (if n ∈ S then S else S ++ [n]).length ≤ 8 := by
        have h1 := y3.cnt
        have h2 := cntN_le hs'
        have h3 := y3.hl
        omega
      refine ⟨⟨[(0, .int .i64 need), (5, .ptr (some (b + 1, 0))), (6, .int .i64 1), (8, .int .i64 2), (10, .map (some (b + 10))), (48, .sl (ns.map (.int .i64))), (49, .int .i64 ns.length), (50, .int .i64 ((j + 1 : Nat) : Int))], H3, ⟨[], [b], false⟩⟩, ?_, H3, ⟨hs', _, y3⟩, rfl⟩
      have hz : (⟨[107], zeroSib⟩ : Ent).v = .agg [.str [107], .int .i64 0, .int .i64 0, .int .i64 0, .int .i64 0, .int .i64 0, .int .i64 0, .int .i64 0, .int .i64 0, .sl []] := rfl
      rw [hz] at g1 g4
      have tk : List.take H.length H3 = H3 := List.take_of_length_le (by omega)
      have nb : ¬ b + 10 < b := by omega
      have lb1 : b + 1 < H.length := by omega
      have lb10 : b + 10 < H.length := by omega
      generalize (if n ∈ S then S else S ++ [n]) = S' at *
      have hne : (((S'.length : Nat) : Int) == (need : Int)) = decide (S'.length = need) := by
        by_cases e : S'.length = need
        · simp [e]
        · rw [decide_eq_false e]; simp; omega
      have hb10 : b < H.length := by omega
      by_cases hin : n ∈ S
      · rw [if_pos hin] at lk
        simp only [hin, not_true_eq_false, decide_false, Bool.false_and] at hok
        subst hok
        rw [s_round]
        simp [-getElem?_pos, c_tattlerlaw22_CoordLate_l0, hlt, hj, hx, h1, e30, hmod, hseen, hseen2, lk, pv, isKey, found, mapupdV, mapAt, nb, lb1, lb10, hl', hne, g1, g2, g3, g4, c1, c2, tk, hb10]
        done
      · rw [if_neg hin] at lk
        simp only [hin, not_false_eq_true, decide_true, Bool.true_and] at hok
        rw [← hok] at hne
        rw [s_round]
        simp [-getElem?_pos, c_tattlerlaw22_CoordLate_l0, hlt, hj, hx, h1, e30, hmod, hseen, hseen2, lk, pv, isKey, found, mapupdV, mapAt, nb, lb1, lb10, hl', hne, g1, g2, g3, g4, c1, c2, tk, hb10]
        done
  · obtain ⟨H, y, rfl⟩ := hs
    refine ⟨_, ?_, ?_, .inl ⟨H, y, rfl⟩⟩
    · rw [s_round]
      simp [c_tattlerlaw22_CoordLate_l0]
    · rfl
theorem late_tail {b need : Nat} {h H : Heap} {hs : List Bool} {S : List Nat} (y : LAt b need h H hs S) :
    ∃ (left : Nat) (A : List V) (H2 : Heap), left = (if need ≤ S.length then 0 else 2) ∧ A.length = 2 - left ∧ callL E F.coord_Coord_Len [.ptr (some (b + 1, 0))] H = some (.int .i64 left, H, .no) ∧
      callL E F.coord_Coord_Answers [.ptr (some (b + 1, 0))] H = some (.sl A, H2, .w [b + 1]) ∧ H2.take b = h := by
  have hc0 := y.cnt
  rcases y.way with ⟨hc, t, u1, u2⟩ | ⟨hc, ans, ha, t⟩
  · refine ⟨2, _, _, by rw [if_neg (by omega)], ?_, coordLen_eq t, coordAnswers_eq t, ?_⟩
    · rfl
    · rw [take_hset_le (by omega)]; exact y.pre
  · refine ⟨0, _, _, by rw [if_pos (by omega)], ?_, coordLen_eq t, coordAnswers_eq t, ?_⟩
    · simp [ha]
    · rw [take_hset_le (by omega)]; exact y.pre
theorem CoordLate_eq (a : Int) (ns : List Int) (hns : ns.length ≤ 140737488355328) (h : Heap) : callL E F.tattlerlaw22_CoordLate [.int .i64 a, .sl (ns.map (.int .i64))] h = some (.bool true, h, .no) := by
  refine callL_of rfl fn_tattlerlaw22_CoordLate ?_
  obtain ⟨n0, hn0, hmod⟩ := mod5 a
  obtain ⟨need, hneed⟩ : ∃ n, n = n0 + 2 := ⟨_, rfl⟩
  have hw : IntKind.i64.wrap ((n0 : Int) + 2) = (need : Int) := by rw [wrap_i64] <;> omega
  have g1 := coordNew_eq 9 h
  rw [show h ++ [.map [], coordO (max 1 9) 0 h.length []] = new0 h 9 from rfl] at g1
  have t0 := new0_at h 9
  have l0 := new0_len h 9
  have hz : zeroSib.v = .agg [.int .i64 0, .int .i64 0, .int .i64 0, .int .i64 0, .int .i64 0, .int .i64 0, .int .i64 0, .int .i64 0, .sl []] := rfl
  have g2 := coordWrite_ok t0 0 need (by omega) (by omega) [107] zeroSib kZero_may (by simp) (by omega) (by omega) rfl
  have t1 := begun_at t0 0 need [107] zeroSib true
  have b1 := begun_len (h := new0 h 9) (i := h.length + 1) (mi := h.length) (wait := 9) (last := 0) (ans := []) (ops := []) 0 need [107] zeroSib true
  have y0 := late_start h need (by omega)
  rw [l0] at t1 b1
  simp only [List.nil_append] at t1
  rw [show h.length + 2 + 3 = h.length + 5 by omega, show (0 : Int) + 1 = 1 from rfl] at t1
  generalize begun (new0 h 9) (h.length + 1) h.length 9 0 [] [] 0 need [107] zeroSib true = H1 at *
  have g3 := coordRead_ok t1 0 need (by omega) (by omega) [107] zeroSib kZero_may (by simp) (by omega) (by omega) rfl
  have b2 := begun_len (h := H1) (i := h.length + 1) (mi := h.length) (wait := 9) (last := 1) (ans := []) (ops := [(1, h.length + 5)]) 0 need [107] zeroSib false
  rw [b1] at b2
  generalize begun H1 (h.length + 1) h.length 9 1 [] [(1, h.length + 5)] 0 need [107] zeroSib false = H2 at *
  rw [hz] at g2 g3
  simp only [show ((0 : Nat) : Int) = 0 from rfl, show (0 : Int) + 1 = 1 from rfl, show (1 : Int) + 1 = 2 from rfl] at g2 g3
  obtain ⟨r, lp, hr⟩ := late_loop h h.length need rfl (by omega) ns hns _ ⟨_, _, y0⟩
  have hs0 : seenM [0] = [(.int .i64 0, .int .i64 1)] := rfl
  rw [hs0] at lp
  have e10 : h.length + 10 = H2.length := by omega
  have hpm : putV .i (.int .i64 0) (.int .i64 1) [] = some [(.int .i64 0, .int .i64 1)] := rfl
  have nb : ¬ H2.length < h.length := by omega
  have n2 : h.length ≤ h.length + 1 := by omega
  have hk0 : ∀ H : Heap, (∃ hs S, LAt h.length need h H hs S) → ∃ (m left : Nat) (es : List (V × V)) (A : List V) (H3 : Heap), es.length = m ∧ left = (if need ≤ m then 0 else 2) ∧ A.length = 2 - left ∧ hget H (h.length + 10) = some (.map es) ∧ h.length + 10 < H.length ∧
      callL E F.coord_Coord_Len [.ptr (some (h.length + 1, 0))] H = some (.int .i64 left, H, .no) ∧ callL E F.coord_Coord_Answers [.ptr (some (h.length + 1, 0))] H = some (.sl A, H3, .w [h.length + 1]) ∧ H3.take h.length = h := fun H ⟨hs, S, y⟩ => by
    obtain ⟨left, A, H3, e1, e2, e3, e4, e5⟩ := late_tail y
    exact ⟨S.length, left, seenM S, A, H3, seenM_len S, e1, e2, y.seen, by have := y.len; omega, e3, e4, e5⟩
  have fin : ∀ (H : Heap) (rs : Regs), (∃ hs S, LAt h.length need h H hs S) → loopRun (callL E) loopL h.length [0, 5, 6, 8, 10, 48, 49, 50] c_tattlerlaw22_CoordLate_l0 ⟨[(0, .int .i64 need), (5, .ptr (some (h.length + 1, 0))), (6, .int .i64 1), (8, .int .i64 2), (10, .map (some (h.length + 10))), (48, .sl (ns.map (.int .i64))), (49, .int .i64 ns.length), (50, .int .i64 0)], H2 ++ [.map [(.int .i64 0, .int .i64 1)]], ⟨[], [h.length], false⟩⟩ = some (.exit 0, ⟨(0, .int .i64 need) :: (5, .ptr (some (h.length + 1, 0))) :: (6, .int .i64 1) :: (8, .int .i64 2) :: (10, .map (some (h.length + 10))) :: rs, H, ⟨[], [h.length], false⟩⟩) →
      bnd (evalCode (callL E) loopL h.length c_tattlerlaw22_CoordLate.body h.length ⟨initR [V.int .i64 a, .sl (ns.map (.int .i64))] 0, h, .no⟩) (finish h.length c_tattlerlaw22_CoordLate.res) = some (.bool true, h, .no) := by
    intro H rs hy lp
    obtain ⟨m, left, es, A, H3, k1, k2, k3, k4, k5, k6, k7, k8⟩ := hk0 H hy
    have k9 := awake22_eq H3
    have hml : (ns.map (V.int .i64)).length = ns.length := by simp
    rw [e10] at lp k4 k5
    generalize ns.map (V.int .i64) = NV at *
    by_cases hm : need ≤ m
    · have hm' : (need : Int) ≤ (m : Int) := by omega
      rw [if_pos hm] at k2
      subst k2
      have w2 : IntKind.i64.wrap 2 = 2 := by rw [wrap_i64] <;> omega
      simp only [show ((0 : Nat) : Int) = 0 from rfl] at k6
      simp [-getElem?_pos, c_tattlerlaw22_CoordLate, hmod, hw, g1, g2, g3, hml, isKey, mapupdV, mapAt, hpm, nb, lp, k1, k3, k4, k5, k6, k7, k8, k9, hm', w2, finish, resV, one, finishV]
      done
    · have hm' : ¬ (need : Int) ≤ (m : Int) := by omega
      rw [if_neg hm] at k2
      subst k2
      have w0 : IntKind.i64.wrap 0 = 0 := by rw [wrap_i64] <;> omega
      simp only [show ((2 : Nat) : Int) = 2 from rfl] at k6
      simp [-getElem?_pos, c_tattlerlaw22_CoordLate, hmod, hw, g1, g2, g3, hml, isKey, mapupdV, mapAt, hpm, nb, lp, k1, k3, k4, k5, k6, k7, k8, k9, hm', w0, finish, resV, one, finishV]
      done
  rcases hr with ⟨H, hy, rfl⟩ | ⟨H, x, j, hy, rfl⟩
  · exact fin H _ hy lp
  · exact fin H _ hy lp
theorem tattlerlaw22_CoordLate_top {c0 c1 : List V} (h0 : Ty.Has (.int .i64) c0) (h1 : Ty.Has (.sl (.int .i64)) c1) : ∃ h fl, callL E F.tattlerlaw22_CoordLate [Ty.el (.int .i64) c0, Ty.el (.sl (.int .i64)) c1] [] = some (.bool true, h, fl) := by
  obtain ⟨a, _, rfl⟩ := i64_dec h0
  obtain ⟨ns, wl, rfl, _⟩ := slice_of (f := V.int .i64) (Q := fun _ => True) (fun ys hy => by
    obtain ⟨x, _, rfl⟩ := i64_dec hy
    exact ⟨x, trivial, rfl⟩) h1
  exact ⟨_, _, CoordLate_eq a ns (by unfold reachLen at wl; omega) []⟩
end Go.Proofs.Ytklmddbnjookiaa.V
