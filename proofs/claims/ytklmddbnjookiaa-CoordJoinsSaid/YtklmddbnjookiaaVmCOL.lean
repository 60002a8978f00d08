/- CoordJoins: the law. -/
import Derived.Test.YtklmddbnjookiaaVmCOK
set_option linter.unusedVariables false
set_option linter.unusedSimpArgs false
set_option linter.unusedSectionVars false
namespace Go.Proofs.Ytklmddbnjookiaa.V
open Go.Vm

theorem joins_scan (h : Heap) (key : List UInt8) (own : Sib) (l : List Sib) (need : Nat) (hl : l.length ≤ 7) :
    ((∀ s ∈ l, s.may = true) ∧ loopRun (callL E) loopL h.length [0, 2, 3, 5, 38, 39, 40] c_tattlerlaw22_CoordJoins_l0 ⟨[(0, .str key), (2, .sl (l.map Sib.v)), (3, .int .i64 need), (5, .ptr (some (h.length, 0))), (38, .sl (l.map Sib.v)), (39, .int .i64 l.length), (40, .int .i64 0)], h ++ [.cells own.c []], .no⟩ =
      some (.exit 0, ⟨[(0, .str key), (2, .sl (l.map Sib.v)), (3, .int .i64 need), (5, .ptr (some (h.length, 0))), (38, .sl (l.map Sib.v)), (39, .int .i64 l.length), (40, .int .i64 l.length), (41, .bool false)], h ++ [.cells own.c []], .no⟩)) ∨
    ∃ x, loopRun (callL E) loopL h.length [0, 2, 3, 5, 38, 39, 40] c_tattlerlaw22_CoordJoins_l0 ⟨[(0, .str key), (2, .sl (l.map Sib.v)), (3, .int .i64 need), (5, .ptr (some (h.length, 0))), (38, .sl (l.map Sib.v)), (39, .int .i64 l.length), (40, .int .i64 0)], h ++ [.cells own.c []], .no⟩ =
      some (.ret, ⟨[(8, .bool true)], h ++ [.cells own.c [], .cells x []], .no⟩) := by
  have key := loop_scan (C := callL E) (fb := h.length) (live := [0, 2, 3, 5, 38, 39, 40]) (c := c_tattlerlaw22_CoordJoins_l0)
    (fun j => ⟨[(0, .str key), (2, .sl (l.map Sib.v)), (3, .int .i64 need), (5, .ptr (some (h.length, 0))), (38, .sl (l.map Sib.v)), (39, .int .i64 l.length), (40, .int .i64 j)], h ++ [.cells own.c []], .no⟩) l.length (getB l Sib.may)
    (.exit 0, ⟨[(0, .str key), (2, .sl (l.map Sib.v)), (3, .int .i64 need), (5, .ptr (some (h.length, 0))), (38, .sl (l.map Sib.v)), (39, .int .i64 l.length), (40, .int .i64 l.length), (41, .bool false)], h ++ [.cells own.c []], .no⟩)
    (fun j => (.ret, ⟨[(8, .bool true)], h ++ [.cells own.c [], .cells (match l[j]? with | some v => v.c | none => []) []], .no⟩)) ?_ ?_ (fun _ => rfl) ?_ rfl
  · rw [show ((0 : Nat) : Int) = 0 from rfl] at key
    rcases key with ⟨h1, h2⟩ | ⟨j, h1, h2, h3, h4⟩
    · left
      have := all_getB h1
      rw [List.all_eq_true] at this
      exact ⟨this, h2⟩
    · right
      exact ⟨_, h4⟩
  · intro j hj hp
    obtain ⟨x, hx, _, _⟩ := get_of_lt hj
    have hlt : (j : Int) < (l.length : Int) := by omega
    have h1 := i64_add1 (n := j) (by omega)
    rw [getB_at hx] at hp
    have g1 := fun z => r5May_eq x (h ++ z)
    rw [hp] at g1
    simp only [Sib.v] at g1
    rw [s_round]
    simp [-getElem?_pos, c_tattlerlaw22_CoordJoins_l0, hlt, hj, hx, h1, g1]
    done
  · intro j hj hp
    obtain ⟨x, hx, _, _⟩ := get_of_lt hj
    have hlt : (j : Int) < (l.length : Int) := by omega
    rw [getB_at hx] at hp
    have g1 := fun z => r5May_eq x (h ++ z)
    rw [hp] at g1
    have g2 := fun z => awake22_eq (h ++ z)
    simp only [Sib.v] at g1
    rw [s_round]
    simp [-getElem?_pos, c_tattlerlaw22_CoordJoins_l0, hlt, hj, hx, g1, g2]
    done
  · rw [s_round]
    simp [c_tattlerlaw22_CoordJoins_l0]
theorem mod7 (a : Int) : ∃ n : Nat, n < 7 ∧ IntKind.i64.wrap ((IntKind.u64.wrap a).tmod 7) = (n : Int) := modN a 7 (by omega) (by omega)
theorem joins_tail {b need : Nat} {h H : Heap} {key : List UInt8} {own : Sib} {l : List Sib} {j : Nat} (y : JAt b need h H key own l j) (x : Heap) :
    callL E F.coord_Coord_Len [.ptr (some (b + 2, 0))] (H ++ x) = some (.int .i64 1, H ++ x, .no) ∧ ∃ H2, callL E F.coord_Coord_Answers [.ptr (some (b + 2, 0))] (H ++ x) = some (.sl [], H2, .w [b + 2]) ∧ H2.take b = h := by
  have hlen := y.len
  have t := y.at_.app x
  have g1 := coordLen_eq t
  have g2 := coordAnswers_eq t
  refine ⟨g1, _, g2, ?_⟩
  rw [take_hset_le (by omega), List.take_append_of_le_length (by omega)]
  exact y.pre
theorem CoordJoins_eq (key : List UInt8) (own : Sib) (l : List Sib) (a : Int) (hbig : l.length ≤ 140737488355328) (h : Heap) : callL E F.tattlerlaw22_CoordJoins [.str key, own.v, .sl (l.map Sib.v), .int .i64 a] h = some (.bool true, h, .no) := by
  refine callL_of rfl fn_tattlerlaw22_CoordJoins ?_
  obtain ⟨n0, hn0, hmod⟩ := mod7 a
  obtain ⟨need, hneed⟩ : ∃ n, n = n0 + 2 := ⟨_, rfl⟩
  have hw : IntKind.i64.wrap ((n0 : Int) + 2) = (need : Int) := by rw [wrap_i64] <;> omega
  have g1 := fun z => r5MayEntry_eq ⟨key, own⟩ (h ++ z)
  have g2 := fun z => awake22_eq (h ++ z)
  simp only [Ent.v, Ent.c] at g1
  have hml : (l.map Sib.v).length = l.length := by simp
  cases hk : (⟨key, own⟩ : Ent).may with
  | false =>
    rw [hk] at g1
    generalize l.map Sib.v = LV at *
    simp [-getElem?_pos, c_tattlerlaw22_CoordJoins, hmod, hw, g1, g2]
    done
  | true =>
    rw [hk] at g1
    have ho : own.may = true := by
      unfold Ent.may at hk
      simp only [Bool.and_eq_true] at hk
      exact hk.2
    by_cases hl : 7 < l.length
    · have hl' : (7 : Int) < (l.length : Int) := by omega
      generalize l.map Sib.v = LV at *
      simp [-getElem?_pos, c_tattlerlaw22_CoordJoins, hmod, hw, g1, g2, hml, hl']
      done
    · have hl' : ¬ (7 : Int) < (l.length : Int) := by omega
      rcases joins_scan h key own l need (by omega) with ⟨hls, lp⟩ | ⟨x, lp⟩
      · have t0 := new0_at (h ++ [.cells own.c []]) 5
        have hl1 : (h ++ [Vm.Obj.cells own.c []]).length = h.length + 1 := by simp
        have n0' := coordNew_eq 5 (h ++ [.cells own.c []])
        rw [hl1] at t0
        rw [show h ++ [.cells own.c []] ++ [.map [], coordO (max 1 5) 0 (h ++ [Vm.Obj.cells own.c []]).length []] = new0 (h ++ [.cells own.c []]) 5 from rfl, hl1] at n0'
        have g3 := coordRead_ok t0 0 need (by omega) (by omega) key own hk (by simp) (by omega) (by omega) rfl
        have y0 := joins_start h need key own l ho
        have hrl : (begun (new0 (h ++ [.cells own.c []]) 5) (h.length + 2) (h.length + 1) 5 0 [] [] 0 need key own false).length = h.length + 7 := by rw [begun_len, new0_len, hl1]
        have hro : hget (begun (new0 (h ++ [.cells own.c []]) 5) (h.length + 2) (h.length + 1) 5 0 [] [] 0 need key own false) h.length = some (.cells own.c []) := by
          have := y0.own_
          rw [hget_app (by omega)] at this
          exact this
        have hno : hget (new0 (h ++ [.cells own.c []]) 5) h.length = some (.cells own.c []) := by unfold new0; rw [hget_app (by simp)]; simp
        rw [show h.length + 1 + 1 = h.length + 2 by omega] at *
        have hnl := new0_len (h ++ [.cells own.c []]) 5
        rw [hl1] at hnl
        generalize begun (new0 (h ++ [.cells own.c []]) 5) (h.length + 2) (h.length + 1) 5 0 [] [] 0 need key own false = H0 at *
        generalize new0 (h ++ [.cells own.c []]) 5 = HN at *
        obtain ⟨r, lp2, hr⟩ := joins_loop22 h.length need h key own l rfl (by omega) (by omega) (by omega) ho hls hk _ y0
        simp only [Sib.v, show ((0 : Nat) : Int) = 0 from rfl, show (0 : Int) + 1 = 1 from rfl] at g3
        generalize l.map Sib.v = LV at *
        have e7 : h.length + 7 = H0.length := hrl.symm
        rw [e7] at lp2 hr
        have b1 : h.length < H0.length := by omega
        have b2 : h.length ≤ H0.length := by omega
        have b3 : h.length < HN.length := by omega
        have b4 : h.length + 2 < HN.length := by omega
        have b7 : ¬ H0.length < h.length := by omega
        rcases hr with ⟨H, j, x, y, rfl⟩ | ⟨H, j, y, rfl⟩ | ⟨H, hH, rfl⟩
        · obtain ⟨q1, H2, q2, q3⟩ := joins_tail y x
          have q4 := awake22_eq H2
          simp [-getElem?_pos, c_tattlerlaw22_CoordJoins, hmod, hw, g1, g2, hml, hl', lp, n0', g3, hno, hro, lp2, q1, q2, q3, q4, b1, b2, b3, b4, b7]
          done
        · obtain ⟨q1, H2, q2, q3⟩ := joins_tail y []
          rw [List.append_nil] at q1 q2
          have q4 := awake22_eq H2
          simp [-getElem?_pos, c_tattlerlaw22_CoordJoins, hmod, hw, g1, g2, hml, hl', lp, n0', g3, hno, hro, lp2, q1, q2, q3, q4, b1, b2, b3, b4, b7]
          done
        · simp [-getElem?_pos, c_tattlerlaw22_CoordJoins, hmod, hw, g1, g2, hml, hl', lp, n0', g3, hno, hro, lp2, hH, b1, b2, b3, b4, b7]
          done
      · generalize l.map Sib.v = LV at *
        simp [-getElem?_pos, c_tattlerlaw22_CoordJoins, hmod, hw, g1, g2, hml, hl', lp]
        done
theorem tattlerlaw22_CoordJoins_top {c0 c1 c2 c3 : List V} (h0 : Ty.Has .str c0) (h1 : Ty.Has sibT c1) (h2 : Ty.Has (.sl sibT) c2) (h3 : Ty.Has (.int .i64) c3) : ∃ h fl, callL E F.tattlerlaw22_CoordJoins [Ty.el .str c0, Ty.el sibT c1, Ty.el (.sl sibT) c2, Ty.el (.int .i64) c3] [] = some (.bool true, h, fl) := by
  obtain ⟨k, _, rfl⟩ := str_dec h0
  obtain ⟨own, _, rfl⟩ := Sib.dec h1
  obtain ⟨l, wl, rfl, _⟩ := slice_of (f := Sib.v) (Q := fun _ => True) (fun ys hy => by
    obtain ⟨x, _, rfl⟩ := Sib.dec hy
    exact ⟨x, trivial, rfl⟩) h2
  obtain ⟨n, _, rfl⟩ := i64_dec h3
  exact ⟨_, _, CoordJoins_eq k own l n (by unfold reachLen at wl; omega) []⟩
end Go.Proofs.Ytklmddbnjookiaa.V
