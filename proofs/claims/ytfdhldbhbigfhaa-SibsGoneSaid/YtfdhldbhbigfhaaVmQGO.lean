/- SibsGone. -/
import Derived.Test.YtfdhldbhbigfhaaVmQGN
set_option linter.unusedVariables false
set_option linter.unusedSimpArgs false
set_option linter.unusedSectionVars false
namespace Go.Proofs.Ytfdhldbhbigfhaa.V
open Go.Vm

theorem SibsGone_eq (a c : Sib) (seen : Vec) (node : Int) (h1 : a.vals.length ≤ 140737488351232) (h2 : c.vals.length ≤ 140737488351232) (h : Heap) : callL E F.tattlerlaw5_SibsGone [a.v, c.v, seen.v, .int .i64 node] h = some (.bool true, h, .no) := by
  refine callL_of rfl fn_tattlerlaw5_SibsGone ?_
  have g1 := fun l => few_eq [a, c] (by simp) (fun s hs => by simp only [List.mem_cons, List.not_mem_nil, or_false] at hs; rcases hs with rfl | rfl <;> assumption) (h ++ l)
  have g0 := fun l => awake5_eq (h ++ l)
  simp only [Sib.v, List.map_cons, List.map_nil] at g1
  cases hf : fewL [a, c] with
  | false =>
    rw [hf] at g1
    simp [-getElem?_pos, c_tattlerlaw5_SibsGone, g0, g1]
    done
  | true =>
    rw [hf] at g1
    unfold fewL at hf
    simp only [List.all_cons, List.all_nil, Bool.and_true, Bool.and_eq_true, decide_eq_true_eq] at hf
    obtain ⟨⟨ha, hc⟩, _⟩ := hf
    have hal := may_len ha
    have hcl := may_len hc
    have hjl := may_len (join_may ha hc)
    have g2 := fun l => sibsJoin_eq a c (h ++ l)
    have lp := gone_l2 (h ++ [.cells a.c [], .cells c.c [], .cells seen.c [], .cells (a.join c).c []]) h.length (by simp) (.int .i64 node) (fun _ => rfl) a c (by simp) (by simp) (by omega) (by omega) (a.join c).vals (by omega) (fun v hv => join_from hv)
    have hj8 : (a.join c).c[8]? = some (.sl ((a.join c).vals.map Val.v)) := by show ((a.join c).seen.c ++ _)[8]? = _; rw [List.getElem?_append_right (by simp)]; simp
    have hjm : ((a.join c).vals.map Val.v).length = (a.join c).vals.length := by simp
    have g3 := fun l => vecJoin_eq a.seen seen (h ++ l)
    have e8 : List.take 8 a.c = a.seen.c := List.take_left' (by simp)
    generalize (a.join c).vals.map Val.v = JV at *
    generalize a.join c = J at *
    have g4 := fun l => r1May_eq seen (h ++ l)
    simp only [Sib.v, Vec.v] at g2 g3 g4
    cases hno : a.may && ((a.seen.join seen).may && (decide (0 ≤ node) && (decide (node < 8) && mayV ⟨zeroDot, [], true⟩))) with
    | false =>
      have p1 := fun l => sibsPut_no a (a.seen.join seen) node [] (by simp) true hno (h ++ l)
      simp only [Sib.v, Vec.v, bytesV, List.map_nil] at p1
      simp [-getElem?_pos, c_tattlerlaw5_SibsGone, g0, g1, g2, g3, lp, hj8, hjm, e8, p1]
      done
    | true =>
      simp only [Bool.and_eq_true, decide_eq_true_eq] at hno
      obtain ⟨_, hwm, hn0, hn8, hx⟩ := hno
      obtain ⟨n, rfl⟩ := Int.eq_ofNat_of_zero_le hn0
      have hn : n < 8 := by omega
      have p1 := fun l => sibsPut_eq a ha (a.seen.join seen) hwm hn [] true hx (h ++ l)
      cases hp : putS a (a.seen.join seen) n [] true with
      | mk t e =>
        rw [hp] at p1
        simp only [Sib.v, Vec.v, bytesV, List.map_nil] at p1
        by_cases he : e = 0
        · cases hsm : seen.may with
          | false =>
            rw [hsm] at g4
            subst he
            simp [-getElem?_pos, c_tattlerlaw5_SibsGone, g0, g1, g2, g3, g4, lp, hj8, hjm, e8, p1]
            done
          | true =>
            rw [hsm] at g4
            obtain ⟨q1, q2, q3, q4⟩ := gone_put ha hsm hn hp he
            subst he
            have r1 := fun l => reap_eq t (h ++ l)
            have r2 := fun l => sibsJoin_eq (reapS t) a (h ++ l)
            have r3 := fun l => sibsJoin_eq t a (h ++ l)
            have r4 := fun l => live_eq (t.join a) (h ++ l)
            rw [q2] at r4
            have t8 : t.c[8]? = some (.sl (t.vals.map Val.v)) := by show (t.seen.c ++ _)[8]? = _; rw [List.getElem?_append_right (by simp)]; simp
            have k8 : ((reapS t).join a).c[8]? = some (.sl []) := by show (((reapS t).join a).seen.c ++ [.sl (((reapS t).join a).vals.map Val.v)])[8]? = _; rw [List.getElem?_append_right (by simp), q3]; simp
            have tl : (t.vals.map Val.v).length = 1 := by simp [q1]
            generalize t.vals.map Val.v = TV at *
            generalize (reapS t).join a = K at *
            generalize reapS t = RT at *
            generalize t.join a = TA at *
            simp only [Sib.v, List.map_nil] at r1 r2 r3 r4
            simp [-getElem?_pos, c_tattlerlaw5_SibsGone, g0, g1, g2, g3, g4, lp, hj8, hjm, e8, p1, r1, r2, r3, r4, t8, k8, tl]
            done
        · have he' : (e == 0) = false := by simpa using he
          simp [-getElem?_pos, c_tattlerlaw5_SibsGone, g0, g1, g2, g3, g4, lp, hj8, hjm, e8, p1, he, he']
          done
theorem tattlerlaw5_SibsGone_top {c0 c1 c2 c3 : List V} (h0 : Ty.Has sibT c0) (h1 : Ty.Has sibT c1) (h2 : Ty.Has vecT c2) (h3 : Ty.Has (.int .i64) c3) : ∃ h fl, callL E F.tattlerlaw5_SibsGone [Ty.el sibT c0, Ty.el sibT c1, Ty.el vecT c2, Ty.el (.int .i64) c3] [] = some (.bool true, h, fl) := by
  obtain ⟨a, wa, rfl⟩ := Sib.dec h0
  obtain ⟨b, wb, rfl⟩ := Sib.dec h1
  obtain ⟨v, wv, rfl⟩ := Vec.dec h2
  obtain ⟨n, wn, rfl⟩ := i64_dec h3
  exact ⟨_, _, SibsGone_eq a b v n wa.2.1 wb.2.1 []⟩
end Go.Proofs.Ytfdhldbhbigfhaa.V
