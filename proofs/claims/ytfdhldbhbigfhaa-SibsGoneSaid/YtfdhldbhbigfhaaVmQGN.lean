/- SibsGone: the loops. -/
import Derived.Test.YtfdhldbhbigfhaaVmSGA
import Derived.Test.YtfdhldbhbigfhaaVmSE
import Derived.Test.YtfdhldbhbigfhaaVmKQ
set_option linter.unusedVariables false
set_option linter.unusedSimpArgs false
set_option linter.unusedSectionVars false
namespace Go.Proofs.Ytfdhldbhbigfhaa.V
open Go.Vm

/-- Is there one with that dot? -/
def anyD (l : List Val) (d : Dot) : Bool := l.any fun w => decide (w.dot = d)
theorem anyD_take {l : List Val} {j : Nat} {x : Val} (h : l[j]? = some x) (d : Dot) : anyD (l.take (j + 1)) d = (anyD (l.take j) d || decide (x.dot = d)) := by
  unfold anyD
  rw [List.take_add_one, h, List.any_append]
  simp
theorem gone_l0 (HH : Heap) (b p : Nat) (v : Val) (hp : hget HH p = some (.cells v.c [])) (hb : b ≤ HH.length) (hb2 : b + 2 < HH.length) (v3 v38 : V) (h3 : ∀ n, v3.lt n = true) (h38 : ∀ n, v38.lt n = true) (JV : List V) (i k m : Int) (in0 : Bool) (l : List Val) (hl : l.length ≤ 1000) :
    loopRun (callL E) loopL b [3, 4, 5, 6, 11, 12, 30, 31, 32, 38, 39, 43, 44, 45] c_tattlerlaw5_SibsGone_l0 ⟨[(3, v3), (4, .ptr (some (b, 0))), (5, .ptr (some (b + 1, 0))), (6, .ptr (some (b + 2, 0))), (11, .ptr (some (p, 0))), (12, .bool in0), (30, .sl JV), (31, .int .i64 m), (32, .int .i64 i), (38, v38), (39, .int .i64 k), (43, .sl (l.map Val.v)), (44, .int .i64 l.length), (45, .int .i64 0)], HH, .no⟩ =
      some (.exit 4, ⟨[(3, v3), (4, .ptr (some (b, 0))), (5, .ptr (some (b + 1, 0))), (6, .ptr (some (b + 2, 0))), (11, .ptr (some (p, 0))), (12, .bool (in0 || anyD l v.dot)), (30, .sl JV), (31, .int .i64 m), (32, .int .i64 i), (38, v38), (39, .int .i64 k), (43, .sl (l.map Val.v)), (44, .int .i64 l.length), (45, .int .i64 l.length), (46, .bool false)], HH, .no⟩) := by
  have key := loop_to (C := callL E) (fb := b) (live := [3, 4, 5, 6, 11, 12, 30, 31, 32, 38, 39, 43, 44, 45]) (c := c_tattlerlaw5_SibsGone_l0)
    (fun j => ⟨[(3, v3), (4, .ptr (some (b, 0))), (5, .ptr (some (b + 1, 0))), (6, .ptr (some (b + 2, 0))), (11, .ptr (some (p, 0))), (12, .bool (in0 || anyD (l.take j) v.dot)), (30, .sl JV), (31, .int .i64 m), (32, .int .i64 i), (38, v38), (39, .int .i64 k), (43, .sl (l.map Val.v)), (44, .int .i64 l.length), (45, .int .i64 j)], HH, .no⟩) l.length
    (r := (.exit 4, ⟨[(3, v3), (4, .ptr (some (b, 0))), (5, .ptr (some (b + 1, 0))), (6, .ptr (some (b + 2, 0))), (11, .ptr (some (p, 0))), (12, .bool (in0 || anyD l v.dot)), (30, .sl JV), (31, .int .i64 m), (32, .int .i64 i), (38, v38), (39, .int .i64 k), (43, .sl (l.map Val.v)), (44, .int .i64 l.length), (45, .int .i64 l.length), (46, .bool false)], HH, .no⟩)) (fun j hj => ?_) ?_ rfl
  · rw [show ((0 : Nat) : Int) = 0 from rfl, List.take_zero, show anyD [] v.dot = false from rfl, Bool.or_false] at key
    exact key
  · obtain ⟨x, hx, _, _⟩ := get_of_lt hj
    have hlt : (j : Int) < (l.length : Int) := by omega
    have h1 := i64_add1 (n := j) (by omega)
    have hpl := hget_lt hp
    have hpa : ∀ y, hget (HH ++ y) p = some (.cells v.c []) := fun y => by rw [hget_app hpl]; exact hp
    rw [anyD_take hx]
    have e1 : List.take 2 x.c = x.dot.c := rfl
    have e2 : List.take 2 v.c = v.dot.c := rfl
    have nb : ¬ HH.length < b := by omega
    have hb0 : b < HH.length := by omega
    have hb1 : b + 1 < HH.length := by omega
    have hxl : x.c.length = 4 := rfl
    have hvl : v.c.length = 4 := rfl
    have hbin := bin_dot_eql x.dot v.dot
    simp only [Dot.v] at hbin
    generalize anyD (l.take j) v.dot = A at *
    rw [s_round]
    cases hA : (in0 || A) with
    | true =>
      rw [← Bool.or_assoc, hA]
      simp [-getElem?_pos, c_tattlerlaw5_SibsGone_l0, hlt, hj, hx, h1, hpa, e1, e2, nb, hb, hb0, hb1, hb2, hpl, h3, h38]
      done
    | false =>
      rw [← Bool.or_assoc, hA, Bool.false_or]
      simp [-getElem?_pos, c_tattlerlaw5_SibsGone_l0, hlt, hj, hx, h1, hpa, e1, e2, nb, hb, hb0, hb1, hb2, hpl, h3, h38, hbin]
      done
  · rw [s_round, List.take_length]
    simp [c_tattlerlaw5_SibsGone_l0]
theorem gone_l1 (HH : Heap) (b p : Nat) (v : Val) (hp : hget HH p = some (.cells v.c [])) (hb2 : b + 2 < HH.length) (v3 : V) (h3 : ∀ n, v3.lt n = true) (JV : List V) (i m : Int) (a c : Sib) (ha : a.vals.length ≤ 1000) (hc : c.vals.length ≤ 1000) :
    loopRun (callL E) loopL b [3, 4, 5, 6, 11, 12, 30, 31, 32, 38, 39] c_tattlerlaw5_SibsGone_l1 ⟨[(3, v3), (4, .ptr (some (b, 0))), (5, .ptr (some (b + 1, 0))), (6, .ptr (some (b + 2, 0))), (11, .ptr (some (p, 0))), (12, .bool false), (30, .sl JV), (31, .int .i64 m), (32, .int .i64 i), (38, .agg (a.c ++ c.c)), (39, .int .i64 0)], HH, .no⟩ =
      some (.exit 2, ⟨[(3, v3), (4, .ptr (some (b, 0))), (5, .ptr (some (b + 1, 0))), (6, .ptr (some (b + 2, 0))), (11, .ptr (some (p, 0))), (12, .bool (anyD a.vals v.dot || anyD c.vals v.dot)), (30, .sl JV), (31, .int .i64 m), (32, .int .i64 i), (38, .agg (a.c ++ c.c)), (39, .int .i64 2), (40, .bool false)], HH, .no⟩) := by
  have h38 : ∀ n, (V.agg (a.c ++ c.c)).lt n = true := fun n => by
    simp only [V.lt]
    exact ltL_append (by simp) (by simp)
  have hpl := hget_lt hp
  have hpa : ∀ y, hget (HH ++ y) p = some (.cells v.c []) := fun y => by rw [hget_app hpl]; exact hp
  have p0 := gone_l0 (HH ++ [.cells a.c []]) b p v (hpa _) (by simp; omega) (by simp; omega) v3 (.agg (a.c ++ c.c)) h3 h38 JV i 0 m false a.vals ha
  have p1 := gone_l0 (HH ++ [.cells c.c []]) b p v (hpa _) (by simp; omega) (by simp; omega) v3 (.agg (a.c ++ c.c)) h3 h38 JV i 1 m (false || anyD a.vals v.dot) c.vals hc
  have w1 : IntKind.i64.wrap 1 = 1 := by rw [wrap_i64] <;> omega
  have w2 : IntKind.i64.wrap 2 = 2 := by rw [wrap_i64] <;> omega
  have e0 : List.take 9 (a.c ++ c.c) = a.c := List.take_left' (by simp)
  have e1 : List.take 9 ((a.c ++ c.c).drop 9) = c.c := by rw [List.drop_left' (by simp)]; exact List.take_of_length_le (by simp)
  have e2 : (a.c ++ c.c).length = 18 := by simp
  have ea : a.c[8]? = some (.sl (a.vals.map Val.v)) := by show (a.seen.c ++ _)[8]? = _; rw [List.getElem?_append_right (by simp)]; simp
  have ec : c.c[8]? = some (.sl (c.vals.map Val.v)) := by show (c.seen.c ++ _)[8]? = _; rw [List.getElem?_append_right (by simp)]; simp
  have hma : (a.vals.map Val.v).length = a.vals.length := by simp
  have hmc : (c.vals.map Val.v).length = c.vals.length := by simp
  have hb : b ≤ HH.length := by omega
  have hb0 : b < HH.length := by omega
  have hb1 : b + 1 < HH.length := by omega
  have nb : ¬ HH.length < b := by omega
  simp only [Bool.false_or] at p0 p1
  generalize anyD a.vals v.dot = A at *
  generalize anyD c.vals v.dot = C at *
  generalize hAV : a.vals.map Val.v = AV at *
  generalize hCV : c.vals.map Val.v = CV at *
  generalize hAC : a.c ++ c.c = AC at *
  have hlt38 : ∀ n, V.ltL n AC = true := fun n => by have := h38 n; simpa [V.lt] using this
  refine loop_next (s' := ⟨[(3, v3), (4, .ptr (some (b, 0))), (5, .ptr (some (b + 1, 0))), (6, .ptr (some (b + 2, 0))), (11, .ptr (some (p, 0))), (12, .bool A), (30, .sl JV), (31, .int .i64 m), (32, .int .i64 i), (38, .agg AC), (39, .int .i64 1)], HH, .no⟩) ?_ (loop_next (s' := ⟨[(3, v3), (4, .ptr (some (b, 0))), (5, .ptr (some (b + 1, 0))), (6, .ptr (some (b + 2, 0))), (11, .ptr (some (p, 0))), (12, .bool (A || C)), (30, .sl JV), (31, .int .i64 m), (32, .int .i64 i), (38, .agg AC), (39, .int .i64 2)], HH, .no⟩) ?_ (loop_done ?_ rfl))
  · rw [s_round]
    simp [-getElem?_pos, c_tattlerlaw5_SibsGone_l1, e0, e1, e2, ea, hma, p0, w1, nb, hb, hb0, hb1, hb2, hpl, h3, hlt38]
    done
  · rw [s_round]
    simp [-getElem?_pos, c_tattlerlaw5_SibsGone_l1, e0, e1, e2, ec, hmc, p1, w2, nb, hb, hb0, hb1, hb2, hpl, h3, hlt38]
    done
  · rw [s_round]
    simp [c_tattlerlaw5_SibsGone_l1]
theorem gone_l2 (HH : Heap) (b : Nat) (hb2 : b + 2 < HH.length) (v3 : V) (h3 : ∀ n, v3.lt n = true) (a c : Sib) (hca : hget HH b = some (.cells a.c [])) (hcc : hget HH (b + 1) = some (.cells c.c [])) (ha : a.vals.length ≤ 1000) (hc : c.vals.length ≤ 1000) (l : List Val) (hl : l.length ≤ 1000) (hin : ∀ v ∈ l, v ∈ a.vals ∨ v ∈ c.vals) :
    loopRun (callL E) loopL b [3, 4, 5, 6, 30, 31, 32] c_tattlerlaw5_SibsGone_l2 ⟨[(3, v3), (4, .ptr (some (b, 0))), (5, .ptr (some (b + 1, 0))), (6, .ptr (some (b + 2, 0))), (30, .sl (l.map Val.v)), (31, .int .i64 l.length), (32, .int .i64 0)], HH, .no⟩ =
      some (.exit 0, ⟨[(3, v3), (4, .ptr (some (b, 0))), (5, .ptr (some (b + 1, 0))), (6, .ptr (some (b + 2, 0))), (30, .sl (l.map Val.v)), (31, .int .i64 l.length), (32, .int .i64 l.length), (33, .bool false)], HH, .no⟩) := by
  have key := loop_to (C := callL E) (fb := b) (live := [3, 4, 5, 6, 30, 31, 32]) (c := c_tattlerlaw5_SibsGone_l2)
    (fun j => ⟨[(3, v3), (4, .ptr (some (b, 0))), (5, .ptr (some (b + 1, 0))), (6, .ptr (some (b + 2, 0))), (30, .sl (l.map Val.v)), (31, .int .i64 l.length), (32, .int .i64 j)], HH, .no⟩) l.length
    (r := (.exit 0, ⟨[(3, v3), (4, .ptr (some (b, 0))), (5, .ptr (some (b + 1, 0))), (6, .ptr (some (b + 2, 0))), (30, .sl (l.map Val.v)), (31, .int .i64 l.length), (32, .int .i64 l.length), (33, .bool false)], HH, .no⟩)) (fun j hj => ?_) ?_ rfl
  · exact key
  · obtain ⟨x, hx, _, hxm⟩ := get_of_lt hj
    have hlt : (j : Int) < (l.length : Int) := by omega
    have h1 := i64_add1 (n := j) (by omega)
    have hd : (anyD a.vals x.dot || anyD c.vals x.dot) = true := by
      unfold anyD
      rw [Bool.or_eq_true, List.any_eq_true, List.any_eq_true]
      rcases hin x hxm with h | h
      · exact .inl ⟨x, h, by simp⟩
      · exact .inr ⟨x, h, by simp⟩
    have lp := gone_l1 (HH ++ [.cells x.c []]) b HH.length x (by simp) (by simp; omega) v3 h3 (l.map Val.v) j l.length a c ha hc
    rw [hd] at lp
    have hb : b ≤ HH.length := by omega
    have hb0 : b < HH.length := by omega
    have hb1 : b + 1 < HH.length := by omega
    have nb : ¬ HH.length < b := by omega
    have hxl : x.c.length = 4 := rfl
    have f1 : ∀ y, hget (HH ++ y) b = some (.cells a.c []) := fun y => by rw [hget_app hb0]; exact hca
    have f2 : ∀ y, hget (HH ++ y) (b + 1) = some (.cells c.c []) := fun y => by rw [hget_app hb1]; exact hcc
    have e9 : List.drop 9 (a.c ++ [V.int .i64 0, .int .i64 0, .int .i64 0, .int .i64 0, .int .i64 0, .int .i64 0, .int .i64 0, .int .i64 0, .sl []]) = [V.int .i64 0, .int .i64 0, .int .i64 0, .int .i64 0, .int .i64 0, .int .i64 0, .int .i64 0, .int .i64 0, .sl []] := List.drop_left' (by simp)
    have e10 : List.take 9 (a.c ++ [V.int .i64 0, .int .i64 0, .int .i64 0, .int .i64 0, .int .i64 0, .int .i64 0, .int .i64 0, .int .i64 0, .sl []]) = a.c := List.take_left' (by simp)
    have e18 : List.drop 18 (a.c ++ [V.int .i64 0, .int .i64 0, .int .i64 0, .int .i64 0, .int .i64 0, .int .i64 0, .int .i64 0, .int .i64 0, .sl []]) = [] := List.drop_of_length_le (by simp)
    rw [s_round]
    simp [-getElem?_pos, e18, c_tattlerlaw5_SibsGone_l2, hlt, hj, hx, h1, lp, nb, hb, hb0, hb1, hb2, f1, f2, hxl, h3, e9, e10]
    done
  · rw [s_round]
    simp [c_tattlerlaw5_SibsGone_l2]
end Go.Proofs.Ytfdhldbhbigfhaa.V
