/- CoordApart: the law. -/
import Derived.Test.YtklmddbnjookiaaVmCPC
set_option linter.unusedVariables false
set_option linter.unusedSimpArgs false
set_option linter.unusedSectionVars false
namespace Go.Proofs.Ytklmddbnjookiaa.V
open Go.Vm

theorem only_take {l : List Ans} {j : Nat} {x : Ans} (h : l[j]? = some x) (n : Int) : only n (l.take (j + 1)) = only n (l.take j) ++ cnd (decide (x.op = n)) [x] [] := by
  unfold only
  rw [List.take_add_one, h, List.filter_append]
  by_cases e : x.op = n <;> simp [e]
theorem mine_loop (H : Heap) (b : Nat) (v14 : Nat) (hbH : b ≤ H.length) (h14 : v14 < H.length) (l : List Ans) (hl : l.length ≤ 1000) (e0 : List Nat) :
    loopRun (callL E) loopL b [14, 15, 26, 148, 149, 150] c_tattlerlaw22_CoordApart_l3 ⟨[(14, .ptr (some (v14, 0))), (15, .int .i64 1), (26, .sl []), (148, .sl (l.map Ans.v)), (149, .int .i64 l.length), (150, .int .i64 0)], H, ⟨[], e0, false⟩⟩ =
      some (.exit 6, ⟨[(14, .ptr (some (v14, 0))), (15, .int .i64 1), (26, .sl ((only 1 l).map Ans.v)), (148, .sl (l.map Ans.v)), (149, .int .i64 l.length), (150, .int .i64 l.length), (151, .bool false)], H, ⟨[], e0, false⟩⟩) := by
  have key := loop_to (C := callL E) (fb := b) (live := [14, 15, 26, 148, 149, 150]) (c := c_tattlerlaw22_CoordApart_l3)
    (fun j => ⟨[(14, .ptr (some (v14, 0))), (15, .int .i64 1), (26, .sl ((only 1 (l.take j)).map Ans.v)), (148, .sl (l.map Ans.v)), (149, .int .i64 l.length), (150, .int .i64 j)], H, ⟨[], e0, false⟩⟩) l.length
    (r := (.exit 6, ⟨[(14, .ptr (some (v14, 0))), (15, .int .i64 1), (26, .sl ((only 1 l).map Ans.v)), (148, .sl (l.map Ans.v)), (149, .int .i64 l.length), (150, .int .i64 l.length), (151, .bool false)], H, ⟨[], e0, false⟩⟩)) (fun j hj => ?_) ?_ rfl
  · exact key
  · obtain ⟨x, hx, _, _⟩ := get_of_lt hj
    have hlt : (j : Int) < (l.length : Int) := by omega
    have h1 := i64_add1 (n := j) (by omega)
    rw [only_take hx, List.map_append]
    have hsz := sizeOk_ans (only 1 (l.take j))
    have hml : ((only 1 (l.take j)).map Ans.v).length ≤ j := by
      rw [List.length_map]
      have h1 := List.length_filter_le (fun a : Ans => decide (a.op = 1)) (l.take j)
      have h2 : (l.take j).length ≤ j := by simp; omega
      unfold only
      omega
    have k0 : x.c[0]? = some (.int .i64 x.op) := rfl
    have hlt26 : ∀ n, V.ltL n ((only 1 (l.take j)).map Ans.v) = true := fun n => by
      induction only 1 (l.take j) with
      | nil => rfl
      | cons a q ih => simp [V.ltL, V.lt, ih]
    generalize (only 1 (l.take j)).map Ans.v = M at *
    have hb8 : (M.length + 1) * 104 ≤ 140737488355328 := by omega
    have nb : ¬ H.length < b := by omega
    rw [s_round]
    by_cases e : x.op = 1
    · have e' : (x.op == 1) = true := by simpa using e
      simp [-getElem?_pos, c_tattlerlaw22_CoordApart_l3, hlt, hj, hx, h1, k0, e, e', hsz, hb8, nb, h14, hbH, hlt26]
      done
    · have e' : (x.op == 1) = false := by simpa using e
      simp [-getElem?_pos, c_tattlerlaw22_CoordApart_l3, hlt, hj, hx, h1, k0, e, e', nb, h14, hbH, hlt26]
      done
  · rw [s_round, List.take_length]
    simp [c_tattlerlaw22_CoordApart_l3]
end Go.Proofs.Ytklmddbnjookiaa.V
