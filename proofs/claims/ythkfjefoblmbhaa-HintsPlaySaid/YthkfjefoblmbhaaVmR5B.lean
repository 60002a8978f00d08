/- What the functions of 'tattlerref5' compute: sibs joined. -/
import Derived.Test.YthkfjefoblmbhaaVmR5
set_option linter.unusedVariables false
set_option linter.unusedSimpArgs false
namespace Go.Proofs.Ythkfjefoblmbhaa.V
open Go.Vm

def findD (l : List Val) (d : Dot) : Option Nat := l.findIdx? fun v => decide (v.dot = d)
theorem r5find_eq (s : Sib) (hs : s.vals.length ≤ 1099511627776) (d : Dot) (h : Heap) : callL E F.tattlerref5_find [s.v, d.v] h = some (idxV (findD s.vals d), h, .no) := by
  refine callL_of rfl fn_tattlerref5_find ?_
  have key := loop_scan (C := callL E) (fb := h.length) (live := [3, 8, 9, 10]) (c := c_tattlerref5_find_l0)
    (fun j => ⟨[(3, .ptr (some (h.length + 1, 0))), (8, .sl (s.vals.map Val.v)), (9, .int .i64 s.vals.length), (10, .int .i64 j)], h ++ [.cells s.c [], .cells d.c []], .no⟩) s.vals.length (getB s.vals fun v => !decide (v.dot = d))
    (.exit 0, ⟨[(3, .ptr (some (h.length + 1, 0))), (8, .sl (s.vals.map Val.v)), (9, .int .i64 s.vals.length), (10, .int .i64 s.vals.length), (11, .bool false)], h ++ [.cells s.c [], .cells d.c []], .no⟩)
    (fun j => (.ret, ⟨[(4, .int .i64 j)], h ++ [.cells s.c [], .cells d.c [], .cells (match s.vals[j]? with | some v => v.c | none => []) []], .no⟩)) ?_ ?_ (fun _ => rfl) ?_ rfl
  · rw [show ((0 : Nat) : Int) = 0 from rfl] at key
    rcases key with ⟨h1, h2⟩ | ⟨j, h1, h2, h3, h4⟩
    · have : findD s.vals d = none := findIdx_getB h1
      simp [-getElem?_pos, c_tattlerref5_find, h2, this, idxV]
    · have : findD s.vals d = some j := findIdx_at h1 h2 h3
      simp [-getElem?_pos, c_tattlerref5_find, h4, this, idxV]
  · intro j hj hp
    obtain ⟨v, hx, _, _⟩ := get_of_lt (l := s.vals) (i := j) hj
    have hlt : (j : Int) < (s.vals.length : Int) := by omega
    have h1 := i64_add1 (n := j) (by omega)
    rw [getB_at hx] at hp
    have hp' : ¬ v.dot = d := by simpa using hp
    rw [s_round]
    simp [-getElem?_pos, c_tattlerref5_find_l0, hlt, hj, hx, h1, Dot.eq_cells, hp']
  · intro j hj hp
    obtain ⟨v, hx, _, _⟩ := get_of_lt (l := s.vals) (i := j) hj
    have hlt : (j : Int) < (s.vals.length : Int) := by omega
    rw [getB_at hx] at hp
    have hp' : v.dot = d := by simpa using hp
    rw [s_round]
    simp [-getElem?_pos, c_tattlerref5_find_l0, hlt, hj, hx, Dot.eq_cells, hp']
  · rw [s_round]
    simp [c_tattlerref5_find_l0]
def _root_.Go.Vm.Val.first (a b : Val) : Val := if a.dead ≠ b.dead then (if a.dead = true then b else a) else if bytesLess b.data a.data = true then b else a
theorem r5first_eq (a b : Val) (h : Heap) : callL E F.tattlerref5_first [a.v, b.v] h = some ((a.first b).v, h, .no) := by
  refine callL_of rfl fn_tattlerref5_first ?_
  unfold Val.first
  cases ha : a.dead <;> cases hb : b.dead
  · cases hc : bytesLess b.data a.data <;> simp [-getElem?_pos, c_tattlerref5_first, ha, hb, hc]
  · simp [-getElem?_pos, c_tattlerref5_first, ha, hb]
  · simp [-getElem?_pos, c_tattlerref5_first, ha, hb]
  · cases hc : bytesLess b.data a.data <;> simp [-getElem?_pos, c_tattlerref5_first, ha, hb, hc]
theorem r5copied_eq (v : Val) (hv : v.data.length ≤ 140737488355328) (h : Heap) : callL E F.tattlerref5_copied [v.v] h = some (v.v, h, .no) := by
  refine callL_of rfl fn_tattlerref5_copied ?_
  have h1 : v.c.set 2 (.sl (v.data.map byteV)) = v.c := rfl
  simp [-getElem?_pos, c_tattlerref5_copied, hv, h1]
def insertV : List Val → Val → List Val
  | [], v => [v]
  | u :: l, v => if u.dot.less v.dot = true then u :: insertV l v else v :: u :: l
theorem insertV_len (l : List Val) (v : Val) : (insertV l v).length = l.length + 1 := by
  induction l with
  | nil => rfl
  | cons u l ih => simp only [insertV]; split <;> simp [ih]
theorem insertV_at : ∀ {l : List Val} {v : Val} {j : Nat}, j ≤ l.length → (∀ i, i < j → getB l (fun u => u.dot.less v.dot) i = true) → (j = l.length ∨ getB l (fun u => u.dot.less v.dot) j = false) → insertV l v = l.take j ++ v :: l.drop j
  | [], v, j, hj, _, _ => by
    have : j = 0 := by simpa using hj
    subst this; rfl
  | u :: l, v, 0, _, _, h => by
    rcases h with h | h
    · cases h
    · have : u.dot.less v.dot = false := by simpa [getB] using h
      simp [insertV, this]
  | u :: l, v, j + 1, hj, h0, h => by
    have : u.dot.less v.dot = true := by simpa [getB] using h0 0 (by omega)
    simp only [insertV, this, if_true, List.take_succ_cons, List.drop_succ_cons, List.cons_append]
    congr 1
    refine insertV_at (by simpa using hj) (fun i hi => ?_) (h.imp (fun e => by simpa using e) id)
    exact h0 (i + 1) (by omega)
theorem r5insert_eq (l : List Val) (hl : l.length ≤ 1099511627776) (v : Val) (h : Heap) : callL E F.tattlerref5_insert [.sl (l.map Val.v), v.v] h = some (.sl ((insertV l v).map Val.v), h, .no) := by
  refine callL_of rfl fn_tattlerref5_insert ?_
  have key := loop_scan (C := callL E) (fb := h.length) (live := [0, 3, 5]) (c := c_tattlerref5_insert_l0)
    (fun j => ⟨[(0, .sl (l.map Val.v)), (3, .ptr (some (h.length, 0))), (5, .int .i64 j)], h ++ [.cells v.c []], .no⟩) l.length (getB l fun u => u.dot.less v.dot)
    (.exit 0, ⟨[(0, .sl (l.map Val.v)), (3, .ptr (some (h.length, 0))), (5, .int .i64 l.length), (19, .bool false)], h ++ [.cells v.c []], .no⟩)
    (fun j => (.exit 0, ⟨[(0, .sl (l.map Val.v)), (3, .ptr (some (h.length, 0))), (5, .int .i64 j), (19, .bool false)], h ++ [.cells v.c []], .no⟩)) ?_ ?_ (fun _ => rfl) ?_ rfl
  · rw [show ((0 : Nat) : Int) = 0 from rfl] at key
    have fin : ∀ j, j ≤ l.length → insertV l v = l.take j ++ v :: l.drop j → loopRun (callL E) loopL h.length [0, 3, 5] c_tattlerref5_insert_l0 ⟨[(0, .sl (l.map Val.v)), (3, .ptr (some (h.length, 0))), (5, .int .i64 0)], h ++ [.cells v.c []], .no⟩ = some (.exit 0, ⟨[(0, .sl (l.map Val.v)), (3, .ptr (some (h.length, 0))), (5, .int .i64 j), (19, .bool false)], h ++ [.cells v.c []], .no⟩) →
        runV (callL E) loopL c_tattlerref5_insert [.sl (l.map Val.v), v.v] h = some (.sl ((insertV l v).map Val.v), h, .no) := by
      intro j hj he h2
      have b1 : j * 48 ≤ 140737488355328 := by omega
      have b2 : (j + 1) * 48 ≤ 140737488355328 := by omega
      have b3 : (j + (1 + (l.length - j))) * 48 ≤ 140737488355328 := by omega
      have b4 : (j + 1 + (l.length - j)) * 48 ≤ 140737488355328 := by omega
      have hm : min j l.length = j := by omega
      have hml : (l.map Val.v).length = l.length := by simp
      have hs1 : sizeOk 4 ((l.map Val.v).take j) = true := by rw [← List.map_take]; exact sizeOk_vals _
      have hs2 : sizeOk 4 ((l.map Val.v).drop j) = true := by rw [← List.map_drop]; exact sizeOk_vals _
      have hs3 : sizeOk 4 ((l.map Val.v).take j ++ [.agg v.c]) = true := by
        have : (l.map Val.v).take j ++ [.agg v.c] = (l.take j ++ [v]).map Val.v := by simp
        rw [this]; exact sizeOk_vals _
      have hs0 : sizeOk 4 (l.map Val.v) = true := sizeOk_vals _
      have hres : (insertV l v).map Val.v = (l.map Val.v).take j ++ (.agg v.c :: (l.map Val.v).drop j) := by rw [he]; simp
      rw [hres]
      generalize l.map Val.v = q at *
      have htk : List.take l.length q = q := List.take_of_length_le (by omega)
      simp [-getElem?_pos, c_tattlerref5_insert, h2, hml, htk, hs0, hs1, hs2, hs3, hj, hm, b1, b2, b3, b4]
    rcases key with ⟨h1, h2⟩ | ⟨j, h1, h2, h3, h4⟩
    · exact fin l.length (Nat.le_refl _) (insertV_at (Nat.le_refl _) h1 (.inl rfl)) h2
    · exact fin j (Nat.le_of_lt h1) (insertV_at (Nat.le_of_lt h1) h3 (.inr h2)) h4
  · intro j hj hp
    obtain ⟨u, hx, _, _⟩ := get_of_lt (l := l) (i := j) hj
    have hlt : (j : Int) < (l.length : Int) := by omega
    have h1 := i64_add1 (n := j) (by omega)
    rw [getB_at hx] at hp
    have g1 := r1Less_eq u.dot v.dot (h ++ [.cells v.c []])
    rw [hp] at g1
    simp only [Dot.v] at g1
    rw [s_round]
    simp [-getElem?_pos, c_tattlerref5_insert_l0, hlt, hj, hx, h1, g1]
  · intro j hj hp
    obtain ⟨u, hx, _, _⟩ := get_of_lt (l := l) (i := j) hj
    have hlt : (j : Int) < (l.length : Int) := by omega
    rw [getB_at hx] at hp
    have g1 := r1Less_eq u.dot v.dot (h ++ [.cells v.c []])
    rw [hp] at g1
    simp only [Dot.v] at g1
    rw [s_round]
    simp [-getElem?_pos, c_tattlerref5_insert_l0, hlt, hj, hx, g1]
  · rw [s_round]
    simp [c_tattlerref5_insert_l0]
end Go.Proofs.Ythkfjefoblmbhaa.V
