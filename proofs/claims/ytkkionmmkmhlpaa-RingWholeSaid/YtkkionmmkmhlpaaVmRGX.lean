/- With a node more the others stand as they stood; a list of marks. -/
import Derived.Test.YtkkionmmkmhlpaaVmRGW
import Derived.Test.YtkkionmmkmhlpaaVRO
set_option linter.unusedVariables false
set_option linter.unusedSimpArgs false
namespace Go.Proofs.Ytkkionmmkmhlpaa.W2
open Go.Vm Go.Proofs.Ytkkionmmkmhlpaa.V

theorem dd_filter (c : Int) : ∀ (T : List Pt) (out : List Int), (dd out T).filter (fun x => x != c) = dd (out.filter fun x => x != c) (T.filter fun p => p.node != c)
  | [], _ => rfl
  | p :: T, out => by
    show (dd (dd1 out p) T).filter _ = _
    rw [dd_filter c T, List.filter_cons]
    unfold dd1
    cases hp : (p.node != c)
    · have e : p.node = c := by simpa using hp
      cases out.contains p.node
      · simp [List.filter_append, e]
      · simp
    · simp only [if_true]
      show _ = dd (dd1 _ p) _
      unfold dd1
      have hc : (out.filter fun x => x != c).contains p.node = out.contains p.node := by
        rw [Bool.eq_iff_iff, List.contains_iff_mem, List.contains_iff_mem, List.mem_filter]
        simp [hp]
      rw [hc]
      cases out.contains p.node
      · simp [List.filter_append, hp]
      · simp
theorem tour_filter (q : Pt → Bool) (ps : List Pt) (fr : Int) : (tour ps fr).filter q = tour (ps.filter q) fr := by
  simp only [tour, List.filter_append, List.filter_filter]
  congr 1 <;> (congr 1; funext p; exact Bool.and_comm _ _)
theorem pts_more (N : Nat) : (ptsN (4 * (N + 1))).filter (fun p => p.node != (N : Int)) = ptsN (4 * N) := by
  have e : ptsN (4 * (N + 1)) = ptsN (4 * N) ++ [ptN (4 * N), ptN (4 * N + 1), ptN (4 * N + 2), ptN (4 * N + 3)] := by
    rw [show 4 * (N + 1) = 4 * N + 1 + 1 + 1 + 1 by omega, ptsN_succ, ptsN_succ, ptsN_succ, ptsN_succ]
    simp
  have n0 : (ptN (4 * N)).node = (N : Int) := by simp only [ptN]; rw [show 4 * N / 4 = N by omega]
  have n1 : (ptN (4 * N + 1)).node = (N : Int) := by simp only [ptN]; rw [show (4 * N + 1) / 4 = N by omega]
  have n2 : (ptN (4 * N + 2)).node = (N : Int) := by simp only [ptN]; rw [show (4 * N + 2) / 4 = N by omega]
  have n3 : (ptN (4 * N + 3)).node = (N : Int) := by simp only [ptN]; rw [show (4 * N + 3) / 4 = N by omega]
  rw [e, List.filter_append]
  have e1 : (ptsN (4 * N)).filter (fun p => p.node != (N : Int)) = ptsN (4 * N) := by
    rw [List.filter_eq_self]
    intro p hp
    obtain ⟨j, hj, rfl⟩ := ptsN_mem.1 hp
    simp only [ptN, bne_iff_ne, ne_eq]
    omega
  rw [e1]
  simp [List.filter_cons, n0, n1, n2, n3]
theorem order_more (N : Nat) (s : List UInt8) : (orderN (N + 1) s).filter (fun x => x != (N : Int)) = orderN N s := by
  unfold orderN
  rw [orderL_dd, orderL_dd, dd_filter, tour_filter]
  have : (sort3 (ptsN (4 * (N + 1)))).filter (fun p => p.node != (N : Int)) = sort3 (ptsN (4 * N)) := by
    refine sort3_unique ?_ ((sort3_sorted _).filter _) (sort3_sorted _)
    refine ((sort3_perm _).filter _).trans ?_
    rw [pts_more]
    exact (sort3_perm _).symm
  rw [this]
  rfl
def marks (N : Nat) (l : List Int) : List V := (List.range N).map fun m : Nat => V.bool (l.contains (m : Int))
theorem marks_len (N : Nat) (l : List Int) : (marks N l).length = N := by simp [marks]
theorem marks_nil (N : Nat) : (List.replicate N [V.bool false]).flatten = marks N [] := by
  unfold marks
  apply List.ext_getElem?
  intro j
  have e : (List.replicate N [V.bool false]).flatten = List.replicate N (V.bool false) := by
    induction N with
    | zero => rfl
    | succ n ih => simp [List.replicate_succ, ih]
  rw [e, List.getElem?_map, List.getElem?_replicate]
  by_cases hj : j < N
  · simp [hj]
  · simp [hj]
theorem marks_at {N m : Nat} (hm : m < N) (l : List Int) : (marks N l)[m]? = some (.bool (l.contains (m : Int))) := by
  unfold marks
  rw [List.getElem?_map, List.getElem?_range hm]
  rfl
theorem marks_set {N m : Nat} (hm : m < N) (l : List Int) : (marks N l).take m ++ (V.bool true :: (marks N l).drop (m + 1)) = marks N (l ++ [(m : Int)]) := by
  have e : (marks N l).take m ++ (V.bool true :: (marks N l).drop (m + 1)) = (marks N l).set m (.bool true) := by
    rw [List.set_eq_take_append_cons_drop, if_pos (by rw [marks_len]; exact hm)]
  rw [e]
  apply List.ext_getElem?
  intro j
  by_cases hj : j < N
  · rw [marks_at hj, List.getElem?_set]
    by_cases hjm : m = j
    · subst hjm
      rw [if_pos rfl, if_pos (by rw [marks_len]; exact hm)]
      simp
    · rw [if_neg hjm, marks_at hj]
      have : ¬ (j : Int) = (m : Int) := by omega
      congr 2
      simp [this]
  · rw [List.getElem?_eq_none (by rw [List.length_set, marks_len]; omega), List.getElem?_eq_none (by rw [marks_len]; omega)]
end Go.Proofs.Ytkkionmmkmhlpaa.W2
