/- What 'sibs.Same' computes. -/
import Derived.Test.YthkfjefoblmbhaaVmKV
import Derived.Test.YthkfjefoblmbhaaVmKX
set_option linter.unusedVariables false
set_option linter.unusedSimpArgs false
namespace Go.Proofs.Ythkfjefoblmbhaa.V
open Go.Vm

theorem bytesEqual_eq (a b : List UInt8) (h : Heap) : callL E F.bytes_Equal [.sl (a.map byteV), .sl (b.map byteV)] h = some (.bool (a == b), h, .no) := by
  refine callL_of rfl fn_bytes_Equal ?_
  simp [c_bytes_Equal]
theorem sameC_eq (v w : Val) (h : Heap) : callL E F.sibs_Same_c1 [v.v, w.v] h = some (.bool (decide (v = w)), h, .no) := by
  refine callL_of rfl fn_sibs_Same_c1 ?_
  have g1 := bytesEqual_eq v.data w.data (h ++ [.cells v.c [], .cells w.c []])
  by_cases h1 : v.dot = w.dot
  · cases h2 : (v.dead == w.dead) with
    | false =>
      have h3 : ¬ v = w := fun e => by subst e; simp at h2
      simp [-getElem?_pos, c_sibs_Same_c1, Dot.eq_cells, h1, h2, h3]
    | true =>
      have h3 : decide (v = w) = (v.data == w.data) := by
        have h2 : v.dead = w.dead := by simpa using h2
        rw [Bool.eq_iff_iff]
        simp only [decide_eq_true_eq, beq_iff_eq]
        exact ⟨fun e => by rw [e], fun e => by cases v; cases w; simp_all⟩
      rw [h3]
      simp [-getElem?_pos, c_sibs_Same_c1, Dot.eq_cells, h1, h2, g1]
  · have h3 : ¬ v = w := fun e => h1 (by rw [e])
    simp [-getElem?_pos, c_sibs_Same_c1, Dot.eq_cells, h1, h3]
theorem equalFunc_eq (a b : List Val) (ha : a.length ≤ 1099511627776) (h : Heap) : callL E F.slices_EqualFunc_api_Value_api_Value_api_Value_api_Value [.sl (a.map Val.v), .sl (b.map Val.v), .fn F.sibs_Same_c1 [] []] h = some (.bool (decide (a = b)), h, .no) := by
  refine callL_of rfl fn_slices_EqualFunc_api_Value_api_Value_api_Value_api_Value ?_
  by_cases hl : a.length = b.length
  · have key := loop_scan (C := callL E) (fb := h.length) (live := [1, 2, 15, 16, 17]) (c := c_slices_EqualFunc_api_Value_api_Value_api_Value_api_Value_l0)
      (fun j => ⟨[(1, .sl (b.map Val.v)), (2, .fn F.sibs_Same_c1 [] []), (15, .sl (a.map Val.v)), (16, .int .i64 a.length), (17, .int .i64 j)], h, .no⟩) a.length (fun j => decide (a[j]? = b[j]?))
      (.exit 0, ⟨[(1, .sl (b.map Val.v)), (2, .fn F.sibs_Same_c1 [] []), (15, .sl (a.map Val.v)), (16, .int .i64 a.length), (17, .int .i64 a.length), (18, .bool false)], h, .no⟩)
      (fun j => (.ret, ⟨[(6, .bool false)], h ++ [.cells (match a[j]? with | some v => v.c | none => []) [], .cells (match b[j]? with | some v => v.c | none => []) []], .no⟩)) ?_ ?_ (fun _ => rfl) ?_ rfl
    · rw [show ((0 : Nat) : Int) = 0 from rfl] at key
      have hle : ((a.length : Int) == (b.length : Int)) = true := by simp [hl]
      rcases key with ⟨h1, h2⟩ | ⟨j, h1, h2, h3, h4⟩
      · have : a = b := by
          apply List.ext_getElem?
          intro j
          by_cases hj : j < a.length
          · simpa using h1 j hj
          · rw [List.getElem?_eq_none (by omega), List.getElem?_eq_none (by omega)]
        simp only [this, decide_true]
        rw [this] at h2 hle
        simp [-getElem?_pos, c_slices_EqualFunc_api_Value_api_Value_api_Value_api_Value, h2]
      · have : ¬ a = b := fun e => by rw [e] at h2; simp at h2
        simp [-getElem?_pos, c_slices_EqualFunc_api_Value_api_Value_api_Value_api_Value, h4, hle, this]
    · intro j hj hp
      obtain ⟨x, hx, _, _⟩ := get_of_lt (l := a) (i := j) hj
      obtain ⟨y, hy, _, _⟩ := get_of_lt (l := b) (i := j) (by omega)
      have hlt : (j : Int) < (a.length : Int) := by omega
      have h1 := i64_add1 (n := j) (by omega)
      rw [hx, hy] at hp
      have hxy : x = y := by simpa using hp
      have g1 := sameC_eq x y (h ++ [.cells x.c [], .cells y.c []])
      rw [decide_eq_true hxy] at g1
      simp only [Val.v] at g1
      rw [s_round]
      simp [-getElem?_pos, c_slices_EqualFunc_api_Value_api_Value_api_Value_api_Value_l0, hlt, hj, hx, hy, h1, g1]
    · intro j hj hp
      obtain ⟨x, hx, _, _⟩ := get_of_lt (l := a) (i := j) hj
      obtain ⟨y, hy, _, _⟩ := get_of_lt (l := b) (i := j) (by omega)
      have hlt : (j : Int) < (a.length : Int) := by omega
      rw [hx, hy] at hp
      have hxy : ¬ x = y := by simpa using hp
      have g1 := sameC_eq x y (h ++ [.cells x.c [], .cells y.c []])
      rw [decide_eq_false hxy] at g1
      simp only [Val.v] at g1
      rw [s_round]
      simp [-getElem?_pos, c_slices_EqualFunc_api_Value_api_Value_api_Value_api_Value_l0, hlt, hj, hx, hy, g1]
    · rw [s_round]
      simp [c_slices_EqualFunc_api_Value_api_Value_api_Value_api_Value_l0]
  · have h1 : ((a.length : Int) == (b.length : Int)) = false := by simp; omega
    have h2 : a ≠ b := fun h => hl (by rw [h])
    simp [-getElem?_pos, c_slices_EqualFunc_api_Value_api_Value_api_Value_api_Value, h1, h2]
theorem sibsSame_eq (a b : Sib) (ha : a.vals.length ≤ 1099511627776) (h : Heap) : callL E F.sibs_Same [a.v, b.v] h = some (.bool (decide (a = b)), h, .no) := by
  refine callL_of rfl fn_sibs_Same ?_
  have g1 := equalFunc_eq a.vals b.vals ha (h ++ [.cells a.c [], .cells b.c []])
  by_cases h1 : a.seen = b.seen
  · have h2 : decide (a = b) = decide (a.vals = b.vals) := by
      rw [Bool.eq_iff_iff]
      simp only [decide_eq_true_eq]
      exact ⟨fun e => by rw [e], fun e => by cases a; cases b; simp_all⟩
    rw [h2]
    simp [-getElem?_pos, c_sibs_Same, Vec.eq_cells, h1, g1]
  · have h2 : ¬ a = b := fun e => h1 (by rw [e])
    simp [-getElem?_pos, c_sibs_Same, Vec.eq_cells, h1, h2]
end Go.Proofs.Ythkfjefoblmbhaa.V
