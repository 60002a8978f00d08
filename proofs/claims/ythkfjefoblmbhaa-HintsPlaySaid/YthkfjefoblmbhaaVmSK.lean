/- What the comparison of 'sibs.sorted' computes. -/
import Derived.Test.YthkfjefoblmbhaaV0T
import Derived.Test.YthkfjefoblmbhaaVmG5
import Derived.Test.YthkfjefoblmbhaaVmG5
set_option linter.unusedVariables false
set_option linter.unusedSimpArgs false
namespace Go.Proofs.Ythkfjefoblmbhaa.V0
open Go.Vm

theorem i64_add1 {n : Nat} (h : n < 4611686018427387904) : IntKind.wrap .i64 ((n : Int) + 1) = ((n + 1 : Nat) : Int) := by rw [wrap_i64] <;> omega
def cmpI (a b : Int) : Int := if a < b then -1 else if b < a then 1 else 0
theorem isNaN_int_eq (a : Int) (h : Heap) : callL E F.cmp_isNaN_int [.int .i64 a] h = some (.bool false, h, .no) := by
  refine callL_of rfl fn_cmp_isNaN_int ?_
  simp [c_cmp_isNaN_int]
theorem isNaN_int64_eq (a : Int) (h : Heap) : callL E F.cmp_isNaN_int64 [.int .i64 a] h = some (.bool false, h, .no) := by
  refine callL_of rfl fn_cmp_isNaN_int64 ?_
  simp [c_cmp_isNaN_int64]
theorem cmpInt_eq (a b : Int) (h : Heap) : callL E F.cmp_Compare_int [.int .i64 a, .int .i64 b] h = some (.int .i64 (cmpI a b), h, .no) := by
  refine callL_of rfl fn_cmp_Compare_int ?_
  have g1 := isNaN_int_eq a h
  have g2 := isNaN_int_eq b h
  unfold cmpI
  by_cases h1 : a < b
  · simp [c_cmp_Compare_int, g1, g2, h1]
  · by_cases h2 : b < a
    · simp [c_cmp_Compare_int, g1, g2, h1, h2]
    · simp [c_cmp_Compare_int, g1, g2, h1, h2]
theorem cmpInt64_eq (a b : Int) (h : Heap) : callL E F.cmp_Compare_int64 [.int .i64 a, .int .i64 b] h = some (.int .i64 (cmpI a b), h, .no) := by
  refine callL_of rfl fn_cmp_Compare_int64 ?_
  have g1 := isNaN_int64_eq a h
  have g2 := isNaN_int64_eq b h
  unfold cmpI
  by_cases h1 : a < b
  · simp [c_cmp_Compare_int64, g1, g2, h1]
  · by_cases h2 : b < a
    · simp [c_cmp_Compare_int64, g1, g2, h1, h2]
    · simp [c_cmp_Compare_int64, g1, g2, h1, h2]
theorem cmpOr_eq (a b : Int) (h : Heap) : callL E F.cmp_Or_int [.sl [.int .i64 a, .int .i64 b]] h = some (.int .i64 (if a = 0 then b else a), h, .no) := by
  refine callL_of rfl fn_cmp_Or_int ?_
  have key := loop_scan (C := callL E) (fb := h.length) (live := [3, 6, 7, 8]) (c := c_cmp_Or_int_l0) (fun j => ⟨[(3, .int .i64 0), (6, .sl [.int .i64 a, .int .i64 b]), (7, .int .i64 2), (8, .int .i64 j)], h, .no⟩) 2 (getB [a, b] fun x => x == 0)
    (.exit 0, ⟨[(3, .int .i64 0), (6, .sl [.int .i64 a, .int .i64 b]), (7, .int .i64 2), (8, .int .i64 2), (9, .bool false)], h, .no⟩)
    (fun j => (.ret, ⟨[(2, .int .i64 (([a, b] : List Int)[j]?.getD 0))], h, .no⟩)) ?_ ?_ (fun _ => rfl) ?_ rfl
  · rw [show ((0 : Nat) : Int) = 0 from rfl] at key
    rcases key with ⟨h1, h2⟩ | ⟨j, h1, h2, h3, h4⟩
    · have e0 : a = 0 := by simpa [getB] using h1 0 (by omega)
      have e1 : b = 0 := by simpa [getB] using h1 1 (by omega)
      subst e0 e1
      simp [c_cmp_Or_int, h2]
    · have : j = 0 ∨ j = 1 := by omega
      rcases this with rfl | rfl
      · have e0 : ¬ a = 0 := by simpa [getB] using h2
        simp at h4
        simp [c_cmp_Or_int, h4, e0]
      · have e0 : a = 0 := by simpa [getB] using h3 0 (by omega)
        subst e0
        simp at h4
        simp [c_cmp_Or_int, h4]
  · intro j hj hp
    have h1 := i64_add1 (n := j) (by omega)
    have : j = 0 ∨ j = 1 := by omega
    rw [s_round]
    rcases this with rfl | rfl
    · have e0 : a = 0 := by simpa [getB] using hp
      have w1 : IntKind.wrap .i64 1 = 1 := by rw [wrap_i64] <;> omega
      simp [c_cmp_Or_int_l0, e0, w1]
    · have e0 : b = 0 := by simpa [getB] using hp
      have w1 : IntKind.wrap .i64 2 = 2 := by rw [wrap_i64] <;> omega
      simp [c_cmp_Or_int_l0, e0, w1]
  · intro j hj hp
    have : j = 0 ∨ j = 1 := by omega
    rw [s_round]
    rcases this with rfl | rfl
    · have e0 : (a == 0) = false := by simpa [getB] using hp
      simp [c_cmp_Or_int_l0, e0]
    · have e0 : (b == 0) = false := by simpa [getB] using hp
      simp [c_cmp_Or_int_l0, e0]
  · rw [s_round]
    simp [c_cmp_Or_int_l0]
theorem vecLess_eq (a b c d : Int) (h : Heap) : callL E F.vector_Less [.agg [.int .i64 a, .int .i64 b], .agg [.int .i64 c, .int .i64 d]] h = some (.bool (ltK (a, b) (c, d)), h, .no) := by
  refine callL_of rfl fn_vector_Less ?_
  have g1 := cmpInt_eq a c (h ++ [.cells [.int .i64 a, .int .i64 b] [], .cells [.int .i64 c, .int .i64 d] []])
  have g2 := cmpInt64_eq b d (h ++ [.cells [.int .i64 a, .int .i64 b] [], .cells [.int .i64 c, .int .i64 d] []])
  have g3 := cmpOr_eq (cmpI a c) (cmpI b d) (h ++ [.cells [.int .i64 a, .int .i64 b] [], .cells [.int .i64 c, .int .i64 d] []])
  have e : decide ((if cmpI a c = 0 then cmpI b d else cmpI a c) < 0) = ltK (a, b) (c, d) := by
    unfold ltK cmpI
    rw [Bool.eq_iff_iff]
    simp only [decide_eq_true_eq, Bool.or_eq_true, Bool.and_eq_true]
    constructor
    · intro h
      split at h <;> (repeat' split at h) <;> omega
    · intro h
      split <;> (repeat' split) <;> omega
  generalize (if cmpI a c = 0 then cmpI b d else cmpI a c) = w at g3 e
  rw [← e]
  simp [-getElem?_pos, c_vector_Less, g1, g2, g3]
theorem sortedC_eq (a b c d : Int) : callL E F.sibs_sorted_c1 [.agg [.int .i64 a, .int .i64 b, .cel, .cel], .agg [.int .i64 c, .int .i64 d, .cel, .cel]] [] = some (.int .i64 (cmpK (a, b) (c, d)), [], .no) := by
  refine callL_of rfl fn_sibs_sorted_c1 ?_
  have g1 := vecLess_eq a b c d
  have g2 := vecLess_eq c d a b
  unfold cmpK
  cases h1 : ltK (a, b) (c, d) with
  | true =>
    rw [h1] at g1
    simp [-getElem?_pos, c_sibs_sorted_c1, g1]
  | false =>
    rw [h1] at g1
    cases h2 : ltK (c, d) (a, b) with
    | true =>
      rw [h2] at g2
      simp [-getElem?_pos, c_sibs_sorted_c1, g1, g2]
    | false =>
      rw [h2] at g2
      simp [-getElem?_pos, c_sibs_sorted_c1, g1, g2]
end Go.Proofs.Ythkfjefoblmbhaa.V0
