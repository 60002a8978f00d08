/- What the functions of 'vector' and 'cmp' compute: may a vector be; which dot is less. -/
import Derived.Test.YthkfjefoblmbhaaVmR1
import Derived.Test.YthkfjefoblmbhaaVmKX
set_option linter.unusedVariables false
set_option linter.unusedSimpArgs false
namespace Go.Proofs.Ythkfjefoblmbhaa.V
open Go.Vm

theorem vecMay_eq (v : Vec) (h : Heap) : callL E F.vector_May [v.v] h = some (.bool v.may, h, .no) := by
  refine callL_of rfl fn_vector_May ?_
  have key := loop_scan (C := callL E) (fb := h.length) (live := [5, 6]) (c := c_vector_May_l0) (fun j => ⟨[(5, v.v), (6, .int .i64 j)], h ++ [.cells v.c []], .no⟩) 8 (getB v.l cntOk)
    (.exit 0, ⟨[(5, v.v), (6, .int .i64 8), (7, .bool false)], h ++ [.cells v.c []], .no⟩) (fun j => (.ret, ⟨[(2, .bool false)], h ++ [.cells v.c []], .no⟩)) ?_ ?_ (fun _ => rfl) ?_ rfl
  · rw [show ((0 : Nat) : Int) = 0 from rfl] at key
    simp only [Vec.v] at key
    rcases key with ⟨h1, h2⟩ | ⟨j, h1, h2, h3, h4⟩
    · have hm : v.may = true := all_getB fun j hj => h1 j (by simpa using hj)
      simp [c_vector_May, h2, hm]
    · have hm : v.may = false := not_all_getB (by simpa using h1) h2
      simp [c_vector_May, h4, hm]
  · intro j hj hp
    obtain ⟨x, hx, _, _⟩ := get_of_lt (l := v.l) (i := j) (by simp; omega)
    have hlt : (j : Int) < 8 := by omega
    have h1 := i64_add1 (n := j) (by omega)
    have hcx : v.c[j]? = some (.int .i64 x) := by simp [Vec.c, hx]
    rw [getB_at hx] at hp
    simp only [cntOk, Bool.and_eq_true, decide_eq_true_eq] at hp
    have e1 : ¬ x < 0 := by omega
    have e2 : ¬ (1099511627776 : Int) < x := by omega
    rw [s_round]
    simp [-getElem?_pos, c_vector_May_l0, hlt, hj, hcx, h1, e1, e2]
  · intro j hj hp
    obtain ⟨x, hx, _, _⟩ := get_of_lt (l := v.l) (i := j) (by simp; omega)
    have hlt : (j : Int) < 8 := by omega
    have hcx : v.c[j]? = some (.int .i64 x) := by simp [Vec.c, hx]
    rw [getB_at hx] at hp
    simp only [cntOk, Bool.and_eq_false_iff, decide_eq_false_iff_not] at hp
    rw [s_round]
    by_cases e1 : x < 0
    · simp [-getElem?_pos, c_vector_May_l0, hlt, hj, hcx, e1]
    · have e2 : (1099511627776 : Int) < x := by omega
      simp [-getElem?_pos, c_vector_May_l0, hlt, hj, hcx, e1, e2]
  · rw [s_round]
    simp [c_vector_May_l0]
def cmpI (a b : Int) : Int := if a < b then -1 else if b < a then 1 else 0
theorem isNaN_int_eq (a : Int) (h : Heap) : callL E F.cmp_isNaN_int [.int .i64 a] h = some (.bool false, h, .no) := by
  refine callL_of rfl fn_cmp_isNaN_int ?_
  simp [c_cmp_isNaN_int]
theorem isNaN_int64_eq (a : Int) (h : Heap) : callL E F.cmp_isNaN_int64 [.int .i64 a] h = some (.bool false, h, .no) := by
  refine callL_of rfl fn_cmp_isNaN_int64 ?_
  simp [c_cmp_isNaN_int64]
theorem cmpInt_eq (a b : Int) (h : Heap) : callL E F.cmp_Compare_int [.int .i64 a, .int .i64 b] h = some (.int .i64 (cmpI a b), h, .no) := by
  refine callL_of rfl fn_cmp_Compare_int ?_
  have g1 := isNaN_int_eq a h
  have g2 := isNaN_int_eq b h
  unfold cmpI
  by_cases h1 : a < b
  · simp [c_cmp_Compare_int, g1, g2, h1]
  · by_cases h2 : b < a
    · simp [c_cmp_Compare_int, g1, g2, h1, h2]
    · simp [c_cmp_Compare_int, g1, g2, h1, h2]
theorem cmpInt64_eq (a b : Int) (h : Heap) : callL E F.cmp_Compare_int64 [.int .i64 a, .int .i64 b] h = some (.int .i64 (cmpI a b), h, .no) := by
  refine callL_of rfl fn_cmp_Compare_int64 ?_
  have g1 := isNaN_int64_eq a h
  have g2 := isNaN_int64_eq b h
  unfold cmpI
  by_cases h1 : a < b
  · simp [c_cmp_Compare_int64, g1, g2, h1]
  · by_cases h2 : b < a
    · simp [c_cmp_Compare_int64, g1, g2, h1, h2]
    · simp [c_cmp_Compare_int64, g1, g2, h1, h2]
theorem cmpOr_eq (a b : Int) (h : Heap) : callL E F.cmp_Or_int [.sl [.int .i64 a, .int .i64 b]] h = some (.int .i64 (if a = 0 then b else a), h, .no) := by
  refine callL_of rfl fn_cmp_Or_int ?_
  have key := loop_scan (C := callL E) (fb := h.length) (live := [3, 6, 7, 8]) (c := c_cmp_Or_int_l0) (fun j => ⟨[(3, .int .i64 0), (6, .sl [.int .i64 a, .int .i64 b]), (7, .int .i64 2), (8, .int .i64 j)], h, .no⟩) 2 (getB [a, b] fun x => x == 0)
    (.exit 0, ⟨[(3, .int .i64 0), (6, .sl [.int .i64 a, .int .i64 b]), (7, .int .i64 2), (8, .int .i64 2), (9, .bool false)], h, .no⟩)
    (fun j => (.ret, ⟨[(2, .int .i64 (([a, b] : List Int)[j]?.getD 0))], h, .no⟩)) ?_ ?_ (fun _ => rfl) ?_ rfl
  · rw [show ((0 : Nat) : Int) = 0 from rfl] at key
    rcases key with ⟨h1, h2⟩ | ⟨j, h1, h2, h3, h4⟩
    · have e0 : a = 0 := by simpa [getB] using h1 0 (by omega)
      have e1 : b = 0 := by simpa [getB] using h1 1 (by omega)
      subst e0 e1
      simp [c_cmp_Or_int, h2]
    · have : j = 0 ∨ j = 1 := by omega
      rcases this with rfl | rfl
      · have e0 : ¬ a = 0 := by simpa [getB] using h2
        simp at h4
        simp [c_cmp_Or_int, h4, e0]
      · have e0 : a = 0 := by simpa [getB] using h3 0 (by omega)
        subst e0
        simp at h4
        simp [c_cmp_Or_int, h4]
  · intro j hj hp
    have h1 := i64_add1 (n := j) (by omega)
    have : j = 0 ∨ j = 1 := by omega
    rw [s_round]
    rcases this with rfl | rfl
    · have e0 : a = 0 := by simpa [getB] using hp
      have w1 : IntKind.wrap .i64 1 = 1 := by rw [wrap_i64] <;> omega
      simp [c_cmp_Or_int_l0, e0, w1]
    · have e0 : b = 0 := by simpa [getB] using hp
      have w1 : IntKind.wrap .i64 2 = 2 := by rw [wrap_i64] <;> omega
      simp [c_cmp_Or_int_l0, e0, w1]
  · intro j hj hp
    have : j = 0 ∨ j = 1 := by omega
    rw [s_round]
    rcases this with rfl | rfl
    · have e0 : (a == 0) = false := by simpa [getB] using hp
      simp [c_cmp_Or_int_l0, e0]
    · have e0 : (b == 0) = false := by simpa [getB] using hp
      simp [c_cmp_Or_int_l0, e0]
  · rw [s_round]
    simp [c_cmp_Or_int_l0]
theorem vecLess_eq (a b : Dot) (h : Heap) : callL E F.vector_Less [a.v, b.v] h = some (.bool (a.less b), h, .no) := by
  refine callL_of rfl fn_vector_Less ?_
  have g1 := cmpInt_eq a.node b.node (h ++ [.cells a.c [], .cells b.c []])
  have g2 := cmpInt64_eq a.n b.n (h ++ [.cells a.c [], .cells b.c []])
  have g3 := cmpOr_eq (cmpI a.node b.node) (cmpI a.n b.n) (h ++ [.cells a.c [], .cells b.c []])
  have e : decide ((if cmpI a.node b.node = 0 then cmpI a.n b.n else cmpI a.node b.node) < 0) = a.less b := by
    unfold Dot.less cmpI
    rw [Bool.eq_iff_iff]
    simp only [decide_eq_true_eq, Bool.or_eq_true, Bool.and_eq_true]
    constructor
    · intro h
      split at h <;> (repeat' split at h) <;> omega
    · intro h
      split <;> (repeat' split) <;> omega
  generalize (if cmpI a.node b.node = 0 then cmpI a.n b.n else cmpI a.node b.node) = w at g3 e
  rw [← e]
  simp [-getElem?_pos, c_vector_Less, g1, g2, g3]
end Go.Proofs.Ythkfjefoblmbhaa.V
