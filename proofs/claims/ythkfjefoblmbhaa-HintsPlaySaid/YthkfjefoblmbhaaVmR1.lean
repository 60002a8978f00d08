/- What the functions of 'tattlerref1' compute: vectors. -/
import Derived.Test.YthkfjefoblmbhaaVmKV
import Derived.Test.YthkfjefoblmbhaaVmG5
set_option linter.unusedVariables false
set_option linter.unusedSimpArgs false
namespace Go.Proofs.Ythkfjefoblmbhaa.V
open Go.Vm

def _root_.Go.Vm.Dot.less (a b : Dot) : Bool := decide (a.node < b.node) || (decide (a.node = b.node) && decide (a.n < b.n))
def cntOk (n : Int) : Bool := decide (0 ≤ n) && decide (n ≤ 1099511627776)
def _root_.Go.Vm.Vec.may (v : Vec) : Bool := v.l.all cntOk
theorem r1May_eq (v : Vec) (h : Heap) : callL E F.tattlerref1_May [v.v] h = some (.bool v.may, h, .no) := by
  refine callL_of rfl fn_tattlerref1_May ?_
  have key := loop_scan (C := callL E) (fb := h.length) (live := [5, 6]) (c := c_tattlerref1_May_l0) (fun j => ⟨[(5, v.v), (6, .int .i64 j)], h ++ [.cells v.c []], .no⟩) 8 (getB v.l cntOk)
    (.exit 0, ⟨[(5, v.v), (6, .int .i64 8), (7, .bool false)], h ++ [.cells v.c []], .no⟩) (fun j => (.ret, ⟨[(2, .bool false)], h ++ [.cells v.c []], .no⟩)) ?_ ?_ (fun _ => rfl) ?_ rfl
  · rw [show ((0 : Nat) : Int) = 0 from rfl] at key
    simp only [Vec.v] at key
    rcases key with ⟨h1, h2⟩ | ⟨j, h1, h2, h3, h4⟩
    · have hm : v.may = true := all_getB fun j hj => h1 j (by simpa using hj)
      simp [c_tattlerref1_May, h2, hm]
    · have hm : v.may = false := not_all_getB (by simpa using h1) h2
      simp [c_tattlerref1_May, h4, hm]
  · intro j hj hp
    obtain ⟨x, hx, _, _⟩ := get_of_lt (l := v.l) (i := j) (by simp; omega)
    have hlt : (j : Int) < 8 := by omega
    have h1 := i64_add1 (n := j) (by omega)
    have hcx : v.c[j]? = some (.int .i64 x) := by simp [Vec.c, hx]
    rw [getB_at hx] at hp
    simp only [cntOk, Bool.and_eq_true, decide_eq_true_eq] at hp
    have e1 : ¬ x < 0 := by omega
    have e2 : ¬ (1099511627776 : Int) < x := by omega
    rw [s_round]
    simp [-getElem?_pos, c_tattlerref1_May_l0, hlt, hj, hcx, h1, e1, e2]
  · intro j hj hp
    obtain ⟨x, hx, _, _⟩ := get_of_lt (l := v.l) (i := j) (by simp; omega)
    have hlt : (j : Int) < 8 := by omega
    have hcx : v.c[j]? = some (.int .i64 x) := by simp [Vec.c, hx]
    rw [getB_at hx] at hp
    simp only [cntOk, Bool.and_eq_false_iff, decide_eq_false_iff_not] at hp
    rw [s_round]
    by_cases e1 : x < 0
    · simp [-getElem?_pos, c_tattlerref1_May_l0, hlt, hj, hcx, e1]
    · have e2 : (1099511627776 : Int) < x := by omega
      simp [-getElem?_pos, c_tattlerref1_May_l0, hlt, hj, hcx, e1, e2]
  · rw [s_round]
    simp [c_tattlerref1_May_l0]
theorem r1Covers_eq (v : Vec) (d : Dot) (h : Heap) : callL E F.tattlerref1_Covers [v.v, d.v] h = some (.bool (v.covers d), h, .no) := by
  refine callL_of rfl fn_tattlerref1_Covers ?_
  unfold Vec.covers
  by_cases h0 : 0 ≤ d.node
  · by_cases h1 : d.node < 8
    · obtain ⟨n, hn⟩ := Int.eq_ofNat_of_zero_le h0
      obtain ⟨x, hx, _, _⟩ := get_of_lt (l := v.l) (i := n) (by simp; omega)
      have h8 : n < 8 := by omega
      have h9 : (n : Int) < 8 := by omega
      by_cases h2 : 1 ≤ d.n
      · have hcx : v.c[n]? = some (.int .i64 x) := by simp [Vec.c, hx]
        simp [c_tattlerref1_Covers, h9, h2, hn, h8, hx, hcx, Vec.v, Dot.v, -getElem?_pos]
      · simp [c_tattlerref1_Covers, h9, hn, h8, h2, Vec.v, Dot.v, -getElem?_pos]
    · simp [c_tattlerref1_Covers, h0, h1, Vec.v, Dot.v]
  · simp [c_tattlerref1_Covers, h0, Vec.v, Dot.v]
theorem r1Less_eq (a b : Dot) (h : Heap) : callL E F.tattlerref1_Less [a.v, b.v] h = some (.bool (a.less b), h, .no) := by
  refine callL_of rfl fn_tattlerref1_Less ?_
  unfold Dot.less
  by_cases h0 : a.node < b.node
  · simp [c_tattlerref1_Less, h0]
  · by_cases h1 : a.node = b.node
    · simp [c_tattlerref1_Less, h1]
    · have h2 : (a.node == b.node) = false := by simpa using h1
      simp [c_tattlerref1_Less, h0, h1, h2]
theorem r1Join_eq (a b : Vec) (h : Heap) : callL E F.tattlerref1_Join [a.v, b.v] h = some ((a.join b).v, h, .no) := by
  refine callL_of rfl fn_tattlerref1_Join ?_
  have key := loop_to (C := callL E) (fb := h.length) (live := [2, 3, 4, 6]) (c := c_tattlerref1_Join_l0)
    (fun j => ⟨[(2, .ptr (some (h.length, 0))), (3, .ptr (some (h.length + 1, 0))), (4, .ptr (some (h.length + 2, 0))), (6, .int .i64 j)], h ++ [.cells (((List.zipWith max a.l b.l).take j ++ a.l.drop j).map (.int .i64)) [], .cells b.c [], .cells ((List.replicate 8 0).map (.int .i64)) []], .no⟩) 8
    (r := (.exit 0, ⟨[(2, .ptr (some (h.length, 0))), (3, .ptr (some (h.length + 1, 0))), (4, .ptr (some (h.length + 2, 0))), (6, .int .i64 8), (7, .bool false)], h ++ [.cells (a.join b).c [], .cells b.c [], .cells ((List.replicate 8 0).map (.int .i64)) []], .no⟩)) ?_ ?_ rfl
  · rw [show ((0 : Nat) : Int) = 0 from rfl, List.take_zero, List.nil_append, List.drop_zero] at key
    have h2 : (a.l.map (V.int .i64)) = a.c := rfl
    rw [h2] at key
    simp only [List.replicate_succ, List.replicate_zero, List.map_cons, List.map_nil] at key
    simp [c_tattlerref1_Join, key, Vec.v]
  · intro j hj
    have hlt : (j : Int) < 8 := by omega
    obtain ⟨x, hx, _, _⟩ := get_of_lt (l := a.l) (i := j) (by simp; omega)
    obtain ⟨y, hy, _, _⟩ := get_of_lt (l := b.l) (i := j) (by simp; omega)
    obtain ⟨h2, h3⟩ := join_mid a.l b.l j x y (by simp) hx hy
    have h1 := i64_add1 (n := j) (by omega)
    have hm : (if x < y then y else x) = max x y := by split <;> omega
    have hlen : ((List.zipWith max a.l b.l).take j ++ a.l.drop j).length = 8 := by simp; omega
    rw [← h3]
    generalize (List.zipWith max a.l b.l).take j ++ a.l.drop j = m at h2 h3 hlen
    have hcy : b.c[j]? = some (.int .i64 y) := by simp [Vec.c, hy]
    have hc : ((some x).map (V.int IntKind.i64)) = some (.int .i64 x) := rfl
    rw [s_round]
    simp [c_tattlerref1_Join_l0, hlt, hcy, h2, h1, -getElem?_pos, hm, hlen, hj, hc]
  · have h1 : (List.zipWith max a.l b.l).take 8 ++ a.l.drop 8 = (a.join b).l := by rw [List.take_of_length_le (by simp), List.drop_of_length_le (by simp)]; simp [Vec.join]
    rw [s_round, h1]
    simp [c_tattlerref1_Join_l0, Vec.c]
end Go.Proofs.Ythkfjefoblmbhaa.V
