/- What the functions of 'vector' compute. -/
import Derived.Test.YthkfjefoblmbhaaVmKW
set_option linter.unusedVariables false
set_option linter.unusedSimpArgs false
namespace Go.Proofs.Ythkfjefoblmbhaa.V
open Go.Vm

theorem i64_add1 {n : Nat} (h : n < 4611686018427387904) : IntKind.wrap .i64 ((n : Int) + 1) = ((n + 1 : Nat) : Int) := by rw [wrap_i64] <;> omega
theorem get_of_lt {α : Type} {l : List α} {i : Nat} (h : i < l.length) : ∃ x, l[i]? = some x ∧ l.drop i = x :: l.drop (i + 1) ∧ x ∈ l := ⟨l[i], List.getElem?_eq_getElem h, List.drop_eq_getElem_cons h, List.getElem_mem h⟩

def Wr.vec (w : Wr) (l : List Int) : Wr := l.foldl (fun w n => w.put (encNum (zig n))) w
theorem Wr.Ok.vec {w : Wr} (h : w.Ok) (l : List Int) : (w.vec l).Ok := by
  induction l generalizing w with
  | nil => exact h
  | cons n l ih => exact ih (h.put _)
def _root_.Go.Vm.Vec.join (a b : Vec) : Vec := ⟨List.zipWith max a.l b.l, by simp⟩
def _root_.Go.Vm.Vec.leq (a b : Vec) : Bool := decide (a.join b = b)
theorem join_mid (a b : List Int) (j : Nat) (x y : Int) (hl : a.length = b.length) (hx : a[j]? = some x) (hy : b[j]? = some y) :
    ((List.zipWith max a b).take j ++ a.drop j)[j]? = some x ∧ ((List.zipWith max a b).take j ++ a.drop j).set j (max x y) = (List.zipWith max a b).take (j + 1) ++ a.drop (j + 1) := by
  have hj := (List.getElem?_eq_some_iff.1 hx).1
  have h1 : ((List.zipWith max a b).take j).length = j := by simp; omega
  have h2 : a.drop j = x :: a.drop (j + 1) := by rw [List.drop_eq_getElem_cons hj]; congr 1; exact (List.getElem?_eq_some_iff.1 hx).2
  constructor
  · rw [List.getElem?_append_right (by omega), h1, h2]; simp
  · rw [List.set_append_right _ _ (by omega), h1, h2, Nat.sub_self]
    simp only [List.set_cons_zero]
    rw [List.take_add_one, List.getElem?_zipWith, hx, hy]
    simp
theorem vecJoin_loop (a b : Vec) (h : Heap) (B : Vm.Obj) (z : List V) : ∀ (k j : Nat), j + k = 8 →
    loopRun (callL E) loopL h.length [2, 4, 7, 8] c_vector_Join_l0 ⟨[(2, .ptr (some (h.length, 0))), (4, .ptr (some (h.length + 2, 0))), (7, b.v), (8, .int .i64 j)], h ++ [.cells (((List.zipWith max a.l b.l).take j ++ a.l.drop j).map (.int .i64)) [], B, .cells z []], .no⟩ =
      some (.exit 0, ⟨[(2, .ptr (some (h.length, 0))), (4, .ptr (some (h.length + 2, 0))), (7, b.v), (8, .int .i64 8), (9, .bool false)], h ++ [.cells (a.join b).c [], B, .cells z []], .no⟩) := by
  intro k
  induction k with
  | zero =>
    intro j hj
    have : j = 8 := by omega
    subst this
    refine loop_exit ?_
    have h1 : (List.zipWith max a.l b.l).take 8 ++ a.l.drop 8 = (a.join b).l := by rw [List.take_of_length_le (by simp), List.drop_of_length_le (by simp)]; simp [Vec.join]
    rw [s_round, h1]
    simp [c_vector_Join_l0, Vec.c]
  | succ k ih =>
    intro j hj
    have hlt : (j : Int) < 8 := by omega
    have hlt' : j < 8 := by omega
    obtain ⟨x, hx, _, _⟩ := get_of_lt (l := a.l) (i := j) (by simp; omega)
    obtain ⟨y, hy, _, _⟩ := get_of_lt (l := b.l) (i := j) (by simp; omega)
    obtain ⟨h2, h3⟩ := join_mid a.l b.l j x y (by simp) hx hy
    have h1 := i64_add1 (n := j) (by omega)
    have hm : (if x < y then y else x) = max x y := by split <;> omega
    have hlen : ((List.zipWith max a.l b.l).take j ++ a.l.drop j).length = 8 := by simp; omega
    have h4 := ih (j + 1) (by omega)
    rw [← h3] at h4
    generalize (List.zipWith max a.l b.l).take j ++ a.l.drop j = m at h2 h3 h4 hlen
    refine loop_next ?_ h4
    rw [s_round]
    have hc : ((some x).map (V.int IntKind.i64)) = some (.int .i64 x) := rfl
    have hg : hget (h ++ [.cells (m.map (V.int .i64)) [], B, .cells z []]) h.length = some (.cells (m.map (V.int .i64)) []) := by simp
    simp [c_vector_Join_l0, hlt, hlt', Vec.v, Vec.c, hy, h2, h1, -getElem?_pos, hm, hlen, hg]
theorem vecJoin_eq (a b : Vec) (h : Heap) : callL E F.vector_Join [a.v, b.v] h = some ((a.join b).v, h, .no) := by
  refine callL_of rfl fn_vector_Join ?_
  have h1 := vecJoin_loop a b h (.cells b.c []) ((List.replicate 8 0).map (.int .i64)) 8 0 rfl
  rw [show ((0 : Nat) : Int) = 0 from rfl, List.take_zero, List.nil_append, List.drop_zero] at h1
  have h2 : (a.l.map (V.int .i64)) = a.c := rfl
  rw [h2] at h1
  simp only [Vec.v, List.replicate_succ, List.replicate_zero, List.map_cons, List.map_nil] at h1
  simp [c_vector_Join, h1, Vec.v]
def _root_.Go.Vm.Vec.covers (v : Vec) (d : Dot) : Bool := decide (0 ≤ d.node) && decide (d.node < 8) && decide (1 ≤ d.n) && decide (d.n ≤ v.l[d.node.toNat]?.getD 0)
theorem is_eq (n : Int) (h : Heap) : callL E F.vector_is [.int .i64 n] h = some (.bool (decide (0 ≤ n) && decide (n < 8)), h, .no) := by
  refine callL_of rfl fn_vector_is ?_
  by_cases h0 : 0 ≤ n <;> simp [c_vector_is, h0]
theorem covers_eq (v : Vec) (d : Dot) (h : Heap) : callL E F.vector_Covers [v.v, d.v] h = some (.bool (v.covers d), h, .no) := by
  refine callL_of rfl fn_vector_Covers ?_
  unfold Vec.covers
  by_cases h0 : 0 ≤ d.node
  · by_cases h1 : d.node < 8
    · obtain ⟨n, hn⟩ := Int.eq_ofNat_of_zero_le h0
      obtain ⟨x, hx, _, _⟩ := get_of_lt (l := v.l) (i := n) (by simp; omega)
      have h8 : n < 8 := by omega
      by_cases h2 : 1 ≤ d.n
      · have hcx : v.c[n]? = some (.int .i64 x) := by simp [Vec.c, hx]
        have h9 : (n : Int) < 8 := by omega
        simp [c_vector_Covers, is_eq, h9, h2, hn, h8, hx, hcx, Vec.v, Dot.v, -getElem?_pos]
      · simp [c_vector_Covers, is_eq, h0, h1, h2, Vec.v, Dot.v]
    · simp [c_vector_Covers, is_eq, h0, h1, Vec.v, Dot.v]
  · simp [c_vector_Covers, is_eq, h0, Vec.v, Dot.v]
end Go.Proofs.Ythkfjefoblmbhaa.V
