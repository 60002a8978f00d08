/- What the functions of 'sibs' compute: may they be; a dot's value; of two the better one. -/
import Derived.Test.YthkfjefoblmbhaaVmR5C
import Derived.Test.YthkfjefoblmbhaaVmKB1
set_option linter.unusedVariables false
set_option linter.unusedSimpArgs false
namespace Go.Proofs.Ythkfjefoblmbhaa.V
open Go.Vm

def mayV (v : Val) : Bool := decide (v.data.length ≤ 200) && (!v.dead || decide (v.data.length = 0))
theorem mayValue_eq (v : Val) (h : Heap) : callL E F.sibs_mayValue [v.v] h = some (.bool (mayV v), h, .no) := by
  refine callL_of rfl fn_sibs_mayValue ?_
  unfold mayV
  by_cases h1 : v.data.length ≤ 200
  · have e1 : (v.data.length : Int) ≤ 200 := by omega
    cases hd : v.dead
    · simp [-getElem?_pos, c_sibs_mayValue, e1, h1, hd]
    · by_cases h2 : v.data.length = 0
      · have h3 : v.data = [] := List.length_eq_zero_iff.1 h2
        simp [-getElem?_pos, c_sibs_mayValue, hd, h3]
      · have e2 : ((v.data.length : Int) == 0) = false := by simp; exact fun h => h2 (by simp [h])
        have e3 : ¬ v.data = [] := fun h => h2 (by simp [h])
        simp [-getElem?_pos, c_sibs_mayValue, e1, h1, hd, e2, e3]
  · have e1 : ¬ (v.data.length : Int) ≤ 200 := by omega
    simp [-getElem?_pos, c_sibs_mayValue, e1, h1]
theorem sibsMay_eq (s : Sib) (h : Heap) : callL E F.sibs_May [s.v] h = some (.bool s.may, h, .no) := by
  refine callL_of rfl fn_sibs_May ?_
  have g1 := vecMay_eq s.seen (h ++ [.cells s.c []])
  simp only [Vec.v] at g1
  cases hm : s.seen.may with
  | false =>
    rw [hm] at g1
    have : s.may = false := by unfold Sib.may; rw [hm]; rfl
    simp [-getElem?_pos, c_sibs_May, g1, this]
  | true =>
    rw [hm] at g1
    by_cases hl : s.vals.length ≤ 16
    · have hl' : ¬ (16 : Int) < (s.vals.length : Int) := by omega
      have key := loop_scan (C := callL E) (fb := h.length) (live := [1, 16, 17, 18]) (c := c_sibs_May_l0)
        (fun j => ⟨[(1, .ptr (some (h.length, 0))), (16, .sl (s.vals.map Val.v)), (17, .int .i64 s.vals.length), (18, .int .i64 j)], h ++ [.cells s.c []], .no⟩) s.vals.length (sibAt s)
        (.exit 0, ⟨[(1, .ptr (some (h.length, 0))), (16, .sl (s.vals.map Val.v)), (17, .int .i64 s.vals.length), (18, .int .i64 s.vals.length), (19, .bool false)], h ++ [.cells s.c []], .no⟩)
        (fun j => (.ret, ⟨[(2, .bool false)], h ++ [.cells s.c [], .cells (match s.vals[j]? with | some v => v.c | none => []) []], .no⟩)) ?_ ?_ (fun _ => rfl) ?_ rfl
      · rw [show ((0 : Nat) : Int) = 0 from rfl] at key
        rcases key with ⟨h1, h2⟩ | ⟨j, h1, h2, h3, h4⟩
        · have := mayLoop_end rfl hm hl h1
          simp [-getElem?_pos, c_sibs_May, g1, hl', h2, this]
        · have := mayLoop_no h1 h2
          simp [-getElem?_pos, c_sibs_May, g1, hl', h4, this]
      · intro j hj hp
        obtain ⟨v, hx, _, _⟩ := get_of_lt (l := s.vals) (i := j) hj
        have hlt : (j : Int) < (s.vals.length : Int) := by omega
        have h1 := i64_add1 (n := j) (by omega)
        have g2 := covers_eq s.seen v.dot (h ++ [.cells s.c [], .cells v.c []])
        have g0 := mayValue_eq v (h ++ [.cells s.c [], .cells v.c []])
        simp only [Vec.v, Dot.v] at g2
        unfold sibAt at hp
        rw [getB_at hx] at hp
        have hval : valOk s.seen v = (s.seen.covers v.dot && mayV v) := rfl
        rw [hval] at hp
        simp only [Bool.and_eq_true] at hp
        obtain ⟨⟨p1, p2⟩, p4⟩ := hp
        rw [p1] at g2
        rw [p2] at g0
        rw [s_round]
        cases j with
        | zero =>
          have w1 : IntKind.wrap .i64 1 = 1 := by rw [wrap_i64] <;> omega
          rw [show ((0 : Nat) : Int) = 0 from rfl] at hlt ⊢
          simp [-getElem?_pos, c_sibs_May_l0, hlt, hj, hx, g0, g2, w1]
        | succ j =>
          obtain ⟨u, hu, _, _⟩ := get_of_lt (l := s.vals) (i := j) (by omega)
          have g3 := vecLess_eq u.dot v.dot (h ++ [.cells s.c [], .cells v.c []])
          simp only [Dot.v] at g3
          simp only [upTo] at p4
          rw [getB_at hu] at p4
          rw [p4] at g3
          have e1 : (0 : Int) < ((j + 1 : Nat) : Int) := by omega
          have e2 : IntKind.wrap .i64 (((j + 1 : Nat) : Int) - 1) = (j : Int) := by rw [wrap_i64] <;> omega
          simp [-getElem?_pos, -Int.natCast_add, c_sibs_May_l0, hlt, hj, hx, hu, g0, g2, g3, e1, e2, h1]
      · intro j hj hp
        obtain ⟨v, hx, _, _⟩ := get_of_lt (l := s.vals) (i := j) hj
        have hlt : (j : Int) < (s.vals.length : Int) := by omega
        have g2 := covers_eq s.seen v.dot (h ++ [.cells s.c [], .cells v.c []])
        have g0 := mayValue_eq v (h ++ [.cells s.c [], .cells v.c []])
        simp only [Vec.v, Dot.v] at g2
        unfold sibAt at hp
        rw [getB_at hx] at hp
        have hval : valOk s.seen v = (s.seen.covers v.dot && mayV v) := rfl
        rw [hval] at hp
        rw [s_round]
        cases hmv : mayV v with
        | false =>
          rw [hmv] at g0
          simp [-getElem?_pos, c_sibs_May_l0, hlt, hj, hx, g0]
        | true =>
          rw [hmv] at g0 hp
          cases hc : s.seen.covers v.dot with
          | false =>
            rw [hc] at g2
            simp [-getElem?_pos, c_sibs_May_l0, hlt, hj, hx, g0, g2]
          | true =>
            rw [hc] at g2 hp
            simp only [Bool.true_and] at hp
            cases j with
            | zero => simp [upTo] at hp
            | succ j =>
              obtain ⟨u, hu, _, _⟩ := get_of_lt (l := s.vals) (i := j) (by omega)
              have g3 := vecLess_eq u.dot v.dot (h ++ [.cells s.c [], .cells v.c []])
              simp only [Dot.v] at g3
              simp only [upTo] at hp
              rw [getB_at hu] at hp
              rw [hp] at g3
              have e1 : (0 : Int) < ((j + 1 : Nat) : Int) := by omega
              have e2 : IntKind.wrap .i64 (((j + 1 : Nat) : Int) - 1) = (j : Int) := by rw [wrap_i64] <;> omega
              simp [-getElem?_pos, -Int.natCast_add, c_sibs_May_l0, hlt, hj, hx, hu, g0, g2, g3, e1, e2]
      · rw [s_round]
        simp [c_sibs_May_l0]
    · have hl' : (16 : Int) < (s.vals.length : Int) := by omega
      have : s.may = false := by unfold Sib.may; rw [decide_eq_false (p := s.vals.length ≤ 16) hl]; simp
      simp [-getElem?_pos, c_sibs_May, g1, hl', this]
theorem own_eq (v : Val) (hv : v.data.length ≤ 140737488355328) (h : Heap) : callL E F.sibs_own [v.v] h = some (v.v, h, .no) := by
  refine callL_of rfl fn_sibs_own ?_
  have h1 : v.c.set 2 (.sl (v.data.map byteV)) = v.c := rfl
  have g := fun hh => clone_eq v.data hv hh
  simp [-getElem?_pos, c_sibs_own, g, h1]
theorem cmp_lt : ∀ p q : List UInt8, decide (Lib.compareBytes p q < 0) = bytesLess p q
  | [], [] => by simp [Lib.compareBytes, bytesLess]
  | [], _ :: _ => by simp [Lib.compareBytes, bytesLess]
  | _ :: _, [] => by simp [Lib.compareBytes, bytesLess]
  | a :: x, b :: y => by
    unfold Lib.compareBytes bytesLess
    by_cases h1 : a < b
    · simp [h1]
    · by_cases h2 : b < a
      · have : ¬ a = b := fun e => by rw [e] at h2; exact UInt8.lt_irrefl _ h2
        simp [h1, h2, this]
      · have : a = b := UInt8.le_antisymm (UInt8.not_lt.1 h2) (UInt8.not_lt.1 h1)
        subst this
        have ih := cmp_lt x y
        simp only [UInt8.lt_irrefl, if_false, ih]
        simp
theorem bytealgCompare_eq (a b : List UInt8) (h : Heap) : callL E F.bytealg_Compare [.sl (a.map byteV), .sl (b.map byteV)] h = some (.int .i64 (Lib.compareBytes a b), h, .no) :=
  callL_prim (p := compareP) rfl (by simp [compareP])
theorem bytesCompare_eq (a b : List UInt8) (h : Heap) : callL E F.bytes_Compare [.sl (a.map byteV), .sl (b.map byteV)] h = some (.int .i64 (Lib.compareBytes a b), h, .no) := by
  refine callL_of rfl fn_bytes_Compare ?_
  have g := bytealgCompare_eq a b h
  simp [c_bytes_Compare, g]
theorem better_eq (a b : Val) (h : Heap) : callL E F.sibs_better [a.v, b.v] h = some ((a.first b).v, h, .no) := by
  refine callL_of rfl fn_sibs_better ?_
  have g := fun hh => bytesCompare_eq b.data a.data hh
  have gc := cmp_lt b.data a.data
  unfold Val.first
  generalize Lib.compareBytes b.data a.data = z at *
  cases ha : a.dead <;> cases hb : b.dead
  · cases hc : bytesLess b.data a.data <;> rw [hc] at gc <;> simp [-getElem?_pos, -decide_eq_true_eq, -decide_eq_false_iff_not, c_sibs_better, ha, hb, hc, g, gc]
  · simp [-getElem?_pos, c_sibs_better, ha, hb]
  · simp [-getElem?_pos, c_sibs_better, ha, hb]
  · cases hc : bytesLess b.data a.data <;> rw [hc] at gc <;> simp [-getElem?_pos, -decide_eq_true_eq, -decide_eq_false_iff_not, c_sibs_better, ha, hb, hc, g, gc]
def zeroVal : Val := ⟨⟨0, 0⟩, [], false⟩
def findV (l : List Val) (d : Dot) : Val := match findD l d with
  | some k => l[k]?.getD zeroVal
  | none => zeroVal
theorem sfind_eq (s : Sib) (hs : s.vals.length ≤ 1099511627776) (d : Dot) (h : Heap) : callL E F.sibs_find [s.v, d.v] h = some (.tup [(findV s.vals d).v, .bool (findD s.vals d).isSome], h, .no) := by
  refine callL_of rfl fn_sibs_find ?_
  have hz : [V.int .i64 0, .int .i64 0, .sl [], .bool false] = zeroVal.c := rfl
  have key := loop_scan (C := callL E) (fb := h.length) (live := [3, 4, 9, 10, 11]) (c := c_sibs_find_l0)
    (fun j => ⟨[(3, .ptr (some (h.length + 1, 0))), (4, .ptr (some (h.length + 2, 0))), (9, .sl (s.vals.map Val.v)), (10, .int .i64 s.vals.length), (11, .int .i64 j)], h ++ [.cells s.c [], .cells d.c [], .cells zeroVal.c []], .no⟩) s.vals.length (getB s.vals fun v => !decide (v.dot = d))
    (.exit 0, ⟨[(3, .ptr (some (h.length + 1, 0))), (4, .ptr (some (h.length + 2, 0))), (9, .sl (s.vals.map Val.v)), (10, .int .i64 s.vals.length), (11, .int .i64 s.vals.length), (12, .bool false)], h ++ [.cells s.c [], .cells d.c [], .cells zeroVal.c []], .no⟩)
    (fun j => (.ret, ⟨[(4, .ptr (some (h.length + 2, 0))), (5, .bool true)], h ++ [.cells s.c [], .cells d.c [], .cells (s.vals[j]?.getD zeroVal).c [], .cells (s.vals[j]?.getD zeroVal).c []], .no⟩)) ?_ ?_ (fun _ => rfl) ?_ rfl
  · rw [show ((0 : Nat) : Int) = 0 from rfl] at key
    simp only [← hz] at key
    rcases key with ⟨h1, h2⟩ | ⟨j, h1, h2, h3, h4⟩
    · have hf : findD s.vals d = none := findIdx_getB (f := fun v : Val => decide (v.dot = d)) h1
      simp [-getElem?_pos, c_sibs_find, h2, hf, findV, zeroVal, Val.c, bytesV]
    · have hf : findD s.vals d = some j := findIdx_at (f := fun v : Val => decide (v.dot = d)) h1 h2 h3
      simp [-getElem?_pos, c_sibs_find, h4, hf, findV]
  · intro j hj hp
    obtain ⟨x, hx, _, _⟩ := get_of_lt (l := s.vals) (i := j) hj
    have hlt : (j : Int) < (s.vals.length : Int) := by omega
    have h1 := i64_add1 (n := j) (by omega)
    rw [getB_at hx] at hp
    have hd : ¬ x.dot = d := by simpa using hp
    have hd2 : x.c.take 2 = x.dot.c := rfl
    rw [s_round]
    simp [-getElem?_pos, c_sibs_find_l0, hlt, hj, hx, h1, Dot.eq_cells, hd]
  · intro j hj hp
    obtain ⟨x, hx, _, _⟩ := get_of_lt (l := s.vals) (i := j) hj
    have hlt : (j : Int) < (s.vals.length : Int) := by omega
    rw [getB_at hx] at hp
    have hd : x.dot = d := by simpa using hp
    rw [s_round]
    simp [-getElem?_pos, c_sibs_find_l0, hlt, hj, hx, Dot.eq_cells, hd]
  · rw [s_round]
    simp [c_sibs_find_l0]
end Go.Proofs.Ythkfjefoblmbhaa.V
