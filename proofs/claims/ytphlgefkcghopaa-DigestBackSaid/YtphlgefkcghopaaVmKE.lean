/- What 'digest.May', 'tattlerref5.SameDots' and 'SameDigests' compute. -/
import Derived.Test.YtphlgefkcghopaaVmKC
set_option linter.unusedVariables false
set_option linter.unusedSimpArgs false
namespace Go.Proofs.Ytphlgefkcghopaa.V
open Go.Vm

theorem vecRead_err (e : Int) (he : e ≠ 0) {h : Heap} {i : Nat} (hh : hget h i = some (Rd.o ⟨[], e⟩)) :
    callL E F.vector_Read [.ptr (some (i, 0))] h = some (.tup [zeroVec.v, .bool false], h, .no) := by
  refine callL_of rfl fn_vector_Read ?_
  have hil := hget_lt hh
  have hzc : zeroVec.c = [.int .i64 0, .int .i64 0, .int .i64 0, .int .i64 0, .int .i64 0, .int .i64 0, .int .i64 0, .int .i64 0] := rfl
  have hz : ∀ j, zeroVec.c.set j (.int .i64 0) = zeroVec.c := fun j => (List.set_replicate_self (n := 8) (a := V.int .i64 0) (i := j))
  have hk' : hget (h ++ [.cells zeroVec.c [], .cells zeroVec.c []]) i = some (Rd.o ⟨[], e⟩) := by rw [hget_app (by omega)]; exact hh
  have key := loop_to (C := callL E) (fb := h.length) (live := [0, 2, 4, 6]) (c := c_vector_Read_l0)
    (fun j => ⟨[(0, .ptr (some (i, 0))), (2, .ptr (some (h.length, 0))), (4, .ptr (some (h.length + 1, 0))), (6, .int .i64 j)], h ++ [.cells zeroVec.c [], .cells zeroVec.c []], .no⟩) 8
    (r := (.exit 0, ⟨[(0, .ptr (some (i, 0))), (2, .ptr (some (h.length, 0))), (4, .ptr (some (h.length + 1, 0))), (6, .int .i64 8), (7, .bool false)], h ++ [.cells zeroVec.c [], .cells zeroVec.c []], .no⟩)) (fun j hj => ?_) ?_ rfl
  · have g1 := good_eq _ hk'
    have hg : (decide (Rd.fin ⟨[], e⟩ = 0) || decide (0 < (⟨[], e⟩ : Rd).b.length)) = false := by
      unfold Rd.fin
      simp [he]
    rw [hg] at g1
    rw [show ((0 : Nat) : Int) = 0 from rfl] at key
    rw [hzc] at key g1
    simp [-getElem?_pos, c_vector_Read, key, g1, Vec.v, hzc]
  · have hlt : (j : Int) < 8 := by omega
    have h1 := i64_add1 (n := j) (by omega)
    have g1 := rdInt_err _ he hk'
    have hzj := hz j
    have hml : zeroVec.c.length = 8 := by simp
    have hi2 : i < h.length + 2 := by omega
    generalize zeroVec.c = Z at *
    rw [s_round]
    simp [-getElem?_pos, c_vector_Read_l0, g1, h1, hlt, hj, hzj, hml, hi2]
  · rw [s_round]
    simp [c_vector_Read_l0]
def upToD (l : List Dot) (j : Nat) (v : Dot) : Bool := match j with
  | 0 => true
  | j + 1 => getB l (fun u => u.less v) j
def dotAt (d : Dig) (j : Nat) : Bool := getB d.dots (fun x => d.seen.covers x && upToD d.dots j x) j
open Classical in
noncomputable def _root_.Go.Vm.Dig.may (d : Dig) : Bool := keyOk d.key && (d.seen.may && (decide (d.dots.length ≤ 16) && decide (∀ j, j < d.dots.length → dotAt d j = true)))
theorem dMay_end {s : Dig} {n : Nat} (hn : n = s.dots.length) (hk : keyOk s.key = true) (h0 : s.seen.may = true) (h1 : s.dots.length ≤ 16) (h : ∀ j, j < n → dotAt s j = true) : s.may = true := by
  subst hn
  unfold Dig.may
  rw [hk, h0, decide_eq_true h1, decide_eq_true h]; rfl
theorem dMay_no {s : Dig} {j : Nat} (hj : j < s.dots.length) (h : dotAt s j = false) : s.may = false := by
  unfold Dig.may
  rw [decide_eq_false (p := ∀ j, j < s.dots.length → dotAt s j = true) (fun hh => by rw [hh j hj] at h; cases h)]
  simp
theorem digMay_eq (d : Dig) (h : Heap) : callL E F.digest_May [d.v] h = some (.bool d.may, h, .no) := by
  refine callL_of rfl fn_digest_May ?_
  have g1 := keysMay_eq d.key (h ++ [.cells d.c []])
  have g2 := vecMay_eq d.seen (h ++ [.cells d.c []])
  simp only [Vec.v] at g2
  cases hk : keyOk d.key with
  | false =>
    rw [hk] at g1
    have : d.may = false := by unfold Dig.may; rw [hk]; rfl
    simp [-getElem?_pos, c_digest_May, g1, this]
  | true =>
    rw [hk] at g1
    cases hm : d.seen.may with
    | false =>
      rw [hm] at g2
      have : d.may = false := by unfold Dig.may; rw [hk, hm]; rfl
      simp [-getElem?_pos, c_digest_May, g1, g2, this]
    | true =>
      rw [hm] at g2
      by_cases hl : d.dots.length ≤ 16
      · have hl' : ¬ (16 : Int) < (d.dots.length : Int) := by omega
        have key := loop_scan (C := callL E) (fb := h.length) (live := [1, 22, 23, 24]) (c := c_digest_May_l0)
          (fun j => ⟨[(1, .ptr (some (h.length, 0))), (22, .sl (d.dots.map Dot.v)), (23, .int .i64 d.dots.length), (24, .int .i64 j)], h ++ [.cells d.c []], .no⟩) d.dots.length (dotAt d)
          (.exit 0, ⟨[(1, .ptr (some (h.length, 0))), (22, .sl (d.dots.map Dot.v)), (23, .int .i64 d.dots.length), (24, .int .i64 d.dots.length), (25, .bool false)], h ++ [.cells d.c []], .no⟩)
          (fun j => (.ret, ⟨[(2, .bool false)], h ++ [.cells d.c [], .cells (match d.dots[j]? with | some v => v.c | none => []) []], .no⟩)) ?_ ?_ (fun _ => rfl) ?_ rfl
        · rw [show ((0 : Nat) : Int) = 0 from rfl] at key
          rcases key with ⟨h1, h2⟩ | ⟨j, h1, h2, h3, h4⟩
          · have := dMay_end rfl hk hm hl h1
            simp [-getElem?_pos, c_digest_May, g1, g2, hl', h2, this]
          · have := dMay_no h1 h2
            simp [-getElem?_pos, c_digest_May, g1, g2, hl', h4, this]
        · intro j hj hp
          obtain ⟨v, hx, _, _⟩ := get_of_lt (l := d.dots) (i := j) hj
          have hlt : (j : Int) < (d.dots.length : Int) := by omega
          have h1 := i64_add1 (n := j) (by omega)
          have g3 := covers_eq d.seen v (h ++ [.cells d.c [], .cells v.c []])
          simp only [Vec.v, Dot.v] at g3
          unfold dotAt at hp
          rw [getB_at hx] at hp
          simp only [Bool.and_eq_true] at hp
          obtain ⟨p1, p4⟩ := hp
          rw [p1] at g3
          rw [s_round]
          cases j with
          | zero =>
            have w1 : IntKind.wrap .i64 1 = 1 := by rw [wrap_i64] <;> omega
            rw [show ((0 : Nat) : Int) = 0 from rfl] at hlt ⊢
            simp [-getElem?_pos, c_digest_May_l0, hlt, hj, hx, g3, w1]
          | succ j =>
            obtain ⟨u, hu, _, _⟩ := get_of_lt (l := d.dots) (i := j) (by omega)
            have g4 := vecLess_eq u v (h ++ [.cells d.c [], .cells v.c []])
            simp only [Dot.v] at g4
            simp only [upToD] at p4
            rw [getB_at hu] at p4
            rw [p4] at g4
            have e1 : (0 : Int) < ((j + 1 : Nat) : Int) := by omega
            have e2 : IntKind.wrap .i64 (((j + 1 : Nat) : Int) - 1) = (j : Int) := by rw [wrap_i64] <;> omega
            simp [-getElem?_pos, -Int.natCast_add, c_digest_May_l0, hlt, hj, hx, hu, g3, g4, e1, e2, h1]
        · intro j hj hp
          obtain ⟨v, hx, _, _⟩ := get_of_lt (l := d.dots) (i := j) hj
          have hlt : (j : Int) < (d.dots.length : Int) := by omega
          have g3 := covers_eq d.seen v (h ++ [.cells d.c [], .cells v.c []])
          simp only [Vec.v, Dot.v] at g3
          unfold dotAt at hp
          rw [getB_at hx] at hp
          rw [s_round]
          cases hc : d.seen.covers v with
          | false =>
            rw [hc] at g3
            simp [-getElem?_pos, c_digest_May_l0, hlt, hj, hx, g3]
          | true =>
            rw [hc] at g3 hp
            rw [Bool.true_and] at hp
            cases j with
            | zero => simp [upToD] at hp
            | succ j =>
              obtain ⟨u, hu, _, _⟩ := get_of_lt (l := d.dots) (i := j) (by omega)
              have g4 := vecLess_eq u v (h ++ [.cells d.c [], .cells v.c []])
              simp only [Dot.v] at g4
              simp only [upToD] at hp
              rw [getB_at hu] at hp
              rw [hp] at g4
              have e1 : (0 : Int) < ((j + 1 : Nat) : Int) := by omega
              have e2 : IntKind.wrap .i64 (((j + 1 : Nat) : Int) - 1) = (j : Int) := by rw [wrap_i64] <;> omega
              simp [-getElem?_pos, -Int.natCast_add, c_digest_May_l0, hlt, hj, hx, hu, g3, g4, e1, e2]
        · rw [s_round]
          simp [c_digest_May_l0]
      · have hl' : (16 : Int) < (d.dots.length : Int) := by omega
        have : d.may = false := by unfold Dig.may; rw [decide_eq_false (p := d.dots.length ≤ 16) hl]; simp
        simp [-getElem?_pos, c_digest_May, g1, g2, hl', this]
end Go.Proofs.Ytphlgefkcghopaa.V
