/- What the functions of 'tattlerref5' compute: sibs. -/
import Derived.Test.YthkfjefoblmbhaaVmR1
import Derived.Test.YthkfjefoblmbhaaVmKX
set_option linter.unusedVariables false
set_option linter.unusedSimpArgs false
namespace Go.Proofs.Ythkfjefoblmbhaa.V
open Go.Vm

def valOk (s : Vec) (v : Val) : Bool := s.covers v.dot && (decide (v.data.length ≤ 200) && (!v.dead || decide (v.data.length = 0)))
def upTo (l : List Val) (j : Nat) (v : Val) : Bool := match j with
  | 0 => true
  | j + 1 => getB l (fun u => u.dot.less v.dot) j
def sibAt (s : Sib) (j : Nat) : Bool := getB s.vals (fun v => valOk s.seen v && upTo s.vals j v) j
open Classical in
noncomputable def _root_.Go.Vm.Sib.may (s : Sib) : Bool := s.seen.may && (decide (s.vals.length ≤ 16) && decide (∀ j, j < s.vals.length → sibAt s j = true))
theorem mayLoop_end {s : Sib} {n : Nat} (hn : n = s.vals.length) (h0 : s.seen.may = true) (h1 : s.vals.length ≤ 16) (h : ∀ j, j < n → sibAt s j = true) : s.may = true := by
  subst hn
  unfold Sib.may
  rw [h0, decide_eq_true h1, decide_eq_true h]; rfl
theorem mayLoop_no {s : Sib} {j : Nat} (hj : j < s.vals.length) (h : sibAt s j = false) : s.may = false := by
  unfold Sib.may
  rw [decide_eq_false (p := ∀ j, j < s.vals.length → sibAt s j = true) (fun hh => by rw [hh j hj] at h; cases h)]
  simp
theorem r5May_eq (s : Sib) (h : Heap) : callL E F.tattlerref5_May [s.v] h = some (.bool s.may, h, .no) := by
  refine callL_of rfl fn_tattlerref5_May ?_
  have g1 := r1May_eq s.seen (h ++ [.cells s.c []])
  simp only [Vec.v] at g1
  cases hm : s.seen.may with
  | false =>
    rw [hm] at g1
    have : s.may = false := by unfold Sib.may; rw [hm]; rfl
    simp [-getElem?_pos, c_tattlerref5_May, g1, this]
  | true =>
    rw [hm] at g1
    by_cases hl : s.vals.length ≤ 16
    · have hl' : ¬ (16 : Int) < (s.vals.length : Int) := by omega
      have key := loop_scan (C := callL E) (fb := h.length) (live := [1, 16, 17, 18]) (c := c_tattlerref5_May_l0)
        (fun j => ⟨[(1, .ptr (some (h.length, 0))), (16, .sl (s.vals.map Val.v)), (17, .int .i64 s.vals.length), (18, .int .i64 j)], h ++ [.cells s.c []], .no⟩) s.vals.length (sibAt s)
        (.exit 0, ⟨[(1, .ptr (some (h.length, 0))), (16, .sl (s.vals.map Val.v)), (17, .int .i64 s.vals.length), (18, .int .i64 s.vals.length), (19, .bool false)], h ++ [.cells s.c []], .no⟩)
        (fun j => (.ret, ⟨[(2, .bool false)], h ++ [.cells s.c [], .cells (match s.vals[j]? with | some v => v.c | none => []) []], .no⟩)) ?_ ?_ (fun _ => rfl) ?_ rfl
      · rw [show ((0 : Nat) : Int) = 0 from rfl] at key
        rcases key with ⟨h1, h2⟩ | ⟨j, h1, h2, h3, h4⟩
        · have := mayLoop_end rfl hm hl h1
          simp [-getElem?_pos, c_tattlerref5_May, g1, hl', h2, this]
        · have := mayLoop_no h1 h2
          simp [-getElem?_pos, c_tattlerref5_May, g1, hl', h4, this]
      · intro j hj hp
        obtain ⟨v, hx, _, _⟩ := get_of_lt (l := s.vals) (i := j) hj
        have hlt : (j : Int) < (s.vals.length : Int) := by omega
        have h1 := i64_add1 (n := j) (by omega)
        have g2 := r1Covers_eq s.seen v.dot (h ++ [.cells s.c [], .cells v.c []])
        simp only [Vec.v, Dot.v] at g2
        unfold sibAt at hp
        rw [getB_at hx] at hp
        simp only [valOk, Bool.and_eq_true, decide_eq_true_eq, Bool.or_eq_true, Bool.not_eq_true'] at hp
        obtain ⟨⟨p1, p2, p3⟩, p4⟩ := hp
        rw [p1] at g2
        have p2' : ¬ (200 : Int) < (v.data.length : Int) := by omega
        have hnode : v.c.take 2 = v.dot.c := rfl
        have p3' : ∀ b, v.dead = b → (b = true → v.data.length = 0) := fun b hb h => by
          rcases p3 with h1 | h1
          · rw [hb, h] at h1; cases h1
          · exact h1
        rw [s_round]
        cases j with
        | zero =>
          have w1 : IntKind.wrap .i64 1 = 1 := by rw [wrap_i64] <;> omega
          rw [show ((0 : Nat) : Int) = 0 from rfl] at hlt ⊢
          cases hd : v.dead
          · simp [-getElem?_pos, c_tattlerref5_May_l0, hlt, hj, hx, g2, p2', hd, w1]
          · have := p3' true hd rfl
            simp [-getElem?_pos, c_tattlerref5_May_l0, hlt, hj, hx, g2, p2', hd, this, w1]
        | succ j =>
          obtain ⟨u, hu, _, _⟩ := get_of_lt (l := s.vals) (i := j) (by omega)
          have g3 := r1Less_eq u.dot v.dot (h ++ [.cells s.c [], .cells v.c []])
          simp only [Dot.v] at g3
          simp only [upTo] at p4
          rw [getB_at hu] at p4
          rw [p4] at g3
          have e1 : (0 : Int) < ((j + 1 : Nat) : Int) := by omega
          have e2 : IntKind.wrap .i64 (((j + 1 : Nat) : Int) - 1) = (j : Int) := by rw [wrap_i64] <;> omega
          cases hd : v.dead
          · simp [-getElem?_pos, -Int.natCast_add, c_tattlerref5_May_l0, hlt, hj, hx, hu, g2, g3, p2', hd, e1, e2, h1]
          · have := p3' true hd rfl
            simp [-getElem?_pos, -Int.natCast_add, c_tattlerref5_May_l0, hlt, hj, hx, hu, g2, g3, p2', hd, e1, e2, h1, this]
      · intro j hj hp
        obtain ⟨v, hx, _, _⟩ := get_of_lt (l := s.vals) (i := j) hj
        have hlt : (j : Int) < (s.vals.length : Int) := by omega
        have g2 := r1Covers_eq s.seen v.dot (h ++ [.cells s.c [], .cells v.c []])
        simp only [Vec.v, Dot.v] at g2
        unfold sibAt at hp
        rw [getB_at hx] at hp
        rw [s_round]
        cases hc : s.seen.covers v.dot with
        | false =>
          rw [hc] at g2
          simp [-getElem?_pos, c_tattlerref5_May_l0, hlt, hj, hx, g2]
        | true =>
          rw [hc] at g2
          -- the one ahead
          have ahead : ∀ (b : Bool), upTo s.vals j v = b → (b = false ∨ (b = true ∧ (200 < v.data.length ∨ (v.data.length ≤ 200 ∧ v.dead = true ∧ 0 < v.data.length)))) := fun b hb => by
            simp only [valOk, hc, hb, Bool.true_and, Bool.and_eq_false_iff, decide_eq_false_iff_not, Bool.or_eq_false_iff, Bool.not_eq_false'] at hp
            cases b
            · exact .inl rfl
            · refine .inr ⟨rfl, ?_⟩
              rcases hp with (h1 | ⟨h1, h2⟩) | h1
              · exact .inl (by omega)
              · by_cases h3 : 200 < v.data.length
                · exact .inl h3
                · exact .inr ⟨by omega, h1, by omega⟩
              · cases h1
          cases j with
          | zero =>
            rw [show ((0 : Nat) : Int) = 0 from rfl] at hlt ⊢
            rcases ahead _ rfl with h1 | ⟨_, h1 | ⟨h1, h2, h3⟩⟩
            · cases h1
            · have : (200 : Int) < (v.data.length : Int) := by omega
              simp [-getElem?_pos, c_tattlerref5_May_l0, hlt, hj, hx, g2, this]
            · have e1 : ¬ (200 : Int) < (v.data.length : Int) := by omega
              have e2 : (0 : Int) < (v.data.length : Int) := by omega
              simp [-getElem?_pos, c_tattlerref5_May_l0, hlt, hj, hx, g2, e1, e2, h2, h3]
          | succ j =>
            obtain ⟨u, hu, _, _⟩ := get_of_lt (l := s.vals) (i := j) (by omega)
            have g3 := r1Less_eq u.dot v.dot (h ++ [.cells s.c [], .cells v.c []])
            simp only [Dot.v] at g3
            have e1 : (0 : Int) < ((j + 1 : Nat) : Int) := by omega
            have e2 : IntKind.wrap .i64 (((j + 1 : Nat) : Int) - 1) = (j : Int) := by rw [wrap_i64] <;> omega
            have hup : upTo s.vals (j + 1) v = u.dot.less v.dot := by simp only [upTo]; rw [getB_at hu]
            rcases ahead _ hup with h1 | ⟨h0, h1 | ⟨h1, h2, h3⟩⟩
            · rw [h1] at g3
              simp [-getElem?_pos, -Int.natCast_add, c_tattlerref5_May_l0, hlt, hj, hx, hu, g2, g3, e1, e2]
            · rw [h0] at g3
              have : (200 : Int) < (v.data.length : Int) := by omega
              simp [-getElem?_pos, -Int.natCast_add, c_tattlerref5_May_l0, hlt, hj, hx, hu, g2, g3, e1, e2, this]
            · rw [h0] at g3
              have e3 : ¬ (200 : Int) < (v.data.length : Int) := by omega
              have e4 : (0 : Int) < (v.data.length : Int) := by omega
              simp [-getElem?_pos, -Int.natCast_add, c_tattlerref5_May_l0, hlt, hj, hx, hu, g2, g3, e1, e2, e3, e4, h2, h3]
      · rw [s_round]
        simp [c_tattlerref5_May_l0]
    · have hl' : (16 : Int) < (s.vals.length : Int) := by omega
      have : s.may = false := by unfold Sib.may; rw [decide_eq_false (p := s.vals.length ≤ 16) hl]; simp
      simp [-getElem?_pos, c_tattlerref5_May, g1, hl', this]
def keyOk (k : List UInt8) : Bool := decide (1 ≤ k.length) && decide (k.length ≤ 32)
theorem r5MayKey_eq (k : List UInt8) (h : Heap) : callL E F.tattlerref5_MayKey [.str k] h = some (.bool (keyOk k), h, .no) := by
  refine callL_of rfl fn_tattlerref5_MayKey ?_
  unfold keyOk
  by_cases h1 : 1 ≤ k.length
  · have e1 : (1 : Int) ≤ (k.length : Int) := by omega
    by_cases h2 : k.length ≤ 32
    · have e2 : (k.length : Int) ≤ 32 := by omega
      simp [c_tattlerref5_MayKey, h1, h2, e1, e2]
    · have e2 : ¬ (k.length : Int) ≤ 32 := by omega
      simp [c_tattlerref5_MayKey, h1, h2, e1, e2]
  · have e1 : ¬ (1 : Int) ≤ (k.length : Int) := by omega
    simp [c_tattlerref5_MayKey, h1, e1]
noncomputable def _root_.Go.Vm.Ent.may (e : Ent) : Bool := keyOk e.key && e.sib.may
theorem r5MayEntry_eq (e : Ent) (h : Heap) : callL E F.tattlerref5_MayEntry [e.v] h = some (.bool e.may, h, .no) := by
  refine callL_of rfl fn_tattlerref5_MayEntry ?_
  have g1 := r5MayKey_eq e.key (h ++ [.cells e.c []])
  have g2 := r5May_eq e.sib (h ++ [.cells e.c []])
  simp only [Sib.v] at g2
  unfold Ent.may
  cases h1 : keyOk e.key <;> rw [h1] at g1 <;> simp [-getElem?_pos, c_tattlerref5_MayEntry, g1, g2]
end Go.Proofs.Ythkfjefoblmbhaa.V
