/- DigestGrows: what its helper computes. -/
import Derived.Test.YtphlgefkcghopaaVmT2
import Derived.Test.YtphlgefkcghopaaVmLO
set_option linter.unusedVariables false
set_option linter.unusedSimpArgs false
namespace Go.Vm
section
variable {C : Callee} {fb : Nat} {live : List Nat} {c : VCode}
open Classical in
/-- Rounds as long as something holds; what is there after an early end is told in part. -/
theorem loop_scanE (S : Nat → St) (n : Nat) (p : Nat → Bool) (rE : Ex × St) (Q : Ex × St → Prop) (hstep : ∀ j, j < n → p j = true → roundV C loopL fb live c (S j) = some (.normal, S (j + 1)))
    (hstop : ∀ j, j < n → p j = false → ∃ r : Ex × St, r.1.isNormal = false ∧ Q r ∧ roundV C loopL fb live c (S j) = some r) (hend : roundV C loopL fb live c (S n) = some rE) (hE : rE.1.isNormal = false) :
    ((∀ j, j < n → p j = true) ∧ loopRun C loopL fb live c (S 0) = some rE) ∨ ∃ j, j < n ∧ p j = false ∧ ∃ r, Q r ∧ loopRun C loopL fb live c (S 0) = some r := by
  have key := loop_scan (C := C) (fb := fb) (live := live) (c := c) S n p rE (fun j => if h : j < n ∧ p j = false then Classical.choose (hstop j h.1 h.2) else (.ret, ⟨[], [], .no⟩)) hstep
    (fun j h1 h2 => by rw [dif_pos ⟨h1, h2⟩]; exact (Classical.choose_spec (hstop j h1 h2)).2.2)
    (fun j => by
      by_cases h : j < n ∧ p j = false
      · rw [dif_pos h]; exact (Classical.choose_spec (hstop j h.1 h.2)).1
      · rw [dif_neg h]; rfl) hend hE
  rcases key with h | ⟨j, h1, h2, _, h4⟩
  · exact .inl h
  · rw [dif_pos ⟨h1, h2⟩] at h4
    exact .inr ⟨j, h1, h2, _, (Classical.choose_spec (hstop j h1 h2)).2.1, h4⟩
end
end Go.Vm
namespace Go.Proofs.Ytphlgefkcghopaa.V
open Go.Vm

def ag1 (v w : Val) : Bool := !decide (v.dot = w.dot) || ((v.dead == w.dead) && (v.data == w.data))
def agB (a b : Sib) : Bool := a.vals.all fun v => b.vals.all fun w => ag1 v w
theorem ag1_iff (v w : Val) : ag1 v w = true ↔ (v.dot = w.dot → v = w) := by
  unfold ag1
  obtain ⟨d, x, s⟩ := v
  obtain ⟨d', x', s'⟩ := w
  by_cases h : d = d' <;> simp [h]
  rw [And.comm]
theorem agB_iff (a b : Sib) : agB a b = true ↔ Agree a b := by
  unfold agB Agree
  simp only [List.all_eq_true, ag1_iff]
theorem agree_in (v : Val) (l : List Val) (hl : l.length ≤ 1099511627776) (A B : Vm.Obj) (X : List V) (n i : Nat) (h : Heap) :
    (l.all (ag1 v) = true ∧ loopRun (callL E) loopL h.length [3, 6, 10, 11, 12, 17, 18, 19] c_tattlerlaw13_agree_l0 ⟨[(3, .ptr (some (h.length + 1, 0))), (6, .ptr (some (h.length + 2, 0))), (10, .sl X), (11, .int .i64 n), (12, .int .i64 i), (17, .sl (l.map Val.v)), (18, .int .i64 l.length), (19, .int .i64 0)], h ++ [A, B, .cells v.c []], .no⟩ =
      some (.exit 2, ⟨[(3, .ptr (some (h.length + 1, 0))), (6, .ptr (some (h.length + 2, 0))), (10, .sl X), (11, .int .i64 n), (12, .int .i64 i), (17, .sl (l.map Val.v)), (18, .int .i64 l.length), (19, .int .i64 l.length), (20, .bool false)], h ++ [A, B, .cells v.c []], .no⟩)) ∨
    (l.all (ag1 v) = false ∧ ∃ w : Val, loopRun (callL E) loopL h.length [3, 6, 10, 11, 12, 17, 18, 19] c_tattlerlaw13_agree_l0 ⟨[(3, .ptr (some (h.length + 1, 0))), (6, .ptr (some (h.length + 2, 0))), (10, .sl X), (11, .int .i64 n), (12, .int .i64 i), (17, .sl (l.map Val.v)), (18, .int .i64 l.length), (19, .int .i64 0)], h ++ [A, B, .cells v.c []], .no⟩ =
      some (.ret, ⟨[(4, .bool false)], h ++ [A, B, .cells v.c [], .cells w.c []], .no⟩)) := by
  have key := loop_scanE (C := callL E) (fb := h.length) (live := [3, 6, 10, 11, 12, 17, 18, 19]) (c := c_tattlerlaw13_agree_l0)
    (fun j => ⟨[(3, .ptr (some (h.length + 1, 0))), (6, .ptr (some (h.length + 2, 0))), (10, .sl X), (11, .int .i64 n), (12, .int .i64 i), (17, .sl (l.map Val.v)), (18, .int .i64 l.length), (19, .int .i64 j)], h ++ [A, B, .cells v.c []], .no⟩) l.length (getB l (ag1 v))
    (.exit 2, ⟨[(3, .ptr (some (h.length + 1, 0))), (6, .ptr (some (h.length + 2, 0))), (10, .sl X), (11, .int .i64 n), (12, .int .i64 i), (17, .sl (l.map Val.v)), (18, .int .i64 l.length), (19, .int .i64 l.length), (20, .bool false)], h ++ [A, B, .cells v.c []], .no⟩)
    (fun r => ∃ w : Val, r = (.ret, ⟨[(4, .bool false)], h ++ [A, B, .cells v.c [], .cells w.c []], .no⟩)) ?_ ?_ ?_ rfl
  · rw [show ((0 : Nat) : Int) = 0 from rfl] at key
    rcases key with ⟨h1, h2⟩ | ⟨j, h1, h2, r, ⟨w, rfl⟩, h3⟩
    · exact .inl ⟨all_getB h1, h2⟩
    · exact .inr ⟨not_all_getB h1 h2, w, h3⟩
  · intro j hj hp
    obtain ⟨w, hx, _, _⟩ := get_of_lt (l := l) (i := j) hj
    have hlt : (j : Int) < (l.length : Int) := by omega
    have h1 := i64_add1 (n := j) (by omega)
    rw [getB_at hx] at hp
    rw [s_round]
    by_cases e1 : v.dot = w.dot
    · have e2 : v = w := (ag1_iff v w).1 hp e1
      subst e2
      simp [-getElem?_pos, c_tattlerlaw13_agree_l0, hlt, hj, hx, h1, Dot.eq_cells]
    · simp [-getElem?_pos, c_tattlerlaw13_agree_l0, hlt, hj, hx, h1, Dot.eq_cells, e1]
  · intro j hj hp
    obtain ⟨w, hx, _, _⟩ := get_of_lt (l := l) (i := j) hj
    have hlt : (j : Int) < (l.length : Int) := by omega
    rw [getB_at hx] at hp
    refine ⟨(.ret, ⟨[(4, .bool false)], h ++ [A, B, .cells v.c [], .cells w.c []], .no⟩), rfl, ⟨w, rfl⟩, ?_⟩
    unfold ag1 at hp
    simp only [Bool.or_eq_false_iff, Bool.not_eq_false', decide_eq_true_eq, Bool.and_eq_false_iff] at hp
    obtain ⟨e1, e2⟩ := hp
    rw [s_round]
    cases hd : (v.dead == w.dead) with
    | false => simp [-getElem?_pos, c_tattlerlaw13_agree_l0, hlt, hj, hx, Dot.eq_cells, e1, hd]
    | true =>
      have e3 : (v.data == w.data) = false := by
        rcases e2 with h | h
        · rw [hd] at h; cases h
        · exact h
      simp [-getElem?_pos, c_tattlerlaw13_agree_l0, hlt, hj, hx, Dot.eq_cells, e1, hd, e3]
  · rw [s_round]
    simp [c_tattlerlaw13_agree_l0]
theorem agree_eq (a b : Sib) (ha : a.vals.length ≤ 1099511627776) (hb : b.vals.length ≤ 1099511627776) (h : Heap) : callL E F.tattlerlaw13_agree [a.v, b.v] h = some (.bool (agB a b), h, .no) := by
  refine callL_of rfl fn_tattlerlaw13_agree ?_
  have key := loop_scanE (C := callL E) (fb := h.length) (live := [3, 10, 11, 12]) (c := c_tattlerlaw13_agree_l1)
    (fun i => ⟨[(3, .ptr (some (h.length + 1, 0))), (10, .sl (a.vals.map Val.v)), (11, .int .i64 a.vals.length), (12, .int .i64 i)], h ++ [.cells a.c [], .cells b.c []], .no⟩) a.vals.length (getB a.vals fun v => b.vals.all (ag1 v))
    (.exit 0, ⟨[(3, .ptr (some (h.length + 1, 0))), (10, .sl (a.vals.map Val.v)), (11, .int .i64 a.vals.length), (12, .int .i64 a.vals.length), (13, .bool false)], h ++ [.cells a.c [], .cells b.c []], .no⟩)
    (fun r => ∃ hs, r = (.ret, ⟨[(4, .bool false)], h ++ hs, .no⟩)) ?_ ?_ ?_ rfl
  · rw [show ((0 : Nat) : Int) = 0 from rfl] at key
    rcases key with ⟨h1, h2⟩ | ⟨j, h1, h2, r, ⟨hs, rfl⟩, h3⟩
    · have : agB a b = true := all_getB h1
      simp [-getElem?_pos, c_tattlerlaw13_agree, h2, this]
    · have : agB a b = false := not_all_getB h1 h2
      simp [-getElem?_pos, c_tattlerlaw13_agree, h3, this]
  · intro i hi hp
    obtain ⟨v, hx, _, _⟩ := get_of_lt (l := a.vals) (i := i) hi
    have hlt : (i : Int) < (a.vals.length : Int) := by omega
    have h1 := i64_add1 (n := i) (by omega)
    rw [getB_at hx] at hp
    rcases agree_in v b.vals hb (.cells a.c []) (.cells b.c []) (a.vals.map Val.v) a.vals.length i h with ⟨_, g1⟩ | ⟨g0, _⟩
    · rw [s_round]
      simp [-getElem?_pos, c_tattlerlaw13_agree_l1, hlt, hi, hx, h1, g1]
    · rw [hp] at g0; cases g0
  · intro i hi hp
    obtain ⟨v, hx, _, _⟩ := get_of_lt (l := a.vals) (i := i) hi
    have hlt : (i : Int) < (a.vals.length : Int) := by omega
    rw [getB_at hx] at hp
    rcases agree_in v b.vals hb (.cells a.c []) (.cells b.c []) (a.vals.map Val.v) a.vals.length i h with ⟨g0, _⟩ | ⟨_, w, g1⟩
    · rw [hp] at g0; cases g0
    · refine ⟨(.ret, ⟨[(4, .bool false)], h ++ [.cells a.c [], .cells b.c [], .cells v.c [], .cells w.c []], .no⟩), rfl, ⟨_, rfl⟩, ?_⟩
      rw [s_round]
      simp [-getElem?_pos, c_tattlerlaw13_agree_l1, hlt, hi, hx, g1]
  · rw [s_round]
    simp [c_tattlerlaw13_agree_l1]
end Go.Proofs.Ytphlgefkcghopaa.V
