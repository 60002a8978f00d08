/- A loop with an invariant: the rounds' states are known only by what holds of them. -/
import Derived.Test.YtklmddbnjookiaaVmG5
set_option linter.unusedVariables false
set_option linter.unusedSimpArgs false
namespace Go.Vm
section
variable {C : Callee} {fb : Nat} {live : List Nat} {c : VCode}
theorem loop_inv (Q : Nat → St → Prop) (P : Ex × St → Prop) (m : Nat)
    (hstep : ∀ j, j < m → ∀ s, Q j s → (∃ s', roundV C loopL fb live c s = some (.normal, s') ∧ Q (j + 1) s') ∨ ∃ r, roundV C loopL fb live c s = some r ∧ r.1.isNormal = false ∧ P r)
    (hend : ∀ s, Q m s → ∃ r, roundV C loopL fb live c s = some r ∧ r.1.isNormal = false ∧ P r) :
    ∀ (k j : Nat), j + k = m → ∀ s, Q j s → ∃ r, loopRun C loopL fb live c s = some r ∧ P r := by
  intro k
  induction k with
  | zero =>
    intro j hj s hs
    have : j = m := by omega
    subst this
    obtain ⟨r, h1, h2, h3⟩ := hend s hs
    exact ⟨r, loop_done h1 h2, h3⟩
  | succ k ih =>
    intro j hj s hs
    rcases hstep j (by omega) s hs with ⟨s', h1, h2⟩ | ⟨r, h1, h2, h3⟩
    · obtain ⟨r, h3, h4⟩ := ih (j + 1) (by omega) s' h2
      exact ⟨r, loop_next h1 h3, h4⟩
    · exact ⟨r, loop_done h1 h2, h3⟩
theorem loop_inv0 (Q : Nat → St → Prop) (P : Ex × St → Prop) (m : Nat)
    (hstep : ∀ j, j < m → ∀ s, Q j s → (∃ s', roundV C loopL fb live c s = some (.normal, s') ∧ Q (j + 1) s') ∨ ∃ r, roundV C loopL fb live c s = some r ∧ r.1.isNormal = false ∧ P r)
    (hend : ∀ s, Q m s → ∃ r, roundV C loopL fb live c s = some r ∧ r.1.isNormal = false ∧ P r) {s : St} (h0 : Q 0 s) :
    ∃ r, loopRun C loopL fb live c s = some r ∧ P r := loop_inv Q P m hstep hend m 0 (by omega) s h0
end
/-- Only objects at or above n have been written. -/
def FlUp (n : Nat) (f : Fl) : Prop := f.esc = [] ∧ f.all = false ∧ ∀ x ∈ f.wr, n ≤ x
theorem FlUp.no {n : Nat} : FlUp n .no := ⟨rfl, rfl, fun x hx => by cases hx⟩
theorem FlUp.or {n : Nat} {a b : Fl} (ha : FlUp n a) (hb : FlUp n b) : FlUp n (a.or b) := by
  obtain ⟨a1, a2, a3⟩ := ha
  obtain ⟨b1, b2, b3⟩ := hb
  refine ⟨?_, ?_, fun x hx => ?_⟩
  · show addE a.esc b.esc = []
    rw [a1, b1]; rfl
  · show (a.all || b.all) = false
    rw [a2, b2]; rfl
  · rcases mem_addE.1 hx with h | h
    · exact a3 x h
    · exact b3 x h
theorem FlUp.cut {n m : Nat} {a : Fl} (ha : FlUp n a) : FlUp n (a.cut m) := ⟨ha.1, ha.2.1, fun x hx => ha.2.2 x (mem_wrLt.1 hx).1⟩
theorem FlUp.w {n : Nat} {l : List Nat} (h : ∀ x ∈ l, n ≤ x) : FlUp n (.w l) := ⟨rfl, rfl, h⟩
theorem FlUp.le {n m : Nat} {a : Fl} (ha : FlUp n a) (hm : m ≤ n) : FlUp m a := ⟨ha.1, ha.2.1, fun x hx => Nat.le_trans hm (ha.2.2 x hx)⟩
end Go.Vm
