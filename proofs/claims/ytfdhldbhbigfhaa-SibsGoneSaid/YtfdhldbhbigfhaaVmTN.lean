/- More of joining: one that has seen more; reaped. No function of the program in sight. -/
import Derived.Test.YtfdhldbhbigfhaaVmSD
import Derived.Test.YtfdhldbhbigfhaaVmTM
set_option linter.unusedVariables false
set_option linter.unusedSimpArgs false
namespace Go.Proofs.Ytfdhldbhbigfhaa.V
open Go.Vm

theorem vecMay_iff (v : Vec) : v.may = true ↔ ∀ n ∈ v.l, 0 ≤ n ∧ n ≤ 1099511627776 := by
  unfold Vec.may
  rw [List.all_eq_true]
  constructor
  · intro h n hn
    have := h n hn
    unfold cntOk at this
    simp only [Bool.and_eq_true, decide_eq_true_eq] at this
    exact this
  · intro h n hn
    unfold cntOk
    simp only [Bool.and_eq_true, decide_eq_true_eq]
    exact h n hn
theorem vec_join_may {a b : Vec} (ha : a.may = true) (hb : b.may = true) : (a.join b).may = true := by
  rw [vecMay_iff] at *
  exact zipMax_all ha hb
/-- With more seen. -/
def wide (s : Sib) (v : Vec) : Sib := ⟨s.seen.join v, s.vals⟩
theorem reap_cases {s : Sib} (hs : s.may = true) : reapS s = s ∧ (s.vals.any fun v => !v.dead) = true ∨ reapS s = ⟨s.seen, []⟩ ∧ (s.vals.any fun v => !v.dead) = false := by
  unfold reapS
  rw [hs]
  cases h : s.vals.any fun v => !v.dead
  · exact .inr ⟨rfl, rfl⟩
  · exact .inl ⟨rfl, rfl⟩
theorem empty_may {s : Sib} (hs : s.may = true) : (⟨s.seen, []⟩ : Sib).may = true := by
  have h := (may_iff s).1 hs
  rw [may_iff]
  exact ⟨h.seen, Nat.zero_le _, by simp [Srt], fun v hv => by cases hv⟩
theorem reap_may {s : Sib} (hs : s.may = true) : (reapS s).may = true := by
  rcases reap_cases hs with ⟨h, _⟩ | ⟨h, _⟩ <;> rw [h]
  · exact hs
  · exact empty_may hs
end Go.Proofs.Ytfdhldbhbigfhaa.V
