/- More of joining: one that has seen more; reaped. No function of the program in sight. -/
import Derived.Test.YtionebfmjjpnbaaGreatVmSD
import Derived.Test.YtionebfmjjpnbaaGreatVmTM
set_option linter.unusedVariables false
set_option linter.unusedSimpArgs false
namespace Go.Proofs.YtionebfmjjpnbaaGreat.V
open Go.Vm

/-- With more seen. -/
def wide (s : Sib) (v : Vec) : Sib := ⟨s.seen.join v, s.vals⟩
theorem reap_cases {s : Sib} (hs : s.may = true) : reapS s = s ∧ (s.vals.any fun v => !v.dead) = true ∨ reapS s = ⟨s.seen, []⟩ ∧ (s.vals.any fun v => !v.dead) = false := by
  unfold reapS
  rw [hs]
  cases h : s.vals.any fun v => !v.dead
  · exact .inr ⟨rfl, rfl⟩
  · exact .inl ⟨rfl, rfl⟩
theorem empty_may {s : Sib} (hs : s.may = true) : (⟨s.seen, []⟩ : Sib).may = true := by
  have h := (may_iff s).1 hs
  rw [may_iff]
  exact ⟨h.seen, Nat.zero_le _, by simp [Srt], fun v hv => by cases hv⟩
theorem reap_may {s : Sib} (hs : s.may = true) : (reapS s).may = true := by
  rcases reap_cases hs with ⟨h, _⟩ | ⟨h, _⟩ <;> rw [h]
  · exact hs
  · exact empty_may hs
end Go.Proofs.YtionebfmjjpnbaaGreat.V
