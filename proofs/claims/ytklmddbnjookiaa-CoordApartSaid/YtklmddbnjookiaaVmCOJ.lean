/- A read: what is known of it behind each answer. 'tattlerref14.In', 'tattlerref5.SameInts'. -/
import Derived.Test.YtklmddbnjookiaaVmCOW
import Derived.Test.YtklmddbnjookiaaVmMI
import Derived.Test.YtklmddbnjookiaaVmR5C
import Derived.Test.YtklmddbnjookiaaVmKQ
set_option linter.unusedVariables false
set_option linter.unusedSimpArgs false
set_option linter.unusedSectionVars false
namespace Go.Proofs.Ytklmddbnjookiaa.V
open Go.Vm

/-- The operation behind so many answers. -/
noncomputable def opJ (key : List UInt8) (own : Sib) (l : List Sib) : Nat → OpS
  | 0 => ⟨key, false, own, ans8.set 0 own, 0⟩
  | j + 1 => (opJ key own l j).got (j + 1) (l.getD j zeroSib)
def hasJ : Nat → List Bool
  | 0 => no8.set 0 true
  | j + 1 => (hasJ j).set (j + 1) true
theorem hasJ_len (j : Nat) : (hasJ j).length = 8 := by
  induction j with
  | zero => rfl
  | succ j ih => simp [hasJ, ih]
theorem hasJ_at : ∀ j, j < 8 → ∀ k, k < 8 → (hasJ j).getD k false = decide (k ≤ j) := by decide
theorem hasJ_cnt : ∀ j, j < 8 → cntN (hasJ j) = j + 1 := by decide
section
variable (key : List UInt8) (own : Sib) (l : List Sib)
theorem opJ_key (j : Nat) : (opJ key own l j).key = key := by
  induction j with
  | zero => rfl
  | succ j ih => exact ih
theorem opJ_wr (j : Nat) : (opJ key own l j).wr = false := by
  induction j with
  | zero => rfl
  | succ j ih => exact ih
theorem opJ_len (j : Nat) : (opJ key own l j).ans.length = 8 := by
  induction j with
  | zero => rfl
  | succ j ih => show ((opJ key own l j).ans.set _ _).length = 8; simp [ih]
theorem opJ_may {own : Sib} {l : List Sib} (ho : own.may = true) (hl : ∀ s ∈ l, s.may = true) (j : Nat) (hj : j ≤ l.length) : (opJ key own l j).s.may = true ∧ ∀ s ∈ (opJ key own l j).ans, s.may = true := by
  induction j with
  | zero =>
    refine ⟨ho, fun s hs => ?_⟩
    rcases List.mem_or_eq_of_mem_set hs with h | h
    · simp only [ans8, List.mem_cons, List.not_mem_nil, or_false, or_self] at h
      rw [h]; exact zeroSib_may
    · rw [h]; exact ho
  | succ j ih =>
    obtain ⟨h1, h2⟩ := ih (by omega)
    obtain ⟨x, hx, _, hm⟩ := get_of_lt (l := l) (i := j) (by omega)
    have hg : l.getD j zeroSib = x := by rw [List.getD_eq_getElem?_getD, hx]; rfl
    have hxm := hl x hm
    refine ⟨?_, fun s hs => ?_⟩
    · show ((opJ key own l j).s.join (l.getD j zeroSib)).may = true
      rw [hg]; exact join_may h1 hxm
    · rcases List.mem_or_eq_of_mem_set (show s ∈ (opJ key own l j).ans.set (j + 1) (l.getD j zeroSib) from hs) with h | h
      · exact h2 s h
      · rw [h, hg]; exact hxm
end
end Go.Proofs.Ytklmddbnjookiaa.V
