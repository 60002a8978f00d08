/- More of joining: one that has seen more; reaped. No function of the program in sight. -/
import Derived.Test.YtionebfmjjpnbaaVmSD
import Derived.Test.YtionebfmjjpnbaaVmTM
set_option linter.unusedVariables false
set_option linter.unusedSimpArgs false
namespace Go.Proofs.Ytionebfmjjpnbaa.V
open Go.Vm

theorem leq_true {a b : Sib} (h : a.leq b = true) : a.join b = b := by
  unfold Sib.leq at h
  simp only [Bool.and_eq_true, decide_eq_true_eq] at h
  exact h.2.2
theorem leq_of {a b : Sib} (ha : a.may = true) (hb : b.may = true) (h : a.join b = b) : a.leq b = true := by
  unfold Sib.leq
  rw [ha, hb, decide_eq_true h]; rfl
theorem vecMay_iff (v : Vec) : v.may = true ↔ ∀ n ∈ v.l, 0 ≤ n ∧ n ≤ 1099511627776 := by
  unfold Vec.may
  rw [List.all_eq_true]
  constructor
  · intro h n hn
    have := h n hn
    unfold cntOk at this
    simp only [Bool.and_eq_true, decide_eq_true_eq] at this
    exact this
  · intro h n hn
    unfold cntOk
    simp only [Bool.and_eq_true, decide_eq_true_eq]
    exact h n hn
theorem vec_join_may {a b : Vec} (ha : a.may = true) (hb : b.may = true) : (a.join b).may = true := by
  rw [vecMay_iff] at *
  exact zipMax_all ha hb
/-- With more seen. -/
def wide (s : Sib) (v : Vec) : Sib := ⟨s.seen.join v, s.vals⟩
theorem wide_may {s : Sib} {v : Vec} (hs : s.may = true) (hv : v.may = true) : (wide s v).may = true := by
  have h := (may_iff s).1 hs
  rw [may_iff]
  refine ⟨(vecMay_iff _).1 (vec_join_may (seen_may hs) hv), h.len, h.srt, fun x hx => ?_⟩
  exact valOk_mono (h.val x hx) ((covers_join _ _ _).2 (.inl (valOk_covers (h.val x hx))))
theorem wide_all {s : Sib} {v : Vec} (hs : s.may = true) (hv : v.may = true) : joinAll s (wide s v) = s.vals := by
  have hw := wide_may hs hv
  refine gv_ext (joinAll_sort hs hw) ((may_iff s).1 hs).srt fun d => ?_
  rw [gv_joinAll hs hw]
  show jv (gv s.vals d) (gv s.vals d) _ _ = _
  cases gv s.vals d with
  | none => rfl
  | some x => simp only [jv, first_self]
theorem wide_join {s : Sib} {v : Vec} (hs : s.may = true) (hv : v.may = true) : s.join (wide s v) = wide s v := by
  have hw := wide_may hs hv
  have hl := may_len hs
  rw [join_all hs hw (by rw [wide_all hs hv]; exact hl), wide_all hs hv]
  unfold wide
  simp only
  rw [← Vec_join_assoc, Vec_join_self]
theorem wide_leq {s : Sib} {v : Vec} (hs : s.may = true) (hv : v.may = true) : s.leq (wide s v) = true := leq_of hs (wide_may hs hv) (wide_join hs hv)
theorem leq_wide {s : Sib} {v : Vec} (hs : s.may = true) (hv : v.may = true) : (wide s v).leq s = decide ((wide s v).seen = s.seen) := by
  have hw := wide_may hs hv
  unfold Sib.leq
  rw [hs, hw, join_commG, wide_join hs hv]
  simp only [Bool.true_and]
  rw [Bool.eq_iff_iff, decide_eq_true_eq, decide_eq_true_eq]
  constructor
  · intro h; rw [h]
  · intro h
    unfold wide at h ⊢
    simp only at h
    rw [h]
theorem reap_cases {s : Sib} (hs : s.may = true) : reapS s = s ∧ (s.vals.any fun v => !v.dead) = true ∨ reapS s = ⟨s.seen, []⟩ ∧ (s.vals.any fun v => !v.dead) = false := by
  unfold reapS
  rw [hs]
  cases h : s.vals.any fun v => !v.dead
  · exact .inr ⟨rfl, rfl⟩
  · exact .inl ⟨rfl, rfl⟩
theorem empty_may {s : Sib} (hs : s.may = true) : (⟨s.seen, []⟩ : Sib).may = true := by
  have h := (may_iff s).1 hs
  rw [may_iff]
  exact ⟨h.seen, Nat.zero_le _, by simp [Srt], fun v hv => by cases hv⟩
theorem reap_may {s : Sib} (hs : s.may = true) : (reapS s).may = true := by
  rcases reap_cases hs with ⟨h, _⟩ | ⟨h, _⟩ <;> rw [h]
  · exact hs
  · exact empty_may hs
theorem reap_seen {s : Sib} (hs : s.may = true) : (reapS s).seen = s.seen := by
  rcases reap_cases hs with ⟨h, _⟩ | ⟨h, _⟩ <;> rw [h]
theorem zero_leq {s : Sib} (hs : s.may = true) : zeroSib.leq s = true := leq_of zeroSib_may hs (zero_join hs)
theorem reap_wide_len {s : Sib} {v : Vec} (hs : s.may = true) (hv : v.may = true) : (joinAll (reapS s) (wide s v)).length ≤ 16 := by
  have hl := may_len hs
  rcases reap_cases hs with ⟨h, _⟩ | ⟨h, _⟩
  · rw [h, wide_all hs hv]; exact hl
  · rw [h]
    have := joinAll_len ⟨s.seen, []⟩ (wide s v)
    have h2 : (wide s v).vals.length = s.vals.length := rfl
    simp only [List.length_nil] at this
    omega
theorem reap_wide_leq {s : Sib} {v : Vec} (hs : s.may = true) (hv : v.may = true) : (reapS s).leq ((reapS s).join (wide s v)) = true :=
  leq_of (reap_may hs) (join_may (reap_may hs) (wide_may hs hv)) (join_abs (reap_may hs) (wide_may hs hv) (reap_wide_len hs hv))
end Go.Proofs.Ytionebfmjjpnbaa.V
