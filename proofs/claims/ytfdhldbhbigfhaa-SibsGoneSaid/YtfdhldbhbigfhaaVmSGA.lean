/- What is replaced, or reaped, never comes back: in plain words. -/
import Derived.Test.YtfdhldbhbigfhaaVmTP
import Derived.Test.YtfdhldbhbigfhaaVmSD
set_option linter.unusedVariables false
set_option linter.unusedSimpArgs false
set_option linter.unusedSectionVars false
namespace Go.Proofs.Ytfdhldbhbigfhaa.V
open Go.Vm

/-- What stands in a join stood in one of the two. -/
theorem join_from {a b : Sib} {v : Val} (h : v ∈ (a.join b).vals) : v ∈ a.vals ∨ v ∈ b.vals := by
  unfold Sib.join at h
  cases hc : a.may && b.may with
  | false => rw [hc] at h; cases h
  | true =>
    rw [hc] at h
    have h : v ∈ joinVals a b := h
    rw [joinVals_all] at h
    exact joinAll_mem a b (List.mem_of_mem_take h)
section
variable {a : Sib} (ha : a.may = true) {seen : Vec} (hs : seen.may = true) {n : Nat} (hn : n < 8)
include ha hs hn
theorem gone_kept : kept a (a.seen.join seen) = [] := by
  unfold kept
  rw [List.filter_eq_nil_iff]
  intro v hv
  have h1 := valOk_covers (((may_iff a).1 ha).val v hv)
  have h2 := (covers_join a.seen seen v.dot).2 (.inl h1)
  simp [h2]
theorem gone_new (data : List UInt8) (dead : Bool) : (newS a (a.seen.join seen) n data dead).vals = [⟨⟨n, (a.seen.join (a.seen.join seen)).at n + 1⟩, data, dead⟩] := by
  unfold newS
  rw [gone_kept ha hs hn]
  rfl
theorem gone_put {t : Sib} {e : Int} (h : putS a (a.seen.join seen) n [] true = (t, e)) (he : e = 0) :
    t.vals.length = 1 ∧ liveS (t.join a) = [] ∧ ((reapS t).join a).vals = [] ∧ t.may = true := by
  rcases putS_cases a (a.seen.join seen) n [] true with h1 | ⟨h1, h2, h3⟩
  · rw [h] at h1
    have h4 : e = 11 := congrArg Prod.snd h1
    omega
  · rw [h] at h1
    have h4 : t = newS a (a.seen.join seen) n [] true := congrArg Prod.fst h1
    have hse : (a.seen.join seen).may = true := vec_join_may (seen_may ha) hs
    have hx : mayV ⟨zeroDot, [], true⟩ = true := by decide
    have hm := new_may ha hse hn hx h2 h3
    have hj := new_join ha hse hn hx h2 h3
    have hv := gone_new ha hs hn [] true
    rw [← h4] at hm hj hv
    refine ⟨by rw [hv]; rfl, ?_, ?_, hm⟩
    · rw [join_commG, hj]
      unfold liveS
      rw [hm, hv]
      rfl
    · have hr : reapS t = ⟨t.seen, []⟩ := by
        unfold reapS
        rw [hm, hv]
        rfl
      have hrm := reap_may hm
      rw [hr] at hrm ⊢
      refine List.eq_nil_iff_forall_not_mem.2 fun v hv' => ?_
      unfold Sib.join at hv'
      rw [hrm, ha] at hv'
      have hv' : v ∈ joinVals ⟨t.seen, []⟩ a := hv'
      rw [joinVals_all] at hv'
      rcases (mem_joinAllG hrm).1 (List.mem_of_mem_take hv') with ⟨x, hx, _⟩ | ⟨h5, h6⟩
      · cases hx
      · have h7 := valOk_covers (((may_iff a).1 ha).val v h5)
        have h8 : t.seen.covers v.dot = true := by
          rw [h4]
          exact (new_covers ha hse hn).2 (.inl ((covers_join _ _ _).2 (.inl h7)))
        rw [show (⟨t.seen, []⟩ : Sib).seen = t.seen from rfl, h8] at h6
        cases h6
end
end Go.Proofs.Ytfdhldbhbigfhaa.V
