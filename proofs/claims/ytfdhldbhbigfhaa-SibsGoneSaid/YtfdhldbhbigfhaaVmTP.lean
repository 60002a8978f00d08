/- Putting, in plain words: what is put is what may be, and above what was. -/
import Derived.Test.YtfdhldbhbigfhaaVmSC
import Derived.Test.YtfdhldbhbigfhaaVmTN
set_option linter.unusedVariables false
set_option linter.unusedSimpArgs false
set_option linter.unusedSectionVars false
namespace Go.Proofs.Ytfdhldbhbigfhaa.V
open Go.Vm

theorem Vec.at_put (v : Vec) {n k : Nat} (hn : n < 8) (x : Int) : (v.put n x).at k = if k = n then x else v.at k := by
  unfold Vec.at Vec.put
  by_cases h : k = n
  · subst h
    have hl : k < v.l.length := by simp; exact hn
    simp [List.getElem?_set, hn]
  · have h' : ¬ n = k := fun e => h e.symm
    simp [List.getElem?_set, h, h']
theorem Vec.ext_at {a b : Vec} (h : ∀ k, k < 8 → a.at k = b.at k) : a = b := by
  apply Vec.ext_l
  apply List.ext_getElem (by simp)
  intro k h1 h2
  have hk : k < 8 := by simpa using h1
  have := h k hk
  unfold Vec.at at this
  simpa [List.getElem?_eq_getElem h1, List.getElem?_eq_getElem h2] using this
theorem vecMay_at (v : Vec) : v.may = true ↔ ∀ k, k < 8 → 0 ≤ v.at k ∧ v.at k ≤ 1099511627776 := by
  constructor
  · intro h k hk; exact may_at0 h hk
  · intro h
    rw [vecMay_iff]
    intro n hn
    obtain ⟨k, hk, rfl⟩ := List.getElem_of_mem hn
    have := h k (by simpa using hk)
    unfold Vec.at at this
    simpa [List.getElem?_eq_getElem hk] using this
theorem covers_at (v : Vec) (d : Dot) : v.covers d = true ↔ 0 ≤ d.node ∧ d.node < 8 ∧ 1 ≤ d.n ∧ d.n ≤ v.at d.node.toNat := covers_iff v d
/-! ### the new dot -/
def newS (s : Sib) (seen : Vec) (n : Nat) (data : List UInt8) (dead : Bool) : Sib :=
  ⟨(s.seen.join seen).put n ((s.seen.join seen).at n + 1), insertV (kept s seen) ⟨⟨n, (s.seen.join seen).at n + 1⟩, data, dead⟩⟩
theorem putS_ok {s : Sib} {seen : Vec} {n : Nat} {data : List UInt8} {dead : Bool} (h1 : (s.seen.join seen).at n < 1099511627776) (h2 : (kept s seen).length < 16) : putS s seen n data dead = (newS s seen n data dead, 0) := by
  unfold putS newS
  rw [decide_eq_false (by omega), decide_eq_false (by omega)]
  rfl
theorem putS_cases (s : Sib) (seen : Vec) (n : Nat) (data : List UInt8) (dead : Bool) : (putS s seen n data dead = (zeroSib, 11)) ∨ (putS s seen n data dead = (newS s seen n data dead, 0) ∧ (s.seen.join seen).at n < 1099511627776 ∧ (kept s seen).length < 16) := by
  by_cases h1 : 1099511627776 ≤ (s.seen.join seen).at n
  · left; unfold putS; rw [decide_eq_true h1]; rfl
  · by_cases h2 : 16 < (kept s seen).length + 1
    · left; unfold putS; rw [decide_eq_false h1, decide_eq_true h2]; rfl
    · exact .inr ⟨putS_ok (by omega) (by omega), by omega, by omega⟩
section
variable {s : Sib} (hs : s.may = true) {seen : Vec} (hse : seen.may = true) {n : Nat} (hn : n < 8) {data : List UInt8} {dead : Bool}
include hs hse hn
theorem new_at (k : Nat) : (newS s seen n data dead).seen.at k = if k = n then (s.seen.join seen).at n + 1 else (s.seen.join seen).at k := Vec.at_put _ hn _
theorem join_may2 : (s.seen.join seen).may = true := vec_join_may (seen_may hs) hse
theorem new_seen_may (h1 : (s.seen.join seen).at n < 1099511627776) : (newS s seen n data dead).seen.may = true := by
  rw [vecMay_at]
  intro k hk
  rw [new_at hs hse hn]
  have h2 := (vecMay_at _).1 (join_may2 hs hse hn)
  have := h2 n hn
  have := h2 k hk
  split <;> omega
theorem new_join_seen : (s.seen.join seen).join (newS s seen n data dead).seen = (newS s seen n data dead).seen := by
  apply Vec.ext_at
  intro k hk
  rw [join_at _ _ hk, new_at hs hse hn]
  split
  · subst_vars; omega
  · omega
theorem new_covers {d : Dot} : (newS s seen n data dead).seen.covers d = true ↔ (s.seen.join seen).covers d = true ∨ d = ⟨n, (s.seen.join seen).at n + 1⟩ := by
  have h2 := (vecMay_at _).1 (join_may2 hs hse hn)
  have h3 := h2 n hn
  rw [covers_at, covers_at, new_at hs hse hn]
  constructor
  · rintro ⟨c1, c2, c3, c4⟩
    by_cases e : d.node.toNat = n
    · rw [if_pos e] at c4
      by_cases e2 : d.n ≤ (s.seen.join seen).at n
      · left; exact ⟨c1, c2, c3, by rw [e]; exact e2⟩
      · right
        have : d.n = (s.seen.join seen).at n + 1 := by omega
        have : d.node = n := by omega
        cases d; simp_all
    · rw [if_neg e] at c4
      exact .inl ⟨c1, c2, c3, c4⟩
  · rintro (⟨c1, c2, c3, c4⟩ | e)
    · refine ⟨c1, c2, c3, ?_⟩
      split
      · rename_i e; rw [e] at c4; omega
      · exact c4
    · subst e
      refine ⟨by simp, by simp; omega, by simp; omega, ?_⟩
      simp
theorem not_covered : s.seen.covers ⟨n, (s.seen.join seen).at n + 1⟩ = false := by
  cases h : s.seen.covers ⟨n, (s.seen.join seen).at n + 1⟩ with
  | false => rfl
  | true =>
    rw [covers_at] at h
    have := h.2.2.2
    simp only [Int.toNat_natCast] at this
    rw [join_at _ _ hn] at this
    omega
theorem new_mem {v : Val} : v ∈ (newS s seen n data dead).vals ↔ v = ⟨⟨n, (s.seen.join seen).at n + 1⟩, data, dead⟩ ∨ (v ∈ s.vals ∧ seen.covers v.dot = false) := by
  unfold newS
  rw [mem_insertV]
  unfold kept
  simp [List.mem_filter]
theorem new_may (hx : mayV ⟨zeroDot, data, dead⟩ = true) (h1 : (s.seen.join seen).at n < 1099511627776) (h2 : (kept s seen).length < 16) : (newS s seen n data dead).may = true := by
  have hsm := new_seen_may (data := data) (dead := dead) hs hse hn h1
  have hg := (may_iff s).1 hs
  rw [may_iff]
  refine ⟨(vecMay_iff _).1 hsm, ?_, ?_, ?_⟩
  · show (insertV _ _).length ≤ 16
    rw [insertV_len]; omega
  · exact insertV_srt (kept_srt hs seen) fun u hu => kept_new hs hn hu
  · intro v hv
    rcases (new_mem hs hse hn).1 hv with e | ⟨hm, _⟩
    · subst e
      unfold valOk
      rw [(new_covers hs hse hn).2 (.inr rfl)]
      unfold mayV at hx
      simpa using hx
    · have hc := valOk_covers (hg.val v hm)
      exact valOk_mono (hg.val v hm) ((new_covers hs hse hn).2 (.inl ((covers_join _ _ _).2 (.inl hc))))
theorem new_join (hx : mayV ⟨zeroDot, data, dead⟩ = true) (h1 : (s.seen.join seen).at n < 1099511627776) (h2 : (kept s seen).length < 16) : s.join (newS s seen n data dead) = newS s seen n data dead := by
  have hm := new_may hs hse hn hx h1 h2
  have hg := (may_iff s).1 hs
  have hnc := not_covered hs hse hn
  refine join_eq_of hs hm hm ?_ ?_ ?_
  · intro v hv w hw e
    rcases (new_mem hs hse hn).1 hw with e2 | ⟨hw2, _⟩
    · subst e2
      have hc := valOk_covers (hg.val v hv)
      rw [e] at hc
      rw [hc] at hnc; cases hnc
    · exact hg.srt.dot_inj hv hw2 e
  · have h3 := new_join_seen (data := data) (dead := dead) hs hse hn
    apply Vec.ext_at
    intro k hk
    have h4 := congrArg (fun v => Vec.at v k) h3
    simp only [join_at _ _ hk] at h4 ⊢
    omega
  · intro v
    constructor
    · intro hv
      rcases (new_mem hs hse hn).1 hv with e2 | ⟨hw2, _⟩
      · subst e2
        exact .inr ⟨hv, .inr hnc⟩
      · exact .inl ⟨hw2, .inl hv⟩
    · rintro (⟨hv, hr | hc⟩ | ⟨hv, _⟩)
      · exact hr
      · have hc2 := valOk_covers (hg.val v hv)
        rw [(new_covers hs hse hn).2 (.inl ((covers_join _ _ _).2 (.inl hc2)))] at hc
        cases hc
      · exact hv
end
/-! ### put by one who has seen all -/
end Go.Proofs.Ytfdhldbhbigfhaa.V
