/- A region whose order is open: all of it. -/
import Derived.Test.YtphlgefkcghopaaVmD5
set_option linter.unusedVariables false
set_option linter.unusedSimpArgs false
namespace Go.Vm
attribute [local simp] evalOps_nil evalOps_cons evalOps_consg evalOp_mv evalOp_asg evalOp_pick evalOp_build evalOp_bslice evalOp_load evalOp_nilck evalOp_bin evalOp_un evalOp_conv evalOp_mkfn evalOp_slice evalOp_faddr evalOp_field evalOp_iaddr evalOp_index evalOp_lookup evalOp_extract evalOp_app evalOp_len evalOp_mn evalOp_mx evalOp_alloc evalOp_box evalOp_mkmap evalOp_store evalOp_mapupd evalOp_delete evalOp_sliceArr evalOp_call evalOp_callv evalOp_appc code_skip code_ops code_dops code_seq code_cond code_block code_exit code_ret finish_normal finish_ret
attribute [local simp] V.lt V.ltL V.flat V.pureCell V.pure V.isCell cellEq cellsEq eqV intV shV strV isShift binV unV byteV convV minV maxV foldV foldV1 fillV fillE findV putV delV isKey natOf natOr cut cellsAt mapAt mapOf loadV pickV nilckV sizeOk allSize sliceV faddrV fieldV iaddrV indexV found extractV allPure appV lenV ownHas ownOk storeC storeV samePtr appcV boxable mapupdV deleteV sliceArrV callV allLt clean bodyEnd resV one finishV runV initR

theorem oneWriter_at : ∀ {pre : List VI}, oneWriter pre = true → ∀ (j q : Nat) (i i' : VI) (r : Nat), pre[j]? = some i → pre[q]? = some i' → i.dst = some r → i'.dst = some r → j = q
  | [], _, j, q, i, i', r, hi, _, _, _ => by simp at hi
  | i0 :: pre, h, j, q, i, i', r, hi, hi', hr, hr' => by
    simp only [oneWriter, Bool.and_eq_true] at h
    cases j with
    | zero =>
      cases q with
      | zero => rfl
      | succ q =>
        exfalso
        simp at hi
        subst hi
        have h1 := h.1
        rw [hr] at h1
        simp only [List.all_eq_true, decide_eq_true_eq] at h1
        exact h1 i' (List.mem_of_getElem? (by simpa using hi')) hr'
    | succ j =>
      cases q with
      | zero =>
        exfalso
        simp at hi'
        subst hi'
        have h1 := h.1
        rw [hr'] at h1
        simp only [List.all_eq_true, decide_eq_true_eq] at h1
        exact h1 i (List.mem_of_getElem? (by simpa using hi)) hr
      | succ q => rw [oneWriter_at h.2 j q i i' r (by simpa using hi) (by simpa using hi') hr hr']
theorem writersIn_at {mask : Nat} {regs : List Nat} : ∀ {pre : List VI} {k : Nat}, writersIn mask regs k pre = true → ∀ (j : Nat) (i : VI) (r : Nat), pre[j]? = some i → i.dst = some r → r ∈ regs → mask.testBit (k + j) = true
  | [], _, _, j, i, r, hi, _, _ => by simp at hi
  | i0 :: pre, k, h, 0, i, r, hi, hr, hm => by
    simp at hi
    subst hi
    simp only [writersIn, Bool.and_eq_true] at h
    have h1 := h.1
    rw [hr] at h1
    simp only [Bool.or_eq_true, Bool.not_eq_true', List.contains_eq_mem, decide_eq_false_iff_not] at h1
    rcases h1 with h1 | h1
    · exact absurd hm h1
    · exact h1
  | i0 :: pre, k, h, j + 1, i, r, hi, hr, hm => by
    simp only [writersIn, Bool.and_eq_true] at h
    have := writersIn_at h.2 j i r (by simpa using hi) hr hm
    rw [show k + (j + 1) = k + 1 + j by omega]
    exact this
theorem readsOk_at {pre : List VI} {M : List Nat} : ∀ {is : List VI} {k : Nat}, readsOk pre M k is = true → ∀ (j : Nat) (i : VI), is[j]? = some i → ∃ l, readsAll i = some l ∧ writersIn (M.getD (k + j) 0) l 0 pre = true
  | [], _, _, j, i, hi => by simp at hi
  | i0 :: is, k, h, 0, i, hi => by
    simp at hi
    subst hi
    simp only [readsOk, Bool.and_eq_true] at h
    have h1 := h.1
    split at h1
    · rename_i l hl; exact ⟨l, hl, h1⟩
    · cases h1
  | i0 :: is, k, h, j + 1, i, hi => by
    simp only [readsOk, Bool.and_eq_true] at h
    have := readsOk_at h.2 j i (by simpa using hi)
    rw [show k + (j + 1) = k + 1 + j by omega]
    exact this
theorem bit_lt {os : List Oper} (hb : backOk 0 os = true) {k : Nat} {o : Oper} (ho : os[k]? = some o) {b : Nat} (h : ((masks os []).getD k 0).testBit b = true) : b < k := by
  have := mask_closed (os := os) (L := fun q => decide (q < k)) (fun q o' ho' hq j hj => by
    have h1 := of_decide_eq_true hq
    have h2 := backOk_at os 0 q o' hb ho' j hj
    exact decide_eq_true (by omega)) k o ho (fun j hj => decide_eq_true (by have := backOk_at os 0 k o hb ho j hj; omega)) b h
  exact of_decide_eq_true this
theorem mem_toks {L : Nat → Bool} : ∀ {pre : List VI} {k : Nat} {x : Nat × Nat × Nat}, x ∈ toks L k pre ↔ ∃ j i, pre[j]? = some i ∧ L (k + j) = true ∧ tokenOf i = some x
  | [], k, x => by simp [toks]
  | i0 :: pre, k, x => by
    simp only [toks, List.mem_append, mem_toks (pre := pre)]
    constructor
    · rintro (h | ⟨j, i, h1, h2, h3⟩)
      · refine ⟨0, i0, rfl, ?_⟩
        cases ht : tokenOf i0 with
        | none => rw [ht] at h; simp at h
        | some t =>
          rw [ht] at h
          cases hk : L k <;> rw [hk] at h
          · simp at h
          · simp at h; subst h; exact ⟨rfl, rfl⟩
      · exact ⟨j + 1, i, by simpa using h1, by rw [show k + (j + 1) = k + 1 + j by omega]; exact h2, h3⟩
    · rintro ⟨j, i, h1, h2, h3⟩
      cases j with
      | zero =>
        simp at h1
        subst h1
        left
        rw [h3]
        have : L k = true := by simpa using h2
        rw [this]
        simp
      | succ j => exact .inr ⟨j, i, by simpa using h1, by rw [show k + 1 + j = k + (j + 1) by omega]; exact h2, h3⟩
theorem mem_eaten {L : Nat → Bool} : ∀ {pre : List VI} {k : Nat} {x : Nat}, x ∈ eaten L k pre ↔ ∃ j i, pre[j]? = some i ∧ L (k + j) = true ∧ eatenBy i = some x
  | [], k, x => by simp [eaten]
  | i0 :: pre, k, x => by
    simp only [eaten, List.mem_append, mem_eaten (pre := pre)]
    constructor
    · rintro (h | ⟨j, i, h1, h2, h3⟩)
      · refine ⟨0, i0, rfl, ?_⟩
        cases ht : eatenBy i0 with
        | none => rw [ht] at h; simp at h
        | some t =>
          rw [ht] at h
          cases hk : L k <;> rw [hk] at h
          · simp at h
          · simp at h; subst h; exact ⟨rfl, rfl⟩
      · exact ⟨j + 1, i, by simpa using h1, by rw [show k + (j + 1) = k + 1 + j by omega]; exact h2, h3⟩
    · rintro ⟨j, i, h1, h2, h3⟩
      cases j with
      | zero =>
        simp at h1
        subst h1
        left
        rw [h3]
        have : L k = true := by simpa using h2
        rw [this]
        simp
      | succ j => exact .inr ⟨j, i, by simpa using h1, by rw [show k + 1 + j = k + (j + 1) by omega]; exact h2, h3⟩
theorem mem_als {L : Nat → Bool} : ∀ {pre : List VI} {k : Nat} {x : Nat × Nat}, x ∈ als L k pre ↔ ∃ j i, pre[j]? = some i ∧ L (k + j) = true ∧ alOf i = some x
  | [], k, x => by simp [als]
  | i0 :: pre, k, x => by
    simp only [als, List.mem_append, mem_als (pre := pre)]
    constructor
    · rintro (h | ⟨j, i, h1, h2, h3⟩)
      · refine ⟨0, i0, rfl, ?_⟩
        cases ht : alOf i0 with
        | none => rw [ht] at h; simp at h
        | some t =>
          rw [ht] at h
          cases hk : L k <;> rw [hk] at h
          · simp at h
          · simp at h; subst h; exact ⟨rfl, rfl⟩
      · exact ⟨j + 1, i, by simpa using h1, by rw [show k + (j + 1) = k + 1 + j by omega]; exact h2, h3⟩
    · rintro ⟨j, i, h1, h2, h3⟩
      cases j with
      | zero =>
        simp at h1
        subst h1
        left
        rw [h3]
        have : L k = true := by simpa using h2
        rw [this]
        simp
      | succ j => exact .inr ⟨j, i, by simpa using h1, by rw [show k + 1 + j = k + (j + 1) by omega]; exact h2, h3⟩
end Go.Vm
