/- A region whose order is open: the first part in any order, then the rest. -/
import Derived.Test.YtphlgefkcghopaaVmD6
set_option linter.unusedVariables false
set_option linter.unusedSimpArgs false
namespace Go.Vm
attribute [local simp] evalOps_nil evalOps_cons evalOps_consg evalOp_mv evalOp_asg evalOp_pick evalOp_build evalOp_bslice evalOp_load evalOp_nilck evalOp_bin evalOp_un evalOp_conv evalOp_mkfn evalOp_slice evalOp_faddr evalOp_field evalOp_iaddr evalOp_index evalOp_lookup evalOp_extract evalOp_app evalOp_len evalOp_mn evalOp_mx evalOp_alloc evalOp_box evalOp_mkmap evalOp_store evalOp_mapupd evalOp_delete evalOp_sliceArr evalOp_call evalOp_callv evalOp_appc code_skip code_ops code_dops code_seq code_cond code_block code_exit code_ret finish_normal finish_ret
attribute [local simp] V.lt V.ltL V.flat V.pureCell V.pure V.isCell cellEq cellsEq eqV intV shV strV isShift binV unV byteV convV minV maxV foldV foldV1 fillV fillE findV putV delV isKey natOf natOr cut cellsAt mapAt mapOf loadV pickV nilckV sizeOk allSize sliceV faddrV fieldV iaddrV indexV found extractV allPure appV lenV ownHas ownOk storeC storeV samePtr appcV boxable mapupdV deleteV sliceArrV callV allLt clean bodyEnd resV one finishV runV initR
section
variable {P : Program} {R : Nat → Option Nat} {cx : Cx} {N : Nat} {hb0 : Heap} {rs : Regs} {h : Heap} {fl : Fl} {g : Gh} {a : Act} {w : World}

/-- The facts that the check gives. -/
structure PreFacts (c : Nat) (os : List Oper) (is : List VI) : Prop where
  le : c ≤ is.length
  one : oneWriter (is.take c) = true
  reads : readsOk (is.take c) (masks os []) 0 (is.take c) = true
  back : backOk 0 os = true
  rest : restOk c (masks os []) is.length = true
  eats : eatsOk (is.take c) (is.take c) = true
  nodup : nodupN (eaten (fun _ => true) 0 (is.take c)) = true
theorem preFacts {c : Nat} {os : List Oper} {is : List VI} (hp : preOk c os is = true) : PreFacts c os is := by
  simp only [preOk, Bool.and_eq_true, decide_eq_true_eq] at hp
  exact ⟨hp.1, hp.2.1, hp.2.2.1, hp.2.2.2.1, hp.2.2.2.2.1, hp.2.2.2.2.2.1, hp.2.2.2.2.2.2⟩
/-- What an operation reads is there. -/
theorem reads_same {c : Nat} {os : List Oper} {is : List VI} (hp : PreFacts c os is) {vs : List V} {L : Nat → Bool} {k : Nat} {i : VI} {l : List Nat} (hi : (is.take c)[k]? = some i) (hl : readsAll i = some l) {o : Oper} (ho : os[k]? = some o)
    (hL : ∀ b, ((masks os []).getD k 0).testBit b = true → L b = true) (hlen : vs.length = (is.take c).length) : ∀ r ∈ l, get (mix L 0 (is.take c) vs rs) r = get (mix (fun q => decide (q < 0 + k)) 0 (is.take c) vs rs) r := by
  intro r hr
  obtain ⟨l', hl', hw⟩ := readsOk_at hp.reads k i hi
  rw [hl] at hl'; cases hl'
  simp only [Nat.zero_add] at hw ⊢
  by_cases hex : ∃ (j : Nat) (i' : VI), (is.take c)[j]? = some i' ∧ i'.dst = some r
  · obtain ⟨j, i', hj, hd⟩ := hex
    have hbit := writersIn_at hw j i' r hj hd hr
    simp only [Nat.zero_add] at hbit
    have hlt := bit_lt hp.back ho hbit
    have hjl : j < vs.length := by rw [hlen]; exact (List.getElem?_eq_some_iff.1 hj).1
    have hv : vs[j]? = some vs[j] := by simp [hjl]
    have uniq : ∀ (q : Nat) (i2 : VI), j < q → (is.take c)[q]? = some i2 → i2.dst ≠ some r := fun q i2 hq h2 e => by
      have := oneWriter_at hp.one j q i' i2 r hj h2 hd e
      omega
    rw [mix_some _ vs 0 rs j i' vs[j] hj hv (by simpa using hL j hbit) hd uniq, mix_some _ vs 0 rs j i' vs[j] hj hv (by simpa using hlt) hd uniq]
  · rw [mix_none _ vs 0 rs fun j i' hj _ e => hex ⟨j, i', hj, e⟩, mix_none _ vs 0 rs fun j i' hj _ e => hex ⟨j, i', hj, e⟩]
theorem readsAll_inv {i : VI} {l : List Nat} (hl : readsAll i = some l) : ∃ l', readsOf i.op = some l' ∧ (∀ r ∈ l', r ∈ l) ∧ ∀ q b, i.guard = some (q, b) → q ∈ l := by
  unfold readsAll at hl
  obtain ⟨l', h1, hl⟩ := bnd_eq_some hl
  cases hl
  refine ⟨l', h1, fun r hr => ?_, fun q b e => ?_⟩
  · split
    · simp [hr]
    · exact hr
  · rw [e]; simp
theorem mix_congr : ∀ (is : List VI) (vs : List V) (k : Nat) (rs : Regs) (L L' : Nat → Bool), (∀ j, j < is.length → L (k + j) = L' (k + j)) → mix L k is vs rs = mix L' k is vs rs := by
  intro is
  induction is with
  | nil => intro vs k rs L L' _; cases vs <;> rfl
  | cons i is ih =>
    intro vs k rs L L' hLL
    cases vs with
    | nil => rfl
    | cons v vs =>
      simp only [mix]
      have h0 := hLL 0 (by simp)
      simp only [Nat.add_zero] at h0
      rw [h0]
      exact ih vs (k + 1) _ L L' fun j hj => by have := hLL (j + 1) (by simp; omega); rw [show k + 1 + j = k + (j + 1) by omega]; exact this
theorem mem_ownL {L : Nat → Bool} {pre : List VI} {own : Ows} {x : Nat × Nat × Nat} : x ∈ ownL L pre own ↔ (x ∈ own0 pre own ∨ x ∈ toks L 0 pre) ∧ x.1 ∉ eaten L 0 pre := by
  simp only [ownL, List.mem_filter, List.mem_append, Bool.not_eq_true', List.contains_eq_mem, decide_eq_false_iff_not]
theorem own0_dst {pre : List VI} {own : Ows} {x : Nat × Nat × Nat} (hx : x ∈ own0 pre own) {i : VI} (hi : i ∈ pre) : i.dst ≠ some x.1 := by
  simp only [own0, List.mem_filter, List.all_eq_true, decide_eq_true_eq] at hx
  exact hx.2 i hi
theorem nodupN_at {L : Nat → Bool} : ∀ {pre : List VI} {k : Nat}, nodupN (eaten (fun _ => true) k pre) = true → ∀ (j q : Nat) (i i' : VI) (p : Nat), pre[j]? = some i → pre[q]? = some i' → eatenBy i = some p → eatenBy i' = some p → j = q
  | [], _, _, j, q, i, i', p, hi, _, _, _ => by simp at hi
  | i0 :: pre, k, h, j, q, i, i', p, hi, hi', hp, hp' => by
    have tail : nodupN (eaten (fun _ => true) (k + 1) pre) = true := by
      simp only [eaten] at h
      cases he : eatenBy i0 with
      | none => rw [he] at h; exact h
      | some p0 => rw [he] at h; simp only [cnd_true, List.singleton_append, nodupN, Bool.and_eq_true] at h; exact h.2
    have head : ∀ p0, eatenBy i0 = some p0 → p0 ∉ eaten (fun _ => true) (k + 1) pre := fun p0 he => by
      simp only [eaten] at h
      rw [he] at h
      simp only [cnd_true, List.singleton_append, nodupN, Bool.and_eq_true, Bool.not_eq_true', List.contains_eq_mem, decide_eq_false_iff_not] at h
      exact h.1
    cases j with
    | zero =>
      cases q with
      | zero => rfl
      | succ q =>
        simp at hi
        subst hi
        exact absurd (mem_eaten.2 ⟨q, i', by simpa using hi', rfl, hp'⟩) (head p hp)
    | succ j =>
      cases q with
      | zero =>
        simp at hi'
        subst hi'
        exact absurd (mem_eaten.2 ⟨j, i, by simpa using hi, rfl, hp⟩) (head p hp')
      | succ q => rw [nodupN_at (L := L) tail j q i i' p (by simpa using hi) (by simpa using hi') hp hp']
theorem eatsOk_at {pre : List VI} : ∀ {is : List VI}, eatsOk pre is = true → ∀ i ∈ is, ∀ p size bytes s x, i.op = .app (.reg p) size bytes s x → ∃ z, (p, 0, z) ∈ toks (fun _ => true) 0 pre ∧ (z = size ∨ z = 0)
  | [], _, i, hi => by simp at hi
  | i0 :: is, h, i, hi => by
    intro p size bytes s x e
    simp only [eatsOk, Bool.and_eq_true] at h
    rcases List.mem_cons.1 hi with rfl | hi
    · have h1 := h.1
      rw [e] at h1
      simp only [List.any_eq_true, Bool.and_eq_true, Bool.or_eq_true, decide_eq_true_eq] at h1
      obtain ⟨⟨q, o, z⟩, hm, rfl, rfl, hz⟩ := h1
      exact ⟨z, hm, hz⟩
    · exact eatsOk_at h.2 i hi p size bytes s x e
end
end Go.Vm
