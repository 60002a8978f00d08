/- A region whose order is open: one operation of the first part. -/
import Derived.Test.YtphlgefkcghopaaVmD7
set_option linter.unusedVariables false
set_option linter.unusedSimpArgs false
namespace Go.Vm
attribute [local simp] evalOps_nil evalOps_cons evalOps_consg evalOp_mv evalOp_asg evalOp_pick evalOp_build evalOp_bslice evalOp_load evalOp_nilck evalOp_bin evalOp_un evalOp_conv evalOp_mkfn evalOp_slice evalOp_faddr evalOp_field evalOp_iaddr evalOp_index evalOp_lookup evalOp_extract evalOp_app evalOp_len evalOp_mn evalOp_mx evalOp_alloc evalOp_box evalOp_mkmap evalOp_store evalOp_mapupd evalOp_delete evalOp_sliceArr evalOp_call evalOp_callv evalOp_appc code_skip code_ops code_dops code_seq code_cond code_block code_exit code_ret finish_normal finish_ret
attribute [local simp] V.lt V.ltL V.flat V.pureCell V.pure V.isCell cellEq cellsEq eqV intV shV strV isShift binV unV byteV convV minV maxV foldV foldV1 fillV fillE findV putV delV isKey natOf natOr cut cellsAt mapAt mapOf loadV pickV nilckV sizeOk allSize sliceV faddrV fieldV iaddrV indexV found extractV allPure appV lenV ownHas ownOk storeC storeV samePtr appcV boxable mapupdV deleteV sliceArrV callV allLt clean bodyEnd resV one finishV runV initR

theorem mem_hasOwn {r off sz z : Nat} : ∀ {l : Ows}, (r, off, z) ∈ l → (z = sz ∨ z = 0) → hasOwn r off sz l = true
  | [], h, _ => by simp at h
  | (q, o, y) :: l, h, hz => by
    simp only [hasOwn, Bool.or_eq_true, Bool.and_eq_true, decide_eq_true_eq]
    rcases List.mem_cons.1 h with e | h
    · cases e; exact .inl ⟨⟨rfl, rfl⟩, hz⟩
    · exact .inr (mem_hasOwn h hz)
theorem tokenOf_inv {i : VI} {x : Nat × Nat × Nat} (h : tokenOf i = some x) : i.dst = some x.1 ∧ i.guard = none := by
  unfold tokenOf at h
  split at h
  · rename_i d h1 h2 h3; cases h; exact ⟨h1, h2⟩
  · rename_i d h1 h2 h3; cases h; exact ⟨h1, h2⟩
  · cases h
theorem alOf_inv {i : VI} {x : Nat × Nat} (h : alOf i = some x) : i.dst = some x.1 ∧ i.guard = none ∧ i.op = .mv (.r x.2) ∧ x.1 ≠ x.2 := by
  unfold alOf at h
  split at h
  · rename_i d p h1 h2 h3
    obtain ⟨hne, h⟩ := cnd_eq_some h
    cases h
    exact ⟨h1, h2, h3, of_decide_eq_true hne⟩
  · cases h
section
variable {c : Nat} {os : List Oper} {is : List VI} {own : Ows} {L L' : Nat → Bool} {k : Nat} {i : VI}

/-- What is known behind one more. -/
theorem own_next (hp : PreFacts c os is) (hi : (is.take c)[k]? = some i) (hk : L k = false) (hL' : ∀ q, L' q = (L q || decide (q = k))) {x : Nat × Nat × Nat} (hx : x ∈ ownL L' (is.take c) own) :
    tokenOf i = some x ∨ (x ∈ ownL L (is.take c) own ∧ (∀ d, i.dst = some d → x.1 ≠ d) ∧ eatenBy i ≠ some x.1) := by
  obtain ⟨h1, h2⟩ := mem_ownL.1 hx
  have hkk : L' (0 + k) = true := by rw [hL']; simp
  have heat : eatenBy i ≠ some x.1 := fun e => h2 (mem_eaten.2 ⟨k, i, hi, hkk, e⟩)
  have h3 : x.1 ∉ eaten L 0 (is.take c) := fun h => by
    obtain ⟨j, i', hj, hl, he⟩ := mem_eaten.1 h
    exact h2 (mem_eaten.2 ⟨j, i', hj, by rw [hL', hl]; rfl, he⟩)
  rcases h1 with h1 | h1
  · exact .inr ⟨mem_ownL.2 ⟨.inl h1, h3⟩, fun d e e2 => own0_dst h1 (List.mem_of_getElem? hi) (by rw [e, e2]), heat⟩
  · obtain ⟨j, i', hj, hl, he⟩ := mem_toks.1 h1
    by_cases hjk : j = k
    · subst hjk
      rw [hi] at hj; cases hj
      exact .inl he
    · rw [hL', Nat.zero_add] at hl
      have hl' : L j = true := by simpa [hjk] using hl
      refine .inr ⟨mem_ownL.2 ⟨.inr (mem_toks.2 ⟨j, i', hj, by simpa using hl', he⟩), h3⟩, fun d e e2 => hjk ?_, heat⟩
      exact oneWriter_at hp.one j k i' i x.1 hj hi (tokenOf_inv he).1 (by rw [e, e2])
theorem al_next (hp : PreFacts c os is) (hi : (is.take c)[k]? = some i) (hk : L k = false) (hL' : ∀ q, L' q = (L q || decide (q = k))) (hcl : ∀ j, L j = true → ∀ b, ((masks os []).getD j 0).testBit b = true → L b = true) {x : Nat × Nat} (hx : x ∈ als L' 0 (is.take c)) :
    alOf i = some x ∨ (x ∈ als L 0 (is.take c) ∧ ∀ d, i.dst = some d → x.1 ≠ d ∧ x.2 ≠ d) := by
  obtain ⟨j, i', hj, hl, he⟩ := mem_als.1 hx
  by_cases hjk : j = k
  · subst hjk
    rw [hi] at hj; cases hj
    exact .inl he
  · rw [hL', Nat.zero_add] at hl
    have hl' : L j = true := by simpa [hjk] using hl
    obtain ⟨e1, e2, e3, e4⟩ := alOf_inv he
    refine .inr ⟨mem_als.2 ⟨j, i', hj, by simpa using hl', he⟩, fun d e => ⟨fun e5 => hjk (oneWriter_at hp.one j k i' i x.1 hj hi e1 (by rw [e, e5])), fun e5 => ?_⟩⟩
    obtain ⟨l, hl2, hw⟩ := readsOk_at hp.reads j i' hj
    have hm : x.2 ∈ l := by
      obtain ⟨l', h1, h2, _⟩ := readsAll_inv hl2
      rw [e3] at h1
      cases h1
      exact h2 _ (by simp [argRegs])
    have hbit := writersIn_at hw k i x.2 hi (by rw [e, e5]) hm
    simp only [Nat.zero_add] at hbit
    have := hcl j hl' k hbit
    rw [hk] at this; cases this
theorem eats_there (hp : PreFacts c os is) (hi : (is.take c)[k]? = some i) (hk : L k = false) (hanc : ∀ b, ((masks os []).getD k 0).testBit b = true → L b = true) {p size bytes : Nat} {s x : Arg} (he : i.op = .app (.reg p) size bytes s x) : hasOwn p 0 size (ownL L (is.take c) own) = true := by
  obtain ⟨z, hz, hzs⟩ := eatsOk_at hp.eats i (List.mem_of_getElem? hi) p size bytes s x he
  obtain ⟨j, i', hj, _, ht⟩ := mem_toks.1 hz
  obtain ⟨l, hl2, hw⟩ := readsOk_at hp.reads k i hi
  have hm : p ∈ l := by
    obtain ⟨l', h1, h2, _⟩ := readsAll_inv hl2
    rw [he] at h1
    refine h2 p ?_
    cases s with
    | c v => cases h1
    | r t =>
      simp only [readsOf] at h1
      obtain ⟨_, h1⟩ := cnd_eq_some h1
      cases h1
      simp
  have hbit := writersIn_at hw j i' p hj (tokenOf_inv ht).1 hm
  simp only [Nat.zero_add] at hbit
  have hLj := hanc j hbit
  refine mem_hasOwn (z := z) (mem_ownL.2 ⟨.inr (mem_toks.2 ⟨j, i', hj, by simpa using hLj, ht⟩), fun h => ?_⟩) hzs
  obtain ⟨q, i2, hq, hl, he2⟩ := mem_eaten.1 h
  have hqk := nodupN_at (L := L) hp.nodup q k i2 i p hq hi he2 (by simp [eatenBy, he])
  subst hqk
  rw [Nat.zero_add] at hl
  rw [hk] at hl; cases hl
end
end Go.Vm
