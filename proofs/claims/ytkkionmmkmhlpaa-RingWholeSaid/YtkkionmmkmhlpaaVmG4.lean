/- The V-machine, part 4. -/
import Derived.Test.YtkkionmmkmhlpaaVmG3
import Derived.LoopN
import Derived.Below
import Derived.SizedLaws
import Derived.ChangeArms
import Derived.ChangeSlices
/- A region whose order is open: the first part in any order, then the rest. -/
set_option linter.unusedVariables false
set_option linter.unusedSimpArgs false
namespace Go.Vm
attribute [local simp] evalOps_nil evalOps_cons evalOps_consg evalOp_mv evalOp_asg evalOp_pick evalOp_build evalOp_bslice evalOp_load evalOp_nilck evalOp_bin evalOp_un evalOp_conv evalOp_mkfn evalOp_slice evalOp_faddr evalOp_field evalOp_iaddr evalOp_index evalOp_lookup evalOp_extract evalOp_app evalOp_len evalOp_mn evalOp_mx evalOp_alloc evalOp_box evalOp_mkmap evalOp_store evalOp_mapupd evalOp_delete evalOp_sliceArr evalOp_call evalOp_callv evalOp_appc code_skip code_ops code_dops code_seq code_cond code_block code_exit code_ret finish_normal finish_ret
attribute [local simp] V.lt V.ltL V.flat V.pureCell V.pure V.isCell cellEq cellsEq eqV intV shV strV isShift binV unV byteV convV minV maxV foldV foldV1 fillV fillE findV putV delV isKey natOf natOr cut cellsAt mapAt mapOf loadV pickV nilckV sizeOk allSize sliceV faddrV fieldV iaddrV indexV found extractV allPure appV lenV ownHas ownOk storeC storeV samePtr appcV boxable mapupdV deleteV sliceArrV callV allLt clean bodyEnd resV one finishV runV initR
section
variable {P : Program} {R : Nat → Option Nat} {cx : Cx (Tracks R)} {N : Nat} {hb0 : Heap} {rs : Regs} {h : Heap} {fl : Fl} {g : Gh} {a : Act} {w : World}

structure PreFacts (c : Nat) (os : List Oper) (is : List VI) : Prop where
  le : c ≤ is.length
  one : oneWriter (is.take c) = true
  reads : readsOk (is.take c) (masks os []) 0 (is.take c) = true
  back : backOk 0 os = true
  rest : restOkF c (masks os []) is = true
  eats : eatsOk (is.take c) (is.take c) = true
  nodup : nodupN (eaten (fun _ => true) 0 (is.take c)) = true
theorem preFacts {c : Nat} {os : List Oper} {is : List VI} (hp : preOk0 c os is = true) : PreFacts c os is := by
  simp only [preOk0, Bool.and_eq_true, decide_eq_true_eq] at hp
  exact ⟨hp.1, hp.2.1, hp.2.2.1, hp.2.2.2.1, hp.2.2.2.2.1, hp.2.2.2.2.2.1, hp.2.2.2.2.2.2⟩
theorem reads_same {c : Nat} {os : List Oper} {is : List VI} (hp : PreFacts c os is) {vs : List V} {L : Nat → Bool} {k : Nat} {i : VI} {l : List Nat} (hi : (is.take c)[k]? = some i) (hl : readsAll i = some l) {o : Oper} (ho : os[k]? = some o)
    (hL : ∀ b, ((masks os []).getD k 0).testBit b = true → L b = true) (hlen : vs.length = (is.take c).length) : ∀ r ∈ l, get (mix L 0 (is.take c) vs rs) r = get (mix (fun q => decide (q < 0 + k)) 0 (is.take c) vs rs) r := by
  intro r hr
  obtain ⟨l', hl', hw⟩ := readsOk_at hp.reads k i hi
  rw [hl] at hl'; cases hl'
  simp only [Nat.zero_add] at hw ⊢
  by_cases hex : ∃ (j : Nat) (i' : VI), (is.take c)[j]? = some i' ∧ i'.dst = some r
  · obtain ⟨j, i', hj, hd⟩ := hex
    have hbit := writersIn_at hw j i' r hj hd hr
    simp only [Nat.zero_add] at hbit
    have hlt := bit_lt hp.back ho hbit
    have hjl : j < vs.length := by rw [hlen]; exact (List.getElem?_eq_some_iff.1 hj).1
    have hv : vs[j]? = some vs[j] := by simp [hjl]
    have uniq : ∀ (q : Nat) (i2 : VI), j < q → (is.take c)[q]? = some i2 → i2.dst ≠ some r := fun q i2 hq h2 e => by
      have := oneWriter_at hp.one j q i' i2 r hj h2 hd e
      omega
    rw [mix_some _ vs 0 rs j i' vs[j] hj hv (by simpa using hL j hbit) hd uniq, mix_some _ vs 0 rs j i' vs[j] hj hv (by simpa using hlt) hd uniq]
  · rw [mix_none _ vs 0 rs fun j i' hj _ e => hex ⟨j, i', hj, e⟩, mix_none _ vs 0 rs fun j i' hj _ e => hex ⟨j, i', hj, e⟩]
theorem readsAll_inv {i : VI} {l : List Nat} (hl : readsAll i = some l) : ∃ l', readsOf2 i.op = some l' ∧ (∀ r ∈ l', r ∈ l) ∧ ∀ q b, i.guard = some (q, b) → q ∈ l := by
  unfold readsAll at hl
  obtain ⟨l', h1, hl⟩ := bnd_eq_some hl
  cases hl
  refine ⟨l', h1, fun r hr => ?_, fun q b e => ?_⟩
  · split
    · simp [hr]
    · exact hr
  · rw [e]; simp
theorem mix_congr : ∀ (is : List VI) (vs : List V) (k : Nat) (rs : Regs) (L L' : Nat → Bool), (∀ j, j < is.length → L (k + j) = L' (k + j)) → mix L k is vs rs = mix L' k is vs rs := by
  intro is
  induction is with
  | nil => intro vs k rs L L' _; cases vs <;> rfl
  | cons i is ih =>
    intro vs k rs L L' hLL
    cases vs with
    | nil => rfl
    | cons v vs =>
      simp only [mix]
      have h0 := hLL 0 (by simp)
      simp only [Nat.add_zero] at h0
      rw [h0]
      exact ih vs (k + 1) _ L L' fun j hj => by have := hLL (j + 1) (by simp; omega); rw [show k + 1 + j = k + (j + 1) by omega]; exact this
theorem mem_ownL {L : Nat → Bool} {pre : List VI} {own : Ows} {x : Nat × Nat × Nat} : x ∈ ownL L pre own ↔ (x ∈ own0 pre own ∨ x ∈ toks L 0 pre) ∧ x.1 ∉ eaten L 0 pre := by
  simp only [ownL, List.mem_filter, List.mem_append, Bool.not_eq_true', List.contains_eq_mem, decide_eq_false_iff_not]
theorem own0_dst {pre : List VI} {own : Ows} {x : Nat × Nat × Nat} (hx : x ∈ own0 pre own) {i : VI} (hi : i ∈ pre) : i.dst ≠ some x.1 := by
  simp only [own0, List.mem_filter, List.all_eq_true, decide_eq_true_eq] at hx
  exact hx.2 i hi
theorem nodupN_at {L : Nat → Bool} : ∀ {pre : List VI} {k : Nat}, nodupN (eaten (fun _ => true) k pre) = true → ∀ (j q : Nat) (i i' : VI) (p : Nat), pre[j]? = some i → pre[q]? = some i' → eatenBy i = some p → eatenBy i' = some p → j = q
  | [], _, _, j, q, i, i', p, hi, _, _, _ => by simp at hi
  | i0 :: pre, k, h, j, q, i, i', p, hi, hi', hp, hp' => by
    have tail : nodupN (eaten (fun _ => true) (k + 1) pre) = true := by
      simp only [eaten] at h
      cases he : eatenBy i0 with
      | none => rw [he] at h; exact h
      | some p0 => rw [he] at h; simp only [cnd_true, List.singleton_append, nodupN, Bool.and_eq_true] at h; exact h.2
    have head : ∀ p0, eatenBy i0 = some p0 → p0 ∉ eaten (fun _ => true) (k + 1) pre := fun p0 he => by
      simp only [eaten] at h
      rw [he] at h
      simp only [cnd_true, List.singleton_append, nodupN, Bool.and_eq_true, Bool.not_eq_true', List.contains_eq_mem, decide_eq_false_iff_not] at h
      exact h.1
    cases j with
    | zero =>
      cases q with
      | zero => rfl
      | succ q =>
        simp at hi
        subst hi
        exact absurd (mem_eaten.2 ⟨q, i', by simpa using hi', rfl, hp'⟩) (head p hp)
    | succ j =>
      cases q with
      | zero =>
        simp at hi'
        subst hi'
        exact absurd (mem_eaten.2 ⟨j, i, by simpa using hi, rfl, hp⟩) (head p hp')
      | succ q => rw [nodupN_at (L := L) tail j q i i' p (by simpa using hi) (by simpa using hi') hp hp']
theorem eatsOk_at {pre : List VI} : ∀ {is : List VI}, eatsOk pre is = true → ∀ i ∈ is, ∀ p size bytes s x, i.op = .app (.reg p) size bytes s x → ∃ z, (p, 0, z) ∈ toks (fun _ => true) 0 pre ∧ (z = size ∨ (z = 0 ∧ isLin size = false))
  | [], _, i, hi => by simp at hi
  | i0 :: is, h, i, hi => by
    intro p size bytes s x e
    simp only [eatsOk, Bool.and_eq_true] at h
    rcases List.mem_cons.1 hi with rfl | hi
    · have h1 := h.1
      rw [e] at h1
      simp only [List.any_eq_true, Bool.and_eq_true, Bool.or_eq_true, decide_eq_true_eq, Bool.not_eq_true'] at h1
      obtain ⟨⟨⟨q, o, z⟩, hm, rfl, rfl, hz⟩, hnl⟩ := h1
      exact ⟨z, hm, hz.imp id fun h => ⟨h, hnl⟩⟩
    · exact eatsOk_at h.2 i hi p size bytes s x e
theorem eatsOk_nl {pre : List VI} : ∀ {is : List VI}, eatsOk pre is = true → ∀ i ∈ is, ∀ p size bytes s x, i.op = .app p size bytes s x → isLin size = false
  | [], _, i, hi => by simp at hi
  | i0 :: is, h, i, hi => by
    intro p size bytes s x e
    simp only [eatsOk, Bool.and_eq_true] at h
    rcases List.mem_cons.1 hi with rfl | hi
    · have h1 := h.1
      rw [e] at h1
      cases p with
      | fresh => simpa using h1
      | reg p =>
        simp only [Bool.and_eq_true, Bool.not_eq_true'] at h1
        exact h1.2
    · exact eatsOk_nl h.2 i hi p size bytes s x e
theorem chgOk_at {x : Option (Nat × List Nat)} {M : List Nat} : ∀ {is : List VI} {k : Nat}, chgOk x M k is = true → ∀ (j : Nat) (i : VI), is[j]? = some i →
    match x with
    | none => ∃ l, readsOf i.op = some l
    | some (x, chk) => (k + j = x ∧ ∃ l, readsX i.op = some l) ∨ (k + j ≠ x ∧ (∃ l, readsOf i.op = some l) ∧ (freeOp i.op = true ∨ (M.getD x 0).testBit (k + j) = true ∨ (M.getD (k + j) 0).testBit x = true ∨ k + j ∈ chk))
  | [], _, _, j, i, hi => by simp at hi
  | i0 :: is, k, h, j, i, hi => by
    simp only [chgOk, Bool.and_eq_true] at h
    cases j with
    | succ j =>
      have := chgOk_at h.2 j i (by simpa using hi)
      rw [show k + (j + 1) = k + 1 + j by omega]
      exact this
    | zero =>
      simp at hi
      subst hi
      have h1 := h.1
      cases x with
      | none => exact Option.isSome_iff_exists.1 h1
      | some q =>
        obtain ⟨x, chk⟩ := q
        simp only [Nat.add_zero] at h1 ⊢
        by_cases hk : k = x
        · rw [decide_eq_true hk, cnd_true] at h1
          exact .inl ⟨hk, Option.isSome_iff_exists.1 h1⟩
        · rw [decide_eq_false hk, cnd_false] at h1
          simp only [Bool.and_eq_true, Bool.or_eq_true, List.contains_eq_mem, decide_eq_true_eq] at h1
          exact .inr ⟨hk, Option.isSome_iff_exists.1 h1.1, by
            rcases h1.2 with h | h | h | h
            · exact .inl h
            · exact .inr (.inl h)
            · exact .inr (.inr (.inl h))
            · exact .inr (.inr (.inr h))⟩
end
end Go.Vm

/- A region whose order is open: one operation of the first part. -/
set_option linter.unusedVariables false
set_option linter.unusedSimpArgs false
namespace Go.Vm
attribute [local simp] evalOps_nil evalOps_cons evalOps_consg evalOp_mv evalOp_asg evalOp_pick evalOp_build evalOp_bslice evalOp_load evalOp_nilck evalOp_bin evalOp_un evalOp_conv evalOp_mkfn evalOp_slice evalOp_faddr evalOp_field evalOp_iaddr evalOp_index evalOp_lookup evalOp_extract evalOp_app evalOp_len evalOp_mn evalOp_mx evalOp_alloc evalOp_box evalOp_mkmap evalOp_store evalOp_mapupd evalOp_delete evalOp_sliceArr evalOp_call evalOp_callv evalOp_appc code_skip code_ops code_dops code_seq code_cond code_block code_exit code_ret finish_normal finish_ret
attribute [local simp] V.lt V.ltL V.flat V.pureCell V.pure V.isCell cellEq cellsEq eqV intV shV strV isShift binV unV byteV convV minV maxV foldV foldV1 fillV fillE findV putV delV isKey natOf natOr cut cellsAt mapAt mapOf loadV pickV nilckV sizeOk allSize sliceV faddrV fieldV iaddrV indexV found extractV allPure appV lenV ownHas ownOk storeC storeV samePtr appcV boxable mapupdV deleteV sliceArrV callV allLt clean bodyEnd resV one finishV runV initR

theorem mem_hasOwn {r off sz z : Nat} : ∀ {l : Ows}, (r, off, z) ∈ l → (z = sz ∨ (z = 0 ∧ isLin sz = false)) → hasOwn r off sz l = true
  | [], h, _ => by simp at h
  | (q, o, y) :: l, h, hz => by
    simp only [hasOwn, Bool.or_eq_true, Bool.and_eq_true, decide_eq_true_eq, Bool.not_eq_true']
    rcases List.mem_cons.1 h with e | h
    · cases e; exact .inl ⟨⟨rfl, rfl⟩, hz⟩
    · exact .inr (mem_hasOwn h hz)
theorem tokenOf_inv {i : VI} {x : Nat × Nat × Nat} (h : tokenOf i = some x) : i.dst = some x.1 ∧ i.guard = none := by
  unfold tokenOf at h
  split at h
  · rename_i d h1 h2 h3; cases h; exact ⟨h1, h2⟩
  · rename_i d h1 h2 h3; cases h; exact ⟨h1, h2⟩
  · cases h
theorem alOf_inv {i : VI} {x : Nat × Nat} (h : alOf i = some x) : i.dst = some x.1 ∧ i.guard = none ∧ i.op = .mv (.r x.2) ∧ x.1 ≠ x.2 := by
  unfold alOf at h
  split at h
  · rename_i d p h1 h2 h3
    obtain ⟨hne, h⟩ := cnd_eq_some h
    cases h
    exact ⟨h1, h2, h3, of_decide_eq_true hne⟩
  · cases h
theorem laOf_inv {i : VI} {x : Nat × Nat} (h : laOf i = some x) : i.dst = some x.1 ∧ i.guard = none ∧ i.op = .load false 1 (.r x.2) ∧ x.1 ≠ x.2 := by
  unfold laOf at h
  split at h
  · rename_i d p h1 h2 h3
    obtain ⟨hne, h⟩ := cnd_eq_some h
    cases h
    exact ⟨h1, h2, h3, of_decide_eq_true hne⟩
  · cases h
theorem laOf_nofloat {i : VI} {x : Nat × Nat} (h : laOf i = some x) : floatI i = false := by
  unfold floatI
  rw [(laOf_inv h).2.2.1]
  rfl
theorem mem_laL {L : Nat → Bool} {pre : List VI} {x : Nat × Nat} : x ∈ laL L pre ↔ (pre.all fun i => laStay i.op) = true ∧ x ∈ las L 0 pre := by
  unfold laL
  cases pre.all fun i => laStay i.op
  · simp
  · simp
section
variable {c : Nat} {os : List Oper} {is : List VI} {own : Ows} {L L' : Nat → Bool} {k : Nat} {i : VI}

theorem own_next (hp : PreFacts c os is) (hi : (is.take c)[k]? = some i) (hk : L k = false) (hL' : ∀ q, L' q = (L q || decide (q = k))) {x : Nat × Nat × Nat} (hx : x ∈ ownL L' (is.take c) own) :
    tokenOf i = some x ∨ (x ∈ ownL L (is.take c) own ∧ (∀ d, i.dst = some d → x.1 ≠ d) ∧ eatenBy i ≠ some x.1) := by
  obtain ⟨h1, h2⟩ := mem_ownL.1 hx
  have hkk : L' (0 + k) = true := by rw [hL']; simp
  have heat : eatenBy i ≠ some x.1 := fun e => h2 (mem_eaten.2 ⟨k, i, hi, hkk, e⟩)
  have h3 : x.1 ∉ eaten L 0 (is.take c) := fun h => by
    obtain ⟨j, i', hj, hl, he⟩ := mem_eaten.1 h
    exact h2 (mem_eaten.2 ⟨j, i', hj, by rw [hL', hl]; rfl, he⟩)
  rcases h1 with h1 | h1
  · exact .inr ⟨mem_ownL.2 ⟨.inl h1, h3⟩, fun d e e2 => own0_dst h1 (List.mem_of_getElem? hi) (by rw [e, e2]), heat⟩
  · obtain ⟨j, i', hj, hl, he⟩ := mem_toks.1 h1
    by_cases hjk : j = k
    · subst hjk
      rw [hi] at hj; cases hj
      exact .inl he
    · rw [hL', Nat.zero_add] at hl
      have hl' : L j = true := by simpa [hjk] using hl
      refine .inr ⟨mem_ownL.2 ⟨.inr (mem_toks.2 ⟨j, i', hj, by simpa using hl', he⟩), h3⟩, fun d e e2 => hjk ?_, heat⟩
      exact oneWriter_at hp.one j k i' i x.1 hj hi (tokenOf_inv he).1 (by rw [e, e2])
theorem al_next (hp : PreFacts c os is) (hi : (is.take c)[k]? = some i) (hk : L k = false) (hL' : ∀ q, L' q = (L q || decide (q = k))) (hcl : ∀ j, L j = true → ∀ b, ((masks os []).getD j 0).testBit b = true → L b = true) {x : Nat × Nat} (hx : x ∈ als L' 0 (is.take c)) :
    alOf i = some x ∨ (x ∈ als L 0 (is.take c) ∧ ∀ d, i.dst = some d → x.1 ≠ d ∧ x.2 ≠ d) := by
  obtain ⟨j, i', hj, hl, he⟩ := mem_als.1 hx
  by_cases hjk : j = k
  · subst hjk
    rw [hi] at hj; cases hj
    exact .inl he
  · rw [hL', Nat.zero_add] at hl
    have hl' : L j = true := by simpa [hjk] using hl
    obtain ⟨e1, e2, e3, e4⟩ := alOf_inv he
    refine .inr ⟨mem_als.2 ⟨j, i', hj, by simpa using hl', he⟩, fun d e => ⟨fun e5 => hjk (oneWriter_at hp.one j k i' i x.1 hj hi e1 (by rw [e, e5])), fun e5 => ?_⟩⟩
    obtain ⟨l, hl2, hw⟩ := readsOk_at hp.reads j i' hj
    have hm : x.2 ∈ l := by
      obtain ⟨l', h1, h2, _⟩ := readsAll_inv hl2
      rw [e3] at h1
      cases h1
      exact h2 _ (by simp [argRegs])
    have hbit := writersIn_at hw k i x.2 hi (by rw [e, e5]) hm
    simp only [Nat.zero_add] at hbit
    have := hcl j hl' k hbit
    rw [hk] at this; cases this
theorem la_next (hp : PreFacts c os is) (hi : (is.take c)[k]? = some i) (hk : L k = false) (hL' : ∀ q, L' q = (L q || decide (q = k))) (hcl : ∀ j, L j = true → ∀ b, ((masks os []).getD j 0).testBit b = true → L b = true) {x : Nat × Nat} (hx : x ∈ laL L' (is.take c)) :
    laStay i.op = true ∧ (laOf i = some x ∨ (x ∈ laL L (is.take c) ∧ ∀ d, i.dst = some d → x.1 ≠ d ∧ x.2 ≠ d)) := by
  obtain ⟨hall, hx⟩ := mem_laL.1 hx
  refine ⟨List.all_eq_true.1 hall i (List.mem_of_getElem? hi), ?_⟩
  obtain ⟨j, i', hj, hl, he⟩ := mem_las.1 hx
  by_cases hjk : j = k
  · subst hjk
    rw [hi] at hj; cases hj
    exact .inl he
  · rw [hL', Nat.zero_add] at hl
    have hl' : L j = true := by simpa [hjk] using hl
    obtain ⟨e1, e2, e3, e4⟩ := laOf_inv he
    refine .inr ⟨mem_laL.2 ⟨hall, mem_las.2 ⟨j, i', hj, by simpa using hl', he⟩⟩, fun d e => ⟨fun e5 => hjk (oneWriter_at hp.one j k i' i x.1 hj hi e1 (by rw [e, e5])), fun e5 => ?_⟩⟩
    obtain ⟨l, hl2, hw⟩ := readsOk_at hp.reads j i' hj
    have hm : x.2 ∈ l := by
      obtain ⟨l', h1, h2, _⟩ := readsAll_inv hl2
      rw [e3] at h1
      cases h1
      exact h2 _ (by simp [argRegs])
    have hbit := writersIn_at hw k i x.2 hi (by rw [e, e5]) hm
    simp only [Nat.zero_add] at hbit
    have := hcl j hl' k hbit
    rw [hk] at this; cases this
theorem eats_there (hp : PreFacts c os is) (hi : (is.take c)[k]? = some i) (hk : L k = false) (hanc : ∀ b, ((masks os []).getD k 0).testBit b = true → L b = true) {p size bytes : Nat} {s x : Arg} (he : i.op = .app (.reg p) size bytes s x) : hasOwn p 0 size (ownL L (is.take c) own) = true := by
  obtain ⟨z, hz, hzs⟩ := eatsOk_at hp.eats i (List.mem_of_getElem? hi) p size bytes s x he
  obtain ⟨j, i', hj, _, ht⟩ := mem_toks.1 hz
  obtain ⟨l, hl2, hw⟩ := readsOk_at hp.reads k i hi
  have hm : p ∈ l := by
    obtain ⟨l', h1, h2, _⟩ := readsAll_inv hl2
    rw [he] at h1
    refine h2 p ?_
    cases s with
    | c v => cases h1
    | r t =>
      unfold readsOf2 at h1
      split at h1
      · rename_i h4
        cases h1
        simp only [readsOf] at h4
        obtain ⟨_, h4⟩ := cnd_eq_some h4
        cases h4
        simp
      · cases h1
  have hbit := writersIn_at hw j i' p hj (tokenOf_inv ht).1 hm
  simp only [Nat.zero_add] at hbit
  have hLj := hanc j hbit
  refine mem_hasOwn (z := z) (mem_ownL.2 ⟨.inr (mem_toks.2 ⟨j, i', hj, by simpa using hLj, ht⟩), fun h => ?_⟩) hzs
  obtain ⟨q, i2, hq, hl, he2⟩ := mem_eaten.1 h
  have hqk := nodupN_at (L := L) hp.nodup q k i2 i p hq hi he2 (by simp [eatenBy, he])
  subst hqk
  rw [Nat.zero_add] at hl
  rw [hk] at hl; cases hl
end
end Go.Vm

/- A region whose order is open: the rest in order, while some of the first part's operations on registers alone are still to come. -/
set_option linter.unusedVariables false
set_option linter.unusedSimpArgs false
namespace Go.Vm

def Ow.freeB (d : Nat) (S : Ow) : Bool :=
  S.own.all (fun x => decide (x.1 ≠ d)) && (S.al.all (fun x => decide (x.1 ≠ d) && decide (x.2 ≠ d)) && (S.la.all (fun x => decide (x.1 ≠ d) && decide (x.2 ≠ d)) && pdFree d S.pd))
structure Ow.Free (d : Nat) (S : Ow) : Prop where
  own : ∀ x ∈ S.own, x.1 ≠ d
  al : ∀ x ∈ S.al, x.1 ≠ d ∧ x.2 ≠ d
  la : ∀ x ∈ S.la, x.1 ≠ d ∧ x.2 ≠ d
  pd : pdFree d S.pd = true
variable {R : Nat → Option Nat} {S T : Ow} {d : Nat}
theorem kill_free (h : S.Free d) : S.kill (some d) = some S := by
  obtain ⟨h1, h2, h3, h4⟩ := h
  have e1 : offReg d S.own = S.own := by
    unfold offReg
    rw [List.filter_eq_self]
    intro x hx
    simpa using h1 x hx
  have e2 : offPair d S.al = S.al := by
    unfold offPair
    rw [List.filter_eq_self]
    intro x hx
    simpa using h2 x hx
  have e3 : offPair d S.la = S.la := by
    unfold offPair
    rw [List.filter_eq_self]
    intro x hx
    simpa using h3 x hx
  simp only [Ow.kill, h4, cnd_true, e1, e2, e3]
theorem kill_keeps {dst : Option Nat} (hk : S.kill dst = some T) (hf : S.Free d) : T.Free d := by
  cases dst with
  | none => cases kill_none hk; exact hf
  | some q =>
    obtain ⟨_, rfl⟩ := kill_some hk
    exact ⟨fun x hx => hf.own x ((List.mem_filter.1 hx).1), fun x hx => hf.al x ((List.mem_filter.1 hx).1), fun x hx => hf.la x ((List.mem_filter.1 hx).1), hf.pd⟩
theorem Ow.Free.addOwn {dst : Option Nat} (h : S.Free d) (hd : dst ≠ some d) (off sz : Nat) : (addOwn dst off sz S).Free d := by
  cases dst with
  | none => exact h
  | some q =>
    refine ⟨fun x hx => ?_, h.al, h.la, h.pd⟩
    rcases List.mem_cons.1 hx with rfl | hx
    · exact fun e => hd (by rw [← e])
    · exact h.own x hx
theorem Ow.Free.offLa (h : S.Free d) : (offLa S).Free d := ⟨h.own, h.al, fun x hx => by simp [Go.Vm.offLa] at hx, h.pd⟩
theorem Ow.Free.offReg (h : S.Free d) (p : Nat) : Ow.Free d { S with own := offReg p S.own } := ⟨fun x hx => h.own x ((List.mem_filter.1 hx).1), h.al, h.la, h.pd⟩
theorem step1_free {dst : Option Nat} {op : VOp} (hs : S.step1 R dst op = some T) (hf : S.Free d) (hd : dst ≠ some d) {l : List Nat} (hl : readsOf2 op = some l) (hr : d ∉ l) : T.Free d := by
  cases op with
  | mv x =>
    cases x with
    | r p =>
      have hp : p ≠ d := fun e => hr (by simp only [readsOf2, readsOf, argRegs, Option.some.injEq] at hl; subst hl e; simp)
      simp only [Ow.step1] at hs
      obtain ⟨T0, hk, hs⟩ := bnd_eq_some hs
      have h0 := kill_keeps hk hf
      cases dst with
      | none => cases hs; exact h0
      | some q =>
        simp only at hs
        have hq : q ≠ d := fun e => hd (by rw [e])
        cases hqp : decide (q = p) <;> rw [hqp] at hs <;> cases hs
        · refine ⟨h0.own, fun x hx => ?_, h0.la, h0.pd⟩
          rcases List.mem_cons.1 hx with rfl | hx
          · exact ⟨hq, hp⟩
          · exact h0.al x hx
        · exact h0
    | c v =>
      simp only [Ow.step1] at hs
      obtain ⟨T0, hk, hs⟩ := bnd_eq_some hs
      have h0 := kill_keeps hk hf
      cases hn : isNilArg (.c v) <;> rw [hn] at hs <;> cases hs
      · exact h0
      · exact h0.addOwn hd 0 0
  | load b n x =>
    have plain : S.kill dst = some T → T.Free d := fun hk => kill_keeps hk hf
    cases b with
    | true => exact plain hs
    | false =>
      cases x with
      | c v =>
        refine plain ?_
        have : Ow.step1 R S dst (.load false n (.c v)) = S.kill dst := by
          unfold Ow.step1
          split <;> simp_all
        rw [← this]; exact hs
      | r p =>
        by_cases hn : n = 1
        · subst hn
          have hp : p ≠ d := fun e => hr (by simp only [readsOf2, readsOf, argRegs, Option.some.injEq] at hl; subst hl e; simp)
          simp only [Ow.step1] at hs
          obtain ⟨T0, hk, hs⟩ := bnd_eq_some hs
          have h0 := kill_keeps hk hf
          cases dst with
          | none => cases hs; exact h0
          | some q =>
            simp only at hs
            have hq : q ≠ d := fun e => hd (by rw [e])
            cases hqp : decide (q = p) <;> rw [hqp] at hs <;> cases hs
            · refine ⟨h0.own, h0.al, fun x hx => ?_, h0.pd⟩
              rcases List.mem_cons.1 hx with rfl | hx
              · exact ⟨hq, hp⟩
              · exact h0.la x hx
            · exact h0
        · refine plain ?_
          have : Ow.step1 R S dst (.load false n (.r p)) = S.kill dst := by
            unfold Ow.step1
            split <;> simp_all
          rw [← this]; exact hs
  | bslice z k n ps =>
    simp only [Ow.step1] at hs
    obtain ⟨_, hs⟩ := cnd_eq_some hs
    obtain ⟨T0, hk, hs⟩ := bnd_eq_some hs
    cases hs
    exact (kill_keeps hk hf).addOwn hd 0 0
  | alloc cs own =>
    simp only [Ow.step1] at hs
    obtain ⟨_, hs⟩ := cnd_eq_some hs
    exact kill_keeps hs hf
  | store n p x own q =>
    cases own with
    | cons _ _ => simp [readsOf2, readsOf, readsX] at hl
    | nil =>
      cases q with
      | some _ => simp [readsOf2, readsOf, readsX] at hl
      | none =>
        cases x with
        | r t =>
          simp only [Ow.step1] at hs
          obtain ⟨_, hs⟩ := cnd_eq_some hs
          obtain ⟨T0, hk, hs⟩ := bnd_eq_some hs
          cases hs
          exact (kill_keeps hk hf).offLa
        | c v =>
          simp only [Ow.step1] at hs
          obtain ⟨_, hs⟩ := cnd_eq_some hs
          obtain ⟨T0, hk, hs⟩ := bnd_eq_some hs
          cases hs
          exact (kill_keeps hk hf).offLa
  | call q f xs =>
    simp only [Ow.step1] at hs
    obtain ⟨_, hs⟩ := cnd_eq_some hs
    obtain ⟨T0, hk, hs⟩ := bnd_eq_some hs
    have h0 := (kill_keeps hk hf).offLa
    cases hRf : R f with
    | none => rw [hRf] at hs; cases hs; exact h0
    | some sz =>
      rw [hRf] at hs
      simp only [Option.some.injEq] at hs
      subst hs
      cases isLin sz
      · exact h0.addOwn hd 0 sz
      · exact h0
  | callv q x xs =>
    simp only [Ow.step1] at hs
    obtain ⟨_, hs⟩ := cnd_eq_some hs
    obtain ⟨T0, hk, hs⟩ := bnd_eq_some hs
    cases hs
    exact (kill_keeps hk hf).offLa
  | app p size bytes s x =>
    cases p with
    | fresh =>
      simp only [Ow.step1] at hs
      obtain ⟨_, hs⟩ := cnd_eq_some hs
      obtain ⟨T0, hk, hs⟩ := bnd_eq_some hs
      cases hs
      exact ((kill_keeps hk hf).offLa).addOwn hd 0 size
    | reg p =>
      cases s with
      | c v => simp [readsOf2, readsOf, readsX] at hl
      | r t =>
        simp only [Ow.step1] at hs
        obtain ⟨_, hs⟩ := cnd_eq_some hs
        obtain ⟨T0, hk, hs⟩ := bnd_eq_some hs
        cases hs
        exact (((kill_keeps hk hf).offReg p).offLa).addOwn hd 0 size
  | conv k x =>
    cases k with
    | bytesOfStr => simp [readsOf2, readsOf, readsX] at hl
    | _ => exact kill_keeps hs hf
  | asg x => simp [readsOf2, readsOf, readsX] at hl
  | _ => first | exact kill_keeps hs hf | (exfalso; simp [readsOf2, readsOf, readsX] at hl)
theorem evalOp_congrK {C : Callee} {fb lb : Nat} {rs rs' : Regs} {h : Heap} {op : VOp} {l : List Nat} (hl : readsOfK op = some l) (hr : ∀ r ∈ l, get rs r = get rs' r) : evalOp C fb lb rs h op = evalOp C fb lb rs' h op := by
  by_cases hop : ∃ a n m s x, op = .appc a n m s x
  · obtain ⟨a, n, m, s, x, rfl⟩ := hop
    cases hl
    simp only [evalOp]
    rw [hr a (by simp), val_congr (x := s) fun r h => hr r (by simp [h]), val_congr (x := x) fun r h => hr r (by simp [h])]
  · unfold readsOfK at hl
    split at hl
    · exact absurd ⟨_, _, _, _, _, rfl⟩ hop
    · rename_i n m s x
      cases hl
      simp only [evalOp]
      rw [val_congr (x := s) fun r h => hr r (by simp [h]), val_congr (x := x) fun r h => hr r (by simp [h])]
    · exact evalOp_congr2 (l := l) hl hr
theorem step1_freeK {dst : Option Nat} {op : VOp} (hs : S.step1 R dst op = some T) (hf : S.Free d) (hd : dst ≠ some d) {l : List Nat} (hl : readsOfK op = some l) (hr : d ∉ l) : T.Free d := by
  by_cases hop : ∃ a n m s x, op = .appc a n m s x
  · obtain ⟨a, n, m, s, x, rfl⟩ := hop
    cases hl
    cases s with
    | c v => simp [Ow.step1] at hs
    | r t =>
      cases dst with
      | none => simp [Ow.step1] at hs
      | some q =>
        simp only [Ow.step1] at hs
        obtain ⟨_, hs⟩ := cnd_eq_some hs
        obtain ⟨T0, hk, hs⟩ := bnd_eq_some hs
        cases hs
        have h0 := ((kill_keeps hk hf).offLa).addOwn hd 0 n
        have hq : q ≠ d := fun e => hd (by rw [e])
        have ha : a ≠ d := fun e => hr (by simp [e])
        exact ⟨h0.own, h0.al, h0.la, by simp [pdFree, hq, ha]⟩
  · unfold readsOfK at hl
    split at hl
    · exact absurd ⟨_, _, _, _, _, rfl⟩ hop
    · simp only [Ow.step1] at hs
      obtain ⟨_, hs⟩ := cnd_eq_some hs
      obtain ⟨T0, hk, hs⟩ := bnd_eq_some hs
      cases hs
      exact (kill_keeps hk hf).offLa
    · exact step1_free hs hf hd (l := l) hl hr
section
variable {P : Program}
theorem trIs_at {ops : Array Oper} : ∀ {os : List Oper} {is gs : List VI}, trIs P ops os gs = some is → ∀ (j : Nat) (o : Oper), os[j]? = some o → ∃ i g0, is[j]? = some i ∧ trI P ops o g0 = some i
  | [], _, _, _, j, o, h => by simp at h
  | o0 :: os, is, [], ht, _, _, _ => by cases ht
  | o0 :: os, is, g0 :: gs, ht, j, o, h => by
    simp only [trIs] at ht
    obtain ⟨i, h1, ht⟩ := bnd_eq_some ht
    obtain ⟨l, h2, ht⟩ := bnd_eq_some ht
    cases ht
    cases j with
    | zero => simp at h; subst h; exact ⟨i, g0, rfl, h1⟩
    | succ j => simpa using trIs_at h2 j o (by simpa using h)
theorem trIs_len {ops : Array Oper} : ∀ {os : List Oper} {is gs : List VI}, trIs P ops os gs = some is → is.length = os.length ∧ gs.length = os.length
  | [], is, [], ht => by cases ht; exact ⟨rfl, rfl⟩
  | [], is, _ :: _, ht => by cases ht
  | o0 :: os, is, [], ht => by cases ht
  | o0 :: os, is, g0 :: gs, ht => by
    simp only [trIs] at ht
    obtain ⟨i, h1, ht⟩ := bnd_eq_some ht
    obtain ⟨l, h2, ht⟩ := bnd_eq_some ht
    cases ht
    have := trIs_len h2
    simp [this.1, this.2]
theorem trI_dst {ops : Array Oper} {o : Oper} {g0 i : VI} (h : trI P ops o g0 = some i) : i.dst = o.dst := by
  simp only [trI] at h
  obtain ⟨gd, _, h⟩ := bnd_eq_some h
  obtain ⟨op, _, h⟩ := bnd_eq_some h
  cases h; rfl

end
theorem floatI_inv {i : VI} (h : floatI i = true) : freeOp i.op = true ∧ i.guard = none ∧ (∃ l, readsOf i.op = some l) ∧ tokenOf i = none ∧ (∃ d, i.dst = some d) := by
  simp only [floatI, Bool.and_eq_true, Option.isNone_iff_eq_none, Option.isSome_iff_exists] at h
  exact ⟨h.1, h.2.1, h.2.2.1, h.2.2.2.1, h.2.2.2.2.2⟩
theorem floatP_inv {c : Nat} {is : List VI} {i : VI} (h : floatP c is i = true) : floatI i = true ∧ ∀ x, alOf i = some x → keepD c is x.1 = false := by
  simp only [floatP, Bool.and_eq_true] at h
  refine ⟨h.1, fun x hx => ?_⟩
  have h2 := h.2
  rw [hx] at h2
  simpa using h2
theorem step1_float {i : VI} (h : floatI i = true) (hd : i.dst = some d) (hf : S.Free d) : ∃ T, S.step1 R i.dst i.op = some T ∧ (∀ x ∈ S.own, x ∈ T.own) ∧ (∀ x ∈ S.al, x ∈ T.al) ∧ (∀ x ∈ S.la, x ∈ T.la) ∧ S.pd = T.pd := by
  obtain ⟨h1, h2, ⟨l, h3⟩, h4, _⟩ := floatI_inv h
  obtain ⟨dst, gd, op⟩ := i
  simp only at h1 h2 h3 hd
  subst hd h2
  have hk := kill_free hf
  have same : S.step1 R (some d) op = S.kill (some d) → ∃ T, S.step1 R (some d) op = some T ∧ (∀ x ∈ S.own, x ∈ T.own) ∧ (∀ x ∈ S.al, x ∈ T.al) ∧ (∀ x ∈ S.la, x ∈ T.la) ∧ S.pd = T.pd := fun e => ⟨S, e.trans hk, fun _ h => h, fun _ h => h, fun _ h => h, rfl⟩
  cases op with
  | mv x =>
    cases x with
    | r p =>
      cases hdp : decide (d = p) with
      | false =>
        refine ⟨{ S with al := (d, p) :: S.al }, ?_, fun _ h => h, fun _ h => List.mem_cons_of_mem _ h, fun _ h => h, rfl⟩
        simp only [Ow.step1, hk, bnd_some]
        rw [hdp]
        rfl
      | true =>
        refine ⟨S, ?_, fun _ h => h, fun _ h => h, fun _ h => h, rfl⟩
        simp only [Ow.step1, hk, bnd_some]
        rw [hdp]
        rfl
    | c v =>
      simp only [Ow.step1, hk, bnd_some]
      cases isNilArg (.c v)
      · exact ⟨S, rfl, fun _ h => h, fun _ h => h, fun _ h => h, rfl⟩
      · exact ⟨_, rfl, fun _ h => List.mem_cons_of_mem _ h, fun _ h => h, fun _ h => h, rfl⟩
  | bslice z k n ps => simp [tokenOf] at h4
  | app p size bytes s x => simp [tokenOf] at h4
  | conv k x =>
    cases k with
    | bytesOfStr => cases h3
    | _ => exact same rfl
  | len k x => exact same rfl
  | _ => first | exact same rfl | (exfalso; simp [freeOp] at h1)
section
variable {P : Program} {cx : Cx (Tracks R)} {N : Nat} {hb0 : Heap}
theorem restF_at {c : Nat} {M : List Nat} {is : List VI} (h : restOkF c M is = true) {k j : Nat} (hk : k < is.length) (hc : c ≤ k) (hj : j < k) : (M.getD k 0).testBit j = true ∨ (j < c ∧ ∃ ij ik, is[j]? = some ij ∧ is[k]? = some ik ∧ floatP c is ij = true ∧ relOk ij ik = true) := by
  simp only [restOkF, List.all_eq_true, List.mem_range, Bool.or_eq_true, Bool.and_eq_true, decide_eq_true_eq] at h
  rcases h k hk with h | h
  · omega
  · rcases h j hj with h | ⟨h1, h2⟩
    · exact .inl h
    · refine .inr ⟨h1, ?_⟩
      split at h2
      · rename_i ij ik e1 e2
        simp only [Bool.and_eq_true] at h2
        exact ⟨ij, ik, e1, e2, h2.1, h2.2⟩
      · cases h2
theorem relOk_inv {ij ik : VI} (h : relOk ij ik = true) : floatI ij = true ∧ ∃ d lj lk, ij.dst = some d ∧ readsAll ij = some lj ∧ readsAllK ik = some lk ∧ d ∉ lk ∧ ∀ dk, ik.dst = some dk → dk ≠ d ∧ dk ∉ lj := by
  simp only [relOk, Bool.and_eq_true] at h
  obtain ⟨h1, h⟩ := h
  refine ⟨h1, ?_⟩
  split at h
  · rename_i d lj lk e1 e2 e3
    simp only [Bool.and_eq_true, Bool.not_eq_true', List.contains_eq_mem, decide_eq_false_iff_not] at h
    refine ⟨d, lj, lk, e1, e2, e3, h.1, fun dk e4 => ?_⟩
    have h2 := h.2
    rw [e4] at h2
    simp only [Bool.and_eq_true, decide_eq_true_eq, Bool.not_eq_true', List.contains_eq_mem, decide_eq_false_iff_not] at h2
    exact h2
  · cases h
theorem readsAllK_inv {i : VI} {l : List Nat} (hl : readsAllK i = some l) : ∃ l', readsOfK i.op = some l' ∧ (∀ r ∈ l', r ∈ l) ∧ ∀ q b, i.guard = some (q, b) → q ∈ l := by
  unfold readsAllK at hl
  obtain ⟨l', h1, hl⟩ := bnd_eq_some hl
  cases hl
  refine ⟨l', h1, fun r hr => ?_, fun q b e => ?_⟩
  · split
    · simp [hr]
    · exact hr
  · rw [e]; simp
theorem readsAll_guard {i : VI} {l : List Nat} (hl : readsAllK i = some l) {rs rs' : Regs} (h : ∀ r ∈ l, get rs r = get rs' r) : wanted rs i.guard = wanted rs' i.guard := by
  obtain ⟨l', _, _, hg⟩ := readsAllK_inv hl
  cases hgd : i.guard with
  | none => rfl
  | some q =>
    obtain ⟨q1, q2⟩ := q
    simp only [wanted]
    rw [h q1 (hg q1 q2 hgd)]
theorem Ow.step_free {i : VI} (hs : S.step R i = some T) (hf : S.Free d) (hd : i.dst ≠ some d) {l : List Nat} (hl : readsAllK i = some l) (hr : d ∉ l) : T.Free d := by
  obtain ⟨l', h1, h2, _⟩ := readsAllK_inv hl
  have hr' : d ∉ l' := fun h => hr (h2 d h)
  unfold Ow.step at hs
  split at hs
  · exact step1_freeK hs hf hd h1 hr'
  · obtain ⟨S1, a1, hs⟩ := bnd_eq_some hs
    obtain ⟨S0, a2, hs⟩ := bnd_eq_some hs
    obtain ⟨S2, a3, hs⟩ := bnd_eq_some hs
    obtain ⟨_, hs⟩ := cnd_eq_some hs
    cases hs
    exact kill_keeps a3 (step1_freeK a1 hf hd h1 hr')
theorem restF_ok {C : Callee} {ops : Array Oper} (hC : FnOk P R C) {c : Nat} {is : List VI} (htr : ∀ (j : Nat) (o : Oper), ops.toList[j]? = some o → ∃ i g0, is[j]? = some i ∧ trI P ops o g0 = some i) (hlen : is.length = ops.size) (hback : backOk 0 ops.toList = true)
    (hrest : restOkF c (masks ops.toList []) is = true) (hone : oneWriter (is.take c) = true) (hreads : readsOk (is.take c) (masks ops.toList []) 0 (is.take c) = true) (hln : ∀ i ∈ is, linOkV P i.op) (hd : ∀ o ∈ ops.toList, ∀ x, o.dst = some x → x < N)
    {Q : Exit → Act → World → Prop} {rs' : Regs} {h' : Heap} {fl' : Fl} {T : Ow} :
    ∀ (fuel m : Nat) (S : Ow) (rs ρ : Regs) (h : Heap) (fl : Fl) (g : Gh) (a : Act) (w : World) (listed : Array Bool), c ≤ m → m ≤ ops.size → listed.size = ops.size → (∀ k, c ≤ k → listed.getD k false = decide (k < m)) →
      (∀ k o, ops.toList[k]? = some o → listed.getD k false = true → ∀ j ∈ bindsOn o, listed.getD j false = true) →
      Inv cx N hb0 S ρ h fl g a w → Ow.steps R (is.drop m) S = some T → evalOps C cx.n0 hb0.length (is.drop m) rs h fl = some (rs', h', fl') →
      ((∃ j, j < c ∧ listed.getD j false = false) ∨ ρ = rs) →
      (∀ r, (∀ (j : Nat) (i : VI), j < c → listed.getD j false = false → is[j]? = some i → i.dst ≠ some r) → get ρ r = get rs r) →
      (∀ j, j < c → listed.getD j false = false → ∃ i d v, is[j]? = some i ∧ floatI i = true ∧ i.dst = some d ∧ get rs d = v ∧ S.Free d ∧ ∀ hh, evalOp C cx.n0 hb0.length rs hh i.op = some (v, hh, .no)) →
      ((List.range ops.size).filter fun k => !listed.getD k false).length ≤ fuel → (∀ g' a' w', GLe g g' → Inv cx N hb0 T rs' h' fl' g' a' w' → Q .normal a' w') → wpAny P .any ops Q fuel listed a w := by
  have bits : ∀ (listed : Array Bool), (∀ k o, ops.toList[k]? = some o → listed.getD k false = true → ∀ j ∈ bindsOn o, listed.getD j false = true) → ∀ (k : Nat) (o : Oper), ops.toList[k]? = some o → (∀ j ∈ bindsOn o, listed.getD j false = true) → ∀ b, ((masks ops.toList []).getD k 0).testBit b = true → listed.getD b false = true := fun listed hcl k o ho hj b hb =>
    mask_closed (L := fun k => listed.getD k false) hcl k o ho hj b hb
  -- all stands
  have done : ∀ (fuel m : Nat) (S : Ow) (rs ρ : Regs) (h : Heap) (fl : Fl) (g : Gh) (a : Act) (w : World) (listed : Array Bool), m ≤ ops.size → listed.size = ops.size → (∀ k, c ≤ k → listed.getD k false = decide (k < m)) → (∀ k, k < ops.size → listed.getD k false = true) → c ≤ m →
      Inv cx N hb0 S ρ h fl g a w → Ow.steps R (is.drop m) S = some T → evalOps C cx.n0 hb0.length (is.drop m) rs h fl = some (rs', h', fl') → ((∃ j, j < c ∧ listed.getD j false = false) ∨ ρ = rs) → (∀ g' a' w', GLe g g' → Inv cx N hb0 T rs' h' fl' g' a' w' → Q .normal a' w') → wpAny P .any ops Q fuel listed a w := by
    intro fuel m S rs ρ h fl g a w listed hm hsz hl hall hcm hi hs he hρ hQ
    have hmn : m = ops.size := by
      rcases Nat.lt_or_ge m ops.size with h1 | h1
      · have h2 := hall m h1
        rw [hl m hcm] at h2
        simp at h2
      · omega
    have hdrop : is.drop m = [] := List.drop_of_length_le (by omega)
    rw [hdrop] at hs he
    cases hs
    cases he
    have hρ' : ρ = rs' := by
      rcases hρ with ⟨j, h1, h2⟩ | h1
      · rw [hall j (by omega)] at h2; cases h2
      · exact h1
    subst hρ'
    refine wpAny_done ?_ (hQ g a w (GLe.refl g) hi) fuel
    cases hr : Region.ready .any ops listed with
    | nil => rfl
    | cons j l =>
      exfalso
      have hj : j ∈ Region.ready .any ops listed := by rw [hr]; simp
      obtain ⟨h1, o, ho, _⟩ := mem_ready.1 hj
      have hjs : j < ops.size := (Array.getElem?_eq_some_iff.1 ho).1
      have h2 := hall j hjs
      have hj2 : j < listed.size := by omega
      simp [Array.getD, hj2] at h1 h2
      rw [h1] at h2; cases h2
  intro fuel
  induction fuel with
  | zero =>
    intro m S rs ρ h fl g a w listed hcm hm hsz hl hcl hi hs he hρ hreg hpen hcnt hQ
    refine done 0 m S rs ρ h fl g a w listed hm hsz hl (fun k hk => ?_) hcm hi hs he hρ hQ
    cases hk2 : listed.getD k false with
    | true => rfl
    | false =>
      have hmem : k ∈ (List.range ops.size).filter fun k => !listed.getD k false := by
        rw [List.mem_filter]
        exact ⟨by simp; omega, by rw [hk2]; rfl⟩
      have : 0 < ((List.range ops.size).filter fun k => !listed.getD k false).length := List.length_pos_of_mem hmem
      omega
  | succ fuel ih =>
    intro m S rs ρ h fl g a w listed hcm hm hsz hl hcl hi hs he hρ hreg hpen hcnt hQ
    by_cases hall : ∀ k, k < ops.size → listed.getD k false = true
    · exact done (fuel + 1) m S rs ρ h fl g a w listed hm hsz hl hall hcm hi hs he hρ hQ
    have hex : ∃ k, k < ops.size ∧ listed.getD k false = false := Classical.byContradiction fun hno => hall fun k hk => by
      cases hk2 : listed.getD k false with
      | true => rfl
      | false => exact absurd ⟨k, hk, hk2⟩ hno
    have hready : ∀ n, ∀ k, k < n → k < ops.size → listed.getD k false = false → ∃ q, q ∈ Region.ready .any ops listed := by
      intro n
      induction n with
      | zero => intro k hk; omega
      | succ n ihn =>
        intro k hk hks hku
        by_cases hlow : ∃ q, q < k ∧ listed.getD q false = false
        · obtain ⟨q, hq, hqu⟩ := hlow
          exact ihn q (by omega) (by omega) hqu
        · refine ⟨k, mem_ready.2 ⟨?_, ops[k], by simp [hks], fun e he hb => ?_⟩⟩
          · have hk2 : k < listed.size := by omega
            simpa [Array.getD, hk2] using hku
          · have hlt := backOk_at ops.toList 0 k ops[k] hback (by simp [hks]) e.on (mem_bindsOn.2 ⟨e, he, hb, rfl⟩)
            cases hq : listed.getD e.on false with
            | true => rfl
            | false => exact absurd ⟨e.on, by omega, hq⟩ hlow
    refine ⟨fun h0 => ?_, fun k hk => ?_⟩
    · obtain ⟨k, hks, hku⟩ := hex
      obtain ⟨q, hq⟩ := hready (k + 1) k (by omega) hks hku
      rw [h0] at hq
      simp at hq
    · obtain ⟨hku, o, ho, hbef⟩ := mem_ready.1 hk
      have hks : k < ops.size := (Array.getElem?_eq_some_iff.1 ho).1
      have hks2 : k < listed.size := by omega
      have hku' : listed.getD k false = false := by simpa [Array.getD, hks2] using hku
      have hol : ops.toList[k]? = some o := by simpa using ho
      have hbj : ∀ j ∈ bindsOn o, listed.getD j false = true := fun j hj => by
        obtain ⟨e, he, hb', rfl⟩ := mem_bindsOn.1 hj
        exact hbef e he hb'
      have hanc := bits listed hcl k o hol hbj
      obtain ⟨i, g1, hik, htri⟩ := htr k o hol
      have hdst := trI_dst htri
      have hL' : ∀ q, (listed.setIfInBounds k true).getD q false = (listed.getD q false || decide (q = k)) := fun q => by
        by_cases hq : k = q
        · subst hq; rw [getD_set_self hks2]; simp
        · rw [getD_set_ne false hq]; simp [Ne.symm hq]
      have hcl' : ∀ q o, ops.toList[q]? = some o → (listed.setIfInBounds k true).getD q false = true → ∀ j ∈ bindsOn o, (listed.setIfInBounds k true).getD j false = true := fun q o' ho' hq j hj => by
        rw [hL'] at hq ⊢
        simp only [Bool.or_eq_true, decide_eq_true_eq] at hq ⊢
        rcases hq with hq | rfl
        · exact .inl (hcl q o' ho' hq j hj)
        · rw [hol] at ho'; cases ho'
          exact .inl (hbj j hj)
      have hcnt' : ((List.range ops.size).filter fun q => !(listed.setIfInBounds k true).getD q false).length ≤ fuel := by
        have := filter_lt (L := fun q => listed.getD q false) (L' := fun q => (listed.setIfInBounds k true).getD q false) (i := k) (fun q hq => by rw [hL', hq]; rfl) hku' (getD_set_self hks2) (l := List.range ops.size) (by simp [hks])
        omega
      have hdN : ∀ x, o.dst = some x → x < N := hd o (List.mem_of_getElem? hol)
      have hlni := hln i (List.mem_of_getElem? hik)
      have pend' : ∀ j, (listed.setIfInBounds k true).getD j false = false → listed.getD j false = false ∧ j ≠ k := fun j hj => by
        rw [hL'] at hj
        simpa using hj
      unfold wpOp
      simp only [ho]
      by_cases hkc : k < c
      · -- one that floats
        obtain ⟨i', d, v, e1, e2, e3, e4, e5, e6⟩ := hpen k hkc hku'
        rw [hik] at e1; cases e1
        obtain ⟨f1, f2, ⟨l, f3⟩, f4, _⟩ := floatI_inv e2
        have hit : (is.take c)[k]? = some i := by rw [List.getElem?_take, if_pos hkc]; exact hik
        obtain ⟨l1, hl1, hw⟩ := readsOk_at hreads k i hit
        obtain ⟨l2, hl2, hsub, _⟩ := readsAll_inv hl1
        have hsame : ∀ r ∈ l2, get ρ r = get rs r := fun r hr => hreg r fun j ij hj hju hij hjd => by
          have hjt : (is.take c)[j]? = some ij := by rw [List.getElem?_take, if_pos hj]; exact hij
          have hbit := writersIn_at hw j ij r hjt hjd (hsub r hr)
          simp only [Nat.zero_add] at hbit
          rw [hanc j hbit] at hju; cases hju
        have hev : evalOp C cx.n0 hb0.length ρ h i.op = some (v, h, .no) := by rw [evalOp_congr2 hl2 hsame]; exact e6 h
        obtain ⟨T1, hs1, g1', g2', g3', g4'⟩ := step1_float e2 e3 e5
        have hst : S.step R i = some T1 := by unfold Ow.step; rw [f2]; exact hs1
        have hb : wanted ρ i.guard = some true := by rw [f2]; rfl
        refine step_ok hi hC htri hlni hst hdN hb (.inl ⟨rfl, _, hev, rfl, rfl, rfl⟩) fun u w' g' hle hi' => ?_
        have hi2 : Inv cx N hb0 S (putR i.dst v ρ) h fl g' (a.put o.dst u) w' := by
          have h3 := hi'.weaken g1' g2' g3' g4'
          have : fl.or .no = fl := Fl.or_no fl
          rwa [this] at h3
        have hreg' : ∀ r, (∀ (j : Nat) (i : VI), j < c → (listed.setIfInBounds k true).getD j false = false → is[j]? = some i → i.dst ≠ some r) → get (putR i.dst v ρ) r = get rs r := fun r hr => by
          by_cases hrd : i.dst = some r
          · rw [e3] at hrd; cases hrd
            rw [e3]
            simp [putR, get, e4]
          · rw [get_putR hrd]
            refine hreg r fun j ij hj hju hij => ?_
            by_cases hjk : j = k
            · subst hjk; rw [hik] at hij; cases hij; exact hrd
            · exact hr j ij hj (by rw [hL', hju]; simp [hjk]) hij
        have hpen' : ∀ j, j < c → (listed.setIfInBounds k true).getD j false = false → ∃ i d v, is[j]? = some i ∧ floatI i = true ∧ i.dst = some d ∧ get rs d = v ∧ S.Free d ∧ ∀ hh, evalOp C cx.n0 hb0.length rs hh i.op = some (v, hh, .no) := fun j hj hju => hpen j hj (pend' j hju).1
        have hl2' : ∀ q, c ≤ q → (listed.setIfInBounds k true).getD q false = decide (q < m) := fun q hq => by
          rw [hL', hl q hq]
          have : ¬ q = k := by omega
          simp [this]
        by_cases hmore : ∃ j, j < c ∧ (listed.setIfInBounds k true).getD j false = false
        · exact ih m S rs _ h fl g' _ w' _ hcm hm (by simpa using hsz) hl2' hcl' hi2 hs he (.inl hmore) hreg' hpen' hcnt' fun g'' a' w'' hle' => hQ g'' a' w'' (hle.trans hle')
        · have hi3 := hi2.regs fun r => hreg' r fun j ij hj hju _ => absurd ⟨j, hj, hju⟩ hmore
          exact ih m S rs rs h fl g' _ w' _ hcm hm (by simpa using hsz) hl2' hcl' hi3 hs he (.inr rfl) (fun _ _ => rfl) hpen' hcnt' fun g'' a' w'' hle' => hQ g'' a' w'' (hle.trans hle')
      · -- the next of the rest
        have hkm : k = m := by
          have h1 := hl k (by omega)
          rw [hku'] at h1
          have h2 : ¬ k < m := by simpa using h1.symm
          rcases Nat.lt_or_ge m k with h3 | h3
          · exfalso
            rcases restF_at hrest (k := k) (j := m) (by omega) (by omega) h3 with h4 | ⟨h4, _⟩
            · have h5 := hanc m h4
              rw [hl m hcm] at h5
              simp at h5
            · omega
          · omega
        subst hkm
        have hkl : k < is.length := by omega
        have hdr : is.drop k = i :: is.drop (k + 1) := by
          rw [List.drop_eq_getElem_cons hkl]
          congr 1
          have := (List.getElem?_eq_some_iff.1 hik).2
          exact this
        rw [hdr] at hs he
        simp only [Ow.steps] at hs
        obtain ⟨S1, hst, hs⟩ := bnd_eq_some hs
        simp only [evalOps] at he
        obtain ⟨b, hb, he⟩ := bnd_eq_some he
        -- those that are still to come have nothing to do with it
        have hrel : ∀ j, j < c → listed.getD j false = false → ∃ ij, is[j]? = some ij ∧ relOk ij i = true := fun j hj hju => by
          rcases restF_at hrest (k := k) (j := j) hkl hcm (by omega) with h4 | ⟨_, ij, ik, h5, h6, _, h7⟩
          · rw [hanc j h4] at hju; cases hju
          · rw [hik] at h6; cases h6
            exact ⟨ij, h5, h7⟩
        have hsame : wanted ρ i.guard = wanted rs i.guard ∧ ∀ hh, evalOp C cx.n0 hb0.length ρ hh i.op = evalOp C cx.n0 hb0.length rs hh i.op := by
          rcases hρ with ⟨j0, hj0, hju0⟩ | e
          · obtain ⟨_, _, h7⟩ := hrel j0 hj0 hju0
            obtain ⟨_, _, _, lk, _, _, h8, _, _⟩ := relOk_inv h7
            have hs2 : ∀ r ∈ lk, get ρ r = get rs r := fun r hr => hreg r fun j ij hj hju hij hjd => by
              obtain ⟨ij', h9, h10⟩ := hrel j hj hju
              rw [hij] at h9; cases h9
              obtain ⟨_, d', _, lk', h11, _, h12, h13, _⟩ := relOk_inv h10
              rw [h8] at h12; cases h12
              rw [hjd] at h11; cases h11
              exact h13 hr
            obtain ⟨l', h14, h15, _⟩ := readsAllK_inv h8
            exact ⟨readsAll_guard h8 hs2, fun hh => evalOp_congrK h14 fun r hr => hs2 r (h15 r hr)⟩
          · rw [e]; exact ⟨rfl, fun _ => rfl⟩
        have hl2' : ∀ q, c ≤ q → (listed.setIfInBounds k true).getD q false = decide (q < k + 1) := fun q hq => by
          rw [hL', hl q hq]
          by_cases h1 : q = k
          · subst h1; simp
          · have : decide (q < k + 1) = decide (q < k) := by congr 1; exact propext ⟨fun _ => by omega, fun _ => by omega⟩
            rw [this]; simp [h1]
        have next : ∀ (v : V) (h1 : Heap) (fl1 : Fl), evalOps C cx.n0 hb0.length (is.drop (k + 1)) (putR i.dst v rs) h1 fl1 = some (rs', h', fl') → ∀ u w' g', GLe g g' → Inv cx N hb0 S1 (putR i.dst v ρ) h1 fl1 g' (a.put o.dst u) w' → wpAny P .any ops Q fuel (listed.setIfInBounds k true) (a.put o.dst u) w' := by
          intro v h1 fl1 he' u w' g' hle hi'
          refine ih (k + 1) S1 (putR i.dst v rs) (putR i.dst v ρ) h1 fl1 g' _ w' _ (by omega) (by omega) (by simpa using hsz) hl2' hcl' hi' hs he' ?_ ?_ ?_ hcnt' fun g'' a' w'' hle' => hQ g'' a' w'' (hle.trans hle')
          · rcases hρ with ⟨j0, hj0, hju0⟩ | e
            · exact .inl ⟨j0, hj0, by rw [hL', hju0]; simp; omega⟩
            · exact .inr (by rw [e])
          · intro r hr
            by_cases hrd : i.dst = some r
            · rw [hrd]; simp [putR, get]
            · rw [get_putR hrd, get_putR hrd]
              exact hreg r fun j ij hj hju hij => hr j ij hj (by rw [hL', hju]; simp; omega) hij
          · intro j hj hju
            obtain ⟨hju', hjk⟩ := pend' j hju
            obtain ⟨ij, d, v', e1, e2, e3, e4, e5, e6⟩ := hpen j hj hju'
            obtain ⟨ij', h9, h10⟩ := hrel j hj hju'
            rw [e1] at h9; cases h9
            obtain ⟨_, d', lj, lk', h11, h12, h13, h14, h15⟩ := relOk_inv h10
            rw [e3] at h11; cases h11
            have hne : i.dst ≠ some d := fun e => (h15 d e).1 rfl
            obtain ⟨lj', h16, h17, _⟩ := readsAll_inv h12
            refine ⟨ij, d, v', e1, e2, e3, by rw [get_putR hne]; exact e4, Ow.step_free hst e5 hne h13 h14, fun hh => ?_⟩
            rw [← e6 hh]
            refine evalOp_congr2 h16 fun r hr => get_putR fun e => (h15 r e).2 (h17 r hr)
        cases b with
        | true =>
          simp only [cnd_true] at he
          obtain ⟨r, hr, he⟩ := bnd_eq_some he
          exact step_ok hi hC htri hlni hst hdN (by rw [hsame.1]; exact hb) (.inl ⟨rfl, r, by rw [hsame.2]; exact hr, rfl, rfl, rfl⟩) (next _ _ _ he)
        | false => exact step_ok hi hC htri hlni hst hdN (by rw [hsame.1]; exact hb) (.inr ⟨rfl, rfl, rfl, rfl⟩) (next _ _ _ he)
end
end Go.Vm

/- A region whose order is open: sound. -/
set_option linter.unusedVariables false
set_option linter.unusedSimpArgs false
namespace Go.Vm
attribute [local simp] evalOps_nil evalOps_cons evalOps_consg evalOp_mv evalOp_asg evalOp_pick evalOp_build evalOp_bslice evalOp_load evalOp_nilck evalOp_bin evalOp_un evalOp_conv evalOp_mkfn evalOp_slice evalOp_faddr evalOp_field evalOp_iaddr evalOp_index evalOp_lookup evalOp_extract evalOp_app evalOp_len evalOp_mn evalOp_mx evalOp_alloc evalOp_box evalOp_mkmap evalOp_store evalOp_mapupd evalOp_delete evalOp_sliceArr evalOp_call evalOp_callv evalOp_appc code_skip code_ops code_dops code_seq code_cond code_block code_exit code_ret finish_normal finish_ret
attribute [local simp] V.lt V.ltL V.flat V.pureCell V.pure V.isCell cellEq cellsEq eqV intV shV strV isShift binV unV byteV convV minV maxV foldV foldV1 fillV fillE findV putV delV isKey natOf natOr cut cellsAt mapAt mapOf loadV pickV nilckV sizeOk allSize sliceV faddrV fieldV iaddrV indexV found extractV allPure appV lenV ownHas ownOk storeC storeV samePtr appcV boxable mapupdV deleteV sliceArrV callV allLt clean bodyEnd resV one finishV runV initR
section
variable {P : Program} {R : Nat → Option Nat} {cx : Cx (Tracks R)} {N : Nat} {hb0 : Heap} {rs : Regs} {h : Heap} {fl : Fl} {g : Gh} {a : Act} {w : World}

structure Chg where
  x : Nat
  h1 : Heap
  fl1 : Fl
def hAt (o : Option Chg) (h : Heap) (L : Nat → Bool) : Heap :=
  match o with
  | none => h
  | some c => cnd (L c.x) c.h1 h
def flAt (o : Option Chg) (fl : Fl) (L : Nat → Bool) : Fl :=
  match o with
  | none => fl
  | some c => cnd (L c.x) c.fl1 fl
def Good (C : Callee) (fb lb : Nat) (o : Option Chg) (M : List Nat) (h : Heap) (fl : Fl) (j : Nat) (rs : Regs) (op : VOp) (v : V) : Prop :=
  match o with
  | none => ∃ q, evalOp C fb lb rs h op = some q ∧ q.1 = v ∧ q.2.1 = h ∧ q.2.2 = .no
  | some c => (j = c.x ∧ ∃ q, evalOp C fb lb rs h op = some q ∧ q.1 = v ∧ q.2.1 = c.h1 ∧ fl.or q.2.2 = c.fl1) ∨
      (j ≠ c.x ∧ ((M.getD c.x 0).testBit j = false → ∃ q, evalOp C fb lb rs c.h1 op = some q ∧ q.1 = v ∧ q.2.1 = c.h1 ∧ q.2.2 = .no) ∧ ((M.getD j 0).testBit c.x = false → ∃ q, evalOp C fb lb rs h op = some q ∧ q.1 = v ∧ q.2.1 = h ∧ q.2.2 = .no))
def Skip (o : Option Chg) (h : Heap) (fl : Fl) (j : Nat) : Prop :=
  match o with
  | none => True
  | some c => j = c.x → c.h1 = h ∧ c.fl1 = fl
theorem first_ok {C : Callee} {ops : Array Oper} (hC : FnOk P R C) {c : Nat} {is gs : List VI} (htr : trIs P ops ops.toList gs = some is) (hp : PreFacts c ops.toList is) (hln : ∀ i ∈ is, linOkV P i.op) {own : Ows} {T : Ow} (hT : Ow.steps R (is.drop c) (preOw c is own) = some T)
    (hd : ∀ o ∈ ops.toList, ∀ x, o.dst = some x → x < N) {vs : List V} (hvs : vs.length = (is.take c).length) {oc : Option Chg}
    (hall : ∀ (j : Nat) (i : VI), (is.take c)[j]? = some i → ∃ b v, vs[j]? = some v ∧ wanted (mix (fun q => decide (q < 0 + j)) 0 (is.take c) vs rs) i.guard = some b ∧
      (b = true → Good C cx.n0 hb0.length oc (masks ops.toList []) h fl j (mix (fun q => decide (q < 0 + j)) 0 (is.take c) vs rs) i.op v) ∧ (b = false → v = .undef ∧ Skip oc h fl j))
    (hcx : ∀ ch, oc = some ch → ch.x < c) (hrd : ∀ (j : Nat) (i : VI), (is.take c)[j]? = some i → (∃ l, readsOf i.op = some l) ∨ ∃ l, readsX i.op = some l)
    {rs' : Regs} {h' : Heap} {fl' : Fl} (he : evalOps C cx.n0 hb0.length (is.drop c) (mix (fun _ => true) 0 (is.take c) vs rs) (hAt oc h fun _ => true) (flAt oc fl fun _ => true) = some (rs', h', fl')) {Q : Exit → Act → World → Prop} (g0 : Gh)
    (hQ : ∀ g' a' w', GLe g0 g' → Inv cx N hb0 T rs' h' fl' g' a' w' → Q .normal a' w') :
    ∀ (fuel : Nat) (listed : Array Bool) (g : Gh) (a : Act) (w : World), listed.size = ops.size → (∀ k o, ops.toList[k]? = some o → listed.getD k false = true → ∀ j ∈ bindsOn o, listed.getD j false = true) → (∀ k, c ≤ k → listed.getD k false = false) →
      ((List.range ops.size).filter fun k => !listed.getD k false).length ≤ fuel → GLe g0 g →
      Inv cx N hb0 ⟨ownL (fun k => listed.getD k false) (is.take c) own, als (fun k => listed.getD k false) 0 (is.take c), laL (fun k => listed.getD k false) (is.take c), none⟩ (mix (fun k => listed.getD k false) 0 (is.take c) vs rs) (hAt oc h fun k => listed.getD k false) (flAt oc fl fun k => listed.getD k false) g a w → wpAny P .any ops Q fuel listed a w := by
  have hlen := trIs_len htr
  have hisz : is.length = ops.size := by simpa using hlen.1
  have hrest : restOkF c (masks ops.toList []) is = true := hp.rest
  have hcn : c ≤ ops.size := by rw [← hisz]; exact hp.le
  have hple := hp.le
  have hplen : (is.take c).length = c := by simp; omega
  have ctrue : ∀ (listed : Array Bool), (∀ k o, ops.toList[k]? = some o → listed.getD k false = true → ∀ j ∈ bindsOn o, listed.getD j false = true) → ∀ j, listed.getD j false = true → ∀ b, ((masks ops.toList []).getD j 0).testBit b = true → listed.getD b false = true := fun listed hcl j hj b hb => by
    by_cases hjl : j < ops.toList.length
    · have hoj : ops.toList[j]? = some ops.toList[j] := by simp [hjl]
      exact mask_closed (L := fun k => listed.getD k false) hcl j _ hoj (hcl j _ hoj hj) b hb
    · rw [List.getD_eq_getElem?_getD, List.getElem?_eq_none (by rw [masks_len]; simp at hjl ⊢; omega)] at hb
      simp at hb
  -- all of the first part stands, but for what floats
  have done : ∀ (fuel : Nat) (listed : Array Bool) (g : Gh) (a : Act) (w : World), listed.size = ops.size → (∀ k o, ops.toList[k]? = some o → listed.getD k false = true → ∀ j ∈ bindsOn o, listed.getD j false = true) → (∀ k, c ≤ k → listed.getD k false = false) → ((List.range ops.size).filter fun k => !listed.getD k false).length ≤ fuel → GLe g0 g →
      (∀ (k : Nat) (i : VI), k < c → listed.getD k false = false → is[k]? = some i → floatP c is i = true) → Inv cx N hb0 ⟨ownL (fun k => listed.getD k false) (is.take c) own, als (fun k => listed.getD k false) 0 (is.take c), laL (fun k => listed.getD k false) (is.take c), none⟩ (mix (fun k => listed.getD k false) 0 (is.take c) vs rs) (hAt oc h fun k => listed.getD k false) (flAt oc fl fun k => listed.getD k false) g a w → wpAny P .any ops Q fuel listed a w := by
    intro fuel listed g a w hsz hcl hns hcnt hle hfl hi
    have stands : ∀ (j : Nat) (i : VI), (is.take c)[j]? = some i → floatP c is i = false → listed.getD j false = true := fun j i hj hf => by
      have hjc : j < c := by have := (List.getElem?_eq_some_iff.1 hj).1; omega
      cases hl : listed.getD j false with
      | true => rfl
      | false =>
        rw [List.getElem?_take, if_pos hjc] at hj
        rw [hfl j i hjc hl hj] at hf; cases hf
    -- what floats yields its value anywhere
    have value : ∀ (j : Nat) (i : VI), (is.take c)[j]? = some i → floatP c is i = true → ∃ d v, i.dst = some d ∧ vs[j]? = some v ∧ (∀ hh, evalOp C cx.n0 hb0.length (mix (fun _ => true) 0 (is.take c) vs rs) hh i.op = some (v, hh, .no)) ∧ (∀ ch, oc = some ch → j = ch.x → ch.h1 = h ∧ ch.fl1 = fl) := fun j i hj hf => by
      obtain ⟨f1, f2, ⟨l, f3⟩, _, ⟨d, f6⟩⟩ := floatI_inv (floatP_inv hf).1
      obtain ⟨b, v, e1, e2, e3, _⟩ := hall j i hj
      have hb : b = true := by rw [f2] at e2; simpa [wanted] using e2.symm
      have hgood := e3 hb
      have hjl : j < ops.toList.length := by have := (List.getElem?_eq_some_iff.1 hj).1; simp at this ⊢; omega
      obtain ⟨l', hl', hw'⟩ := readsOk_at hp.reads j i hj
      obtain ⟨l2, hl2, hsub, _⟩ := readsAll_inv hl'
      have hsame := reads_same (rs := rs) hp hj hl' (List.getElem?_eq_getElem hjl) (L := fun _ => true) (fun _ _ => rfl) hvs
      have lift : ∀ (hh0 : Heap) (q : V × Heap × Fl), evalOp C cx.n0 hb0.length (mix (fun q => decide (q < 0 + j)) 0 (is.take c) vs rs) hh0 i.op = some q → q.1 = v → ∀ hh, evalOp C cx.n0 hb0.length (mix (fun _ => true) 0 (is.take c) vs rs) hh i.op = some (v, hh, .no) := fun hh0 q hq hqv hh => by
        rw [evalOp_congr2 hl2 fun r hr => hsame r (hsub r hr), evalOp_free f1 f3 hq hh, hqv]
      refine ⟨d, v, f6, e1, ?_⟩
      cases oc with
      | none =>
        obtain ⟨q, hq, hqv, _⟩ := hgood
        exact ⟨lift h q hq hqv, fun ch e => by cases e⟩
      | some ch =>
        rcases hgood with ⟨hx, q, hq, hqv, h5, h6⟩ | ⟨hx, k1, k2⟩
        · refine ⟨lift h q hq hqv, fun ch' e hjx => ?_⟩
          cases e
          obtain ⟨s1, s2⟩ := evalOp_still f3 hq
          exact ⟨h5.symm.trans s1, by rw [← h6, s2]; exact Fl.or_no fl⟩
        · refine ⟨?_, fun ch' e hjx => by cases e; exact absurd hjx hx⟩
          cases hb1 : ((masks ops.toList []).getD ch.x 0).testBit j with
          | false =>
            obtain ⟨q, hq, hqv, _⟩ := k1 hb1
            exact lift _ q hq hqv
          | true =>
            cases hb2 : ((masks ops.toList []).getD j 0).testBit ch.x with
            | false =>
              obtain ⟨q, hq, hqv, _⟩ := k2 hb2
              exact lift _ q hq hqv
            | true =>
              exfalso
              have hxl : ch.x < ops.toList.length := by have := hcx ch rfl; simp; omega
              have b1 := bit_lt hp.back (List.getElem?_eq_getElem hxl) hb1
              have b2 := bit_lt hp.back (List.getElem?_eq_getElem hjl) hb2
              omega
    have ehf : (hAt oc h fun k => listed.getD k false) = (hAt oc h fun _ => true) ∧ (flAt oc fl fun k => listed.getD k false) = (flAt oc fl fun _ => true) := by
      cases hoc : oc with
      | none => exact ⟨rfl, rfl⟩
      | some ch =>
        simp only [hAt, flAt]
        cases hl : listed.getD ch.x false with
        | true => exact ⟨rfl, rfl⟩
        | false =>
          have hxc := hcx ch hoc
          have hxl : ch.x < (is.take c).length := by omega
          have hxi : (is.take c)[ch.x]? = some (is.take c)[ch.x] := List.getElem?_eq_getElem hxl
          have hf : floatP c is (is.take c)[ch.x] = true := by
            cases hff : floatP c is (is.take c)[ch.x] with
            | true => rfl
            | false => rw [stands _ _ hxi hff] at hl; cases hl
          obtain ⟨_, _, _, _, _, h7⟩ := value _ _ hxi hf
          obtain ⟨e1, e2⟩ := h7 ch hoc rfl
          rw [e1, e2]
          exact ⟨rfl, rfl⟩
    have hi2 : Inv cx N hb0 (preOw c is own) (mix (fun k => listed.getD k false) 0 (is.take c) vs rs) (hAt oc h fun _ => true) (flAt oc fl fun _ => true) g a w := by
      rw [← ehf.1, ← ehf.2]
      refine hi.weaken (fun x hx => ?_) (fun x hx => ?_) (fun x hx => ?_) rfl
      · obtain ⟨h1, h2⟩ := mem_ownL.1 hx
        refine mem_ownL.2 ⟨?_, fun h3 => ?_⟩
        · rcases h1 with h1 | h1
          · exact .inl h1
          · obtain ⟨j, i, h4, _, h5⟩ := mem_toks.1 h1
            refine .inr (mem_toks.2 ⟨j, i, h4, ?_, h5⟩)
            rw [Nat.zero_add]
            refine stands j i h4 ?_
            cases hf : floatP c is i with
            | false => rfl
            | true => rw [(floatI_inv (floatP_inv hf).1).2.2.2.1] at h5; cases h5
        · obtain ⟨j, i, h4, _, h5⟩ := mem_eaten.1 h3
          exact h2 (mem_eaten.2 ⟨j, i, h4, rfl, h5⟩)
      · obtain ⟨hx, hkeep⟩ := List.mem_filter.1 hx
        obtain ⟨j, i, h4, _, h5⟩ := mem_als.1 hx
        refine mem_als.2 ⟨j, i, h4, ?_, h5⟩
        rw [Nat.zero_add]
        refine stands j i h4 ?_
        cases hf : floatP c is i with
        | false => rfl
        | true => rw [(floatP_inv hf).2 x h5] at hkeep; cases hkeep
      · obtain ⟨hq, hx⟩ := mem_laL.1 hx
        obtain ⟨j, i, h4, _, h5⟩ := mem_las.1 hx
        refine mem_laL.2 ⟨hq, mem_las.2 ⟨j, i, h4, ?_, h5⟩⟩
        rw [Nat.zero_add]
        refine stands j i h4 ?_
        cases hf : floatP c is i with
        | false => rfl
        | true => have := (floatP_inv hf).1; rw [laOf_nofloat h5] at this; cases this
    have uniq : ∀ (j : Nat) (i : VI) (r : Nat), (is.take c)[j]? = some i → i.dst = some r → ∀ (q : Nat) (i2 : VI), j < q → (is.take c)[q]? = some i2 → i2.dst ≠ some r := fun j i r hj hd q i2 hq h2 e2 => by
      have := oneWriter_at hp.one j q i i2 r hj h2 hd e2
      omega
    refine restF_ok (c := c) hC (fun j o hj => trIs_at htr j o hj) hisz hp.back hrest hp.one hp.reads hln hd fuel c (preOw c is own) (mix (fun _ => true) 0 (is.take c) vs rs) _ _ _ g a w listed (Nat.le_refl _) hcn hsz (fun k hk => by rw [hns k hk, decide_eq_false (by omega)]) hcl hi2 hT he ?_ ?_ ?_ hcnt fun g' a' w' hle' hi' => hQ g' a' w' (hle.trans hle') hi'
    · by_cases hmore : ∃ j, j < c ∧ listed.getD j false = false
      · exact .inl hmore
      · right
        refine mix_congr _ _ _ _ _ _ fun j hj => ?_
        rw [Nat.zero_add]
        cases hl : listed.getD j false with
        | true => rfl
        | false => exact absurd ⟨j, by omega, hl⟩ hmore
    · intro r hr
      by_cases hw : ∃ (j : Nat) (i' : VI), (is.take c)[j]? = some i' ∧ i'.dst = some r
      · obtain ⟨j, i', hj, hjd⟩ := hw
        have hjc : j < c := by have := (List.getElem?_eq_some_iff.1 hj).1; omega
        have hjv : j < vs.length := by rw [hvs]; exact (List.getElem?_eq_some_iff.1 hj).1
        have hvj : vs[j]? = some vs[j] := by simp [hjv]
        have hjl : listed.getD j false = true := by
          cases hl : listed.getD j false with
          | true => rfl
          | false =>
            have hj2 : is[j]? = some i' := by rw [List.getElem?_take, if_pos hjc] at hj; exact hj
            exact absurd hjd (hr j i' hjc hl hj2)
        rw [mix_some _ vs 0 rs j i' vs[j] hj hvj (by rw [Nat.zero_add]; exact hjl) hjd (uniq j i' r hj hjd), mix_some _ vs 0 rs j i' vs[j] hj hvj rfl hjd (uniq j i' r hj hjd)]
      · rw [mix_none _ vs 0 rs fun j i' hj _ e => hw ⟨j, i', hj, e⟩, mix_none _ vs 0 rs fun j i' hj _ e => hw ⟨j, i', hj, e⟩]
    · intro j hj hju
      have hjl : j < (is.take c).length := by omega
      have hji : (is.take c)[j]? = some (is.take c)[j] := List.getElem?_eq_getElem hjl
      generalize (is.take c)[j] = i at hji
      have hji2 : is[j]? = some i := by rw [List.getElem?_take, if_pos hj] at hji; exact hji
      have hf := hfl j i hj hju hji2
      obtain ⟨d, v, f6, e1, e2, _⟩ := value j i hji hf
      obtain ⟨_, _, _, f4, _⟩ := floatI_inv (floatP_inv hf).1
      refine ⟨i, d, v, hji2, (floatP_inv hf).1, f6, ?_, ⟨fun x hx => ?_, fun x hx => ?_, fun x hx => ?_, rfl⟩, e2⟩
      · exact mix_some _ vs 0 rs j i v hji e1 rfl f6 (uniq j i d hji f6)
      · obtain ⟨h1, _⟩ := mem_ownL.1 hx
        intro e
        rcases h1 with h1 | h1
        · exact own0_dst h1 (List.mem_of_getElem? hji) (by rw [f6, e])
        · obtain ⟨j', i', h4, _, h5⟩ := mem_toks.1 h1
          have h6 := (tokenOf_inv h5).1
          rw [e] at h6
          have := oneWriter_at hp.one j j' i i' d hji h4 f6 h6
          subst this
          rw [hji] at h4; cases h4
          rw [f4] at h5; cases h5
      · obtain ⟨hx, hkeep⟩ := List.mem_filter.1 hx
        obtain ⟨j', i', h4, _, h5⟩ := mem_als.1 hx
        obtain ⟨g1, g2, g3, g4⟩ := alOf_inv h5
        constructor
        · intro e
          rw [e] at g1
          have := oneWriter_at hp.one j j' i i' d hji h4 f6 g1
          subst this
          rw [hji] at h4; cases h4
          rw [(floatP_inv hf).2 x h5] at hkeep; cases hkeep
        · intro e
          have hst : listed.getD j' false = true := stands j' i' h4 (by
            cases hff : floatP c is i' with
            | false => rfl
            | true => rw [(floatP_inv hff).2 x h5] at hkeep; cases hkeep)
          obtain ⟨l, hl, hw⟩ := readsOk_at hp.reads j' i' h4
          have hdl : d ∈ l := by
            unfold readsAll at hl
            rw [g3] at hl
            simp only [readsOf2, readsOf, argRegs, bnd_some, Option.some.injEq] at hl
            subst hl
            rw [g2, e]
            simp
          have hbit := writersIn_at hw j i d hji f6 hdl
          simp only [Nat.zero_add] at hbit
          rw [ctrue listed hcl j' hst j hbit] at hju; cases hju
      · obtain ⟨_, hx⟩ := mem_laL.1 hx
        obtain ⟨j', i', h4, _, h5⟩ := mem_las.1 hx
        obtain ⟨g1, g2, g3, g4⟩ := laOf_inv h5
        constructor
        · intro e
          rw [e] at g1
          have := oneWriter_at hp.one j j' i i' d hji h4 f6 g1
          subst this
          rw [hji] at h4; cases h4
          have := (floatP_inv hf).1
          rw [laOf_nofloat h5] at this; cases this
        · intro e
          have hst : listed.getD j' false = true := stands j' i' h4 (by
            cases hff : floatP c is i' with
            | false => rfl
            | true => have := (floatP_inv hff).1; rw [laOf_nofloat h5] at this; cases this)
          obtain ⟨l, hl, hw⟩ := readsOk_at hp.reads j' i' h4
          have hdl : d ∈ l := by
            unfold readsAll at hl
            rw [g3] at hl
            simp only [readsOf2, readsOf, argRegs, bnd_some, Option.some.injEq] at hl
            subst hl
            rw [g2, e]
            simp
          have hbit := writersIn_at hw j i d hji f6 hdl
          simp only [Nat.zero_add] at hbit
          rw [ctrue listed hcl j' hst j hbit] at hju; cases hju
  intro fuel
  induction fuel with
  | zero =>
    intro listed g a w hsz hcl hns hcnt hle hi
    by_cases hall1 : ∀ k, k < c → listed.getD k false = true
    · exact done 0 listed g a w hsz hcl hns hcnt hle (fun k i hk hl _ => by rw [hall1 k hk] at hl; cases hl) hi
    · exfalso
      refine hall1 fun k hk => ?_
      cases hk2 : listed.getD k false with
      | true => rfl
      | false =>
        have hm : k ∈ (List.range ops.size).filter fun k => !listed.getD k false := by
          rw [List.mem_filter]
          exact ⟨by simp; omega, by rw [hk2]; rfl⟩
        have : 0 < ((List.range ops.size).filter fun k => !listed.getD k false).length := List.length_pos_of_mem hm
        omega
  | succ fuel ih =>
    intro listed g a w hsz hcl hns hcnt hle hi
    by_cases hfl : ∀ (k : Nat) (i : VI), k < c → listed.getD k false = false → is[k]? = some i → floatP c is i = true
    · exact done (fuel + 1) listed g a w hsz hcl hns hcnt hle hfl hi
    obtain ⟨k0, i0, hk0, hl0, hi0, hf0⟩ : ∃ (k : Nat) (i : VI), k < c ∧ listed.getD k false = false ∧ is[k]? = some i ∧ floatP c is i = false := Classical.byContradiction fun hno => hfl fun k i h1 h2 h3 => by
      cases hf : floatP c is i with
      | true => rfl
      | false => exact absurd ⟨k, i, h1, h2, h3, hf⟩ hno
    have hall1 : ¬ ∀ k, k < c → listed.getD k false = true := fun h1 => by rw [h1 k0 hk0] at hl0; cases hl0
    by_cases hdummy : False
    · exact hdummy.elim
    · -- one that may stand now
      have hex : ∃ k, k < c ∧ listed.getD k false = false := Classical.byContradiction fun hno => hall1 fun k hk => by
        cases hk2 : listed.getD k false with
        | true => rfl
        | false => exact absurd ⟨k, hk, hk2⟩ hno
      have hready : ∀ n, ∀ k, k < n → k < c → listed.getD k false = false → ∃ m, m ∈ Region.ready .any ops listed := by
        intro n
        induction n with
        | zero => intro k hk; omega
        | succ n ihn =>
          intro k hk hkc hku
          have hks : k < ops.size := by omega
          by_cases hlow : ∃ q, q < k ∧ listed.getD q false = false
          · obtain ⟨q, hq, hqu⟩ := hlow
            exact ihn q (by omega) (by omega) hqu
          · refine ⟨k, mem_ready.2 ⟨?_, ops[k], by simp [hks], fun e he hb => ?_⟩⟩
            · have hk2 : k < listed.size := by omega
              simpa [Array.getD, hk2] using hku
            · have hlt := backOk_at ops.toList 0 k ops[k] hp.back (by simp [hks]) e.on (mem_bindsOn.2 ⟨e, he, hb, rfl⟩)
              cases hq : listed.getD e.on false with
              | true => rfl
              | false => exact absurd ⟨e.on, by omega, hq⟩ hlow
      refine ⟨fun h0 => ?_, fun k hk => ?_⟩
      · obtain ⟨k, hkc, hku⟩ := hex
        obtain ⟨m, hm⟩ := hready (k + 1) k (by omega) hkc hku
        rw [h0] at hm
        simp at hm
      · obtain ⟨hku, o, ho, hbef⟩ := mem_ready.1 hk
        have hks : k < ops.size := (Array.getElem?_eq_some_iff.1 ho).1
        have hks2 : k < listed.size := by omega
        have hku' : listed.getD k false = false := by simpa [Array.getD, hks2] using hku
        have hol : ops.toList[k]? = some o := by simpa using ho
        have hanc : ∀ b, ((masks ops.toList []).getD k 0).testBit b = true → listed.getD b false = true := fun b hb =>
          mask_closed (L := fun k => listed.getD k false) hcl k o hol (fun j hj => by
            obtain ⟨e, he, hb', rfl⟩ := mem_bindsOn.1 hj
            exact hbef e he hb') b hb
        have hkc : k < c := by
          rcases Nat.lt_or_ge k c with h1 | h1
          · exact h1
          · exfalso
            rcases restF_at hrest (k := k) (j := k0) (by omega) h1 (by omega) with h2 | ⟨_, ij, ik, h3, _, h4, _⟩
            · rw [hanc k0 h2] at hl0; cases hl0
            · rw [hi0] at h3; cases h3
              rw [h4] at hf0; cases hf0
        obtain ⟨i, g1, hik, htri⟩ := trIs_at htr k o hol
        have hit : (is.take c)[k]? = some i := by rw [List.getElem?_take, if_pos hkc]; exact hik
        have hdst := trI_dst htri
        obtain ⟨b, v, hv, hb, hx, hy⟩ := hall k i hit
        obtain ⟨l, hl, _⟩ := readsOk_at hp.reads k i hit
        obtain ⟨l', hl', hsub, hgr⟩ := readsAll_inv hl
        have hsame := reads_same (rs := rs) hp hit hl hol (L := fun k => listed.getD k false) hanc hvs
        have hb2 : wanted (mix (fun k => listed.getD k false) 0 (is.take c) vs rs) i.guard = some b := by
          rw [← hb]
          cases hg : i.guard with
          | none => rfl
          | some q =>
            obtain ⟨q1, q2⟩ := q
            simp only [wanted]
            rw [hsame q1 (hgr q1 q2 hg)]
        have hev : ∀ hh, evalOp C cx.n0 hb0.length (mix (fun k => listed.getD k false) 0 (is.take c) vs rs) hh i.op = evalOp C cx.n0 hb0.length (mix (fun q => decide (q < 0 + k)) 0 (is.take c) vs rs) hh i.op := fun hh => evalOp_congr2 hl' fun r hr => hsame r (hsub r hr)
        have hL' : ∀ q, (listed.setIfInBounds k true).getD q false = (listed.getD q false || decide (q = k)) := fun q => by
          by_cases hq : k = q
          · subst hq; rw [getD_set_self hks2]; simp
          · rw [getD_set_ne false hq]; simp [Ne.symm hq]
        have hcl' : ∀ q o, ops.toList[q]? = some o → (listed.setIfInBounds k true).getD q false = true → ∀ j ∈ bindsOn o, (listed.setIfInBounds k true).getD j false = true := fun q o' ho' hq j hj => by
          rw [hL'] at hq ⊢
          simp only [Bool.or_eq_true, decide_eq_true_eq] at hq ⊢
          rcases hq with hq | rfl
          · exact .inl (hcl q o' ho' hq j hj)
          · rw [hol] at ho'; cases ho'
            obtain ⟨e, he', hb', rfl⟩ := mem_bindsOn.1 hj
            exact .inl (hbef e he' hb')
        have hns' : ∀ q, c ≤ q → (listed.setIfInBounds k true).getD q false = false := fun q hq => by
          rw [hL', hns q hq]
          simp
          omega
        have hcnt' : ((List.range ops.size).filter fun q => !(listed.setIfInBounds k true).getD q false).length ≤ fuel := by
          have := filter_lt (L := fun q => listed.getD q false) (L' := fun q => (listed.setIfInBounds k true).getD q false) (i := k) (fun q hq => by rw [hL', hq]; rfl) hku' (getD_set_self hks2) (l := List.range ops.size) (by simp [hks])
          omega
        obtain ⟨T1, hs1, hres⟩ : ∃ T1, Ow.step1 R ⟨ownL (fun k => listed.getD k false) (is.take c) own, als (fun k => listed.getD k false) 0 (is.take c), laL (fun k => listed.getD k false) (is.take c), none⟩ i.dst i.op = some T1 ∧ PreRes ⟨ownL (fun k => listed.getD k false) (is.take c) own, als (fun k => listed.getD k false) 0 (is.take c), laL (fun k => listed.getD k false) (is.take c), none⟩ T1 i := by
          rcases hrd k i hit with ⟨l2, h2⟩ | ⟨l2, h2⟩
          · exact step1_pre (R := R) (S := ⟨ownL (fun k => listed.getD k false) (is.take c) own, als (fun k => listed.getD k false) 0 (is.take c), laL (fun k => listed.getD k false) (is.take c), none⟩) h2 rfl (fun p size bytes s x e => eats_there hp hit hku' hanc e) (fun p size bytes s x e => eatsOk_nl hp.eats i (List.mem_of_getElem? hit) p size bytes s x e)
          · exact step1_x h2 rfl
        have hL'' : ∀ q, (fun q => (listed.setIfInBounds k true).getD q false) q = (listed.getD q false || decide (q = k)) := hL'
        rw [hdst] at hs1
        have hmix : ∀ r, get (putR o.dst v (mix (fun k => listed.getD k false) 0 (is.take c) vs rs)) r = get (mix (fun q => (listed.setIfInBounds k true).getD q false) 0 (is.take c) vs rs) r := fun r => by
          by_cases hr : o.dst = some r
          · have h1 : get (putR o.dst v (mix (fun k => listed.getD k false) 0 (is.take c) vs rs)) r = v := by rw [hr]; simp [putR, get]
            rw [h1, mix_some _ vs 0 rs k i v hit hv (by rw [Nat.zero_add]; exact getD_set_self hks2) (by rw [hdst]; exact hr) fun q i2 hq h2 e2 => by
              have := oneWriter_at hp.one k q i i2 r hit h2 (by rw [hdst]; exact hr) e2
              omega]
          · rw [get_putR hr]
            by_cases hw : ∃ (j : Nat) (i' : VI), (is.take c)[j]? = some i' ∧ i'.dst = some r ∧ listed.getD j false = true
            · obtain ⟨j, i', hj, hjd, hjl⟩ := hw
              have hjv : j < vs.length := by rw [hvs]; exact (List.getElem?_eq_some_iff.1 hj).1
              have hvj : vs[j]? = some vs[j] := by simp [hjv]
              have uniq : ∀ (q : Nat) (i2 : VI), j < q → (is.take c)[q]? = some i2 → i2.dst ≠ some r := fun q i2 hq h2 e => by
                have := oneWriter_at hp.one j q i' i2 r hj h2 hjd e
                omega
              rw [mix_some _ vs 0 rs j i' vs[j] hj hvj (by rw [Nat.zero_add]; exact hjl) hjd uniq, mix_some _ vs 0 rs j i' vs[j] hj hvj (by rw [Nat.zero_add, hL', hjl]; rfl) hjd uniq]
            · rw [mix_none _ vs 0 rs fun j i' hj hjl e => hw ⟨j, i', hj, e, by rw [Nat.zero_add] at hjl; exact hjl⟩, mix_none _ vs 0 rs fun j i' hj hjl e => ?_]
              rw [Nat.zero_add, hL'] at hjl
              simp only [Bool.or_eq_true, decide_eq_true_eq] at hjl
              rcases hjl with hjl | rfl
              · exact hw ⟨j, i', hj, e, hjl⟩
              · rw [hit] at hj; cases hj
                rw [hdst] at e
                exact hr e
        have hK : ∀ u w' g', GLe g g' → Inv cx N hb0 ⟨ownL (fun q => (listed.setIfInBounds k true).getD q false) (is.take c) own, als (fun q => (listed.setIfInBounds k true).getD q false) 0 (is.take c), laL (fun q => (listed.setIfInBounds k true).getD q false) (is.take c), none⟩ (putR o.dst v (mix (fun k => listed.getD k false) 0 (is.take c) vs rs)) (hAt oc h fun q => (listed.setIfInBounds k true).getD q false) (flAt oc fl fun q => (listed.setIfInBounds k true).getD q false) g' (a.put o.dst u) w' →
            wpAny P .any ops Q fuel (listed.setIfInBounds k true) (a.put o.dst u) w' := fun u w' g' hle' hi' => ih (listed.setIfInBounds k true) g' (a.put o.dst u) w' (by simpa using hsz) hcl' hns' hcnt' (hle.trans hle') (hi'.regs hmix)
        have hgo := pre_step (S' := ⟨ownL (fun q => (listed.setIfInBounds k true).getD q false) (is.take c) own, als (fun q => (listed.setIfInBounds k true).getD q false) 0 (is.take c), laL (fun q => (listed.setIfInBounds k true).getD q false) (is.take c), none⟩) (K := wpAny P .any ops Q fuel (listed.setIfInBounds k true)) (Q := Q) (ops := ops) hi hC htri (hln i (List.mem_of_mem_take (List.mem_of_getElem? hit))) (hd o (List.mem_of_getElem? hol)) hb2 (v := v) (by
            have noflag : ∀ f : Fl, f.or .no = f := fun f => Fl.or_no f
            cases b with
            | true =>
              have hgood := hx rfl
              refine .inl ⟨rfl, ?_⟩
              cases oc with
              | none =>
                obtain ⟨q, hq, hqv, h5, h6⟩ := hgood
                exact ⟨q, by show evalOp _ _ _ _ h _ = _; rw [hev]; exact hq, hqv, h5, by rw [h6]; exact noflag _⟩
              | some ch =>
                rcases hgood with ⟨hkx, q, hq, hqv, h5, h6⟩ | ⟨hkx, g1, g2⟩
                · subst hkx
                  refine ⟨q, ?_, hqv, ?_, ?_⟩
                  · simp only [hAt]; rw [hku', cnd_false, hev]; exact hq
                  · simp only [hAt]; rw [getD_set_self hks2, cnd_true]; exact h5
                  · simp only [flAt]; rw [hku', getD_set_self hks2, cnd_true, cnd_false]; exact h6
                · have hLx : (listed.setIfInBounds k true).getD ch.x false = listed.getD ch.x false := by rw [hL']; simp [Ne.symm hkx]
                  simp only [hAt, flAt]
                  rw [hLx]
                  cases hlx : listed.getD ch.x false with
                  | true =>
                    have hnb : ((masks ops.toList []).getD ch.x 0).testBit k = false := by
                      cases hb3 : ((masks ops.toList []).getD ch.x 0).testBit k with
                      | false => rfl
                      | true => have := ctrue listed hcl ch.x hlx k hb3; rw [hku'] at this; cases this
                    obtain ⟨q, hq, hqv, h5, h6⟩ := g1 hnb
                    exact ⟨q, by rw [cnd_true, hev]; exact hq, hqv, by rw [cnd_true]; exact h5, by rw [h6, cnd_true]; exact noflag _⟩
                  | false =>
                    have hnb : ((masks ops.toList []).getD k 0).testBit ch.x = false := by
                      cases hb3 : ((masks ops.toList []).getD k 0).testBit ch.x with
                      | false => rfl
                      | true => have := hanc ch.x hb3; rw [hlx] at this; cases this
                    obtain ⟨q, hq, hqv, h5, h6⟩ := g2 hnb
                    exact ⟨q, by rw [cnd_false, hev]; exact hq, hqv, by rw [cnd_false]; exact h5, by rw [h6, cnd_false]; exact noflag _⟩
            | false =>
              obtain ⟨hu, hsk⟩ := hy rfl
              refine .inr ⟨rfl, hu, ?_⟩
              cases oc with
              | none => exact ⟨rfl, rfl⟩
              | some ch =>
                simp only [hAt, flAt]
                by_cases hkx : k = ch.x
                · obtain ⟨e1, e2⟩ := hsk hkx
                  rw [e1, e2]
                  constructor <;> (cases (listed.setIfInBounds k true).getD ch.x false <;> cases listed.getD ch.x false <;> rfl)
                · have hLx : (listed.setIfInBounds k true).getD ch.x false = listed.getD ch.x false := by rw [hL']; simp [Ne.symm hkx]
                  rw [hLx]
                  exact ⟨rfl, rfl⟩) rfl rfl
          ⟨T1, hs1, hres.pd, fun x hx' => (by
              rcases own_next hp hit hku' hL' hx' with h5 | ⟨h5, h6, h7⟩
              · exact hres.tok x h5
              · exact hres.own x h5 h6 h7), fun x hx' => (by
              rcases al_next hp hit hku' hL' (ctrue listed hcl) hx' with h5 | ⟨h5, h6⟩
              · obtain ⟨e1, e2, e3, e4⟩ := alOf_inv h5
                exact hres.mv x.1 x.2 e1 e3 e4
              · exact hres.al x h5 h6), fun x hx' => (by
              obtain ⟨h4, h5 | ⟨h5, h6⟩⟩ := la_next hp hit hku' hL' (ctrue listed hcl) hx'
              · exact hres.ld x h5
              · exact hres.la h4 x h5 h6)⟩
          (fun hbf => by
            have hguard : i.guard ≠ none := fun e => by rw [e] at hb2; simp [wanted] at hb2; rw [hbf] at hb2; cases hb2
            refine ⟨fun x hx' => ?_, fun x hx' => ?_, fun x hx' => ?_⟩
            · rcases own_next hp hit hku' hL' hx' with h5 | ⟨h5, h6, h7⟩
              · exact absurd (tokenOf_inv h5).2 hguard
              · rw [hdst] at h6; exact ⟨h5, h6⟩
            · rcases al_next hp hit hku' hL' (ctrue listed hcl) hx' with h5 | ⟨h5, h6⟩
              · exact absurd (alOf_inv h5).2.1 hguard
              · rw [hdst] at h6; exact ⟨h5, h6⟩
            · obtain ⟨h4, h5 | ⟨h5, h6⟩⟩ := la_next hp hit hku' hL' (ctrue listed hcl) hx'
              · exact absurd (laOf_inv h5).2.1 hguard
              · rw [hdst] at h6; exact ⟨h5, h6⟩) hK
        unfold wpOp
        simp only [ho]
        exact hgo
theorem mix_false : ∀ (is : List VI) (vs : List V) (k : Nat) (rs : Regs), mix (fun _ => false) k is vs rs = rs
  | [], vs, _, _ => by cases vs <;> rfl
  | _ :: _, [], _, _ => rfl
  | i :: is, v :: vs, k, rs => by simp only [mix, cnd_false]; exact mix_false is vs (k + 1) rs
theorem mix_append {L : Nat → Bool} : ∀ (A is : List VI) (vsA vs : List V) (k : Nat) (rs : Regs), vsA.length = A.length → mix L k (A ++ is) (vsA ++ vs) rs = mix L (k + A.length) is vs (mix L k A vsA rs)
  | [], is, [], vs, k, rs, _ => rfl
  | [], _, _ :: _, _, _, _, h => by simp at h
  | _ :: _, _, [], _, _, _, h => by simp at h
  | i :: A, is, v :: vsA, vs, k, rs, h => by
    simp only [List.cons_append, mix, List.length_cons]
    rw [mix_append A is vsA vs (k + 1) _ (by simpa using h), show k + 1 + A.length = k + (A.length + 1) by omega]
theorem mix_off {L : Nat → Bool} (is : List VI) (vs : List V) (k : Nat) (rs : Regs) (h : ∀ j, j < is.length → L (k + j) = false) : mix L k is vs rs = rs := by
  rw [mix_congr is vs k rs L (fun _ => false) h, mix_false]
theorem mix_succ {pre : List VI} {vs : List V} {rs : Regs} {j : Nat} {i : VI} {v : V} (hlen : vs.length = pre.length) (hi : pre[j]? = some i) (hv : vs[j]? = some v) :
    mix (fun q => decide (q < 0 + (j + 1))) 0 pre vs rs = putR i.dst v (mix (fun q => decide (q < 0 + j)) 0 pre vs rs) := by
  obtain ⟨hlt, he⟩ := List.getElem?_eq_some_iff.1 hi
  obtain ⟨hlt', he'⟩ := List.getElem?_eq_some_iff.1 hv
  have e1 : pre = pre.take j ++ i :: pre.drop (j + 1) := by rw [← he, ← List.drop_eq_getElem_cons hlt, List.take_append_drop]
  have e2 : vs = vs.take j ++ v :: vs.drop (j + 1) := by rw [← he', ← List.drop_eq_getElem_cons hlt', List.take_append_drop]
  have l1 : (vs.take j).length = (pre.take j).length := by simp [hlen]
  have l2 : (pre.take j).length = j := by simp; omega
  have key : ∀ L : Nat → Bool, mix L 0 pre vs rs = mix L (j + 1) (pre.drop (j + 1)) (vs.drop (j + 1)) (cnd (L j) (putR i.dst v (mix L 0 (pre.take j) (vs.take j) rs)) (mix L 0 (pre.take j) (vs.take j) rs)) := fun L => by
    have := mix_append (L := L) (pre.take j) (i :: pre.drop (j + 1)) (vs.take j) (v :: vs.drop (j + 1)) 0 rs l1
    rw [← e1, ← e2, l2, Nat.zero_add] at this
    rw [this]
    rfl
  rw [key, key]
  rw [mix_off _ _ (j + 1) _ (fun q _ => decide_eq_false (by omega)), mix_off _ _ (j + 1) _ (fun q _ => decide_eq_false (by omega))]
  rw [show decide (j < 0 + (j + 1)) = true from decide_eq_true (by omega), show decide (j < 0 + j) = false from decide_eq_false (by omega), cnd_true, cnd_false]
  congr 1
  exact mix_congr _ _ _ _ _ _ fun q hq => by rw [l2] at hq; rw [decide_eq_true (by omega), decide_eq_true (by omega)]
theorem canonX {C : Callee} {fb lb : Nat} {A B : List VI} {X : VI} {rs : Regs} {h : Heap} {fl : Fl} {r : Regs × Heap × Fl} (hA : ∀ i ∈ A, (readsOf i.op).isSome = true) (hB : ∀ i ∈ B, (readsOf i.op).isSome = true) (he : evalOps C fb lb (A ++ X :: B) rs h fl = some r) :
    ∃ (vs : List V) (h1 : Heap) (fl1 : Fl), vs.length = (A ++ X :: B).length ∧ r = (mix (fun _ => true) 0 (A ++ X :: B) vs rs, h1, fl1) ∧ ∀ (j : Nat) (i : VI), (A ++ X :: B)[j]? = some i → ∃ b v, vs[j]? = some v ∧ wanted (mix (fun q => decide (q < 0 + j)) 0 (A ++ X :: B) vs rs) i.guard = some b ∧
      (b = true → ∃ q, evalOp C fb lb (mix (fun q => decide (q < 0 + j)) 0 (A ++ X :: B) vs rs) (if j ≤ A.length then h else h1) i.op = some q ∧ q.1 = v ∧ (j = A.length → q.2.1 = h1 ∧ fl1 = fl.or q.2.2)) ∧ (b = false → v = .undef ∧ (j = A.length → h1 = h ∧ fl1 = fl)) := by
  rw [evalOps_append] at he
  obtain ⟨r0, h0, he⟩ := bnd_eq_some he
  obtain ⟨vsA, lA, eA, allA⟩ := canon A 0 rs r0 hA h0
  subst eA
  simp only [evalOps] at he
  obtain ⟨b, hb, he⟩ := bnd_eq_some he
  -- the part behind, whatever X has done
  have rest : ∀ (v : V) (h1 : Heap) (fl1 : Fl), evalOps C fb lb B (putR X.dst v (mix (fun _ => true) 0 A vsA rs)) h1 fl1 = some r →
      (b = true → ∃ q, evalOp C fb lb (mix (fun _ => true) 0 A vsA rs) h X.op = some q ∧ q.1 = v ∧ q.2.1 = h1 ∧ fl1 = fl.or q.2.2) → (b = false → v = .undef ∧ h1 = h ∧ fl1 = fl) →
      ∃ (vs : List V) (h1 : Heap) (fl1 : Fl), vs.length = (A ++ X :: B).length ∧ r = (mix (fun _ => true) 0 (A ++ X :: B) vs rs, h1, fl1) ∧ ∀ (j : Nat) (i : VI), (A ++ X :: B)[j]? = some i → ∃ b v, vs[j]? = some v ∧ wanted (mix (fun q => decide (q < 0 + j)) 0 (A ++ X :: B) vs rs) i.guard = some b ∧
        (b = true → ∃ q, evalOp C fb lb (mix (fun q => decide (q < 0 + j)) 0 (A ++ X :: B) vs rs) (if j ≤ A.length then h else h1) i.op = some q ∧ q.1 = v ∧ (j = A.length → q.2.1 = h1 ∧ fl1 = fl.or q.2.2)) ∧ (b = false → v = .undef ∧ (j = A.length → h1 = h ∧ fl1 = fl)) := by
    intro v h1 fl1 hB' hx hy
    obtain ⟨vsB, lB, eB, allB⟩ := canon B (A.length + 1) _ r hB hB'
    have split : ∀ L : Nat → Bool, mix L 0 (A ++ X :: B) (vsA ++ v :: vsB) rs = mix L (A.length + 1) B vsB (cnd (L A.length) (putR X.dst v (mix L 0 A vsA rs)) (mix L 0 A vsA rs)) := fun L => by
      rw [mix_append A (X :: B) vsA (v :: vsB) 0 rs lA, Nat.zero_add]
      rfl
    refine ⟨vsA ++ v :: vsB, h1, fl1, by simp [lA, lB], by rw [eB, split]; rfl, fun j i hi => ?_⟩
    rcases Nat.lt_trichotomy j A.length with hj | hj | hj
    · rw [List.getElem?_append_left hj] at hi
      obtain ⟨b', v', e1, e2, e3, e4⟩ := allA j i hi
      have em : mix (fun q => decide (q < 0 + j)) 0 (A ++ X :: B) (vsA ++ v :: vsB) rs = mix (fun q => decide (q < 0 + j)) 0 A vsA rs := by
        rw [split, mix_off _ _ _ _ (fun q _ => decide_eq_false (by omega)), decide_eq_false (by omega)]; rfl
      refine ⟨b', v', by rw [List.getElem?_append_left (by omega)]; exact e1, by rw [em]; exact e2, fun hb' => ?_, fun hb' => ⟨e4 hb', fun e => by omega⟩⟩
      obtain ⟨q, g1, g2⟩ := e3 hb'
      exact ⟨q, by rw [em, if_pos (by omega)]; exact g1, g2, fun e => by omega⟩
    · subst hj
      rw [List.getElem?_append_right (Nat.le_refl _)] at hi
      simp at hi
      subst hi
      have em : mix (fun q => decide (q < 0 + A.length)) 0 (A ++ X :: B) (vsA ++ v :: vsB) rs = mix (fun _ => true) 0 A vsA rs := by
        rw [split, mix_off _ _ _ _ (fun q _ => decide_eq_false (by omega)), decide_eq_false (by omega), cnd_false]
        exact mix_congr _ _ _ _ _ _ fun q hq => decide_eq_true (by omega)
      refine ⟨b, v, by rw [List.getElem?_append_right (by omega), lA]; simp, by rw [em]; exact hb, fun hb' => ?_, fun hb' => ?_⟩
      · obtain ⟨q, g1, g2, g3, g4⟩ := hx hb'
        exact ⟨q, by rw [em, if_pos (Nat.le_refl _)]; exact g1, g2, fun _ => ⟨g3, g4⟩⟩
      · obtain ⟨g1, g2, g3⟩ := hy hb'
        exact ⟨g1, fun _ => ⟨g2, g3⟩⟩
    · obtain ⟨j', rfl⟩ : ∃ j', j = A.length + 1 + j' := ⟨j - (A.length + 1), by omega⟩
      rw [List.getElem?_append_right (by omega), show A.length + 1 + j' - A.length = j' + 1 by omega] at hi
      simp only [List.getElem?_cons_succ] at hi
      obtain ⟨b', v', e1, e2, e3, e4⟩ := allB j' i hi
      have em : mix (fun q => decide (q < 0 + (A.length + 1 + j'))) 0 (A ++ X :: B) (vsA ++ v :: vsB) rs = mix (fun q => decide (q < A.length + 1 + j')) (A.length + 1) B vsB (putR X.dst v (mix (fun _ => true) 0 A vsA rs)) := by
        rw [split, decide_eq_true (by omega), cnd_true, Nat.zero_add]
        congr 1
        congr 1
        exact mix_congr _ _ _ _ _ _ fun q hq => decide_eq_true (by omega)
      refine ⟨b', v', by rw [List.getElem?_append_right (by omega), lA, show A.length + 1 + j' - A.length = j' + 1 by omega]; exact e1, by rw [em]; exact e2, fun hb' => ?_, fun hb' => ⟨e4 hb', fun e => by omega⟩⟩
      obtain ⟨q, g1, g2⟩ := e3 hb'
      exact ⟨q, by rw [em, if_neg (by omega)]; exact g1, g2, fun e => by omega⟩
  cases b with
  | true =>
    simp only [cnd_true] at he
    obtain ⟨q, hq, he⟩ := bnd_eq_some he
    exact rest q.1 q.2.1 (fl.or q.2.2) he (fun _ => ⟨q, hq, rfl, rfl, rfl⟩) (fun e => by cases e)
  | false =>
    simp only [cnd_false] at he
    exact rest .undef h fl he (fun e => by cases e) (fun _ => ⟨rfl, rfl, rfl⟩)

theorem region_ok {C : Callee} {ops : Array Oper} {id : Nat} (hC : FnOk P R C) (hm : P.follows .mixedOrders = true) {c : Nat} {is gs : List VI} (htr : trIs P ops ops.toList gs = some is) (hf : PreFacts c ops.toList is) (hln : ∀ i ∈ is, linOkV P i.op) {own : Ows} {T : Ow} (hT : Ow.steps R (is.drop c) (preOw c is own) = some T)
    (hd : ∀ o ∈ ops.toList, ∀ x, o.dst = some x → x < N) (hi : Inv0 cx N hb0 own rs h fl g a w) {vs : List V} (hvs : vs.length = (is.take c).length) {oc : Option Chg}
    (hall : ∀ (j : Nat) (i : VI), (is.take c)[j]? = some i → ∃ b v, vs[j]? = some v ∧ wanted (mix (fun q => decide (q < 0 + j)) 0 (is.take c) vs rs) i.guard = some b ∧
      (b = true → Good C cx.n0 hb0.length oc (masks ops.toList []) h fl j (mix (fun q => decide (q < 0 + j)) 0 (is.take c) vs rs) i.op v) ∧ (b = false → v = .undef ∧ Skip oc h fl j))
    (hcx : ∀ ch, oc = some ch → ch.x < c) (hrd : ∀ (j : Nat) (i : VI), (is.take c)[j]? = some i → (∃ l, readsOf i.op = some l) ∨ ∃ l, readsX i.op = some l)
    {rs' : Regs} {h' : Heap} {fl' : Fl} (he : evalOps C cx.n0 hb0.length (is.drop c) (mix (fun _ => true) 0 (is.take c) vs rs) (hAt oc h fun _ => true) (flAt oc fl fun _ => true) = some (rs', h', fl')) {Q : Exit → Act → World → Prop}
    (hQ : ∀ g' a' w', GLe g g' → Inv cx N hb0 T rs' h' fl' g' a' w' → Q .normal a' w') : (Code.region id ops true).wp P Q a w := by
  refine wp_region_any hm ?_
  have hfalse : (fun k => (Array.replicate ops.size false).getD k false) = fun _ => false := by
    funext k
    by_cases hk : k < ops.size
    · simp [Array.getD, hk]
    · simp [Array.getD, hk]
  have eh : (hAt oc h fun k => (Array.replicate ops.size false).getD k false) = h ∧ (flAt oc fl fun k => (Array.replicate ops.size false).getD k false) = fl := by
    rw [hfalse]
    cases oc <;> exact ⟨rfl, rfl⟩
  have hi' : Inv cx N hb0 ⟨ownL (fun k => (Array.replicate ops.size false).getD k false) (is.take c) own, als (fun k => (Array.replicate ops.size false).getD k false) 0 (is.take c), laL (fun k => (Array.replicate ops.size false).getD k false) (is.take c), none⟩ (mix (fun k => (Array.replicate ops.size false).getD k false) 0 (is.take c) vs rs) (hAt oc h fun k => (Array.replicate ops.size false).getD k false) (flAt oc fl fun k => (Array.replicate ops.size false).getD k false) g a w.drew := by
    rw [eh.1, eh.2, hfalse, mix_false]
    refine (Inv.drew hi).weaken (fun x hx => ?_) (fun x hx => ?_) (fun x hx => ?_) rfl
    · obtain ⟨h1, _⟩ := mem_ownL.1 hx
      rcases h1 with h1 | h1
      · exact (List.mem_filter.1 h1).1
      · obtain ⟨j, i, _, h2, _⟩ := mem_toks.1 h1
        cases h2
    · obtain ⟨j, i, _, h2, _⟩ := mem_als.1 hx
      cases h2
    · obtain ⟨j, i, _, h2, _⟩ := mem_las.1 (mem_laL.1 hx).2
      cases h2
  have hnone : ∀ k, (Array.replicate ops.size false).getD k false = false := fun k => congrFun hfalse k
  exact first_ok hC htr hf hln hT hd hvs hall hcx hrd he g hQ ops.size (Array.replicate ops.size false) g a w.drew (by simp) (fun k o _ hk => by rw [hnone k] at hk; cases hk) (fun k _ => hnone k) (Nat.le_trans (List.length_filter_le _ _) (by simp)) (GLe.refl g) hi'
theorem dops_ok {C : Callee} {ops : Array Oper} {id : Nat} (hC : FnOk P R C) (hm : P.follows .mixedOrders = true) {c : Nat} {is gs : List VI} (htr : trIs P ops ops.toList gs = some is) (hp : preOk c none ops.toList is = true) (hln : ∀ i ∈ is, linOkV P i.op) {own : Ows} {T : Ow} (hT : Ow.steps R (is.drop c) (preOw c is own) = some T)
    (hd : ∀ o ∈ ops.toList, ∀ x, o.dst = some x → x < N) (hi : Inv0 cx N hb0 own rs h fl g a w) {rs' : Regs} {h' : Heap} {fl' : Fl} (he : evalOps C cx.n0 hb0.length is rs h fl = some (rs', h', fl')) {Q : Exit → Act → World → Prop}
    (hQ : ∀ g' a' w', GLe g g' → Inv cx N hb0 T rs' h' fl' g' a' w' → Q .normal a' w') : (Code.region id ops true).wp P Q a w := by
  simp only [preOk, Bool.and_eq_true] at hp
  have hf := preFacts hp.2
  have hch : ∀ (j : Nat) (i : VI), (is.take c)[j]? = some i → ∃ l, readsOf i.op = some l := fun j i hi => chgOk_at hp.1 j i hi
  have hsplit : is.take c ++ is.drop c = is := List.take_append_drop c is
  rw [← hsplit, evalOps_append] at he
  obtain ⟨r, hr, he⟩ := bnd_eq_some he
  obtain ⟨vs, hvs, hre, hall⟩ := canon (is.take c) 0 rs r (fun i hi' => by
    obtain ⟨j, hj⟩ := List.getElem?_of_mem hi'
    obtain ⟨l, hl⟩ := hch j i hj
    rw [hl]; rfl) hr
  subst hre
  refine region_ok hC hm htr hf hln hT hd hi hvs (oc := none) (fun j i hi => ?_) (fun ch e => by cases e) (fun j i hi => .inl (hch j i hi)) he hQ
  obtain ⟨b, v, e1, e2, e3, e4⟩ := hall j i hi
  refine ⟨b, v, e1, e2, fun hb => ?_, fun hb => ⟨e4 hb, trivial⟩⟩
  obtain ⟨q, g1, g2⟩ := e3 hb
  obtain ⟨l, hl⟩ := hch j i hi
  have h5 := evalOp_still hl g1
  exact ⟨q, g1, g2, h5.1, h5.2⟩
theorem xops_ok {C : Callee} {ops : Array Oper} {id : Nat} (hC : FnOk P R C) (hm : P.follows .mixedOrders = true) {c x : Nat} {chk : List Nat} {is gs : List VI} (htr : trIs P ops ops.toList gs = some is) (hp : preOk c (some (x, chk)) ops.toList is = true) (hxc : x < c) (hln : ∀ i ∈ is, linOkV P i.op) {own : Ows} {T : Ow} (hT : Ow.steps R (is.drop c) (preOw c is own) = some T)
    (hd : ∀ o ∈ ops.toList, ∀ x, o.dst = some x → x < N) (hi : Inv0 cx N hb0 own rs h fl g a w) {rs' : Regs} {h' : Heap} {fl' : Fl} (he : evalOps C cx.n0 hb0.length is rs h fl = some (rs', h', fl')) (hag : agree C cx.n0 hb0.length x chk is rs h fl) {Q : Exit → Act → World → Prop}
    (hQ : ∀ g' a' w', GLe g g' → Inv cx N hb0 T rs' h' fl' g' a' w' → Q .normal a' w') : (Code.region id ops true).wp P Q a w := by
  simp only [preOk, Bool.and_eq_true] at hp
  have hf := preFacts hp.2
  have hch := fun (j : Nat) (i : VI) (hi : (is.take c)[j]? = some i) => chgOk_at hp.1 j i hi
  simp only [Nat.zero_add] at hch
  have hlen : (is.take c).length = c := by have := hf.le; simp; omega
  have hxl : x < (is.take c).length := by omega
  obtain ⟨X, hX, hdrop, _⟩ : ∃ X, (is.take c)[x]? = some X ∧ (is.take c).drop x = X :: (is.take c).drop (x + 1) ∧ True := ⟨_, List.getElem?_eq_getElem hxl, List.drop_eq_getElem_cons hxl, trivial⟩
  have hpre : is.take c = (is.take c).take x ++ X :: (is.take c).drop (x + 1) := by rw [← hdrop, List.take_append_drop]
  have hAl : ((is.take c).take x).length = x := by rw [List.length_take]; omega
  have hsplit : is.take c ++ is.drop c = is := List.take_append_drop c is
  have hrun := he
  rw [← hsplit, evalOps_append] at he
  obtain ⟨r, hr, he⟩ := bnd_eq_some he
  have isS : ∀ (j : Nat) (i : VI), j ≠ x → (is.take c)[j]? = some i → ∃ l, readsOf i.op = some l := fun j i hj hi => by
    rcases hch j i hi with ⟨h1, _⟩ | ⟨_, h1, _⟩
    · exact absurd h1 hj
    · exact h1
  have hr' := hr
  rw [hpre] at hr'
  obtain ⟨vs, h1, fl1, hvs, hre, hall⟩ := canonX (fun i hi' => by
    obtain ⟨j, hj⟩ := List.getElem?_of_mem hi'
    have hjl := (List.getElem?_eq_some_iff.1 hj).1
    rw [List.getElem?_take, if_pos (by omega)] at hj
    obtain ⟨l, hl⟩ := isS j i (by omega) hj
    rw [hl]; rfl) (fun i hi' => by
    obtain ⟨j, hj⟩ := List.getElem?_of_mem hi'
    rw [List.getElem?_drop] at hj
    obtain ⟨l, hl⟩ := isS (x + 1 + j) i (by omega) hj
    rw [hl]; rfl) hr'
  rw [← hpre] at hvs hre hall
  rw [hAl] at hall
  subst hre
  -- the part of the run up to an operation
  have upto : ∀ j, j ≤ c → ∃ fj, evalOps C cx.n0 hb0.length (is.take j) rs h fl = some (mix (fun q => decide (q < 0 + j)) 0 (is.take c) vs rs, (if j ≤ x then h else h1), fj) := by
    intro j
    induction j with
    | zero => intro _; exact ⟨fl, by rw [List.take_zero, mix_off _ _ _ _ (fun q _ => decide_eq_false (by omega)), if_pos (by omega)]; rfl⟩
    | succ j ih =>
      intro hj
      obtain ⟨fj, e1⟩ := ih (by omega)
      have hjl : j < (is.take c).length := by omega
      have hjc : (is.take c)[j]? = some (is.take c)[j] := List.getElem?_eq_getElem hjl
      generalize (is.take c)[j] = i at hjc
      have hji : is[j]? = some i := by rw [List.getElem?_take, if_pos (by omega)] at hjc; exact hjc
      obtain ⟨b, v, g1, g2, g3, g4⟩ := hall j i hjc
      rw [List.take_add_one, hji, evalOps_append, e1, bnd_some, mix_succ hvs hjc g1]
      simp only [Option.toList_some, evalOps, g2, bnd_some]
      cases b with
      | false =>
        obtain ⟨u1, u2⟩ := g4 rfl
        refine ⟨fj, ?_⟩
        rw [cnd_false, u1]
        by_cases hjx : j = x
        · obtain ⟨u3, _⟩ := u2 hjx
          rw [if_pos (by omega), if_neg (by omega), u3]
        · by_cases hlt : j < x
          · rw [if_pos (by omega), if_pos (by omega)]
          · rw [if_neg (by omega), if_neg (by omega)]
      | true =>
        obtain ⟨q, u1, u2, u3⟩ := g3 rfl
        refine ⟨fj.or q.2.2, ?_⟩
        rw [cnd_true, u1, bnd_some, u2]
        by_cases hjx : j = x
        · obtain ⟨u4, _⟩ := u3 hjx
          rw [if_neg (by omega), u4]
        · obtain ⟨l, hl⟩ := isS j i hjx hjc
          have u5 := (evalOp_still hl u1).1
          rw [u5]
          by_cases hlt : j < x
          · rw [if_pos (by omega), if_pos (by omega)]
          · rw [if_neg (by omega), if_neg (by omega)]
  have hcl : c ≤ is.length := hf.le
  refine region_ok hC hm htr hf hln hT hd hi hvs (oc := some ⟨x, h1, fl1⟩) (fun j i hi => ?_) (fun ch e => by cases e; exact hxc) (fun j i hi => ?_) he hQ
  · obtain ⟨b, v, e1, e2, e3, e4⟩ := hall j i hi
    refine ⟨b, v, e1, e2, fun hb => ?_, fun hb => ⟨(e4 hb).1, fun e => (e4 hb).2 e⟩⟩
    obtain ⟨q, g1, g2, g3⟩ := e3 hb
    by_cases hjx : j = x
    · obtain ⟨g4, g5⟩ := g3 hjx
      rw [if_pos (by omega)] at g1
      exact .inl ⟨hjx, q, g1, g2, g4, g5.symm⟩
    · obtain ⟨l, hl⟩ := isS j i hjx hi
      have still : ∀ hh q', evalOp C cx.n0 hb0.length (mix (fun q => decide (q < 0 + j)) 0 (is.take c) vs rs) hh i.op = some q' → q'.2.1 = hh ∧ q'.2.2 = .no := fun hh q' hq' => evalOp_still hl hq'
      have there : ∀ hh q', evalOp C cx.n0 hb0.length (mix (fun q => decide (q < 0 + j)) 0 (is.take c) vs rs) hh i.op = some q' → q'.1 = v → ∃ q, evalOp C cx.n0 hb0.length (mix (fun q => decide (q < 0 + j)) 0 (is.take c) vs rs) hh i.op = some q ∧ q.1 = v ∧ q.2.1 = hh ∧ q.2.2 = .no := fun hh q' hq' e => ⟨q', hq', e, (still hh q' hq').1, (still hh q' hq').2⟩
      rcases hch j i hi with ⟨k1, _⟩ | ⟨_, _, k2⟩
      · exact absurd k1 hjx
      · refine .inr ⟨hjx, fun n1 => ?_, fun n1 => ?_⟩
        · -- at the heap behind
          rcases k2 with k2 | k2 | k2 | k2
          · have := evalOp_free k2 hl g1 h1
            exact there h1 _ this g2
          · simp only at n1; rw [n1] at k2; cases k2
          · -- it stands behind x
            have hlt : x < j := bit_lt hf.back (o := ops.toList[j]'(by have := trIs_len htr; have := (List.getElem?_eq_some_iff.1 hi).1; omega)) (List.getElem?_eq_getElem _) k2
            rw [if_neg (by omega)] at g1
            exact there h1 q g1 g2
          · obtain ⟨fj, r1⟩ := upto j (by have := (List.getElem?_eq_some_iff.1 hi).1; omega)
            obtain ⟨fx, r2⟩ := upto (x + 1) (by omega)
            rw [if_neg (by omega)] at r2
            have hji : is[j]? = some i := by rw [List.getElem?_take] at hi; split at hi; exact hi; cases hi
            obtain ⟨_, q2, a1, a2⟩ := hag j k2 i hji _ _ _ r1 (by rw [e2, hb]) _ _ _ r2 q g1
            exact there h1 q2 a1 (a2.trans g2)
        · rcases k2 with k2 | k2 | k2 | k2
          · have := evalOp_free k2 hl g1 h
            exact there h _ this g2
          · have hlt : j < x := bit_lt hf.back (o := ops.toList[x]'(by have h5 := (trIs_len htr).1; have h6 := hf.le; omega)) (List.getElem?_eq_getElem _) k2
            rw [if_pos (by omega)] at g1
            exact there h q g1 g2
          · simp only at n1; rw [n1] at k2; cases k2
          · obtain ⟨fj, r1⟩ := upto j (by have := (List.getElem?_eq_some_iff.1 hi).1; omega)
            obtain ⟨fx, r2⟩ := upto (x + 1) (by omega)
            rw [if_neg (by omega)] at r2
            have hji : is[j]? = some i := by rw [List.getElem?_take] at hi; split at hi; exact hi; cases hi
            obtain ⟨⟨q1, a1, a2⟩, _⟩ := hag j k2 i hji _ _ _ r1 (by rw [e2, hb]) _ _ _ r2 q g1
            exact there h q1 a1 (a2.trans g2)
  · by_cases hjx : j = x
    · rcases hch j i hi with ⟨_, k1⟩ | ⟨k1, _⟩
      · exact .inr k1
      · exact absurd hjx k1
    · exact .inl (isS j i hjx hi)
end
end Go.Vm

/- Code: blocks, loops. -/
set_option linter.unusedVariables false
set_option linter.unusedSimpArgs false
namespace Go.Vm
attribute [local simp] evalOps_nil evalOps_cons evalOps_consg evalOp_mv evalOp_asg evalOp_pick evalOp_build evalOp_bslice evalOp_load evalOp_nilck evalOp_bin evalOp_un evalOp_conv evalOp_mkfn evalOp_slice evalOp_faddr evalOp_field evalOp_iaddr evalOp_index evalOp_lookup evalOp_extract evalOp_app evalOp_len evalOp_mn evalOp_mx evalOp_alloc evalOp_box evalOp_mkmap evalOp_store evalOp_mapupd evalOp_delete evalOp_sliceArr evalOp_call evalOp_callv evalOp_appc code_skip code_ops code_dops code_seq code_cond code_block code_exit code_ret finish_normal finish_ret
attribute [local simp] V.lt V.ltL V.flat V.pureCell V.pure V.isCell cellEq cellsEq eqV intV shV strV isShift binV unV byteV convV minV maxV foldV foldV1 fillV fillE findV putV delV isKey natOf natOr cut cellsAt mapAt mapOf loadV pickV nilckV sizeOk allSize sliceV faddrV fieldV iaddrV indexV found extractV allPure appV lenV ownHas ownOk storeC storeV samePtr appcV boxable mapupdV deleteV sliceArrV callV allLt clean bodyEnd resV one finishV runV initR

def meet1 (x y : Ows) : Ows := x.filterMap fun e => cnd (hasOwn e.1 e.2.1 e.2.2 y) (some e) (cnd (decide (e.2.2 = 0)) (y.find? fun f => decide (f.1 = e.1) && (decide (f.2.1 = e.2.1) && !isLin f.2.2)) none)
def meet : Option Ows → Option Ows → Option Ows
  | none, y => y
  | some x, none => some x
  | some x, some y => some (meet1 x y)
def meetExits (id : Nat) : Option Ows → List (Nat × Ows) → Option Ows
  | n, [] => n
  | n, (j, o) :: l => cnd (decide (j = id)) (meetExits id (meet n (some o)) l) (meetExits id n l)
def offExits (id : Nat) (l : List (Nat × Ows)) : List (Nat × Ows) := l.filter fun x => decide (x.1 ≠ id)
def hasAllOwn : Ows → Ows → Bool
  | [], _ => true
  | (r, o, z) :: l, m => hasOwn r o z m && hasAllOwn l m
structure CRes where
  nm : Option Ows
  ex : List (Nat × Ows)
  rt : List Ows
def dopsC (R : Nat → Option Nat) (c : Nat) (is : List VI) (S : Ows) : Option Ows :=
  bnd (Ow.steps R (is.drop c) (preOw c is S)) fun T => cnd T.pd.isNone (some T.own) none
def preC : Code → VCode → Bool
  | .region _ ops true, .dops c is _ => preOk c none ops.toList is
  | .region _ ops true, .xops c x chk is _ => decide (x < c) && preOk c (some (x, chk)) ops.toList is
  | .seq a b, .seq x y => preC a x && preC b y
  | .cond _ a b, .cond _ x y => preC a x && preC b y
  | .block _ b, .block _ x => preC b x
  | .loop b, .loop _ _ x => preC b x
  | c, .gop _ y => preC c y
  | .seq (.seq o (.cond _ a b)) z, .amb vo _ va vb vz => (preC o vo && (preC a va && preC b vb)) && preC z vz
  | _, _ => true
def thenC (r : Option CRes) (f : Ows → Option CRes) : Option CRes :=
  bnd r fun p => match p.nm with
    | none => some p
    | some S => bnd (f S) fun q => some ⟨q.nm, p.ex ++ q.ex, p.rt ++ q.rt⟩
def codeC (R : Nat → Option Nat) : VCode → Ows → Option CRes
  | .skip, S => some ⟨some S, [], []⟩
  | .ops is live, S => bnd (Ow.steps R is ⟨S, [], [], none⟩) fun T => cnd T.pd.isNone (some ⟨some (keepOwn live T.own), [], []⟩) none
  | .dops c is live, S => bnd (dopsC R c is S) fun T => some ⟨some (keepOwn live T), [], []⟩
  | .xops c _ _ is live, S => bnd (dopsC R c is S) fun T => some ⟨some (keepOwn live T), [], []⟩
  | .seq x y, S => bnd (codeC R x S) fun p => match p.nm with
    | none => some p
    | some S1 => bnd (codeC R y S1) fun q => some ⟨q.nm, p.ex ++ q.ex, p.rt ++ q.rt⟩
  | .cond _ x y, S => bnd (codeC R x S) fun p => bnd (codeC R y S) fun q => some ⟨meet p.nm q.nm, p.ex ++ q.ex, p.rt ++ q.rt⟩
  | .block id x, S => bnd (codeC R x S) fun p => some ⟨meetExits id p.nm p.ex, offExits id p.ex, p.rt⟩
  | .loop live own x, S => cnd (hasAllOwn own S && linLive live own) (bnd (codeC R x own) fun p => match p.nm with
    | none => some ⟨none, p.ex, p.rt⟩
    | some S1 => cnd (hasAllOwn own S1) (some ⟨none, p.ex, p.rt⟩) none) none
  | .exit id, S => some ⟨none, [(id, S)], []⟩
  | .gop gs y, S => bnd (Ow.steps R gs ⟨S, [], [], none⟩) fun T => cnd T.pd.isNone (codeC R y T.own) none
  | .ret, S => some ⟨none, [], [S]⟩
  | .amb o _ x y z, S => thenC (thenC (codeC R o S) fun S1 => bnd (codeC R x S1) fun p => bnd (codeC R y S1) fun q => some ⟨meet p.nm q.nm, p.ex ++ q.ex, p.rt ++ q.rt⟩) fun S1 => codeC R z S1

def linC (P : Program) : VCode → Prop
  | .ops is _ | .dops _ is _ | .xops _ _ _ is _ => ∀ i ∈ is, linOkV P i.op
  | .seq x y | .cond _ x y => linC P x ∧ linC P y
  | .amb o _ x y z => (linC P o ∧ (linC P x ∧ linC P y)) ∧ linC P z
  | .block _ x | .loop _ _ x | .gop _ x => linC P x
  | _ => True
def dstOk (N : Nat) : List VI → Bool
  | [] => true
  | i :: is => (match i.dst with | some d => decide (d < N) | none => true) && dstOk N is
def dstC (N : Nat) : VCode → Bool
  | .ops is _ | .dops _ is _ | .xops _ _ _ is _ => dstOk N is
  | .seq x y | .cond _ x y => dstC N x && dstC N y
  | .amb o _ x y z => (dstC N o && (dstC N x && dstC N y)) && dstC N z
  | .block _ x | .loop _ _ x | .gop _ x => dstC N x
  | _ => true

def Wk (A B : Ows) : Prop := ∀ r o z, (r, o, z) ∈ A → ∃ z', (r, o, z') ∈ B ∧ (z' = z ∨ (z' = 0 ∧ isLin z = false))
theorem Wk.refl (A : Ows) : Wk A A := fun _ _ z h => ⟨z, h, .inl rfl⟩
theorem meet1_l {x y : Ows} : Wk (meet1 x y) x := fun r o z h => by
  simp only [meet1, List.mem_filterMap] at h
  obtain ⟨⟨r', o', z'⟩, hm, h⟩ := h
  simp only at h
  cases hh : hasOwn r' o' z' y <;> rw [hh] at h
  · simp only [cnd_false] at h
    obtain ⟨hz, h⟩ := cnd_eq_some h
    have hf := List.find?_some h
    simp only [Bool.and_eq_true, decide_eq_true_eq, Bool.not_eq_true'] at hf
    obtain ⟨rfl, rfl, hnl⟩ := hf
    exact ⟨z', hm, .inr ⟨of_decide_eq_true hz, hnl⟩⟩
  · cases h; exact ⟨z, hm, .inl rfl⟩
theorem meet1_r {x y : Ows} : Wk (meet1 x y) y := fun r o z h => by
  simp only [meet1, List.mem_filterMap] at h
  obtain ⟨⟨r', o', z'⟩, hm, h⟩ := h
  simp only at h
  cases hh : hasOwn r' o' z' y <;> rw [hh] at h
  · simp only [cnd_false] at h
    obtain ⟨hz, h⟩ := cnd_eq_some h
    exact ⟨z, List.mem_of_find?_eq_some h, .inl rfl⟩
  · cases h; exact hasOwn_mem hh
theorem Wk.trans {A B C : Ows} (h1 : Wk A B) (h2 : Wk B C) : Wk A C := fun r o z h => by
  obtain ⟨z1, m1, e1⟩ := h1 r o z h
  obtain ⟨z2, m2, e2⟩ := h2 r o z1 m1
  refine ⟨z2, m2, ?_⟩
  rcases e2 with rfl | ⟨rfl, h3⟩
  · exact e1
  · rcases e1 with rfl | ⟨rfl, h4⟩
    · exact .inr ⟨rfl, h3⟩
    · exact .inr ⟨rfl, h4⟩
theorem meet_l {x : Ows} {y z : Option Ows} (h : meet (some x) y = z) : ∃ o, z = some o ∧ Wk o x := by
  cases y with
  | none => subst h; exact ⟨x, rfl, .refl x⟩
  | some y => subst h; exact ⟨_, rfl, meet1_l⟩
theorem meet_r {y : Ows} {x z : Option Ows} (h : meet x (some y) = z) : ∃ o, z = some o ∧ Wk o y := by
  cases x with
  | none => subst h; exact ⟨y, rfl, .refl y⟩
  | some x => subst h; exact ⟨_, rfl, meet1_r⟩
theorem meetExits_n {id : Nat} : ∀ (l : List (Nat × Ows)) {x : Ows}, ∃ o, meetExits id (some x) l = some o ∧ Wk o x
  | [], x => ⟨x, rfl, .refl x⟩
  | (j, y) :: l, x => by
    simp only [meetExits]
    cases hj : decide (j = id)
    · exact meetExits_n l
    · simp only [cnd_true]
      obtain ⟨o, ho, hw⟩ := meet_l (x := x) (y := some y) rfl
      rw [ho]
      obtain ⟨o', ho', hw'⟩ := meetExits_n l (x := o)
      exact ⟨o', ho', hw'.trans hw⟩
theorem meetExits_e {id : Nat} : ∀ (l : List (Nat × Ows)) {n : Option Ows} {x : Ows}, (id, x) ∈ l → ∃ o, meetExits id n l = some o ∧ Wk o x
  | [], n, x, h => by simp at h
  | (j, y) :: l, n, x, h => by
    simp only [meetExits]
    rcases List.mem_cons.1 h with e | h
    · cases e
      simp only [decide_true, cnd_true]
      obtain ⟨o, ho, hw⟩ := meet_r (x := n) (y := y) rfl
      rw [ho]
      obtain ⟨o', ho', hw'⟩ := meetExits_n (id := id) l (x := o)
      exact ⟨o', ho', hw'.trans hw⟩
    · cases hj : decide (j = id)
      · exact meetExits_e l h
      · exact meetExits_e l h
theorem hasAllOwn_wk {B : Ows} : ∀ {A : Ows}, hasAllOwn A B = true → Wk A B
  | [], _, r, o, z, h => by simp at h
  | (r', o', z') :: l, hh, r, o, z, h => by
    simp only [hasAllOwn, Bool.and_eq_true] at hh
    rcases List.mem_cons.1 h with e | h
    · cases e; exact hasOwn_mem hh.1
    · exact hasAllOwn_wk hh.2 r o z h

section
variable {P : Program} {R : Nat → Option Nat} {cx : Cx (Tracks R)} {N : Nat} {hb0 : Heap}

theorem Inv.wk {A B : Ows} {rs : Regs} {h : Heap} {fl : Fl} {g : Gh} {a : Act} {w : World} (hi : Inv0 cx N hb0 B rs h fl g a w) (hw : Wk A B) : Inv0 cx N hb0 A rs h fl g a w := by
  obtain ⟨hO, hf⟩ := hi.own0 rfl
  refine ⟨hi.W, hi.G, ⟨none, hO.map (fun p q => p = q) (fun _ _ _ e1 e2 => e1.trans e2.symm) (fun p sz u hp => .inr ?_) (fun p q b l e hn => e ▸ hn) (fun _ _ _ _ _ _ _ => ⟨⟨rfl, fun _ h => h⟩, fun _ h1 h2 => ⟨h1, h2⟩⟩) (ImmLe.refl _) (fun r off z hm hz => ?_), ⟨hf.al, hf.la, .inl ⟨rfl, rfl⟩⟩⟩, hi.F⟩
  case refine_2 =>
    obtain ⟨z', h1, h2⟩ := hw _ _ _ hm
    rcases h2 with rfl | ⟨_, h2⟩
    · exact ⟨r, h1, rfl, rfl, rfl⟩
    · rw [h2] at hz; cases hz
  cases p with
  | cell i j => exact ⟨_, sz, rfl, hp, .inl rfl⟩
  | reg r off =>
    obtain ⟨z', h1, h2⟩ := hw _ _ _ hp.1
    exact ⟨_, z', rfl, ⟨h1, hp.2⟩, h2⟩

def exOf : Ex → Exit
  | .normal => .normal
  | .exit id => .exit id
  | .ret => .ret
def Fits {Dt : Prop} (cx : Cx Dt) (N : Nat) (hb : Heap) (res : CRes) (ex : Ex) (st : St) (g : Gh) (a : Act) (w : World) : Prop :=
  match ex with
  | .normal => ∃ o, res.nm = some o ∧ Inv0 cx N hb o st.rs st.h st.fl g a w
  | .exit id => ∃ o, (id, o) ∈ res.ex ∧ Inv0 cx N hb o st.rs st.h st.fl g a w
  | .ret => ∃ o, o ∈ res.rt ∧ Inv0 cx N hb o st.rs st.h st.fl g a w
theorem dst_ok {ops : Array Oper} : ∀ {os : List Oper} {is is' : List VI}, trIs P ops os is' = some is → dstOk N is = true → ∀ o ∈ os, ∀ x, o.dst = some x → x < N
  | [], _, _, _, _, o, ho => by simp at ho
  | o :: os, is, [], h, _, _, _ => by cases h
  | o :: os, is, g0 :: gs, h, hd, o', ho => by
    intro x hx
    simp only [trIs] at h
    obtain ⟨i, h1, h⟩ := bnd_eq_some h
    obtain ⟨l, h2, h⟩ := bnd_eq_some h
    cases h
    simp only [dstOk, Bool.and_eq_true] at hd
    rcases List.mem_cons.1 ho with rfl | ho
    · simp only [trI] at h1
      obtain ⟨gd, _, h1⟩ := bnd_eq_some h1
      obtain ⟨op, _, h1⟩ := bnd_eq_some h1
      cases h1
      have := hd.1
      simp only [hx] at this
      exact of_decide_eq_true this
    · exact dst_ok h2 hd.2 o' ho x hx

theorem dstOk_mem : ∀ {is : List VI}, dstOk N is = true → ∀ i ∈ is, ∀ x, i.dst = some x → x < N
  | [], _, i, hi => by simp at hi
  | j :: is, h, i, hi => by
    intro x hx
    simp only [dstOk, Bool.and_eq_true] at h
    rcases List.mem_cons.1 hi with rfl | hi
    · have := h.1
      simp only [hx] at this
      exact of_decide_eq_true this
    · exact dstOk_mem h.2 i hi x hx

def CodeOk (P : Program) (R : Nat → Option Nat) (cx : Cx (Tracks R)) (N : Nat) (C : Callee) (k : Nat) (code : Code) : Prop :=
  ∀ (lit v : VCode) (hb : Heap) (own : Ows) (res : CRes) (st st' : St) (ex : Ex) (g : Gh) (a : Act) (w : World) (Q : Exit → Act → World → Prop),
    trCode P code lit = some v → preC code v = true → linC P v → codeC R v own = some res → dstC N v = true → BaseLt hb → Inv0 cx N hb own st.rs st.h st.fl g a w → evalCode C (iterN k) cx.n0 v hb.length st = some (ex, st') →
    (∀ g' a' w', GLe g g' → Fits cx N hb res ex st' g' a' w' → Q (exOf ex) a' w') → code.wp P Q a w
def CodeOk' (P : Program) (R : Nat → Option Nat) (cx : Cx (Tracks R)) (N : Nat) (C : Callee) (k : Nat) (code : Code) : Prop :=
  ∀ (lit v : VCode) (hb : Heap) (own : Ows) (res : CRes) (st st' : St) (ex : Ex) (g : Gh) (a : Act) (w : World) (Q : Exit → Act → World → Prop),
    (∀ gs y, lit ≠ .gop gs y) → trCode P code lit = some v → preC code v = true → linC P v → codeC R v own = some res → dstC N v = true → BaseLt hb → Inv0 cx N hb own st.rs st.h st.fl g a w → evalCode C (iterN k) cx.n0 v hb.length st = some (ex, st') →
    (∀ g' a' w', GLe g g' → Fits cx N hb res ex st' g' a' w' → Q (exOf ex) a' w') → code.wp P Q a w
theorem gop_lift {C : Callee} {k : Nat} {code : Code} (h : CodeOk' P R cx N C k code) : CodeOk P R cx N C k code := by
  have key : ∀ (lit : VCode), (∀ gs y, lit ≠ .gop gs y) → ∀ (v : VCode) (hb : Heap) (own : Ows) (res : CRes) (st st' : St) (ex : Ex) (g : Gh) (a : Act) (w : World) (Q : Exit → Act → World → Prop),
    trCode P code lit = some v → preC code v = true → linC P v → codeC R v own = some res → dstC N v = true → BaseLt hb → Inv0 cx N hb own st.rs st.h st.fl g a w → evalCode C (iterN k) cx.n0 v hb.length st = some (ex, st') →
    (∀ g' a' w', GLe g g' → Fits cx N hb res ex st' g' a' w' → Q (exOf ex) a' w') → code.wp P Q a w := fun lit hng v hb own res st st' ex g a w Q => h lit v hb own res st st' ex g a w Q hng
  intro lit
  induction lit with
  | gop gs y ihy =>
    intro v hb own res st st' ex g a w Q htr hpre hln hc hd hbl hi he hQ
    have htr2 : (bnd (trG gs) fun l => bnd (trCode P code y) fun y => some (.gop l y)) = some v := by
      cases code <;> exact htr
    obtain ⟨l, hl, htr3⟩ := bnd_eq_some htr2
    obtain ⟨vy, hy, htr4⟩ := bnd_eq_some htr3
    cases htr4
    simp only [codeC] at hc
    obtain ⟨T, hT, hc⟩ := bnd_eq_some hc
    obtain ⟨hpd, hc⟩ := cnd_eq_some hc
    simp only [evalCode] at he
    obtain ⟨⟨rs1, h1, fl1⟩, hr, he⟩ := bnd_eq_some he
    obtain ⟨g1, hle1, hi1⟩ := ghosts_ok gs l _ T _ _ _ g hl hi hT hr
    have hi2 : Inv0 cx N hb T.own rs1 h1 fl1 g1 a w := hi1.weaken (fun _ h => h) (fun _ h => by simp at h) (fun _ h => by simp at h) (Option.isNone_iff_eq_none.1 hpd).symm
    have hpre2 : preC code vy = true := by
      cases code <;> first | exact hpre | (rename_i dr; cases dr <;> exact hpre)
    exact ihy vy hb T.own res ⟨rs1, h1, fl1⟩ st' ex g1 a w Q hy hpre2 hln hc hd hbl hi2 he fun g' a' w' hle hf => hQ g' a' w' (hle1.trans hle) hf
  | _ => exact key _ (fun _ _ e => by cases e)
theorem seq_ok {C : Callee} {k : Nat} {x y : Code} (ihx : CodeOk P R cx N C k x) (ihy : CodeOk P R cx N C k y) : ∀ (lx ly v : VCode) (hb : Heap) (own : Ows) (res : CRes) (st st' : St) (ex : Ex) (g : Gh) (a : Act) (w : World) (Q : Exit → Act → World → Prop),
    trCode P (.seq x y) (.seq lx ly) = some v → preC (.seq x y) v = true → linC P v → codeC R v own = some res → dstC N v = true → BaseLt hb → Inv0 cx N hb own st.rs st.h st.fl g a w → evalCode C (iterN k) cx.n0 v hb.length st = some (ex, st') →
    (∀ g' a' w', GLe g g' → Fits cx N hb res ex st' g' a' w' → Q (exOf ex) a' w') → (Code.seq x y).wp P Q a w := by
  intro lx ly v hb own res st st' ex g a w Q htr hpre hln hc hd hbl hi he hQ
  simp only [trCode] at htr
  obtain ⟨vx, hx, htr⟩ := bnd_eq_some htr
  obtain ⟨vy, hy, htr⟩ := bnd_eq_some htr
  cases htr
  simp only [codeC] at hc
  obtain ⟨p, hp, hc⟩ := bnd_eq_some hc
  simp only [dstC, Bool.and_eq_true] at hd
  simp only [preC, Bool.and_eq_true] at hpre
  simp only [evalCode] at he
  obtain ⟨⟨e1, st1⟩, hr, he⟩ := bnd_eq_some he
  refine wp_seq (ihx _ vx hb own p st st1 e1 g a w _ hx hpre.1 hln.1 hp hd.1 hbl hi hr fun g1 a1 w1 hle1 hf => ?_)
  cases e1 with
  | normal =>
    obtain ⟨o1, ho1, hi1⟩ := hf
    rw [ho1] at hc
    obtain ⟨q, hq, hc⟩ := bnd_eq_some hc
    cases hc
    refine ihy _ vy hb o1 q st1 st' ex g1 a1 w1 Q hy hpre.2 hln.2 hq hd.2 hbl hi1 he fun g' a' w' hle hf' => hQ g' a' w' (hle1.trans hle) ?_
    cases ex with
    | normal => exact hf'
    | exit id => obtain ⟨o, h1, h2⟩ := hf'; exact ⟨o, by simp [h1], h2⟩
    | ret => obtain ⟨o, h1, h2⟩ := hf'; exact ⟨o, by simp [h1], h2⟩
  | exit id =>
    cases he
    obtain ⟨o1, ho1, hi1⟩ := hf
    refine hQ g1 a1 w1 hle1 ⟨o1, ?_, hi1⟩
    split at hc
    · cases hc; exact ho1
    · obtain ⟨q, hq, hc⟩ := bnd_eq_some hc
      cases hc
      simp [ho1]
  | ret =>
    cases he
    obtain ⟨o1, ho1, hi1⟩ := hf
    refine hQ g1 a1 w1 hle1 ⟨o1, ?_, hi1⟩
    split at hc
    · cases hc; exact ho1
    · obtain ⟨q, hq, hc⟩ := bnd_eq_some hc
      cases hc
      simp [ho1]
theorem amb_ok {C : Callee} {k : Nat} {o x y z : Code} {c : Operand} (iho : CodeOk P R cx N C k o) (ihx : CodeOk P R cx N C k x) (ihy : CodeOk P R cx N C k y) (ihz : CodeOk P R cx N C k z) : ∀ (lo : VCode) (lc : Arg) (lx ly lz v : VCode) (hb : Heap) (own : Ows) (res : CRes) (st st' : St) (ex : Ex) (g : Gh) (a : Act) (w : World) (Q : Exit → Act → World → Prop),
    trCode P (.seq (.seq o (.cond c x y)) z) (.amb lo lc lx ly lz) = some v → preC (.seq (.seq o (.cond c x y)) z) v = true → linC P v → codeC R v own = some res → dstC N v = true → BaseLt hb → Inv0 cx N hb own st.rs st.h st.fl g a w → evalCode C (iterN k) cx.n0 v hb.length st = some (ex, st') →
    (∀ g' a' w', GLe g g' → Fits cx N hb res ex st' g' a' w' → Q (exOf ex) a' w') → (Code.seq (.seq o (.cond c x y)) z).wp P Q a w := by
  intro lo lc lx ly lz v hb own res st st' ex g a w Q htr hpre hln hc hd hbl hi he hQ
  simp only [trCode] at htr
  obtain ⟨vo, ho, htr⟩ := bnd_eq_some htr
  obtain ⟨vc, hvc, htr⟩ := bnd_eq_some htr
  obtain ⟨vx, hx, htr⟩ := bnd_eq_some htr
  obtain ⟨vy, hy, htr⟩ := bnd_eq_some htr
  obtain ⟨vz, hz, htr⟩ := bnd_eq_some htr
  cases htr
  simp only [preC, Bool.and_eq_true] at hpre
  simp only [linC] at hln
  simp only [dstC, Bool.and_eq_true] at hd
  obtain ⟨⟨hpo, hpx, hpy⟩, hpz⟩ := hpre
  obtain ⟨⟨hlo, hlx, hly⟩, hlz⟩ := hln
  obtain ⟨⟨hdo, hdx, hdy⟩, hdz⟩ := hd
  simp only [evalCode] at he
  obtain ⟨⟨e1, st1⟩, hr, he⟩ := bnd_eq_some he
  simp only [codeC, thenC] at hc
  obtain ⟨pq, hpq, hc⟩ := bnd_eq_some hc
  obtain ⟨p, hp, hpq⟩ := bnd_eq_some hpq
  -- the rest of the code behind 'o'
  refine wp_seq (wp_seq (iho _ vo hb own p st st1 e1 g a w _ ho hpo hlo hp hdo hbl hi hr fun g1 a1 w1 hle1 hf => ?_))
  cases e1 with
  | exit id =>
    cases he
    obtain ⟨o1, ho1, hi1⟩ := hf
    refine hQ g1 a1 w1 hle1 ⟨o1, ?_, hi1⟩
    have h1 : (id, o1) ∈ pq.ex := by
      split at hpq
      · cases hpq; exact ho1
      · obtain ⟨q, hq, hpq⟩ := bnd_eq_some hpq
        cases hpq
        simp [ho1]
    split at hc
    · cases hc; exact h1
    · obtain ⟨q, hq, hc⟩ := bnd_eq_some hc
      cases hc
      simp [h1]
  | ret =>
    cases he
    obtain ⟨o1, ho1, hi1⟩ := hf
    refine hQ g1 a1 w1 hle1 ⟨o1, ?_, hi1⟩
    have h1 : o1 ∈ pq.rt := by
      split at hpq
      · cases hpq; exact ho1
      · obtain ⟨q, hq, hpq⟩ := bnd_eq_some hpq
        cases hpq
        simp [ho1]
    split at hc
    · cases hc; exact h1
    · obtain ⟨q, hq, hc⟩ := bnd_eq_some hc
      cases hc
      simp [h1]
  | normal =>
    obtain ⟨o1, ho1, hi1⟩ := hf
    rw [ho1] at hpq
    obtain ⟨q, hq, hpq⟩ := bnd_eq_some hpq
    cases hpq
    obtain ⟨px, hpx', hq⟩ := bnd_eq_some hq
    obtain ⟨py, hpy', hq⟩ := bnd_eq_some hq
    cases hq
    simp only [Ex.isNormal, cnd_true] at he
    have hcv := trArg_sound hi1.F.regs hvc
    -- one way, and what comes behind it
    have way : ∀ (code : Code) (l vb : VCode) (pb : CRes), CodeOk P R cx N C k code → trCode P code l = some vb → preC code vb = true → linC P vb → dstC N vb = true → codeC R vb o1 = some pb →
        (∀ o, pb.nm = some o → ∃ o', meet px.nm py.nm = some o' ∧ Wk o' o) → (∀ i o, (i, o) ∈ pb.ex → (i, o) ∈ px.ex ++ py.ex) → (∀ o, o ∈ pb.rt → o ∈ px.rt ++ py.rt) →
        (bnd (evalCode C (iterN k) cx.n0 vb hb.length st1) fun q => cnd q.1.isNormal (evalCode C (iterN k) cx.n0 vz hb.length q.2) (some q)) = some (ex, st') →
        code.wp P (Exit.then (z.wp P Q) Q) a1 w1 := by
      intro code l vb pb ihb htb hpb hlb hdb hcb hnm hex hrt heb
      obtain ⟨⟨e2, st2⟩, hr2, he2⟩ := bnd_eq_some heb
      refine ihb l vb hb o1 pb st1 st2 e2 g1 a1 w1 _ htb hpb hlb hcb hdb hbl hi1 hr2 fun g2 a2 w2 hle2 hf2 => ?_
      cases e2 with
      | normal =>
        obtain ⟨o2, ho2, hi2⟩ := hf2
        obtain ⟨o', hm, hwk⟩ := hnm o2 ho2
        simp only [hm] at hc
        obtain ⟨qz, hqz, hc⟩ := bnd_eq_some hc
        cases hc
        refine ihz _ vz hb o' qz st2 st' ex g2 a2 w2 Q hz hpz hlz hqz hdz hbl (hi2.wk hwk) he2 fun g' a' w' hle hf' => hQ g' a' w' ((hle1.trans hle2).trans hle) ?_
        cases ex with
        | normal => exact hf'
        | exit id => obtain ⟨o, h1, h2⟩ := hf'; exact ⟨o, by simp [h1], h2⟩
        | ret => obtain ⟨o, h1, h2⟩ := hf'; exact ⟨o, by simp [h1], h2⟩
      | exit id =>
        cases he2
        obtain ⟨o2, ho2, hi2⟩ := hf2
        refine hQ g2 a2 w2 (hle1.trans hle2) ⟨o2, ?_, hi2⟩
        have h1 := hex id o2 ho2
        split at hc
        · cases hc; exact List.mem_append_right _ h1
        · obtain ⟨q, hq, hc⟩ := bnd_eq_some hc
          cases hc
          exact List.mem_append_left _ (List.mem_append_right _ h1)
      | ret =>
        cases he2
        obtain ⟨o2, ho2, hi2⟩ := hf2
        refine hQ g2 a2 w2 (hle1.trans hle2) ⟨o2, ?_, hi2⟩
        have h1 := hrt o2 ho2
        split at hc
        · cases hc; exact List.mem_append_right _ h1
        · obtain ⟨q, hq, hc⟩ := bnd_eq_some hc
          cases hc
          exact List.mem_append_left _ (List.mem_append_right _ h1)
    have wayx := way x lx vx px ihx hx hpx hlx hdx hpx' (fun o ho => by rw [ho]; exact meet_l rfl) (fun i o h => List.mem_append_left _ h) (fun o h => List.mem_append_left _ h)
    have wayy := way y ly vy py ihy hy hpy hly hdy hpy' (fun o ho => by rw [ho]; exact meet_r rfl) (fun i o h => List.mem_append_right _ h) (fun o h => List.mem_append_right _ h)
    rcases ambV_some he with ⟨hv, h1⟩ | ⟨hv, h1⟩ | ⟨hv, h1, h2⟩
    · rw [hv] at hcv
      exact wp_cond hcv.bool_inv (wayx h1)
    · rw [hv] at hcv
      exact wp_cond hcv.bool_inv (wayy h1)
    · rw [hv] at hcv
      obtain ⟨b, hb'⟩ : ∃ b, a1.eval c = .bool b := by
        generalize a1.eval c = u at hcv
        cases hcv with
        | cell q => cases q; exact ⟨_, rfl⟩
      refine wp_cond hb' ?_
      cases b
      · exact wayy h2
      · exact wayx h1
theorem code_ok {C : Callee} (hC : FnOk P R C) (hm : P.follows .mixedOrders = true) {k : Nat} : ∀ (code : Code) (lit v : VCode) (hb : Heap) (own : Ows) (res : CRes) (st st' : St) (ex : Ex) (g : Gh) (a : Act) (w : World) (Q : Exit → Act → World → Prop),
    trCode P code lit = some v → preC code v = true → linC P v → codeC R v own = some res → dstC N v = true → BaseLt hb → Inv0 cx N hb own st.rs st.h st.fl g a w → evalCode C (iterN k) cx.n0 v hb.length st = some (ex, st') →
    (∀ g' a' w', GLe g g' → Fits cx N hb res ex st' g' a' w' → Q (exOf ex) a' w') → code.wp P Q a w := by
  intro code
  suffices h : CodeOk P R cx N C k code ∧ (∀ c a b, code = .cond c a b → CodeOk P R cx N C k a ∧ CodeOk P R cx N C k b) ∧ (∀ o c a b, code = .seq o (.cond c a b) → CodeOk P R cx N C k o ∧ CodeOk P R cx N C k a ∧ CodeOk P R cx N C k b) from h.1
  induction code with
  | skip =>
    refine ⟨gop_lift ?_, (fun _ _ _ e => by cases e), (fun _ _ _ _ e => by cases e)⟩
    intro lit v hb own res st st' ex g a w Q hng htr hpre hln hc hd hbl hi he hQ
    cases lit <;> simp only [trCode, reduceCtorEq, Option.some.injEq] at htr
    case gop gs y => exact absurd rfl (hng gs y)
    subst htr
    cases hc
    cases he
    exact wp_skip (hQ g a w (GLe.refl g) ⟨own, rfl, hi⟩)
  | ret =>
    refine ⟨gop_lift ?_, (fun _ _ _ e => by cases e), (fun _ _ _ _ e => by cases e)⟩
    intro lit v hb own res st st' ex g a w Q hng htr hpre hln hc hd hbl hi he hQ
    cases lit <;> simp only [trCode, reduceCtorEq, Option.some.injEq] at htr
    case gop gs y => exact absurd rfl (hng gs y)
    subst htr
    cases hc
    cases he
    exact wp_ret (hQ g a w (GLe.refl g) ⟨own, by simp, hi⟩)
  | exit j =>
    refine ⟨gop_lift ?_, (fun _ _ _ e => by cases e), (fun _ _ _ _ e => by cases e)⟩
    intro lit v hb own res st st' ex g a w Q hng htr hpre hln hc hd hbl hi he hQ
    cases lit <;> simp only [trCode, reduceCtorEq, Option.some.injEq] at htr
    case gop gs y => exact absurd rfl (hng gs y)
    subst htr
    cases hc
    cases he
    exact wp_exit (hQ g a w (GLe.refl g) ⟨own, by simp, hi⟩)
  | region id ops draw =>
    refine ⟨gop_lift ?_, (fun _ _ _ e => by cases e), (fun _ _ _ _ e => by cases e)⟩
    intro lit v hb own res st st' ex g a w Q hng htr hpre hln hc hd hbl hi he hQ
    cases draw with
    | false =>
      cases lit <;> simp only [trCode, reduceCtorEq] at htr
      case gop gs y => exact absurd rfl (hng gs y)
      rename_i is live
      obtain ⟨l, hl, htr⟩ := bnd_eq_some htr
      cases htr
      simp only [codeC] at hc
      obtain ⟨T, hT, hc⟩ := bnd_eq_some hc
      obtain ⟨hpd, hc⟩ := cnd_eq_some hc
      cases hc
      simp only [evalCode] at he
      obtain ⟨r, hr, he⟩ := bnd_eq_some he
      cases he
      refine wp_region ?_
      have h1 := listG_ok (ops := ops) hC (Q := Q) is ops.toList l 0 ⟨own, [], [], none⟩ T st.rs st.h st.fl g a w (fun j => by simp) hl hln hi hT (dstOk_mem hd) hr (fun g' a' w' hle hi' => hQ g' a' w' hle ⟨keepOwn live T.own, rfl, ?_⟩)
      · rw [List.range_eq_range']
        simpa using h1
      · have h2 : Inv0 cx N hb T.own r.1 r.2.1 r.2.2 g' a' w' := hi'.weaken (fun _ h => h) (fun _ h => by simp at h) (fun _ h => by simp at h) (Option.isNone_iff_eq_none.1 hpd).symm
        exact (h2.wk (fun r o z hm => ⟨z, (List.mem_filter.1 hm).1, .inl rfl⟩)).keep (linLive_keepOwn _ _)
    | true =>
      cases lit with
      | dops cl0 is0 live0 =>
        simp only [trCode] at htr
        revert htr
        generalize cl0 = cl, is0 = is, live0 = live
        intro htr
        obtain ⟨l, hl, htr⟩ := bnd_eq_some htr
        cases htr
        simp only [codeC] at hc
        obtain ⟨T1, hT, hc⟩ := bnd_eq_some hc
        cases hc
        unfold dopsC at hT
        obtain ⟨T, hT2, hx⟩ := bnd_eq_some hT
        clear hT
        obtain ⟨hpd, hx⟩ := cnd_eq_some hx
        cases hx
        simp only [evalCode] at he
        obtain ⟨⟨rs', h', fl'⟩, hr, he⟩ := bnd_eq_some he
        cases he
        refine dops_ok hC hm hl hpre hln hT2 (dst_ok hl hd) hi hr fun g' a' w' hle hi' => hQ g' a' w' hle ⟨keepOwn live T.own, rfl, ?_⟩
        have h2 : Inv0 cx N hb T.own rs' h' fl' g' a' w' := hi'.weaken (fun _ h => h) (fun _ h => by simp at h) (fun _ h => by simp at h) (Option.isNone_iff_eq_none.1 hpd).symm
        exact (h2.wk (fun r o z hm => ⟨z, (List.mem_filter.1 hm).1, .inl rfl⟩)).keep (linLive_keepOwn _ _)
      | xops cl x chk is live =>
        simp only [trCode] at htr
        obtain ⟨l, hl, htr⟩ := bnd_eq_some htr
        cases htr
        simp only [codeC] at hc
        obtain ⟨T1, hT, hc⟩ := bnd_eq_some hc
        cases hc
        simp only [preC, Bool.and_eq_true] at hpre
        unfold dopsC at hT
        obtain ⟨T, hT2, hx⟩ := bnd_eq_some hT
        clear hT
        obtain ⟨hpd, hx⟩ := cnd_eq_some hx
        cases hx
        simp only [evalCode] at he
        obtain ⟨⟨rs', h', fl'⟩, hr, he⟩ := bnd_eq_some he
        split at he
        case isFalse => cases he
        rename_i hag
        cases he
        refine xops_ok hC hm hl hpre.2 (of_decide_eq_true hpre.1) hln hT2 (dst_ok hl hd) hi hr hag fun g' a' w' hle hi' => hQ g' a' w' hle ⟨keepOwn live T.own, rfl, ?_⟩
        have h2 : Inv0 cx N hb T.own rs' h' fl' g' a' w' := hi'.weaken (fun _ h => h) (fun _ h => by simp at h) (fun _ h => by simp at h) (Option.isNone_iff_eq_none.1 hpd).symm
        exact (h2.wk (fun r o z hm => ⟨z, (List.mem_filter.1 hm).1, .inl rfl⟩)).keep (linLive_keepOwn _ _)
      | gop gs y => exact absurd rfl (hng gs y)
      | _ => simp only [trCode, reduceCtorEq] at htr
  | seq x y ihx ihy =>
    obtain ⟨ihx, _, hx3⟩ := ihx
    obtain ⟨ihy, hy2, _⟩ := ihy
    refine ⟨gop_lift ?_, (fun _ _ _ e => by cases e), (fun o c a b e => by cases e; exact ⟨ihx, hy2 c a b rfl⟩)⟩
    intro lit v hb own res st st' ex g a w Q hng htr hpre hln hc hd hbl hi he hQ
    cases lit with
    | seq lx ly => exact seq_ok ihx ihy lx ly v hb own res st st' ex g a w Q htr hpre hln hc hd hbl hi he hQ
    | amb lo lc lx ly lz =>
      cases x with
      | seq o q =>
        cases q with
        | cond c x' y' => exact amb_ok (hx3 o c x' y' rfl).1 (hx3 o c x' y' rfl).2.1 (hx3 o c x' y' rfl).2.2 ihy lo lc lx ly lz v hb own res st st' ex g a w Q htr hpre hln hc hd hbl hi he hQ
        | _ => cases htr
      | _ => cases htr
    | gop gs y => exact absurd rfl (hng gs y)
    | _ => simp only [trCode, reduceCtorEq] at htr
  | cond c x y ihx ihy =>
    replace ihx := ihx.1
    replace ihy := ihy.1
    refine ⟨gop_lift ?_, (fun _ _ _ e => by cases e; exact ⟨ihx, ihy⟩), (fun _ _ _ _ e => by cases e)⟩
    intro lit v hb own res st st' ex g a w Q hng htr hpre hln hc hd hbl hi he hQ
    cases lit <;> simp only [trCode, reduceCtorEq] at htr
    case gop gs y => exact absurd rfl (hng gs y)
    obtain ⟨vc, hvc, htr⟩ := bnd_eq_some htr
    obtain ⟨vx, hx, htr⟩ := bnd_eq_some htr
    obtain ⟨vy, hy, htr⟩ := bnd_eq_some htr
    cases htr
    simp only [codeC] at hc
    obtain ⟨p, hp, hc⟩ := bnd_eq_some hc
    obtain ⟨q, hq, hc⟩ := bnd_eq_some hc
    cases hc
    simp only [dstC, Bool.and_eq_true] at hd
    simp only [preC, Bool.and_eq_true] at hpre
    simp only [evalCode] at he
    obtain ⟨t, ht, he⟩ := bnd_eq_some he
    have hcv := trArg_sound hi.F.regs hvc
    unfold condV at ht
    split at ht
    · rename_i t' hct
      cases ht
      rw [hct] at hcv
      refine wp_cond hcv.bool_inv ?_
      cases t with
      | true =>
        refine ihx _ vx hb own p st st' ex g a w Q hx hpre.1 hln.1 hp hd.1 hbl hi he fun g' a' w' hle hf' => hQ g' a' w' hle ?_
        cases ex with
        | normal =>
          obtain ⟨o, h1, h2⟩ := hf'
          obtain ⟨o', h3, h4⟩ := meet_l (x := o) (y := q.nm) rfl
          exact ⟨o', by rw [h1]; exact h3, h2.wk h4⟩
        | exit id => obtain ⟨o, h1, h2⟩ := hf'; exact ⟨o, by simp [h1], h2⟩
        | ret => obtain ⟨o, h1, h2⟩ := hf'; exact ⟨o, by simp [h1], h2⟩
      | false =>
        refine ihy _ vy hb own q st st' ex g a w Q hy hpre.2 hln.2 hq hd.2 hbl hi he fun g' a' w' hle hf' => hQ g' a' w' hle ?_
        cases ex with
        | normal =>
          obtain ⟨o, h1, h2⟩ := hf'
          obtain ⟨o', h3, h4⟩ := meet_r (y := o) (x := p.nm) rfl
          exact ⟨o', by rw [h1]; exact h3, h2.wk h4⟩
        | exit id => obtain ⟨o, h1, h2⟩ := hf'; exact ⟨o, by simp [h1], h2⟩
        | ret => obtain ⟨o, h1, h2⟩ := hf'; exact ⟨o, by simp [h1], h2⟩
    · cases ht
  | block id x ihx =>
    replace ihx := ihx.1
    refine ⟨gop_lift ?_, (fun _ _ _ e => by cases e), (fun _ _ _ _ e => by cases e)⟩
    intro lit v hb own res st st' ex g a w Q hng htr hpre hln hc hd hbl hi he hQ
    cases lit <;> simp only [trCode, reduceCtorEq] at htr
    case gop gs y => exact absurd rfl (hng gs y)
    obtain ⟨vx, hx, htr⟩ := bnd_eq_some htr
    cases htr
    simp only [codeC] at hc
    obtain ⟨p, hp, hc⟩ := bnd_eq_some hc
    cases hc
    simp only [evalCode] at he
    obtain ⟨⟨e1, st1⟩, hr, he⟩ := bnd_eq_some he
    refine wp_block (ihx _ vx hb own p st st1 e1 g a w _ hx hpre hln hp hd hbl hi hr fun g1 a1 w1 hle1 hf => ?_)
    cases e1 with
    | normal =>
      cases he
      obtain ⟨o, h1, h2⟩ := hf
      obtain ⟨o', h3, h4⟩ := meetExits_n (id := id) p.ex (x := o)
      exact hQ g1 a1 w1 hle1 ⟨o', by show meetExits id p.nm p.ex = _; rw [h1]; exact h3, h2.wk h4⟩
    | exit j =>
      obtain ⟨o, h1, h2⟩ := hf
      simp only [exOf, Exit.inBlock]
      by_cases hj : j = id
      · subst hj
        simp only [Ex.isExit, decide_true, cnd_true, Option.some.injEq] at he
        cases he
        obtain ⟨o', h3, h4⟩ := meetExits_e (n := p.nm) p.ex h1
        rw [if_pos rfl]
        exact hQ g1 a1 w1 hle1 ⟨o', h3, h2.wk h4⟩
      · simp only [Ex.isExit, hj, decide_false, cnd_false, Option.some.injEq] at he
        cases he
        rw [if_neg hj]
        exact hQ g1 a1 w1 hle1 ⟨o, by simp [offExits, h1, hj], h2⟩
    | ret =>
      cases he
      exact hQ g1 a1 w1 hle1 hf
  | loop x ihx =>
    replace ihx := ihx.1
    refine ⟨gop_lift ?_, (fun _ _ _ e => by cases e), (fun _ _ _ _ e => by cases e)⟩
    intro lit v hb own res st st' ex g a w Q hng htr hpre hln hc hd hbl hi he hQ
    cases lit <;> simp only [trCode, reduceCtorEq] at htr
    case gop gs y => exact absurd rfl (hng gs y)
    rename_i live lown lx
    obtain ⟨vx, hx, htr⟩ := bnd_eq_some htr
    cases htr
    simp only [codeC] at hc
    obtain ⟨hown, hc⟩ := cnd_eq_some hc
    simp only [Bool.and_eq_true] at hown
    obtain ⟨hown, hlive⟩ := hown
    obtain ⟨p, hp, hc⟩ := bnd_eq_some hc
    simp only [evalCode] at he
    refine wp_loop_rounds k ?_
    have hres : res.ex = p.ex ∧ res.rt = p.rt ∧ ∀ o, p.nm = some o → Wk lown o := by
      split at hc
      · rename_i hn
        cases hc
        exact ⟨rfl, rfl, fun o ho => by rw [hn] at ho; cases ho⟩
      · rename_i S1 hn
        obtain ⟨h1, hc⟩ := cnd_eq_some hc
        cases hc
        exact ⟨rfl, rfl, fun o ho => by rw [hn] at ho; cases ho; exact hasAllOwn_wk h1⟩
    have key : ∀ (m : Nat) (s : St) (g1 : Gh) (a1 : Act) (w1 : World), GLe g g1 → Inv0 cx N hb lown s.rs s.h s.fl g1 a1 w1 →
        iterN m (fun s => bnd (evalCode C (iterN k) cx.n0 vx s.h.length ⟨s.rs, s.h, ⟨s.fl.wr, [], s.fl.all⟩⟩) (bodyEnd s.h.length live s.fl.esc)) s = some (ex, st') → Code.rounds P x Q m a1 w1 := by
      intro m
      induction m with
      | zero => intro s g1 a1 w1 _ _ hm; cases hm
      | succ m ihm =>
        intro s g1 a1 w1 hle1 hi1 hm
        simp only [iterN] at hm
        obtain ⟨q, hq, hm⟩ := bnd_eq_some hm
        obtain ⟨⟨e2, s2⟩, hq2, hq⟩ := bnd_eq_some hq
        rw [rounds_succ]
        refine ihx _ vx s.h lown p ⟨s.rs, s.h, ⟨s.fl.wr, [], s.fl.all⟩⟩ s2 e2 g1 a1 w1 _ hx hpre hln hp hd hi1.G.baseLt hi1.rebase hq2 fun g2 a2 w2 hle2 hf => ?_
        cases e2 with
        | normal =>
          obtain ⟨o, h1, h2⟩ := hf
          have h3 := (h2.wk (hres.2.2 o h1)).keep (live := live) hlive
          obtain ⟨g3, hle3, h4⟩ := h3.clean hi1.frm hi1.G.baseLt (g0 := g1) hi1.G.dom hi1.G.dome hle2
          cases hq
          exact ihm _ g3 a2 w2 (hle1.trans hle3) h4 hm
        | exit j =>
          cases hq
          cases hm
          obtain ⟨o, h1, h2⟩ := hf
          exact hQ g2 a2 w2 (hle1.trans hle2) ⟨o, by rw [hres.1]; exact h1, h2.unbase' hi1.frm⟩
        | ret =>
          cases hq
          cases hm
          obtain ⟨o, h1, h2⟩ := hf
          exact hQ g2 a2 w2 (hle1.trans hle2) ⟨o, by rw [hres.2.1]; exact h1, h2.unbase' hi1.frm⟩
    exact key k st g a w (GLe.refl g) (hi.wk (hasAllOwn_wk hown)) he
  | _ =>
    refine ⟨gop_lift ?_, (fun _ _ _ e => by cases e), (fun _ _ _ _ e => by cases e)⟩
    intro lit v hb own res st st' ex g a w Q hng htr hpre hln hc hd hbl hi he hQ
    cases lit <;> simp only [trCode, reduceCtorEq] at htr
    case gop gs y => exact absurd rfl (hng gs y)
end
end Go.Vm

/- A function: its body run, what it hands back; all functions at once. -/
set_option linter.unusedVariables false
set_option linter.unusedSimpArgs false
namespace Go.Vm
attribute [local simp] evalOps_nil evalOps_cons evalOps_consg evalOp_mv evalOp_asg evalOp_pick evalOp_build evalOp_bslice evalOp_load evalOp_nilck evalOp_bin evalOp_un evalOp_conv evalOp_mkfn evalOp_slice evalOp_faddr evalOp_field evalOp_iaddr evalOp_index evalOp_lookup evalOp_extract evalOp_app evalOp_len evalOp_mn evalOp_mx evalOp_alloc evalOp_box evalOp_mkmap evalOp_store evalOp_mapupd evalOp_delete evalOp_sliceArr evalOp_call evalOp_callv evalOp_appc code_skip code_ops code_dops code_seq code_cond code_block code_exit code_ret finish_normal finish_ret
attribute [local simp] V.lt V.ltL V.flat V.pureCell V.pure V.isCell cellEq cellsEq eqV intV shV strV isShift binV unV byteV convV minV maxV foldV foldV1 fillV fillE findV putV delV isKey natOf natOr cut cellsAt mapAt mapOf loadV pickV nilckV sizeOk allSize sliceV faddrV fieldV iaddrV indexV found extractV allPure appV lenV ownHas ownOk storeC storeV samePtr appcV boxable mapupdV deleteV sliceArrV callV allLt clean bodyEnd resV one finishV runV initR

def ownRet (sz : Nat) (res : List Res) (c : CRes) : Bool :=
  match res with
  | [.r t] => (match c.nm with | some o => hasOwn t 0 sz o | none => true) && c.rt.all fun o => hasOwn t 0 sz o
  | _ => false
structure FunOk (P : Program) (R : Nat → Option Nat) (f : Nat) (v : VFun) : Prop where
  ok : ∃ fn code c, P.funcs[f]? = some fn ∧ fn.body = some code ∧ (fn.name == "runtime.NumGoroutine") = false ∧ trCode P code v.body = some v.body ∧ trRes P fn.results.toList = some v.res ∧ preC code v.body = true ∧ linC P v.body ∧ dstC fn.ntmps v.body = true ∧ v.params ≤ fn.ntmps ∧
    codeC R v.body [] = some c ∧ ∀ sz, R f = some sz → ownRet sz v.res c = true
def PrimOk (P : Program) (R : Nat → Option Nat) (f : Nat) (p : List V → Heap → Option (V × Heap × Fl)) : Prop :=
  ∀ vargs h r, p vargs h = some r → ∀ g w (uargs : Array Value), Pre h g w → VRs g uargs.toList vargs → CallOk P f uargs w (CallPost (calleeCx (Dt := Tracks R) h g w) h (R f) r)
structure EnvOk (P : Program) (R : Nat → Option Nat) (E : Env) : Prop where
  mixed : P.follows .mixedOrders = true
  fn : ∀ f v, E.prim f = none → E.fn f = some v → FunOk P R f v
  prim : ∀ f p, E.prim f = some p → PrimOk P R f p

section
variable {P : Program} {R : Nat → Option Nat}

theorem pre_start {Dt : Prop} {h : Heap} {g : Gh} {w : World} (hp : Pre h g w) {N : Nat} {uargs : Array Value} {vargs : List V} (hargs : VRs g uargs.toList vargs) (hN : uargs.size ≤ N) :
    Inv0 (calleeCx (Dt := Dt) h g w) N h [] (initR vargs 0) h .no g { tmps := uargs ++ Array.replicate (N - uargs.size) Go.undef, defers := [] } w := by
  have cellOf : ∀ p sz u tmps, Held [] none h g tmps w p sz u → Held [] none h g #[] w p sz u ∧ ∃ i j, p = .cell i j := fun p sz u tmps hq => by
    cases p with
    | reg r off => obtain ⟨h1, _⟩ := hq; simp at h1
    | cell i j => exact ⟨hq, i, j, rfl⟩
  refine ⟨⟨rfl, rfl, rfl, fun _ => Nat.le_refl _, Nat.le_refl _, fun _ _ _ => rfl, fun _ _ => .inr rfl⟩, ⟨hp.hr, ⟨fun i b hb => ?_, ImmLe.refl _, fun _ => Nat.le_refl _, fun i hi => ?_⟩, fun _ _ _ _ => rfl, Nat.le_refl _, Nat.le_refl _, fun _ _ => rfl, hp.dom, hp.dome, fun i b hb => ⟨hp.muW i b hb, fun hl => .inr (.inl ⟨i, hl, hb⟩)⟩, fun i b hi hb => ?_, hp.inj, hp.muimm, fun i o _ ho => .inr ⟨o, ho, fun _ h => h⟩⟩,
    ⟨none, ⟨fun p sz u hq => hp.own p sz u (cellOf p sz u _ hq).1, fun p sz u b hq hb => ?_, fun p q sz sz' u u' b hq hq' => hp.dis p q sz sz' u u' b (cellOf p sz u _ hq).1 (cellOf q sz' u' _ hq').1, (fun r off z hm _ => by simp at hm), fun i j z u hq hz => hp.contc i j z u (cellOf _ z u _ hq).1 hz⟩, ⟨fun t p hm => by simp at hm, fun t p hm => by simp at hm, .inl ⟨rfl, rfl⟩⟩⟩, ⟨?_, rfl, ?_⟩⟩
  · simp only [Gh.trim] at hb
    split at hb
    · exact hb
    · cases hb
  · simp only [Gh.trim, Bool.and_eq_true] at hi
    exact hi.2
  · have h1 := hp.dom i b hb
    have h2 : h.length ≤ i := hi
    omega
  · obtain ⟨h1, i, j, rfl⟩ := cellOf p sz u _ hq
    refine ⟨.inr (.inr ⟨i, j, _, sz, u, rfl, h1, hb⟩), hp.blk _ _ _ b h1 hb, fun _ => ?_⟩
    cases hz : isLin sz
    · exact .inr ⟨sz, u, hz, h1, hb⟩
    · exact .inl rfl
  · simp; omega
  · have hlen := hargs.length
    have key : ∀ (vs : List V) (k r : Nat), get (initR vs k) r = if k ≤ r then (match vs[r - k]? with | some v => v | none => .top) else .top := by
      intro vs
      induction vs with
      | nil => intro k r; simp [initR, get]
      | cons v vs ih =>
        intro k r
        simp only [initR, get]
        by_cases hr : r = k
        · subst hr; simp
        · simp only [hr, decide_false, cnd_false, ih]
          by_cases hk : k ≤ r
          · have h1 : k + 1 ≤ r := by omega
            rw [if_pos h1, if_pos hk, show r - k = (r - (k + 1)) + 1 by omega, List.getElem?_cons_succ]
          · rw [if_neg (by omega), if_neg hk]
    intro r
    rw [key]
    simp only [Nat.zero_le, if_true, Nat.sub_zero]
    cases hv : vargs[r]? with
    | none => exact .top
    | some v =>
      obtain ⟨u, hu, hr⟩ := hargs.get r v hv
      have hlt := (List.getElem?_eq_some_iff.1 hu).1
      have : (uargs ++ Array.replicate (N - uargs.size) Go.undef).getD r Go.undef = u := by
        rw [Array.getD_eq_getD_getElem?, Array.getElem?_append_left (by simpa using hlt)]
        have : uargs[r]? = some u := by simpa using hu
        rw [this]; rfl
      rw [this]
      exact hr

theorem results_ok {h : Heap} {g : Gh} {a : Act} {w : World} {rs : Regs} (hi : HRead g h w) (hr : RR g a rs) : ∀ (l : List ResultVar) (res : List Res) (vs : List V), trRes P l = some res → resV rs h res = some vs →
    ∃ us, (l.mapM (m := Sem) fun | .tmp t => pure (a.tmps.getD t Go.undef) | .cell x t => do loadVar t (← asAddr (a.tmps.getD x Go.undef))).run P w = .ok us w ∧ VRs g us vs
  | [], res, vs, ht, hv => by
    cases ht; cases hv
    exact ⟨[], by simp, .nil⟩
  | .tmp t :: l, res, vs, ht, hv => by
    simp only [trRes] at ht
    obtain ⟨rl, hl, ht⟩ := bnd_eq_some ht
    cases ht
    simp only [resV] at hv
    obtain ⟨vl, hvl, hv⟩ := bnd_eq_some hv
    cases hv
    obtain ⟨us, hu, hur⟩ := results_ok hi hr l rl vl hl hvl
    exact ⟨a.tmps.getD t Go.undef :: us, by simp only [List.mapM_cons, Sem.run_bind, Sem.run_pure, Result.andThen_ok, hu], .cons (hr t) hur⟩
  | .cell x t :: l, res, vs, ht, hv => by
    simp only [trRes] at ht
    obtain ⟨b, hb, ht⟩ := bnd_eq_some ht
    obtain ⟨n, hn, ht⟩ := bnd_eq_some ht
    obtain ⟨rl, hl, ht⟩ := bnd_eq_some ht
    split at ht
    · rename_i h1
      cases ht
      simp only [resV] at hv
      obtain ⟨v, hvv, hv⟩ := bnd_eq_some hv
      obtain ⟨vl, hvl, hv⟩ := bnd_eq_some hv
      cases hv
      obtain ⟨us, hu, hur⟩ := results_ok hi hr l rl vl hl hvl
      obtain ⟨z, hz, hzr⟩ := loadV_sound (P := P) hi hb hn h1 (hr x) hvv
      obtain ⟨c, k, hck⟩ := (hr x).addr hvv
      refine ⟨z :: us, ?_, .cons hzr hur⟩
      have hz2 : (loadVar t ⟨c, k, none⟩).run P w = .ok z w := by
        rw [hck] at hz
        simpa [Instr.loadAt, Instr.sureAddr] using hz
      have ha : asAddr (a.tmps.getD x Go.undef) = pure ⟨c, k, none⟩ := by rw [hck]; rfl
      simp only [List.mapM_cons, ha, Sem.run_bind, Sem.run_pure, Result.andThen_ok, hz2, hu]
    · cases ht
theorem results_run {h : Heap} {g : Gh} {a : Act} {w : World} {rs : Regs} (hi : HRead g h w) (hr : RR g a rs) {fn : Func} {res : List Res} {vs : List V} (ht : trRes P fn.results.toList = some res) (hv : resV rs h res = some vs) :
    ∃ u, (results fn a.tmps).run P w = .ok u w ∧ VR g u (one vs) ∧ ∀ t, res = [.r t] → u = a.tmps.getD t Go.undef := by
  obtain ⟨us, hu, hur⟩ := results_ok (P := P) hi hr fn.results.toList res vs ht hv
  have hl := hur.length
  have h1 : (results fn a.tmps).run P w = .ok (if h : us.toArray.size = 1 then us.toArray[0] else .tuple us.toArray) w := by
    unfold results
    rw [Array.mapM_eq_mapM_toList]
    simp only [Sem.run_bind, map_eq_pure_bind, Sem.run_pure]
    exact congrArg (fun r : Result (List Value) => (r.andThen fun a w' => Result.ok a.toArray w').andThen fun a w' => Result.ok (if h : a.size = 1 then a[0] else Value.tuple a) w') hu
  refine ⟨_, h1, ?_, fun t ht' => ?_⟩
  · match us, vs, hur, hl with
    | [], [], .nil, _ => simpa [one] using VR.tup (g := g) .nil
    | [u], [v], .cons x .nil, _ => simpa [one] using x
    | u :: u' :: us, v :: v' :: vs, hh, _ => simpa [one] using VR.tup hh
  · subst ht'
    have : ∃ t', fn.results.toList = [.tmp t'] ∧ t' = t := by
      cases hfl : fn.results.toList with
      | nil => rw [hfl] at ht; cases ht
      | cons x l =>
        rw [hfl] at ht
        cases x with
        | tmp t' =>
          simp only [trRes] at ht
          obtain ⟨rl, hrl, ht⟩ := bnd_eq_some ht
          cases ht
          cases l with
          | nil => exact ⟨_, rfl, rfl⟩
          | cons y l' =>
            exfalso
            cases y with
            | tmp _ => simp only [trRes] at hrl; obtain ⟨_, _, hrl⟩ := bnd_eq_some hrl; cases hrl
            | cell _ _ =>
              simp only [trRes] at hrl
              obtain ⟨_, _, hrl⟩ := bnd_eq_some hrl; obtain ⟨_, _, hrl⟩ := bnd_eq_some hrl; obtain ⟨_, _, hrl⟩ := bnd_eq_some hrl
              split at hrl <;> cases hrl
        | cell _ _ =>
          simp only [trRes] at ht
          obtain ⟨_, _, ht⟩ := bnd_eq_some ht; obtain ⟨_, _, ht⟩ := bnd_eq_some ht; obtain ⟨_, _, ht⟩ := bnd_eq_some ht
          split at ht <;> cases ht
    obtain ⟨t', hfl, rfl⟩ := this
    rw [hfl] at hu
    simp only [List.mapM_cons, List.mapM_nil, Sem.run_bind, Sem.run_pure, Result.andThen_ok, Result.ok.injEq] at hu
    obtain ⟨hu, _⟩ := hu
    subst hu
    simp

theorem callFunc_enter {f : Nat} {fn : Func} {code : Code} (hf : P.funcs[f]? = some fn) (hb : fn.body = some code) (hn : (fn.name == "runtime.NumGoroutine") = false) (uargs : Array Value) (w : World) : (callFunc f uargs).run P w = .ok (.enter f uargs) w := by
  have hn' : ¬ fn.name = "runtime.NumGoroutine" := by simpa using hn
  simp [callFunc, hf, hb, hn']

theorem MemG.esc' {Dt : Prop} {cx : Cx Dt} {hb h : Heap} {fl : Fl} {g : Gh} {w : World} (hm : MemG cx hb h fl g w) {e' : List Nat} (he : ∀ i, i < hb.length → i ∈ fl.esc → i ∈ e' ∨ objLt 0 h i = true) : MemG cx hb h ⟨fl.wr, e', fl.all⟩ g w :=
  ⟨hm.hr, hm.ge, hm.immW, hm.fbl, hm.lbh, hm.muOld, hm.dom, hm.dome, hm.muW, hm.new, hm.inj, hm.muimm, fun i o hi ho => by
    rcases hm.low i o hi ho with h1 | h1
    · exact (he i hi h1).imp id fun h2 => ⟨_, List.getElem?_eq_getElem hi, fun m _ => Obj.lt_mono (Nat.zero_le m) (objLt_of h2 ho)⟩
    · exact .inr h1⟩
theorem fun_end {Dt : Prop} {h : Heap} {g0 : Gh} {w0 : World} {N : Nat} (hp : Pre h g0 w0) {o : Ows} {st : St} {g : Gh} {a : Act} {w : World} (hi : Inv0 (calleeCx (Dt := Dt) h g0 w0) N h o st.rs st.h st.fl g a w) {u : Value} {v : V} (hu : VR g u v) {own : Option Nat}
    (hown : ∀ sz, own = some sz → ∃ t z, u = a.tmps.getD t Go.undef ∧ (t, 0, z) ∈ o ∧ (z = sz ∨ (z = 0 ∧ isLin sz = false))) : CallPost (calleeCx (Dt := Dt) h g0 w0) h own (finishV h.length st v) u w := by
  obtain ⟨hO, _⟩ := hi.own0 rfl
  have cells : ∀ {h' : Heap} {g' : Gh}, OwnI (calleeCx (Dt := Dt) h g0 w0) o none st.rs h' g' a.tmps w → OwnI (calleeCx (Dt := Dt) h g0 w0) [] none [] h' g' #[] w := fun hO' =>
    hO'.map (fun p q => p = q) (fun _ _ _ e1 e2 => e1.trans e2.symm) (fun p sz x hq => .inr ⟨_, sz, rfl, by
      cases p with
      | reg r off => obtain ⟨h1, _⟩ := hq; simp at h1
      | cell i j => exact hq, .inl rfl⟩) (fun p q b l e hn => e ▸ hn) (fun _ _ _ _ _ _ _ => ⟨⟨rfl, fun _ h => h⟩, fun _ h1 h2 => ⟨h1, h2⟩⟩) (ImmLe.refl _) (fun r off z hm _ => by simp at hm)
  have res : ∀ (h' : Heap) (g' : Gh), OwnI (calleeCx (Dt := Dt) h g0 w0) o none st.rs h' g' a.tmps w → ∀ sz, own = some sz → ∀ x, u.cells[0]? = some x → OwnRes (calleeCx (Dt := Dt) h g0 w0) h' g' w sz x := fun h' g' hO' sz e x hx => by
    obtain ⟨t, z, rfl, hm, hz⟩ := hown sz e
    have hheld : Held o none h' g' a.tmps w (.reg t 0) z x := ⟨hm, hx⟩
    have h1 := hO'.own _ _ _ hheld
    have hcg : ∀ u, ownBlk sz u = ownBlk z u := fun u => ownBlk_congr (by
      rcases hz with rfl | ⟨rfl, h⟩
      · rfl
      · rw [h]; rfl) u
    refine ⟨?_, fun b hb => ?_⟩
    · rcases hz with rfl | ⟨rfl, h⟩
      · exact h1
      · exact (h1.zero h).1
    · rw [hcg] at hb
      obtain ⟨f1, f2, f3⟩ := hO'.blk _ _ _ b hheld hb
      refine ⟨Nat.le_of_not_lt fun hlt => ?_, f2, fun p sz' u' hq hb' => ?_⟩
      · obtain ⟨i, j, e, _⟩ := f3 hlt
        cases e
      · cases p with
        | reg r off => obtain ⟨h1, _⟩ := hq; simp at h1
        | cell i j => cases hO'.dis _ _ _ _ _ _ b hheld (held_cell hq _ _) hb hb'
  unfold finishV
  cases hc : (escOk h.length st.h st.fl.esc && v.lt h.length)
  · exact ⟨g, hi.W, hi.G, cells hO, hu, res _ _ hO⟩
  · simp only [Bool.and_eq_true] at hc
    have hbl : BaseLt h := fun i ob ho => by
      cases hl : ob.blk
      · cases ob <;> first | (cases hl; done) | rfl
      · obtain ⟨b, _, hob⟩ := hp.hr.obj i ob ho hl
        exact hob.lt hp.dom hp.dome
    have hG := (hi.G.cut hc.1 hbl).esc' (e' := escLt h.length st.h st.fl.esc) fun i hlt hi => by
      rw [objLt_take hlt]
      cases ho : objLt 0 st.h i
      · exact .inl (mem_escLt.2 ⟨hi, hlt, ho⟩)
      · exact .inr rfl
    exact ⟨g.trim h.length, hi.W.fl' (fun _ h => h), hG, cells hO.cut, hu.trim hc.2, res _ _ hO.cut⟩

theorem fun_ok {f : Nat} {v : VFun} (hv : FunOk P R f v) {C : Callee} (hC : FnOk P R C) (hm : P.follows .mixedOrders = true) {k : Nat} {vargs : List V} {h : Heap} {r : V × Heap × Fl} (hr : runV C (iterN k) v vargs h = some r) {g : Gh} {w : World} {uargs : Array Value} (hp : Pre h g w) (hargs : VRs g uargs.toList vargs) :
    CallOk P f uargs w (CallPost (calleeCx (Dt := Tracks R) h g w) h (R f) r) := by
  obtain ⟨fn, code, c, hf, hb, hn, htr, hres, hpre, hln, hd, hpar, hc, hown⟩ := hv.ok
  unfold runV at hr
  obtain ⟨hlen, hr⟩ := cnd_eq_some hr
  obtain ⟨⟨ex, st⟩, he, hr⟩ := bnd_eq_some hr
  have hlen := of_decide_eq_true hlen
  have hul := hargs.length
  have hsize : uargs.size = v.params := by rw [← hlen, ← hul]; simp
  refine .inl ⟨callFunc_enter hf hb hn uargs w, calls_of_wp hf hb ?_⟩
  have hi := pre_start (Dt := Tracks R) hp hargs (N := fn.ntmps) (by omega)
  have hbl : BaseLt h := hi.G.baseLt
  refine code_ok hC hm code v.body v.body h [] c ⟨initR vargs 0, h, .no⟩ st ex g _ w _ htr hpre hln hc hd hbl hi he fun g' a' w' hle hfit => ?_
  have fin : ∀ o, Inv0 (calleeCx (Dt := Tracks R) h g w) fn.ntmps h o st.rs st.h st.fl g' a' w' → (∀ sz, R f = some sz → ownRet sz v.res c = true → ∃ t, v.res = [.r t] ∧ hasOwn t 0 sz o = true) → (bnd (resV st.rs st.h v.res) fun vs => some (finishV h.length st (one vs))) = some r →
      a'.defers = [] ∧ ∃ u, (results fn a'.tmps).run P w' = .ok u w' ∧ ∃ u', Ending.returned u = .returned u' ∧ CallPost (calleeCx (Dt := Tracks R) h g w) h (R f) r u' w' := fun o hi' hret hfin => by
    obtain ⟨vs, hvs, hfin⟩ := bnd_eq_some hfin
    cases hfin
    obtain ⟨u, hu, hur, hut⟩ := results_run (P := P) hi'.G.hr hi'.F.regs hres hvs
    refine ⟨hi'.F.nodef, u, hu, u, rfl, fun_end hp hi' hur fun sz hsz => ?_⟩
    obtain ⟨t, ht, ho⟩ := hret sz hsz (hown sz hsz)
    obtain ⟨z, h1, h2⟩ := hasOwn_mem ho
    exact ⟨t, z, hut t ht, h1, h2⟩
  have retOf : ∀ sz o, ownRet sz v.res c = true → (c.nm = some o ∨ o ∈ c.rt) → ∃ t, v.res = [.r t] ∧ hasOwn t 0 sz o = true := fun sz o hor hcase => by
    unfold ownRet at hor
    split at hor
    · rename_i t hvr
      simp only [Bool.and_eq_true, List.all_eq_true] at hor
      refine ⟨t, hvr, ?_⟩
      rcases hcase with h1 | h1
      · have := hor.1
        rw [h1] at this
        exact this
      · exact hor.2 o h1
    · cases hor
  cases ex with
  | normal =>
    obtain ⟨o, ho, hi'⟩ := hfit
    exact fin o hi' (fun sz _ hor => retOf sz o hor (.inl ho)) hr
  | exit id => cases hr
  | ret =>
    obtain ⟨o, ho, hi'⟩ := hfit
    exact fin o hi' (fun sz _ hor => retOf sz o hor (.inr ho)) hr

theorem env_ok {E : Env} (hE : EnvOk P R E) : ∀ n, FnOk P R (evalFn E n)
  | 0 => fun _ _ _ _ hr => by cases hr
  | n + 1 => fun f vargs h r hr g w uargs hp hargs => by
    simp only [evalFn, runFn] at hr
    cases hpr : E.prim f with
    | some p =>
      rw [hpr] at hr
      exact hE.prim f p hpr vargs h r hr g w uargs hp hargs
    | none =>
      rw [hpr] at hr
      cases hf : E.fn f with
      | none => rw [hf] at hr; cases hr
      | some v =>
        rw [hf] at hr
        exact fun_ok (hE.fn f v hpr hf) (env_ok hE n) hE.mixed hr hp hargs
theorem call_sound {E : Env} (hE : EnvOk P R E) : FnOk P R (callL E) := fun f vargs h r hr g w uargs hp hargs => by
  obtain ⟨n, hn⟩ := callL_iff.1 hr
  exact env_ok hE n f vargs h r hn g w uargs hp hargs
end
end Go.Vm

/- From the V-machine to a statement: a call at the start, arguments that came in. -/
set_option linter.unusedVariables false
set_option linter.unusedSimpArgs false
namespace Go.Vm
open Go.RowKit

def topG (w : World) : Gh := ⟨fun _ => none, fun b k => w.cell? ⟨b, k, none⟩, fun _ => 0, fun _ => false⟩
theorem pre_top (w : World) : Pre [] (topG w) w where
  hr := ⟨fun i o h => by simp at h, fun b o u h => h, fun i b h => by simp at h, fun b h => absurd h (Nat.lt_irrefl 0)⟩
  dom := fun i b h => by cases h
  dome := fun i h => by cases h
  muW := fun i b h => by cases h
  inj := fun i j b _ _ h => by cases h
  muimm := fun i b _ h => by cases h
  own := fun p sz u h => by
    cases p with
    | reg r off => obtain ⟨h1, _⟩ := h; simp at h1
    | cell i j => obtain ⟨cs, own, b, h1, _⟩ := h; simp at h1
  blk := fun p sz u b h => by
    cases p with
    | reg r off => obtain ⟨h1, _⟩ := h; simp at h1
    | cell i j => obtain ⟨cs, own, b, h1, _⟩ := h; simp at h1
  dis := fun p q sz sz' u u' b h => by
    cases p with
    | reg r off => obtain ⟨h1, _⟩ := h; simp at h1
    | cell i j => obtain ⟨cs, own, b, h1, _⟩ := h; simp at h1
  contc := fun i j z u h => by
    obtain ⟨cs, own, b, h1, _⟩ := h
    simp at h1

section
variable {P : Program} {R : Nat → Option Nat}
theorem top_ok {E : Env} (hE : EnvOk P R E) {f : Nat} {v : VFun} (hp : E.prim f = none) (hf : E.fn f = some v) {vargs : List V} {b : Bool} {h' : Heap} {fl : Fl} (hr : callL E f vargs [] = some (.bool b, h', fl)) {w : World} {uargs : Array Value} (hargs : VRs (topG w) uargs.toList vargs) :
    Calls P f uargs w fun e w' => e = .returned (.bool b) ∧ Below w.heap.size w w' := by
  have hcall := call_sound hE f vargs [] _ hr (topG w) w uargs (pre_top w) hargs
  obtain ⟨fn, code, c, h1, h2, h3, _⟩ := (hE.fn f v hp hf).ok
  rcases hcall with ⟨_, h⟩ | ⟨u, w', h, _⟩
  · refine h.mono fun e w' ⟨u, he, g, hW, hG, _, hu, _⟩ => ?_
    subst he
    cases hu.bool_inv
    refine ⟨rfl, hW.os, hW.tape, hW.out, hW.hsz, fun k hk => hW.old k hk ?_⟩
    rintro (⟨i, ⟨o, ho, _⟩, _⟩ | ⟨i, j, l, sz, x, _, hx, _⟩)
    · simp at ho
    · obtain ⟨cs, own, b, h1, _⟩ := hx
      simp at h1
  · rw [callFunc_enter h1 h2 h3] at h
    cases h

def intsV (k : IntKind) (l : List Int) : V := .sl (l.map (V.int k))
end
end Go.Vm

/- A table of functions, each looked at by the kernel. -/
set_option linter.unusedVariables false
set_option linter.unusedSimpArgs false
namespace Go.Vm

def tabFn : List (Nat × VFun) → Nat → Option VFun
  | [], _ => none
  | (k, v) :: l, f => cnd (decide (f = k)) (some v) (tabFn l f)
def ownB (R : Nat → Option Nat) (f : Nat) (v : VFun) : Bool :=
  match codeC R v.body [] with
  | some c => match R f with
    | some sz => ownRet sz v.res c
    | none => true
  | none => false

section
variable {P : Program} {R : Nat → Option Nat}
theorem funOk_of {f : Nat} {v : VFun} {fn : Func} {code : Code} (h1 : P.funcs[f]? = some fn) (h2 : fn.body = some code) (h3 : (fn.name == "runtime.NumGoroutine") = false) (h4 : trCode P code v.body = some v.body) (h5 : trRes P fn.results.toList = some v.res)
    (h6 : preC code v.body = true) (hl : linC P v.body) (h7 : dstC fn.ntmps v.body = true) (h8 : v.params ≤ fn.ntmps) (h9 : ownB R f v = true) : FunOk P R f v := by
  unfold ownB at h9
  split at h9
  · rename_i c hc
    refine ⟨fn, code, c, h1, h2, h3, h4, h5, h6, hl, h7, h8, hc, fun sz hsz => ?_⟩
    rw [hsz] at h9
    exact h9
  · cases h9
def noCalll (i : VI) : Bool := match i.op with | .calll _ _ _ _ _ _ => false | _ => true
def linB : VCode → Bool
  | .ops is _ | .dops _ is _ | .xops _ _ _ is _ => is.all noCalll
  | .seq x y | .cond _ x y => linB x && linB y
  | .block _ x | .loop _ _ x | .gop _ x => linB x
  | .amb o _ x y z => (linB o && (linB x && linB y)) && linB z
  | _ => true
theorem linC_ops {is : List VI} (h : is.all noCalll = true) : ∀ i ∈ is, linOkV P i.op := fun i hi => by
  have h1 := List.all_eq_true.1 h i hi
  unfold noCalll at h1
  unfold linOkV
  split
  · rename_i heq
    rw [heq] at h1
    cases h1
  · trivial
theorem linC_of : ∀ {v : VCode}, linB v = true → linC P v
  | .ops is _, h => linC_ops h
  | .dops _ is _, h => linC_ops h
  | .xops _ _ _ is _, h => linC_ops h
  | .seq x y, h => by simp only [linB, Bool.and_eq_true] at h; exact ⟨linC_of h.1, linC_of h.2⟩
  | .cond _ x y, h => by simp only [linB, Bool.and_eq_true] at h; exact ⟨linC_of h.1, linC_of h.2⟩
  | .block _ x, h => linC_of (v := x) h
  | .gop _ x, h => linC_of (v := x) h
  | .loop _ _ x, h => linC_of (v := x) h
  | .amb o _ x y z, h => by simp only [linB, Bool.and_eq_true] at h; exact ⟨⟨linC_of h.1.1, linC_of h.1.2.1, linC_of h.1.2.2⟩, linC_of h.2⟩
  | .skip, _ | .exit _, _ | .ret, _ => trivial
def TabOk (P : Program) (R : Nat → Option Nat) : List (Nat × VFun) → Prop
  | [] => True
  | (f, v) :: l => FunOk P R f v ∧ TabOk P R l
theorem tab_ok : ∀ {l : List (Nat × VFun)} {f : Nat} {v : VFun}, TabOk P R l → tabFn l f = some v → FunOk P R f v
  | [], f, v, _, h => by cases h
  | (k, x) :: l, f, v, ⟨h1, h2⟩, h => by
    simp only [tabFn] at h
    cases hd : decide (f = k) <;> rw [hd] at h
    · exact tab_ok h2 h
    · cases h
      cases of_decide_eq_true hd
      exact h1
end
end Go.Vm

/- Arguments that came in, of any shape without pointers: what the V-machine reads in them. -/
set_option linter.unusedVariables false
set_option linter.unusedSimpArgs false
namespace Go.Vm
open Go.ChangeShapes Go.WideShapes

mutual
inductive Ty where
  | bool
  | int (k : IntKind)
  | str
  | sl (t : Ty)
  | st (fs : TyL)
  | arr (n : Nat) (t : Ty)
inductive TyL where
  | nil
  | cons (t : Ty) (ts : TyL)
end
mutual
def Ty.cells : Ty → Nat
  | .bool | .int _ | .str | .sl _ => 1
  | .st fs => TyL.cells fs
  | .arr n t => n * Ty.cells t
def TyL.cells : TyL → Nat
  | .nil => 0
  | .cons t ts => Ty.cells t + TyL.cells ts
end
def Ty.isAgg : Ty → Bool
  | .st _ | .arr _ _ => true
  | _ => false
def Ty.el (t : Ty) (cs : List V) : V := if t.isAgg then .agg cs else cs.headD .top
abbrev reachLen : Nat := 140737488351232
mutual
def Ty.Has : Ty → List V → Prop
  | .bool, cs => ∃ b, cs = [.bool b]
  | .int k, cs => ∃ n, (Lit.int k n).wf = true ∧ cs = [.int k n]
  | .str, cs => ∃ s, s.length ≤ reachLen ∧ cs = [.str s]
  | .sl t, cs => ∃ xs : List V, xs.length ≤ reachLen ∧ cs = [.sl xs] ∧ ∀ x ∈ xs, ∃ ys, Ty.Has t ys ∧ x = Ty.el t ys
  | .st fs, cs => TyL.Has fs cs
  | .arr n t, cs => ∃ css : List (List V), css.length = n ∧ cs = css.flatten ∧ ∀ x ∈ css, Ty.Has t x
def TyL.Has : TyL → List V → Prop
  | .nil, cs => cs = []
  | .cons t ts, cs => ∃ xs ys, cs = xs ++ ys ∧ Ty.Has t xs ∧ TyL.Has ts ys
end
mutual
theorem Ty.Has.len : ∀ {t : Ty} {cs : List V}, Ty.Has t cs → cs.length = t.cells
  | .bool, _, ⟨_, rfl⟩ => rfl
  | .int _, _, ⟨_, _, rfl⟩ => rfl
  | .str, _, ⟨_, _, rfl⟩ => rfl
  | .sl _, _, ⟨_, _, rfl, _⟩ => rfl
  | .st fs, _, h => TyL.Has.len (ts := fs) h
  | .arr n t, _, ⟨css, h1, h2, h3⟩ => by
    subst h1 h2
    have h4 : ∀ x ∈ css, x.length = t.cells := fun x hx => Ty.Has.len (h3 x hx)
    show _ = css.length * t.cells
    clear h3
    induction css with
    | nil => simp
    | cons x xs ih =>
      rw [List.flatten_cons, List.length_append, h4 x (by simp), ih (fun y hy => h4 y (by simp [hy])), List.length_cons, Nat.succ_mul, Nat.add_comm]
theorem TyL.Has.len : ∀ {ts : TyL} {cs : List V}, TyL.Has ts cs → cs.length = ts.cells
  | .nil, _, rfl => rfl
  | .cons t ts, _, ⟨xs, ys, rfl, h1, h2⟩ => by rw [List.length_append, h1.len, h2.len]; rfl
end
mutual
theorem Ty.Has.cell : ∀ {t : Ty} {cs : List V}, Ty.Has t cs → cs.all V.isCell = true
  | .bool, _, ⟨_, rfl⟩ => rfl
  | .int _, _, ⟨_, _, rfl⟩ => rfl
  | .str, _, ⟨_, _, rfl⟩ => rfl
  | .sl _, _, ⟨_, _, rfl, _⟩ => rfl
  | .st fs, _, h => TyL.Has.cell (ts := fs) h
  | .arr n t, _, ⟨css, h1, h2, h3⟩ => by
    subst h2
    have h4 : ∀ x ∈ css, x.all V.isCell = true := fun x hx => Ty.Has.cell (h3 x hx)
    clear h3 h1
    induction css with
    | nil => rfl
    | cons x xs ih => rw [List.flatten_cons, List.all_append, h4 x (by simp), ih (fun y hy => h4 y (by simp [hy]))]; rfl
theorem TyL.Has.cell : ∀ {ts : TyL} {cs : List V}, TyL.Has ts cs → cs.all V.isCell = true
  | .nil, _, rfl => rfl
  | .cons t ts, _, ⟨xs, ys, rfl, h1, h2⟩ => by rw [List.all_append, h1.cell, h2.cell]; rfl
end
theorem Ty.flat_el {t : Ty} {cs : List V} (h : t.Has cs) : (t.el cs).flat = cs := by
  cases t with
  | bool => obtain ⟨b, rfl⟩ := h; rfl
  | int k => obtain ⟨n, _, rfl⟩ := h; rfl
  | str => obtain ⟨s, _, rfl⟩ := h; rfl
  | sl t => obtain ⟨xs, _, rfl, _⟩ := h; rfl
  | st fs => rfl
  | arr n t => rfl

section
variable (P : Program)
mutual
def tyOk : Ty → TypeId → Bool
  | .bool, t => match P.underlying t with | some .bool => true | _ => false
  | .int k, t => match P.underlying t with | some (.int k') => decide (k' = k) | _ => false
  | .str, t => match P.underlying t with | some .string => true | _ => false
  | .sl τ, t => match P.underlying t with | some (.slice e) => decide (P.cellsOf e = τ.cells) && (decide (0 < τ.cells ∧ 0 < P.bytesOf e) && tyOk τ e) | _ => false
  | .st fs, t => match P.underlying t with | some (.struct gs) => decide (P.cellsOf t = fs.cells) && tyOkL fs 0 gs.toList | _ => false
  | .arr n τ, t => match P.underlying t with | some (.array m e) => decide (m = n) && (decide (P.cellsOf t = n * τ.cells) && (decide (P.cellsOf e = τ.cells) && tyOk τ e)) | _ => false
def tyOkL : TyL → Nat → List Field → Bool
  | .nil, _, [] => true
  | .cons τ ts, off, g :: gs => decide (g.offset = off) && (decide (P.cellsOf g.type = τ.cells) && (tyOk τ g.type && tyOkL ts (off + τ.cells) gs))
  | _, _, _ => false
end
variable {P} {H : Type} {enc : TypeId × Value → H} {w : World} {sp : Nat → Bool} {held : Bool}
def memOf (w : World) : Imm := fun b k => w.cell? ⟨b, k, none⟩

theorem trod_bool' {t : TypeId} {fuel : Nat} {cs : List Value} {x : DataW H × List MemPlace} (ht : P.underlying t = some .bool) (h : DataW.trod enc P w 0 sp held fuel t cs = some x) : ∃ b, cs = [.bool b] := by
  cases fuel with
  | zero => simp [DataW.trod] at h
  | succ n =>
    unfold DataW.trod at h
    rw [ht] at h
    split at h <;> simp_all
theorem trod_array' {t e : TypeId} {m fuel : Nat} {cs : List Value} {x : DataW H × List MemPlace} (ht : P.underlying t = some (.array m e)) (h : DataW.trod enc P w 0 sp held fuel t cs = some x) :
    ∃ n, ∃ xs : List (DataW H × List MemPlace), x.1 = .agg (xs.map (·.1)) ∧ cs.length = P.cellsOf t ∧ ∀ i, i < m → ∃ y, xs[i]? = some y ∧ DataW.trod enc P w 0 sp held n e ((cs.drop (i * P.cellsOf e)).take (P.cellsOf e)) = some y := by
  cases fuel with
  | zero => simp [DataW.trod] at h
  | succ n =>
    unfold DataW.trod at h
    rw [ht] at h
    split at h <;> simp_all
    obtain ⟨hl, xs, hp, hd⟩ := h
    refine ⟨n, xs, by rw [← hd], fun i hi => ?_⟩
    have h1 := mapM_some_get hp i i (by simp [hi])
    have h2 := mapM_some_length hp
    simp at h2
    have h3 : xs[i]? = some xs[i] := List.getElem?_eq_getElem (by omega)
    exact ⟨xs[i].1, xs[i].2, h3, by rw [h1, h3]⟩
def Reaches (P : Program) (t : TypeId) (d : DataW H) : Prop := ∀ n ∈ d.weights P t, n ≤ reachLen
theorem reaches_of {ts : List TypeId} {ds : List (DataW H)} (h : (DataW.weightsEach P ts ds).all (· ≤ reachBytes) = true) {j : Nat} {t : TypeId} {d : DataW H} (ht : ts[j]? = some t) (hd : ds[j]? = some d) : Reaches P t d := fun n hn => by
  have := List.all_eq_true.1 h n (DataW.weights_mem_each ht hd n hn)
  have h1 : n ≤ reachBytes := by simpa using this
  exact h1
theorem weights_all {e : TypeId} {d : DataW H} : ∀ {l : List (DataW H)}, d ∈ l → ∀ n ∈ d.weights P e, n ∈ DataW.weightsAll P e l
  | x :: l, hd, n, hn => by
    simp only [DataW.weightsAll, List.mem_append]
    rcases List.mem_cons.1 hd with rfl | hd
    · exact .inl hn
    · exact .inr (weights_all hd n hn)
theorem Reaches.elem {t e : TypeId} {elems spare : List (DataW H)} (ht : P.underlying t = some (.slice e)) (h : Reaches P t (.slice elems spare)) {d : DataW H} (hd : d ∈ elems) : Reaches P e d := fun n hn => by
  refine h n ?_
  simp only [DataW.weights, ht, List.mem_cons, List.mem_append]
  exact .inr (.inl (weights_all hd n hn))
theorem Reaches.len {t e : TypeId} {elems spare : List (DataW H)} (ht : P.underlying t = some (.slice e)) (h : Reaches P t (.slice elems spare)) (hb : 0 < P.bytesOf e) : elems.length ≤ reachLen := by
  have h1 := h ((elems.length + spare.length) * P.bytesOf e) (by simp [DataW.weights, ht])
  have h2 : (elems.length + spare.length) * 1 ≤ (elems.length + spare.length) * P.bytesOf e := Nat.mul_le_mul_left _ hb
  omega
theorem Reaches.part {t e : TypeId} {m : Nat} {parts : List (DataW H)} (ht : P.underlying t = some (.array m e)) (h : Reaches P t (.agg parts)) {d : DataW H} (hd : d ∈ parts) : Reaches P e d := fun n hn => by
  refine h n ?_
  simp only [DataW.weights, ht]
  exact weights_all hd n hn
theorem Reaches.fld {t : TypeId} {fs : Array Field} {parts : List (DataW H)} (ht : P.underlying t = some (.struct fs)) (h : Reaches P t (.agg parts)) {i : Nat} {f : Field} {d : DataW H} (hf : fs[i]? = some f) (hd : parts[i]? = some d) : Reaches P f.type d := fun n hn => by
  refine h n ?_
  simp only [DataW.weights, ht]
  exact DataW.weights_mem_each (j := i) (by simp [List.getElem?_map, hf]) hd n hn

theorem crs_append {m : Imm} : ∀ {us : List Value} {vs : List V} {us' : List Value} {vs' : List V}, CRs m us vs → CRs m us' vs' → CRs m (us ++ us') (vs ++ vs')
  | _, _, _, _, .nil, h => h
  | _, _, _, _, .cons a b, h => .cons a (crs_append b h)
theorem read_parts {Q : List V → Prop} {m : Imm} {s : Nat} (n : Nat) : ∀ (us : List Value), us.length = n * s → (∀ i, i < n → ∃ vs, CRs m ((us.drop (i * s)).take s) vs ∧ Q vs) →
    ∃ css : List (List V), css.length = n ∧ CRs m us css.flatten ∧ ∀ x ∈ css, Q x := by
  induction n with
  | zero =>
    intro us h _
    have : us = [] := by simpa using h
    subst this
    exact ⟨[], rfl, .nil, by simp⟩
  | succ n ih =>
    intro us hl h
    obtain ⟨vs, h1, h2⟩ := h 0 (by omega)
    obtain ⟨css, h3, h4, h5⟩ := ih (us.drop s) (by rw [List.length_drop, hl, Nat.succ_mul]; omega) (fun i hi => by
      obtain ⟨vs, h1, h2⟩ := h (i + 1) (by omega)
      refine ⟨vs, ?_, h2⟩
      rw [List.drop_drop]
      rw [Nat.succ_mul, Nat.add_comm] at h1
      exact h1)
    refine ⟨vs :: css, by simp [h3], ?_, fun x hx => ?_⟩
    · have := crs_append h1 h4
      simp only [Nat.zero_mul, List.drop_zero] at this
      rw [List.take_append_drop] at this
      exact this
    · rcases List.mem_cons.1 hx with rfl | hx
      · exact h2
      · exact h5 x hx

mutual
theorem read_ty : ∀ (τ : Ty) {t : TypeId} {fuel : Nat} {cs : List Value} {x : DataW H × List MemPlace}, tyOk P τ t = true → DataW.trod enc P w 0 sp held fuel t cs = some x → Reaches P t x.1 → ∃ vs, CRs (memOf w) cs vs ∧ τ.Has vs
  | .bool, t, fuel, cs, x, ht, h, hz => by
    simp only [tyOk] at ht
    split at ht
    · rename_i hu
      obtain ⟨b, rfl⟩ := trod_bool' hu h
      exact ⟨_, .cons (.bool b) .nil, b, rfl⟩
    · cases ht
  | .int k, t, fuel, cs, x, ht, h, hz => by
    simp only [tyOk] at ht
    split at ht
    · rename_i k' hu
      cases of_decide_eq_true ht
      obtain ⟨n, rfl, _, hw⟩ := DataW.trod_int hu h
      exact ⟨_, .cons (.int k n) .nil, n, hw, rfl⟩
    · cases ht
  | .str, t, fuel, cs, x, ht, h, hz => by
    simp only [tyOk] at ht
    split at ht
    · rename_i hu
      obtain ⟨s, rfl, rfl, hw⟩ := DataW.trod_string hu h
      exact ⟨_, .cons (.str s) .nil, s.data.toList, hz _ (by simp [DataW.weights]), rfl⟩
    · cases ht
  | .sl τ, t, fuel, cs, x, ht, h, hz => by
    simp only [tyOk] at ht
    split at ht
    · rename_i e hu
      simp only [Bool.and_eq_true, decide_eq_true_eq] at ht
      obtain ⟨hc, ⟨hp, hbp⟩, he⟩ := ht
      rcases DataW.trod_slice hu h with ⟨rfl, _⟩ | ⟨a, len, cap, elems, rest, n, _, rfl, rfl, hb, hl, hm, hlen, hel, _⟩
      · exact ⟨_, .cons .nils .nil, [], by simp, rfl, by simp⟩
      · rcases Nat.eq_zero_or_pos len with rfl | hpos
        · exact ⟨_, .cons .sl0 .nil, [], by simp, rfl, by simp⟩
        · have each : ∀ i, i < len → ∃ us, w.cells? 0 (a.add (i * P.cellsOf e)) (P.cellsOf e) = some us ∧ ∃ vs, CRs (memOf w) us vs ∧ τ.Has vs := fun i hi => by
            have h1 := hel i hi
            rw [List.getElem?_eq_getElem (by omega), Option.bind_eq_some_iff] at h1
            obtain ⟨us, h2, h3⟩ := h1
            exact ⟨us, h2, read_ty τ he h3 (hz.elem hu (List.mem_map_of_mem (List.getElem_mem (by omega))))⟩
          obtain ⟨b, o, spt⟩ := a
          have hspt : spt = none := by
            obtain ⟨us, h1, _⟩ := each 0 hpos
            have h2 := (World.cells?_some h1).2.2 0 (by omega)
            have h3 := (World.cells?_some h1).2.1
            simp only [Nat.zero_mul, Addr.add, if_true] at h2
            rw [List.getElem?_eq_getElem (by omega)] at h2
            unfold World.cell? at h2
            split at h2
            · cases spt
              · rfl
              · simp at h2
            · cases h2
          subst hspt
          have addr : ∀ i j : Nat, ((Addr.add ⟨b, o, none⟩ i).add j) = ⟨b, o + i + j, none⟩ := fun i j => by
            unfold Addr.add
            split <;> split <;> simp_all
          rw [hc] at each
          -- the elements' cells, one behind the other
          have all : ∀ n, n ≤ len → ∃ (us : List Value) (css : List (List V)), us.length = n * τ.cells ∧ css.length = n ∧ (∀ j u, us[j]? = some u → memOf w b (o + j) = some u) ∧ CRs (memOf w) us css.flatten ∧ ∀ x ∈ css, τ.Has x := by
            intro n
            induction n with
            | zero => intro _; exact ⟨[], [], by simp, rfl, by simp, .nil, by simp⟩
            | succ n ih =>
              intro hn
              obtain ⟨us, css, h1, h2, h3, h4, h5⟩ := ih (by omega)
              obtain ⟨vs, g1, zs, g2, g3⟩ := each n (by omega)
              have g4 := (World.cells?_some g1).2
              refine ⟨us ++ vs, css ++ [zs], by rw [List.length_append, h1, g4.1, Nat.succ_mul], by simp [h2], fun j u hu => ?_, ?_, fun x hx => ?_⟩
              · rw [List.getElem?_append] at hu
                split at hu
                · exact h3 j u hu
                · rename_i hj
                  have hj2 := (List.getElem?_eq_some_iff.1 hu).1
                  have := g4.2 (j - us.length) (by omega)
                  rw [addr, hu] at this
                  have e : o + j = o + n * τ.cells + (j - us.length) := by omega
                  unfold memOf
                  rw [e]
                  exact this
              · rw [List.flatten_append]
                refine crs_append h4 ?_
                simpa using g2
              · rcases List.mem_append.1 hx with hx | hx
                · exact h5 x hx
                · rw [List.mem_singleton.1 hx]; exact g3
          obtain ⟨us, css, h1, h2, h3, h4, h5⟩ := all len (Nat.le_refl _)
          have h6 : (css.map τ.el).flatMap V.flat = css.flatten := by
            clear h1 h2 h3 h4
            induction css with
            | nil => rfl
            | cons y ys ih => rw [List.map_cons, List.flatMap_cons, List.flatten_cons, Ty.flat_el (h5 y (by simp)), ih (fun x hx => h5 x (by simp [hx]))]
          have hml : len ≤ reachLen := by have := hz.len hu hbp; simpa [hlen] using this
          refine ⟨[.sl (css.map τ.el)], .cons (.sl (sz := τ.cells) (us := us) (by simp [h2]) hl (fun x hx => ?_) h3 (by rw [h6]; exact h4)) .nil, css.map τ.el, by simp [h2]; exact hml, rfl, fun x hx => ?_⟩
          · obtain ⟨y, hy, rfl⟩ := List.mem_map.1 hx
            rw [Ty.flat_el (h5 y hy)]
            exact (h5 y hy).len
          · obtain ⟨y, hy, rfl⟩ := List.mem_map.1 hx
            exact ⟨y, h5 y hy, rfl⟩
    · cases ht
  | .st fs, t, fuel, cs, x, ht, h, hz => by
    simp only [tyOk] at ht
    split at ht
    · rename_i gs hu
      simp only [Bool.and_eq_true, decide_eq_true_eq] at ht
      obtain ⟨hc, he⟩ := ht
      obtain ⟨xs, n, _, rfl, hl, hx, hi⟩ := DataW.trod_struct hu h
      obtain ⟨vs, h1, h2⟩ := read_tyL fs (n := n) (off := 0) (cs := cs) he (by omega) (fun i f hf => by
        have := hi i f (by simpa using hf)
        have hlt := (List.getElem?_eq_some_iff.1 hf).1
        have hlt2 : i < xs.length := by simp at hlt; omega
        refine ⟨xs[i], by rw [this, List.getElem?_eq_getElem hlt2], hz.fld hu (i := i) (by simpa using hf) (by simp [List.getElem?_eq_getElem hlt2])⟩)
      rw [List.drop_zero, List.take_of_length_le (by omega)] at h1
      exact ⟨vs, h1, h2⟩
    · cases ht
  | .arr n τ, t, fuel, cs, x, ht, h, hz => by
    simp only [tyOk] at ht
    split at ht
    · rename_i m e hu
      simp only [Bool.and_eq_true, decide_eq_true_eq] at ht
      obtain ⟨rfl, hc, hce, he⟩ := ht
      obtain ⟨k, xs, hx, hl, hi⟩ := trod_array' hu h
      rw [hx] at hz
      obtain ⟨css, h1, h2, h3⟩ := read_parts (Q := τ.Has) (m := memOf w) (s := τ.cells) m cs (by omega) (fun i hlt => by
        obtain ⟨y, hy1, hy⟩ := hi i hlt
        rw [hce] at hy
        exact read_ty τ he hy (hz.part hu (List.mem_map_of_mem (List.mem_of_getElem? hy1))))
      exact ⟨_, h2, css, h1, rfl, h3⟩
    · cases ht
theorem read_tyL : ∀ (fs : TyL) {n off : Nat} {cs : List Value} {gs : List Field}, tyOkL P fs off gs = true → off + fs.cells ≤ cs.length → (∀ (i : Nat) (f : Field), gs[i]? = some f → ∃ x : DataW H × List MemPlace, DataW.trod enc P w 0 sp held n f.type ((cs.drop f.offset).take (P.cellsOf f.type)) = some x ∧ Reaches P f.type x.1) →
    ∃ vs, CRs (memOf w) ((cs.drop off).take fs.cells) vs ∧ fs.Has vs
  | .nil, n, off, cs, gs, h, hl, hi => ⟨[], by simp only [TyL.cells, List.take_zero]; exact .nil, rfl⟩
  | .cons τ ts, n, off, cs, gs, h, hl, hi => by
    cases gs with
    | nil => simp [tyOkL] at h
    | cons g gs =>
      simp only [tyOkL, Bool.and_eq_true, decide_eq_true_eq] at h
      obtain ⟨rfl, hc, ht, hr⟩ := h
      have hl' : g.offset + (τ.cells + ts.cells) ≤ cs.length := hl
      obtain ⟨x, hx, hxz⟩ := hi 0 g rfl
      rw [hc] at hx
      obtain ⟨vs, h1, h2⟩ := read_ty τ ht hx hxz
      obtain ⟨ws, h3, h4⟩ := read_tyL ts (n := n) (cs := cs) hr (by omega) (fun i f hf => hi (i + 1) f hf)
      refine ⟨vs ++ ws, ?_, vs, ws, rfl, h2, h4⟩
      have e : (cs.drop g.offset).take (TyL.cells (.cons τ ts)) = (cs.drop g.offset).take τ.cells ++ (cs.drop (g.offset + τ.cells)).take ts.cells := by
        show (cs.drop g.offset).take (τ.cells + ts.cells) = _
        rw [List.take_add, List.drop_drop]
      rw [e]
      exact crs_append h1 h3
end

theorem vrs_of_crs {g : Gh} : ∀ {us : List Value} {vs : List V}, CRs g.imm us vs → VRs g us vs
  | _, _, .nil => .nil
  | _, _, .cons a b => .cons (.cell a) (vrs_of_crs b)

theorem read_val {τ : Ty} {r : Reach} {base : Nat} {t : TypeId} {v : Value} {d : DataW H} {ps : List MemPlace} (ht : tyOk P τ t = true) (hval : Value.okWide P w r base t v) (hd : DataW.Trod enc P w 0 sp held t v d ps) (hz : Reaches P t d) :
    ∃ vs, τ.Has vs ∧ VR (topG w) v (τ.el vs) := by
  obtain ⟨fuel, h⟩ := hd
  obtain ⟨vs, h1, h2⟩ := read_ty τ ht h hz
  refine ⟨vs, h2, ?_⟩
  cases hA : τ.isAgg with
  | true =>
    have hag : ∃ cs, v = .agg cs := by
      cases τ <;> simp only [Ty.isAgg, Bool.false_eq_true] at hA
      · simp only [tyOk] at ht
        split at ht
        · rename_i gs hu
          simp only [Value.okWide, hu] at hval
          obtain ⟨cs, h, _⟩ := hval
          exact ⟨cs, h⟩
        · cases ht
      · simp only [tyOk] at ht
        split at ht
        · rename_i m e hu
          simp only [Value.okWide, hu] at hval
          obtain ⟨cs, h, _⟩ := hval
          exact ⟨cs, h⟩
        · cases ht
    obtain ⟨cs, rfl⟩ := hag
    unfold Ty.el
    rw [if_pos hA]
    have : VR (topG w) (.agg cs.toList.toArray) (.agg vs) := .agg (vrs_of_crs (g := topG w) h1) h2.cell
    simpa using this
  | false =>
    have hone : v.cells.toList = [v] := by
      cases v with
      | agg cs =>
        exfalso
        cases τ <;> simp only [Ty.isAgg, Bool.true_eq_false] at hA <;> simp only [tyOk] at ht <;> split at ht <;> first | (cases ht; done) | (rename_i hu; simp [Value.okWide, hu, Cell.okWide, Cell.ok] at hval; done)
      | _ => rfl
    rw [hone] at h1
    unfold Ty.el
    rw [if_neg (by simp [hA])]
    cases h1 with
    | cons a b => cases b with
      | nil => exact .cell a
end
end Go.Vm

