/- A region whose order is open: sound. -/
import Derived.Test.YtphlgefkcghopaaVmD8
set_option linter.unusedVariables false
set_option linter.unusedSimpArgs false
namespace Go.Vm
attribute [local simp] evalOps_nil evalOps_cons evalOps_consg evalOp_mv evalOp_asg evalOp_pick evalOp_build evalOp_bslice evalOp_load evalOp_nilck evalOp_bin evalOp_un evalOp_conv evalOp_mkfn evalOp_slice evalOp_faddr evalOp_field evalOp_iaddr evalOp_index evalOp_lookup evalOp_extract evalOp_app evalOp_len evalOp_mn evalOp_mx evalOp_alloc evalOp_box evalOp_mkmap evalOp_store evalOp_mapupd evalOp_delete evalOp_sliceArr evalOp_call evalOp_callv evalOp_appc code_skip code_ops code_dops code_seq code_cond code_block code_exit code_ret finish_normal finish_ret
attribute [local simp] V.lt V.ltL V.flat V.pureCell V.pure V.isCell cellEq cellsEq eqV intV shV strV isShift binV unV byteV convV minV maxV foldV foldV1 fillV fillE findV putV delV isKey natOf natOr cut cellsAt mapAt mapOf loadV pickV nilckV sizeOk allSize sliceV faddrV fieldV iaddrV indexV found extractV allPure appV lenV ownHas ownOk storeC storeV samePtr appcV boxable mapupdV deleteV sliceArrV callV allLt clean bodyEnd resV one finishV runV initR
section
variable {P : Program} {R : Nat → Option Nat} {cx : Cx} {N : Nat} {hb0 : Heap} {rs : Regs} {h : Heap} {fl : Fl} {g : Gh} {a : Act} {w : World}

theorem trIs_at {ops : Array Oper} : ∀ {os : List Oper} {is gs : List VI}, trIs P ops os gs = some is → ∀ (j : Nat) (o : Oper), os[j]? = some o → ∃ i g0, is[j]? = some i ∧ trI P ops o g0 = some i
  | [], _, _, _, j, o, h => by simp at h
  | o0 :: os, is, [], ht, _, _, _ => by cases ht
  | o0 :: os, is, g0 :: gs, ht, j, o, h => by
    simp only [trIs] at ht
    obtain ⟨i, h1, ht⟩ := bnd_eq_some ht
    obtain ⟨l, h2, ht⟩ := bnd_eq_some ht
    cases ht
    cases j with
    | zero => simp at h; subst h; exact ⟨i, g0, rfl, h1⟩
    | succ j => simpa using trIs_at h2 j o (by simpa using h)
theorem trIs_len {ops : Array Oper} : ∀ {os : List Oper} {is gs : List VI}, trIs P ops os gs = some is → is.length = os.length ∧ gs.length = os.length
  | [], is, [], ht => by cases ht; exact ⟨rfl, rfl⟩
  | [], is, _ :: _, ht => by cases ht
  | o0 :: os, is, [], ht => by cases ht
  | o0 :: os, is, g0 :: gs, ht => by
    simp only [trIs] at ht
    obtain ⟨i, h1, ht⟩ := bnd_eq_some ht
    obtain ⟨l, h2, ht⟩ := bnd_eq_some ht
    cases ht
    have := trIs_len h2
    simp [this.1, this.2]
theorem trIs_drop {ops : Array Oper} : ∀ (c : Nat) {os : List Oper} {is gs : List VI}, trIs P ops os gs = some is → trIs P ops (os.drop c) (gs.drop c) = some (is.drop c)
  | 0, _, _, _, ht => by simpa using ht
  | c + 1, [], is, [], ht => by cases ht; rfl
  | c + 1, [], is, _ :: _, ht => by cases ht
  | c + 1, o0 :: os, is, [], ht => by cases ht
  | c + 1, o0 :: os, is, g0 :: gs, ht => by
    simp only [trIs] at ht
    obtain ⟨i, h1, ht⟩ := bnd_eq_some ht
    obtain ⟨l, h2, ht⟩ := bnd_eq_some ht
    cases ht
    simpa using trIs_drop c h2
theorem trI_dst {ops : Array Oper} {o : Oper} {g0 i : VI} (h : trI P ops o g0 = some i) : i.dst = o.dst := by
  simp only [trI] at h
  obtain ⟨gd, _, h⟩ := bnd_eq_some h
  obtain ⟨op, _, h⟩ := bnd_eq_some h
  cases h; rfl

/-- The first part, in any order. -/
theorem first_ok {C : Callee} {ops : Array Oper} (hC : FnOk P R C) {c : Nat} {is gs : List VI} (htr : trIs P ops ops.toList gs = some is) (hp : PreFacts c ops.toList is) {own : Ows} {T : Ow} (hT : Ow.steps R (is.drop c) (preOw c is own) = some T)
    (hd : ∀ o ∈ ops.toList, ∀ x, o.dst = some x → x < N) {vs : List V} (hvs : vs.length = (is.take c).length)
    (hall : ∀ (j : Nat) (i : VI), (is.take c)[j]? = some i → ∃ b v, vs[j]? = some v ∧ wanted (mix (fun q => decide (q < 0 + j)) 0 (is.take c) vs rs) i.guard = some b ∧
      (b = true → ∃ q, evalOp C cx.n0 hb0.length (mix (fun q => decide (q < 0 + j)) 0 (is.take c) vs rs) h i.op = some q ∧ q.1 = v) ∧ (b = false → v = .undef))
    {rs' : Regs} {h' : Heap} {fl' : Fl} (he : evalOps C cx.n0 hb0.length (is.drop c) (mix (fun _ => true) 0 (is.take c) vs rs) h fl = some (rs', h', fl')) {Q : Exit → Act → World → Prop} (g0 : Gh)
    (hQ : ∀ g' a' w', GLe g0 g' → Inv cx N hb0 T rs' h' fl' g' a' w' → Q .normal a' w') :
    ∀ (fuel : Nat) (listed : Array Bool) (g : Gh) (a : Act) (w : World), listed.size = ops.size → (∀ k o, ops.toList[k]? = some o → listed.getD k false = true → ∀ j ∈ bindsOn o, listed.getD j false = true) → (∀ k, c ≤ k → listed.getD k false = false) →
      ((List.range ops.size).filter fun k => !listed.getD k false).length ≤ fuel → GLe g0 g →
      Inv cx N hb0 ⟨ownL (fun k => listed.getD k false) (is.take c) own, als (fun k => listed.getD k false) 0 (is.take c), [], none⟩ (mix (fun k => listed.getD k false) 0 (is.take c) vs rs) h fl g a w → wpAny P .any ops Q fuel listed a w := by
  have hlen := trIs_len htr
  have hisz : is.length = ops.size := by simpa using hlen.1
  have hrest : restOk c (masks ops.toList []) ops.size = true := by rw [← hisz]; exact hp.rest
  have hcn : c ≤ ops.size := by rw [← hisz]; exact hp.le
  have hple := hp.le
  have hplen : (is.take c).length = c := by simp; omega
  have ctrue : ∀ (listed : Array Bool), (∀ k o, ops.toList[k]? = some o → listed.getD k false = true → ∀ j ∈ bindsOn o, listed.getD j false = true) → ∀ j, listed.getD j false = true → ∀ b, ((masks ops.toList []).getD j 0).testBit b = true → listed.getD b false = true := fun listed hcl j hj b hb => by
    by_cases hjl : j < ops.toList.length
    · have hoj : ops.toList[j]? = some ops.toList[j] := by simp [hjl]
      exact mask_closed (L := fun k => listed.getD k false) hcl j _ hoj (hcl j _ hoj hj) b hb
    · rw [List.getD_eq_getElem?_getD, List.getElem?_eq_none (by rw [masks_len]; simp at hjl ⊢; omega)] at hb
      simp at hb
  -- all of the first part stands
  have done : ∀ (fuel : Nat) (listed : Array Bool) (g : Gh) (a : Act) (w : World), listed.size = ops.size → (∀ k, c ≤ k → listed.getD k false = false) → ((List.range ops.size).filter fun k => !listed.getD k false).length ≤ fuel → GLe g0 g →
      (∀ k, k < c → listed.getD k false = true) → Inv cx N hb0 ⟨ownL (fun k => listed.getD k false) (is.take c) own, als (fun k => listed.getD k false) 0 (is.take c), [], none⟩ (mix (fun k => listed.getD k false) 0 (is.take c) vs rs) h fl g a w → wpAny P .any ops Q fuel listed a w := by
    intro fuel listed g a w hsz hns hcnt hle hall1 hi
    have hL : ∀ k, listed.getD k false = decide (k < c) := fun k => by
      by_cases hk : k < c
      · rw [hall1 k hk, decide_eq_true hk]
      · rw [hns k (by omega), decide_eq_false hk]
    have emix : mix (fun k => listed.getD k false) 0 (is.take c) vs rs = mix (fun _ => true) 0 (is.take c) vs rs := mix_congr _ _ _ _ _ _ fun j hj => by rw [Nat.zero_add, hall1 j (by omega)]
    have hi2 : Inv cx N hb0 (preOw c is own) (mix (fun _ => true) 0 (is.take c) vs rs) h fl g a w := by
      rw [← emix]
      refine hi.weaken (fun x hx => ?_) (fun x hx => ?_) (fun x hx => by simp [preOw] at hx) rfl
      · obtain ⟨h1, h2⟩ := mem_ownL.1 hx
        refine mem_ownL.2 ⟨?_, fun h3 => ?_⟩
        · rcases h1 with h1 | h1
          · exact .inl h1
          · obtain ⟨j, i, h4, _, h5⟩ := mem_toks.1 h1
            have := (List.getElem?_eq_some_iff.1 h4).1
            exact .inr (mem_toks.2 ⟨j, i, h4, by rw [Nat.zero_add]; exact hall1 j (by omega), h5⟩)
        · obtain ⟨j, i, h4, _, h5⟩ := mem_eaten.1 h3
          exact h2 (mem_eaten.2 ⟨j, i, h4, rfl, h5⟩)
      · obtain ⟨j, i, h4, _, h5⟩ := mem_als.1 hx
        have := (List.getElem?_eq_some_iff.1 h4).1
        exact mem_als.2 ⟨j, i, h4, by rw [Nat.zero_add]; exact hall1 j (by omega), h5⟩
    have hcount : ops.size - c ≤ fuel := by
      refine Nat.le_trans ?_ hcnt
      have : ∀ n, c ≤ n → n - c ≤ ((List.range n).filter fun k => !listed.getD k false).length := by
        intro n
        induction n with
        | zero => intro _; simp
        | succ n ihn =>
          intro hn
          rw [List.range_succ, List.filter_append, List.length_append]
          by_cases hcn2 : c ≤ n
          · have := ihn hcn2
            have h1 : ([n].filter fun k => !listed.getD k false) = [n] := by simp [hns n hcn2, List.filter]
            rw [h1, List.length_singleton]
            omega
          · omega
      exact this _ hcn
    refine rest_ok (c := c) hC hp.back hrest (ops.toList.drop c) (is.drop c) (gs.drop c) c (preOw c is own) T _ h fl g a w listed fuel (fun j => by simp) (trIs_drop c htr) hi2 hT (fun o ho => hd o (List.mem_of_mem_drop ho)) he hsz hL (Nat.le_refl _) (by simp; omega) (by simp; omega) fun g' a' w' hle' hi' => hQ g' a' w' (hle.trans hle') hi'
  intro fuel
  induction fuel with
  | zero =>
    intro listed g a w hsz hcl hns hcnt hle hi
    by_cases hall1 : ∀ k, k < c → listed.getD k false = true
    · exact done 0 listed g a w hsz hns hcnt hle hall1 hi
    · exfalso
      refine hall1 fun k hk => ?_
      cases hk2 : listed.getD k false with
      | true => rfl
      | false =>
        have hm : k ∈ (List.range ops.size).filter fun k => !listed.getD k false := by
          rw [List.mem_filter]
          exact ⟨by simp; omega, by rw [hk2]; rfl⟩
        have : 0 < ((List.range ops.size).filter fun k => !listed.getD k false).length := List.length_pos_of_mem hm
        omega
  | succ fuel ih =>
    intro listed g a w hsz hcl hns hcnt hle hi
    by_cases hall1 : ∀ k, k < c → listed.getD k false = true
    · exact done (fuel + 1) listed g a w hsz hns hcnt hle hall1 hi
    · -- one that may stand now
      have hex : ∃ k, k < c ∧ listed.getD k false = false := Classical.byContradiction fun hno => hall1 fun k hk => by
        cases hk2 : listed.getD k false with
        | true => rfl
        | false => exact absurd ⟨k, hk, hk2⟩ hno
      have hready : ∀ n, ∀ k, k < n → k < c → listed.getD k false = false → ∃ m, m ∈ Region.ready .any ops listed := by
        intro n
        induction n with
        | zero => intro k hk; omega
        | succ n ihn =>
          intro k hk hkc hku
          have hks : k < ops.size := by omega
          by_cases hlow : ∃ q, q < k ∧ listed.getD q false = false
          · obtain ⟨q, hq, hqu⟩ := hlow
            exact ihn q (by omega) (by omega) hqu
          · refine ⟨k, mem_ready.2 ⟨?_, ops[k], by simp [hks], fun e he hb => ?_⟩⟩
            · have hk2 : k < listed.size := by omega
              simpa [Array.getD, hk2] using hku
            · have hlt := backOk_at ops.toList 0 k ops[k] hp.back (by simp [hks]) e.on (mem_bindsOn.2 ⟨e, he, hb, rfl⟩)
              cases hq : listed.getD e.on false with
              | true => rfl
              | false => exact absurd ⟨e.on, by omega, hq⟩ hlow
      refine ⟨fun h0 => ?_, fun k hk => ?_⟩
      · obtain ⟨k, hkc, hku⟩ := hex
        obtain ⟨m, hm⟩ := hready (k + 1) k (by omega) hkc hku
        rw [h0] at hm
        simp at hm
      · obtain ⟨hku, o, ho, hbef⟩ := mem_ready.1 hk
        have hks : k < ops.size := (Array.getElem?_eq_some_iff.1 ho).1
        have hks2 : k < listed.size := by omega
        have hku' : listed.getD k false = false := by simpa [Array.getD, hks2] using hku
        have hol : ops.toList[k]? = some o := by simpa using ho
        have hanc : ∀ b, ((masks ops.toList []).getD k 0).testBit b = true → listed.getD b false = true := fun b hb =>
          mask_closed (L := fun k => listed.getD k false) hcl k o hol (fun j hj => by
            obtain ⟨e, he, hb', rfl⟩ := mem_bindsOn.1 hj
            exact hbef e he hb') b hb
        have hkc : k < c := by
          rcases Nat.lt_or_ge k c with h1 | h1
          · exact h1
          · obtain ⟨q, hqc, hqu⟩ := hex
            have := hanc q (restOk_at hrest hks h1 (by omega))
            rw [hqu] at this; cases this
        obtain ⟨i, g1, hik, htri⟩ := trIs_at htr k o hol
        have hit : (is.take c)[k]? = some i := by rw [List.getElem?_take, if_pos hkc]; exact hik
        have hdst := trI_dst htri
        obtain ⟨b, v, hv, hb, hx, hy⟩ := hall k i hit
        obtain ⟨l, hl, _⟩ := readsOk_at hp.reads k i hit
        obtain ⟨l', hl', hsub, hgr⟩ := readsAll_inv hl
        have hsame := reads_same (rs := rs) hp hit hl hol (L := fun k => listed.getD k false) hanc hvs
        have hb2 : wanted (mix (fun k => listed.getD k false) 0 (is.take c) vs rs) i.guard = some b := by
          rw [← hb]
          cases hg : i.guard with
          | none => rfl
          | some q =>
            obtain ⟨q1, q2⟩ := q
            simp only [wanted]
            rw [hsame q1 (hgr q1 q2 hg)]
        have hev : evalOp C cx.n0 hb0.length (mix (fun k => listed.getD k false) 0 (is.take c) vs rs) h i.op = evalOp C cx.n0 hb0.length (mix (fun q => decide (q < 0 + k)) 0 (is.take c) vs rs) h i.op := evalOp_congr hl' fun r hr => hsame r (hsub r hr)
        have hL' : ∀ q, (listed.setIfInBounds k true).getD q false = (listed.getD q false || decide (q = k)) := fun q => by
          by_cases hq : k = q
          · subst hq; rw [getD_set_self hks2]; simp
          · rw [getD_set_ne false hq]; simp [Ne.symm hq]
        have hcl' : ∀ q o, ops.toList[q]? = some o → (listed.setIfInBounds k true).getD q false = true → ∀ j ∈ bindsOn o, (listed.setIfInBounds k true).getD j false = true := fun q o' ho' hq j hj => by
          rw [hL'] at hq ⊢
          simp only [Bool.or_eq_true, decide_eq_true_eq] at hq ⊢
          rcases hq with hq | rfl
          · exact .inl (hcl q o' ho' hq j hj)
          · rw [hol] at ho'; cases ho'
            obtain ⟨e, he', hb', rfl⟩ := mem_bindsOn.1 hj
            exact .inl (hbef e he' hb')
        have hns' : ∀ q, c ≤ q → (listed.setIfInBounds k true).getD q false = false := fun q hq => by
          rw [hL', hns q hq]
          simp
          omega
        have hcnt' : ((List.range ops.size).filter fun q => !(listed.setIfInBounds k true).getD q false).length ≤ fuel := by
          have := filter_lt (L := fun q => listed.getD q false) (L' := fun q => (listed.setIfInBounds k true).getD q false) (i := k) (fun q hq => by rw [hL', hq]; rfl) hku' (getD_set_self hks2) (l := List.range ops.size) (by simp [hks])
          omega
        obtain ⟨T1, hs1, hres⟩ := step1_pre (R := R) (S := ⟨ownL (fun k => listed.getD k false) (is.take c) own, als (fun k => listed.getD k false) 0 (is.take c), [], none⟩) hl' rfl fun p size bytes s x e => eats_there hp hit hku' hanc e
        rw [hdst] at hs1
        have hmix : ∀ r, get (putR o.dst v (mix (fun k => listed.getD k false) 0 (is.take c) vs rs)) r = get (mix (fun q => (listed.setIfInBounds k true).getD q false) 0 (is.take c) vs rs) r := fun r => by
          by_cases hr : o.dst = some r
          · have h1 : get (putR o.dst v (mix (fun k => listed.getD k false) 0 (is.take c) vs rs)) r = v := by rw [hr]; simp [putR, get]
            rw [h1, mix_some _ vs 0 rs k i v hit hv (by rw [Nat.zero_add]; exact getD_set_self hks2) (by rw [hdst]; exact hr) fun q i2 hq h2 e2 => by
              have := oneWriter_at hp.one k q i i2 r hit h2 (by rw [hdst]; exact hr) e2
              omega]
          · rw [get_putR hr]
            by_cases hw : ∃ (j : Nat) (i' : VI), (is.take c)[j]? = some i' ∧ i'.dst = some r ∧ listed.getD j false = true
            · obtain ⟨j, i', hj, hjd, hjl⟩ := hw
              have hjv : j < vs.length := by rw [hvs]; exact (List.getElem?_eq_some_iff.1 hj).1
              have hvj : vs[j]? = some vs[j] := by simp [hjv]
              have uniq : ∀ (q : Nat) (i2 : VI), j < q → (is.take c)[q]? = some i2 → i2.dst ≠ some r := fun q i2 hq h2 e => by
                have := oneWriter_at hp.one j q i' i2 r hj h2 hjd e
                omega
              rw [mix_some _ vs 0 rs j i' vs[j] hj hvj (by rw [Nat.zero_add]; exact hjl) hjd uniq, mix_some _ vs 0 rs j i' vs[j] hj hvj (by rw [Nat.zero_add, hL', hjl]; rfl) hjd uniq]
            · rw [mix_none _ vs 0 rs fun j i' hj hjl e => hw ⟨j, i', hj, e, by rw [Nat.zero_add] at hjl; exact hjl⟩, mix_none _ vs 0 rs fun j i' hj hjl e => ?_]
              rw [Nat.zero_add, hL'] at hjl
              simp only [Bool.or_eq_true, decide_eq_true_eq] at hjl
              rcases hjl with hjl | rfl
              · exact hw ⟨j, i', hj, e, hjl⟩
              · rw [hit] at hj; cases hj
                rw [hdst] at e
                exact hr e
        have hK : ∀ u w' g', GLe g g' → Inv cx N hb0 ⟨ownL (fun q => (listed.setIfInBounds k true).getD q false) (is.take c) own, als (fun q => (listed.setIfInBounds k true).getD q false) 0 (is.take c), [], none⟩ (putR o.dst v (mix (fun k => listed.getD k false) 0 (is.take c) vs rs)) h fl g' (a.put o.dst u) w' →
            wpAny P .any ops Q fuel (listed.setIfInBounds k true) (a.put o.dst u) w' := fun u w' g' hle' hi' => ih (listed.setIfInBounds k true) g' (a.put o.dst u) w' (by simpa using hsz) hcl' hns' hcnt' (hle.trans hle') (hi'.regs rfl hmix)
        have hgo := pre_step (S' := ⟨ownL (fun q => (listed.setIfInBounds k true).getD q false) (is.take c) own, als (fun q => (listed.setIfInBounds k true).getD q false) 0 (is.take c), [], none⟩) (K := wpAny P .any ops Q fuel (listed.setIfInBounds k true)) (Q := Q) (ops := ops) hi hC htri (hd o (List.mem_of_getElem? hol)) hb2 (v := v) (by
            cases b with
            | true =>
              obtain ⟨q, hq, hqv⟩ := hx rfl
              have h5 := evalOp_still hl' hq
              exact .inl ⟨rfl, q, by rw [hev]; exact hq, hqv, h5.1, h5.2⟩
            | false => exact .inr ⟨rfl, hy rfl⟩) rfl rfl rfl
          ⟨T1, hs1, hres.pd, fun x hx' => (by
              rcases own_next hp hit hku' hL' hx' with h5 | ⟨h5, h6, h7⟩
              · exact hres.tok x h5
              · exact hres.own x h5 h6 h7), fun x hx' => (by
              rcases al_next hp hit hku' hL' (ctrue listed hcl) hx' with h5 | ⟨h5, h6⟩
              · obtain ⟨e1, e2, e3, e4⟩ := alOf_inv h5
                exact hres.mv x.1 x.2 e1 e3 e4
              · exact hres.al x h5 h6)⟩
          (fun hbf => by
            have hguard : i.guard ≠ none := fun e => by rw [e] at hb2; simp [wanted] at hb2; rw [hbf] at hb2; cases hb2
            refine ⟨fun x hx' => ?_, fun x hx' => ?_⟩
            · rcases own_next hp hit hku' hL' hx' with h5 | ⟨h5, h6, h7⟩
              · exact absurd (tokenOf_inv h5).2 hguard
              · rw [hdst] at h6; exact ⟨h5, h6⟩
            · rcases al_next hp hit hku' hL' (ctrue listed hcl) hx' with h5 | ⟨h5, h6⟩
              · exact absurd (alOf_inv h5).2.1 hguard
              · rw [hdst] at h6; exact ⟨h5, h6⟩) hK
        unfold wpOp
        simp only [ho]
        exact hgo
theorem mix_false : ∀ (is : List VI) (vs : List V) (k : Nat) (rs : Regs), mix (fun _ => false) k is vs rs = rs
  | [], vs, _, _ => by cases vs <;> rfl
  | _ :: _, [], _, _ => rfl
  | i :: is, v :: vs, k, rs => by simp only [mix, cnd_false]; exact mix_false is vs (k + 1) rs
theorem dops_ok {C : Callee} {ops : Array Oper} {id : Nat} (hC : FnOk P R C) (hm : P.follows .mixedOrders = true) {c : Nat} {is gs : List VI} (htr : trIs P ops ops.toList gs = some is) (hp : preOk c ops.toList is = true) {own : Ows} {T : Ow} (hT : Ow.steps R (is.drop c) (preOw c is own) = some T)
    (hd : ∀ o ∈ ops.toList, ∀ x, o.dst = some x → x < N) (hi : Inv0 cx N hb0 own rs h fl g a w) {rs' : Regs} {h' : Heap} {fl' : Fl} (he : evalOps C cx.n0 hb0.length is rs h fl = some (rs', h', fl')) {Q : Exit → Act → World → Prop}
    (hQ : ∀ g' a' w', GLe g g' → Inv cx N hb0 T rs' h' fl' g' a' w' → Q .normal a' w') : (Code.region id ops true).wp P Q a w := by
  have hf := preFacts hp
  have hsplit : is.take c ++ is.drop c = is := List.take_append_drop c is
  rw [← hsplit, evalOps_append] at he
  obtain ⟨r, hr, he⟩ := bnd_eq_some he
  obtain ⟨vs, hvs, hre, hall⟩ := canon (is.take c) 0 rs r (fun i hi' => by
    obtain ⟨j, hj⟩ := List.getElem?_of_mem hi'
    obtain ⟨l, hl, _⟩ := readsOk_at hf.reads j i hj
    rw [hl]; rfl) hr
  subst hre
  refine wp_region_any hm ?_
  have hfalse : (fun k => (Array.replicate ops.size false).getD k false) = fun _ => false := by
    funext k
    by_cases hk : k < ops.size
    · simp [Array.getD, hk]
    · simp [Array.getD, hk]
  have hi' : Inv cx N hb0 ⟨ownL (fun k => (Array.replicate ops.size false).getD k false) (is.take c) own, als (fun k => (Array.replicate ops.size false).getD k false) 0 (is.take c), [], none⟩ (mix (fun k => (Array.replicate ops.size false).getD k false) 0 (is.take c) vs rs) h fl g a w.drew := by
    rw [hfalse, mix_false]
    refine (Inv.drew hi).weaken (fun x hx => ?_) (fun x hx => ?_) (fun x hx => by simp at hx) rfl
    · obtain ⟨h1, _⟩ := mem_ownL.1 hx
      rcases h1 with h1 | h1
      · exact (List.mem_filter.1 h1).1
      · obtain ⟨j, i, _, h2, _⟩ := mem_toks.1 h1
        cases h2
    · obtain ⟨j, i, _, h2, _⟩ := mem_als.1 hx
      cases h2
  have hnone : ∀ k, (Array.replicate ops.size false).getD k false = false := fun k => congrFun hfalse k
  exact first_ok hC htr hf hT hd hvs hall he g hQ ops.size (Array.replicate ops.size false) g a w.drew (by simp) (fun k o _ hk => by rw [hnone k] at hk; cases hk) (fun k _ => hnone k) (Nat.le_trans (List.length_filter_le _ _) (by simp)) (GLe.refl g) hi'
end
end Go.Vm
