/- Every operation; a region whose order is fixed. -/
import Derived.Test.YtphlgefkcghopaaVmC11
set_option linter.unusedVariables false
set_option linter.unusedSimpArgs false
namespace Go.Vm
attribute [local simp] evalOps_nil evalOps_cons evalOps_consg evalOp_mv evalOp_asg evalOp_pick evalOp_build evalOp_bslice evalOp_load evalOp_nilck evalOp_bin evalOp_un evalOp_conv evalOp_mkfn evalOp_slice evalOp_faddr evalOp_field evalOp_iaddr evalOp_index evalOp_lookup evalOp_extract evalOp_app evalOp_len evalOp_mn evalOp_mx evalOp_alloc evalOp_box evalOp_mkmap evalOp_store evalOp_mapupd evalOp_delete evalOp_sliceArr evalOp_call evalOp_callv evalOp_appc code_skip code_ops code_dops code_seq code_cond code_block code_exit code_ret finish_normal finish_ret
attribute [local simp] V.lt V.ltL V.flat V.pureCell V.pure V.isCell cellEq cellsEq eqV intV shV strV isShift binV unV byteV convV minV maxV foldV foldV1 fillV fillE findV putV delV isKey natOf natOr cut cellsAt mapAt mapOf loadV pickV nilckV sizeOk allSize sliceV faddrV fieldV iaddrV indexV found extractV allPure appV lenV ownHas ownOk storeC storeV samePtr appcV boxable mapupdV deleteV sliceArrV callV allLt clean bodyEnd resV one finishV runV initR
section
variable {P : Program} {R : Nat → Option Nat} {cx : Cx} {N : Nat} {hb0 : Heap} {S T : Ow} {rs : Regs} {h : Heap} {fl : Fl} {g : Gh} {a : Act} {w : World} {o : Oper} {gd vop : VOp}

theorem wp_value' {u : Value} {w' : World} {K : Act → World → Prop} {Q : Exit → Act → World → Prop} (hr : (execOp a.eval o).run P w = .ok (.value u) w') (h : K (a.put o.dst u) w') : o.wp P a w K Q := by
  unfold Oper.wp; rw [hr, Oper.upon_value]; exact h
theorem wp_skip' {w' : World} {K : Act → World → Prop} {Q : Exit → Act → World → Prop} (hr : (execOp a.eval o).run P w = .ok .skip w') (h : K (a.put o.dst Go.undef) w') : o.wp P a w K Q := by
  unfold Oper.wp; rw [hr, Oper.upon_skip]; exact h
theorem or_no : fl.or .no = fl := by cases fl; simp [Fl.or]
theorem or_ff : fl.or ⟨false, false⟩ = fl := by cases fl; simp [Fl.or]

set_option maxHeartbeats 1000000 in
theorem op_ok {C : Callee} (hi : Inv cx N hb0 S rs h fl g a w) (hC : FnOk P R C) (htr : trOp P o.op o.type gd = some vop) (hs : S.step1 R o.dst vop = some T) (hd : ∀ x, o.dst = some x → x < N) {r : V × Heap × Fl} (he : evalOp C cx.n0 hb0.length rs h vop = some r)
    {K : Act → World → Prop} {Q : Exit → Act → World → Prop} (hK : ∀ u w' g', GLe g g' → Inv cx N hb0 T (putR o.dst r.1 rs) r.2.1 (fl.or r.2.2) g' (a.put o.dst u) w' → K (a.put o.dst u) w') : o.wp P a w K Q := by
  have quiet : quietOp vop = true → (bnd (valOp h rs vop) fun v => some (v, h, Fl.no)) = some r → o.wp P a w K Q := fun hq hv => by
    obtain ⟨v, hv2, e⟩ := bnd_eq_some hv
    cases e
    obtain ⟨u, hr, hi'⟩ := quiet_ok hi htr hq hv2 hs hd
    exact wp_value' hr (hK u w g (GLe.refl g) (by rw [or_no]; exact hi'))
  cases vop with
  | alloc cs own =>
    cases he
    obtain ⟨u, w', g', hr, hle, hi'⟩ := alloc_ok hi htr hs hd
    exact wp_value' hr (hK u w' g' hle (by rw [or_no]; exact hi'))
  | box n x =>
    simp only [evalOp] at he
    obtain ⟨hb, he⟩ := cnd_eq_some he
    cases he
    obtain ⟨u, w', g', hr, hle, hi'⟩ := box_ok hi htr hs hd hb
    exact wp_value' hr (hK u w' g' hle (by rw [or_no]; exact hi'))
  | store n p x own q =>
    obtain ⟨w', hr, hi'⟩ := store_ok (C := C) hi htr hs hd he
    exact wp_skip' hr (hK Go.undef w' g (GLe.refl g) hi')
  | bslice z k n ps =>
    simp only [evalOp] at he
    obtain ⟨v, hv, e⟩ := bnd_eq_some he
    cases e
    obtain ⟨u, w', g', hr, hle, hi'⟩ := bslice_ok hi htr hs hd hv
    exact wp_value' hr (hK u w' g' hle (by rw [or_no]; exact hi'))
  | app p size bytes s x =>
    simp only [evalOp, valOp] at he
    obtain ⟨v, hv, e⟩ := bnd_eq_some he
    cases e
    obtain ⟨u, w', g', hr, hle, hi'⟩ := app_ok hi htr hs hd hv
    exact wp_value' hr (hK u w' g' hle (by rw [or_no]; exact hi'))
  | appc p size bytes s x =>
    simp only [evalOp] at he
    obtain ⟨wr, hwr, he⟩ := bnd_eq_some he
    obtain ⟨v, hv, e⟩ := bnd_eq_some he
    cases e
    obtain ⟨u, w', g', hr, hle, hi'⟩ := appc_ok hi htr hs hd hv hwr
    exact wp_value' hr (hK u w' g' hle hi')
  | call q f as =>
    simp only [evalOp] at he
    obtain ⟨r0, hr0, he⟩ := bnd_eq_some he
    have := quiet_same he
    subst this
    obtain ⟨args, ts, hop, has⟩ := trOp_call htr
    have hargs := trArgs_sound hi.F.regs has
    simp only [Ow.step1] at hs
    obtain ⟨hnp, hs⟩ := cnd_eq_some hs
    obtain ⟨T0, hk, hs⟩ := bnd_eq_some hs
    have hpd : S.pd = none := by simpa [Ow.noPd] using hnp
    have hexec := exec_call (P := P) (w := w) (a := a) hop (y := .func f) rfl (f := f) (us := #[]) (vs := #[]) rfl
    have hargs' : VRs g (#[] ++ args.map a.eval ++ #[]).toList (vals rs as) := by simpa using hargs
    refine call_core hi hC hr0 hargs' hexec hpd hk (R f) (.inr rfl) ?_ hd hK
    cases hRf : R f <;> rw [hRf] at hs <;> cases hs <;> rfl
  | callv q x as =>
    simp only [evalOp] at he
    obtain ⟨r0, hr0, he⟩ := bnd_eq_some he
    have := quiet_same he
    subst this
    obtain ⟨y, args, ts, hop, hy, has⟩ := trOp_callv htr
    have hargs := trArgs_sound hi.F.regs has
    have hyv := trArg_sound hi.F.regs hy
    simp only [Ow.step1] at hs
    obtain ⟨hnp, hs⟩ := cnd_eq_some hs
    obtain ⟨T0, hk, hs⟩ := bnd_eq_some hs
    cases hs
    have hpd : S.pd = none := by simpa [Ow.noPd] using hnp
    unfold callV at hr0
    split at hr0
    · rename_i f first caps hxe
      rw [hxe] at hyv
      obtain ⟨us, vs, hyu, h1, h2⟩ := hyv.fn_inv
      have hexec := exec_call (P := P) (w := w) (a := a) hop (y := y) rfl hyu
      have hargs' : VRs g (us.toArray ++ args.map a.eval ++ vs.toArray).toList (first ++ (vals rs as ++ caps)) := by
        have := h1.append (hargs.append h2)
        simpa using this
      exact call_core hi hC hr0 hargs' hexec hpd hk none (.inl rfl) rfl hd hK
    · cases hr0
  | conv k x =>
    cases k with
    | bytesOfStr => simp only [Ow.step1, reduceCtorEq] at hs
    | _ => exact quiet rfl he
  | mkmap => simp only [Ow.step1, reduceCtorEq] at hs
  | sliceArr n k x => simp only [Ow.step1, reduceCtorEq] at hs
  | mapupd q m k v => simp only [Ow.step1, reduceCtorEq] at hs
  | delete q m k => simp only [Ow.step1, reduceCtorEq] at hs
  | _ => exact quiet rfl he

/-- The guard, as the V-machine has it. -/
theorem wanted_ok {ops : Array Oper} (hr : RR g a rs) (hsz : a.tmps.size = N) {gd' : Option (Nat × Bool)} (hg : trGuard ops o.guard = some gd') {b : Bool} (hb : wanted rs gd' = some b) : Region.wanted o (yielded ops a.tmps) = b := by
  unfold trGuard at hg
  unfold Region.wanted
  split at hg
  · rename_i e
    cases hg
    cases hb
    rw [e]
  · rename_i j t e
    split at hg
    · rename_i d hd
      cases hg
      simp only [wanted] at hb
      rw [e]
      simp only [yielded, hd, Option.bind_some]
      have hv := hr d
      unfold wantedV at hb
      split at hb
      · rename_i c hc
        rw [hc] at hv
        cases hb
        have hb1 := hv.bool_inv
        have : a.tmps[d]? = some (.bool c) := by
          rw [Array.getD_eq_getD_getElem?] at hb1
          cases hq : a.tmps[d]? with
          | none => rw [hq] at hb1; cases hb1
          | some z => rw [hq] at hb1; simp at hb1; rw [hb1]
        rw [this]
        cases c <;> cases t <;> rfl
      · rename_i hc
        rw [hc] at hv
        cases hb
        have hu : a.tmps.getD d Go.undef = Go.undef := by
          generalize a.tmps.getD d Go.undef = q at hv
          cases hv with
          | cell c => cases c
          | undef => rfl
        rw [Array.getD_eq_getD_getElem?] at hu
        cases hq : a.tmps[d]? with
        | none => cases t <;> rfl
        | some z =>
          rw [hq] at hu
          simp at hu
          subst hu
          cases t <;> rfl
      · cases hb
    · cases hg

theorem step_ok {C : Callee} {ops : Array Oper} {i : VI} (hi : Inv cx N hb0 S rs h fl g a w) (hC : FnOk P R C) {g0 : VI} (htr : trI P ops o g0 = some i) (hs : S.step R i = some T) (hd : ∀ x, o.dst = some x → x < N) {b : Bool} (hb : wanted rs i.guard = some b)
    {rs' : Regs} {h' : Heap} {fl' : Fl} (he : (b = true ∧ ∃ r, evalOp C cx.n0 hb0.length rs h i.op = some r ∧ rs' = putR i.dst r.1 rs ∧ h' = r.2.1 ∧ fl' = fl.or r.2.2) ∨ (b = false ∧ rs' = putR i.dst .undef rs ∧ h' = h ∧ fl' = fl))
    {K : Act → World → Prop} {Q : Exit → Act → World → Prop} (hK : ∀ u w' g', GLe g g' → Inv cx N hb0 T rs' h' fl' g' (a.put o.dst u) w' → K (a.put o.dst u) w') :
    (if Region.wanted o (yielded ops a.tmps) then o.wp P a w K Q ∨ (o.asks P a w ∧ LetsOut Q) else K (a.put o.dst Go.undef) w) := by
  simp only [trI] at htr
  obtain ⟨gd', hgd, htr⟩ := bnd_eq_some htr
  obtain ⟨vop, hop, htr⟩ := bnd_eq_some htr
  cases htr
  have hwant := wanted_ok hi.F.regs hi.F.size hgd hb
  rw [hwant]
  rcases he with ⟨rfl, r, hr, rfl, rfl, rfl⟩ | ⟨rfl, rfl, rfl, rfl⟩
  · simp only [if_true]
    left
    cases gd' with
    | none => exact op_ok hi hC hop hs hd hr hK
    | some q =>
      simp only [Ow.step] at hs
      obtain ⟨S1, h1, hs⟩ := bnd_eq_some hs
      obtain ⟨S0, h0, hs⟩ := bnd_eq_some hs
      obtain ⟨S2, h2, hs⟩ := bnd_eq_some hs
      obtain ⟨hsub, hs⟩ := cnd_eq_some hs
      cases hs
      refine op_ok hi hC hop h1 hd hr fun u w' g' hle hi' => hK u w' g' hle ?_
      obtain ⟨m1, m2, m3, m4⟩ := kill_sub h2
      refine hi'.weaken (fun x hx => (m2 x hx).1) (fun x hx => (m3 x hx).1) (fun x hx => ?_) m1
      cases hdst : o.dst with
      | none => rw [hdst] at h2; cases kill_none h2; exact hx
      | some d => rw [hdst] at h2; obtain ⟨_, rfl⟩ := kill_some h2; exact (mem_offPair.1 hx).1
  · simp only [if_false, Bool.false_eq_true]
    cases gd' with
    | none => simp [wanted] at hb
    | some q =>
      simp only [Ow.step] at hs
      obtain ⟨S1, h1, hs⟩ := bnd_eq_some hs
      obtain ⟨S0, h0, hs⟩ := bnd_eq_some hs
      obtain ⟨S2, h2, hs⟩ := bnd_eq_some hs
      obtain ⟨hsub, hs⟩ := cnd_eq_some hs
      cases hs
      exact hK Go.undef w g (GLe.refl g) ((hi.put hd h0 .undef).sub hsub)

/-- All operations, one behind the other. -/
theorem list_ok {C : Callee} {ops : Array Oper} (hC : FnOk P R C) {Q : Exit → Act → World → Prop} {rs' : Regs} {h' : Heap} {fl' : Fl} : ∀ (os : List Oper) (is is' : List VI) (k : Nat) (S T : Ow) (rs : Regs) (h : Heap) (fl : Fl) (g : Gh) (a : Act) (w : World),
    (∀ (j : Nat), os[j]? = ops[k + j]?) → trIs P ops os is' = some is → Inv cx N hb0 S rs h fl g a w → Ow.steps R is S = some T → (∀ o ∈ os, ∀ x, o.dst = some x → x < N) → evalOps C cx.n0 hb0.length is rs h fl = some (rs', h', fl') →
    (∀ g' a' w', GLe g g' → Inv cx N hb0 T rs' h' fl' g' a' w' → Q .normal a' w') → wpOps P ops Q (List.range' k os.length) a w
  | [], is, is', k, S, T, rs, h, fl, g, a, w, _, htr, hi, hs, _, he, hQ => by
    cases is' with
    | nil =>
      cases htr
      cases hs
      cases he
      exact hQ g a w (GLe.refl g) hi
    | cons _ _ => cases htr
  | o :: os, is, is', k, S, T, rs, h, fl, g, a, w, hk, htr, hi, hs, hd, he, hQ => by
    cases is' with
    | nil => cases htr
    | cons g0 gs =>
      simp only [trIs] at htr
      obtain ⟨i, h1, htr⟩ := bnd_eq_some htr
      obtain ⟨l, h2, htr⟩ := bnd_eq_some htr
      cases htr
      simp only [Ow.steps] at hs
      obtain ⟨T1, hs1, hs⟩ := bnd_eq_some hs
      simp only [evalOps] at he
      obtain ⟨b, hb, he⟩ := bnd_eq_some he
      have ho : ops[k]? = some o := by have := hk 0; simpa using this.symm
      simp only [List.length_cons, List.range'_succ, wpOps, ho]
      have next : ∀ rs1 h1' fl1, evalOps C cx.n0 hb0.length l rs1 h1' fl1 = some (rs', h', fl') → ∀ u w' g', GLe g g' → Inv cx N hb0 T1 rs1 h1' fl1 g' (a.put o.dst u) w' → wpOps P ops Q (List.range' (k + 1) os.length) (a.put o.dst u) w' :=
        fun rs1 h1' fl1 he' u w' g' hle hi' => list_ok hC os l gs (k + 1) T1 T rs1 h1' fl1 g' (a.put o.dst u) w' (fun j => by have := hk (j + 1); simpa [Nat.add_assoc, Nat.add_comm 1 j] using this) h2 hi' hs (fun o ho => hd o (by simp [ho])) he' fun g'' a' w'' hle' hi'' => hQ g'' a' w'' (hle.trans hle') hi''
      cases b with
      | true =>
        simp only [cnd_true] at he
        obtain ⟨r, hr, he⟩ := bnd_eq_some he
        exact step_ok hi hC h1 hs1 (hd o (by simp)) hb (.inl ⟨rfl, r, hr, rfl, rfl, rfl⟩) (next _ _ _ he)
      | false => exact step_ok hi hC h1 hs1 (hd o (by simp)) hb (.inr ⟨rfl, rfl, rfl, rfl⟩) (next _ _ _ he)
end
end Go.Vm
