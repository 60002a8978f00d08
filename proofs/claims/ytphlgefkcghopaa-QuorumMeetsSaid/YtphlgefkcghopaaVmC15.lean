/- A function: its body run, what it hands back; all functions at once. -/
import Derived.Test.YtphlgefkcghopaaVmC14
set_option linter.unusedVariables false
set_option linter.unusedSimpArgs false
namespace Go.Vm
attribute [local simp] evalOps_nil evalOps_cons evalOps_consg evalOp_mv evalOp_asg evalOp_pick evalOp_build evalOp_bslice evalOp_load evalOp_nilck evalOp_bin evalOp_un evalOp_conv evalOp_mkfn evalOp_slice evalOp_faddr evalOp_field evalOp_iaddr evalOp_index evalOp_lookup evalOp_extract evalOp_app evalOp_len evalOp_mn evalOp_mx evalOp_alloc evalOp_box evalOp_mkmap evalOp_store evalOp_mapupd evalOp_delete evalOp_sliceArr evalOp_call evalOp_callv evalOp_appc code_skip code_ops code_dops code_seq code_cond code_block code_exit code_ret finish_normal finish_ret
attribute [local simp] V.lt V.ltL V.flat V.pureCell V.pure V.isCell cellEq cellsEq eqV intV shV strV isShift binV unV byteV convV minV maxV foldV foldV1 fillV fillE findV putV delV isKey natOf natOr cut cellsAt mapAt mapOf loadV pickV nilckV sizeOk allSize sliceV faddrV fieldV iaddrV indexV found extractV allPure appV lenV ownHas ownOk storeC storeV samePtr appcV boxable mapupdV deleteV sliceArrV callV allLt clean bodyEnd resV one finishV runV initR

/-- Where a function that hands back a slice of the caller's own has it. -/
def ownRet (sz : Nat) (res : List Res) (c : CRes) : Bool :=
  match res with
  | [.r t] => (match c.nm with | some o => hasOwn t 0 sz o | none => true) && c.rt.all fun o => hasOwn t 0 sz o
  | _ => false
/-- What the kernel looks at, once for each function. -/
structure FunOk (P : Program) (R : Nat → Option Nat) (f : Nat) (v : VFun) : Prop where
  ok : ∃ fn code c, P.funcs[f]? = some fn ∧ fn.body = some code ∧ (fn.name == "runtime.NumGoroutine") = false ∧ trCode P code v.body = some v.body ∧ trRes P fn.results.toList = some v.res ∧ preC code v.body = true ∧ dstC fn.ntmps v.body = true ∧ v.params ≤ fn.ntmps ∧
    codeC R v.body [] = some c ∧ ∀ sz, R f = some sz → ownRet sz v.res c = true
def PrimOk (P : Program) (R : Nat → Option Nat) (f : Nat) (p : List V → Heap → Option (V × Heap × Fl)) : Prop :=
  ∀ vargs h r, p vargs h = some r → ∀ g w (uargs : Array Value), Pre h g w → VRs g uargs.toList vargs → CallOk P f uargs w (CallPost (calleeCx h g w) h (R f) r)
structure EnvOk (P : Program) (R : Nat → Option Nat) (E : Env) : Prop where
  mixed : P.follows .mixedOrders = true
  fn : ∀ f v, E.prim f = none → E.fn f = some v → FunOk P R f v
  prim : ∀ f p, E.prim f = some p → PrimOk P R f p

section
variable {P : Program} {R : Nat → Option Nat}

theorem pre_start {h : Heap} {g : Gh} {w : World} (hp : Pre h g w) {N : Nat} {uargs : Array Value} {vargs : List V} (hargs : VRs g uargs.toList vargs) (hN : uargs.size ≤ N) :
    Inv0 (calleeCx h g w) N h [] (initR vargs 0) h .no g { tmps := uargs ++ Array.replicate (N - uargs.size) Go.undef, defers := [] } w := by
  have cellOf : ∀ p sz u tmps, Held [] none h g tmps w p sz u → Held [] none h g #[] w p sz u ∧ ∃ i j, p = .cell i j := fun p sz u tmps hq => by
    cases p with
    | reg r off => obtain ⟨h1, _⟩ := hq; simp at h1
    | cell i j => exact ⟨hq, i, j, rfl⟩
  refine ⟨⟨rfl, rfl, rfl, Nat.le_refl _, fun _ _ _ => rfl, fun _ _ _ => rfl⟩, ⟨hp.hr, ⟨fun i b hb => ?_, ImmLe.refl _⟩, fun _ _ _ _ => rfl, Nat.le_refl _, Nat.le_refl _, fun _ _ => rfl, hp.dom, fun i b hb => ⟨hp.muW i b hb, fun hl => .inr (.inl ⟨i, hl, hb⟩)⟩, fun i b hi hb => ?_, hp.inj, hp.muimm, .inr fun i o _ ho => ⟨o, ho, fun _ h => h⟩⟩,
    ⟨none, ⟨fun p sz u hq => hp.own p sz u (cellOf p sz u _ hq).1, fun p sz u b hq hb => ?_, fun p q sz sz' u u' b hq hq' => hp.dis p q sz sz' u u' b (cellOf p sz u _ hq).1 (cellOf q sz' u' _ hq').1⟩, ⟨fun t p hm => by simp at hm, fun t p hm => by simp at hm, .inl ⟨rfl, rfl⟩⟩⟩, ⟨?_, rfl, ?_⟩⟩
  · simp only [Gh.trim] at hb
    split at hb
    · exact hb
    · cases hb
  · have h1 := hp.dom i b hb
    have h2 : h.length ≤ i := hi
    omega
  · obtain ⟨h1, i, j, rfl⟩ := cellOf p sz u _ hq
    exact ⟨.inr (.inr ⟨i, j, sz, u, h1, hb⟩), hp.blk _ _ _ b h1 hb, fun _ => ⟨sz, u, h1, hb⟩⟩
  · simp; omega
  · have hlen := hargs.length
    have key : ∀ (vs : List V) (k r : Nat), get (initR vs k) r = if k ≤ r then (match vs[r - k]? with | some v => v | none => .top) else .top := by
      intro vs
      induction vs with
      | nil => intro k r; simp [initR, get]
      | cons v vs ih =>
        intro k r
        simp only [initR, get]
        by_cases hr : r = k
        · subst hr; simp
        · simp only [hr, decide_false, cnd_false, ih]
          by_cases hk : k ≤ r
          · have h1 : k + 1 ≤ r := by omega
            rw [if_pos h1, if_pos hk, show r - k = (r - (k + 1)) + 1 by omega, List.getElem?_cons_succ]
          · rw [if_neg (by omega), if_neg hk]
    intro r
    rw [key]
    simp only [Nat.zero_le, if_true, Nat.sub_zero]
    cases hv : vargs[r]? with
    | none => exact .top
    | some v =>
      obtain ⟨u, hu, hr⟩ := hargs.get r v hv
      have hlt := (List.getElem?_eq_some_iff.1 hu).1
      have : (uargs ++ Array.replicate (N - uargs.size) Go.undef).getD r Go.undef = u := by
        rw [Array.getD_eq_getD_getElem?, Array.getElem?_append_left (by simpa using hlt)]
        have : uargs[r]? = some u := by simpa using hu
        rw [this]; rfl
      rw [this]
      exact hr

theorem results_ok {h : Heap} {g : Gh} {a : Act} {w : World} {rs : Regs} (hi : HRead g h w) (hr : RR g a rs) : ∀ (l : List ResultVar) (res : List Res) (vs : List V), trRes P l = some res → resV rs h res = some vs →
    ∃ us, (l.mapM (m := Sem) fun | .tmp t => pure (a.tmps.getD t Go.undef) | .cell x t => do loadVar t (← asAddr (a.tmps.getD x Go.undef))).run P w = .ok us w ∧ VRs g us vs
  | [], res, vs, ht, hv => by
    cases ht; cases hv
    exact ⟨[], by simp, .nil⟩
  | .tmp t :: l, res, vs, ht, hv => by
    simp only [trRes] at ht
    obtain ⟨rl, hl, ht⟩ := bnd_eq_some ht
    cases ht
    simp only [resV] at hv
    obtain ⟨vl, hvl, hv⟩ := bnd_eq_some hv
    cases hv
    obtain ⟨us, hu, hur⟩ := results_ok hi hr l rl vl hl hvl
    exact ⟨a.tmps.getD t Go.undef :: us, by simp only [List.mapM_cons, Sem.run_bind, Sem.run_pure, Result.andThen_ok, hu], .cons (hr t) hur⟩
  | .cell x t :: l, res, vs, ht, hv => by
    simp only [trRes] at ht
    obtain ⟨b, hb, ht⟩ := bnd_eq_some ht
    obtain ⟨n, hn, ht⟩ := bnd_eq_some ht
    obtain ⟨rl, hl, ht⟩ := bnd_eq_some ht
    split at ht
    · rename_i h1
      cases ht
      simp only [resV] at hv
      obtain ⟨v, hvv, hv⟩ := bnd_eq_some hv
      obtain ⟨vl, hvl, hv⟩ := bnd_eq_some hv
      cases hv
      obtain ⟨us, hu, hur⟩ := results_ok hi hr l rl vl hl hvl
      obtain ⟨z, hz, hzr⟩ := loadV_sound (P := P) hi hb hn h1 (hr x) hvv
      obtain ⟨c, k, hck⟩ := (hr x).addr hvv
      refine ⟨z :: us, ?_, .cons hzr hur⟩
      have hz2 : (loadVar t ⟨c, k, none⟩).run P w = .ok z w := by
        rw [hck] at hz
        simpa [Instr.loadAt, Instr.sureAddr] using hz
      have ha : asAddr (a.tmps.getD x Go.undef) = pure ⟨c, k, none⟩ := by rw [hck]; rfl
      simp only [List.mapM_cons, ha, Sem.run_bind, Sem.run_pure, Result.andThen_ok, hz2, hu]
    · cases ht
theorem results_run {h : Heap} {g : Gh} {a : Act} {w : World} {rs : Regs} (hi : HRead g h w) (hr : RR g a rs) {fn : Func} {res : List Res} {vs : List V} (ht : trRes P fn.results.toList = some res) (hv : resV rs h res = some vs) :
    ∃ u, (results fn a.tmps).run P w = .ok u w ∧ VR g u (one vs) ∧ ∀ t, res = [.r t] → u = a.tmps.getD t Go.undef := by
  obtain ⟨us, hu, hur⟩ := results_ok (P := P) hi hr fn.results.toList res vs ht hv
  have hl := hur.length
  have h1 : (results fn a.tmps).run P w = .ok (if h : us.toArray.size = 1 then us.toArray[0] else .tuple us.toArray) w := by
    unfold results
    rw [Array.mapM_eq_mapM_toList]
    simp only [Sem.run_bind, map_eq_pure_bind, Sem.run_pure]
    exact congrArg (fun r : Result (List Value) => (r.andThen fun a w' => Result.ok a.toArray w').andThen fun a w' => Result.ok (if h : a.size = 1 then a[0] else Value.tuple a) w') hu
  refine ⟨_, h1, ?_, fun t ht' => ?_⟩
  · match us, vs, hur, hl with
    | [], [], .nil, _ => simpa [one] using VR.tup (g := g) .nil
    | [u], [v], .cons x .nil, _ => simpa [one] using x
    | u :: u' :: us, v :: v' :: vs, hh, _ => simpa [one] using VR.tup hh
  · subst ht'
    have : ∃ t', fn.results.toList = [.tmp t'] ∧ t' = t := by
      cases hfl : fn.results.toList with
      | nil => rw [hfl] at ht; cases ht
      | cons x l =>
        rw [hfl] at ht
        cases x with
        | tmp t' =>
          simp only [trRes] at ht
          obtain ⟨rl, hrl, ht⟩ := bnd_eq_some ht
          cases ht
          cases l with
          | nil => exact ⟨_, rfl, rfl⟩
          | cons y l' =>
            exfalso
            cases y with
            | tmp _ => simp only [trRes] at hrl; obtain ⟨_, _, hrl⟩ := bnd_eq_some hrl; cases hrl
            | cell _ _ =>
              simp only [trRes] at hrl
              obtain ⟨_, _, hrl⟩ := bnd_eq_some hrl; obtain ⟨_, _, hrl⟩ := bnd_eq_some hrl; obtain ⟨_, _, hrl⟩ := bnd_eq_some hrl
              split at hrl <;> cases hrl
        | cell _ _ =>
          simp only [trRes] at ht
          obtain ⟨_, _, ht⟩ := bnd_eq_some ht; obtain ⟨_, _, ht⟩ := bnd_eq_some ht; obtain ⟨_, _, ht⟩ := bnd_eq_some ht
          split at ht <;> cases ht
    obtain ⟨t', hfl, rfl⟩ := this
    rw [hfl] at hu
    simp only [List.mapM_cons, List.mapM_nil, Sem.run_bind, Sem.run_pure, Result.andThen_ok, Result.ok.injEq] at hu
    obtain ⟨hu, _⟩ := hu
    subst hu
    simp

theorem callFunc_enter {f : Nat} {fn : Func} {code : Code} (hf : P.funcs[f]? = some fn) (hb : fn.body = some code) (hn : (fn.name == "runtime.NumGoroutine") = false) (uargs : Array Value) (w : World) : (callFunc f uargs).run P w = .ok (.enter f uargs) w := by
  have hn' : ¬ fn.name = "runtime.NumGoroutine" := by simpa using hn
  simp [callFunc, hf, hb, hn']

/-- The run is over. -/
theorem fun_end {h : Heap} {g0 : Gh} {w0 : World} {N : Nat} (hp : Pre h g0 w0) {o : Ows} {st : St} {g : Gh} {a : Act} {w : World} (hi : Inv0 (calleeCx h g0 w0) N h o st.rs st.h st.fl g a w) {u : Value} {v : V} (hu : VR g u v) {own : Option Nat}
    (hown : ∀ sz, own = some sz → ∃ t z, u = a.tmps.getD t Go.undef ∧ (t, 0, z) ∈ o ∧ (z = sz ∨ z = 0)) : CallPost (calleeCx h g0 w0) h own (finishV h.length st v) u w := by
  obtain ⟨hO, _⟩ := hi.own0 rfl
  have cells : ∀ {h' : Heap} {g' : Gh}, OwnI (calleeCx h g0 w0) o none h' g' a.tmps w → OwnI (calleeCx h g0 w0) [] none h' g' #[] w := fun hO' =>
    hO'.map (fun p q => p = q) (fun _ _ _ e1 e2 => e1.trans e2.symm) (fun p sz x hq => .inr ⟨_, sz, rfl, by
      cases p with
      | reg r off => obtain ⟨h1, _⟩ := hq; simp at h1
      | cell i j => exact hq, .inl rfl⟩) (fun p q b e hn => e ▸ hn) (fun _ _ _ _ _ _ _ => ⟨⟨rfl, fun _ h => h⟩, fun _ h1 h2 => ⟨h1, h2⟩⟩)
  have res : ∀ (h' : Heap) (g' : Gh), OwnI (calleeCx h g0 w0) o none h' g' a.tmps w → ∀ sz, own = some sz → ∀ x, u.cells[0]? = some x → OwnRes (calleeCx h g0 w0) h' g' w sz x := fun h' g' hO' sz e x hx => by
    obtain ⟨t, z, rfl, hm, hz⟩ := hown sz e
    have hheld : Held o none h' g' a.tmps w (.reg t 0) z x := ⟨hm, hx⟩
    have h1 := hO'.own _ _ _ hheld
    refine ⟨?_, fun b hb => ?_⟩
    · rcases hz with rfl | rfl
      · exact h1
      · exact h1.zero.1
    · obtain ⟨f1, f2, f3⟩ := hO'.blk _ _ _ b hheld hb
      refine ⟨Nat.le_of_not_lt fun hlt => ?_, f2, fun p sz' u' hq hb' => ?_⟩
      · obtain ⟨i, j, e, _⟩ := f3 hlt
        cases e
      · cases p with
        | reg r off => obtain ⟨h1, _⟩ := hq; simp at h1
        | cell i j => cases hO'.dis _ _ _ _ _ _ b hheld (held_cell hq _ _) hb hb'
  unfold finishV
  cases hc : (!st.fl.esc && v.lt h.length)
  · exact ⟨g, hi.W, hi.G, cells hO, hu, res _ _ hO⟩
  · simp only [Bool.and_eq_true, Bool.not_eq_true'] at hc
    have hbl : BaseLt h := fun i ob ho => by
      cases hl : ob.live
      · cases ob <;> first | (cases hl; done) | rfl
      · obtain ⟨b, _, hob⟩ := hp.hr.obj i ob ho hl
        exact hob.lt hp.dom
    have hG := (hi.G.cut hc.1 hbl).fl' (fl' := ⟨st.fl.wr, false⟩) hc.1.symm
    exact ⟨g.trim h.length, hi.W.fl' id, hG, cells hO.cut, hu.trim hc.2, res _ _ hO.cut⟩

theorem fun_ok {f : Nat} {v : VFun} (hv : FunOk P R f v) {C : Callee} (hC : FnOk P R C) (hm : P.follows .mixedOrders = true) {k : Nat} {vargs : List V} {h : Heap} {r : V × Heap × Fl} (hr : runV C (iterN k) v vargs h = some r) {g : Gh} {w : World} {uargs : Array Value} (hp : Pre h g w) (hargs : VRs g uargs.toList vargs) :
    CallOk P f uargs w (CallPost (calleeCx h g w) h (R f) r) := by
  obtain ⟨fn, code, c, hf, hb, hn, htr, hres, hpre, hd, hpar, hc, hown⟩ := hv.ok
  unfold runV at hr
  obtain ⟨hlen, hr⟩ := cnd_eq_some hr
  obtain ⟨⟨ex, st⟩, he, hr⟩ := bnd_eq_some hr
  have hlen := of_decide_eq_true hlen
  have hul := hargs.length
  have hsize : uargs.size = v.params := by rw [← hlen, ← hul]; simp
  refine .inl ⟨callFunc_enter hf hb hn uargs w, calls_of_wp hf hb ?_⟩
  have hi := pre_start hp hargs (N := fn.ntmps) (by omega)
  have hbl : BaseLt h := hi.G.baseLt
  refine code_ok hC hm code v.body v.body h [] c ⟨initR vargs 0, h, .no⟩ st ex g _ w _ htr hpre hc hd hbl hi he fun g' a' w' hle hfit => ?_
  have fin : ∀ o, Inv0 (calleeCx h g w) fn.ntmps h o st.rs st.h st.fl g' a' w' → (∀ sz, R f = some sz → ownRet sz v.res c = true → ∃ t, v.res = [.r t] ∧ hasOwn t 0 sz o = true) → (bnd (resV st.rs st.h v.res) fun vs => some (finishV h.length st (one vs))) = some r →
      a'.defers = [] ∧ ∃ u, (results fn a'.tmps).run P w' = .ok u w' ∧ ∃ u', Ending.returned u = .returned u' ∧ CallPost (calleeCx h g w) h (R f) r u' w' := fun o hi' hret hfin => by
    obtain ⟨vs, hvs, hfin⟩ := bnd_eq_some hfin
    cases hfin
    obtain ⟨u, hu, hur, hut⟩ := results_run (P := P) hi'.G.hr hi'.F.regs hres hvs
    refine ⟨hi'.F.nodef, u, hu, u, rfl, fun_end hp hi' hur fun sz hsz => ?_⟩
    obtain ⟨t, ht, ho⟩ := hret sz hsz (hown sz hsz)
    obtain ⟨z, h1, h2⟩ := hasOwn_mem ho
    exact ⟨t, z, hut t ht, h1, h2⟩
  have retOf : ∀ sz o, ownRet sz v.res c = true → (c.nm = some o ∨ o ∈ c.rt) → ∃ t, v.res = [.r t] ∧ hasOwn t 0 sz o = true := fun sz o hor hcase => by
    unfold ownRet at hor
    split at hor
    · rename_i t hvr
      simp only [Bool.and_eq_true, List.all_eq_true] at hor
      refine ⟨t, hvr, ?_⟩
      rcases hcase with h1 | h1
      · have := hor.1
        rw [h1] at this
        exact this
      · exact hor.2 o h1
    · cases hor
  cases ex with
  | normal =>
    obtain ⟨o, ho, hi'⟩ := hfit
    exact fin o hi' (fun sz _ hor => retOf sz o hor (.inl ho)) hr
  | exit id => cases hr
  | ret =>
    obtain ⟨o, ho, hi'⟩ := hfit
    exact fin o hi' (fun sz _ hor => retOf sz o hor (.inr ho)) hr

/-- The V-machine is sound. -/
theorem env_ok {E : Env} (hE : EnvOk P R E) : ∀ n, FnOk P R (evalFn E n)
  | 0 => fun _ _ _ _ hr => by cases hr
  | n + 1 => fun f vargs h r hr g w uargs hp hargs => by
    simp only [evalFn, runFn] at hr
    cases hpr : E.prim f with
    | some p =>
      rw [hpr] at hr
      exact hE.prim f p hpr vargs h r hr g w uargs hp hargs
    | none =>
      rw [hpr] at hr
      cases hf : E.fn f with
      | none => rw [hf] at hr; cases hr
      | some v =>
        rw [hf] at hr
        exact fun_ok (hE.fn f v hpr hf) (env_ok hE n) hE.mixed hr hp hargs
theorem call_sound {E : Env} (hE : EnvOk P R E) : FnOk P R (callL E) := fun f vargs h r hr g w uargs hp hargs => by
  obtain ⟨n, hn⟩ := callL_iff.1 hr
  exact env_ok hE n f vargs h r hn g w uargs hp hargs
end
end Go.Vm
