/- A region whose order is open: its first part. -/
import Derived.Test.YtphlgefkcghopaaVmD4
set_option linter.unusedVariables false
set_option linter.unusedSimpArgs false
namespace Go.Vm
attribute [local simp] evalOps_nil evalOps_cons evalOps_consg evalOp_mv evalOp_asg evalOp_pick evalOp_build evalOp_bslice evalOp_load evalOp_nilck evalOp_bin evalOp_un evalOp_conv evalOp_mkfn evalOp_slice evalOp_faddr evalOp_field evalOp_iaddr evalOp_index evalOp_lookup evalOp_extract evalOp_app evalOp_len evalOp_mn evalOp_mx evalOp_alloc evalOp_box evalOp_mkmap evalOp_store evalOp_mapupd evalOp_delete evalOp_sliceArr evalOp_call evalOp_callv evalOp_appc code_skip code_ops code_dops code_seq code_cond code_block code_exit code_ret finish_normal finish_ret
attribute [local simp] V.lt V.ltL V.flat V.pureCell V.pure V.isCell cellEq cellsEq eqV intV shV strV isShift binV unV byteV convV minV maxV foldV foldV1 fillV fillE findV putV delV isKey natOf natOr cut cellsAt mapAt mapOf loadV pickV nilckV sizeOk allSize sliceV faddrV fieldV iaddrV indexV found extractV allPure appV lenV ownHas ownOk storeC storeV samePtr appcV boxable mapupdV deleteV sliceArrV callV allLt clean bodyEnd resV one finishV runV initR
section
variable {P : Program} {R : Nat → Option Nat} {cx : Cx} {N : Nat} {hb0 : Heap} {S S' T : Ow} {rs : Regs} {h : Heap} {fl : Fl} {g : Gh} {a : Act} {w : World}

theorem pre_step {C : Callee} {ops : Array Oper} {o : Oper} {i : VI} (hi : Inv cx N hb0 S rs h fl g a w) (hC : FnOk P R C) {g0 : VI} (htr : trI P ops o g0 = some i) (hd : ∀ x, o.dst = some x → x < N) {b : Bool} (hb : wanted rs i.guard = some b) {v : V}
    (he : (b = true ∧ ∃ q, evalOp C cx.n0 hb0.length rs h i.op = some q ∧ q.1 = v ∧ q.2.1 = h ∧ q.2.2 = .no) ∨ (b = false ∧ v = .undef)) (hS : S.pd = none) (hS' : S'.pd = none) (hla : S'.la = [])
    (h1 : ∃ T1, S.step1 R o.dst i.op = some T1 ∧ T1.pd = none ∧ (∀ x, x ∈ S'.own → x ∈ T1.own) ∧ ∀ x, x ∈ S'.al → x ∈ T1.al)
    (h0 : b = false → (∀ x, x ∈ S'.own → x ∈ S.own ∧ ∀ d, o.dst = some d → x.1 ≠ d) ∧ ∀ x, x ∈ S'.al → x ∈ S.al ∧ ∀ d, o.dst = some d → x.1 ≠ d ∧ x.2 ≠ d)
    {K : Act → World → Prop} {Q : Exit → Act → World → Prop} (hK : ∀ u w' g', GLe g g' → Inv cx N hb0 S' (putR o.dst v rs) h fl g' (a.put o.dst u) w' → K (a.put o.dst u) w') :
    (if Region.wanted o (yielded ops a.tmps) then o.wp P a w K Q ∨ (o.asks P a w ∧ LetsOut Q) else K (a.put o.dst Go.undef) w) := by
  simp only [trI] at htr
  obtain ⟨gd', hgd, htr⟩ := bnd_eq_some htr
  obtain ⟨vop, hop, htr⟩ := bnd_eq_some htr
  cases htr
  have hwant := wanted_ok hi.F.regs hi.F.size hgd hb
  rw [hwant]
  rcases he with ⟨rfl, q, hq, rfl, hqh, hqf⟩ | ⟨rfl, rfl⟩
  · simp only [if_true]
    left
    obtain ⟨T1, hs1, hp1, ho1, ha1⟩ := h1
    refine op_ok hi hC hop hs1 hd hq fun u w' g' hle hi' => hK u w' g' hle ?_
    rw [hqh, hqf, or_no] at hi'
    exact hi'.weaken ho1 ha1 (fun x hx => by rw [hla] at hx; simp at hx) (hS'.trans hp1.symm)
  · simp only [if_false, Bool.false_eq_true]
    obtain ⟨T0, hk, k1, k2, k3, k4⟩ := kill_nopd hS o.dst
    obtain ⟨e1, e2⟩ := h0 rfl
    exact hK Go.undef w g (GLe.refl g) ((hi.put hd hk .undef).weaken (fun x hx => (k2 x).2 (e1 x hx)) (fun x hx => (k3 x).2 (e2 x hx)) (fun x hx => by rw [hla] at hx; simp at hx) (hS'.trans k1.symm))
theorem Inv.regs {rs' : Regs} (hi : Inv cx N hb0 S rs h fl g a w) (hS : S.pd = none) (he : ∀ r, get rs r = get rs' r) : Inv cx N hb0 S rs' h fl g a w := by
  obtain ⟨hO, hf⟩ := hi.own0 hS
  exact ⟨hi.W, hi.G, ⟨none, hO, ⟨hf.al, hf.la, .inl ⟨hS, rfl⟩⟩⟩, ⟨hi.F.size, hi.F.nodef, fun r => by rw [← he r]; exact hi.F.regs r⟩⟩

/-- What an operation of the first part does to what is known. -/
structure PreRes (S T1 : Ow) (i : VI) : Prop where
  pd : T1.pd = none
  own : ∀ x, x ∈ S.own → (∀ d, i.dst = some d → x.1 ≠ d) → eatenBy i ≠ some x.1 → x ∈ T1.own
  tok : ∀ t, tokenOf i = some t → t ∈ T1.own
  al : ∀ x, x ∈ S.al → (∀ d, i.dst = some d → x.1 ≠ d ∧ x.2 ≠ d) → x ∈ T1.al
  mv : ∀ d p, i.dst = some d → i.op = .mv (.r p) → d ≠ p → (d, p) ∈ T1.al
theorem addOwn_keep {dst : Option Nat} {off sz : Nat} {T : Ow} {x : Nat × Nat × Nat} (hx : x ∈ T.own) : x ∈ (addOwn dst off sz T).own := by
  cases dst with
  | none => exact hx
  | some d => simp [addOwn, hx]
theorem addOwn_pd {dst : Option Nat} {off sz : Nat} {T : Ow} : (addOwn dst off sz T).pd = T.pd := by cases dst <;> rfl
theorem addOwn_al' {dst : Option Nat} {off sz : Nat} {T : Ow} : (addOwn dst off sz T).al = T.al := by cases dst <;> rfl
theorem step1_pre {i : VI} {l : List Nat} (hl : readsOf i.op = some l) (hS : S.pd = none) (heat : ∀ p size bytes s x, i.op = .app (.reg p) size bytes s x → hasOwn p 0 size S.own = true) :
    ∃ T1, S.step1 R i.dst i.op = some T1 ∧ PreRes S T1 i := by
  obtain ⟨T0, hk, k1, k2, k3, k4⟩ := kill_nopd hS i.dst
  obtain ⟨dst, gd, op⟩ := i
  simp only at hl hk k2 k3 k4 heat ⊢
  have base : ∀ T1 : Ow, T1.pd = none → (∀ x, x ∈ T0.own → x ∈ T1.own) → (∀ x, x ∈ T0.al → x ∈ T1.al) → tokenOf ⟨dst, gd, op⟩ = none → (∀ p, op ≠ .mv (.r p)) → PreRes S T1 ⟨dst, gd, op⟩ := fun T1 h1 h2 h3 htok hmv =>
    ⟨h1, fun x hx hxd _ => h2 x ((k2 x).2 ⟨hx, hxd⟩), fun t ht => (by rw [htok] at ht; cases ht), fun x hx hxd => h3 x ((k3 x).2 ⟨hx, hxd⟩), fun d p _ e _ => absurd e (hmv p)⟩
  have noTok : (∀ z k n ps, op ≠ .bslice z k n ps) → (∀ p size bytes s x, op ≠ .app p size bytes s x) → tokenOf ⟨dst, gd, op⟩ = none := fun hb ha => by
    unfold tokenOf
    split
    · rename_i e; exact absurd e (hb _ _ _ _)
    · rename_i e; exact absurd e (ha _ _ _ _ _)
    · rfl
  have simple : S.step1 R dst op = S.kill dst → (∀ z k n ps, op ≠ .bslice z k n ps) → (∀ p size bytes s x, op ≠ .app p size bytes s x) → (∀ p, op ≠ .mv (.r p)) → ∃ T1, S.step1 R dst op = some T1 ∧ PreRes S T1 ⟨dst, gd, op⟩ := fun hs hb ha hmv =>
    ⟨T0, hs.trans hk, base T0 k1 (fun _ h => h) (fun _ h => h) (noTok hb ha) hmv⟩
  have hnp : S.noPd = true := by simp [Ow.noPd, hS]
  cases op with
  | mv x =>
    cases x with
    | c c =>
      refine ⟨cnd (isNilArg (.c c)) (addOwn dst 0 0 T0) T0, by simp only [Ow.step1]; rw [hk]; rfl, base _ ?_ ?_ ?_ (noTok (fun _ _ _ _ e => by cases e) (fun _ _ _ _ _ e => by cases e)) (fun p e => by cases e)⟩
      · cases isNilArg (.c c)
        · exact k1
        · exact addOwn_pd.trans k1
      · intro x hx
        cases isNilArg (.c c)
        · exact hx
        · exact addOwn_keep hx
      · intro x hx
        cases isNilArg (.c c)
        · exact hx
        · simp only [cnd_true]; rw [addOwn_al']; exact hx
    | r p =>
      have htok : tokenOf ⟨dst, gd, .mv (.r p)⟩ = none := noTok (fun _ _ _ _ e => by cases e) (fun _ _ _ _ _ e => by cases e)
      cases dst with
      | none => exact ⟨T0, by simp only [Ow.step1]; rw [hk]; rfl, ⟨k1, fun x hx hxd _ => (k2 x).2 ⟨hx, hxd⟩, fun t ht => (by rw [htok] at ht; cases ht), fun x hx hxd => (k3 x).2 ⟨hx, hxd⟩, fun d q e _ _ => (by cases e)⟩⟩
      | some d =>
        by_cases hdp : d = p
        · exact ⟨T0, by simp only [Ow.step1]; rw [hk]; simp [hdp], ⟨k1, fun x hx hxd _ => (k2 x).2 ⟨hx, hxd⟩, fun t ht => (by rw [htok] at ht; cases ht), fun x hx hxd => (k3 x).2 ⟨hx, hxd⟩, fun d' q e e2 hne => (by cases e; cases e2; exact absurd hdp hne)⟩⟩
        · exact ⟨{ T0 with al := (d, p) :: T0.al }, by simp only [Ow.step1]; rw [hk]; simp [hdp], ⟨k1, fun x hx hxd _ => (k2 x).2 ⟨hx, hxd⟩, fun t ht => (by rw [htok] at ht; cases ht), fun x hx hxd => List.mem_cons_of_mem _ ((k3 x).2 ⟨hx, hxd⟩), fun d' q e e2 hne => (by cases e; cases e2; simp)⟩⟩
  | load b n x =>
    have htok : tokenOf ⟨dst, gd, .load b n x⟩ = none := noTok (fun _ _ _ _ e => by cases e) (fun _ _ _ _ _ e => by cases e)
    by_cases hc : ∃ p, b = false ∧ n = 1 ∧ x = .r p
    · obtain ⟨p, rfl, rfl, rfl⟩ := hc
      cases dst with
      | none => exact ⟨T0, by simp only [Ow.step1]; rw [hk]; rfl, base T0 k1 (fun _ h => h) (fun _ h => h) htok (fun _ e => by cases e)⟩
      | some d =>
        by_cases hdp : d = p
        · exact ⟨T0, by simp only [Ow.step1]; rw [hk]; simp [hdp], base T0 k1 (fun _ h => h) (fun _ h => h) htok (fun _ e => by cases e)⟩
        · exact ⟨{ T0 with la := (d, p) :: T0.la }, by simp only [Ow.step1]; rw [hk]; simp [hdp], base _ k1 (fun _ h => h) (fun _ h => h) htok (fun _ e => by cases e)⟩
    · refine simple ?_ (fun _ _ _ _ e => by cases e) (fun _ _ _ _ _ e => by cases e) (fun _ e => by cases e)
      unfold Ow.step1
      split <;> first | rfl | (rename_i e; cases e; exact absurd ⟨_, rfl, rfl, rfl⟩ hc) | simp_all
  | bslice z k n ps =>
    simp only [readsOf] at hl
    obtain ⟨hinc, _⟩ := cnd_eq_some hl
    refine ⟨addOwn dst 0 0 T0, by simp only [Ow.step1]; rw [hinc, hk]; rfl, ⟨addOwn_pd.trans k1, fun x hx hxd _ => addOwn_keep ((k2 x).2 ⟨hx, hxd⟩), fun t ht => ?_, fun x hx hxd => (by rw [addOwn_al']; exact (k3 x).2 ⟨hx, hxd⟩), fun d p _ e _ => (by cases e)⟩⟩
    unfold tokenOf at ht
    split at ht
    · rename_i d e1 e2 e3; simp only at e1; cases ht; rw [e1]; simp [addOwn]
    · rename_i e3; cases e3
    · cases ht
  | app p size bytes s x =>
    have tok : ∀ (T2 : Ow) (t : Nat × Nat × Nat), tokenOf ⟨dst, gd, .app p size bytes s x⟩ = some t → t ∈ (addOwn dst 0 size T2).own := fun T2 t ht => by
      unfold tokenOf at ht
      split at ht
      · rename_i e3; cases e3
      · rename_i d sz' e1 e2 e3
        simp only at e1 e3
        cases e3
        cases ht
        rw [e1]
        simp [addOwn]
      · cases ht
    cases p with
    | fresh =>
      simp only [readsOf] at hl
      obtain ⟨hnil, _⟩ := cnd_eq_some hl
      exact ⟨addOwn dst 0 size (offLa T0), by simp only [Ow.step1]; rw [hnil, hk]; rfl, ⟨addOwn_pd.trans k1, fun x hx hxd _ => addOwn_keep ((k2 x).2 ⟨hx, hxd⟩), tok _, fun x hx hxd => (by rw [addOwn_al']; exact (k3 x).2 ⟨hx, hxd⟩), fun d p _ e _ => (by cases e)⟩⟩
    | reg p =>
      cases s with
      | c v => cases hl
      | r t =>
        simp only [readsOf] at hl
        obtain ⟨ht, _⟩ := cnd_eq_some hl
        have ht := of_decide_eq_true ht
        subst ht
        have h1 := heat t size bytes (.r t) x rfl
        have h2 : pdFree t S.pd = true := by rw [hS]; rfl
        exact ⟨addOwn dst 0 size (offLa { T0 with own := offReg t T0.own }), by simp only [Ow.step1]; rw [h1, h2, hk]; simp, ⟨addOwn_pd.trans k1, fun x hx hxd hne => addOwn_keep (mem_offReg.2 ⟨(k2 x).2 ⟨hx, hxd⟩, fun e => hne (by rw [e]; rfl)⟩), tok _, fun x hx hxd => (by rw [addOwn_al']; exact (k3 x).2 ⟨hx, hxd⟩), fun d p _ e _ => (by cases e)⟩⟩
  | call q f as =>
    refine ⟨(match R f with | some sz => addOwn dst 0 sz (offLa T0) | none => offLa T0), ?_, base _ ?_ ?_ ?_ (noTok (fun _ _ _ _ e => by cases e) (fun _ _ _ _ _ e => by cases e)) (fun p e => by cases e)⟩
    · simp only [Ow.step1]; rw [hnp, hk]; cases R f <;> rfl
    · cases R f
      · exact k1
      · exact addOwn_pd.trans k1
    · intro x hx
      cases R f
      · exact hx
      · exact addOwn_keep hx
    · intro x hx
      cases R f
      · exact hx
      · simp only; rw [addOwn_al']; exact hx
  | callv q x as =>
    exact ⟨offLa T0, by simp only [Ow.step1]; rw [hnp, hk]; rfl, base _ k1 (fun _ h => h) (fun _ h => h) (noTok (fun _ _ _ _ e => by cases e) (fun _ _ _ _ _ e => by cases e)) (fun p e => by cases e)⟩
  | conv k x => cases k <;> first | (cases hl; done) | exact simple rfl (fun _ _ _ _ e => by cases e) (fun _ _ _ _ _ e => by cases e) (fun _ e => by cases e)
  | _ => first
    | (cases hl; done)
    | exact simple rfl (fun _ _ _ _ e => by cases e) (fun _ _ _ _ _ e => by cases e) (fun _ e => by cases e)
end
end Go.Vm
