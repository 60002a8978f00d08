/- Appends and slice literals, carried out. -/
import Derived.Test.YtphlgefkcghopaaVmC8
set_option linter.unusedVariables false
set_option linter.unusedSimpArgs false
namespace Go.Vm
attribute [local simp] evalOps_nil evalOps_cons evalOps_consg evalOp_mv evalOp_asg evalOp_pick evalOp_build evalOp_bslice evalOp_load evalOp_nilck evalOp_bin evalOp_un evalOp_conv evalOp_mkfn evalOp_slice evalOp_faddr evalOp_field evalOp_iaddr evalOp_index evalOp_lookup evalOp_extract evalOp_app evalOp_len evalOp_mn evalOp_mx evalOp_alloc evalOp_box evalOp_mkmap evalOp_store evalOp_mapupd evalOp_delete evalOp_sliceArr evalOp_call evalOp_callv evalOp_appc code_skip code_ops code_dops code_seq code_cond code_block code_exit code_ret finish_normal finish_ret
attribute [local simp] V.lt V.ltL V.flat V.pureCell V.pure V.isCell cellEq cellsEq eqV intV shV strV isShift binV unV byteV convV minV maxV foldV foldV1 fillV fillE findV putV delV isKey natOf natOr cut cellsAt mapAt mapOf loadV pickV nilckV sizeOk allSize sliceV faddrV fieldV iaddrV indexV found extractV allPure appV lenV ownHas ownOk storeC storeV samePtr appcV boxable mapupdV deleteV sliceArrV callV allLt clean bodyEnd resV one finishV runV initR
section
variable {P : Program} {R : Nat → Option Nat} {cx : Cx} {N : Nat} {hb0 : Heap} {S T : Ow} {rs : Regs} {h : Heap} {fl : Fl} {g : Gh} {a : Act} {w : World} {o : Oper} {gd vop : VOp}

theorem VR.slice {u : Value} {xs : List V} (hu : VR g u (.sl xs)) : u.cells = #[u] := by
  rcases hu.sl_inv.sl_inv with ⟨rfl, _⟩ | ⟨ad, cap, rfl, _⟩ | ⟨b, o, cap, sz, us, rfl, _⟩ <;> rfl

theorem app_finish {dst : Option Nat} {pd pd1 : Pd} (hi : Inv cx N hb0 S rs h fl g a w) (hO : OwnI cx S.own pd h g a.tmps w) {own1 : Ows} (hd : ∀ x, dst = some x → x < N) (hdown : ∀ d, dst = some d → ∀ x, x ∈ own1 → x.1 ≠ d)
    (hheld : ∀ p sz u, Held own1 pd1 h g a.tmps w p sz u → Held S.own pd h g a.tmps w p sz u) (hnewp : ∀ (p : Pl) b, p.old cx pd b → p.old cx pd1 b)
    {t ty : TypeId} {size : Nat} {su xu : Value} {v : V} {wr : Bool} {nw : Nat → Prop} (hap : ∀ p sz u b, Held own1 pd1 h g a.tmps w p sz u → ownBlk u = some b → ownBlk su ≠ some b) (hlt : ∀ b, ownBlk su = some b → b < w.heap.size)
    (hfree : ∀ b, ownBlk su = some b → ∀ j, LiveAt h j → g.mu j ≠ some b)
    (hnw : ∀ d b, dst = some d → nw b → (Pl.reg d 0).old cx pd1 b) (hvs : ∃ xs, v = .sl xs) (done : AppDone P cx hb0 h fl g w t ty size su xu v wr nw) :
    ∃ u w' g', (Builtin.append_ #[t, t] ty #[su, xu]).run P w = .ok u w' ∧ GLe g g' ∧ MemW cx (fl.or ⟨wr, false⟩) w' ∧ MemG cx hb0 h (fl.or ⟨wr, false⟩) g' w' ∧
      OwnI cx (addOwn dst 0 size ⟨own1, [], [], none⟩).own pd1 h g' (a.put dst u).tmps w' ∧ FrI N (putR dst v rs) g' (a.put dst u) := by
  obtain ⟨u, w', g', hr, hle, hmu, hW', hG', hu, hOu, hblk, hfr, hsz⟩ := done
  obtain ⟨xs, rfl⟩ := hvs
  have back : ∀ p sz x, Held own1 pd1 h g' a.tmps w' p sz x → Held own1 pd1 h g a.tmps w p sz x := by
    intro p sz x hp
    cases p with
    | reg r off => exact hp
    | cell i j =>
      obtain ⟨cs, own, b, h1, h2, h3, h4, h5⟩ := hp
      rw [hmu] at h4
      have hlive : LiveAt h i := ⟨_, h1, rfl⟩
      refine ⟨cs, own, b, h1, h2, h3, h4, ?_⟩
      rw [← cell_same (hfr b (hi.G.muW i b h4).1 (fun hb => hfree b hb i hlive h4)).1]
      exact h5
  have h1 : OwnI cx own1 pd1 h g' a.tmps w' := by
    refine hO.map (fun p q => p = q) (fun _ _ _ e1 e2 => e1.trans e2.symm) (fun p sz x hp => .inr ⟨_, sz, rfl, hheld _ _ _ (back p sz x hp), .inl rfl⟩) (fun p q b e hn => e ▸ hnewp q b hn) (fun q sz x b hq hex hb => ?_)
    obtain ⟨p, sz', e, hp⟩ := hex
    subst e
    have hne := hap p sz' x b (back p sz' x hp) hb
    obtain ⟨e1, e2⟩ := hfr b ((hO.own p sz x hq).lt hb) hne
    exact ⟨⟨e1, e2⟩, fun i hl hm => ⟨hl, by rw [hmu] at hm; exact hm⟩⟩
  have hF := (hi.F.mono hle).put hd hu
  refine ⟨u, w', g', hr, hle, hW', hG', ?_, hF⟩
  cases dst with
  | none => exact h1
  | some d =>
    have hlt' : d < a.tmps.size := by rw [hi.F.size]; exact hd d rfl
    refine (h1.put hlt' (hdown d rfl)).add fun x hx => ?_
    rw [put_get hlt', hu.slice] at hx
    have : x = u := by simpa using hx.symm
    subst this
    refine ⟨hOu, fun b hb => ?_⟩
    obtain ⟨f1, f2, f3, f4⟩ := hblk b hb
    refine ⟨f1, fun i hl hm => f2 i hl (by rw [hmu] at hm; exact hm), fun hn => hnw d b rfl (f3 hn), fun p sz' u' hp hb' => ?_⟩
    exfalso
    -- another place has that block: it had it before
    have hp2 : Held own1 pd1 h g' a.tmps w' p sz' u' := by
      cases p with
      | cell i j => exact hp
      | reg r off =>
        obtain ⟨hm, hx⟩ := hp
        rw [put_other hlt' (hdown d rfl _ hm)] at hx
        exact ⟨hm, hx⟩
    have hp3 := back p sz' u' hp2
    rcases f4 with h4 | h4
    · exact hap p sz' u' b hp3 hb' h4
    · have := (hO.own p sz' u' (hheld p sz' u' hp3)).lt hb'
      omega
theorem appV_sl {size bytes : Nat} {x y v : V} (h : appV size bytes x y = some v) : ∃ xs, v = .sl xs := by
  unfold appV at h
  split at h
  · obtain ⟨_, h⟩ := cnd_eq_some h; cases h; exact ⟨_, rfl⟩
  · cases h
theorem exec_append {y y' : Operand} {t : TypeId} (hop : o.op = .call { callee := .builtin .append, args := #[y, y'], argTypes := #[t, t] }) {u : Value} {w' : World} (hr : (Builtin.append_ #[t, t] o.type #[a.eval y, a.eval y']).run P w = .ok u w') :
    (execOp a.eval o).run P w = .ok (.value u) w' := by
  unfold execOp
  rw [hop]
  simp only [resolve, invoke, builtin, Sem.run_bind, Sem.run_pure, Result.andThen_ok]
  have : (#[y, y'].map a.eval) = #[a.eval y, a.eval y'] := by simp
  rw [this, hr]
  rfl
theorem kill_sub {dst : Option Nat} {T : Ow} (hk : S.kill dst = some T) : T.pd = S.pd ∧ (∀ x, x ∈ T.own → x ∈ S.own ∧ ∀ d, dst = some d → x.1 ≠ d) ∧ (∀ x, x ∈ T.al → x ∈ S.al ∧ ∀ d, dst = some d → x.1 ≠ d ∧ x.2 ≠ d) ∧ ∀ d, dst = some d → pdFree d S.pd = true := by
  cases dst with
  | none => cases kill_none hk; exact ⟨rfl, fun x hx => ⟨hx, fun d e => by cases e⟩, fun x hx => ⟨hx, fun d e => by cases e⟩, fun d e => by cases e⟩
  | some d =>
    obtain ⟨h1, rfl⟩ := kill_some hk
    exact ⟨rfl, fun x hx => ⟨(mem_offReg.1 hx).1, fun d' e => by cases e; exact (mem_offReg.1 hx).2⟩, fun x hx => ⟨(mem_offPair.1 hx).1, fun d' e => by cases e; exact (mem_offPair.1 hx).2⟩, fun d' e => by cases e; exact h1⟩
theorem al_put {dst : Option Nat} (hd : ∀ x, dst = some x → x < a.tmps.size) {u : Value} {t p : Nat} (h1 : ∀ d, dst = some d → t ≠ d ∧ p ≠ d) (he : a.tmps.getD t Go.undef = a.tmps.getD p Go.undef) : (a.put dst u).tmps.getD t Go.undef = (a.put dst u).tmps.getD p Go.undef := by
  cases dst with
  | none => exact he
  | some d => rw [put_other (hd d rfl) (h1 d rfl).1, put_other (hd d rfl) (h1 d rfl).2]; exact he
theorem get_put {dst : Option Nat} {v : V} {p : Nat} (h : ∀ d, dst = some d → p ≠ d) : get (putR dst v rs) p = get rs p := by
  cases dst with
  | none => rfl
  | some d => simp only [putR, get, h d rfl, decide_false, cnd_false]
theorem addOwn_mem {dst : Option Nat} {off sz : Nat} {T : Ow} {x : Nat × Nat × Nat} (hx : x ∈ (addOwn dst off sz T).own) {l : Ows} (hl : ∀ y, y ∈ T.own → y ∈ l) : x ∈ (addOwn dst off sz ⟨l, [], [], none⟩).own := by
  cases dst with
  | none => exact hl x hx
  | some d =>
    rcases List.mem_cons.1 hx with rfl | hx
    · simp [addOwn]
    · simp [addOwn, hl x hx]
theorem addOwn_al {dst : Option Nat} {off sz : Nat} {T : Ow} : (addOwn dst off sz T).al = T.al ∧ (addOwn dst off sz T).la = T.la ∧ (addOwn dst off sz T).pd = T.pd := by cases dst <;> exact ⟨rfl, rfl, rfl⟩

/-- The state behind an append to what a register has, or to nil. -/
theorem app_ok (hi : Inv cx N hb0 S rs h fl g a w) {p : Place} {size bytes : Nat} {s x : Arg} (htr : trOp P o.op o.type gd = some (.app p size bytes s x)) (hs : S.step1 R o.dst (.app p size bytes s x) = some T) (hd : ∀ x, o.dst = some x → x < N)
    {v : V} (hv : appV size bytes (s.val rs) (x.val rs) = some v) : ∃ u w' g', (execOp a.eval o).run P w = .ok (.value u) w' ∧ GLe g g' ∧ Inv cx N hb0 T (putR o.dst v rs) h fl g' (a.put o.dst u) w' := by
  obtain ⟨y, y', t, e, i, z, hop, ht, hie, hz, rfl, rfl, hpos, hbp, hzs, hy, hy'⟩ := trOp_app (.inl ⟨p, rfl⟩) htr
  have hsv := trArg_sound hi.F.regs hy
  have hxv := trArg_sound hi.F.regs hy'
  obtain ⟨pd, hO, hf⟩ := hi.O
  have hd' : ∀ x, o.dst = some x → x < a.tmps.size := fun x e => by rw [hi.F.size]; exact hd x e
  -- the rest, once the place is known
  have fin : ∀ (own1 : Ows) (T0 : Ow), S.kill o.dst = some T0 → T = addOwn o.dst 0 i.size (offLa { T0 with own := own1 }) → (∀ x, x ∈ own1 → x ∈ T0.own) → OwnR w g.imm i.size (a.eval y) →
      (∀ b, ownBlk (a.eval y) = some b → cx.may b ∧ (∀ j, LiveAt h j → g.mu j ≠ some b) ∧ cx.w0.heap.size ≤ b) → (∀ p sz u b, Held own1 pd h g a.tmps w p sz u → ownBlk u = some b → ownBlk (a.eval y) ≠ some b) →
      ∃ u w' g', (execOp a.eval o).run P w = .ok (.value u) w' ∧ GLe g g' ∧ Inv cx N hb0 T (putR o.dst v rs) h fl g' (a.put o.dst u) w' := by
    intro own1 T0 hk hT hsub hown hfree hap
    obtain ⟨k1, k2, k3, k4⟩ := kill_sub hk
    have done := app_core (ty := o.type) ht hie hz hpos hbp hzs hi.W hi.G hsv hxv hv hown false (fun _ => False) (fun b hb => ⟨(hfree b hb).1, (hfree b hb).2.1, fun _ => (hfree b hb).2.2, fun h1 => by have := (hfree b hb).2.2; omega⟩)
    obtain ⟨u, w', g', hr, hle, hW', hG', hO', hF'⟩ := app_finish (dst := o.dst) (pd1 := pd) (own1 := own1) hi hO hd (fun d e x hx => (k2 x (hsub x hx)).2 d e)
      (fun p sz u hp => by
        cases p with
        | cell i j => exact hp
        | reg r off => exact ⟨(k2 _ (hsub _ hp.1)).1, hp.2⟩) (fun _ _ hn => hn) hap (fun b hb => hown.lt hb) (fun b hb => (hfree b hb).2.1) (fun _ _ _ hf => hf.elim) (appV_sl hv) done
    have ew : fl.or ⟨false, false⟩ = fl := by cases fl; simp [Fl.or]
    rw [ew] at hW' hG'
    refine ⟨u, w', g', exec_append hop hr, hle, hW', hG', ⟨pd, ?_, ?_⟩, hF'⟩
    · subst hT
      exact hO'.less fun x hx => addOwn_mem hx fun _ h => h
    · subst hT
      obtain ⟨q1, q2, q3⟩ := addOwn_al (dst := o.dst) (off := 0) (sz := i.size) (T := offLa { T0 with own := own1 })
      refine ⟨fun t p hm => ?_, fun t p hm => by rw [q2] at hm; simp [offLa] at hm, ?_⟩
      · rw [q1] at hm
        exact al_put hd' (fun d e => (k3 _ hm).2 d e) (hf.al t p (k3 _ hm).1)
      · rw [q3]
        show ((offLa { T0 with own := own1 }).pd = none ∧ _) ∨ _
        have : (offLa { T0 with own := own1 }).pd = S.pd := k1
        rw [this]
        rcases hf.pd with h1 | ⟨p, q, i', j', h1, h2, h3⟩
        · exact .inl h1
        · exact .inr ⟨p, q, i', j', h1, h2, by rw [get_put (fun d e => (pdFree_spec (k4 d e) h1).1)]; exact h3⟩
  cases p with
  | fresh =>
    simp only [Ow.step1] at hs
    obtain ⟨hnil, hs⟩ := cnd_eq_some hs
    obtain ⟨T0, hk, hs⟩ := bnd_eq_some hs
    cases hs
    have e := nilArg_eval (a := a) hy hnil
    refine fin T0.own T0 hk rfl (fun _ h => h) (by rw [e]; exact .full) (fun b hb => by rw [e] at hb; simp [ownBlk] at hb) (fun p sz u b _ _ hb => by rw [e] at hb; simp [ownBlk] at hb)
  | reg p =>
    cases s with
    | c cv => simp only [Ow.step1, reduceCtorEq] at hs
    | r tr =>
      simp only [Ow.step1] at hs
      obtain ⟨hcond, hs⟩ := cnd_eq_some hs
      obtain ⟨T0, hk, hs⟩ := bnd_eq_some hs
      cases hs
      simp only [Bool.and_eq_true, Bool.or_eq_true, decide_eq_true_eq] at hcond
      obtain ⟨hal, ho, hpf⟩ := hcond
      have e1 := trArg_tmp hy
      subst e1
      have he : a.eval (.tmp tr) = a.tmps.getD p Go.undef := by
        rcases hal with rfl | hal
        · rfl
        · exact hf.al _ _ (hasPair_mem hal)
      obtain ⟨z', hm, hz'⟩ := hasOwn_mem ho
      have hsl : ∃ xs, (Arg.r tr).val rs = .sl xs := by
        unfold appV at hv
        split at hv
        · rename_i e1 e2; exact ⟨_, e1⟩
        · cases hv
      obtain ⟨xs, hxs⟩ := hsl
      rw [hxs] at hsv
      have hheldp : Held S.own pd h g a.tmps w (.reg p 0) z' (a.eval (.tmp tr)) := ⟨hm, by rw [← he, hsv.slice]; rfl⟩
      have hnewp : ∀ b, ¬ (Pl.reg p 0).old cx pd b := fun b hb => by
        obtain ⟨i', j', e, _⟩ := hb
        rcases hf.pd with ⟨_, h2⟩ | ⟨p', d', i'', j'', h2, h3, _⟩
        · rw [h2] at e; cases e
        · rw [h3] at e; cases e
          exact (pdFree_spec hpf h2).2 rfl
      have hown : OwnR w g.imm i.size (a.eval (.tmp tr)) := by
        have := hO.own _ _ _ hheldp
        rcases hz' with rfl | rfl
        · exact this
        · exact this.zero.1
      refine fin (offReg p T0.own) T0 hk rfl (fun x hx => (mem_offReg.1 hx).1) hown (fun b hb => ?_) (fun q sz u b hq hb hb2 => ?_)
      · obtain ⟨f1, f2, f3⟩ := hO.blk _ _ _ b hheldp hb
        exact ⟨f1, f2, Nat.le_of_not_lt fun hlt => hnewp b (f3 hlt)⟩
      · obtain ⟨k1, k2, k3, k4⟩ := kill_sub hk
        have hq2 : Held S.own pd h g a.tmps w q sz u := by
          cases q with
          | cell i j => exact hq
          | reg r off => exact ⟨(k2 _ (mem_offReg.1 hq.1).1).1, hq.2⟩
        have := hO.dis _ _ _ _ _ _ b hq2 hheldp hb hb2
        subst this
        exact (mem_offReg.1 hq.1).2 rfl
/-- The state behind an append to what a cell holds. -/
theorem appc_ok (hi : Inv cx N hb0 S rs h fl g a w) {p : Nat} {size bytes : Nat} {s x : Arg} (htr : trOp P o.op o.type gd = some (.appc p size bytes s x)) (hs : S.step1 R o.dst (.appc p size bytes s x) = some T) (hd : ∀ x, o.dst = some x → x < N)
    {v : V} (hv : appV size bytes (s.val rs) (x.val rs) = some v) {wr : Bool} (hc : appcV cx.n0 size h (get rs p) = some wr) :
    ∃ u w' g', (execOp a.eval o).run P w = .ok (.value u) w' ∧ GLe g g' ∧ Inv cx N hb0 T (putR o.dst v rs) h (fl.or ⟨wr, false⟩) g' (a.put o.dst u) w' := by
  obtain ⟨y, y', t, e, i, z, hop, ht, hie, hz, rfl, rfl, hpos, hbp, hzs, hy, hy'⟩ := trOp_app (.inr ⟨p, rfl⟩) htr
  have hsv := trArg_sound hi.F.regs hy
  have hxv := trArg_sound hi.F.regs hy'
  obtain ⟨pd, hO, hf⟩ := hi.O
  have hd' : ∀ x, o.dst = some x → x < a.tmps.size := fun x e => by rw [hi.F.size]; exact hd x e
  cases s with
  | c cv => cases hdst : o.dst <;> rw [hdst] at hs <;> simp only [Ow.step1, reduceCtorEq] at hs
  | r tr =>
    cases hdst : o.dst with
    | none => rw [hdst] at hs; simp only [Ow.step1, reduceCtorEq] at hs
    | some d =>
      rw [hdst] at hs hd hd'
      simp only [Ow.step1] at hs
      obtain ⟨hcond, hs⟩ := cnd_eq_some hs
      obtain ⟨T0, hk, hs⟩ := bnd_eq_some hs
      cases hs
      simp only [Bool.and_eq_true, Ow.noPd, Option.isNone_iff_eq_none, decide_eq_true_eq] at hcond
      obtain ⟨hla, hnopd, hdp⟩ := hcond
      have hpdn : pd = none := by
        rcases hf.pd with ⟨_, h2⟩ | ⟨p', d', i'', j'', h2, h3, _⟩
        · exact h2
        · rw [hnopd] at h2; cases h2
      subst hpdn
      have e1 := trArg_tmp hy
      subst e1
      obtain ⟨b, k, hb1, hb2⟩ := hf.la _ _ (hasPair_mem hla)
      unfold appcV at hc
      split at hc
      · rename_i i' off hpe
        obtain ⟨c, hcc, hc⟩ := bnd_eq_some hc
        obtain ⟨hhas, hc⟩ := cnd_eq_some hc
        cases hc
        have hpr := hi.F.regs p
        rw [hpe] at hpr
        obtain ⟨b', hb', he⟩ := hpr.ptr_inv
        rw [hb1] at he
        cases he
        have hci := cellsAt_inv hcc
        have hheldp : Held S.own none h g a.tmps w (.cell i' k) i.size (a.eval (.tmp tr)) := ⟨c.1, c.2, b, hci, ownHas_mem hhas, fun d e => (by cases e), hb', hb2⟩
        have hown := hO.own _ _ _ hheldp
        obtain ⟨k1, k2, k3, k4⟩ := kill_sub hk
        have done := app_core (ty := o.type) (wr := decide (i' < cx.n0)) (nw := fun b => cx.O i' k b) ht hie hz hpos hbp hzs hi.W hi.G hsv hxv hv hown (fun b hb => by
          obtain ⟨f1, f2, f3⟩ := hO.blk _ _ _ b hheldp hb
          exact ⟨f1, f2, fun e => Nat.le_of_not_lt fun hlt => (of_decide_eq_false e) (cx.hO _ _ _ (f3 hlt)), fun e => f3 e⟩)
        have toOld : ∀ q sz u, Held T0.own (some (i', k, d)) h g a.tmps w q sz u → Held S.own none h g a.tmps w q sz u ∧ q ≠ .cell i' k := fun q sz u hq => by
          cases q with
          | cell i j =>
            obtain ⟨cs, own, b, h1, h2, h3, h4, h5⟩ := hq
            refine ⟨⟨cs, own, b, h1, h2, fun d e => (by cases e), h4, h5⟩, fun e => ?_⟩
            cases e
            exact h3 d rfl
          | reg r off => exact ⟨⟨(k2 _ hq.1).1, hq.2⟩, fun e => by cases e⟩
        obtain ⟨u, w', g', hr, hle, hW', hG', hO', hF'⟩ := app_finish (dst := some d) (pd1 := some (i', k, d)) (own1 := T0.own) hi hO hd (fun d' e x hx => (k2 x hx).2 d' e)
          (fun q sz u hq => (toOld q sz u hq).1) (fun q b hn => by
            cases q with
            | cell i j => exact hn
            | reg r off => obtain ⟨i, j, e, _⟩ := hn; cases e)
          (fun q sz u b hq hb hb2 => (toOld q sz u hq).2 (hO.dis _ _ _ _ _ _ b (toOld q sz u hq).1 hheldp hb hb2)) (fun b hb => hown.lt hb) (fun b hb => (hO.blk _ _ _ b hheldp hb).2.1)
          (fun d' b e hn => by cases e; exact ⟨i', k, rfl, hn⟩) (appV_sl hv) done
        refine ⟨u, w', g', exec_append hop hr, hle, hW', hG', ⟨some (i', k, d), ?_, ?_⟩, hF'⟩
        · exact hO'.less fun x hx => addOwn_mem hx fun _ h => h
        · refine ⟨fun t p hm => ?_, fun t p hm => by simp [addOwn, offLa] at hm, .inr ⟨p, d, i', k, rfl, rfl, ?_⟩⟩
          · exact al_put hd' (fun d' e => (k3 _ hm).2 d' e) (hf.al t p (k3 _ hm).1)
          · rw [get_put (fun d' e => by cases e; exact Ne.symm hdp)]; exact hpe
      · cases hc
end
end Go.Vm
