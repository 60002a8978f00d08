/- A store; an append. -/
import Derived.Test.YtphlgefkcghopaaVmC6
import Derived.ArgAppend
set_option linter.unusedVariables false
set_option linter.unusedSimpArgs false
namespace Go.Vm
attribute [local simp] evalOps_nil evalOps_cons evalOps_consg evalOp_mv evalOp_asg evalOp_pick evalOp_build evalOp_bslice evalOp_load evalOp_nilck evalOp_bin evalOp_un evalOp_conv evalOp_mkfn evalOp_slice evalOp_faddr evalOp_field evalOp_iaddr evalOp_index evalOp_lookup evalOp_extract evalOp_app evalOp_len evalOp_mn evalOp_mx evalOp_alloc evalOp_box evalOp_mkmap evalOp_store evalOp_mapupd evalOp_delete evalOp_sliceArr evalOp_call evalOp_callv evalOp_appc code_skip code_ops code_dops code_seq code_cond code_block code_exit code_ret finish_normal finish_ret
attribute [local simp] V.lt V.ltL V.flat V.pureCell V.pure V.isCell cellEq cellsEq eqV intV shV strV isShift binV unV byteV convV minV maxV foldV foldV1 fillV fillE findV putV delV isKey natOf natOr cut cellsAt mapAt mapOf loadV pickV nilckV sizeOk allSize sliceV faddrV fieldV iaddrV indexV found extractV allPure appV lenV ownHas ownOk storeC storeV samePtr appcV boxable mapupdV deleteV sliceArrV callV allLt clean bodyEnd resV one finishV runV initR
section
variable {P : Program} {R : Nat → Option Nat} {cx : Cx} {N : Nat} {hb0 : Heap} {S T : Ow} {rs : Regs} {h : Heap} {fl : Fl} {g : Gh} {a : Act} {w : World} {o : Oper} {gd vop : VOp}

theorem kill_nopd (hS : S.pd = none) (dst : Option Nat) : ∃ T, S.kill dst = some T ∧ T.pd = none ∧ (∀ x, x ∈ T.own ↔ x ∈ S.own ∧ ∀ d, dst = some d → x.1 ≠ d) ∧ (∀ x, x ∈ T.al ↔ x ∈ S.al ∧ ∀ d, dst = some d → x.1 ≠ d ∧ x.2 ≠ d) ∧ (∀ x, x ∈ T.la ↔ x ∈ S.la ∧ ∀ d, dst = some d → x.1 ≠ d ∧ x.2 ≠ d) := by
  cases dst with
  | none => exact ⟨S, rfl, hS, fun x => by simp, fun x => by simp, fun x => by simp⟩
  | some d =>
    refine ⟨⟨offReg d S.own, offPair d S.al, offPair d S.la, S.pd⟩, ?_, hS, fun x => ?_, fun x => ?_, fun x => ?_⟩
    · simp only [Ow.kill, hS, pdFree, cnd_true]
    · simp [mem_offReg]
    · simp [mem_offPair]
    · simp [mem_offPair]

theorem ownHas_mem {j sz : Nat} : ∀ {own : List (Nat × Nat)}, ownHas own j sz = true → (j, sz) ∈ own
  | [], h => by cases h
  | (k, z) :: l, h => by
    simp only [ownHas, Bool.or_eq_true, Bool.and_eq_true, decide_eq_true_eq] at h
    rcases h with ⟨rfl, rfl⟩ | h
    · simp
    · simp [ownHas_mem h]
theorem ownOk_mem {off n : Nat} {own : List (Nat × Nat)} : ∀ {l : List (Nat × Nat)}, ownOk off n own l = true → ∀ j sz, (j, sz) ∈ l → off ≤ j → j < off + n → (j - off, sz) ∈ own
  | [], _, j, sz, hm, _, _ => by simp at hm
  | (k, z) :: l, h, j, sz, hm, h1, h2 => by
    simp only [ownOk, Bool.and_eq_true, Bool.or_eq_true, Bool.not_eq_true', Bool.and_eq_false_iff, decide_eq_false_iff_not] at h
    rcases List.mem_cons.1 hm with e | hm
    · cases e
      rcases h.1 with (h3 | h3) | h3
      · omega
      · omega
      · exact ownHas_mem h3
    · exact ownOk_mem h.2 j sz hm h1 h2

theorem store_run {t : TypeId} {n b off : Nat} {us : Array Value} {tt : TypeId} {u : Value} (hn : sizeT P t = some n) (hheap : w.heap[b]? = some (.cells us tt (0, 0))) (hl : u.cells.size = n) (hle : off + n ≤ us.size) (h1 : ∀ x ∈ u.cells.toList, x.oneCell' = true) :
    (Instr.storeAt t (.pointer (some ⟨b, off, none⟩)) u).run P w = .ok () (w.setRow b (us.toList.take off ++ u.cells.toList ++ us.toList.drop (off + n)).toArray) := by
  unfold sizeT at hn
  obtain ⟨i, hi, hn⟩ := bnd_eq_some hn
  cases hn
  have hst := run_storeCells_at P b off tt u.cells.toList 0 us w hheap (by simp; omega) h1
  simp only [Nat.add_zero] at hst
  have hl2 : u.cells.toList.length = i.size := by simpa using hl
  rw [hl2] at hst
  simp [Instr.storeAt, Instr.sureAddr, storeVar, sizeOf, typeInfo, hi, hl, hst]

theorem store_ok {C : Callee} (hi : Inv cx N hb0 S rs h fl g a w) {n : Nat} {p x : Arg} {own : List (Nat × Nat)} {q : Option Nat} (htr : trOp P o.op o.type gd = some (.store n p x own q)) (hs : S.step1 R o.dst (.store n p x own q) = some T) (hd : ∀ x, o.dst = some x → x < N)
    {r : V × Heap × Fl} (hv : evalOp C cx.n0 hb0.length rs h (.store n p x own q) = some r) :
    ∃ w', (execOp a.eval o).run P w = .ok .skip w' ∧ Inv cx N hb0 T (putR o.dst r.1 rs) r.2.1 (fl.or r.2.2) g (a.put o.dst Go.undef) w' := by
  obtain ⟨t, y, z, hop, hn, hy, hz⟩ := trOp_store htr
  simp only [evalOp] at hv
  obtain ⟨hsame, hv⟩ := cnd_eq_some hv
  obtain ⟨q', hst, hv⟩ := bnd_eq_some hv
  cases hv
  have hpv := trArg_sound hi.F.regs hy
  have hxv := trArg_sound hi.F.regs hz
  unfold storeV at hst
  split at hst
  · rename_i i off hpe
    rw [hpe] at hpv
    obtain ⟨b, hb, hpe2⟩ := hpv.ptr_inv
    obtain ⟨c, hc, hst⟩ := bnd_eq_some hst
    unfold storeC at hst
    obtain ⟨hcond, hst⟩ := cnd_eq_some hst
    cases hst
    simp only [Bool.and_eq_true, decide_eq_true_eq] at hcond
    obtain ⟨⟨hlen, hle⟩, hok, hall⟩ := hcond
    obtain ⟨b', us, tt, hb', hheap, hus, hcell⟩ := hi.G.hr.cells hc
    rw [hb] at hb'; cases hb'
    have hcs := hxv.cells hall
    have hcl := hcs.length
    have hul := hus.length
    have hrun := store_run (P := P) (w := w) (off := off) hn hheap (u := a.eval z) (by rw [← hlen, ← hcl]; simp) (by rw [← Array.length_toList, hul]; exact hle) (hcs.oneCells hall)
    have hexec : (execOp a.eval o).run P w = .ok .skip (w.setRow b (us.toList.take off ++ (a.eval z).cells.toList ++ us.toList.drop (off + n)).toArray) := by
      unfold execOp
      rw [hop]
      simp only [Sem.run_bind, hpe2, hrun, Result.andThen_ok, Sem.run_pure]
    refine ⟨_, hexec, ?_⟩
    -- which register gives its own
    have fin : ∀ (tm : Option Nat), (∀ j sz u', (j, sz) ∈ c.2 → off ≤ j → j < off + n → (a.eval z).cells[j - off]? = some u' → (∃ ad m, u' = .slice ad m m) ∨ ∃ t sz', tm = some t ∧ a.tmps.getD t Go.undef = a.eval z ∧ (t, j - off, sz') ∈ S.own ∧ (sz' = sz ∨ sz' = 0)) →
        (S.pd = none ∨ ∃ p t, S.pd = some (p, t) ∧ tm = some t ∧ get rs p = .ptr (some (i, off)) ∧ n = 1) → T.pd = none → T.la = [] → (∀ x, x ∈ T.al → x ∈ S.al ∧ ∀ d, o.dst = some d → x.1 ≠ d ∧ x.2 ≠ d) →
        (∀ x, x ∈ T.own → x ∈ S.own ∧ (∀ d, o.dst = some d → x.1 ≠ d) ∧ ∀ t, tm = some t → x.1 ≠ t) →
        Inv cx N hb0 T (putR o.dst .undef rs) (hset h i (.cells (c.1.take off ++ ((x.val rs).flat ++ c.1.drop (off + n))) c.2)) (fl.or ⟨decide (i < cx.n0), decide (i < hb0.length) && !(x.val rs).lt 0⟩) g (a.put o.dst Go.undef) (w.setRow b (us.toList.take off ++ (a.eval z).cells.toList ++ us.toList.drop (off + n)).toArray) := by
      intro tm hown hpd hTpd hTla hTal hTown
      have h1 := store_core hi hc hb hheap hus hcell hxv hlen hle hall tm hown hpd
      obtain ⟨S2, hk, k1, k2, k3, k4⟩ := kill_nopd (S := ⟨offTm S.own tm, S.al, [], none⟩) rfl o.dst
      have h2 := h1.put hd hk (u := Go.undef) .undef
      refine h2.weaken (fun x hx => (k2 x).2 ?_) (fun x hx => (k3 x).2 (hTal x hx)) (fun x hx => by rw [hTla] at hx; simp at hx) (hTpd.trans k1.symm)
      obtain ⟨e1, e2, e3⟩ := hTown x hx
      refine ⟨?_, e2⟩
      cases tm with
      | none => exact e1
      | some t => exact mem_offReg.2 ⟨e1, e3 t rfl⟩
    have noOwn : own = [] → ∀ j sz u', (j, sz) ∈ c.2 → off ≤ j → j < off + n → (a.eval z).cells[j - off]? = some u' → False := fun e j sz u' hm h1 h2 _ => by
      subst e
      have := ownOk_mem hok j sz hm h1 h2
      simp at this
    have fromReg : ∀ t, x = .r t → hasOwns t S.own own = true → ∀ j sz u', (j, sz) ∈ c.2 → off ≤ j → j < off + n → (a.eval z).cells[j - off]? = some u' → (∃ ad m, u' = .slice ad m m) ∨ ∃ t' sz', some t = some t' ∧ a.tmps.getD t' Go.undef = a.eval z ∧ (t', j - off, sz') ∈ S.own ∧ (sz' = sz ∨ sz' = 0) := fun t e ho j sz u' hm h1 h2 _ => by
      subst e
      have e2 := trArg_tmp hz
      subst e2
      obtain ⟨z', h3, h4⟩ := hasOwns_mem ho _ (ownOk_mem hok j sz hm h1 h2)
      exact .inr ⟨t, z', rfl, rfl, h3, h4⟩
    -- the state behind
    have plain : S.pd = none → ∀ T0, S.kill o.dst = some T0 → T0.pd = none ∧ (∀ x, x ∈ T0.own → x ∈ S.own ∧ ∀ d, o.dst = some d → x.1 ≠ d) ∧ ∀ x, x ∈ T0.al → x ∈ S.al ∧ ∀ d, o.dst = some d → x.1 ≠ d ∧ x.2 ≠ d := fun hpd T0 hk => by
      obtain ⟨T1, hk1, k1, k2, k3, k4⟩ := kill_nopd hpd o.dst
      rw [hk1] at hk; cases hk
      exact ⟨k1, fun x hx => (k2 x).1 hx, fun x hx => (k3 x).1 hx⟩
    have other : isNilArg x = true ∨ own = [] → S.pd = none → ∀ T0, S.kill o.dst = some T0 → T = offLa T0 → Inv cx N hb0 T (putR o.dst .undef rs) (hset h i (.cells (c.1.take off ++ ((x.val rs).flat ++ c.1.drop (off + n))) c.2)) (fl.or ⟨decide (i < cx.n0), decide (i < hb0.length) && !(x.val rs).lt 0⟩) g (a.put o.dst Go.undef) (w.setRow b (us.toList.take off ++ (a.eval z).cells.toList ++ us.toList.drop (off + n)).toArray) := by
      intro hcase hpd T0 hk e
      obtain ⟨k1, k2, k3⟩ := plain hpd T0 hk
      subst e
      refine fin none (fun j sz u' hm h1 h2 hu => ?_) (.inl hpd) k1 rfl k3 (fun x hx => ⟨(k2 x hx).1, (k2 x hx).2, fun t e => by cases e⟩)
      rcases hcase with hnil | he
      · left
        have e := nilArg_eval (a := a) hz hnil
        rw [e] at hu
        have : j - off = 0 := by
          rcases Nat.eq_zero_or_pos (j - off) with h0 | h0
          · exact h0
          · have := (Array.getElem?_eq_some_iff.1 hu).1
            simp [Value.cells] at this
            omega
        rw [this] at hu
        simp [Value.cells] at hu
        exact ⟨none, 0, hu.symm⟩
      · exact (noOwn he j sz u' hm h1 h2 hu).elim
    cases x with
    | c cv =>
      simp only [Ow.step1] at hs
      obtain ⟨hcond, hs⟩ := cnd_eq_some hs
      obtain ⟨T0, hk, hs⟩ := bnd_eq_some hs
      cases hs
      simp only [Ow.noPd, Bool.and_eq_true, Option.isNone_iff_eq_none, Bool.or_eq_true, List.isEmpty_iff] at hcond
      refine other ?_ hcond.1 T0 hk rfl
      rcases hcond.2.2 with h1 | h1
      · exact .inr h1
      · exact .inl h1.1
    | r tr =>
      cases q with
      | none =>
        simp only [Ow.step1] at hs
        obtain ⟨hcond, hs⟩ := cnd_eq_some hs
        obtain ⟨T0, hk, hs⟩ := bnd_eq_some hs
        simp only [Ow.noPd, Bool.and_eq_true, Option.isNone_iff_eq_none] at hcond
        cases hemp : own.isEmpty <;> rw [hemp] at hs
        · cases hs
          obtain ⟨k1, k2, k3⟩ := plain hcond.1 T0 hk
          exact fin (some tr) (fromReg tr rfl hcond.2) (.inl hcond.1) k1 rfl k3 (fun x hx => ⟨(k2 x (mem_offReg.1 hx).1).1, (k2 x (mem_offReg.1 hx).1).2, fun t e => by cases e; exact (mem_offReg.1 hx).2⟩)
        · cases hs
          exact other (.inr (by simpa using hemp)) hcond.1 T0 hk rfl
      | some ar =>
        simp only [Ow.step1] at hs
        split at hs
        · rename_i p' t' hpd
          obtain ⟨hcond, hs⟩ := cnd_eq_some hs
          obtain ⟨T0, hk, hs⟩ := bnd_eq_some hs
          cases hs
          simp only [Bool.and_eq_true, decide_eq_true_eq] at hcond
          obtain ⟨rfl, rfl, hpos, ho⟩ := hcond
          obtain ⟨T1, hk1, k1, k2, k3, k4⟩ := kill_nopd (S := { S with pd := none }) rfl o.dst
          rw [hk1] at hk; cases hk
          refine fin (some t') (fromReg t' rfl ho) (.inr ⟨p', t', hpd, rfl, ?_, hpos⟩) k1 rfl (fun x hx => (k3 x).1 hx) (fun x hx => ⟨((k2 x).1 (mem_offReg.1 hx).1).1, ((k2 x).1 (mem_offReg.1 hx).1).2, fun t e => by cases e; exact (mem_offReg.1 hx).2⟩)
          have hs2 := hsame
          rw [hpe] at hs2
          simp only [samePtr] at hs2
          split at hs2
          · rename_i i1 o1 i2 o2 h5 h6
            simp only [Bool.and_eq_true, decide_eq_true_eq] at hs2
            cases h6
            rw [h5, hs2.1, hs2.2]
          · cases hs2
        · cases hs
  · cases hst
end
end Go.Vm
