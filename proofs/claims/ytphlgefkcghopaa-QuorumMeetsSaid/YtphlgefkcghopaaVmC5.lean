/- One operation, carried out: quiet ones; a new object; a new row. -/
import Derived.Test.YtphlgefkcghopaaVmC4
set_option linter.unusedVariables false
set_option linter.unusedSimpArgs false
namespace Go.Vm
attribute [local simp] evalOps_nil evalOps_cons evalOps_consg evalOp_mv evalOp_asg evalOp_pick evalOp_build evalOp_bslice evalOp_load evalOp_nilck evalOp_bin evalOp_un evalOp_conv evalOp_mkfn evalOp_slice evalOp_faddr evalOp_field evalOp_iaddr evalOp_index evalOp_lookup evalOp_extract evalOp_app evalOp_len evalOp_mn evalOp_mx evalOp_alloc evalOp_box evalOp_mkmap evalOp_store evalOp_mapupd evalOp_delete evalOp_sliceArr evalOp_call evalOp_callv evalOp_appc code_skip code_ops code_dops code_seq code_cond code_block code_exit code_ret finish_normal finish_ret
attribute [local simp] V.lt V.ltL V.flat V.pureCell V.pure V.isCell cellEq cellsEq eqV intV shV strV isShift binV unV byteV convV minV maxV foldV foldV1 fillV fillE findV putV delV isKey natOf natOr cut cellsAt mapAt mapOf loadV pickV nilckV sizeOk allSize sliceV faddrV fieldV iaddrV indexV found extractV allPure appV lenV ownHas ownOk storeC storeV samePtr appcV boxable mapupdV deleteV sliceArrV callV allLt clean bodyEnd resV one finishV runV initR
section
variable {P : Program} {R : Nat → Option Nat} {cx : Cx} {N : Nat} {hb0 : Heap} {S T : Ow} {rs : Regs} {h : Heap} {fl : Fl} {g : Gh} {a : Act} {w : World} {o : Oper} {gd vop : VOp}

theorem andThen_inv {α β : Type} {r : Result α} {f : α → World → Result β} {b : β} {w' : World} (h : r.andThen f = .ok b w') : ∃ a w1, r = .ok a w1 ∧ f a w1 = .ok b w' := by
  cases r with
  | ok a w1 => exact ⟨a, w1, rfl, h⟩
  | halt x w1 => simp [Result.andThen] at h
theorem Inv.addAl (hi : Inv cx N hb0 S rs h fl g a w) {t p : Nat} (he : a.tmps.getD t Go.undef = a.tmps.getD p Go.undef) : Inv cx N hb0 { S with al := (t, p) :: S.al } rs h fl g a w := by
  obtain ⟨pd, hO, hf⟩ := hi.O
  refine ⟨hi.W, hi.G, ⟨pd, hO, ⟨fun x y hm => ?_, hf.la, hf.pd⟩⟩, hi.F⟩
  rcases List.mem_cons.1 hm with e | hm
  · cases e; exact he
  · exact hf.al x y hm
theorem Inv.addLa (hi : Inv cx N hb0 S rs h fl g a w) {t p b o : Nat} (h1 : a.tmps.getD p Go.undef = .pointer (some ⟨b, o, none⟩)) (h2 : w.cell? ⟨b, o, none⟩ = some (a.tmps.getD t Go.undef)) : Inv cx N hb0 { S with la := (t, p) :: S.la } rs h fl g a w := by
  obtain ⟨pd, hO, hf⟩ := hi.O
  refine ⟨hi.W, hi.G, ⟨pd, hO, ⟨hf.al, fun x y hm => ?_, hf.pd⟩⟩, hi.F⟩
  rcases List.mem_cons.1 hm with e | hm
  · cases e; exact ⟨b, o, h1, h2⟩
  · exact hf.la x y hm
theorem put_other {d p : Nat} (hd : d < a.tmps.size) (hne : p ≠ d) (u : Value) : (a.put (some d) u).tmps.getD p Go.undef = a.tmps.getD p Go.undef := by rw [getD_put hd, if_neg hne]
theorem trArg_tmp {x : Operand} {p : Nat} (h : trArg x = some (.r p)) : x = .tmp p := by
  cases x with
  | tmp t => simp only [trArg, Option.some.injEq, Arg.r.injEq] at h; rw [h]
  | const u => simp only [trArg] at h; obtain ⟨_, _, h⟩ := bnd_eq_some h; cases h
  | func f => cases h
  | global _ => cases h
theorem nilArg_eval {x : Operand} {y : Arg} (h : trArg x = some y) (hn : isNilArg y = true) : a.eval x = .slice none 0 0 := by
  unfold isNilArg at hn
  split at hn
  · cases x with
    | tmp t => cases h
    | const u =>
      simp only [trArg] at h
      obtain ⟨v, hv, h⟩ := bnd_eq_some h
      cases h
      show u = _
      unfold trConst at hv
      split at hv
      · obtain ⟨_, _, hv⟩ := bnd_eq_some hv; cases hv
      · unfold trVal at hv
        split at hv <;> first | rfl | cases hv
    | func f => cases h
    | global _ => cases h
  · cases hn
/-- The register holds the nil slice. -/
theorem Inv.addNil (hi : Inv cx N hb0 S rs h fl g a w) {dst : Option Nat} (hd : ∀ x, dst = some x → x < N) {u : Value} {v : V} (hu : u = .slice none 0 0) (hT : Inv cx N hb0 T (putR dst v rs) h fl g (a.put dst u) w) :
    Inv cx N hb0 (addOwn dst 0 0 T) (putR dst v rs) h fl g (a.put dst u) w := by
  refine hT.addFull fun d e x hx => ?_
  subst e hu
  rw [put_get (by rw [hi.F.size]; exact hd d rfl)] at hx
  exact ⟨none, 0, by simpa [Value.cells] using hx.symm⟩

theorem mv_ok {dst : Option Nat} (hi : Inv cx N hb0 S rs h fl g a w) {y : Operand} {x : Arg} (hx : trArg y = some x) (hd : ∀ x, dst = some x → x < N) {v : V} (hv : VR g (a.eval y) v) (hs : S.step1 R dst (.mv x) = some T) :
    Inv cx N hb0 T (putR dst v rs) h fl g (a.put dst (a.eval y)) w := by
  cases x with
  | r p =>
    have e := trArg_tmp hx
    subst e
    simp only [Ow.step1] at hs
    obtain ⟨T0, hk, hs⟩ := bnd_eq_some hs
    have h1 := hi.put hd hk hv
    cases dst with
    | none => cases hs; exact h1
    | some d =>
      simp only at hs
      cases hdp : decide (d = p) <;> rw [hdp] at hs
      · cases hs
        have hlt : d < a.tmps.size := by rw [hi.F.size]; exact hd d rfl
        refine h1.addAl ?_
        rw [put_get hlt, put_other hlt (fun e => of_decide_eq_false hdp e.symm)]
        rfl
      · cases hs; exact h1
  | c c =>
    simp only [Ow.step1] at hs
    obtain ⟨T0, hk, hs⟩ := bnd_eq_some hs
    have h1 := hi.put hd hk hv
    cases hn : isNilArg (.c c) <;> rw [hn] at hs <;> cases hs
    · exact h1
    · exact hi.addNil hd (nilArg_eval hx hn) h1
theorem asg_ok {dst : Option Nat} (hi : Inv cx N hb0 S rs h fl g a w) {y : Operand} {x : Arg} (hx : trArg y = some x) (hd : ∀ x, dst = some x → x < N) {v : V} (hv : VR g (a.eval y) v) (hs : S.step1 R dst (.asg x) = some T) :
    Inv cx N hb0 T (putR dst v rs) h fl g (a.put dst (a.eval y)) w := by
  cases x with
  | r p =>
    have e := trArg_tmp hx
    subst e
    simp only [Ow.step1] at hs
    obtain ⟨T0, hk, hs⟩ := bnd_eq_some hs
    have h1 := hi.put hd hk hv
    cases dst with
    | none => cases hs; exact h1
    | some d =>
      simp only at hs
      cases hdp : decide (d = p) <;> rw [hdp] at hs
      · simp only [cnd_false] at hs
        obtain ⟨hpd, hs⟩ := cnd_eq_some hs
        cases hs
        have hlt : d < a.tmps.size := by rw [hi.F.size]; exact hd d rfl
        have hne : d ≠ p := of_decide_eq_false hdp
        obtain ⟨_, rfl⟩ := kill_some hk
        obtain ⟨pd, hO, hf⟩ := h1.O
        refine ⟨h1.W, h1.G, ⟨pd, hO.moved hne ?_ (fun x hx => (mem_offReg.1 hx).2) (fun i j e => ?_), ⟨hf.al, hf.la, hf.pd⟩⟩, h1.F⟩
        · rw [put_get hlt, put_other hlt (Ne.symm hne)]; rfl
        · rcases hf.pd with ⟨_, h2⟩ | ⟨p', d', i', j', h2, h3, _⟩
          · rw [h2] at e; cases e
          · rw [h3] at e; cases e
            exact (pdFree_spec hpd h2).2 rfl
      · cases hs; exact h1
  | c c =>
    simp only [Ow.step1] at hs
    obtain ⟨T0, hk, hs⟩ := bnd_eq_some hs
    have h1 := hi.put hd hk hv
    cases hn : isNilArg (.c c) <;> rw [hn] at hs <;> cases hs
    · exact h1
    · exact hi.addNil hd (nilArg_eval hx hn) h1
theorem VR.addr {u : Value} {b : Bool} {n : Nat} {h : Heap} {x v : V} (hx : VR g u x) (hv : loadV b n h x = some v) : ∃ c k, u = .pointer (some ⟨c, k, none⟩) := by
  unfold loadV at hv
  split at hv
  · obtain ⟨b, _, rfl⟩ := hx.ptr_inv; exact ⟨_, _, rfl⟩
  · obtain ⟨b, o, us, rfl, _⟩ := hx.ro_inv; exact ⟨_, _, rfl⟩
  · cases hv
theorem load_cell {t : TypeId} (ht : aggT P t = some false) {c k : Nat} {u : Value} (hr : (Instr.loadAt t (.pointer (some ⟨c, k, none⟩))).run P w = .ok u w) (hc : ∃ z, w.cell? ⟨c, k, none⟩ = some z) : w.cell? ⟨c, k, none⟩ = some u := by
  obtain ⟨z, hz⟩ := hc
  unfold aggT at ht
  split at ht
  · cases ht
  · cases ht
  · rename_i d hu h2 h3
    have hu' : (isAgg t).run P w = .ok false w := by
      simp only [isAgg, Sem.run_bind, run_underlying h3, Result.andThen_ok]
      rfl
    simp [Instr.loadAt, Instr.sureAddr, loadVar, hu', hz] at hr
    rw [hz, hr]
  · cases ht
theorem cellThere (hi : HRead g h w) {u : Value} {x v : V} (hx : VR g u x) (hv : loadV false 1 h x = some v) {c k : Nat} (hu : u = .pointer (some ⟨c, k, none⟩)) : ∃ z, w.cell? ⟨c, k, none⟩ = some z := by
  unfold loadV at hv
  split at hv
  · rename_i i o
    obtain ⟨cs, hc, hv⟩ := bnd_eq_some hv
    obtain ⟨bl, hbl, rfl⟩ := hx.ptr_inv
    cases hu
    obtain ⟨b', us, tt, hb', hheap, hus, _⟩ := hi.cells hc
    rw [hbl] at hb'; cases hb'
    unfold cut at hv
    obtain ⟨hle, hv⟩ := cnd_eq_some hv
    have hl := hus.length
    rw [cell_of_heap hheap]
    have : k < us.size := by have := of_decide_eq_true hle; simp at hl; omega
    exact ⟨us[k], by simp [this]⟩
  · rename_i cs
    obtain ⟨bl, o, us, rfl, himm, hus⟩ := hx.ro_inv
    cases hu
    unfold cut at hv
    obtain ⟨hle, hv⟩ := cnd_eq_some hv
    have hl := hus.length
    have : 0 < us.length := by have := of_decide_eq_true hle; omega
    exact ⟨us[0], by simpa using hi.imm _ _ _ (himm 0 us[0] (by simp [this]))⟩
  · cases hv

set_option maxHeartbeats 800000 in
theorem quiet_ok (hi : Inv cx N hb0 S rs h fl g a w) (htr : trOp P o.op o.type gd = some vop) (hq : quietOp vop = true) {v : V} (hv : valOp h rs vop = some v) (hs : S.step1 R o.dst vop = some T) (hd : ∀ x, o.dst = some x → x < N) :
    ∃ u, (execOp a.eval o).run P w = .ok (.value u) w ∧ Inv cx N hb0 T (putR o.dst v rs) h fl g (a.put o.dst u) w := by
  obtain ⟨u, hu, hur⟩ := quiet_sound (P := P) hi.G.hr hi.F.regs htr hq hv
  refine ⟨u, hu, ?_⟩
  cases vop with
  | mv x =>
    obtain ⟨y, hy, hx⟩ := trOp_mv htr
    have : u = a.eval y := by
      have : (execOp a.eval o).run P w = .ok (.value (a.eval y)) w := by unfold execOp; rw [hy]; rfl
      rw [this] at hu; cases hu; rfl
    subst this
    exact mv_ok hi hx hd hur hs
  | asg x =>
    obtain ⟨y, hy, hx⟩ := trOp_asg htr
    have : u = a.eval y := by
      have : (execOp a.eval o).run P w = .ok (.value (a.eval y)) w := by unfold execOp; rw [hy]; rfl
      rw [this] at hu; cases hu; rfl
    subst this
    exact asg_ok hi hx hd hur hs
  | load b n x =>
    cases b with
    | true => exact hi.put hd hs hur
    | false =>
      cases x with
      | c c => exact hi.put hd (by simpa only [Ow.step1] using hs) hur
      | r p =>
        by_cases hn : n = 1
        · subst hn
          simp only [Ow.step1] at hs
          obtain ⟨T0, hk, hs⟩ := bnd_eq_some hs
          have h1 := hi.put hd hk hur
          cases hdst : o.dst with
          | none => rw [hdst] at hs h1; cases hs; exact h1
          | some d =>
            rw [hdst] at hs h1
            simp only at hs
            cases hdp : decide (d = p) <;> rw [hdp] at hs
            · cases hs
              have hlt : d < a.tmps.size := by rw [hi.F.size]; exact hd d hdst
              obtain ⟨t, y, hop, hagg, _, hy, _⟩ := trOp_load htr
              have e := trArg_tmp hy
              subst e
              have hpx := hi.F.regs p
              obtain ⟨c, k, hck⟩ := hpx.addr hv
              have hcell := cellThere hi.G.hr hpx hv hck
              have hrun : (Instr.loadAt t (.pointer (some ⟨c, k, none⟩))).run P w = .ok u w := by
                have e2 : a.eval (.tmp p) = .pointer (some ⟨c, k, none⟩) := hck
                unfold execOp at hu
                rw [hop] at hu
                simp only [e2, Sem.run_bind] at hu
                obtain ⟨z, w1, hz, h2⟩ := andThen_inv hu
                simp only [Sem.run_pure, Result.ok.injEq, Next.value.injEq] at h2
                rw [hz, h2.1, h2.2]
              have hc := load_cell hagg hrun hcell
              refine h1.addLa (b := c) (o := k) ?_ ?_
              · rw [put_other hlt (fun e => of_decide_eq_false hdp e.symm)]; exact hck
              · rw [put_get hlt]; exact hc
            · cases hs; exact h1
        · exact hi.put hd (by
            have : S.step1 R o.dst (.load false n (.r p)) = S.kill o.dst := by
              unfold Ow.step1
              split <;> first | rfl | (rename_i e; cases e; exact absurd rfl hn) | simp_all
            rw [← this]; exact hs) hur
  | conv k x =>
    cases k with
    | bytesOfStr => cases hq
    | _ => exact hi.put hd hs hur
  | _ => first
    | (cases hq; done)
    | exact hi.put hd hs hur
end
end Go.Vm
