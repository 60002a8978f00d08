/- Every operation that leaves memory alone: one theorem. -/
import Derived.Test.YtphlgefkcghopaaVmB5
set_option linter.unusedVariables false
set_option linter.unusedSimpArgs false
namespace Go.Vm
attribute [local simp] evalOps_nil evalOps_cons evalOps_consg evalOp_mv evalOp_asg evalOp_pick evalOp_build evalOp_bslice evalOp_load evalOp_nilck evalOp_bin evalOp_un evalOp_conv evalOp_mkfn evalOp_slice evalOp_faddr evalOp_field evalOp_iaddr evalOp_index evalOp_lookup evalOp_extract evalOp_app evalOp_len evalOp_mn evalOp_mx evalOp_alloc evalOp_box evalOp_mkmap evalOp_store evalOp_mapupd evalOp_delete evalOp_sliceArr evalOp_call evalOp_callv evalOp_appc code_skip code_ops code_dops code_seq code_cond code_block code_exit code_ret finish_normal finish_ret
attribute [local simp] V.lt V.ltL V.flat V.pureCell V.pure V.isCell cellEq cellsEq eqV intV shV strV isShift binV unV byteV convV minV maxV foldV foldV1 fillV fillE findV putV delV isKey natOf natOr cut cellsAt mapAt mapOf loadV pickV nilckV sizeOk allSize sliceV faddrV fieldV iaddrV indexV found extractV allPure appV lenV ownHas ownOk storeC storeV samePtr appcV boxable mapupdV deleteV sliceArrV callV allLt clean bodyEnd resV one finishV runV initR
def quietOp : VOp → Bool
  | .alloc _ _ | .box _ _ | .store _ _ _ _ _ | .bslice _ _ _ _ | .conv .bytesOfStr _ | .mkmap | .sliceArr _ _ _ | .mapupd _ _ _ _ | .delete _ _ _ | .call _ _ _ | .callv _ _ _ | .app _ _ _ _ _ | .appc _ _ _ _ _ => false
  | _ => true
section
variable {P : Program} {g : Gh} {h : Heap} {w : World} {a : Act} {rs : Regs}

theorem run_v {s : Sem Value} {u : Value} {w' : World} (hs : s.run P w = .ok u w') : (do pure (Next.value (← s)) : Sem Next).run P w = .ok (.value u) w' := by
  simp only [Sem.run_bind, hs, Result.andThen_ok, Sem.run_pure]
theorem foldV1_sound {f : V → V → Option V} {F : Value → Value → Sem Value} (hf : ∀ {u u' : Value} {v v' r : V}, VR g u v → VR g u' v' → f v v' = some r → ∃ z, (F u u').run P w = .ok z w ∧ VR g z r)
    {us : List Value} {vs : List V} {r : V} (hu : VRs g us vs) (he : foldV1 f vs = some r) : ∃ u us', us = u :: us' ∧ ∃ z, (us'.foldlM F u).run P w = .ok z w ∧ VR g z r := by
  cases hu with
  | nil => simp [foldV1] at he
  | cons x y => exact ⟨_, _, rfl, foldV_sound hf x y he⟩

set_option maxHeartbeats 1000000 in
theorem quiet_sound (hi : HRead g h w) (hr : RR g a rs) {o : Oper} {gd vop : VOp} (htr : trOp P o.op o.type gd = some vop) (hq : quietOp vop = true) {v : V} (hv : valOp h rs vop = some v) :
    ∃ u, (execOp a.eval o).run P w = .ok (.value u) w ∧ VR g u v := by
  obtain ⟨dst, op, ty, pos, after, guard⟩ := o
  cases op <;> simp only [trOp, reduceCtorEq] at htr
  case move x =>
    obtain ⟨x', hx, htr⟩ := bnd_eq_some htr
    cases htr
    cases hv
    exact ⟨_, rfl, trArg_sound hr hx⟩
  case assign x =>
    obtain ⟨x', hx, htr⟩ := bnd_eq_some htr
    cases htr
    cases hv
    exact ⟨_, rfl, trArg_sound hr hx⟩
  case pick c x y =>
    obtain ⟨c', hc, htr⟩ := bnd_eq_some htr
    obtain ⟨x', hx, htr⟩ := bnd_eq_some htr
    obtain ⟨y', hy, htr⟩ := bnd_eq_some htr
    cases htr
    simp only [valOp] at hv
    have hc := trArg_sound hr hc
    cases hcv : c'.val rs <;> rw [hcv] at hv hc <;> simp only [pickV, Option.some.injEq, reduceCtorEq] at hv
    rename_i t
    have hcb := hc.bool_inv
    subst hv
    refine ⟨if t then a.eval x else a.eval y, ?_, ?_⟩
    · simp [execOp, hcb, asBool]
    · cases t
      · exact trArg_sound hr hy
      · exact trArg_sound hr hx
  case alloc e => split at htr <;> (try cases htr; done); obtain ⟨z, _, htr⟩ := bnd_eq_some htr; obtain ⟨cs, _, htr⟩ := bnd_eq_some htr; cases htr; cases hq
  case box e x => obtain ⟨z, _, htr⟩ := bnd_eq_some htr; obtain ⟨cs, _, htr⟩ := bnd_eq_some htr; cases htr; cases hq
  case build t parts => 
    obtain ⟨u, hu, hur⟩ := build_sound (w := w) (t := t) (parts := parts) hr htr hv
    exact ⟨u, run_v hu, hur⟩
  case buildSlice t n parts =>
    obtain ⟨_, _, htr⟩ := bnd_eq_some htr; obtain ⟨_, _, htr⟩ := bnd_eq_some htr; obtain ⟨_, _, htr⟩ := bnd_eq_some htr; obtain ⟨_, _, htr⟩ := bnd_eq_some htr; obtain ⟨_, _, htr⟩ := bnd_eq_some htr
    split at htr <;> cases htr
    cases hq
  case load t x =>
    obtain ⟨b, hb, htr⟩ := bnd_eq_some htr
    obtain ⟨n, hn, htr⟩ := bnd_eq_some htr
    obtain ⟨x', hx, htr⟩ := bnd_eq_some htr
    split at htr <;> cases htr
    have h1 : b = true ∨ n = 1 := by assumption
    obtain ⟨u, hu, hur⟩ := loadV_sound (P := P) hi hb hn h1 (trArg_sound hr hx) hv
    exact ⟨u, run_v hu, hur⟩
  case store t x y => split at htr <;> (try cases htr; done); obtain ⟨z, _, htr⟩ := bnd_eq_some htr; obtain ⟨cs, _, htr⟩ := bnd_eq_some htr; obtain ⟨_, _, htr⟩ := bnd_eq_some htr; cases htr; cases hq
  case nilCheck x =>
    obtain ⟨x', hx, htr⟩ := bnd_eq_some htr
    cases htr
    obtain ⟨h1, h2⟩ := nilck_sound (trArg_sound hr hx) hv
    refine ⟨_, ?_, h1⟩
    rcases h2 with ⟨ad, h2⟩ | ⟨f, p, q, h2⟩
    · simp [execOp, h2]
    · simp [execOp, h2]
  case binOp o t x y yt =>
    obtain ⟨x', hx, htr⟩ := bnd_eq_some htr
    obtain ⟨y', hy, htr⟩ := bnd_eq_some htr
    cases htr
    obtain ⟨u, hu, hur⟩ := binV_sound (w := w) (x := x) (y := y) (trArg_sound hr hx) (trArg_sound hr hy) hv
    exact ⟨u, run_v hu, hur⟩
  case unOp o t x =>
    obtain ⟨x', hx, htr⟩ := bnd_eq_some htr
    cases htr
    obtain ⟨u, hu, hur⟩ := unV_sound (P := P) (w := w) (trArg_sound hr hx) hv
    exact ⟨u, run_v hu, hur⟩
  case convert s d x =>
    obtain ⟨x', hx, htr⟩ := bnd_eq_some htr
    split at htr
    · rename_i h1 h2
      cases htr
      obtain ⟨u, hu, hur⟩ := toInt_sound (w := w) h1 h2 (trArg_sound hr hx) hv
      exact ⟨u, run_v hu, hur⟩
    · rename_i h1 h2
      cases htr
      obtain ⟨u, hu, hur⟩ := sameStr_sound (w := w) h1 h2 (trArg_sound hr hx) hv
      exact ⟨u, run_v hu, hur⟩
    · rename_i e h1 h2
      cases he : byteT P e <;> rw [he] at htr <;> cases htr
      obtain ⟨u, hu, hur⟩ := strOf_sound (w := w) h1 h2 he hi (trArg_sound hr hx) hv
      exact ⟨u, run_v hu, hur⟩
    · rename_i e h1 h2
      cases he : byteT P e <;> rw [he] at htr <;> cases htr
      cases hq
    · cases htr
  case makeFunc f first caps =>
    split at htr
    · obtain ⟨p, hp, htr⟩ := bnd_eq_some htr
      obtain ⟨q, hq', htr⟩ := bnd_eq_some htr
      cases htr
      cases hv
      refine ⟨.func (.func _) (first.map a.eval) (caps.map a.eval), rfl, ?_⟩
      have h1 := trArgs_sound hr hp
      have h2 := trArgs_sound hr hq'
      have := VR.fn (f := by assumption) h1 h2
      have e1 : first.map a.eval = (first.toList.map a.eval).toArray := by apply Array.ext'; simp
      have e2 : caps.map a.eval = (caps.toList.map a.eval).toArray := by apply Array.ext'; simp
      rw [e1, e2]
      exact this
    · cases htr
  case makeMap t r => split at htr <;> cases htr; cases hq
  case slice t x lo hi' mx =>
    obtain ⟨x', hx, htr⟩ := bnd_eq_some htr
    obtain ⟨l, hl, htr⟩ := bnd_eq_some htr
    obtain ⟨u, hu, htr⟩ := bnd_eq_some htr
    obtain ⟨m, hm, htr⟩ := bnd_eq_some htr
    split at htr
    · rename_i ht
      cases htr
      obtain ⟨z, hz, hzr⟩ := sliceS_sound (w := w) hr ht (trArg_sound hr hx) hl hu hm hv
      exact ⟨z, run_v hz, hzr⟩
    · rename_i e ht
      obtain ⟨n, hn, htr⟩ := bnd_eq_some htr
      cases htr
      obtain ⟨z, hz, hzr⟩ := slice_sound (w := w) hr ht hn (trArg_sound hr hx) hl hu hm hv
      exact ⟨z, run_v hz, hzr⟩
    · split at htr
      · obtain ⟨n, hn, htr⟩ := bnd_eq_some htr
        cases htr
        cases hq
      · cases htr
    · cases htr
  case fieldAddr t x f =>
    obtain ⟨fd, hf, htr⟩ := bnd_eq_some htr
    obtain ⟨n, hn, htr⟩ := bnd_eq_some htr
    obtain ⟨x', hx, htr⟩ := bnd_eq_some htr
    split at htr <;> cases htr
    have hpos : 0 < n := by assumption
    obtain ⟨z, hz, hzr⟩ := faddr_sound (w := w) hf hn hpos (trArg_sound hr hx) hv
    exact ⟨z, run_v hz, hzr⟩
  case field t x f =>
    obtain ⟨fd, hf, htr⟩ := bnd_eq_some htr
    obtain ⟨b, hb, htr⟩ := bnd_eq_some htr
    obtain ⟨n, hn, htr⟩ := bnd_eq_some htr
    obtain ⟨x', hx, htr⟩ := bnd_eq_some htr
    split at htr <;> cases htr
    have h1 : b = true ∨ n = 1 := by assumption
    obtain ⟨z, hz, hzr⟩ := field_sound (w := w) hf hb hn h1 (trArg_sound hr hx) hv
    exact ⟨z, run_v hz, hzr⟩
  case indexAddr t x i =>
    obtain ⟨x', hx, htr⟩ := bnd_eq_some htr
    obtain ⟨i', hi', htr⟩ := bnd_eq_some htr
    split at htr
    · rename_i e ht
      obtain ⟨n, hn, htr⟩ := bnd_eq_some htr
      cases htr
      simp only [valOp] at hv
      obtain ⟨j, hj, hv⟩ := bnd_eq_some hv
      obtain ⟨z, hz, hzr⟩ := iaddrS_sound (w := w) ht hn (trArg_sound hr hx) (trArg_sound hr hi') hj hv
      exact ⟨z, run_v hz, hzr⟩
    · rename_i m e ht
      obtain ⟨n, hn, htr⟩ := bnd_eq_some htr
      cases htr
      simp only [valOp] at hv
      obtain ⟨j, hj, hv⟩ := bnd_eq_some hv
      obtain ⟨z, hz, hzr⟩ := iaddrA_sound (w := w) ht hn (trArg_sound hr hx) (trArg_sound hr hi') hj hv
      exact ⟨z, run_v hz, hzr⟩
    · cases htr
  case index t x i =>
    obtain ⟨x', hx, htr⟩ := bnd_eq_some htr
    obtain ⟨i', hi', htr⟩ := bnd_eq_some htr
    split at htr
    · rename_i ht
      cases htr
      simp only [valOp] at hv
      obtain ⟨j, hj, hv⟩ := bnd_eq_some hv
      obtain ⟨z, hz, hzr⟩ := indexS_sound (w := w) ht (trArg_sound hr hx) (trArg_sound hr hi') hj hv
      exact ⟨z, run_v hz, hzr⟩
    · rename_i m e ht
      obtain ⟨b, hb, htr⟩ := bnd_eq_some htr
      obtain ⟨n, hn, htr⟩ := bnd_eq_some htr
      split at htr <;> cases htr
      have h1 : b = true ∨ n = 1 := by assumption
      simp only [valOp] at hv
      obtain ⟨j, hj, hv⟩ := bnd_eq_some hv
      obtain ⟨z, hz, hzr⟩ := indexA_sound (w := w) ht hb hn h1 (trArg_sound hr hx) (trArg_sound hr hi') hj hv
      exact ⟨z, run_v hz, hzr⟩
    · cases htr
  case lookup t x i ok =>
    obtain ⟨x', hx, htr⟩ := bnd_eq_some htr
    obtain ⟨i', hi', htr⟩ := bnd_eq_some htr
    split at htr
    · rename_i kt e ht
      obtain ⟨q, hqq, htr⟩ := bnd_eq_some htr
      obtain ⟨z, hz, htr⟩ := bnd_eq_some htr
      obtain ⟨zv, hzv, htr⟩ := bnd_eq_some htr
      cases htr
      simp only [valOp] at hv
      obtain ⟨es, hes, hv⟩ := bnd_eq_some hv
      cases hkey : isKey q (i'.val rs) <;> rw [hkey] at hv
      · cases hv
      · simp only [cnd_true] at hv
        obtain ⟨r, hrr, hv⟩ := bnd_eq_some hv
        obtain ⟨z, hz, hzr⟩ := lookup_sound (w := w) hi ht hqq hz hzv (trArg_sound hr hx) (trArg_sound hr hi') hes hkey hrr (Option.some.inj hv)
        exact ⟨z, run_v hz, hzr⟩
    · cases htr
  case mapUpdate t m k x =>
    split at htr <;> (try cases htr; done)
    obtain ⟨_, _, htr⟩ := bnd_eq_some htr; obtain ⟨_, _, htr⟩ := bnd_eq_some htr; obtain ⟨_, _, htr⟩ := bnd_eq_some htr; obtain ⟨_, _, htr⟩ := bnd_eq_some htr
    cases htr; cases hq
  case extract x i =>
    obtain ⟨x', hx, htr⟩ := bnd_eq_some htr
    cases htr
    simp only [valOp] at hv
    have hx := trArg_sound hr hx
    cases hxv : x'.val rs <;> rw [hxv] at hv hx <;> simp only [extractV, reduceCtorEq] at hv
    rename_i vs
    obtain ⟨us, hus, hrel⟩ := hx.tup_inv
    obtain ⟨u, hu, hur⟩ := hrel.get i v hv
    refine ⟨u, run_v ?_, hur⟩
    simp [Instr.extract, hus, hu]
  case call c =>
    obtain ⟨callee, args, argTypes⟩ := c
    cases callee with
    | value f =>
      cases f <;> simp only at htr <;> split at htr <;> (try cases htr; done) <;> first
        | (obtain ⟨_, _, htr⟩ := bnd_eq_some htr; cases htr; cases hq; done)
        | (obtain ⟨_, _, htr⟩ := bnd_eq_some htr; obtain ⟨_, _, htr⟩ := bnd_eq_some htr; cases htr; cases hq; done)
    | invoke r m => simp only [reduceCtorEq] at htr
    | builtin b =>
      cases b <;> simp only [reduceCtorEq] at htr
      case append =>
        split at htr <;> (try cases htr; done)
        obtain ⟨_, _, htr⟩ := bnd_eq_some htr; obtain ⟨_, _, htr⟩ := bnd_eq_some htr; obtain ⟨_, _, htr⟩ := bnd_eq_some htr; obtain ⟨_, _, htr⟩ := bnd_eq_some htr
        split at htr <;> (try cases htr; done)
        split at htr <;> (try cases htr; done)
        split at htr <;> cases htr <;> cases hq
      case delete =>
        split at htr <;> (try cases htr; done)
        split at htr <;> (try cases htr; done)
        obtain ⟨_, _, htr⟩ := bnd_eq_some htr; obtain ⟨_, _, htr⟩ := bnd_eq_some htr; obtain ⟨_, _, htr⟩ := bnd_eq_some htr
        cases htr; cases hq
      case len =>
        split at htr
        · rename_i x t hargs htys
          have ea : args = #[x] := by apply Array.ext'; simpa using hargs
          have et : argTypes = #[t] := by apply Array.ext'; simpa using htys
          subst ea et
          obtain ⟨x', hx, htr⟩ := bnd_eq_some htr
          have fin : ∀ k, vop = .len k x' → ((k = .str ∧ P.underlying t = some .string) ∨ (k = .sl ∧ ∃ e, P.underlying t = some (.slice e)) ∨ (k = .map ∧ ∃ a b, P.underlying t = some (.map a b)) ∨ (∃ n, k = .arr n ∧ ((∃ e, P.underlying t = some (.array n e)) ∨ ∃ r e, P.underlying t = some (.pointer r) ∧ P.underlying r = some (.array n e)))) →
              ∃ u, (execOp a.eval { dst, op := .call { callee := .builtin .len, args := #[x], argTypes := #[t] }, type := ty, pos, after, guard }).run P w = .ok (.value u) w ∧ VR g u v := by
            intro k hk hcase
            subst hk
            obtain ⟨z, hz, hzr⟩ := lenV_sound (w := w) (ty := ty) hi (trArg_sound hr hx) hv hcase
            refine ⟨z, ?_, hzr⟩
            simp only [execOp, resolve, invoke, builtin, Sem.run_bind, Sem.run_pure, Result.andThen_ok]
            have : (#[x].map a.eval) = #[a.eval x] := by simp
            rw [this, hz]
            rfl
          split at htr
          · rename_i ht; cases htr; exact fin _ rfl (.inl ⟨rfl, ht⟩)
          · rename_i e ht; cases htr; exact fin _ rfl (.inr (.inl ⟨rfl, _, ht⟩))
          · rename_i p q ht; cases htr; exact fin _ rfl (.inr (.inr (.inl ⟨rfl, _, _, ht⟩)))
          · rename_i n e ht; cases htr; exact fin _ rfl (.inr (.inr (.inr ⟨_, rfl, .inl ⟨_, ht⟩⟩)))
          · rename_i r ht
            obtain ⟨ar, har, htr⟩ := bnd_eq_some htr
            cases htr
            unfold arrayT at har
            split at har
            · rename_i n e hr'
              cases har
              exact fin _ rfl (.inr (.inr (.inr ⟨_, rfl, .inr ⟨_, _, ht, hr'⟩⟩)))
            · cases har
          · cases htr
        · cases htr
      case min =>
        obtain ⟨as, has, htr⟩ := bnd_eq_some htr
        cases htr
        obtain ⟨u, us', hus, z, hz, hzr⟩ := foldV1_sound (P := P) (w := w) (F := Builtin.min2) minV_sound (trArgs_sound hr has) hv
        refine ⟨z, ?_, hzr⟩
        have : (args.map a.eval).toList = u :: us' := by simpa using hus
        simp only [execOp, resolve, invoke, builtin, Builtin.min_, this, Sem.run_bind, Sem.run_pure, Result.andThen_ok, hz]
      case max =>
        obtain ⟨as, has, htr⟩ := bnd_eq_some htr
        cases htr
        obtain ⟨u, us', hus, z, hz, hzr⟩ := foldV1_sound (P := P) (w := w) (F := Builtin.max2) maxV_sound (trArgs_sound hr has) hv
        refine ⟨z, ?_, hzr⟩
        have : (args.map a.eval).toList = u :: us' := by simpa using hus
        simp only [execOp, resolve, invoke, builtin, Builtin.max_, this, Sem.run_bind, Sem.run_pure, Result.andThen_ok, hz]
end
end Go.Vm
