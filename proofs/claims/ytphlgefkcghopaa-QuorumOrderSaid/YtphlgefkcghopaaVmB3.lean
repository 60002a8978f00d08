/- Arithmetic, comparisons, conversions. -/
import Derived.Test.YtphlgefkcghopaaVmB2
set_option linter.unusedVariables false
set_option linter.unusedSimpArgs false
namespace Go.Vm
attribute [local simp] evalOps_nil evalOps_cons evalOps_consg evalOp_mv evalOp_asg evalOp_pick evalOp_build evalOp_bslice evalOp_load evalOp_nilck evalOp_bin evalOp_un evalOp_conv evalOp_mkfn evalOp_slice evalOp_faddr evalOp_field evalOp_iaddr evalOp_index evalOp_lookup evalOp_extract evalOp_app evalOp_len evalOp_mn evalOp_mx evalOp_alloc evalOp_box evalOp_mkmap evalOp_store evalOp_mapupd evalOp_delete evalOp_sliceArr evalOp_call evalOp_callv evalOp_appc code_skip code_ops code_dops code_seq code_cond code_block code_exit code_ret finish_normal finish_ret
attribute [local simp] V.lt V.ltL V.flat V.pureCell V.pure V.isCell cellEq cellsEq eqV intV shV strV isShift binV unV byteV convV minV maxV foldV foldV1 fillV fillE findV putV delV isKey natOf natOr cut cellsAt mapAt mapOf loadV pickV nilckV sizeOk allSize sliceV faddrV fieldV iaddrV indexV found extractV allPure appV lenV ownHas ownOk storeC storeV samePtr appcV boxable mapupdV deleteV sliceArrV callV allLt clean bodyEnd resV one finishV runV initR
section
variable {P : Program} {g : Gh} {h : Heap} {w : World} {a : Act} {rs : Regs}

theorem VR.b (b : Bool) : VR g (.bool b) (.bool b) := .cell (.bool b)
theorem VR.i (k : IntKind) (n : Int) : VR g (.int k n) (.int k n) := .cell (.int k n)

theorem bytesLess_eq : ∀ (x y : List UInt8), Op.bytesLess x y = bytesLess x y
  | _, [] => by simp [Op.bytesLess, bytesLess]
  | [], _ :: _ => rfl
  | a :: x, b :: y => by simp only [Op.bytesLess, bytesLess, bytesLess_eq x y]

theorem intV_sound {op : BinOp} {k : IntKind} {x y : Int} {v : V} (hv : intV op k x y = some v) (hs : isShift op = false) (t : TypeId) :
    ∃ u, (binOp op t (.int k x) (.int k y)).run P w = .ok u w ∧ VR g u v := by
  cases op <;> simp only [isShift, Bool.true_eq_false, reduceCtorEq] at hs <;> simp only [intV] at hv
  case quo =>
    cases hb : (y == 0) <;> rw [hb] at hv
    · simp only [cnd_false, Option.some.injEq] at hv
      subst hv
      have : y ≠ 0 := by simpa using hb
      exact ⟨_, by simp [binOp_quo, Op.intDiv, this], .i _ _⟩
    · cases hv
  case rem =>
    cases hb : (y == 0) <;> rw [hb] at hv
    · simp only [cnd_false, Option.some.injEq] at hv
      subst hv
      have : y ≠ 0 := by simpa using hb
      exact ⟨_, by simp [binOp_rem, Op.intDiv, this], .i _ _⟩
    · cases hv
  all_goals
    simp only [Option.some.injEq, reduceCtorEq] at hv
  all_goals
    subst hv
  case add => exact ⟨_, by rw [binOp_add]; rfl, .i _ _⟩
  case sub => exact ⟨_, by rw [binOp_sub]; rfl, .i _ _⟩
  case mul => exact ⟨_, by rw [binOp_mul]; rfl, .i _ _⟩
  case and => exact ⟨_, by rw [binOp_and]; rfl, .i _ _⟩
  case or => exact ⟨_, by rw [binOp_or]; rfl, .i _ _⟩
  case xor => exact ⟨_, by rw [binOp_xor]; rfl, .i _ _⟩
  case andNot => exact ⟨_, by rw [binOp_andNot]; rfl, .i _ _⟩
  case eql => exact ⟨_, by rw [binOp_eql]; rfl, .b _⟩
  case neq => exact ⟨_, by rw [binOp_neq]; rfl, .b _⟩
  case lss => exact ⟨_, by rw [binOp_lss]; rfl, .b _⟩
  case leq => exact ⟨_, by rw [binOp_leq]; rfl, .b _⟩
  case gtr => exact ⟨_, by rw [binOp_gtr]; rfl, .b _⟩
  case geq => exact ⟨_, by rw [binOp_geq]; rfl, .b _⟩

theorem shV_sound {op : BinOp} {k k' : IntKind} {x y : Int} {v : V} (hv : shV op k x y = some v) (t : TypeId) :
    ∃ u, (binOp op t (.int k x) (.int k' y)).run P w = .ok u w ∧ VR g u v := by
  cases op <;> simp only [shV, reduceCtorEq] at hv
  case shl =>
    cases hb : decide (y < 0) <;> rw [hb] at hv
    · simp only [cnd_false, Option.some.injEq] at hv
      subst hv
      have : ¬ y < 0 := by simpa using hb
      exact ⟨_, by simp [binOp_shl, Op.shift, this], .i _ _⟩
    · cases hv
  case shr =>
    cases hb : decide (y < 0) <;> rw [hb] at hv
    · simp only [cnd_false, Option.some.injEq] at hv
      subst hv
      have : ¬ y < 0 := by simpa using hb
      exact ⟨_, by simp [binOp_shr, Op.shift, this], .i _ _⟩
    · cases hv

theorem strV_sound {op : BinOp} {x y : ByteArray} {v : V} (hv : strV op x.data.toList y.data.toList = some v) (t : TypeId) :
    ∃ u, (binOp op t (.string x) (.string y)).run P w = .ok u w ∧ VR g u v := by
  have hx := ByteArray.toList_eq x
  have hy := ByteArray.toList_eq y
  have hl := bytesLess_eq x.data.toList y.data.toList
  cases op <;> simp only [strV, reduceCtorEq] at hv
  case add =>
    cases hb : decide (x.data.toList.length + y.data.toList.length ≤ 140737488351232) <;> rw [hb] at hv
    · cases hv
    · simp only [cnd_true, Option.some.injEq] at hv
      subst hv
      have hb := of_decide_eq_true hb
      have e1 : x.size = x.data.toList.length := by rw [Array.length_toList]; rfl
      have e2 : y.size = y.data.toList.length := by rw [Array.length_toList]; rfl
      refine ⟨.string (x ++ y), ?_, ?_⟩
      · have : binOp .add t (.string x) (.string y) = Op.stringOp .add x y := rfl
        rw [this]
        exact run_string_add_sum w x y (by omega)
      · have : (x ++ y).data.toList = x.data.toList ++ y.data.toList := by simp
        rw [← this]
        exact .cell (.str _)
  all_goals
    simp only [Option.some.injEq] at hv
    subst hv
    refine ⟨_, ?_, .b _⟩
    simp only [binOp, Op.stringOp, Sem.run_pure, hx, hy, hl]

theorem run_eq_ptr (d : Nat) {t e : TypeId} (ht : P.underlying t = some (.pointer e)) (q : Option Addr) : (Op.equalIn (d + 1) t (.pointer q) (.pointer none)).run P w = .ok q.isNone w ∧ (Op.equalIn (d + 1) t (.pointer none) (.pointer q)).run P w = .ok q.isNone w := by
  cases q <;> simp [Op.equalIn, run_underlying ht]
theorem run_eq_map (d : Nat) {t k e : TypeId} (ht : P.underlying t = some (.map k e)) (q : Option Nat) : (Op.equalIn (d + 1) t (.map q) (.map none)).run P w = .ok q.isNone w := by
  cases q <;> simp [Op.equalIn, run_underlying ht]
theorem run_eq_fn (d : Nat) {t : TypeId} {p q : Array TypeId} {s : Bool} (ht : P.underlying t = some (.func p q s)) : (Op.equalIn (d + 1) t .nilFunc .nilFunc).run P w = .ok true w := by
  simp [Op.equalIn, run_underlying ht]
theorem run_neq_fn (d : Nat) {t : TypeId} {p q : Array TypeId} {s : Bool} (ht : P.underlying t = some (.func p q s)) (f : Fn) (x y : Array Value) : (Op.equalIn (d + 1) t (.func f x y) .nilFunc).run P w = .ok false w := by
  simp [Op.equalIn, run_underlying ht]

theorem eqV_sound {op : BinOp} {t : TypeId} {x y : Operand} {u u' : Value} {v v' : V} {r : Bool} (hu : VR g u v) (hu' : VR g u' v') (he : eqV (eqK P t) v v' = some r) :
    (eqGuard op t x y u u').run P w = .ok () w ∧ (Op.equal t u u').run P w = .ok r w ∧ binOp .eql t u u' = (do pure (.bool (← Op.equal t u u'))) ∧ binOp .neq t u u' = (do pure (.bool (!(← Op.equal t u u')))) := by
  have ek : (P.underlying t = some .bool ∧ eqK P t = .bool) ∨ ((∃ e, P.underlying t = some (.pointer e)) ∧ eqK P t = .ptr) ∨ ((∃ k e, P.underlying t = some (.map k e)) ∧ eqK P t = .map) ∨
      ((∃ p q s, P.underlying t = some (.func p q s)) ∧ eqK P t = .fn) ∨ eqK P t = .no ∨ ∃ ks, eqK P t = .agg ks ∧ flatT P 8 t = some ks ∧ P.eqGuardType P.depth t = false ∧ aggT P t = some true := by
    have agg : (∀ (q : aggT P t = some true), (match flatT P 8 t with | some ks => cnd (P.eqGuardType P.depth t) EK.no (.agg ks) | none => .no) = .no ∨ ∃ ks, (match flatT P 8 t with | some ks => cnd (P.eqGuardType P.depth t) EK.no (.agg ks) | none => .no) = .agg ks ∧ flatT P 8 t = some ks ∧ P.eqGuardType P.depth t = false ∧ aggT P t = some true) := by
      intro q
      cases hf : flatT P 8 t with
      | none => exact .inl rfl
      | some ks =>
        cases hg : P.eqGuardType P.depth t
        · exact .inr ⟨ks, rfl, rfl, rfl, q⟩
        · exact .inl rfl
    unfold eqK
    split <;> rename_i hk
    · exact .inl ⟨hk, rfl⟩
    · exact .inr (.inl ⟨⟨_, hk⟩, rfl⟩)
    · exact .inr (.inr (.inl ⟨⟨_, _, hk⟩, rfl⟩))
    · exact .inr (.inr (.inr (.inl ⟨⟨_, _, _, hk⟩, rfl⟩)))
    · exact .inr (.inr (.inr (.inr (agg (by unfold aggT; rw [hk])))))
    · exact .inr (.inr (.inr (.inr (agg (by unfold aggT; rw [hk])))))
    · exact .inr (.inr (.inr (.inr (.inl rfl))))
  rcases ek with ⟨ht, e⟩ | ⟨⟨e', ht⟩, e⟩ | ⟨⟨k, e', ht⟩, e⟩ | ⟨⟨p, q, s, ht⟩, e⟩ | e | ⟨ks, e, hf, hg, ha⟩ <;> rw [e] at he
  · cases v <;> cases v' <;> simp only [eqV, Option.some.injEq, reduceCtorEq] at he
    cases hu.bool_inv
    cases hu'.bool_inv
    subst he
    exact ⟨by rw [eqGuard_at_bool]; rfl, run_equal_bool w t _ _ ht, rfl, rfl⟩
  · have nilR : ∀ {x : Value}, VR g x v → v' = .ptr none → eqV .ptr v v' = some r → ∃ q, x = .pointer q ∧ r = q.isNone := by
      intro x hx hv' he
      subst hv'
      cases v with
      | ptr z =>
        simp only [eqV, Option.some.injEq] at he
        subst he
        cases z with
        | none => exact ⟨none, hx.nilp_inv, rfl⟩
        | some z => obtain ⟨i, o⟩ := z; obtain ⟨b, _, rfl⟩ := hx.ptr_inv; exact ⟨_, rfl, rfl⟩
      | ro cs =>
        simp only [eqV, Option.some.injEq] at he
        subst he
        obtain ⟨b, o, us, rfl, _, _⟩ := hx.ro_inv
        exact ⟨_, rfl, rfl⟩
      | _ => simp [eqV] at he
    have fin : ∃ q q', u = .pointer q ∧ u' = .pointer q' ∧ ((q' = none ∧ r = q.isNone) ∨ (q = none ∧ r = q'.isNone)) := by
      cases hv' : v' with
      | ptr z =>
        cases z with
        | none =>
          obtain ⟨q, rfl, hr⟩ := nilR hu hv' he
          rw [hv'] at hu'
          exact ⟨q, none, rfl, hu'.nilp_inv, .inl ⟨rfl, hr⟩⟩
        | some z =>
          rw [hv'] at he hu'
          obtain ⟨i, o⟩ := z
          obtain ⟨b, _, rfl⟩ := hu'.ptr_inv
          cases v with
          | ptr z' =>
            cases z' with
            | none =>
              simp only [eqV, Option.some.injEq] at he
              exact ⟨none, _, hu.nilp_inv, rfl, .inr ⟨rfl, he.symm⟩⟩
            | some _ => simp [eqV] at he
          | _ => simp [eqV] at he
      | _ => rw [hv'] at he; cases v <;> simp [eqV] at he
    obtain ⟨q, q', rfl, rfl, hr⟩ := fin
    refine ⟨by rw [eqGuard_at_pointer]; rfl, ?_, rfl, rfl⟩
    rcases hr with ⟨rfl, rfl⟩ | ⟨rfl, rfl⟩
    · exact (run_eq_ptr 9999 ht q).1
    · exact (run_eq_ptr 9999 ht q').2
  · cases v <;> cases v' <;> simp only [eqV, Option.some.injEq, reduceCtorEq] at he
    rename_i z z'
    cases z' with
    | some _ => simp [eqV] at he
    | none =>
      simp only [eqV, Option.some.injEq] at he
      subst he
      have : ∃ q, u = .map q ∧ q.isNone = z.isNone := by
        cases z with
        | none => exact ⟨none, hu.nilm_inv, rfl⟩
        | some z => obtain ⟨b, _, rfl⟩ := hu.map_inv; exact ⟨_, rfl, rfl⟩
      obtain ⟨q, rfl, hq⟩ := this
      cases hu'.nilm_inv
      refine ⟨by rw [eqGuard_at_map]; rfl, ?_, rfl, rfl⟩
      rw [← hq]
      exact run_eq_map 9999 ht q
  · cases v' with
    | nofn =>
      cases hu'.nofn_inv
      cases v with
      | nofn =>
        simp only [eqV, Option.some.injEq] at he
        subst he
        cases hu.nofn_inv
        exact ⟨by rw [eqGuard_at_nilFunc]; rfl, run_eq_fn 9999 ht, rfl, rfl⟩
      | fn f as cs =>
        simp only [eqV, Option.some.injEq] at he
        subst he
        obtain ⟨us, vs, rfl, _, _⟩ := hu.fn_inv
        exact ⟨by rw [eqGuard_at_func]; rfl, run_neq_fn 9999 ht _ _ _, rfl, rfl⟩
      | _ => simp [eqV] at he
    | _ => cases v <;> simp [eqV] at he
  · cases v <;> cases v' <;> simp [eqV] at he
  · cases v <;> cases v' <;> simp only [eqV, reduceCtorEq] at he
    obtain ⟨us, rfl, hus, _⟩ := hu.agg_inv
    obtain ⟨us', rfl, hus', _⟩ := hu'.agg_inv
    refine ⟨run_eqGuard_agg w op t x y _ _ hg, ?_, rfl, rfl⟩
    have := flatT_ok 8 t ks hf 9992 g w us us' _ _ r true ha hus hus' he
    exact this

theorem binV_sound {op : BinOp} {t : TypeId} {x y : Operand} {u u' : Value} {v v' r : V} (hu : VR g u v) (hu' : VR g u' v') (he : binV op (eqK P t) v v' = some r) :
    ∃ z, (do eqGuard op t x y u u'; binOp op t u u').run P w = .ok z w ∧ VR g z r := by
  unfold binV at he
  split at he
  · rename_i k p k' q
    cases hu.int_inv
    cases hu'.int_inv
    simp only [Sem.run_bind, eqGuard_at_int, Sem.run_pure, Result.andThen_ok]
    cases hs : isShift op <;> rw [hs] at he
    · simp only [cnd_false] at he
      cases hk : decide (k = k') <;> rw [hk] at he
      · cases he
      · have := of_decide_eq_true hk
        subst this
        exact intV_sound he hs t
    · exact shV_sound he t
  · obtain ⟨s, rfl, rfl⟩ := hu.str_inv
    obtain ⟨s', rfl, rfl⟩ := hu'.str_inv
    simp only [Sem.run_bind, eqGuard_at_string, Sem.run_pure, Result.andThen_ok]
    exact strV_sound he t
  · split at he
    · obtain ⟨b, hb, he⟩ := bnd_eq_some he
      cases he
      obtain ⟨h1, h2, h3, h4⟩ := eqV_sound (w := w) (op := .eql) (x := x) (y := y) hu hu' hb
      exact ⟨_, by simp only [Sem.run_bind, h1, Result.andThen_ok, h3, h2, Sem.run_pure], .b _⟩
    · obtain ⟨b, hb, he⟩ := bnd_eq_some he
      cases he
      obtain ⟨h1, h2, h3, h4⟩ := eqV_sound (w := w) (op := .neq) (x := x) (y := y) hu hu' hb
      exact ⟨_, by simp only [Sem.run_bind, h1, Result.andThen_ok, h4, h2, Sem.run_pure], .b _⟩
    · cases he

theorem unV_sound {op : UnOp} {u : Value} {v r : V} (hu : VR g u v) (he : unV op v = some r) : ∃ z, (Op.unary op u).run P w = .ok z w ∧ VR g z r := by
  unfold unV at he
  split at he <;> simp only [Option.some.injEq, reduceCtorEq] at he <;> subst he
  · cases hu.bool_inv; exact ⟨_, rfl, .b _⟩
  · cases hu.int_inv; exact ⟨_, rfl, .i _ _⟩
  · cases hu.int_inv; exact ⟨_, rfl, .i _ _⟩

theorem minV_sound {u u' : Value} {v v' r : V} (hu : VR g u v) (hu' : VR g u' v') (he : minV v v' = some r) : ∃ z, (Builtin.min2 u u').run P w = .ok z w ∧ VR g z r := by
  unfold minV at he
  split at he
  · rename_i k x k' y
    cases hu.int_inv
    cases hu'.int_inv
    cases hk : decide (k = k') <;> rw [hk] at he
    · cases he
    · cases he
      exact ⟨_, rfl, .i _ _⟩
  · cases he
theorem maxV_sound {u u' : Value} {v v' r : V} (hu : VR g u v) (hu' : VR g u' v') (he : maxV v v' = some r) : ∃ z, (Builtin.max2 u u').run P w = .ok z w ∧ VR g z r := by
  unfold maxV at he
  split at he
  · rename_i k x k' y
    cases hu.int_inv
    cases hu'.int_inv
    cases hk : decide (k = k') <;> rw [hk] at he
    · cases he
    · cases he
      exact ⟨_, rfl, .i _ _⟩
  · cases he
theorem foldV_sound {f : V → V → Option V} {F : Value → Value → Sem Value} (hf : ∀ {u u' : Value} {v v' r : V}, VR g u v → VR g u' v' → f v v' = some r → ∃ z, (F u u').run P w = .ok z w ∧ VR g z r) :
    ∀ {us : List Value} {vs : List V} {u : Value} {v r : V}, VR g u v → VRs g us vs → foldV f v vs = some r → ∃ z, (us.foldlM F u).run P w = .ok z w ∧ VR g z r
  | _, _, u, v, r, hu, .nil, he => by simp [foldV] at he; subst he; exact ⟨u, rfl, hu⟩
  | _, _, u, v, r, hu, .cons a b, he => by
    simp only [foldV] at he
    obtain ⟨q, hq, he⟩ := bnd_eq_some he
    obtain ⟨z, hz, hzr⟩ := hf hu a hq
    obtain ⟨z', hz', hr⟩ := foldV_sound hf hzr b he
    exact ⟨z', by simp only [List.foldlM_cons, Sem.run_bind, hz, Result.andThen_ok, hz'], hr⟩
end
end Go.Vm
