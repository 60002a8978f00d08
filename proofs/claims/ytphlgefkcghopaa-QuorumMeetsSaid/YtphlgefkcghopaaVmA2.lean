/- The V-machine without a bound on rounds and calls: what some number of rounds yields. -/
import Derived.Test.YtphlgefkcghopaaVmA
set_option linter.unusedVariables false
set_option linter.unusedSimpArgs false
namespace Go.Vm
attribute [local simp] evalOps_nil evalOps_cons evalOps_consg evalOp_mv evalOp_asg evalOp_pick evalOp_build evalOp_bslice evalOp_load evalOp_nilck evalOp_bin evalOp_un evalOp_conv evalOp_mkfn evalOp_slice evalOp_faddr evalOp_field evalOp_iaddr evalOp_index evalOp_lookup evalOp_extract evalOp_app evalOp_len evalOp_mn evalOp_mx evalOp_alloc evalOp_box evalOp_mkmap evalOp_store evalOp_mapupd evalOp_delete evalOp_sliceArr evalOp_call evalOp_callv evalOp_appc code_skip code_ops code_dops code_seq code_cond code_block code_exit code_ret finish_normal finish_ret
attribute [local simp] V.lt V.ltL V.flat V.pureCell V.pure V.isCell cellEq cellsEq eqV intV shV strV isShift binV unV byteV convV minV maxV foldV foldV1 fillV fillE findV putV delV isKey natOf natOr cut cellsAt mapAt mapOf loadV pickV nilckV sizeOk allSize sliceV faddrV fieldV iaddrV indexV found extractV allPure appV lenV ownHas ownOk storeC storeV samePtr appcV boxable mapupdV deleteV sliceArrV callV allLt clean bodyEnd resV one finishV runV initR

def CLe (C C' : Callee) : Prop := ∀ f a h r, C f a h = some r → C' f a h = some r
def LLe (L L' : Looper) : Prop := ∀ b b' st r, (∀ s q, b s = some q → b' s = some q) → L b st = some r → L' b' st = some r

theorem callV_mono {C C' : Callee} (hC : CLe C C') {h : Heap} {args : List V} {x : V} {r} (hr : callV C h args x = some r) : callV C' h args x = some r := by
  cases x <;> first | exact hC _ _ _ _ hr | cases hr

theorem evalOp_mono {C C' : Callee} (hC : CLe C C') {fb lb : Nat} {rs : Regs} {h : Heap} {o : VOp} {r} (hr : evalOp C fb lb rs h o = some r) : evalOp C' fb lb rs h o = some r := by
  cases o <;> first
    | exact hr
    | (simp only [evalOp] at hr ⊢; obtain ⟨q, hq, hr⟩ := bnd_eq_some hr; (first | rw [hC _ _ _ _ hq, bnd_some] | rw [callV_mono hC hq, bnd_some]); exact hr)

theorem evalOps_mono {C C' : Callee} (hC : CLe C C') {fb lb : Nat} : ∀ (is : List VI) {rs : Regs} {h : Heap} {fl : Fl} {r}, evalOps C fb lb is rs h fl = some r → evalOps C' fb lb is rs h fl = some r
  | [], _, _, _, _, hr => hr
  | i :: is, rs, h, fl, r, hr => by
    simp only [evalOps] at hr ⊢
    obtain ⟨b, hb, hr⟩ := bnd_eq_some hr
    rw [hb, bnd_some]
    cases b
    · exact evalOps_mono hC is hr
    · simp only [cnd_true] at hr ⊢
      obtain ⟨q, hq, hr⟩ := bnd_eq_some hr
      rw [evalOp_mono hC hq, bnd_some]
      exact evalOps_mono hC is hr

theorem evalCode_mono {C C' : Callee} {L L' : Looper} (hC : CLe C C') (hL : LLe L L') : ∀ (c : VCode) {fb lb : Nat} {st : St} {r}, evalCode C L fb c lb st = some r → evalCode C' L' fb c lb st = some r
  | .skip, _, _, _, _, hr => hr
  | .exit _, _, _, _, _, hr => hr
  | .ret, _, _, _, _, hr => hr
  | .ops is live, fb, lb, st, r, hr => by
    simp only [evalCode] at hr ⊢
    obtain ⟨q, hq, hr⟩ := bnd_eq_some hr
    rw [evalOps_mono hC is hq, bnd_some]; exact hr
  | .dops c is live, fb, lb, st, r, hr => by
    simp only [evalCode] at hr ⊢
    obtain ⟨q, hq, hr⟩ := bnd_eq_some hr
    rw [evalOps_mono hC is hq, bnd_some]; exact hr
  | .seq a b, fb, lb, st, r, hr => by
    simp only [evalCode] at hr ⊢
    obtain ⟨q, hq, hr⟩ := bnd_eq_some hr
    rw [evalCode_mono hC hL a hq, bnd_some]
    cases hn : q.1.isNormal <;> rw [hn] at hr
    · exact hr
    · exact evalCode_mono hC hL b hr
  | .cond c a b, fb, lb, st, r, hr => by
    simp only [evalCode] at hr ⊢
    obtain ⟨q, hq, hr⟩ := bnd_eq_some hr
    rw [hq, bnd_some]
    cases q
    · exact evalCode_mono hC hL b hr
    · exact evalCode_mono hC hL a hr
  | .block id b, fb, lb, st, r, hr => by
    simp only [evalCode] at hr ⊢
    obtain ⟨q, hq, hr⟩ := bnd_eq_some hr
    rw [evalCode_mono hC hL b hq, bnd_some]; exact hr
  | .loop live own b, fb, lb, st, r, hr => by
    simp only [evalCode] at hr ⊢
    refine hL _ _ _ _ (fun s q hq => ?_) hr
    obtain ⟨p, hp, hq⟩ := bnd_eq_some hq
    rw [evalCode_mono hC hL b hp, bnd_some]; exact hq

theorem runV_mono {C C' : Callee} {L L' : Looper} (hC : CLe C C') (hL : LLe L L') {fn : VFun} {a : List V} {h : Heap} {r} (hr : runV C L fn a h = some r) : runV C' L' fn a h = some r := by
  unfold runV at hr ⊢
  cases hd : decide (a.length = fn.params) <;> rw [hd] at hr
  · cases hr
  · simp only [cnd_true] at hr ⊢
    obtain ⟨q, hq, hr⟩ := bnd_eq_some hr
    rw [evalCode_mono hC hL _ hq, bnd_some]; exact hr
theorem runFn_mono {E : Env} {C C' : Callee} {L L' : Looper} (hC : CLe C C') (hL : LLe L L') {f : Nat} {a : List V} {h : Heap} {r} (hr : runFn E C L f a h = some r) : runFn E C' L' f a h = some r := by
  unfold runFn at hr ⊢
  cases hp : E.prim f with
  | some p => rw [hp] at hr; exact hr
  | none =>
    rw [hp] at hr
    cases hf : E.fn f with
    | none => rw [hf] at hr; cases hr
    | some fn => rw [hf] at hr; exact runV_mono hC hL hr

theorem iterN_mono : ∀ {n m : Nat}, n ≤ m → LLe (iterN n) (iterN m)
  | 0, _, _ => fun _ _ _ _ _ hr => by cases hr
  | n + 1, 0, h => by omega
  | n + 1, m + 1, h => fun b b' st r hb hr => by
    simp only [iterN] at hr ⊢
    obtain ⟨q, hq, hr⟩ := bnd_eq_some hr
    rw [hb _ _ hq, bnd_some]
    cases hn : q.1.isNormal <;> rw [hn] at hr
    · exact hr
    · exact iterN_mono (by omega) b b' q.2 r hb hr

theorem evalFn_mono {E : Env} : ∀ {n m : Nat}, n ≤ m → CLe (evalFn E n) (evalFn E m)
  | 0, _, _ => fun _ _ _ _ hr => by cases hr
  | n + 1, 0, h => by omega
  | n + 1, m + 1, h => fun _ _ _ _ hr => runFn_mono (evalFn_mono (by omega)) (iterN_mono (by omega)) hr

open Classical in
/-- What some number of rounds yields. -/
noncomputable def callL (E : Env) : Callee := fun f a h => if x : ∃ n r, evalFn E n f a h = some r then some x.choose_spec.choose else none
open Classical in
noncomputable def loopL : Looper := fun b st => if x : ∃ n r, iterN n b st = some r then some x.choose_spec.choose else none

theorem callL_iff {E : Env} {f : Nat} {a : List V} {h : Heap} {r} : callL E f a h = some r ↔ ∃ n, evalFn E n f a h = some r := by
  unfold callL
  constructor
  · intro hr
    split at hr
    · rename_i x
      cases hr
      exact ⟨_, x.choose_spec.choose_spec⟩
    · cases hr
  · rintro ⟨n, hn⟩
    have x : ∃ n r, evalFn E n f a h = some r := ⟨n, r, hn⟩
    rw [dif_pos x]
    have h1 := x.choose_spec.choose_spec
    have h2 := evalFn_mono (Nat.le_max_left n x.choose) _ _ _ _ hn
    have h3 := evalFn_mono (Nat.le_max_right n x.choose) _ _ _ _ h1
    rw [h2] at h3
    exact h3.symm
theorem loopL_iff {b : St → Option (Ex × St)} {st : St} {r} : loopL b st = some r ↔ ∃ n, iterN n b st = some r := by
  unfold loopL
  constructor
  · intro hr
    split at hr
    · rename_i x
      cases hr
      exact ⟨_, x.choose_spec.choose_spec⟩
    · cases hr
  · rintro ⟨n, hn⟩
    have x : ∃ n r, iterN n b st = some r := ⟨n, r, hn⟩
    rw [dif_pos x]
    have h1 := x.choose_spec.choose_spec
    have h2 := iterN_mono (Nat.le_max_left n x.choose) b b _ _ (fun _ _ h => h) hn
    have h3 := iterN_mono (Nat.le_max_right n x.choose) b b _ _ (fun _ _ h => h) h1
    rw [h2] at h3
    exact h3.symm

theorem callL_le (E : Env) (n : Nat) : CLe (evalFn E n) (callL E) := fun _ _ _ _ hr => callL_iff.2 ⟨n, hr⟩
theorem loopL_le (n : Nat) : LLe (iterN n) loopL := fun _ _ _ _ hb hr => loopL_iff.2 ⟨n, iterN_mono (Nat.le_refl n) _ _ _ _ hb hr⟩

/-! ### a finite number of rounds is enough for each piece -/
section
variable {E : Env}
theorem callV_cont {h : Heap} {args : List V} {x : V} {r} (hr : callV (callL E) h args x = some r) : ∃ n, callV (evalFn E n) h args x = some r := by
  cases x <;> first | exact callL_iff.1 hr | cases hr
theorem evalOp_cont {fb lb : Nat} {rs : Regs} {h : Heap} {o : VOp} {r} (hr : evalOp (callL E) fb lb rs h o = some r) : ∃ n, evalOp (evalFn E n) fb lb rs h o = some r := by
  cases o <;> first
    | exact ⟨0, hr⟩
    | (simp only [evalOp] at hr ⊢; obtain ⟨q, hq, hr⟩ := bnd_eq_some hr
       first
       | (obtain ⟨n, hn⟩ := callL_iff.1 hq; exact ⟨n, by rw [hn, bnd_some]; exact hr⟩)
       | (obtain ⟨n, hn⟩ := callV_cont hq; exact ⟨n, by rw [hn, bnd_some]; exact hr⟩))
theorem evalOps_cont {fb lb : Nat} : ∀ (is : List VI) {rs : Regs} {h : Heap} {fl : Fl} {r}, evalOps (callL E) fb lb is rs h fl = some r → ∃ n, evalOps (evalFn E n) fb lb is rs h fl = some r
  | [], _, _, _, _, hr => ⟨0, hr⟩
  | i :: is, rs, h, fl, r, hr => by
    simp only [evalOps] at hr ⊢
    obtain ⟨b, hb, hr⟩ := bnd_eq_some hr
    simp only [hb, bnd_some]
    cases b
    · exact evalOps_cont is hr
    · simp only [cnd_true] at hr ⊢
      obtain ⟨q, hq, hr⟩ := bnd_eq_some hr
      obtain ⟨n1, h1⟩ := evalOp_cont hq
      obtain ⟨n2, h2⟩ := evalOps_cont is hr
      refine ⟨max n1 n2, ?_⟩
      rw [evalOp_mono (evalFn_mono (Nat.le_max_left _ _)) h1, bnd_some]
      exact evalOps_mono (evalFn_mono (Nat.le_max_right _ _)) is h2
theorem iter_cont {bb : Nat → St → Option (Ex × St)} {b : St → Option (Ex × St)} (hm : ∀ n m, n ≤ m → ∀ s q, bb n s = some q → bb m s = some q)
    (hb : ∀ s q, b s = some q → ∃ n, bb n s = some q) : ∀ (k : Nat) {st : St} {r}, iterN k b st = some r → ∃ n, iterN n (bb n) st = some r
  | 0, _, _, hr => by cases hr
  | k + 1, st, r, hr => by
    simp only [iterN] at hr
    obtain ⟨q, hq, hr⟩ := bnd_eq_some hr
    obtain ⟨n1, h1⟩ := hb _ _ hq
    cases hn : q.1.isNormal <;> rw [hn] at hr
    · refine ⟨n1 + 1, ?_⟩
      simp only [iterN]
      rw [hm n1 (n1 + 1) (by omega) _ _ h1, bnd_some, hn]
      exact hr
    · obtain ⟨n2, h2⟩ := iter_cont hm hb k hr
      refine ⟨max n1 n2 + 1, ?_⟩
      simp only [iterN]
      rw [hm n1 (max n1 n2 + 1) (by omega) _ _ h1, bnd_some, hn, cnd_true]
      exact iterN_mono (n := n2) (m := max n1 n2) (by omega) _ _ _ _ (hm n2 (max n1 n2 + 1) (by omega)) h2

theorem evalCode_cont : ∀ (c : VCode) {fb lb : Nat} {st : St} {r}, evalCode (callL E) loopL fb c lb st = some r → ∃ n, evalCode (evalFn E n) (iterN n) fb c lb st = some r
  | .skip, _, _, _, _, hr => ⟨0, hr⟩
  | .exit _, _, _, _, _, hr => ⟨0, hr⟩
  | .ret, _, _, _, _, hr => ⟨0, hr⟩
  | .ops is live, fb, lb, st, r, hr => by
    simp only [evalCode] at hr ⊢
    obtain ⟨q, hq, hr⟩ := bnd_eq_some hr
    obtain ⟨n, hn⟩ := evalOps_cont is hq
    exact ⟨n, by rw [hn, bnd_some]; exact hr⟩
  | .dops c is live, fb, lb, st, r, hr => by
    simp only [evalCode] at hr ⊢
    obtain ⟨q, hq, hr⟩ := bnd_eq_some hr
    obtain ⟨n, hn⟩ := evalOps_cont is hq
    exact ⟨n, by rw [hn, bnd_some]; exact hr⟩
  | .seq a b, fb, lb, st, r, hr => by
    simp only [evalCode] at hr ⊢
    obtain ⟨q, hq, hr⟩ := bnd_eq_some hr
    obtain ⟨n1, h1⟩ := evalCode_cont a hq
    cases hn : q.1.isNormal <;> rw [hn] at hr
    · exact ⟨n1, by rw [h1, bnd_some, hn]; exact hr⟩
    · obtain ⟨n2, h2⟩ := evalCode_cont b hr
      refine ⟨max n1 n2, ?_⟩
      rw [evalCode_mono (evalFn_mono (Nat.le_max_left _ _)) (iterN_mono (Nat.le_max_left _ _)) a h1, bnd_some, hn, cnd_true]
      exact evalCode_mono (evalFn_mono (Nat.le_max_right _ _)) (iterN_mono (Nat.le_max_right _ _)) b h2
  | .cond c a b, fb, lb, st, r, hr => by
    simp only [evalCode] at hr ⊢
    obtain ⟨q, hq, hr⟩ := bnd_eq_some hr
    simp only [hq, bnd_some]
    cases q
    · exact evalCode_cont b hr
    · exact evalCode_cont a hr
  | .block id b, fb, lb, st, r, hr => by
    simp only [evalCode] at hr ⊢
    obtain ⟨q, hq, hr⟩ := bnd_eq_some hr
    obtain ⟨n, hn⟩ := evalCode_cont b hq
    exact ⟨n, by rw [hn, bnd_some]; exact hr⟩
  | .loop live own b, fb, lb, st, r, hr => by
    simp only [evalCode] at hr ⊢
    obtain ⟨k, hk⟩ := loopL_iff.1 hr
    refine iter_cont (bb := fun n s => bnd (evalCode (evalFn E n) (iterN n) fb b s.h.length ⟨s.rs, s.h, ⟨s.fl.wr, false⟩⟩) (bodyEnd s.h.length live s.fl.esc)) (fun n m hnm s q hq => ?_) (fun s q hq => ?_) k hk
    · obtain ⟨p, hp, hq⟩ := bnd_eq_some hq
      rw [evalCode_mono (evalFn_mono hnm) (iterN_mono hnm) b hp, bnd_some]; exact hq
    · obtain ⟨p, hp, hq⟩ := bnd_eq_some hq
      obtain ⟨n, hn⟩ := evalCode_cont b hp
      exact ⟨n, by rw [hn, bnd_some]; exact hq⟩

theorem runFn_cont {f : Nat} {a : List V} {h : Heap} {r} (hr : runFn E (callL E) loopL f a h = some r) : ∃ n, runFn E (evalFn E n) (iterN n) f a h = some r := by
  unfold runFn at hr ⊢
  cases hp : E.prim f with
  | some p => simp only [hp] at hr ⊢; exact ⟨0, hr⟩
  | none =>
    simp only [hp] at hr ⊢
    cases hf : E.fn f with
    | none => simp only [hf] at hr; cases hr
    | some fn =>
      simp only [hf] at hr ⊢
      unfold runV at hr ⊢
      cases hd : decide (a.length = fn.params) <;> rw [hd] at hr
      · cases hr
      · simp only [cnd_true] at hr ⊢
        obtain ⟨q, hq, hr⟩ := bnd_eq_some hr
        obtain ⟨n, hn⟩ := evalCode_cont _ hq
        exact ⟨n, by rw [hn, bnd_some]; exact hr⟩

/-- A call yields what its body yields. -/
theorem callL_eq {f : Nat} {a : List V} {h : Heap} {r} (hr : runFn E (callL E) loopL f a h = some r) : callL E f a h = some r := by
  obtain ⟨n, hn⟩ := runFn_cont hr
  exact callL_iff.2 ⟨n + 1, hn⟩
theorem callL_of {f : Nat} {fn : VFun} (hp : E.prim f = none) (hf : E.fn f = some fn) {a : List V} {h : Heap} {r} (hr : runV (callL E) loopL fn a h = some r) : callL E f a h = some r :=
  callL_eq (by unfold runFn; rw [hp, hf]; exact hr)
theorem callL_prim {f : Nat} {p} (hp : E.prim f = some p) {a : List V} {h : Heap} {r} (hr : p a h = some r) : callL E f a h = some r :=
  callL_eq (by unfold runFn; rw [hp]; exact hr)
end

/-- One more round. -/
theorem loopL_next {b : St → Option (Ex × St)} {st : St} {e : Ex} {st' : St} (hb : b st = some (e, st')) (hn : e.isNormal = true) {r} (hr : loopL b st' = some r) : loopL b st = some r := by
  obtain ⟨n, h⟩ := loopL_iff.1 hr
  exact loopL_iff.2 ⟨n + 1, by simp only [iterN]; rw [hb, bnd_some, hn]; exact h⟩
theorem loopL_done {b : St → Option (Ex × St)} {st : St} {e : Ex} {st' : St} (hb : b st = some (e, st')) (hn : e.isNormal = false) : loopL b st = some (e, st') :=
  loopL_iff.2 ⟨1, by simp only [iterN]; rw [hb, bnd_some, hn]; rfl⟩
end Go.Vm
