/- Code: blocks, loops. -/
import Derived.Test.YtphlgefkcghopaaVmD9
import Derived.LoopN
set_option linter.unusedVariables false
set_option linter.unusedSimpArgs false
namespace Go.Vm
attribute [local simp] evalOps_nil evalOps_cons evalOps_consg evalOp_mv evalOp_asg evalOp_pick evalOp_build evalOp_bslice evalOp_load evalOp_nilck evalOp_bin evalOp_un evalOp_conv evalOp_mkfn evalOp_slice evalOp_faddr evalOp_field evalOp_iaddr evalOp_index evalOp_lookup evalOp_extract evalOp_app evalOp_len evalOp_mn evalOp_mx evalOp_alloc evalOp_box evalOp_mkmap evalOp_store evalOp_mapupd evalOp_delete evalOp_sliceArr evalOp_call evalOp_callv evalOp_appc code_skip code_ops code_dops code_seq code_cond code_block code_exit code_ret finish_normal finish_ret
attribute [local simp] V.lt V.ltL V.flat V.pureCell V.pure V.isCell cellEq cellsEq eqV intV shV strV isShift binV unV byteV convV minV maxV foldV foldV1 fillV fillE findV putV delV isKey natOf natOr cut cellsAt mapAt mapOf loadV pickV nilckV sizeOk allSize sliceV faddrV fieldV iaddrV indexV found extractV allPure appV lenV ownHas ownOk storeC storeV samePtr appcV boxable mapupdV deleteV sliceArrV callV allLt clean bodyEnd resV one finishV runV initR

/-- What both know. -/
def meet1 (x y : Ows) : Ows := x.filterMap fun e => cnd (hasOwn e.1 e.2.1 e.2.2 y) (some e) (cnd (decide (e.2.2 = 0)) (y.find? fun f => decide (f.1 = e.1) && decide (f.2.1 = e.2.1)) none)
def meet : Option Ows → Option Ows → Option Ows
  | none, y => y
  | some x, none => some x
  | some x, some y => some (meet1 x y)
def meetExits (id : Nat) : Option Ows → List (Nat × Ows) → Option Ows
  | n, [] => n
  | n, (j, o) :: l => cnd (decide (j = id)) (meetExits id (meet n (some o)) l) (meetExits id n l)
def offExits (id : Nat) (l : List (Nat × Ows)) : List (Nat × Ows) := l.filter fun x => decide (x.1 ≠ id)
def hasAllOwn : Ows → Ows → Bool
  | [], _ => true
  | (r, o, z) :: l, m => hasOwn r o z m && hasAllOwn l m
structure CRes where
  nm : Option Ows
  ex : List (Nat × Ows)
  rt : List Ows
/-- A region whose order is open. -/
def dopsC (R : Nat → Option Nat) (c : Nat) (is : List VI) (S : Ows) : Option Ows :=
  bnd (Ow.steps R (is.drop c) (preOw c is S)) fun T => cnd T.pd.isNone (some T.own) none
/-- Each such region may be run in the order of the text. -/
def preC : Code → VCode → Bool
  | .region _ ops true, .dops c is _ => preOk c ops.toList is
  | .seq a b, .seq x y => preC a x && preC b y
  | .cond _ a b, .cond _ x y => preC a x && preC b y
  | .block _ b, .block _ x => preC b x
  | .loop b, .loop _ _ x => preC b x
  | _, _ => true
def codeC (R : Nat → Option Nat) : VCode → Ows → Option CRes
  | .skip, S => some ⟨some S, [], []⟩
  | .ops is _, S => bnd (Ow.steps R is ⟨S, [], [], none⟩) fun T => cnd T.pd.isNone (some ⟨some T.own, [], []⟩) none
  | .dops c is _, S => bnd (dopsC R c is S) fun T => some ⟨some T, [], []⟩
  | .seq x y, S => bnd (codeC R x S) fun p => match p.nm with
    | none => some p
    | some S1 => bnd (codeC R y S1) fun q => some ⟨q.nm, p.ex ++ q.ex, p.rt ++ q.rt⟩
  | .cond _ x y, S => bnd (codeC R x S) fun p => bnd (codeC R y S) fun q => some ⟨meet p.nm q.nm, p.ex ++ q.ex, p.rt ++ q.rt⟩
  | .block id x, S => bnd (codeC R x S) fun p => some ⟨meetExits id p.nm p.ex, offExits id p.ex, p.rt⟩
  | .loop _ own x, S => cnd (hasAllOwn own S) (bnd (codeC R x own) fun p => match p.nm with
    | none => some ⟨none, p.ex, p.rt⟩
    | some S1 => cnd (hasAllOwn own S1) (some ⟨none, p.ex, p.rt⟩) none) none
  | .exit id, S => some ⟨none, [(id, S)], []⟩
  | .ret, S => some ⟨none, [], [S]⟩

def dstOk (N : Nat) : List VI → Bool
  | [] => true
  | i :: is => (match i.dst with | some d => decide (d < N) | none => true) && dstOk N is
def dstC (N : Nat) : VCode → Bool
  | .ops is _ | .dops _ is _ => dstOk N is
  | .seq x y | .cond _ x y => dstC N x && dstC N y
  | .block _ x | .loop _ _ x => dstC N x
  | _ => true

def Wk (A B : Ows) : Prop := ∀ r o z, (r, o, z) ∈ A → ∃ z', (r, o, z') ∈ B ∧ (z' = z ∨ z' = 0)
theorem Wk.refl (A : Ows) : Wk A A := fun _ _ z h => ⟨z, h, .inl rfl⟩
theorem meet1_l {x y : Ows} : Wk (meet1 x y) x := fun r o z h => by
  simp only [meet1, List.mem_filterMap] at h
  obtain ⟨⟨r', o', z'⟩, hm, h⟩ := h
  simp only at h
  cases hh : hasOwn r' o' z' y <;> rw [hh] at h
  · simp only [cnd_false] at h
    obtain ⟨hz, h⟩ := cnd_eq_some h
    have hf := List.find?_some h
    simp only [Bool.and_eq_true, decide_eq_true_eq] at hf
    obtain ⟨rfl, rfl⟩ := hf
    exact ⟨z', hm, .inr (of_decide_eq_true hz)⟩
  · cases h; exact ⟨z, hm, .inl rfl⟩
theorem meet1_r {x y : Ows} : Wk (meet1 x y) y := fun r o z h => by
  simp only [meet1, List.mem_filterMap] at h
  obtain ⟨⟨r', o', z'⟩, hm, h⟩ := h
  simp only at h
  cases hh : hasOwn r' o' z' y <;> rw [hh] at h
  · simp only [cnd_false] at h
    obtain ⟨hz, h⟩ := cnd_eq_some h
    exact ⟨z, List.mem_of_find?_eq_some h, .inl rfl⟩
  · cases h; exact hasOwn_mem hh
theorem Wk.trans {A B C : Ows} (h1 : Wk A B) (h2 : Wk B C) : Wk A C := fun r o z h => by
  obtain ⟨z1, m1, e1⟩ := h1 r o z h
  obtain ⟨z2, m2, e2⟩ := h2 r o z1 m1
  refine ⟨z2, m2, ?_⟩
  rcases e2 with rfl | rfl
  · exact e1
  · exact .inr rfl
theorem meet_l {x : Ows} {y z : Option Ows} (h : meet (some x) y = z) : ∃ o, z = some o ∧ Wk o x := by
  cases y with
  | none => subst h; exact ⟨x, rfl, .refl x⟩
  | some y => subst h; exact ⟨_, rfl, meet1_l⟩
theorem meet_r {y : Ows} {x z : Option Ows} (h : meet x (some y) = z) : ∃ o, z = some o ∧ Wk o y := by
  cases x with
  | none => subst h; exact ⟨y, rfl, .refl y⟩
  | some x => subst h; exact ⟨_, rfl, meet1_r⟩
theorem meetExits_n {id : Nat} : ∀ (l : List (Nat × Ows)) {x : Ows}, ∃ o, meetExits id (some x) l = some o ∧ Wk o x
  | [], x => ⟨x, rfl, .refl x⟩
  | (j, y) :: l, x => by
    simp only [meetExits]
    cases hj : decide (j = id)
    · exact meetExits_n l
    · simp only [cnd_true]
      obtain ⟨o, ho, hw⟩ := meet_l (x := x) (y := some y) rfl
      rw [ho]
      obtain ⟨o', ho', hw'⟩ := meetExits_n l (x := o)
      exact ⟨o', ho', hw'.trans hw⟩
theorem meetExits_e {id : Nat} : ∀ (l : List (Nat × Ows)) {n : Option Ows} {x : Ows}, (id, x) ∈ l → ∃ o, meetExits id n l = some o ∧ Wk o x
  | [], n, x, h => by simp at h
  | (j, y) :: l, n, x, h => by
    simp only [meetExits]
    rcases List.mem_cons.1 h with e | h
    · cases e
      simp only [decide_true, cnd_true]
      obtain ⟨o, ho, hw⟩ := meet_r (x := n) (y := y) rfl
      rw [ho]
      obtain ⟨o', ho', hw'⟩ := meetExits_n (id := id) l (x := o)
      exact ⟨o', ho', hw'.trans hw⟩
    · cases hj : decide (j = id)
      · exact meetExits_e l h
      · exact meetExits_e l h
theorem hasAllOwn_wk {B : Ows} : ∀ {A : Ows}, hasAllOwn A B = true → Wk A B
  | [], _, r, o, z, h => by simp at h
  | (r', o', z') :: l, hh, r, o, z, h => by
    simp only [hasAllOwn, Bool.and_eq_true] at hh
    rcases List.mem_cons.1 h with e | h
    · cases e; exact hasOwn_mem hh.1
    · exact hasAllOwn_wk hh.2 r o z h

section
variable {P : Program} {R : Nat → Option Nat} {cx : Cx} {N : Nat} {hb0 : Heap}

theorem Inv.wk {A B : Ows} {rs : Regs} {h : Heap} {fl : Fl} {g : Gh} {a : Act} {w : World} (hi : Inv0 cx N hb0 B rs h fl g a w) (hw : Wk A B) : Inv0 cx N hb0 A rs h fl g a w := by
  obtain ⟨hO, hf⟩ := hi.own0 rfl
  refine ⟨hi.W, hi.G, ⟨none, hO.map (fun p q => p = q) (fun _ _ _ e1 e2 => e1.trans e2.symm) (fun p sz u hp => .inr ?_) (fun p q b e hn => e ▸ hn) (fun _ _ _ _ _ _ _ => ⟨⟨rfl, fun _ h => h⟩, fun _ h1 h2 => ⟨h1, h2⟩⟩), ⟨hf.al, hf.la, .inl ⟨rfl, rfl⟩⟩⟩, hi.F⟩
  cases p with
  | cell i j => exact ⟨_, sz, rfl, hp, .inl rfl⟩
  | reg r off =>
    obtain ⟨z', h1, h2⟩ := hw _ _ _ hp.1
    exact ⟨_, z', rfl, ⟨h1, hp.2⟩, h2⟩

def exOf : Ex → Exit
  | .normal => .normal
  | .exit id => .exit id
  | .ret => .ret
def Fits (cx : Cx) (N : Nat) (hb : Heap) (res : CRes) (ex : Ex) (st : St) (g : Gh) (a : Act) (w : World) : Prop :=
  match ex with
  | .normal => ∃ o, res.nm = some o ∧ Inv0 cx N hb o st.rs st.h st.fl g a w
  | .exit id => ∃ o, (id, o) ∈ res.ex ∧ Inv0 cx N hb o st.rs st.h st.fl g a w
  | .ret => ∃ o, o ∈ res.rt ∧ Inv0 cx N hb o st.rs st.h st.fl g a w
theorem dst_ok {ops : Array Oper} : ∀ {os : List Oper} {is is' : List VI}, trIs P ops os is' = some is → dstOk N is = true → ∀ o ∈ os, ∀ x, o.dst = some x → x < N
  | [], _, _, _, _, o, ho => by simp at ho
  | o :: os, is, [], h, _, _, _ => by cases h
  | o :: os, is, g0 :: gs, h, hd, o', ho => by
    intro x hx
    simp only [trIs] at h
    obtain ⟨i, h1, h⟩ := bnd_eq_some h
    obtain ⟨l, h2, h⟩ := bnd_eq_some h
    cases h
    simp only [dstOk, Bool.and_eq_true] at hd
    rcases List.mem_cons.1 ho with rfl | ho
    · simp only [trI] at h1
      obtain ⟨gd, _, h1⟩ := bnd_eq_some h1
      obtain ⟨op, _, h1⟩ := bnd_eq_some h1
      cases h1
      have := hd.1
      simp only [hx] at this
      exact of_decide_eq_true this
    · exact dst_ok h2 hd.2 o' ho x hx

theorem code_ok {C : Callee} (hC : FnOk P R C) (hm : P.follows .mixedOrders = true) {k : Nat} : ∀ (code : Code) (lit v : VCode) (hb : Heap) (own : Ows) (res : CRes) (st st' : St) (ex : Ex) (g : Gh) (a : Act) (w : World) (Q : Exit → Act → World → Prop),
    trCode P code lit = some v → preC code v = true → codeC R v own = some res → dstC N v = true → BaseLt hb → Inv0 cx N hb own st.rs st.h st.fl g a w → evalCode C (iterN k) cx.n0 v hb.length st = some (ex, st') →
    (∀ g' a' w', GLe g g' → Fits cx N hb res ex st' g' a' w' → Q (exOf ex) a' w') → code.wp P Q a w := by
  intro code
  induction code with
  | skip =>
    intro lit v hb own res st st' ex g a w Q htr hpre hc hd hbl hi he hQ
    cases lit <;> simp only [trCode, reduceCtorEq, Option.some.injEq] at htr
    subst htr
    cases hc
    cases he
    exact wp_skip (hQ g a w (GLe.refl g) ⟨own, rfl, hi⟩)
  | ret =>
    intro lit v hb own res st st' ex g a w Q htr hpre hc hd hbl hi he hQ
    cases lit <;> simp only [trCode, reduceCtorEq, Option.some.injEq] at htr
    subst htr
    cases hc
    cases he
    exact wp_ret (hQ g a w (GLe.refl g) ⟨own, by simp, hi⟩)
  | exit j =>
    intro lit v hb own res st st' ex g a w Q htr hpre hc hd hbl hi he hQ
    cases lit <;> simp only [trCode, reduceCtorEq, Option.some.injEq] at htr
    subst htr
    cases hc
    cases he
    exact wp_exit (hQ g a w (GLe.refl g) ⟨own, by simp, hi⟩)
  | region id ops draw =>
    intro lit v hb own res st st' ex g a w Q htr hpre hc hd hbl hi he hQ
    cases draw with
    | false =>
      cases lit <;> simp only [trCode, reduceCtorEq] at htr
      rename_i is live
      obtain ⟨l, hl, htr⟩ := bnd_eq_some htr
      cases htr
      simp only [codeC] at hc
      obtain ⟨T, hT, hc⟩ := bnd_eq_some hc
      obtain ⟨hpd, hc⟩ := cnd_eq_some hc
      cases hc
      simp only [evalCode] at he
      obtain ⟨r, hr, he⟩ := bnd_eq_some he
      cases he
      refine wp_region ?_
      have h1 := list_ok (ops := ops) hC (Q := Q) ops.toList l is 0 ⟨own, [], [], none⟩ T st.rs st.h st.fl g a w (fun j => by simp) hl hi hT (dst_ok hl hd) hr (fun g' a' w' hle hi' => hQ g' a' w' hle ⟨T.own, rfl, ?_⟩)
      · rw [List.range_eq_range']
        simpa using h1
      · have h2 : Inv0 cx N hb T.own r.1 r.2.1 r.2.2 g' a' w' := hi'.weaken (fun _ h => h) (fun _ h => by simp at h) (fun _ h => by simp at h) (Option.isNone_iff_eq_none.1 hpd).symm
        exact h2.keep
    | true =>
      cases lit <;> simp only [trCode, reduceCtorEq] at htr
      rename_i cl is live
      obtain ⟨l, hl, htr⟩ := bnd_eq_some htr
      cases htr
      simp only [codeC] at hc
      obtain ⟨T1, hT, hc⟩ := bnd_eq_some hc
      cases hc
      unfold dopsC at hT
      obtain ⟨T, hT2, hx⟩ := bnd_eq_some hT
      clear hT
      obtain ⟨hpd, hx⟩ := cnd_eq_some hx
      cases hx
      simp only [evalCode] at he
      obtain ⟨⟨rs', h', fl'⟩, hr, he⟩ := bnd_eq_some he
      cases he
      refine dops_ok hC hm hl hpre hT2 (dst_ok hl hd) hi hr fun g' a' w' hle hi' => hQ g' a' w' hle ⟨T.own, rfl, ?_⟩
      have h2 : Inv0 cx N hb T.own rs' h' fl' g' a' w' := hi'.weaken (fun _ h => h) (fun _ h => by simp at h) (fun _ h => by simp at h) (Option.isNone_iff_eq_none.1 hpd).symm
      exact h2.keep
  | seq x y ihx ihy =>
    intro lit v hb own res st st' ex g a w Q htr hpre hc hd hbl hi he hQ
    cases lit <;> simp only [trCode, reduceCtorEq] at htr
    obtain ⟨vx, hx, htr⟩ := bnd_eq_some htr
    obtain ⟨vy, hy, htr⟩ := bnd_eq_some htr
    cases htr
    simp only [codeC] at hc
    obtain ⟨p, hp, hc⟩ := bnd_eq_some hc
    simp only [dstC, Bool.and_eq_true] at hd
    simp only [preC, Bool.and_eq_true] at hpre
    simp only [evalCode] at he
    obtain ⟨⟨e1, st1⟩, hr, he⟩ := bnd_eq_some he
    refine wp_seq (ihx _ vx hb own p st st1 e1 g a w _ hx hpre.1 hp hd.1 hbl hi hr fun g1 a1 w1 hle1 hf => ?_)
    cases e1 with
    | normal =>
      obtain ⟨o1, ho1, hi1⟩ := hf
      rw [ho1] at hc
      obtain ⟨q, hq, hc⟩ := bnd_eq_some hc
      cases hc
      refine ihy _ vy hb o1 q st1 st' ex g1 a1 w1 Q hy hpre.2 hq hd.2 hbl hi1 he fun g' a' w' hle hf' => hQ g' a' w' (hle1.trans hle) ?_
      cases ex with
      | normal => exact hf'
      | exit id => obtain ⟨o, h1, h2⟩ := hf'; exact ⟨o, by simp [h1], h2⟩
      | ret => obtain ⟨o, h1, h2⟩ := hf'; exact ⟨o, by simp [h1], h2⟩
    | exit id =>
      cases he
      obtain ⟨o1, ho1, hi1⟩ := hf
      refine hQ g1 a1 w1 hle1 ⟨o1, ?_, hi1⟩
      split at hc
      · cases hc; exact ho1
      · obtain ⟨q, hq, hc⟩ := bnd_eq_some hc
        cases hc
        simp [ho1]
    | ret =>
      cases he
      obtain ⟨o1, ho1, hi1⟩ := hf
      refine hQ g1 a1 w1 hle1 ⟨o1, ?_, hi1⟩
      split at hc
      · cases hc; exact ho1
      · obtain ⟨q, hq, hc⟩ := bnd_eq_some hc
        cases hc
        simp [ho1]
  | cond c x y ihx ihy =>
    intro lit v hb own res st st' ex g a w Q htr hpre hc hd hbl hi he hQ
    cases lit <;> simp only [trCode, reduceCtorEq] at htr
    obtain ⟨vc, hvc, htr⟩ := bnd_eq_some htr
    obtain ⟨vx, hx, htr⟩ := bnd_eq_some htr
    obtain ⟨vy, hy, htr⟩ := bnd_eq_some htr
    cases htr
    simp only [codeC] at hc
    obtain ⟨p, hp, hc⟩ := bnd_eq_some hc
    obtain ⟨q, hq, hc⟩ := bnd_eq_some hc
    cases hc
    simp only [dstC, Bool.and_eq_true] at hd
    simp only [preC, Bool.and_eq_true] at hpre
    simp only [evalCode] at he
    obtain ⟨t, ht, he⟩ := bnd_eq_some he
    have hcv := trArg_sound hi.F.regs hvc
    unfold condV at ht
    split at ht
    · rename_i t' hct
      cases ht
      rw [hct] at hcv
      refine wp_cond hcv.bool_inv ?_
      cases t with
      | true =>
        refine ihx _ vx hb own p st st' ex g a w Q hx hpre.1 hp hd.1 hbl hi he fun g' a' w' hle hf' => hQ g' a' w' hle ?_
        cases ex with
        | normal =>
          obtain ⟨o, h1, h2⟩ := hf'
          obtain ⟨o', h3, h4⟩ := meet_l (x := o) (y := q.nm) rfl
          exact ⟨o', by rw [h1]; exact h3, h2.wk h4⟩
        | exit id => obtain ⟨o, h1, h2⟩ := hf'; exact ⟨o, by simp [h1], h2⟩
        | ret => obtain ⟨o, h1, h2⟩ := hf'; exact ⟨o, by simp [h1], h2⟩
      | false =>
        refine ihy _ vy hb own q st st' ex g a w Q hy hpre.2 hq hd.2 hbl hi he fun g' a' w' hle hf' => hQ g' a' w' hle ?_
        cases ex with
        | normal =>
          obtain ⟨o, h1, h2⟩ := hf'
          obtain ⟨o', h3, h4⟩ := meet_r (y := o) (x := p.nm) rfl
          exact ⟨o', by rw [h1]; exact h3, h2.wk h4⟩
        | exit id => obtain ⟨o, h1, h2⟩ := hf'; exact ⟨o, by simp [h1], h2⟩
        | ret => obtain ⟨o, h1, h2⟩ := hf'; exact ⟨o, by simp [h1], h2⟩
    · cases ht
  | block id x ihx =>
    intro lit v hb own res st st' ex g a w Q htr hpre hc hd hbl hi he hQ
    cases lit <;> simp only [trCode, reduceCtorEq] at htr
    obtain ⟨vx, hx, htr⟩ := bnd_eq_some htr
    cases htr
    simp only [codeC] at hc
    obtain ⟨p, hp, hc⟩ := bnd_eq_some hc
    cases hc
    simp only [evalCode] at he
    obtain ⟨⟨e1, st1⟩, hr, he⟩ := bnd_eq_some he
    refine wp_block (ihx _ vx hb own p st st1 e1 g a w _ hx hpre hp hd hbl hi hr fun g1 a1 w1 hle1 hf => ?_)
    cases e1 with
    | normal =>
      cases he
      obtain ⟨o, h1, h2⟩ := hf
      obtain ⟨o', h3, h4⟩ := meetExits_n (id := id) p.ex (x := o)
      exact hQ g1 a1 w1 hle1 ⟨o', by show meetExits id p.nm p.ex = _; rw [h1]; exact h3, h2.wk h4⟩
    | exit j =>
      obtain ⟨o, h1, h2⟩ := hf
      simp only [exOf, Exit.inBlock]
      by_cases hj : j = id
      · subst hj
        simp only [Ex.isExit, decide_true, cnd_true, Option.some.injEq] at he
        cases he
        obtain ⟨o', h3, h4⟩ := meetExits_e (n := p.nm) p.ex h1
        rw [if_pos rfl]
        exact hQ g1 a1 w1 hle1 ⟨o', h3, h2.wk h4⟩
      · simp only [Ex.isExit, hj, decide_false, cnd_false, Option.some.injEq] at he
        cases he
        rw [if_neg hj]
        exact hQ g1 a1 w1 hle1 ⟨o, by simp [offExits, h1, hj], h2⟩
    | ret =>
      cases he
      exact hQ g1 a1 w1 hle1 hf
  | loop x ihx =>
    intro lit v hb own res st st' ex g a w Q htr hpre hc hd hbl hi he hQ
    cases lit <;> simp only [trCode, reduceCtorEq] at htr
    rename_i live lown lx
    obtain ⟨vx, hx, htr⟩ := bnd_eq_some htr
    cases htr
    simp only [codeC] at hc
    obtain ⟨hown, hc⟩ := cnd_eq_some hc
    obtain ⟨p, hp, hc⟩ := bnd_eq_some hc
    simp only [evalCode] at he
    refine wp_loop_rounds k ?_
    have hres : res.ex = p.ex ∧ res.rt = p.rt ∧ ∀ o, p.nm = some o → Wk lown o := by
      split at hc
      · rename_i hn
        cases hc
        exact ⟨rfl, rfl, fun o ho => by rw [hn] at ho; cases ho⟩
      · rename_i S1 hn
        obtain ⟨h1, hc⟩ := cnd_eq_some hc
        cases hc
        exact ⟨rfl, rfl, fun o ho => by rw [hn] at ho; cases ho; exact hasAllOwn_wk h1⟩
    have key : ∀ (m : Nat) (s : St) (g1 : Gh) (a1 : Act) (w1 : World), GLe g g1 → Inv0 cx N hb lown s.rs s.h s.fl g1 a1 w1 →
        iterN m (fun s => bnd (evalCode C (iterN k) cx.n0 vx s.h.length ⟨s.rs, s.h, ⟨s.fl.wr, false⟩⟩) (bodyEnd s.h.length live s.fl.esc)) s = some (ex, st') → Code.rounds P x Q m a1 w1 := by
      intro m
      induction m with
      | zero => intro s g1 a1 w1 _ _ hm; cases hm
      | succ m ihm =>
        intro s g1 a1 w1 hle1 hi1 hm
        simp only [iterN] at hm
        obtain ⟨q, hq, hm⟩ := bnd_eq_some hm
        obtain ⟨⟨e2, s2⟩, hq2, hq⟩ := bnd_eq_some hq
        rw [rounds_succ]
        refine ihx _ vx s.h lown p ⟨s.rs, s.h, ⟨s.fl.wr, false⟩⟩ s2 e2 g1 a1 w1 _ hx hpre hp hd hi1.G.baseLt hi1.rebase hq2 fun g2 a2 w2 hle2 hf => ?_
        cases e2 with
        | normal =>
          obtain ⟨o, h1, h2⟩ := hf
          have h3 := (h2.wk (hres.2.2 o h1)).keep (live := live)
          obtain ⟨g3, hle3, h4⟩ := h3.clean hi1.frm hi1.G.baseLt (g0 := g1) hi1.G.dom hle2
          cases hq
          exact ihm _ g3 a2 w2 (hle1.trans hle3) h4 hm
        | exit j =>
          cases hq
          cases hm
          obtain ⟨o, h1, h2⟩ := hf
          exact hQ g2 a2 w2 (hle1.trans hle2) ⟨o, by rw [hres.1]; exact h1, h2.unbase hi1.frm⟩
        | ret =>
          cases hq
          cases hm
          obtain ⟨o, h1, h2⟩ := hf
          exact hQ g2 a2 w2 (hle1.trans hle2) ⟨o, by rw [hres.2.1]; exact h1, h2.unbase hi1.frm⟩
    exact key k st g a w (GLe.refl g) (hi.wk (hasAllOwn_wk hown)) he
  | _ =>
    intro lit v hb own res st st' ex g a w Q htr hpre hc hd hbl hi he hQ
    cases lit <;> simp only [trCode, reduceCtorEq] at htr
end
end Go.Vm
