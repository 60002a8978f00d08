/- A region whose order is open: what may stand in it, in which order; what an operation reads. -/
import Derived.Test.YtphlgefkcghopaaVmC13
import Derived.Orders
set_option linter.unusedVariables false
set_option linter.unusedSimpArgs false
namespace Go.Vm
attribute [local simp] evalOps_nil evalOps_cons evalOps_consg evalOp_mv evalOp_asg evalOp_pick evalOp_build evalOp_bslice evalOp_load evalOp_nilck evalOp_bin evalOp_un evalOp_conv evalOp_mkfn evalOp_slice evalOp_faddr evalOp_field evalOp_iaddr evalOp_index evalOp_lookup evalOp_extract evalOp_app evalOp_len evalOp_mn evalOp_mx evalOp_alloc evalOp_box evalOp_mkmap evalOp_store evalOp_mapupd evalOp_delete evalOp_sliceArr evalOp_call evalOp_callv evalOp_appc code_skip code_ops code_dops code_seq code_cond code_block code_exit code_ret finish_normal finish_ret
attribute [local simp] V.lt V.ltL V.flat V.pureCell V.pure V.isCell cellEq cellsEq eqV intV shV strV isShift binV unV byteV convV minV maxV foldV foldV1 fillV fillE findV putV delV isKey natOf natOr cut cellsAt mapAt mapOf loadV pickV nilckV sizeOk allSize sliceV faddrV fieldV iaddrV indexV found extractV allPure appV lenV ownHas ownOk storeC storeV samePtr appcV boxable mapupdV deleteV sliceArrV callV allLt clean bodyEnd resV one finishV runV initR

def argRegs : Arg → List Nat
  | .r n => [n]
  | .c _ => []
def argsRegs : List Arg → List Nat
  | [] => []
  | x :: xs => argRegs x ++ argsRegs xs
def optRegs : Option Arg → List Nat
  | none => []
  | some x => argRegs x
def partsRegs : List (Nat × Nat × Arg) → List Nat
  | [] => []
  | (_, _, x) :: l => argRegs x ++ partsRegs l
def elemsRegs : List (Nat × Arg) → List Nat
  | [] => []
  | (_, x) :: l => argRegs x ++ elemsRegs l
/-- The registers that an operation reads; none: it may not stand where the order is open. -/
def readsOf : VOp → Option (List Nat)
  | .mv x => some (argRegs x)
  | .pick c a b => some (argRegs c ++ (argRegs a ++ argRegs b))
  | .build _ ps => some (partsRegs ps)
  | .bslice _ _ _ ps => cnd (incrFrom 0 ps) (some (elemsRegs ps)) none
  | .load _ _ a => some (argRegs a)
  | .nilck x => some (argRegs x)
  | .bin _ _ x y => some (argRegs x ++ argRegs y)
  | .un _ x => some (argRegs x)
  | .conv .bytesOfStr _ => none
  | .conv _ x => some (argRegs x)
  | .mkfn _ x y => some (argsRegs x ++ argsRegs y)
  | .slice _ _ x lo hi mx => some (argRegs x ++ (optRegs lo ++ (optRegs hi ++ optRegs mx)))
  | .faddr _ x => some (argRegs x)
  | .field _ _ _ x => some (argRegs x)
  | .iaddr _ _ x i => some (argRegs x ++ argRegs i)
  | .index _ _ _ _ x i => some (argRegs x ++ argRegs i)
  | .lookup _ _ _ m k => some (argRegs m ++ argRegs k)
  | .extract _ x => some (argRegs x)
  | .call true _ as => some (argsRegs as)
  | .callv true x as => some (argRegs x ++ argsRegs as)
  | .app .fresh _ _ s x => cnd (isNilArg s) (some (argRegs x)) none
  | .app (.reg p) _ _ (.r t) x => cnd (decide (t = p)) (some (p :: argRegs x)) none
  | .len _ x => some (argRegs x)
  | .mn xs => some (argsRegs xs)
  | .mx xs => some (argsRegs xs)
  | _ => none

section
variable {rs rs' : Regs}
theorem val_congr {x : Arg} (h : ∀ r ∈ argRegs x, get rs r = get rs' r) : x.val rs = x.val rs' := by
  cases x with
  | r n => exact h n (by simp [argRegs])
  | c v => rfl
theorem vals_congr : ∀ {xs : List Arg}, (∀ r ∈ argsRegs xs, get rs r = get rs' r) → vals rs xs = vals rs' xs
  | [], _ => rfl
  | x :: xs, h => by
    simp only [vals]
    rw [val_congr fun r hr => h r (by simp [argsRegs, hr]), vals_congr fun r hr => h r (by simp [argsRegs, hr])]
theorem natOr_congr {d : Nat} {x : Option Arg} (h : ∀ r ∈ optRegs x, get rs r = get rs' r) : natOr rs d x = natOr rs' d x := by
  cases x with
  | none => rfl
  | some x => simp only [natOr]; rw [val_congr h]
theorem fillV_congr : ∀ {ps : List (Nat × Nat × Arg)} {cs : List V}, (∀ r ∈ partsRegs ps, get rs r = get rs' r) → fillV rs cs ps = fillV rs' cs ps
  | [], _, _ => rfl
  | (off, size, x) :: ps, cs, h => by
    simp only [fillV]
    rw [val_congr fun r hr => h r (by simp [partsRegs, hr]), fillV_congr fun r hr => h r (by simp [partsRegs, hr])]
theorem fillE_congr : ∀ {ps : List (Nat × Arg)} {cs : List V}, (∀ r ∈ elemsRegs ps, get rs r = get rs' r) → fillE rs cs ps = fillE rs' cs ps
  | [], _, _ => rfl
  | (i, x) :: ps, cs, h => by
    simp only [fillE]
    rw [val_congr fun r hr => h r (by simp [elemsRegs, hr]), fillE_congr fun r hr => h r (by simp [elemsRegs, hr])]
theorem sliceV_congr {size : Nat} {lo hi mx : Option Arg} (h1 : ∀ r ∈ optRegs lo, get rs r = get rs' r) (h2 : ∀ r ∈ optRegs hi, get rs r = get rs' r) (h3 : ∀ r ∈ optRegs mx, get rs r = get rs' r) (b : Bool) (v : V) : sliceV size rs lo hi mx b v = sliceV size rs' lo hi mx b v := by
  unfold sliceV
  split
  · rw [natOr_congr h1, natOr_congr h2]
  · rw [natOr_congr h1, natOr_congr h2]
    congr 1
    funext l
    congr 1
    funext u
    rw [natOr_congr h3]
  · rfl
/-- What an operation yields hangs on what it reads alone. -/
theorem evalOp_congr {C : Callee} {fb lb : Nat} {h : Heap} {op : VOp} {l : List Nat} (hl : readsOf op = some l) (hr : ∀ r ∈ l, get rs r = get rs' r) : evalOp C fb lb rs h op = evalOp C fb lb rs' h op := by
  cases op with
  | mv x => cases hl; simp only [evalOp, valOp]; rw [val_congr hr]
  | pick c a b => cases hl; simp only [evalOp, valOp]; rw [val_congr fun r h => hr r (by simp [h]), val_congr fun r h => hr r (by simp [h]), val_congr fun r h => hr r (by simp [h])]
  | build z ps => cases hl; simp only [evalOp, valOp]; rw [fillV_congr hr]
  | bslice z k n ps => simp only [readsOf] at hl; obtain ⟨_, hl⟩ := cnd_eq_some hl; cases hl; simp only [evalOp, valOp]; rw [fillE_congr hr]
  | load b n a => cases hl; simp only [evalOp, valOp]; rw [val_congr hr]
  | nilck x => cases hl; simp only [evalOp, valOp]; rw [val_congr hr]
  | bin o k x y => cases hl; simp only [evalOp, valOp]; rw [val_congr fun r h => hr r (by simp [h]), val_congr fun r h => hr r (by simp [h])]
  | un o x => cases hl; simp only [evalOp, valOp]; rw [val_congr hr]
  | conv k x => cases k <;> cases hl <;> (simp only [evalOp, valOp]; rw [val_congr hr])
  | mkfn f x y => cases hl; simp only [evalOp, valOp]; rw [vals_congr fun r h => hr r (by simp [h]), vals_congr fun r h => hr r (by simp [h])]
  | slice b n x lo hi mx => cases hl; simp only [evalOp, valOp]; rw [val_congr fun r h => hr r (by simp [h]), sliceV_congr (fun r h => hr r (by simp [h])) (fun r h => hr r (by simp [h])) (fun r h => hr r (by simp [h]))]
  | faddr k x => cases hl; simp only [evalOp, valOp]; rw [val_congr hr]
  | field k n b x => cases hl; simp only [evalOp, valOp]; rw [val_congr hr]
  | iaddr a k x i => cases hl; simp only [evalOp, valOp]; rw [val_congr fun r h => hr r (by simp [h]), val_congr fun r h => hr r (by simp [h])]
  | index b m n t x i => cases hl; simp only [evalOp, valOp]; rw [val_congr fun r h => hr r (by simp [h]), val_congr fun r h => hr r (by simp [h])]
  | lookup q z b m k => cases hl; simp only [evalOp, valOp]; rw [val_congr fun r h => hr r (by simp [h]), val_congr fun r h => hr r (by simp [h])]
  | extract i x => cases hl; simp only [evalOp, valOp]; rw [val_congr hr]
  | call q f as => cases q <;> cases hl; simp only [evalOp]; rw [vals_congr hr]
  | callv q x as => cases q <;> cases hl; simp only [evalOp]; rw [val_congr fun r h => hr r (by simp [h]), vals_congr fun r h => hr r (by simp [h])]
  | app p k m s x =>
    cases p with
    | fresh =>
      simp only [readsOf] at hl
      obtain ⟨hs, hl⟩ := cnd_eq_some hl
      cases hl
      cases s with
      | r t => cases hs
      | c v => simp only [evalOp, valOp]; rw [val_congr (x := x) hr, val_congr (x := Arg.c v) (rs := rs) (rs' := rs') (by simp [argRegs])]
    | reg p =>
      cases s with
      | c v => cases hl
      | r t =>
        simp only [readsOf] at hl
        obtain ⟨ht, hl⟩ := cnd_eq_some hl
        cases hl
        have ht := of_decide_eq_true ht
        subst ht
        simp only [evalOp, valOp]
        rw [val_congr (x := Arg.r t) fun r h => hr r (by simp [argRegs] at h; simp [h]), val_congr (x := x) fun r h => hr r (by simp [h])]
  | len k x => cases hl; simp only [evalOp, valOp]; rw [val_congr hr]
  | mn xs => cases hl; simp only [evalOp, valOp]; rw [vals_congr hr]
  | mx xs => cases hl; simp only [evalOp, valOp]; rw [vals_congr hr]
  | _ => cases hl
end
/-- .. and leaves the heap as it was. -/
theorem evalOp_still {C : Callee} {fb lb : Nat} {rs : Regs} {h : Heap} {op : VOp} {l : List Nat} (hl : readsOf op = some l) {r : V × Heap × Fl} (hr : evalOp C fb lb rs h op = some r) : r.2.1 = h ∧ r.2.2 = .no := by
  have plain : ∀ {x : Option V}, (bnd x fun v => some (v, h, Fl.no)) = some r → r.2.1 = h ∧ r.2.2 = .no := fun hx => by
    obtain ⟨v, _, e⟩ := bnd_eq_some hx; cases e; exact ⟨rfl, rfl⟩
  cases op with
  | call q f as =>
    cases q <;> cases hl
    simp only [evalOp] at hr
    obtain ⟨q, _, hr⟩ := bnd_eq_some hr
    simp only [quiet, cnd_true] at hr
    exact plain hr
  | callv q x as =>
    cases q <;> cases hl
    simp only [evalOp] at hr
    obtain ⟨q, _, hr⟩ := bnd_eq_some hr
    simp only [quiet, cnd_true] at hr
    exact plain hr
  | _ => first
    | (cases hl; done)
    | exact plain (x := some _) hr
    | exact plain hr
end Go.Vm
