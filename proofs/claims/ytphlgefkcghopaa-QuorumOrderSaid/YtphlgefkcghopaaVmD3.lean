/- The check of a region whose order is open; its run in the order of the text. -/
import Derived.Test.YtphlgefkcghopaaVmD2
set_option linter.unusedVariables false
set_option linter.unusedSimpArgs false
namespace Go.Vm
attribute [local simp] evalOps_nil evalOps_cons evalOps_consg evalOp_mv evalOp_asg evalOp_pick evalOp_build evalOp_bslice evalOp_load evalOp_nilck evalOp_bin evalOp_un evalOp_conv evalOp_mkfn evalOp_slice evalOp_faddr evalOp_field evalOp_iaddr evalOp_index evalOp_lookup evalOp_extract evalOp_app evalOp_len evalOp_mn evalOp_mx evalOp_alloc evalOp_box evalOp_mkmap evalOp_store evalOp_mapupd evalOp_delete evalOp_sliceArr evalOp_call evalOp_callv evalOp_appc code_skip code_ops code_dops code_seq code_cond code_block code_exit code_ret finish_normal finish_ret
attribute [local simp] V.lt V.ltL V.flat V.pureCell V.pure V.isCell cellEq cellsEq eqV intV shV strV isShift binV unV byteV convV minV maxV foldV foldV1 fillV fillE findV putV delV isKey natOf natOr cut cellsAt mapAt mapOf loadV pickV nilckV sizeOk allSize sliceV faddrV fieldV iaddrV indexV found extractV allPure appV lenV ownHas ownOk storeC storeV samePtr appcV boxable mapupdV deleteV sliceArrV callV allLt clean bodyEnd resV one finishV runV initR

def readsAll (i : VI) : Option (List Nat) := bnd (readsOf i.op) fun l => some (match i.guard with | some (g, _) => g :: l | none => l)
/-- Each operation that writes one of the registers stands before. -/
def writersIn (mask : Nat) (regs : List Nat) : Nat → List VI → Bool
  | _, [] => true
  | j, i :: is => (match i.dst with | some d => !(regs.contains d) || mask.testBit j | none => true) && writersIn mask regs (j + 1) is
def readsOk (pre : List VI) (M : List Nat) : Nat → List VI → Bool
  | _, [] => true
  | k, i :: is => (match readsAll i with | some l => writersIn (M.getD k 0) l 0 pre | none => false) && readsOk pre M (k + 1) is
def oneWriter : List VI → Bool
  | [] => true
  | i :: is => (match i.dst with | some d => is.all (fun i' => decide (i'.dst ≠ some d)) | none => true) && oneWriter is
def backOk : Nat → List Oper → Bool
  | _, [] => true
  | k, o :: os => (bindsOn o).all (fun j => decide (j < k)) && backOk (k + 1) os
/-- From c on each stands behind all that stand before it in the text. -/
def restOk (c : Nat) (M : List Nat) (n : Nat) : Bool := (List.range n).all fun k => decide (k < c) || (List.range k).all fun j => (M.getD k 0).testBit j
def tokenOf (i : VI) : Option (Nat × Nat × Nat) :=
  match i.dst, i.guard, i.op with
  | some d, none, .bslice _ _ _ _ => some (d, 0, 0)
  | some d, none, .app _ size _ _ _ => some (d, 0, size)
  | _, _, _ => none
def eatenBy (i : VI) : Option Nat :=
  match i.op with
  | .app (.reg p) _ _ _ _ => some p
  | _ => none
def toks (L : Nat → Bool) : Nat → List VI → Ows
  | _, [] => []
  | k, i :: is => (match tokenOf i with | some t => cnd (L k) [t] [] | none => []) ++ toks L (k + 1) is
def eaten (L : Nat → Bool) : Nat → List VI → List Nat
  | _, [] => []
  | k, i :: is => (match eatenBy i with | some p => cnd (L k) [p] [] | none => []) ++ eaten L (k + 1) is
def alOf (i : VI) : Option (Nat × Nat) :=
  match i.dst, i.guard, i.op with
  | some d, none, .mv (.r p) => cnd (decide (d ≠ p)) (some (d, p)) none
  | _, _, _ => none
def als (L : Nat → Bool) : Nat → List VI → List (Nat × Nat)
  | _, [] => []
  | k, i :: is => (match alOf i with | some t => cnd (L k) [t] [] | none => []) ++ als L (k + 1) is
def own0 (pre : List VI) (own : Ows) : Ows := own.filter fun x => pre.all fun i => decide (i.dst ≠ some x.1)
def ownL (L : Nat → Bool) (pre : List VI) (own : Ows) : Ows := (own0 pre own ++ toks L 0 pre).filter fun x => !((eaten L 0 pre).contains x.1)
def nodupN : List Nat → Bool
  | [] => true
  | x :: l => !(l.contains x) && nodupN l
/-- Each append has a slice that the region itself has made. -/
def eatsOk (pre : List VI) : List VI → Bool
  | [] => true
  | i :: is => (match i.op with | .app (.reg p) size _ _ _ => (toks (fun _ => true) 0 pre).any (fun x => decide (x.1 = p) && (decide (x.2.1 = 0) && (decide (x.2.2 = size) || decide (x.2.2 = 0)))) | _ => true) && eatsOk pre is
def preOk (c : Nat) (os : List Oper) (is : List VI) : Bool :=
  decide (c ≤ is.length) && (oneWriter (is.take c) && (readsOk (is.take c) (masks os []) 0 (is.take c) && (backOk 0 os && (restOk c (masks os []) is.length && (eatsOk (is.take c) (is.take c) && nodupN (eaten (fun _ => true) 0 (is.take c)))))))
/-- What is known behind the first c. -/
def preOw (c : Nat) (is : List VI) (own : Ows) : Ow := ⟨ownL (fun _ => true) (is.take c) own, als (fun _ => true) 0 (is.take c), [], none⟩

/-! ### the run in the text's order -/
section
variable {C : Callee} {fb lb : Nat}
theorem evalOps_append : ∀ (is js : List VI) (rs : Regs) (h : Heap) (fl : Fl), evalOps C fb lb (is ++ js) rs h fl = bnd (evalOps C fb lb is rs h fl) fun r => evalOps C fb lb js r.1 r.2.1 r.2.2
  | [], js, rs, h, fl => rfl
  | i :: is, js, rs, h, fl => by
    simp only [List.cons_append, evalOps]
    cases hw : wanted rs i.guard with
    | none => rfl
    | some b =>
      simp only [bnd_some]
      cases b
      · exact evalOps_append is js _ h fl
      · simp only [cnd_true]
        cases he : evalOp C fb lb rs h i.op with
        | none => rfl
        | some r =>
          simp only [bnd_some]
          exact evalOps_append is js _ _ _
/-- Each of the first operations: what it finds, what it yields. -/
theorem canon {h : Heap} {fl : Fl} : ∀ (is : List VI) (k : Nat) (rs : Regs) (r : Regs × Heap × Fl), (∀ i ∈ is, (readsAll i).isSome = true) → evalOps C fb lb is rs h fl = some r →
    ∃ vs : List V, vs.length = is.length ∧ r = (mix (fun _ => true) k is vs rs, h, fl) ∧ ∀ (j : Nat) (i : VI), is[j]? = some i → ∃ b v, vs[j]? = some v ∧ wanted (mix (fun q => decide (q < k + j)) k is vs rs) i.guard = some b ∧
      (b = true → ∃ q, evalOp C fb lb (mix (fun q => decide (q < k + j)) k is vs rs) h i.op = some q ∧ q.1 = v) ∧ (b = false → v = .undef)
  | [], k, rs, r, _, he => by
    cases he
    exact ⟨[], rfl, rfl, fun j i hi => by simp at hi⟩
  | i :: is, k, rs, r, hr, he => by
    simp only [evalOps] at he
    obtain ⟨b, hb, he⟩ := bnd_eq_some he
    have hri := hr i (by simp)
    have hl : ∃ l, readsOf i.op = some l := by
      unfold readsAll at hri
      cases hq : readsOf i.op with
      | none => rw [hq] at hri; simp at hri
      | some l => exact ⟨l, rfl⟩
    obtain ⟨l, hl⟩ := hl
    have mixall : ∀ (is : List VI) (vs : List V) (k : Nat) (rs : Regs) (L L' : Nat → Bool), (∀ j, j < is.length → L (k + j) = L' (k + j)) → mix L k is vs rs = mix L' k is vs rs := by
      intro is
      induction is with
      | nil => intro vs k rs L L' _; cases vs <;> rfl
      | cons i is ih =>
        intro vs k rs L L' hLL
        cases vs with
        | nil => rfl
        | cons v vs =>
          simp only [mix]
          have h0 := hLL 0 (by simp)
          simp only [Nat.add_zero] at h0
          rw [h0]
          exact ih vs (k + 1) _ L L' fun j hj => by have := hLL (j + 1) (by simp; omega); rw [show k + 1 + j = k + (j + 1) by omega]; exact this
    have mixnone : ∀ (is : List VI) (vs : List V) (k : Nat) (rs : Regs) (m : Nat), m ≤ k → mix (fun q => decide (q < m)) k is vs rs = rs := by
      intro is
      induction is with
      | nil => intro vs k rs m _; cases vs <;> rfl
      | cons i is ih =>
        intro vs k rs m hm
        cases vs with
        | nil => rfl
        | cons v vs =>
          simp only [mix]
          have : decide (k < m) = false := decide_eq_false (by omega)
          rw [this]
          exact ih vs (k + 1) rs m (by omega)
    have main : ∀ (v : V), evalOps C fb lb is (putR i.dst v rs) h fl = some r → (b = true → ∃ q, evalOp C fb lb rs h i.op = some q ∧ q.1 = v) → (b = false → v = .undef) →
        ∃ vs : List V, vs.length = (i :: is).length ∧ r = (mix (fun _ => true) k (i :: is) vs rs, h, fl) ∧ ∀ (j : Nat) (i' : VI), (i :: is)[j]? = some i' → ∃ b v, vs[j]? = some v ∧ wanted (mix (fun q => decide (q < k + j)) k (i :: is) vs rs) i'.guard = some b ∧
          (b = true → ∃ q, evalOp C fb lb (mix (fun q => decide (q < k + j)) k (i :: is) vs rs) h i'.op = some q ∧ q.1 = v) ∧ (b = false → v = .undef) := fun v hv h1 h2 => by
      obtain ⟨vs, hlen, hre, hall⟩ := canon is (k + 1) (putR i.dst v rs) r (fun i' hi' => hr i' (by simp [hi'])) hv
      refine ⟨v :: vs, by simp [hlen], by rw [hre]; rfl, fun j i' hi' => ?_⟩
      cases j with
      | zero =>
        simp at hi'
        subst hi'
        refine ⟨b, v, rfl, ?_, ?_, h2⟩
        · rw [mixnone _ _ k rs (k + 0) (by omega)]; exact hb
        · rw [mixnone _ _ k rs (k + 0) (by omega)]; exact h1
      | succ j =>
        obtain ⟨b', v', hv', hw', hx, hy⟩ := hall j i' (by simpa using hi')
        have e : mix (fun q => decide (q < k + (j + 1))) k (i :: is) (v :: vs) rs = mix (fun q => decide (q < k + 1 + j)) (k + 1) is vs (putR i.dst v rs) := by
          simp only [mix]
          have : decide (k < k + (j + 1)) = true := decide_eq_true (by omega)
          rw [this, cnd_true]
          refine mixall is vs (k + 1) _ _ _ fun q _ => ?_
          rw [show k + (j + 1) = k + 1 + j by omega]
        refine ⟨b', v', by simpa using hv', ?_, ?_, hy⟩
        · rw [e]; exact hw'
        · rw [e]; exact hx
    cases b with
    | true =>
      simp only [cnd_true] at he
      obtain ⟨q, hq, he⟩ := bnd_eq_some he
      obtain ⟨e1, e2⟩ := evalOp_still hl hq
      rw [e1, e2] at he
      have : fl.or .no = fl := by cases fl; simp [Fl.or]
      rw [this] at he
      exact main q.1 he (fun _ => ⟨q, hq, rfl⟩) (fun e => by cases e)
    | false => exact main .undef he (fun e => by cases e) (fun _ => rfl)
end
end Go.Vm
