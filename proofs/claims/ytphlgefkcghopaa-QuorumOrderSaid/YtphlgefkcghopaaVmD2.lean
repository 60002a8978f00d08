/- What must stand before what; the registers behind a set of operations. -/
import Derived.Test.YtphlgefkcghopaaVmD1
set_option linter.unusedVariables false
set_option linter.unusedSimpArgs false
namespace Go.Vm
attribute [local simp] evalOps_nil evalOps_cons evalOps_consg evalOp_mv evalOp_asg evalOp_pick evalOp_build evalOp_bslice evalOp_load evalOp_nilck evalOp_bin evalOp_un evalOp_conv evalOp_mkfn evalOp_slice evalOp_faddr evalOp_field evalOp_iaddr evalOp_index evalOp_lookup evalOp_extract evalOp_app evalOp_len evalOp_mn evalOp_mx evalOp_alloc evalOp_box evalOp_mkmap evalOp_store evalOp_mapupd evalOp_delete evalOp_sliceArr evalOp_call evalOp_callv evalOp_appc code_skip code_ops code_dops code_seq code_cond code_block code_exit code_ret finish_normal finish_ret
attribute [local simp] V.lt V.ltL V.flat V.pureCell V.pure V.isCell cellEq cellsEq eqV intV shV strV isShift binV unV byteV convV minV maxV foldV foldV1 fillV fillE findV putV delV isKey natOf natOr cut cellsAt mapAt mapOf loadV pickV nilckV sizeOk allSize sliceV faddrV fieldV iaddrV indexV found extractV allPure appV lenV ownHas ownOk storeC storeV samePtr appcV boxable mapupdV deleteV sliceArrV callV allLt clean bodyEnd resV one finishV runV initR

def bindsOn (o : Oper) : List Nat := o.after.toList.filterMap fun e => cnd (Region.binds .any e) (some e.on) none
/-- All that must stand before, as a number's bits. -/
def maskOf (acc : List Nat) : List Nat → Nat
  | [] => 0
  | j :: l => (2 ^ j ||| acc.getD j 0) ||| maskOf acc l
def masks : List Oper → List Nat → List Nat
  | [], acc => acc
  | o :: os, acc => masks os (acc ++ [maskOf acc (bindsOn o)])

theorem mem_bindsOn {o : Oper} {j : Nat} : j ∈ bindsOn o ↔ ∃ e ∈ o.after, Region.binds .any e = true ∧ e.on = j := by
  simp only [bindsOn, List.mem_filterMap, Array.mem_toList_iff]
  constructor
  · rintro ⟨e, he, h⟩
    obtain ⟨h1, h⟩ := cnd_eq_some h
    cases h
    exact ⟨e, he, h1, rfl⟩
  · rintro ⟨e, he, h1, rfl⟩
    exact ⟨e, he, by rw [h1]; rfl⟩
theorem maskOf_bit {acc : List Nat} {b : Nat} : ∀ {l : List Nat}, (maskOf acc l).testBit b = true → ∃ j ∈ l, j = b ∨ (acc.getD j 0).testBit b = true
  | [], h => by simp [maskOf] at h
  | j :: l, h => by
    simp only [maskOf, Nat.testBit_or, Bool.or_eq_true, Nat.testBit_two_pow, decide_eq_true_eq] at h
    rcases h with (h | h) | h
    · exact ⟨j, by simp, .inl h⟩
    · exact ⟨j, by simp, .inr h⟩
    · obtain ⟨q, hq, h⟩ := maskOf_bit h
      exact ⟨q, by simp [hq], h⟩
theorem masks_len : ∀ (os : List Oper) (acc : List Nat), (masks os acc).length = acc.length + os.length
  | [], acc => by simp [masks]
  | o :: os, acc => by simp only [masks]; rw [masks_len]; simp; omega
theorem masks_keep : ∀ (os : List Oper) (acc : List Nat) (k : Nat), k < acc.length → (masks os acc)[k]? = acc[k]?
  | [], acc, k, _ => rfl
  | o :: os, acc, k, h => by
    simp only [masks]
    rw [masks_keep os _ k (by simp; omega), List.getElem?_append_left h]
theorem masks_at : ∀ (os : List Oper) (acc : List Nat) (k : Nat) (o : Oper), os[k]? = some o → (masks os acc)[acc.length + k]? = some (maskOf ((masks os acc).take (acc.length + k)) (bindsOn o))
  | [], acc, k, o, h => by simp at h
  | o' :: os, acc, 0, o, h => by
    simp at h
    subst h
    simp only [masks, Nat.add_zero]
    rw [masks_keep os _ acc.length (by simp), List.getElem?_append_right (Nat.le_refl _)]
    simp only [Nat.sub_self, List.getElem?_cons_zero, Option.some.injEq]
    congr 1
    apply List.ext_getElem?
    intro j
    rw [List.getElem?_take]
    split
    · rename_i hj
      rw [masks_keep os _ j (by simp; omega), List.getElem?_append_left hj]
    · rename_i hj
      exact List.getElem?_eq_none (by omega)
  | o' :: os, acc, k + 1, o, h => by
    simp only [masks]
    have := masks_at os (acc ++ [maskOf acc (bindsOn o')]) k o (by simpa using h)
    simp only [List.length_append, List.length_singleton] at this
    rw [show acc.length + (k + 1) = acc.length + 1 + k by omega]
    exact this
/-- What must stand before an operation that may stand now, stands. -/
theorem mask_closed {os : List Oper} {L : Nat → Bool} (hL : ∀ k o, os[k]? = some o → L k = true → ∀ j ∈ bindsOn o, L j = true) : ∀ (k : Nat) (o : Oper), os[k]? = some o → (∀ j ∈ bindsOn o, L j = true) → ∀ b, ((masks os []).getD k 0).testBit b = true → L b = true := by
  intro k
  induction k using Nat.strongRecOn with
  | _ k ih =>
    intro o ho hj b hb
    have hat := masks_at os [] k o ho
    simp only [List.length_nil, Nat.zero_add] at hat
    rw [List.getD_eq_getElem?_getD, hat, Option.getD_some] at hb
    obtain ⟨j, hm, h⟩ := maskOf_bit hb
    rcases h with rfl | h
    · exact hj j hm
    · rw [List.getD_eq_getElem?_getD, List.getElem?_take] at h
      split at h
      · rename_i hjk
        have hlen := masks_len os []
        have hk := (List.getElem?_eq_some_iff.1 ho).1
        have hjl : j < os.length := by omega
        have hoj : os[j]? = some os[j] := by simp [hjl]
        refine ih j hjk os[j] hoj (hL j os[j] hoj (hj j hm)) b ?_
        rw [List.getD_eq_getElem?_getD]
        exact h
      · simp at h

/-- The registers behind the operations of a set. -/
def mix (L : Nat → Bool) : Nat → List VI → List V → Regs → Regs
  | k, i :: is, v :: vs, rs => mix L (k + 1) is vs (cnd (L k) (putR i.dst v rs) rs)
  | _, _, _, rs => rs
theorem get_putR {d : Option Nat} {v : V} {rs : Regs} {r : Nat} (h : d ≠ some r) : get (putR d v rs) r = get rs r := by
  cases d with
  | none => rfl
  | some q =>
    have : r ≠ q := fun e => h (e ▸ rfl)
    simp [putR, get, this]
theorem mix_none {L : Nat → Bool} {r : Nat} : ∀ (is : List VI) (vs : List V) (k : Nat) (rs : Regs), (∀ (j : Nat) (i : VI), is[j]? = some i → L (k + j) = true → i.dst ≠ some r) → get (mix L k is vs rs) r = get rs r
  | [], _, _, _, _ => rfl
  | _ :: _, [], _, _, _ => rfl
  | i :: is, v :: vs, k, rs, h => by
    simp only [mix]
    rw [mix_none is vs (k + 1) _ fun j i' hi hl => h (j + 1) i' (by simpa using hi) (by rw [show k + (j + 1) = k + 1 + j by omega]; exact hl)]
    cases hk : L k
    · rfl
    · exact get_putR (h 0 i (by simp) (by simpa using hk))
theorem mix_some {L : Nat → Bool} {r : Nat} : ∀ (is : List VI) (vs : List V) (k : Nat) (rs : Regs) (j : Nat) (i : VI) (v : V), is[j]? = some i → vs[j]? = some v → L (k + j) = true → i.dst = some r → (∀ (q : Nat) (i' : VI), j < q → is[q]? = some i' → i'.dst ≠ some r) → get (mix L k is vs rs) r = v
  | [], _, _, _, j, i, v, hi, _, _, _, _ => by simp at hi
  | _ :: _, [], _, _, j, i, v, _, hv, _, _, _ => by simp at hv
  | i0 :: is, v0 :: vs, k, rs, 0, i, v, hi, hv, hl, hd, hu => by
    simp at hi hv
    subst hi hv
    simp only [mix]
    rw [mix_none is vs (k + 1) _ fun q i' hi' _ => hu (q + 1) i' (by omega) (by simpa using hi')]
    have hk : L k = true := by simpa using hl
    rw [hk, hd]
    simp [putR, get]
  | i0 :: is, v0 :: vs, k, rs, j + 1, i, v, hi, hv, hl, hd, hu => by
    simp only [mix]
    exact mix_some is vs (k + 1) _ j i v (by simpa using hi) (by simpa using hv) (by rw [show k + 1 + j = k + (j + 1) by omega]; exact hl) hd fun q i' hq hi' => hu (q + 1) i' (by omega) (by simpa using hi')
end Go.Vm
