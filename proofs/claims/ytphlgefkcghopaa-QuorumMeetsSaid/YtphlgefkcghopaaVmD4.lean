/- A region whose order is open: the totally ordered rest. -/
import Derived.Test.YtphlgefkcghopaaVmD3
set_option linter.unusedVariables false
set_option linter.unusedSimpArgs false
namespace Go.Vm
attribute [local simp] evalOps_nil evalOps_cons evalOps_consg evalOp_mv evalOp_asg evalOp_pick evalOp_build evalOp_bslice evalOp_load evalOp_nilck evalOp_bin evalOp_un evalOp_conv evalOp_mkfn evalOp_slice evalOp_faddr evalOp_field evalOp_iaddr evalOp_index evalOp_lookup evalOp_extract evalOp_app evalOp_len evalOp_mn evalOp_mx evalOp_alloc evalOp_box evalOp_mkmap evalOp_store evalOp_mapupd evalOp_delete evalOp_sliceArr evalOp_call evalOp_callv evalOp_appc code_skip code_ops code_dops code_seq code_cond code_block code_exit code_ret finish_normal finish_ret
attribute [local simp] V.lt V.ltL V.flat V.pureCell V.pure V.isCell cellEq cellsEq eqV intV shV strV isShift binV unV byteV convV minV maxV foldV foldV1 fillV fillE findV putV delV isKey natOf natOr cut cellsAt mapAt mapOf loadV pickV nilckV sizeOk allSize sliceV faddrV fieldV iaddrV indexV found extractV allPure appV lenV ownHas ownOk storeC storeV samePtr appcV boxable mapupdV deleteV sliceArrV callV allLt clean bodyEnd resV one finishV runV initR
section
variable {P : Program} {R : Nat → Option Nat} {cx : Cx} {N : Nat} {hb0 : Heap} {S T : Ow} {rs : Regs} {h : Heap} {fl : Fl} {g : Gh} {a : Act} {w : World}

theorem Inv.drew (hi : Inv cx N hb0 S rs h fl g a w) : Inv cx N hb0 S rs h fl g a w.drew := by
  obtain ⟨pd, hO, hf⟩ := hi.O
  exact ⟨hi.W.drew, hi.G.drew, ⟨pd, ⟨hO.own, hO.blk, hO.dis⟩, ⟨hf.al, hf.la, hf.pd⟩⟩, hi.F⟩
theorem backOk_at : ∀ (os : List Oper) (k j : Nat) (o : Oper), backOk k os = true → os[j]? = some o → ∀ q ∈ bindsOn o, q < k + j
  | [], k, j, o, _, ho => by simp at ho
  | o' :: os, k, 0, o, h, ho => by
    simp at ho
    subst ho
    simp only [backOk, Bool.and_eq_true, List.all_eq_true, decide_eq_true_eq] at h
    simpa using h.1
  | o' :: os, k, j + 1, o, h, ho => by
    simp only [backOk, Bool.and_eq_true] at h
    intro q hq
    have := backOk_at os (k + 1) j o h.2 (by simpa using ho) q hq
    omega
theorem restOk_at {c n : Nat} {M : List Nat} (h : restOk c M n = true) {k j : Nat} (hk : k < n) (hc : c ≤ k) (hj : j < k) : (M.getD k 0).testBit j = true := by
  simp only [restOk, List.all_eq_true, List.mem_range, Bool.or_eq_true, decide_eq_true_eq] at h
  rcases h k hk with h | h
  · omega
  · exact h j hj
theorem filter_lt {L L' : Nat → Bool} {i : Nat} (hLL : ∀ k, L k = true → L' k = true) (h1 : L i = false) (h2 : L' i = true) : ∀ {l : List Nat}, i ∈ l → (l.filter fun k => !L' k).length < (l.filter fun k => !L k).length := by
  have le : ∀ l : List Nat, (l.filter fun k => !L' k).length ≤ (l.filter fun k => !L k).length := by
    intro l
    induction l with
    | nil => simp
    | cons x l ih =>
      simp only [List.filter_cons]
      cases hx : L x <;> cases hx' : L' x <;> simp
      · exact ih
      · omega
      · have := hLL x hx; rw [hx'] at this; cases this
      · exact ih
  intro l
  induction l with
  | nil => intro h; simp at h
  | cons x l ih =>
    intro hi
    simp only [List.filter_cons]
    rcases List.mem_cons.1 hi with rfl | hi
    · rw [h1, h2]
      have := le l
      simp
      omega
    · have := ih hi
      cases hx : L x <;> cases hx' : L' x <;> simp
      · exact this
      · omega
      · have := hLL x hx; rw [hx'] at this; cases this
      · exact this

theorem getD_set_self {listed : Array Bool} {i : Nat} (h : i < listed.size) : (listed.setIfInBounds i true).getD i false = true := by simp [h]
theorem rest_ok {C : Callee} {ops : Array Oper} (hC : FnOk P R C) {c : Nat} (hback : backOk 0 ops.toList = true) (hrest : restOk c (masks ops.toList []) ops.size = true) {Q : Exit → Act → World → Prop} {rs' : Regs} {h' : Heap} {fl' : Fl} :
    ∀ (os : List Oper) (js gs : List VI) (m : Nat) (S T : Ow) (rs : Regs) (h : Heap) (fl : Fl) (g : Gh) (a : Act) (w : World) (listed : Array Bool) (fuel : Nat),
      (∀ (j : Nat), os[j]? = ops[m + j]?) → trIs P ops os gs = some js → Inv cx N hb0 S rs h fl g a w → Ow.steps R js S = some T → (∀ o ∈ os, ∀ x, o.dst = some x → x < N) → evalOps C cx.n0 hb0.length js rs h fl = some (rs', h', fl') →
      listed.size = ops.size → (∀ k, listed.getD k false = decide (k < m)) → c ≤ m → os.length + m = ops.size → os.length ≤ fuel → (∀ g' a' w', GLe g g' → Inv cx N hb0 T rs' h' fl' g' a' w' → Q .normal a' w') → wpAny P .any ops Q fuel listed a w
  | [], js, gs, m, S, T, rs, h, fl, g, a, w, listed, fuel, _, htr, hi, hs, _, he, hsz, hl, hc, hlen, hfuel, hQ => by
    cases gs with
    | cons _ _ => cases htr
    | nil =>
      cases htr
      cases hs
      cases he
      refine wpAny_done ?_ (hQ g a w (GLe.refl g) hi) fuel
      cases hr : Region.ready .any ops listed with
      | nil => rfl
      | cons j l =>
        exfalso
        have hj : j ∈ Region.ready .any ops listed := by rw [hr]; simp
        obtain ⟨h1, o, ho, _⟩ := mem_ready.1 hj
        have hjs : j < ops.size := (Array.getElem?_eq_some_iff.1 ho).1
        have h2 := hl j
        simp only [List.length_nil, Nat.zero_add] at hlen
        rw [decide_eq_true (by omega)] at h2
        have hj2 : j < listed.size := by omega
        simp [Array.getD, hj2] at h1 h2
        rw [h1] at h2; cases h2
  | o :: os, js, gs, m, S, T, rs, h, fl, g, a, w, listed, fuel, hk, htr, hi, hs, hd, he, hsz, hl, hc, hlen, hfuel, hQ => by
    cases gs with
    | nil => cases htr
    | cons g0 gs =>
      simp only [trIs] at htr
      obtain ⟨i, h1, htr⟩ := bnd_eq_some htr
      obtain ⟨l, h2, htr⟩ := bnd_eq_some htr
      cases htr
      simp only [Ow.steps] at hs
      obtain ⟨T1, hs1, hs⟩ := bnd_eq_some hs
      simp only [evalOps] at he
      obtain ⟨b, hb, he⟩ := bnd_eq_some he
      have ho : ops[m]? = some o := by have := hk 0; simpa using this.symm
      have hms : m < ops.size := (Array.getElem?_eq_some_iff.1 ho).1
      simp only [List.length_cons] at hlen hfuel
      cases fuel with
      | zero => omega
      | succ fuel =>
        have hmr : m ∈ Region.ready .any ops listed := by
          refine mem_ready.2 ⟨?_, o, ho, fun e he hbind => ?_⟩
          · have h3 := hl m
            rw [decide_eq_false (by omega)] at h3
            have hm2 : m < listed.size := by omega
            simpa [Array.getD, hm2] using h3
          · rw [hl e.on]
            have := backOk_at ops.toList 0 m o hback (by simpa using ho) e.on (mem_bindsOn.2 ⟨e, he, hbind, rfl⟩)
            exact decide_eq_true (by omega)
        refine ⟨fun h0 => by rw [h0] at hmr; simp at hmr, fun j hj => ?_⟩
        have hjm : j = m := by
          obtain ⟨h3, oj, hoj, hall⟩ := mem_ready.1 hj
          have hjs : j < ops.size := (Array.getElem?_eq_some_iff.1 hoj).1
          have hj2 : j < listed.size := by omega
          have h4 : listed.getD j false = false := by simpa [Array.getD, hj2] using h3
          rw [hl j] at h4
          have h5 := of_decide_eq_false h4
          rcases Nat.lt_or_ge m j with h6 | h6
          · exfalso
            have hbit := restOk_at hrest hjs (by omega) h6
            have := mask_closed (os := ops.toList) (L := fun k => listed.getD k false) (fun k o' ho' hLk q hq => by
              have hLk' : listed.getD k false = true := hLk
              rw [hl k] at hLk'
              have h7 := of_decide_eq_true hLk'
              have h8 := backOk_at ops.toList 0 k o' hback ho' q hq
              show listed.getD q false = true
              rw [hl q]
              exact decide_eq_true (by omega)) j oj (by simpa using hoj) (fun q hq => by
                obtain ⟨e, he', hb', rfl⟩ := mem_bindsOn.1 hq
                exact hall e he' hb') m hbit
            have h9 : listed.getD m false = true := this
            rw [hl m] at h9
            have := of_decide_eq_true h9
            omega
          · omega
        subst hjm
        have next : ∀ rs1 h1' fl1, evalOps C cx.n0 hb0.length l rs1 h1' fl1 = some (rs', h', fl') → ∀ u w' g', GLe g g' → Inv cx N hb0 T1 rs1 h1' fl1 g' (a.put o.dst u) w' → wpAny P .any ops Q fuel (listed.setIfInBounds j true) (a.put o.dst u) w' :=
          fun rs1 h1' fl1 he' u w' g' hle hi' => rest_ok hC hback hrest os l gs (j + 1) T1 T rs1 h1' fl1 g' (a.put o.dst u) w' (listed.setIfInBounds j true) fuel (fun q => by have := hk (q + 1); simpa [Nat.add_assoc, Nat.add_comm 1 q] using this) h2 hi' hs (fun o ho => hd o (by simp [ho])) he' (by simpa using hsz) (fun k => by
            by_cases hkj : j = k
            · subst hkj
              rw [getD_set_self (by omega)]
              exact (decide_eq_true (by omega)).symm
            · rw [getD_set_ne false hkj, hl k]
              congr 1
              exact propext ⟨fun _ => by omega, fun _ => by omega⟩) (by omega) (by omega) (by omega) fun g'' a' w'' hle' hi'' => hQ g'' a' w'' (hle.trans hle') hi''
        unfold wpOp
        simp only [ho]
        cases b with
        | true =>
          simp only [cnd_true] at he
          obtain ⟨r, hr, he⟩ := bnd_eq_some he
          exact step_ok hi hC h1 hs1 (hd o (by simp)) hb (.inl ⟨rfl, r, hr, rfl, rfl, rfl⟩) (next _ _ _ he)
        | false => exact step_ok hi hC h1 hs1 (hd o (by simp)) hb (.inr ⟨rfl, rfl, rfl, rfl⟩) (next _ _ _ he)
end
end Go.Vm
