/- How memory and the abstract heap go on together: a new object, a new frozen row, an object set, a row's tail written, an object frozen. -/
import Derived.Test.YtphlgefkcghopaaVmC1
set_option linter.unusedVariables false
set_option linter.unusedSimpArgs false
namespace Go.Vm
attribute [local simp] evalOps_nil evalOps_cons evalOps_consg evalOp_mv evalOp_asg evalOp_pick evalOp_build evalOp_bslice evalOp_load evalOp_nilck evalOp_bin evalOp_un evalOp_conv evalOp_mkfn evalOp_slice evalOp_faddr evalOp_field evalOp_iaddr evalOp_index evalOp_lookup evalOp_extract evalOp_app evalOp_len evalOp_mn evalOp_mx evalOp_alloc evalOp_box evalOp_mkmap evalOp_store evalOp_mapupd evalOp_delete evalOp_sliceArr evalOp_call evalOp_callv evalOp_appc code_skip code_ops code_dops code_seq code_cond code_block code_exit code_ret finish_normal finish_ret
attribute [local simp] V.lt V.ltL V.flat V.pureCell V.pure V.isCell cellEq cellsEq eqV intV shV strV isShift binV unV byteV convV minV maxV foldV foldV1 fillV fillE findV putV delV isKey natOf natOr cut cellsAt mapAt mapOf loadV pickV nilckV sizeOk allSize sliceV faddrV fieldV iaddrV indexV found extractV allPure appV lenV ownHas ownOk storeC storeV samePtr appcV boxable mapupdV deleteV sliceArrV callV allLt clean bodyEnd resV one finishV runV initR

theorem cell_same {w w' : World} {b : Nat} (h : w'.heap[b]? = w.heap[b]?) (o : Nat) : w'.cell? ⟨b, o, none⟩ = w.cell? ⟨b, o, none⟩ := by simp [World.cell?, h]
theorem cell_lt {w : World} {b o : Nat} {u : Value} (h : w.cell? ⟨b, o, none⟩ = some u) : b < w.heap.size := by
  simp only [World.cell?] at h
  split at h
  · rename_i c t fr hb; exact (Array.getElem?_eq_some_iff.1 hb).1
  · cases h
theorem ERels.mono {g g' : Gh} (hg : GLe g g') : ∀ {es : List MapEntry} {ps : List (V × V)}, ERels g es ps → ERels g' es ps
  | [], [], _ => trivial
  | _ :: _, _ :: _, ⟨h, t⟩ => ⟨⟨h.1.mono hg.imm, h.2.mono hg⟩, ERels.mono hg t⟩
  | [], _ :: _, h => h.elim
  | _ :: _, [], h => h.elim
theorem ObjR.mono {g g' : Gh} {w w' : World} {b : Nat} {o : Obj} (h : ObjR g w b o) (hg : GLe g g') (hw : w'.heap[b]? = w.heap[b]?) : ObjR g' w' b o := by
  cases o with
  | cells cs own =>
    obtain ⟨us, t, h1, h2, h3⟩ := h
    exact ⟨us, t, hw.trans h1, h2.mono hg, h3⟩
  | map es =>
    obtain ⟨rs, c, h1, h2⟩ := h
    exact ⟨rs, c, hw.trans h1, h2.mono hg⟩
  | dead => trivial

theorem MemW.step {cx : Cx} {fl fl' : Fl} {w w' : World} {row : Option Nat} (hm : MemW cx fl w) (hw : w.grownBy w' row) (hrow : ∀ b, row = some b → cx.may b ∧ (fl'.wr = false → cx.w0.heap.size ≤ b)) (hfl : fl'.wr = false → fl.wr = false) : MemW cx fl' w' := by
  have hs := hm.hsz
  refine ⟨hw.os.trans hm.os, hw.tape.trans hm.tape, hw.output.trans hm.out, Nat.le_trans hs hw.size, fun b hb hW => ?_, fun he b hb => ?_⟩
  · rw [hw.block b (by omega) ?_]
    · exact hm.old b hb hW
    · intro e
      rcases (hrow b e.symm).1 with h | h
      · omega
      · exact hW h
  · rw [hw.block b (by omega) ?_]
    · exact hm.wr (hfl he) b hb
    · intro e
      have := (hrow b e.symm).2 he
      omega

def Gh.addMu (g : Gh) (i b : Nat) : Gh := ⟨fun j => if j = i then some b else g.mu j, g.imm⟩
def Gh.addImm (g : Gh) (b lo : Nat) (us : List Value) : Gh := ⟨g.mu, fun c k => if c = b ∧ lo ≤ k ∧ k < lo + us.length then us[k - lo]? else g.imm c k⟩
theorem Gh.addMu_le {g : Gh} {i b : Nat} (h : g.mu i = none) : GLe g (g.addMu i b) :=
  ⟨fun j c hc => by simp only [Gh.addMu]; split <;> simp_all, fun _ _ _ h => h⟩
theorem Gh.addImm_le {g : Gh} {b lo : Nat} {us : List Value} (h : ∀ k, lo ≤ k → k < lo + us.length → g.imm b k = none) : GLe g (g.addImm b lo us) :=
  ⟨fun _ _ h => h, fun c k u hu => by
    simp only [Gh.addImm]
    split
    · rename_i hc
      obtain ⟨rfl, h1, h2⟩ := hc
      rw [h k h1 h2] at hu; cases hu
    · exact hu⟩
theorem Gh.addImm_other {g : Gh} {b lo : Nat} {us : List Value} {c : Nat} (h : c ≠ b) (k : Nat) : (g.addImm b lo us).imm c k = g.imm c k := by simp [Gh.addImm, h]
theorem Gh.addImm_at {g : Gh} {b lo : Nat} {us : List Value} {j : Nat} {u : Value} (h : us[j]? = some u) : (g.addImm b lo us).imm b (lo + j) = some u := by
  have := (List.getElem?_eq_some_iff.1 h).1
  have hc : b = b ∧ lo ≤ lo + j ∧ lo + j < lo + us.length := ⟨rfl, by omega, by omega⟩
  unfold Gh.addImm
  dsimp only
  rw [if_pos hc, show lo + j - lo = j by omega, h]

section
variable {cx : Cx} {hb0 : Heap} {h : Heap} {fl : Fl} {g : Gh} {w : World}

theorem MemG.muNone (hm : MemG cx hb0 h fl g w) {i : Nat} (hi : h.length ≤ i) : g.mu i = none := by
  cases hmu : g.mu i with
  | none => rfl
  | some b => have := hm.dom i b hmu; omega
theorem MemG.immNone (hm : MemG cx hb0 h fl g w) {b : Nat} (hb : w.heap.size ≤ b) (k : Nat) : g.imm b k = none := by
  cases hi : g.imm b k with
  | none => rfl
  | some u => have := cell_lt (hm.hr.imm b k u hi); omega
theorem liveAt_append {h : Heap} {o : Obj} {i : Nat} (hl : LiveAt (h ++ [o]) i) : LiveAt h i ∨ i = h.length := by
  obtain ⟨x, hx, hl⟩ := hl
  by_cases hi : i < h.length
  · rw [List.getElem?_append_left hi] at hx; exact .inl ⟨x, hx, hl⟩
  · have := (List.getElem?_eq_some_iff.1 hx).1
    simp at this
    exact .inr (by omega)

/-- A new object. -/
theorem MemG.push (hm : MemG cx hb0 h fl g w) (hsz : cx.w0.heap.size ≤ w.heap.size) {O : Go.Obj} {o : Obj} (ho : ObjR (g.addMu h.length w.heap.size) (w.alloc O) w.heap.size o) :
    MemG cx hb0 (h ++ [o]) fl (g.addMu h.length w.heap.size) (w.alloc O) := by
  have hnone := hm.muNone (Nat.le_refl h.length)
  have hle : GLe g (g.addMu h.length w.heap.size) := Gh.addMu_le hnone
  have heap : ∀ b, b < w.heap.size → (w.alloc O).heap[b]? = w.heap[b]? := fun b hb => heap_alloc_old w O hb
  refine ⟨⟨fun i x hx hl => ?_, fun b k u hu => ?_⟩, hm.ge.trans hle, hm.immW, hm.fbl, ?_, fun i hi => ?_, fun i b hb => ?_, fun i b hb => ?_, fun i b hi hb => ?_, fun i j b hi hj hbi hbj => ?_, fun i b hi hb k => ?_, ?_⟩
  · by_cases hi : i < h.length
    · rw [List.getElem?_append_left hi] at hx
      obtain ⟨b, hb, hob⟩ := hm.hr.obj i x hx hl
      exact ⟨b, hle.mu i b hb, hob.mono hle (heap b (hm.muW i b hb).1)⟩
    · have h2 := (List.getElem?_eq_some_iff.1 hx).1
      simp at h2
      have : i = h.length := by omega
      subst this
      simp at hx
      subst hx
      exact ⟨w.heap.size, by simp [Gh.addMu], ho⟩
  · have hu' : g.imm b k = some u := hu
    have := hm.hr.imm b k u hu'
    rw [cell_same (heap b (cell_lt this))]
    exact this
  · have := hm.lbh; simp; omega
  · have := hm.lbh
    have := hm.fbl
    have hne : i ≠ h.length := by omega
    simp only [Gh.addMu, hne, if_false]
    exact hm.muOld i hi
  · simp only [Gh.addMu] at hb
    split at hb
    · simp; omega
    · have := hm.dom i b hb; simp; omega
  · simp only [Gh.addMu] at hb
    split at hb
    · cases hb
      exact ⟨by simp, fun _ => .inl hsz⟩
    · rename_i hne
      obtain ⟨h1, h2⟩ := hm.muW i b hb
      refine ⟨by simp; omega, fun hl => h2 ?_⟩
      rcases liveAt_append hl with hl | hl
      · exact hl
      · exact absurd hl hne
  · simp only [Gh.addMu] at hb
    split at hb
    · cases hb; exact hsz
    · exact hm.new i b hi hb
  · simp only [Gh.addMu] at hbi hbj
    split at hbi <;> split at hbj
    · omega
    · cases hbi
      have := (hm.muW j _ hbj).1; omega
    · cases hbj
      have := (hm.muW i _ hbi).1; omega
    · rename_i h1 h2
      rcases liveAt_append hi with hi | hi
      · rcases liveAt_append hj with hj | hj
        · exact hm.inj i j b hi hj hbi hbj
        · exact absurd hj h2
      · exact absurd hi h1
  · simp only [Gh.addMu] at hb
    split at hb
    · cases hb; exact hm.immNone (Nat.le_refl _) k
    · rename_i hne
      rcases liveAt_append hi with hi | hi
      · exact hm.muimm i b hi hb k
      · exact absurd hi hne
  · rcases hm.low with h1 | h1
    · exact .inl h1
    · refine .inr fun i x hi hx => h1 i x hi ?_
      have := hm.lbh
      rw [List.getElem?_append_left (by omega)] at hx
      exact hx

/-- A new row, of which so many cells will never be written again. -/
theorem MemG.frozen (hm : MemG cx hb0 h fl g w) {us : List Value} {cur : Array Value} {t : TypeId} (hus : ∀ (j : Nat) (u : Value), us[j]? = some u → cur[j]? = some u) (hsz : cx.w0.heap.size ≤ w.heap.size) :
    MemG cx hb0 h fl (g.addImm w.heap.size 0 us) (w.alloc (.cells cur t)) := by
  have hle : GLe g (g.addImm w.heap.size 0 us) := Gh.addImm_le fun k _ _ => hm.immNone (Nat.le_refl _) k
  have heap : ∀ b, b < w.heap.size → (w.alloc (.cells cur t)).heap[b]? = w.heap[b]? := fun b hb => heap_alloc_old w _ hb
  refine ⟨⟨fun i x hx hl => ?_, fun b k u hu => ?_⟩, hm.ge.trans hle, fun b o hb hW => ?_, hm.fbl, hm.lbh, hm.muOld, hm.dom, fun i b hb => ?_, hm.new, hm.inj, fun i b hi hb k => ?_, hm.low⟩
  · obtain ⟨b, hb, hob⟩ := hm.hr.obj i x hx hl
    exact ⟨b, hb, hob.mono hle (heap b (hm.muW i b hb).1)⟩
  · by_cases hb : b = w.heap.size
    · subst hb
      simp only [Gh.addImm] at hu
      split at hu
      · rename_i hk
        have := hus (k - 0) u hu
        simp only [Nat.sub_zero] at this
        simp only [World.cell?, heap_alloc_new, this]
        rfl
      · rw [hm.immNone (Nat.le_refl _)] at hu; cases hu
    · rw [Gh.addImm_other hb] at hu
      have := hm.hr.imm b k u hu
      rw [cell_same (heap b (cell_lt this))]
      exact this
  · rw [Gh.addImm_other (by omega)]; exact hm.immW b o hb hW
  · obtain ⟨h1, h2⟩ := hm.muW i b hb
    exact ⟨by simp; omega, h2⟩
  · have := (hm.muW i b hb).1
    rw [Gh.addImm_other (by omega)]; exact hm.muimm i b hi hb k

theorem liveAt_set {h : Heap} {i : Nat} {o : Obj} {j : Nat} (hl : LiveAt (hset h i o) j) (hi : LiveAt h i) : LiveAt h j := by
  by_cases hji : j = i
  · subst hji; exact hi
  · obtain ⟨x, hx, hl⟩ := hl
    unfold hset at hx
    rw [List.getElem?_set_ne (Ne.symm hji)] at hx
    exact ⟨x, hx, hl⟩

/-- An object is set. -/
theorem MemG.set (hm : MemG cx hb0 h fl g w) {i b : Nat} (hi : LiveAt h i) (hb : g.mu i = some b) {o : Obj} {fl' : Fl} {w' : World} (hsz : w.heap.size ≤ w'.heap.size)
    (hoth : ∀ c, c < w.heap.size → c ≠ b → w'.heap[c]? = w.heap[c]?) (ho : ObjR g w' b o) (hlow : fl'.esc = true ∨ fl.esc = false ∧ (i < hb0.length → ∀ ox : Obj, h[i]? = some ox → ∀ m, ox.lt m = true → o.lt m = true)) : MemG cx hb0 (hset h i o) fl' g w' := by
  have hlen : (hset h i o).length = h.length := by simp [hset]
  have nimm : ∀ c k u, g.imm c k = some u → c ≠ b := fun c k u hu e => by subst e; rw [hm.muimm i c hi hb k] at hu; cases hu
  refine ⟨⟨fun j x hx hl => ?_, fun c k u hu => ?_⟩, hm.ge, hm.immW, hm.fbl, by rw [hlen]; exact hm.lbh, hm.muOld, fun j c hc => by rw [hlen]; exact hm.dom j c hc, fun j c hc => ?_, hm.new, fun j k c hj hk => hm.inj j k c (liveAt_set hj hi) (liveAt_set hk hi), fun j c hj => hm.muimm j c (liveAt_set hj hi), ?_⟩
  · by_cases hji : j = i
    · subst hji
      have hlt : j < h.length := hm.dom j b hb
      simp [hset, hlt] at hx
      subst hx
      exact ⟨b, hb, ho⟩
    · unfold hset at hx
      rw [List.getElem?_set_ne (Ne.symm hji)] at hx
      obtain ⟨c, hc, hob⟩ := hm.hr.obj j x hx hl
      have hcb : c ≠ b := fun e => hji (hm.inj j i b ⟨x, hx, hl⟩ hi (e ▸ hc) hb)
      exact ⟨c, hc, hob.mono (GLe.refl g) (hoth c (hm.muW j c hc).1 hcb)⟩
  · have := hm.hr.imm c k u hu
    rw [cell_same (hoth c (cell_lt this) (nimm c k u hu))]
    exact this
  · obtain ⟨h1, h2⟩ := hm.muW j c hc
    exact ⟨Nat.lt_of_lt_of_le h1 hsz, fun hl => h2 (liveAt_set hl hi)⟩
  · rcases hlow with h1 | ⟨h1, h2⟩
    · exact .inl h1
    · rcases hm.low with h3 | h3
      · rw [h1] at h3; cases h3
      · refine .inr fun j x hj hx => ?_
        by_cases hji : j = i
        · subst hji
          have hlt : j < h.length := hm.dom j b hb
          simp [hset, hlt] at hx
          subst hx
          obtain ⟨ox, hox, _⟩ := hi
          obtain ⟨ob, h4, h5⟩ := h3 j ox hj hox
          exact ⟨ob, h4, fun m hm => h2 hj ox hox m (h5 m hm)⟩
        · unfold hset at hx
          rw [List.getElem?_set_ne (Ne.symm hji)] at hx
          exact h3 j x hj hx

/-- A row's tail is written; it will never be written again. -/
theorem MemG.tail (hm : MemG cx hb0 h fl g w) {b lo : Nat} {us : List Value} {cur cur' : Array Value} {t : TypeId} {fr : Nat × Nat} (hb : w.heap[b]? = some (.cells cur t fr)) (hmay : cx.may b) (hnot : ∀ i, LiveAt h i → g.mu i ≠ some b)
    (himm : ∀ k, lo ≤ k → g.imm b k = none) {w' : World} (hsz : w'.heap.size = w.heap.size) (hoth : ∀ c, c ≠ b → w'.heap[c]? = w.heap[c]?) (hb' : w'.heap[b]? = some (.cells cur' t fr))
    (hlow : ∀ (k : Nat), k < lo → cur'[k]? = cur[k]?) (hus : ∀ (j : Nat) (u : Value), us[j]? = some u → cur'[lo + j]? = some u) : MemG cx hb0 h fl (g.addImm b lo us) w' := by
  have hle : GLe g (g.addImm b lo us) := Gh.addImm_le fun k hk _ => himm k hk
  refine ⟨⟨fun i x hx hl => ?_, fun c k u hu => ?_⟩, hm.ge.trans hle, fun c o hc hW => ?_, hm.fbl, hm.lbh, hm.muOld, hm.dom, fun i c hc => ?_, hm.new, hm.inj, fun i c hi hc k => ?_, hm.low⟩
  · obtain ⟨c, hc, hob⟩ := hm.hr.obj i x hx hl
    have : c ≠ b := fun e => hnot i ⟨x, hx, hl⟩ (e ▸ hc)
    exact ⟨c, hc, hob.mono hle (hoth c this)⟩
  · by_cases hc : c = b
    · subst hc
      simp only [World.cell?, hb']
      simp only [Gh.addImm] at hu
      split at hu
      · rename_i hk
        have := hus (k - lo) u hu
        rw [show lo + (k - lo) = k by omega] at this
        simpa using this
      · have hk : k < lo := by
          rcases Nat.lt_or_ge k lo with hk | hk
          · exact hk
          · rw [himm k hk] at hu; cases hu
        have := hm.hr.imm c k u hu
        simp only [World.cell?, hb] at this
        simpa [hlow k hk] using this
    · rw [Gh.addImm_other hc] at hu
      rw [cell_same (hoth c hc)]
      exact hm.hr.imm c k u hu
  · by_cases hcb : c = b
    · subst hcb
      rcases hmay with h1 | h1
      · omega
      · exact absurd h1 hW
    · rw [Gh.addImm_other hcb]; exact hm.immW c o hc hW
  · rw [hsz]; exact hm.muW i c hc
  · have hcb : c ≠ b := fun e => hnot i hi (e ▸ hc)
    rw [Gh.addImm_other hcb]; exact hm.muimm i c hi hc k

/-- An object is frozen. -/
theorem MemG.freeze (hm : MemG cx hb0 h fl g w) {i b : Nat} (hi : LiveAt h i) (hb : g.mu i = some b) (hnew : cx.n0 ≤ i) {us : List Value} (hus : ∀ (j : Nat) (u : Value), us[j]? = some u → w.cell? ⟨b, j, none⟩ = some u) :
    MemG cx hb0 (hset h i .dead) fl (g.addImm b 0 us) w := by
  have hlen : (hset h i .dead).length = h.length := by simp [hset]
  have hle : GLe g (g.addImm b 0 us) := Gh.addImm_le fun k _ _ => hm.muimm i b hi hb k
  have live : ∀ j, LiveAt (hset h i .dead) j → j ≠ i ∧ LiveAt h j := fun j hj => by
    obtain ⟨x, hx, hl⟩ := hj
    by_cases hji : j = i
    · subst hji
      have hlt : j < h.length := hm.dom j b hb
      simp [hset, hlt] at hx
      subst hx
      cases hl
    · unfold hset at hx
      rw [List.getElem?_set_ne (Ne.symm hji)] at hx
      exact ⟨hji, x, hx, hl⟩
  have hbn := hm.new i b hnew hb
  refine ⟨⟨fun j x hx hl => ?_, fun c k u hu => ?_⟩, hm.ge.trans hle, fun c o hc hW => ?_, hm.fbl, by rw [hlen]; exact hm.lbh, hm.muOld, fun j c hc => by rw [hlen]; exact hm.dom j c hc, fun j c hc => ?_, hm.new, fun j k c hj hk => hm.inj j k c (live j hj).2 (live k hk).2, fun j c hj hc k => ?_, ?_⟩
  · have hji := (live j ⟨x, hx, hl⟩).1
    unfold hset at hx
    rw [List.getElem?_set_ne (Ne.symm hji)] at hx
    obtain ⟨c, hc, hob⟩ := hm.hr.obj j x hx hl
    exact ⟨c, hc, hob.mono hle rfl⟩
  · by_cases hc : c = b
    · subst hc
      simp only [Gh.addImm] at hu
      split at hu
      · have := hus (k - 0) u hu
        simpa using this
      · exact hm.hr.imm c k u hu
    · rw [Gh.addImm_other hc] at hu
      exact hm.hr.imm c k u hu
  · rw [Gh.addImm_other (by omega)]; exact hm.immW c o hc hW
  · obtain ⟨h1, h2⟩ := hm.muW j c hc
    exact ⟨h1, fun hl => h2 (live j hl).2⟩
  · obtain ⟨hji, hlj⟩ := live j hj
    have hcb : c ≠ b := fun e => hji (hm.inj j i b hlj hi (e ▸ hc) hb)
    rw [Gh.addImm_other hcb]; exact hm.muimm j c hlj hc k
  · rcases hm.low with h1 | h1
    · exact .inl h1
    · refine .inr fun j x hj hx => ?_
      by_cases hji : j = i
      · subst hji
        have hlt : j < h.length := hm.dom j b hb
        simp [hset, hlt] at hx
        subst hx
        obtain ⟨ox, hox, _⟩ := hi
        obtain ⟨ob, h4, _⟩ := h1 j ox hj hox
        exact ⟨ob, h4, fun m _ => rfl⟩
      · unfold hset at hx
        rw [List.getElem?_set_ne (Ne.symm hji)] at hx
        exact h1 j x hj hx
end
end Go.Vm
