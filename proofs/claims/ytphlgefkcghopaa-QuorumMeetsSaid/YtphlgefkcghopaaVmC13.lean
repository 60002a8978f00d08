/- Rounds and calls: what was made in one goes with it. -/
import Derived.Test.YtphlgefkcghopaaVmC12
set_option linter.unusedVariables false
set_option linter.unusedSimpArgs false
namespace Go.Vm
attribute [local simp] evalOps_nil evalOps_cons evalOps_consg evalOp_mv evalOp_asg evalOp_pick evalOp_build evalOp_bslice evalOp_load evalOp_nilck evalOp_bin evalOp_un evalOp_conv evalOp_mkfn evalOp_slice evalOp_faddr evalOp_field evalOp_iaddr evalOp_index evalOp_lookup evalOp_extract evalOp_app evalOp_len evalOp_mn evalOp_mx evalOp_alloc evalOp_box evalOp_mkmap evalOp_store evalOp_mapupd evalOp_delete evalOp_sliceArr evalOp_call evalOp_callv evalOp_appc code_skip code_ops code_dops code_seq code_cond code_block code_exit code_ret finish_normal finish_ret
attribute [local simp] V.lt V.ltL V.flat V.pureCell V.pure V.isCell cellEq cellsEq eqV intV shV strV isShift binV unV byteV convV minV maxV foldV foldV1 fillV fillE findV putV delV isKey natOf natOr cut cellsAt mapAt mapOf loadV pickV nilckV sizeOk allSize sliceV faddrV fieldV iaddrV indexV found extractV allPure appV lenV ownHas ownOk storeC storeV samePtr appcV boxable mapupdV deleteV sliceArrV callV allLt clean bodyEnd resV one finishV runV initR

def BaseLt (h : Heap) : Prop := ∀ (i : Nat) (o : Obj), h[i]? = some o → o.lt h.length = true
theorem ERels.lt {g : Gh} {n : Nat} (hd : ∀ i b, g.mu i = some b → i < n) : ∀ {es : List MapEntry} {ps : List (V × V)}, ERels g es ps → pairsLt n ps = true
  | [], [], _ => rfl
  | e :: _, p :: _, ⟨h, t⟩ => by
    obtain ⟨k, v⟩ := p
    simp only [pairsLt, Bool.and_eq_true]
    exact ⟨⟨VR.lt (g := g) hd (.cell h.1), VR.lt hd h.2⟩, ERels.lt hd t⟩
  | [], _ :: _, h => h.elim
  | _ :: _, [], h => h.elim
theorem ObjR.lt {g : Gh} {w : World} {b n : Nat} {o : Obj} (h : ObjR g w b o) (hd : ∀ i b, g.mu i = some b → i < n) : o.lt n = true := by
  cases o with
  | cells cs own => obtain ⟨us, t, h1, h2, h3⟩ := h; exact VRs.lt hd h2
  | map es => obtain ⟨rs, c, h1, h2⟩ := h; exact h2.lt hd
  | dead => rfl
theorem ERels.trim {g : Gh} {n : Nat} : ∀ {es : List MapEntry} {ps : List (V × V)}, ERels g es ps → pairsLt n ps = true → ERels (g.trim n) es ps
  | [], [], _, _ => trivial
  | e :: _, p :: _, ⟨h, t⟩, hl => by
    obtain ⟨k, v⟩ := p
    simp only [pairsLt, Bool.and_eq_true] at hl
    exact ⟨⟨h.1, h.2.trim hl.1.2⟩, ERels.trim t hl.2⟩
  | [], _ :: _, h, _ => h.elim
  | _ :: _, [], h, _ => h.elim
theorem ObjR.trim {g : Gh} {w : World} {b n : Nat} {o : Obj} (h : ObjR g w b o) (hl : o.lt n = true) : ObjR (g.trim n) w b o := by
  cases o with
  | cells cs own => obtain ⟨us, t, h1, h2, h3⟩ := h; exact ⟨us, t, h1, h2.trim hl, h3⟩
  | map es => obtain ⟨rs, c, h1, h2⟩ := h; exact ⟨rs, c, h1, h2.trim hl⟩
  | dead => trivial

abbrev Inv0 (cx : Cx) (N : Nat) (hb : Heap) (own : Ows) (rs : Regs) (h : Heap) (fl : Fl) (g : Gh) (a : Act) (w : World) : Prop := Inv cx N hb ⟨own, [], [], none⟩ rs h fl g a w
/-- What the state at a round's beginning says of the older objects. -/
structure From (cx : Cx) (hb h : Heap) (fl : Fl) : Prop where
  fbl : cx.n0 ≤ hb.length
  lbh : hb.length ≤ h.length
  low : fl.esc = true ∨ ∀ (i : Nat) (o : Obj), i < hb.length → h[i]? = some o → ∃ ob : Obj, hb[i]? = some ob ∧ ∀ m, ob.lt m = true → o.lt m = true

section
variable {cx : Cx} {N : Nat} {hb0 : Heap} {S : Ow} {own : Ows} {rs : Regs} {h h' : Heap} {fl fl' : Fl} {g : Gh} {a : Act} {w : World}

theorem Inv.frm (hi : Inv cx N hb0 S rs h fl g a w) : From cx hb0 h fl := ⟨hi.G.fbl, hi.G.lbh, hi.G.low⟩
theorem MemG.baseLt (hm : MemG cx hb0 h fl g w) : BaseLt h := fun i o ho => by
  cases hl : o.live
  · cases o <;> first | (cases hl; done) | rfl
  · obtain ⟨b, _, hob⟩ := hm.hr.obj i o ho hl
    exact hob.lt hm.dom
theorem Inv.rebase (hi : Inv cx N hb0 S rs h fl g a w) : Inv cx N h S rs h ⟨fl.wr, false⟩ g a w :=
  ⟨hi.W.fl' id, ⟨hi.G.hr, hi.G.ge, hi.G.immW, Nat.le_trans hi.G.fbl hi.G.lbh, Nat.le_refl _, hi.G.muOld, hi.G.dom, hi.G.muW, hi.G.new, hi.G.inj, hi.G.muimm, .inr fun i o _ ho => ⟨o, ho, fun _ h => h⟩⟩, hi.O, hi.F⟩
theorem From.low2 (hf : From cx hb0 h fl) (hl : fl'.esc = true ∨ ∀ (i : Nat) (o : Obj), i < h.length → h'[i]? = some o → ∃ ob : Obj, h[i]? = some ob ∧ ∀ m, ob.lt m = true → o.lt m = true) :
    (fl.esc || fl'.esc) = true ∨ ∀ (i : Nat) (o : Obj), i < hb0.length → h'[i]? = some o → ∃ ob : Obj, hb0[i]? = some ob ∧ ∀ m, ob.lt m = true → o.lt m = true := by
  rcases hf.low with h1 | h1
  · exact .inl (by simp [h1])
  · rcases hl with h2 | h2
    · exact .inl (by simp [h2])
    · refine .inr fun i o hi ho => ?_
      obtain ⟨x, hx, hxo⟩ := h2 i o (Nat.lt_of_lt_of_le hi hf.lbh) ho
      obtain ⟨y, hy, hyx⟩ := h1 i x hi hx
      exact ⟨y, hy, fun m hm => hxo m (hyx m hm)⟩
/-- Back to the older base. -/
theorem Inv.unbase (hi : Inv cx N h S rs h' fl' g a w) (hf : From cx hb0 h fl) : Inv cx N hb0 S rs h' ⟨fl'.wr, fl.esc || fl'.esc⟩ g a w :=
  ⟨hi.W.fl' id, ⟨hi.G.hr, hi.G.ge, hi.G.immW, hf.fbl, Nat.le_trans hf.lbh hi.G.lbh, hi.G.muOld, hi.G.dom, hi.G.muW, hi.G.new, hi.G.inj, hi.G.muimm, hf.low2 hi.G.low⟩, hi.O, hi.F⟩
theorem RR.keep {live : List Nat} (hr : RR g a rs) : RR g a (keep rs live) := by
  intro r
  induction live with
  | nil => exact .top
  | cons q l ih =>
    simp only [Vm.keep, get]
    by_cases hq : r = q
    · subst hq; simpa using hr r
    · simpa [hq] using ih
theorem Inv.keep {live : List Nat} (hi : Inv0 cx N hb0 own rs h fl g a w) : Inv0 cx N hb0 own (keep rs live) h fl g a w := by
  obtain ⟨hO, hf⟩ := hi.own0 rfl
  exact ⟨hi.W, hi.G, ⟨none, hO, ⟨hf.al, hf.la, .inl ⟨rfl, rfl⟩⟩⟩, ⟨hi.F.size, hi.F.nodef, hi.F.regs.keep⟩⟩
theorem allLt_get {n : Nat} : ∀ {rs : Regs}, allLt n rs = true → ∀ r, (get rs r).lt n = true
  | [], _, r => by simp
  | (k, v) :: rs, h, r => by
    simp only [allLt, Bool.and_eq_true] at h
    simp only [get]
    by_cases hr : r = k
    · simpa [hr] using h.1
    · simpa [hr] using allLt_get h.2 r
theorem take_get {n i : Nat} {o : Obj} (h : (h'.take n)[i]? = some o) : i < n ∧ h'[i]? = some o := by
  rw [List.getElem?_take] at h
  split at h
  · exact ⟨by assumption, h⟩
  · cases h
/-- The objects from the base on go. -/
theorem MemG.cut (hm : MemG cx h h' fl' g w) (he : fl'.esc = false) (hb : BaseLt h) : MemG cx h (h'.take h.length) fl' (g.trim h.length) w := by
  have hle : h.length ≤ h'.length := hm.lbh
  have hlen : (h'.take h.length).length = h.length := by simp; omega
  have live : ∀ i, LiveAt (h'.take h.length) i → i < h.length ∧ LiveAt h' i := fun i hl => by
    obtain ⟨o, ho, hl⟩ := hl
    obtain ⟨h1, h2⟩ := take_get ho
    exact ⟨h1, o, h2, hl⟩
  have mu : ∀ i b, (g.trim h.length).mu i = some b → i < h.length ∧ g.mu i = some b := fun i b hb => by
    simp only [Gh.trim] at hb
    split at hb
    · exact ⟨by assumption, hb⟩
    · cases hb
  have low : ∀ (i : Nat) (o : Obj), i < h.length → h'[i]? = some o → ∃ ob : Obj, h[i]? = some ob ∧ ∀ m, ob.lt m = true → o.lt m = true := by
    rcases hm.low with h1 | h1
    · rw [he] at h1; cases h1
    · exact h1
  have objLt : ∀ (i : Nat) (o : Obj), i < h.length → h'[i]? = some o → o.lt h.length = true := fun i o hi ho => by
    obtain ⟨ob, h1, h2⟩ := low i o hi ho
    exact h2 _ (hb i ob h1)
  refine ⟨⟨fun i o ho hl => ?_, hm.hr.imm⟩, ⟨fun i b hb => ?_, hm.ge.imm⟩, hm.immW, hm.fbl, by rw [hlen]; exact Nat.le_refl _, fun i hi => ?_, fun i b hb => by rw [hlen]; exact (mu i b hb).1, fun i b hb => ?_, fun i b hi hb => hm.new i b hi (mu i b hb).2, fun i j b hi hj hbi hbj => hm.inj i j b (live i hi).2 (live j hj).2 (mu i b hbi).2 (mu j b hbj).2,
    fun i b hi hb => hm.muimm i b (live i hi).2 (mu i b hb).2, .inr fun i o hi ho => low i o hi (take_get ho).2⟩
  · obtain ⟨h1, h2⟩ := take_get ho
    obtain ⟨b, hb, hob⟩ := hm.hr.obj i o h2 hl
    exact ⟨b, by simp [Gh.trim, h1, hb], hob.trim (objLt i o h1 h2)⟩
  · have h1 := hm.ge.mu i b hb
    have h2 : i < cx.n0 := by
      simp only [Gh.trim] at hb
      split at hb
      · assumption
      · cases hb
    have := hm.fbl
    simp only [Gh.trim]
    rw [if_pos (by omega)]
    exact h1
  · have := hm.fbl
    simp only [Gh.trim]
    rw [if_pos (by omega)]
    exact hm.muOld i hi
  · obtain ⟨h1, h2⟩ := hm.muW i b (mu i b hb).2
    exact ⟨h1, fun hl => h2 (live i hl).2⟩
theorem OwnI.cut {n : Nat} {tmps : Array Value} (hO : OwnI cx own none h' g tmps w) : OwnI cx own none (h'.take n) (g.trim n) tmps w := by
  refine hO.map (fun p q => p = q) (fun _ _ _ e1 e2 => e1.trans e2.symm) (fun p sz x hp => .inr ⟨_, sz, rfl, ?_, .inl rfl⟩) (fun p q b e hn => e ▸ hn) (fun q sz x b _ _ _ => ⟨⟨rfl, fun _ h => h⟩, fun i hl hm => ?_⟩)
  · cases p with
    | reg r off => exact hp
    | cell i j =>
      obtain ⟨cs, ow, b, h1, h2, h3, h4, h5⟩ := hp
      obtain ⟨e1, e2⟩ := take_get h1
      exact ⟨cs, ow, b, e2, h2, h3, by simpa [Gh.trim, e1] using h4, h5⟩
  · obtain ⟨o, ho, hl⟩ := hl
    obtain ⟨e1, e2⟩ := take_get ho
    exact ⟨⟨o, e2, hl⟩, by simpa [Gh.trim, e1] using hm⟩
/-- Behind a round. -/
theorem Inv.clean (hi : Inv0 cx N h own rs h' fl' g a w) (hf : From cx hb0 h fl) (hb : BaseLt h) {g0 : Gh} (hd0 : ∀ i b, g0.mu i = some b → i < h.length) (hg : GLe g0 g) :
    ∃ g', GLe g0 g' ∧ Inv0 cx N hb0 own (clean h.length fl.esc rs ⟨rs, h', fl'⟩).rs (clean h.length fl.esc rs ⟨rs, h', fl'⟩).h (clean h.length fl.esc rs ⟨rs, h', fl'⟩).fl g' a w := by
  unfold Vm.clean
  cases hc : (!fl'.esc && allLt h.length rs)
  · exact ⟨g, hg, hi.unbase hf⟩
  · simp only [Bool.and_eq_true, Bool.not_eq_true'] at hc
    obtain ⟨he, hlt⟩ := hc
    obtain ⟨hO, hfc⟩ := hi.own0 rfl
    refine ⟨g.trim h.length, ⟨fun i b hb => ?_, hg.imm⟩, ?_⟩
    · simp only [Gh.trim]
      rw [if_pos (hd0 i b hb)]
      exact hg.mu i b hb
    · have h1 : Inv0 cx N h own rs (h'.take h.length) fl' (g.trim h.length) a w :=
        ⟨hi.W, hi.G.cut he hb, ⟨none, hO.cut, ⟨hfc.al, hfc.la, .inl ⟨rfl, rfl⟩⟩⟩, ⟨hi.F.size, hi.F.nodef, fun r => (hi.F.regs r).trim (allLt_get hlt r)⟩⟩
      have h2 := h1.unbase hf
      rw [he] at h2
      simpa using h2
end
end Go.Vm
