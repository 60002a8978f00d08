/- A call: what it rests on, what it leaves. -/
import Derived.Test.YtphlgefkcghopaaVmC10
set_option linter.unusedVariables false
set_option linter.unusedSimpArgs false
namespace Go.Vm
attribute [local simp] evalOps_nil evalOps_cons evalOps_consg evalOp_mv evalOp_asg evalOp_pick evalOp_build evalOp_bslice evalOp_load evalOp_nilck evalOp_bin evalOp_un evalOp_conv evalOp_mkfn evalOp_slice evalOp_faddr evalOp_field evalOp_iaddr evalOp_index evalOp_lookup evalOp_extract evalOp_app evalOp_len evalOp_mn evalOp_mx evalOp_alloc evalOp_box evalOp_mkmap evalOp_store evalOp_mapupd evalOp_delete evalOp_sliceArr evalOp_call evalOp_callv evalOp_appc code_skip code_ops code_dops code_seq code_cond code_block code_exit code_ret finish_normal finish_ret
attribute [local simp] V.lt V.ltL V.flat V.pureCell V.pure V.isCell cellEq cellsEq eqV intV shV strV isShift binV unV byteV convV minV maxV foldV foldV1 fillV fillE findV putV delV isKey natOf natOr cut cellsAt mapAt mapOf loadV pickV nilckV sizeOk allSize sliceV faddrV fieldV iaddrV indexV found extractV allPure appV lenV ownHas ownOk storeC storeV samePtr appcV boxable mapupdV deleteV sliceArrV callV allLt clean bodyEnd resV one finishV runV initR

/-- What a call may rest on. -/
structure Pre (h : Heap) (g : Gh) (w : World) : Prop where
  hr : HRead g h w
  dom : ∀ i b, g.mu i = some b → i < h.length
  muW : ∀ i b, g.mu i = some b → b < w.heap.size
  inj : ∀ i j b, LiveAt h i → LiveAt h j → g.mu i = some b → g.mu j = some b → i = j
  muimm : ∀ i b, LiveAt h i → g.mu i = some b → ∀ k, g.imm b k = none
  own : ∀ p sz u, Held [] none h g #[] w p sz u → OwnR w g.imm sz u
  blk : ∀ p sz u b, Held [] none h g #[] w p sz u → ownBlk u = some b → ∀ i, LiveAt h i → g.mu i ≠ some b
  dis : ∀ p q sz sz' u u' b, Held [] none h g #[] w p sz u → Held [] none h g #[] w q sz' u' → ownBlk u = some b → ownBlk u' = some b → p = q
def cellOwn (h : Heap) (g : Gh) (w : World) (i j b : Nat) : Prop := ∃ sz u, Held [] none h g #[] w (.cell i j) sz u ∧ ownBlk u = some b
def calleeCx (h : Heap) (g : Gh) (w : World) : Cx where
  w0 := w
  g0 := g
  n0 := h.length
  W b := (∃ i, LiveAt h i ∧ g.mu i = some b) ∨ ∃ i j, cellOwn h g w i j b
  O := cellOwn h g w
  hO i j b hb := by
    obtain ⟨sz, u, ⟨cs, own, b, h1, _⟩, _⟩ := hb
    exact (List.getElem?_eq_some_iff.1 h1).1
/-- A value with a slice of its caller's own. -/
def OwnRes (cx : Cx) (h : Heap) (g : Gh) (w : World) (sz : Nat) (u : Value) : Prop :=
  OwnR w g.imm sz u ∧ ∀ b, ownBlk u = some b → cx.w0.heap.size ≤ b ∧ (∀ i, LiveAt h i → g.mu i ≠ some b) ∧ ∀ p sz' u', Held [] none h g #[] w p sz' u' → ownBlk u' ≠ some b
/-- What it leaves. -/
def CallPost (cx : Cx) (hb : Heap) (own : Option Nat) (r : V × Heap × Fl) (u : Value) (w : World) : Prop :=
  ∃ g, MemW cx r.2.2 w ∧ MemG cx hb r.2.1 r.2.2 g w ∧ OwnI cx [] none r.2.1 g #[] w ∧ VR g u r.1 ∧ ∀ sz, own = some sz → ∀ x, u.cells[0]? = some x → OwnRes cx r.2.1 g w sz x
def CallOk (P : Program) (f : Nat) (uargs : Array Value) (w : World) (R : Value → World → Prop) : Prop :=
  ((callFunc f uargs).run P w = .ok (.enter f uargs) w ∧ Calls P f uargs w (fun e w' => ∃ u, e = .returned u ∧ R u w')) ∨ ∃ u w', (callFunc f uargs).run P w = .ok (.value u) w' ∧ R u w'
def FnOk (P : Program) (own : Nat → Option Nat) (C : Callee) : Prop :=
  ∀ f vargs h r, C f vargs h = some r → ∀ g w (uargs : Array Value), Pre h g w → VRs g uargs.toList vargs → CallOk P f uargs w (CallPost (calleeCx h g w) h (own f) r)

theorem held_cell {ow : Ows} {h : Heap} {g : Gh} {tmps : Array Value} {w : World} {i j sz : Nat} {u : Value} (hp : Held ow none h g tmps w (.cell i j) sz u) (tmps' : Array Value) (ow' : Ows) : Held ow' none h g tmps' w (.cell i j) sz u := hp
section
variable {P : Program} {R : Nat → Option Nat} {cx : Cx} {N : Nat} {hb0 : Heap} {S T : Ow} {rs : Regs} {h : Heap} {fl : Fl} {g : Gh} {a : Act} {w : World} {o : Oper} {gd vop : VOp}

theorem Inv.own0 (hi : Inv cx N hb0 S rs h fl g a w) (hpd : S.pd = none) : OwnI cx S.own none h g a.tmps w ∧ Facts S none rs a.tmps w := by
  obtain ⟨pd, hO, hf⟩ := hi.O
  rcases hf.pd with ⟨_, h2⟩ | ⟨p, d, i, j, h2, _⟩
  · subst h2; exact ⟨hO, hf⟩
  · rw [hpd] at h2; cases h2
theorem Inv.pre (hi : Inv cx N hb0 S rs h fl g a w) (hpd : S.pd = none) : Pre h g w := by
  obtain ⟨hO, _⟩ := hi.own0 hpd
  have up : ∀ p sz u, Held [] none h g #[] w p sz u → Held S.own none h g a.tmps w p sz u := fun p sz u hp => by
    cases p with
    | reg r off => obtain ⟨h1, _⟩ := hp; simp at h1
    | cell i j => exact hp
  exact ⟨hi.G.hr, hi.G.dom, fun i b hb => (hi.G.muW i b hb).1, hi.G.inj, hi.G.muimm, fun p sz u hp => hO.own p sz u (up p sz u hp), fun p sz u b hp hb => (hO.blk p sz u b (up p sz u hp) hb).2.1, fun p q sz sz' u u' b hp hq => hO.dis p q sz sz' u u' b (up p sz u hp) (up q sz' u' hq)⟩

/-- The caller goes on. -/
theorem after_call (hi : Inv cx N hb0 S rs h fl g a w) (hpd : S.pd = none) {own : Option Nat} {r : V × Heap × Fl} {u : Value} {w' : World} (hp : CallPost (calleeCx h g w) h own r u w') :
    ∃ g', GLe g g' ∧ Inv cx N hb0 (offLa S) rs r.2.1 (fl.or r.2.2) g' a w' ∧ VR g' u r.1 ∧ w.heap.size ≤ w'.heap.size ∧ (∀ sz, own = some sz → ∀ x, u.cells[0]? = some x → OwnRes (calleeCx h g w) r.2.1 g' w' sz x) ∧
      (∀ q off sz x b, (q, off, sz) ∈ S.own → (a.tmps.getD q Go.undef).cells[off]? = some x → ownBlk x = some b → b < w.heap.size) := by
  obtain ⟨g', hW', hG', hO', hu, hown⟩ := hp
  obtain ⟨hO, hf⟩ := hi.own0 hpd
  have hsz : w.heap.size ≤ w'.heap.size := hW'.hsz
  have hle : GLe g g' := ⟨fun i b hb => hG'.ge.mu i b (by simp only [Gh.trim]; rw [if_pos (show i < (calleeCx h g w).n0 from hi.G.dom i b hb)]; exact hb), hG'.ge.imm⟩
  have hW0 := hi.W.hsz
  -- what the callee may write the caller may
  have may : ∀ b, (calleeCx h g w).may b → cx.may b := fun b hb => by
    rcases hb with hb | ⟨i, hl, hm⟩ | ⟨i, j, sz, x, hx, hb⟩
    · exact .inl (Nat.le_trans hW0 hb)
    · exact (hi.G.muW i b hm).2 hl
    · exact (hO.blk _ _ _ b (held_cell hx _ _) hb).1
  have regNot : ∀ q off sz x b, Held S.own none h g a.tmps w (.reg q off) sz x → ownBlk x = some b → b < w.heap.size ∧ ¬ (calleeCx h g w).W b := fun q off sz x b hx hb => by
    refine ⟨(hO.own _ _ _ hx).lt hb, ?_⟩
    rintro (⟨i, hl, hm⟩ | ⟨i, j, sz', y, hy, hb'⟩)
    · exact (hO.blk _ _ _ b hx hb).2.1 i hl hm
    · cases hO.dis _ _ _ _ _ _ b hx (held_cell hy _ _) hb hb'
  have regHeap : ∀ q off sz x b, Held S.own none h g a.tmps w (.reg q off) sz x → ownBlk x = some b → w'.heap[b]? = w.heap[b]? := fun q off sz x b hx hb => hW'.old b (regNot q off sz x b hx hb).1 (regNot q off sz x b hx hb).2
  have regImm : ∀ q off sz x b k, Held S.own none h g a.tmps w (.reg q off) sz x → ownBlk x = some b → g'.imm b k = g.imm b k := fun q off sz x b k hx hb => hG'.immW b k (regNot q off sz x b hx hb).1 (regNot q off sz x b hx hb).2
  refine ⟨g', hle, ⟨?_, ?_, ⟨none, ?_, ⟨hf.al, fun t p hm => by simp [offLa] at hm, .inl ⟨hpd, rfl⟩⟩⟩, hi.F.mono hle⟩, hu, hsz, hown, fun q off sz x b hm hx hb => (hO.own (.reg q off) sz x ⟨hm, hx⟩).lt hb⟩
  · refine ⟨hW'.os.trans hi.W.os, hW'.tape.trans hi.W.tape, hW'.out.trans hi.W.out, Nat.le_trans hW0 hsz, fun b hb hWb => ?_, fun e b hb => ?_⟩
    · rw [hW'.old b (Nat.lt_of_lt_of_le hb hW0) ?_]
      · exact hi.W.old b hb hWb
      · intro hb'
        rcases may b (.inr hb') with h1 | h1
        · omega
        · exact hWb h1
    · simp only [Fl.or, Bool.or_eq_false_iff] at e
      rw [hW'.wr e.2 b (Nat.lt_of_lt_of_le hb hW0)]
      exact hi.W.wr e.1 b hb
  · have hfbl := hi.G.fbl
    have hlbh := hi.G.lbh
    have hlen : h.length ≤ r.2.1.length := hG'.lbh
    refine ⟨hG'.hr, hi.G.ge.trans hle, fun b k hb hWb => ?_, hfbl, Nat.le_trans hlbh hlen, fun i hi' => ?_, hG'.dom, fun i b hb => ?_, fun i b hi' hb => ?_, hG'.inj, hG'.muimm, ?_⟩
    · rw [hG'.immW b k (Nat.lt_of_lt_of_le hb hW0) ?_]
      · exact hi.G.immW b k hb hWb
      · intro hb'
        rcases may b (.inr hb') with h1 | h1
        · omega
        · exact hWb h1
    · rw [hG'.muOld i (show i < h.length by omega)]
      exact hi.G.muOld i hi'
    · obtain ⟨h1, h2⟩ := hG'.muW i b hb
      exact ⟨h1, fun hl => may b (h2 hl)⟩
    · by_cases hlt : i < h.length
      · have : g'.mu i = g.mu i := hG'.muOld i hlt
        rw [this] at hb
        exact hi.G.new i b hi' hb
      · exact Nat.le_trans hW0 (hG'.new i b (Nat.le_of_not_lt hlt) hb)
    · simp only [Fl.or, Bool.or_eq_true]
      rcases hi.G.low with h1 | h1
      · exact .inl (.inl h1)
      · rcases hG'.low with h2 | h2
        · exact .inl (.inr h2)
        · refine .inr fun i x hx hix => ?_
          obtain ⟨y, hy, hyx⟩ := h2 i x (by omega) hix
          obtain ⟨ob, hob, hoby⟩ := h1 i y hx hy
          exact ⟨ob, hob, fun m hm => hyx m (hoby m hm)⟩
  · have split : ∀ p sz x, Held (offLa S).own none r.2.1 g' a.tmps w' p sz x → (∃ q off, p = .reg q off ∧ Held S.own none h g a.tmps w p sz x) ∨ ∃ i j, p = .cell i j ∧ Held [] none r.2.1 g' #[] w' p sz x := fun p sz x hp => by
      cases p with
      | reg q off => exact .inl ⟨q, off, rfl, hp⟩
      | cell i j => exact .inr ⟨i, j, rfl, hp⟩
    have regCell : ∀ q off sz x b i j sz' y, Held S.own none h g a.tmps w (.reg q off) sz x → ownBlk x = some b → Held [] none r.2.1 g' #[] w' (.cell i j) sz' y → ownBlk y = some b → False := fun q off sz x b i j sz' y hx hb hy hb' => by
      obtain ⟨h1, h2⟩ := regNot q off sz x b hx hb
      rcases (hO'.blk _ _ _ b hy hb').1 with h3 | h3
      · have : w.heap.size ≤ b := h3
        omega
      · exact h2 h3
    refine ⟨fun p sz x hp => ?_, fun p sz x b hp hb => ?_, fun p q sz sz' x x' b hp hq hb hb' => ?_⟩
    · rcases split p sz x hp with ⟨q, off, rfl, hp⟩ | ⟨i, j, rfl, hp⟩
      · exact (hO.own _ _ _ hp).move fun b hb => ⟨regHeap q off sz x b hp hb, fun k hk => by rw [regImm q off sz x b k hp hb]; exact hk⟩
      · exact hO'.own _ _ _ hp
    · rcases split p sz x hp with ⟨q, off, rfl, hp⟩ | ⟨i, j, rfl, hp⟩
      · obtain ⟨h1, h2, h3⟩ := hO.blk _ _ _ b hp hb
        refine ⟨h1, fun i hl hm => ?_, h3⟩
        obtain ⟨h4, h5⟩ := regNot q off sz x b hp hb
        rcases (hG'.muW i b hm).2 hl with h6 | h6
        · have : w.heap.size ≤ b := h6
          omega
        · exact h5 h6
      · obtain ⟨h1, h2, h3⟩ := hO'.blk _ _ _ b hp hb
        refine ⟨may b h1, h2, fun hlt => ?_⟩
        obtain ⟨sz', y, hy, hb'⟩ := h3 (Nat.lt_of_lt_of_le hlt hW0)
        exact (hO.blk _ _ _ b (held_cell hy _ _) hb').2.2 hlt
    · rcases split p sz x hp with ⟨q1, off1, rfl, hp⟩ | ⟨i1, j1, rfl, hp⟩ <;> rcases split q sz' x' hq with ⟨q2, off2, rfl, hq⟩ | ⟨i2, j2, rfl, hq⟩
      · exact hO.dis _ _ _ _ _ _ b hp hq hb hb'
      · exact (regCell _ _ _ _ _ _ _ _ _ hp hb hq hb').elim
      · exact (regCell _ _ _ _ _ _ _ _ _ hq hb' hp hb).elim
      · exact hO'.dis _ _ _ _ _ _ b hp hq hb hb'

theorem quiet_same {q : Bool} {r r' : V × Heap × Fl} (hq : quiet q h r = some r') : r' = r := by
  cases q
  · cases hq; rfl
  · simp only [quiet, cnd_true] at hq
    obtain ⟨v, hv, hq⟩ := bnd_eq_some hq
    unfold still at hv
    split at hv
    · rename_i hc
      cases hv; cases hq
      obtain ⟨r1, r2, r3⟩ := r
      simp only at hc
      rw [hc.1, hc.2]
    · cases hv
theorem exec_call {c : Call} (hop : o.op = .call c) {y : Operand} (hc : c.callee = .value y) {f : Nat} {us vs : Array Value} (hy : a.eval y = .func (.func f) us vs) : (execOp a.eval o).run P w = (callFunc f (us ++ c.args.map a.eval ++ vs)).run P w := by
  unfold execOp
  rw [hop]
  simp only [resolve, hc, hy, Deferred.ofValue, invoke, Sem.run_bind, Sem.run_pure, Result.andThen_ok]

def ownAfter (dst : Option Nat) : Option Nat → Ow → Ow
  | some sz, T => addOwn dst 0 sz T
  | none, T => T
theorem call_core (hi : Inv cx N hb0 S rs h fl g a w) {C : Callee} (hC : FnOk P R C) {f : Nat} {vargs : List V} {r : V × Heap × Fl} (hr : C f vargs h = some r) {uargs : Array Value} (hargs : VRs g uargs.toList vargs) (hexec : (execOp a.eval o).run P w = (callFunc f uargs).run P w)
    (hpd : S.pd = none) {T0 : Ow} (hk : S.kill o.dst = some T0) (own : Option Nat) (hown : own = none ∨ own = R f) (hT : T = ownAfter o.dst own (offLa T0)) (hd : ∀ x, o.dst = some x → x < N)
    {K : Act → World → Prop} {Q : Exit → Act → World → Prop} (hK : ∀ u w' g', GLe g g' → Inv cx N hb0 T (putR o.dst r.1 rs) r.2.1 (fl.or r.2.2) g' (a.put o.dst u) w' → K (a.put o.dst u) w') : o.wp P a w K Q := by
  have main : ∀ u w', CallPost (calleeCx h g w) h (R f) r u w' → K (a.put o.dst u) w' := fun u w' hp => by
    obtain ⟨g', hle, hi', hu, hsz, hres, hlt⟩ := after_call hi hpd hp
    obtain ⟨T1, hk1, k1, k2, k3, k4⟩ := kill_nopd (S := offLa S) hpd o.dst
    have h2 := hi'.put hd hk1 hu
    obtain ⟨m1, m2, m3, m4⟩ := kill_sub hk
    have h3 : Inv cx N hb0 (offLa T0) (putR o.dst r.1 rs) r.2.1 (fl.or r.2.2) g' (a.put o.dst u) w' :=
      h2.weaken (fun x hx => (k2 x).2 (m2 x hx)) (fun x hx => (k3 x).2 (m3 x hx)) (fun x hx => by simp [offLa] at hx) ((show T0.pd = T1.pd by rw [m1, hpd, k1]))
    refine hK u w' g' hle ?_
    cases own with
    | none => rw [hT]; exact h3
    | some sz =>
      rw [hT]
      simp only [ownAfter]
      have hRf : R f = some sz := by
        rcases hown with h | h
        · cases h
        · exact h.symm
      cases hdst : o.dst with
      | none => simp only [addOwn]; rw [hdst] at h3; exact h3
      | some d =>
        rw [hdst] at h3
        have hlt' : d < a.tmps.size := by rw [hi.F.size]; exact hd d hdst
        have hpd3 : (offLa T0).pd = none := by show T0.pd = none; rw [m1, hpd]
        obtain ⟨hO3, hf3⟩ := h3.own0 hpd3
        refine ⟨h3.W, h3.G, ⟨none, hO3.add fun x hx => ?_, ⟨hf3.al, hf3.la, hf3.pd⟩⟩, h3.F⟩
        rw [put_get hlt'] at hx
        obtain ⟨hOu, hOb⟩ := hres sz hRf x hx
        refine ⟨hOu, fun b hb => ?_⟩
        obtain ⟨f1, f2, f3⟩ := hOb b hb
        have f1' : w.heap.size ≤ b := f1
        refine ⟨.inl (Nat.le_trans hi.W.hsz f1'), f2, fun hlt2 => by have := hi.W.hsz; omega, fun p sz' u' hp hb' => ?_⟩
        exfalso
        cases p with
        | cell i j => exact f3 _ _ _ (held_cell hp _ _) hb'
        | reg q off =>
          obtain ⟨hm, hx⟩ := hp
          obtain ⟨e1, e2⟩ := m2 _ hm
          rw [put_other hlt' (e2 d hdst)] at hx
          have := hlt q off sz' u' b e1 hx hb'
          omega
  unfold Oper.wp
  rw [hexec]
  rcases hC f vargs h r hr g w uargs (hi.pre hpd) hargs with ⟨h1, h2⟩ | ⟨u, w', h1, h2⟩
  · rw [h1, Oper.upon_enter]
    refine Calls.mono h2 fun e w' he => ?_
    obtain ⟨u, rfl, hp⟩ := he
    exact main u w' hp
  · rw [h1, Oper.upon_value]
    exact main u w' h2
end
end Go.Vm
