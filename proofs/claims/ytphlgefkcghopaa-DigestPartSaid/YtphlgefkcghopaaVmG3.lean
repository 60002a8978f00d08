/- The V-machine, part 3. -/
import Derived.Test.YtphlgefkcghopaaVmG2
import Derived.Lib.ConvBytes
import Derived.Orders
/- A call: what it rests on, what it leaves. -/
set_option linter.unusedVariables false
set_option linter.unusedSimpArgs false
namespace Go.Vm
attribute [local simp] evalOps_nil evalOps_cons evalOps_consg evalOp_mv evalOp_asg evalOp_pick evalOp_build evalOp_bslice evalOp_load evalOp_nilck evalOp_bin evalOp_un evalOp_conv evalOp_mkfn evalOp_slice evalOp_faddr evalOp_field evalOp_iaddr evalOp_index evalOp_lookup evalOp_extract evalOp_app evalOp_len evalOp_mn evalOp_mx evalOp_alloc evalOp_box evalOp_mkmap evalOp_store evalOp_mapupd evalOp_delete evalOp_sliceArr evalOp_call evalOp_callv evalOp_appc code_skip code_ops code_dops code_seq code_cond code_block code_exit code_ret finish_normal finish_ret
attribute [local simp] V.lt V.ltL V.flat V.pureCell V.pure V.isCell cellEq cellsEq eqV intV shV strV isShift binV unV byteV convV minV maxV foldV foldV1 fillV fillE findV putV delV isKey natOf natOr cut cellsAt mapAt mapOf loadV pickV nilckV sizeOk allSize sliceV faddrV fieldV iaddrV indexV found extractV allPure appV lenV ownHas ownOk storeC storeV samePtr appcV boxable mapupdV deleteV sliceArrV callV allLt clean bodyEnd resV one finishV runV initR

/-- What a call may rest on. -/
structure Pre (h : Heap) (g : Gh) (w : World) : Prop where
  hr : HRead g h w
  dom : ∀ i b, g.mu i = some b → i < h.length
  muW : ∀ i b, g.mu i = some b → b < w.heap.size
  inj : ∀ i j b, LiveAt h i → LiveAt h j → g.mu i = some b → g.mu j = some b → i = j
  muimm : ∀ i b, LiveAt h i → g.mu i = some b → ∀ k, g.imm b k = none
  own : ∀ p sz u, Held [] none h g #[] w p sz u → OwnR w g.imm sz u
  blk : ∀ p sz u b, Held [] none h g #[] w p sz u → ownBlk sz u = some b → ∀ i, LiveAt h i → g.mu i ≠ some b
  dis : ∀ p q sz sz' u u' b, Held [] none h g #[] w p sz u → Held [] none h g #[] w q sz' u' → ownBlk sz u = some b → ownBlk sz' u' = some b → p = q
def cellOwn (h : Heap) (g : Gh) (w : World) (i j b : Nat) : Prop := ∃ sz u, Held [] none h g #[] w (.cell i j) sz u ∧ ownBlk sz u = some b
def calleeCx (h : Heap) (g : Gh) (w : World) : Cx where
  w0 := w
  g0 := g
  n0 := h.length
  W b := (∃ i, LiveAt h i ∧ g.mu i = some b) ∨ ∃ i j, cellOwn h g w i j b
  O := cellOwn h g w
  hO i j b hb := by
    obtain ⟨sz, u, ⟨cs, own, b, h1, _⟩, _⟩ := hb
    exact (List.getElem?_eq_some_iff.1 h1).1
/-- A value with a slice of its caller's own. -/
def OwnRes (cx : Cx) (h : Heap) (g : Gh) (w : World) (sz : Nat) (u : Value) : Prop :=
  OwnR w g.imm sz u ∧ ∀ b, ownBlk sz u = some b → cx.w0.heap.size ≤ b ∧ (∀ i, LiveAt h i → g.mu i ≠ some b) ∧ ∀ p sz' u', Held [] none h g #[] w p sz' u' → ownBlk sz' u' ≠ some b
/-- What it leaves. -/
def CallPost (cx : Cx) (hb : Heap) (own : Option Nat) (r : V × Heap × Fl) (u : Value) (w : World) : Prop :=
  ∃ g, MemW cx r.2.2 w ∧ MemG cx hb r.2.1 r.2.2 g w ∧ OwnI cx [] none [] r.2.1 g #[] w ∧ VR g u r.1 ∧ ∀ sz, own = some sz → ∀ x, u.cells[0]? = some x → OwnRes cx r.2.1 g w sz x
def CallOk (P : Program) (f : Nat) (uargs : Array Value) (w : World) (R : Value → World → Prop) : Prop :=
  ((callFunc f uargs).run P w = .ok (.enter f uargs) w ∧ Calls P f uargs w (fun e w' => ∃ u, e = .returned u ∧ R u w')) ∨ ∃ u w', (callFunc f uargs).run P w = .ok (.value u) w' ∧ R u w'
def FnOk (P : Program) (own : Nat → Option Nat) (C : Callee) : Prop :=
  ∀ f vargs h r, C f vargs h = some r → ∀ g w (uargs : Array Value), Pre h g w → VRs g uargs.toList vargs → CallOk P f uargs w (CallPost (calleeCx h g w) h (own f) r)

theorem held_cell {ow : Ows} {h : Heap} {g : Gh} {tmps : Array Value} {w : World} {i j sz : Nat} {u : Value} (hp : Held ow none h g tmps w (.cell i j) sz u) (tmps' : Array Value) (ow' : Ows) : Held ow' none h g tmps' w (.cell i j) sz u := hp
section
variable {P : Program} {R : Nat → Option Nat} {cx : Cx} {N : Nat} {hb0 : Heap} {S T : Ow} {rs : Regs} {h : Heap} {fl : Fl} {g : Gh} {a : Act} {w : World} {o : Oper} {gd vop : VOp}

theorem Inv.own0 (hi : Inv cx N hb0 S rs h fl g a w) (hpd : S.pd = none) : OwnI cx S.own none rs h g a.tmps w ∧ Facts S none rs a.tmps w := by
  obtain ⟨pd, hO, hf⟩ := hi.O
  rcases hf.pd with ⟨_, h2⟩ | ⟨p, d, i, j, h2, _⟩
  · subst h2; exact ⟨hO, hf⟩
  · rw [hpd] at h2; cases h2
theorem Inv.pre (hi : Inv cx N hb0 S rs h fl g a w) (hpd : S.pd = none) : Pre h g w := by
  obtain ⟨hO, _⟩ := hi.own0 hpd
  have up : ∀ p sz u, Held [] none h g #[] w p sz u → Held S.own none h g a.tmps w p sz u := fun p sz u hp => by
    cases p with
    | reg r off => obtain ⟨h1, _⟩ := hp; simp at h1
    | cell i j => exact hp
  exact ⟨hi.G.hr, hi.G.dom, fun i b hb => (hi.G.muW i b hb).1, hi.G.inj, hi.G.muimm, fun p sz u hp => hO.own p sz u (up p sz u hp), fun p sz u b hp hb => (hO.blk p sz u b (up p sz u hp) hb).2.1, fun p q sz sz' u u' b hp hq => hO.dis p q sz sz' u u' b (up p sz u hp) (up q sz' u' hq)⟩

/-- The caller goes on. -/
theorem after_call (hi : Inv cx N hb0 S rs h fl g a w) (hpd : S.pd = none) {own : Option Nat} {r : V × Heap × Fl} {u : Value} {w' : World} (hp : CallPost (calleeCx h g w) h own r u w') :
    ∃ g', GLe g g' ∧ Inv cx N hb0 (offLa S) rs r.2.1 (fl.or r.2.2) g' a w' ∧ VR g' u r.1 ∧ w.heap.size ≤ w'.heap.size ∧ (∀ sz, own = some sz → ∀ x, u.cells[0]? = some x → OwnRes (calleeCx h g w) r.2.1 g' w' sz x) ∧
      (∀ q off sz x b, (q, off, sz) ∈ S.own → (a.tmps.getD q Go.undef).cells[off]? = some x → ownBlk sz x = some b → b < w.heap.size) := by
  obtain ⟨g', hW', hG', hO', hu, hown⟩ := hp
  obtain ⟨hO, hf⟩ := hi.own0 hpd
  have hsz : w.heap.size ≤ w'.heap.size := hW'.hsz
  have hle : GLe g g' := ⟨fun i b hb => hG'.ge.mu i b (by simp only [Gh.trim]; rw [if_pos (show i < (calleeCx h g w).n0 from hi.G.dom i b hb)]; exact hb), hG'.ge.imm⟩
  have hW0 := hi.W.hsz
  -- what the callee may write the caller may
  have may : ∀ b, (calleeCx h g w).may b → cx.may b := fun b hb => by
    rcases hb with hb | ⟨i, hl, hm⟩ | ⟨i, j, sz, x, hx, hb⟩
    · exact .inl (Nat.le_trans hW0 hb)
    · exact (hi.G.muW i b hm).2 hl
    · exact (hO.blk _ _ _ b (held_cell hx _ _) hb).1
  have regNot : ∀ q off sz x b, Held S.own none h g a.tmps w (.reg q off) sz x → ownBlk sz x = some b → b < w.heap.size ∧ ¬ (calleeCx h g w).W b := fun q off sz x b hx hb => by
    refine ⟨(hO.own _ _ _ hx).lt hb, ?_⟩
    rintro (⟨i, hl, hm⟩ | ⟨i, j, sz', y, hy, hb'⟩)
    · exact (hO.blk _ _ _ b hx hb).2.1 i hl hm
    · cases hO.dis _ _ _ _ _ _ b hx (held_cell hy _ _) hb hb'
  have regHeap : ∀ q off sz x b, Held S.own none h g a.tmps w (.reg q off) sz x → ownBlk sz x = some b → w'.heap[b]? = w.heap[b]? := fun q off sz x b hx hb => hW'.old b (regNot q off sz x b hx hb).1 (regNot q off sz x b hx hb).2
  have regImm : ∀ q off sz x b k, Held S.own none h g a.tmps w (.reg q off) sz x → ownBlk sz x = some b → g'.imm b k = g.imm b k := fun q off sz x b k hx hb => hG'.immW b k (regNot q off sz x b hx hb).1 (regNot q off sz x b hx hb).2
  refine ⟨g', hle, ⟨?_, ?_, ⟨none, ?_, ⟨hf.al, fun t p hm => by simp [offLa] at hm, .inl ⟨hpd, rfl⟩⟩⟩, hi.F.mono hle⟩, hu, hsz, hown, fun q off sz x b hm hx hb => (hO.own (.reg q off) sz x ⟨hm, hx⟩).lt hb⟩
  · refine ⟨hW'.os.trans hi.W.os, hW'.tape.trans hi.W.tape, hW'.out.trans hi.W.out, Nat.le_trans hW0 hsz, fun b hb hWb => ?_, fun e b hb => ?_⟩
    · rw [hW'.old b (Nat.lt_of_lt_of_le hb hW0) ?_]
      · exact hi.W.old b hb hWb
      · intro hb'
        rcases may b (.inr hb') with h1 | h1
        · omega
        · exact hWb h1
    · simp only [Fl.or, Bool.or_eq_false_iff] at e
      rw [hW'.wr e.2 b (Nat.lt_of_lt_of_le hb hW0)]
      exact hi.W.wr e.1 b hb
  · have hfbl := hi.G.fbl
    have hlbh := hi.G.lbh
    have hlen : h.length ≤ r.2.1.length := hG'.lbh
    refine ⟨hG'.hr, hi.G.ge.trans hle, fun b k hb hWb => ?_, hfbl, Nat.le_trans hlbh hlen, fun i hi' => ?_, hG'.dom, fun i b hb => ?_, fun i b hi' hb => ?_, hG'.inj, hG'.muimm, ?_⟩
    · rw [hG'.immW b k (Nat.lt_of_lt_of_le hb hW0) ?_]
      · exact hi.G.immW b k hb hWb
      · intro hb'
        rcases may b (.inr hb') with h1 | h1
        · omega
        · exact hWb h1
    · rw [hG'.muOld i (show i < h.length by omega)]
      exact hi.G.muOld i hi'
    · obtain ⟨h1, h2⟩ := hG'.muW i b hb
      exact ⟨h1, fun hl => may b (h2 hl)⟩
    · by_cases hlt : i < h.length
      · have : g'.mu i = g.mu i := hG'.muOld i hlt
        rw [this] at hb
        exact hi.G.new i b hi' hb
      · exact Nat.le_trans hW0 (hG'.new i b (Nat.le_of_not_lt hlt) hb)
    · simp only [Fl.or, Bool.or_eq_true]
      rcases hi.G.low with h1 | h1
      · exact .inl (.inl h1)
      · rcases hG'.low with h2 | h2
        · exact .inl (.inr h2)
        · refine .inr fun i x hx hix => ?_
          obtain ⟨y, hy, hyx⟩ := h2 i x (by omega) hix
          obtain ⟨ob, hob, hoby⟩ := h1 i y hx hy
          exact ⟨ob, hob, fun m hm => hyx m (hoby m hm)⟩
  · have split : ∀ p sz x, Held (offLa S).own none r.2.1 g' a.tmps w' p sz x → (∃ q off, p = .reg q off ∧ Held S.own none h g a.tmps w p sz x) ∨ ∃ i j, p = .cell i j ∧ Held [] none r.2.1 g' #[] w' p sz x := fun p sz x hp => by
      cases p with
      | reg q off => exact .inl ⟨q, off, rfl, hp⟩
      | cell i j => exact .inr ⟨i, j, rfl, hp⟩
    have regCell : ∀ q off sz x b i j sz' y, Held S.own none h g a.tmps w (.reg q off) sz x → ownBlk sz x = some b → Held [] none r.2.1 g' #[] w' (.cell i j) sz' y → ownBlk sz' y = some b → False := fun q off sz x b i j sz' y hx hb hy hb' => by
      obtain ⟨h1, h2⟩ := regNot q off sz x b hx hb
      rcases (hO'.blk _ _ _ b hy hb').1 with h3 | h3
      · have : w.heap.size ≤ b := h3
        omega
      · exact h2 h3
    refine ⟨fun p sz x hp => ?_, fun p sz x b hp hb => ?_, fun p q sz sz' x x' b hp hq hb hb' => ?_, fun q off z hm hz => ?_⟩
    · rcases split p sz x hp with ⟨q, off, rfl, hp⟩ | ⟨i, j, rfl, hp⟩
      · exact (hO.own _ _ _ hp).move fun b hb => ⟨regHeap q off sz x b hp hb, fun k hk => by rw [regImm q off sz x b k hp hb]; exact hk⟩
      · exact hO'.own _ _ _ hp
    · rcases split p sz x hp with ⟨q, off, rfl, hp⟩ | ⟨i, j, rfl, hp⟩
      · obtain ⟨h1, h2, h3⟩ := hO.blk _ _ _ b hp hb
        refine ⟨h1, fun i hl hm => ?_, h3⟩
        obtain ⟨h4, h5⟩ := regNot q off sz x b hp hb
        rcases (hG'.muW i b hm).2 hl with h6 | h6
        · have : w.heap.size ≤ b := h6
          omega
        · exact h5 h6
      · obtain ⟨h1, h2, h3⟩ := hO'.blk _ _ _ b hp hb
        refine ⟨may b h1, h2, fun hlt => ?_⟩
        obtain ⟨sz', y, hy, hb'⟩ := h3 (Nat.lt_of_lt_of_le hlt hW0)
        exact (hO.blk _ _ _ b (held_cell hy _ _) hb').2.2 hlt
    · rcases split p sz x hp with ⟨q1, off1, rfl, hp⟩ | ⟨i1, j1, rfl, hp⟩ <;> rcases split q sz' x' hq with ⟨q2, off2, rfl, hq⟩ | ⟨i2, j2, rfl, hq⟩
      · exact hO.dis _ _ _ _ _ _ b hp hq hb hb'
      · exact (regCell _ _ _ _ _ _ _ _ _ hp hb hq hb').elim
      · exact (regCell _ _ _ _ _ _ _ _ _ hq hb' hp hb).elim
      · exact hO'.dis _ _ _ _ _ _ b hp hq hb hb'
    · obtain ⟨h0, xs, h1, h2⟩ := hO.cont q off z hm hz
      have hp' : Held S.own none h g a.tmps w (.reg q off) z (a.tmps.getD q Go.undef) := ⟨hm, by rw [h2.cells, h0]; rfl⟩
      exact ⟨h0, xs, h1, h2.move hz hle.imm fun b hb => regHeap q off z _ b hp' hb⟩

theorem quiet_same {q : Bool} {r r' : V × Heap × Fl} (hq : quiet q h r = some r') : r' = r := by
  cases q
  · cases hq; rfl
  · simp only [quiet, cnd_true] at hq
    obtain ⟨v, hv, hq⟩ := bnd_eq_some hq
    unfold still at hv
    split at hv
    · rename_i hc
      cases hv; cases hq
      obtain ⟨r1, r2, r3⟩ := r
      simp only at hc
      rw [hc.1, hc.2]
    · cases hv
theorem exec_call {c : Call} (hop : o.op = .call c) {y : Operand} (hc : c.callee = .value y) {f : Nat} {us vs : Array Value} (hy : a.eval y = .func (.func f) us vs) : (execOp a.eval o).run P w = (callFunc f (us ++ c.args.map a.eval ++ vs)).run P w := by
  unfold execOp
  rw [hop]
  simp only [resolve, hc, hy, Deferred.ofValue, invoke, Sem.run_bind, Sem.run_pure, Result.andThen_ok]

def ownAfter (dst : Option Nat) : Option Nat → Ow → Ow
  | some sz, T => addOwn dst 0 sz T
  | none, T => T
theorem call_core (hi : Inv cx N hb0 S rs h fl g a w) {C : Callee} (hC : FnOk P R C) {f : Nat} {vargs : List V} {r : V × Heap × Fl} (hr : C f vargs h = some r) {uargs : Array Value} (hargs : VRs g uargs.toList vargs) (hexec : (execOp a.eval o).run P w = (callFunc f uargs).run P w)
    (hpd : S.pd = none) {T0 : Ow} (hk : S.kill o.dst = some T0) (own : Option Nat) (hown : own = none ∨ own = R f) (hnl : ∀ sz, own = some sz → isLin sz = false) (hT : T = ownAfter o.dst own (offLa T0)) (hd : ∀ x, o.dst = some x → x < N)
    {K : Act → World → Prop} {Q : Exit → Act → World → Prop} (hK : ∀ u w' g', GLe g g' → Inv cx N hb0 T (putR o.dst r.1 rs) r.2.1 (fl.or r.2.2) g' (a.put o.dst u) w' → K (a.put o.dst u) w') : o.wp P a w K Q := by
  have main : ∀ u w', CallPost (calleeCx h g w) h (R f) r u w' → K (a.put o.dst u) w' := fun u w' hp => by
    obtain ⟨g', hle, hi', hu, hsz, hres, hlt⟩ := after_call hi hpd hp
    obtain ⟨T1, hk1, k1, k2, k3, k4⟩ := kill_nopd (S := offLa S) hpd o.dst
    have h2 := hi'.put hd hk1 hu
    obtain ⟨m1, m2, m3, m4⟩ := kill_sub hk
    have h3 : Inv cx N hb0 (offLa T0) (putR o.dst r.1 rs) r.2.1 (fl.or r.2.2) g' (a.put o.dst u) w' :=
      h2.weaken (fun x hx => (k2 x).2 (m2 x hx)) (fun x hx => (k3 x).2 (m3 x hx)) (fun x hx => by simp [offLa] at hx) ((show T0.pd = T1.pd by rw [m1, hpd, k1]))
    refine hK u w' g' hle ?_
    cases own with
    | none => rw [hT]; exact h3
    | some sz =>
      rw [hT]
      simp only [ownAfter]
      have hRf : R f = some sz := by
        rcases hown with h | h
        · cases h
        · exact h.symm
      cases hdst : o.dst with
      | none => simp only [addOwn]; rw [hdst] at h3; exact h3
      | some d =>
        rw [hdst] at h3
        have hlt' : d < a.tmps.size := by rw [hi.F.size]; exact hd d hdst
        have hpd3 : (offLa T0).pd = none := by show T0.pd = none; rw [m1, hpd]
        obtain ⟨hO3, hf3⟩ := h3.own0 hpd3
        refine ⟨h3.W, h3.G, ⟨none, hO3.add (fun h => by rw [hnl sz rfl] at h; cases h) fun x hx => ?_, ⟨hf3.al, hf3.la, hf3.pd⟩⟩, h3.F⟩
        rw [put_get hlt'] at hx
        obtain ⟨hOu, hOb⟩ := hres sz hRf x hx
        refine ⟨hOu, fun b hb => ?_⟩
        obtain ⟨f1, f2, f3⟩ := hOb b hb
        have f1' : w.heap.size ≤ b := f1
        refine ⟨.inl (Nat.le_trans hi.W.hsz f1'), f2, fun hlt2 => by have := hi.W.hsz; omega, fun p sz' u' hp hb' => ?_⟩
        exfalso
        cases p with
        | cell i j => exact f3 _ _ _ (held_cell hp _ _) hb'
        | reg q off =>
          obtain ⟨hm, hx⟩ := hp
          obtain ⟨e1, e2⟩ := m2 _ hm
          rw [put_other hlt' (e2 d hdst)] at hx
          have := hlt q off sz' u' b e1 hx hb'
          omega
  unfold Oper.wp
  rw [hexec]
  rcases hC f vargs h r hr g w uargs (hi.pre hpd) hargs with ⟨h1, h2⟩ | ⟨u, w', h1, h2⟩
  · rw [h1, Oper.upon_enter]
    refine Calls.mono h2 fun e w' he => ?_
    obtain ⟨u, rfl, hp⟩ := he
    exact main u w' hp
  · rw [h1, Oper.upon_value]
    exact main u w' h2
end
end Go.Vm

/- Lists that are their register's alone: made, appended to, handed to a function that turns them in place, and in the end read by all. -/
set_option linter.unusedVariables false
set_option linter.unusedSimpArgs false
namespace Go.Vm

theorem isLin_add (s : Nat) : isLin (s + 1000000) = true := by simp [isLin]
/-- What has become of such a list. -/
structure LinPost (g : Gh) (w : World) (u : Value) (size : Nat) (ys : List V) (u' : Value) (w' : World) : Prop where
  grown : w.grownBy w' (ownBlk (size + 1000000) u)
  lin : LinR w' g.imm size u'
  cont : LinC g.imm w' size ys u'
  blk : ∀ b, ownBlk (size + 1000000) u' = some b → ownBlk (size + 1000000) u = some b ∨ w.heap.size ≤ b
/-- A function that turns such a list. -/
def LinOk (P : Program) (f size : Nat) (F : List V → List V → Option (List V)) : Prop :=
  ∀ xs args ys, F xs args = some ys → ∀ h g w u (uargs : Array Value), Pre h g w → LinR w g.imm size u → LinC g.imm w size xs u → VRs g uargs.toList args → CallOk P f (#[u] ++ uargs) w fun u' w' => LinPost g w u size ys u' w'

section
variable {P : Program} {R : Nat → Option Nat} {cx : Cx} {N : Nat} {hb0 : Heap} {S T : Ow} {rs : Regs} {h : Heap} {fl : Fl} {g : Gh} {a : Act} {w : World} {o : Oper} {gd vop : VOp}

theorem MemG.other (hm : MemG cx hb0 h fl g w) {w' : World} {row : Option Nat} (hw : w.grownBy w' row) (hrow : ∀ b, row = some b → (∀ i, LiveAt h i → g.mu i ≠ some b) ∧ ∀ k, g.imm b k = none) : MemG cx hb0 h fl g w' := by
  refine ⟨⟨fun i x hx hl => ?_, fun c k u hu => ?_⟩, hm.ge, hm.immW, hm.fbl, hm.lbh, hm.muOld, hm.dom, fun i c hc => ⟨Nat.lt_of_lt_of_le (hm.muW i c hc).1 hw.size, (hm.muW i c hc).2⟩, hm.new, hm.inj, hm.muimm, hm.low⟩
  · obtain ⟨c, hc, hob⟩ := hm.hr.obj i x hx hl
    refine ⟨c, hc, hob.mono (GLe.refl g) (hw.block c (hm.muW i c hc).1 fun e => ?_)⟩
    exact (hrow c e.symm).1 i ⟨x, hx, hl⟩ hc
  · have := hm.hr.imm c k u hu
    rw [cell_same (hw.block c (cell_lt this) fun e => ?_)]
    · exact this
    · rw [(hrow c e.symm).2 k] at hu; cases hu
theorem hasLin_mem {p z : Nat} {l : Ows} (h : hasLin p z l = true) : (p, 0, z) ∈ l := by
  simp only [hasLin, List.any_eq_true, decide_eq_true_eq] at h
  obtain ⟨x, hx, rfl⟩ := h
  exact hx
theorem LinR.cells {w : World} {imm : Imm} {sz : Nat} {u : Value} (h : LinR w imm sz u) : u.cells = #[u] := by
  obtain ⟨_, _, _, rfl, _⟩ := h; rfl

/-- The list that a register has. -/
theorem Inv.linAt {pd : Pd} (hO : OwnI cx S.own pd rs h g a.tmps w) (hf : Facts S pd rs a.tmps w) {p size : Nat} (hp : (p, 0, size + 1000000) ∈ S.own) (hpf : pdFree p S.pd = true) :
    ∃ xs, get rs p = .lst xs ∧ LinC g.imm w size xs (a.tmps.getD p Go.undef) ∧ LinR w g.imm size (a.tmps.getD p Go.undef) ∧ Held S.own pd h g a.tmps w (.reg p 0) (size + 1000000) (a.tmps.getD p Go.undef) ∧
      ∀ b, ownBlk (size + 1000000) (a.tmps.getD p Go.undef) = some b → b < w.heap.size ∧ (∀ i, LiveAt h i → g.mu i ≠ some b) ∧ cx.w0.heap.size ≤ b ∧ ∀ k, g.imm b k = none := by
  obtain ⟨_, xs, h3, h4⟩ := hO.cont p 0 _ hp (isLin_add size)
  have hheld : Held S.own pd h g a.tmps w (.reg p 0) (size + 1000000) (a.tmps.getD p Go.undef) := ⟨hp, by rw [h4.cells]; rfl⟩
  have h1 := hO.own _ _ _ hheld
  have h2 := h1.lin (isLin_add size)
  rw [Nat.add_sub_cancel] at h2 h4
  refine ⟨xs, h3, h4, h2, hheld, fun b hb => ?_⟩
  obtain ⟨f1, f2, f3⟩ := hO.blk _ _ _ b hheld hb
  obtain ⟨_, _, _, _, _, _, _, _, _, h5⟩ := h2.blk hb
  refine ⟨h1.lt hb, f2, Nat.le_of_not_lt fun hlt => ?_, h5⟩
  obtain ⟨i', j', e, _⟩ := f3 hlt
  rcases hf.pd with ⟨_, h2⟩ | ⟨p', d', i'', j'', h2, h3, _⟩
  · rw [h2] at e; cases e
  · rw [h3] at e; cases e
    exact (pdFree_spec hpf h2).2 rfl

/-- It has been turned. -/
theorem lin_step (hi : Inv cx N hb0 S rs h fl g a w) {p size : Nat} (hp : (p, 0, size + 1000000) ∈ S.own) (hpf : pdFree p S.pd = true) (hd : ∀ x, o.dst = some x → x < N) {T0 : Ow} (hk : S.kill o.dst = some T0)
    {ys : List V} {u' : Value} {w' : World} (post : LinPost g w (a.tmps.getD p Go.undef) size ys u' w') :
    Inv cx N hb0 (addOwn o.dst 0 (size + 1000000) (offLa { T0 with own := offReg p T0.own })) (putR o.dst (.lst ys) rs) h fl g (a.put o.dst u') w' := by
  obtain ⟨pd, hO, hf⟩ := hi.O
  obtain ⟨xs, hget, hcont, hlin, hheldp, hblk⟩ := Inv.linAt hO hf hp hpf
  obtain ⟨m1, m2, m3, m4⟩ := kill_sub hk
  have hW : MemW cx fl w' := hi.W.step post.grown (fun b e => ⟨.inl (hblk b e).2.2.1, fun _ => (hblk b e).2.2.1⟩) id
  have hG : MemG cx hb0 h fl g w' := hi.G.other post.grown (fun b e => ⟨(hblk b e).2.1, (hblk b e).2.2.2⟩)
  have hd' : ∀ x, o.dst = some x → x < a.tmps.size := fun x e => by rw [hi.F.size]; exact hd x e
  have same : ∀ q z x b, Held (offReg p T0.own) pd h g a.tmps w q z x → ownBlk z x = some b → w'.heap[b]? = w.heap[b]? := fun q z x b hq hb => by
    have hq2 : Held S.own pd h g a.tmps w q z x := by
      cases q with
      | cell i j => exact hq
      | reg r off => exact ⟨(m2 _ (mem_offReg.1 hq.1).1).1, hq.2⟩
    refine post.grown.block b ((hO.own _ _ _ hq2).lt hb) fun e => ?_
    have := hO.dis _ _ _ _ _ _ b hq2 hheldp hb e.symm
    subst this
    exact (mem_offReg.1 hq.1).2 rfl
  have cellBack : ∀ i j z x, Held (offReg p T0.own) pd h g a.tmps w' (.cell i j) z x → Held (offReg p T0.own) pd h g a.tmps w (.cell i j) z x := fun i j z x hq => by
    obtain ⟨cs, own, b, h1, h2, h3, h4, h5⟩ := hq
    refine ⟨cs, own, b, h1, h2, h3, h4, ?_⟩
    rw [← cell_same (post.grown.block b (hi.G.muW i b h4).1 fun e => (hblk b e.symm).2.1 i ⟨_, h1, rfl⟩ h4)]
    exact h5
  have hO1 : OwnI cx (offReg p T0.own) pd rs h g a.tmps w' := by
    refine (hO.less (ow' := offReg p T0.own) fun x hx => (m2 x (mem_offReg.1 hx).1).1).map (fun p q => p = q) (fun _ _ _ e1 e2 => e1.trans e2.symm) (fun q z x hq => .inr ⟨q, z, rfl, ?_, .inl rfl⟩) (fun p q b e hn => e ▸ hn) (fun q z x b hq _ hb => ⟨⟨same q z x b hq hb, fun _ h => h⟩, fun _ h1 h2 => ⟨h1, h2⟩⟩)
    cases q with
    | cell i j => exact cellBack i j z x hq
    | reg r off => exact hq
  have hnd : ∀ d, o.dst = some d → ∀ x, x ∈ offReg p T0.own → x.1 ≠ d := fun d e x hx => (m2 x (mem_offReg.1 hx).1).2 d e
  refine ⟨hW, hG, ⟨pd, ?_, ?_⟩, hi.F.put hd .lst⟩
  · cases hdst : o.dst with
    | none => exact hO1
    | some d =>
      have hlt' := hd' d hdst
      refine (hO1.put (v := .lst ys) hlt' (hnd d hdst)).add (fun _ => ⟨rfl, ys, ?_, ?_⟩) fun x hx => ?_
      · simp [putR, get]
      · rw [put_get hlt', Nat.add_sub_cancel]; exact post.cont
      · rw [put_get hlt', post.lin.cells] at hx
        have : x = u' := by simpa using hx.symm
        subst this
        refine ⟨.inl ⟨isLin_add size, by rw [Nat.add_sub_cancel]; exact post.lin⟩, fun b hb => ?_⟩
        have hnew : cx.w0.heap.size ≤ b := by
          rcases post.blk b hb with h1 | h1
          · exact (hblk b h1).2.2.1
          · exact Nat.le_trans hi.W.hsz h1
        have hmu : ∀ i, LiveAt h i → g.mu i ≠ some b := fun i hl hm => by
          rcases post.blk b hb with h1 | h1
          · exact (hblk b h1).2.1 i hl hm
          · have := (hi.G.muW i b hm).1; omega
        refine ⟨.inl hnew, hmu, fun hlt => by omega, fun q z' y hq hb' => ?_⟩
        exfalso
        have hq1 : Held (offReg p T0.own) pd h g a.tmps w q z' y := by
          cases q with
          | cell i j => exact cellBack i j z' y hq
          | reg r off =>
            obtain ⟨hm, hx⟩ := hq
            rw [put_other hlt' (hnd d hdst _ hm)] at hx
            exact ⟨hm, hx⟩
        have hq2 : Held S.own pd h g a.tmps w q z' y := by
          cases q with
          | cell i j => exact hq1
          | reg r off => exact ⟨(m2 _ (mem_offReg.1 hq1.1).1).1, hq1.2⟩
        rcases post.blk b hb with h1 | h1
        · have := hO.dis _ _ _ _ _ _ b hq2 hheldp hb' h1
          subst this
          exact (mem_offReg.1 hq1.1).2 rfl
        · have := (hO.own _ _ _ hq2).lt hb'
          omega
  · obtain ⟨q1, q2, q3⟩ := addOwn_al (dst := o.dst) (off := 0) (sz := size + 1000000) (T := offLa { T0 with own := offReg p T0.own })
    refine ⟨fun t p hm => ?_, fun t p hm => by rw [q2] at hm; simp [offLa] at hm, ?_⟩
    · rw [q1] at hm
      exact al_put hd' (fun d e => (m3 _ hm).2 d e) (hf.al t p (m3 _ hm).1)
    · rw [q3]
      show ((offLa { T0 with own := offReg p T0.own }).pd = none ∧ _) ∨ _
      have : (offLa { T0 with own := offReg p T0.own }).pd = S.pd := m1
      rw [this]
      rcases hf.pd with h1 | ⟨p, q, i', j', h1, h2, h3⟩
      · exact .inl h1
      · exact .inr ⟨p, q, i', j', h1, h2, by rw [get_put (fun d e => (pdFree_spec (m4 d e) h1).1)]; exact h3⟩

/-! ### an append -/
theorem LinC.reads {size : Nat} {xs : List V} {u : Value} (hl : LinR w g.imm size u) (hc : LinC g.imm w size xs u) :
    ∃ ao cap us, u = .slice ao xs.length cap ∧ Reads w u xs.length us ∧ us.length = xs.length * size ∧ CRs g.imm us (xs.flatMap V.flat) := by
  obtain ⟨h0, hc⟩ := hc
  rcases hc with ⟨rfl, rfl⟩ | ⟨b, cap, us, rfl, h1, h2⟩
  · exact ⟨none, 0, [], rfl, .inl ⟨rfl, rfl, rfl⟩, by simp, .nil⟩
  · obtain ⟨a', n', cap', e, hl⟩ := hl
    injection e with e1 e2 e3
    subst e1 e2 e3
    refine ⟨_, cap, us, rfl, .inr (.inr ⟨b, 0, cap, rfl, ?_, fun j u hu => by rw [Nat.zero_add]; exact h1 j u hu⟩), by rw [h2.length, flatMap_length h0], h2⟩
    rcases hl with ⟨e, _⟩ | ⟨h, _⟩
    · cases e
    · exact h
theorem appl_core {t ty e : TypeId} {i : TypeInfo} {z : Value} (ht : P.underlying t = some (.slice e)) (hie : P.info? e = some i) (hz : i.zero = some z) (hpos : 0 < i.size) (hbp : 0 < i.bytes) (hzs : z.cells.size = i.size)
    (hi : HRead g h w) {u xu : Value} {xv : V} {xs zs : List V} (hl : LinR w g.imm i.size u) (hc : LinC g.imm w i.size xs u) (hx : VR g xu xv) (hv : applV i.size i.bytes (.lst xs) xv = some (.lst zs)) (himm : ∀ b k, w.heap.size ≤ b → g.imm b k = none) :
    ∃ u' w', (Builtin.append_ #[t, t] ty #[u, xu]).run P w = .ok u' w' ∧ LinPost g w u i.size zs u' w' := by
  cases xv with
  | sl ys =>
    simp only [applV] at hv
    obtain ⟨hcond, hv⟩ := cnd_eq_some hv
    cases hv
    simp only [Bool.and_eq_true, decide_eq_true_eq] at hcond
    obtain ⟨hbytes, hzx, hzy⟩ := hcond
    obtain ⟨vs, hrv, hlv, hcv, hsv, _⟩ := sl_reads hi hx hzy
    obtain ⟨ao, cap, us, rfl, hru, hlu, hcu⟩ := hc.reads hl
    have hsz : ∀ x ∈ xs ++ ys, x.flat.length = i.size := fun x hx => by
      rcases List.mem_append.1 hx with hx | hx
      · exact hc.1 x hx
      · exact hsv x hx
    have hflat : (xs ++ ys).flatMap V.flat = xs.flatMap V.flat ++ ys.flatMap V.flat := by simp
    have hncap : xs.length ≤ cap := by
      obtain ⟨_, _, _, e, h⟩ := hl
      injection e with e1 e2 e3
      subst e1 e2 e3
      rcases h with ⟨_, h1, h2⟩ | ⟨h, _⟩ <;> omega
    by_cases hm0 : ys = []
    · subst hm0
      have : vs = [] := List.length_eq_zero_iff.1 (by simpa using hlv)
      subst this
      have hr := app_run_none (P := P) (w := w) (ty := ty) ht hie ao xs.length cap hncap hrv
      exact ⟨_, _, hr, ⟨⟨rfl, rfl, rfl, Nat.le_refl _, fun _ _ _ => rfl⟩, hl, by simpa using hc, fun b hb => .inl hb⟩⟩
    · have hmpos : 0 < ys.length := List.length_pos_iff.2 hm0
      by_cases hg : cap < xs.length + ys.length
      · have hr := app_run_grow (P := P) (w := w) (ty := ty) ht hie hz hru hlu hrv hlv hg hbytes hbp
        have hge := grownCap_ge w (xs.length + ys.length) cap e
        generalize hcap : grownCap w (xs.length + ys.length) cap e = C at hr hge
        generalize hrow : us.toArray ++ vs.toArray ++ Builtin.zeroCells z.cells (C - (xs.length + ys.length)) = row at hr
        have hrowsz : row.size = C * i.size := by
          subst hrow
          simp only [Array.size_append, List.size_toArray, size_zeroCells, hzs, hlu, hlv, ← Nat.add_mul]
          congr 1; omega
        have hrowget : ∀ (j : Nat) (u : Value), (us ++ vs)[j]? = some u → row[j]? = some u := fun j u hu => by
          have hj := (List.getElem?_eq_some_iff.1 hu).1
          subst hrow
          rw [← Array.getElem?_toList]
          simp only [Array.toList_append]
          rw [List.getElem?_append_left (by simpa using hj)]
          simpa using hu
        have hnew : (w.drew.alloc (.cells row e)).heap[w.heap.size]? = some (.cells row e (0, 0)) := heap_alloc_new w.drew _
        refine ⟨_, _, hr, ⟨?_, ?_, ⟨hsz, .inr ⟨w.heap.size, C, us ++ vs, by simp, fun j u hu => ?_, ?_⟩⟩, fun b hb => .inr ?_⟩⟩
        · refine ⟨rfl, rfl, rfl, by rw [World.size_alloc]; exact Nat.le_succ w.heap.size, fun k hk _ => heap_alloc_old w.drew _ hk⟩
        · exact ⟨_, _, _, rfl, .inr ⟨hge, hpos, w.heap.size, row, e, rfl, hnew, by rw [hrowsz]; exact Nat.le_refl _, fun k => himm _ _ (Nat.le_refl _)⟩⟩
        · have := hrowget j u hu
          simp only [World.cell?, hnew]
          simpa using this
        · rw [hflat]; exact hcu.append hcv
        · simp only [ownBlk] at hb
          split at hb
          · have := Option.some.inj hb; show w.heap.size ≤ b; omega
          · cases hb
      · have hroom : xs.length + ys.length ≤ cap := by omega
        obtain ⟨_, _, _, e, hl2⟩ := hl
        injection e with e1 e2 e3
        subst e1 e2 e3
        rcases hl2 with ⟨_, h1, h2⟩ | ⟨_, _, b, cur, tt, rfl, hheap, hfit, hno⟩
        · omega
        · have hmul : (xs.length + ys.length) * i.size ≤ cap * i.size := Nat.mul_le_mul_right _ hroom
          have hcurfit : xs.length * i.size + vs.length ≤ cur.size := by rw [hlv, ← Nat.add_mul]; omega
          have hr := app_run_room (P := P) (w := w) (ty := ty) ht hie b xs.length cap ys.length hheap hrv hlv hcv.oneCells hroom hcurfit
          have hnewrow := setRow_heap w b cur (cur.toList.take (xs.length * i.size) ++ vs ++ cur.toList.drop (xs.length * i.size + vs.length)).toArray tt (0, 0) hheap
          have hget : ∀ (j : Nat), (cur.toList.take (xs.length * i.size) ++ vs ++ cur.toList.drop (xs.length * i.size + vs.length)).toArray[j]? = if j < xs.length * i.size then cur[j]? else if j < xs.length * i.size + vs.length then vs[j - xs.length * i.size]? else cur[j]? := fun j => by
            have := seg_get cur.toList vs (xs.length * i.size) vs.length j rfl (by simpa using hcurfit)
            simpa using this
          have holdc : ∀ (j : Nat) (x : Value), us[j]? = some x → cur[j]? = some x := fun j x hx => by
            rcases hru with ⟨e, _⟩ | ⟨_, _, e, _, _⟩ | ⟨b', o', cap', e, _, h3⟩
            · cases e
            · subst_vars
              have hj := (List.getElem?_eq_some_iff.1 hx).1
              simp_all
            · injection e with e1 _ _
              injection e1 with e1
              injection e1 with e1 e2 _
              subst e1 e2
              have := h3 j x hx
              simp only [World.cell?, hheap, Nat.zero_add] at this
              simpa using this
          refine ⟨_, _, hr, ⟨⟨rfl, rfl, rfl, by simp, fun k hk hne => setRow_other w b k _ (fun e => hne (by subst e; simp [ownBlk, isLin_add]))⟩, ?_, ⟨hsz, .inr ⟨b, cap, us ++ vs, by simp, fun j x hx => ?_, by rw [hflat]; exact hcu.append hcv⟩⟩, fun c hc' => .inl ?_⟩⟩
          · refine ⟨_, _, _, rfl, .inr ⟨hroom, hpos, b, _, tt, rfl, hnewrow, ?_, hno⟩⟩
            simp only [List.size_toArray, List.length_append, List.length_take, List.length_drop, Array.length_toList]
            omega
          · rw [cell_of_heap hnewrow, hget]
            rcases Nat.lt_or_ge j us.length with hj | hj
            · rw [List.getElem?_append_left hj] at hx
              rw [if_pos (by rw [← hlu]; exact hj)]
              exact holdc j x hx
            · rw [List.getElem?_append_right hj] at hx
              have hj2 := (List.getElem?_eq_some_iff.1 hx).1
              rw [if_neg (by rw [← hlu]; omega), if_pos (by rw [← hlu]; omega), ← hlu]
              exact hx
          · simp only [ownBlk, isLin_add, true_or, if_true] at hc' ⊢
            exact hc'
  | _ => simp [applV] at hv
end
end Go.Vm

/- Operations on lists that are their register's alone. -/
set_option linter.unusedVariables false
set_option linter.unusedSimpArgs false
namespace Go.Vm

section
variable {P : Program} {R : Nat → Option Nat} {cx : Cx} {N : Nat} {hb0 : Heap} {S T : Ow} {rs : Regs} {h : Heap} {fl : Fl} {g : Gh} {a : Act} {w : World} {o : Oper} {gd vop : VOp}

theorem isNil_eval {x : Operand} {y : Arg} (h : trArg x = some y) (hn : isNil y = true) : a.eval x = .slice none 0 0 := by
  refine nilArg_eval h ?_
  unfold isNil at hn
  split at hn
  · rfl
  · cases hn
theorem newl_ok (hi : Inv cx N hb0 S rs h fl g a w) {z : Nat} (htr : trOpL P o.op gd = some (.newl z)) (hs : S.step1 R o.dst (.newl z) = some T) (hd : ∀ x, o.dst = some x → x < N) :
    ∃ u, (execOp a.eval o).run P w = .ok (.value u) w ∧ Inv cx N hb0 T (putR o.dst (.lst []) rs) h fl g (a.put o.dst u) w := by
  have hrun : (execOp a.eval o).run P w = .ok (.value (.slice none 0 0)) w := by
    cases gd <;> simp only [trOpL, reduceCtorEq] at htr <;> obtain ⟨_, h1, h2⟩ := bnd_eq_some htr <;> cases h2
    unfold trNewl at h1
    split at h1
    · rename_i x hop
      obtain ⟨y, hy, h1⟩ := bnd_eq_some h1
      obtain ⟨hn, h1⟩ := cnd_eq_some h1
      unfold execOp; rw [hop]; show Result.ok (Next.value (a.eval x)) w = _
      rw [isNil_eval hy hn]
    · rename_i x hop
      obtain ⟨y, hy, h1⟩ := bnd_eq_some h1
      obtain ⟨hn, h1⟩ := cnd_eq_some h1
      unfold execOp; rw [hop]; show Result.ok (Next.value (a.eval x)) w = _
      rw [isNil_eval hy hn]
    · cases h1
  refine ⟨_, hrun, ?_⟩
  simp only [Ow.step1] at hs
  obtain ⟨T0, hk, hs⟩ := bnd_eq_some hs
  cases hs
  have h1 := hi.put hd hk (u := .slice none 0 0) (v := .lst []) .lst
  cases hdst : o.dst with
  | none => rw [hdst] at h1; exact h1
  | some d =>
    rw [hdst] at h1
    have hlt : d < a.tmps.size := by rw [hi.F.size]; exact hd d hdst
    obtain ⟨pd, hO, hf⟩ := h1.O
    refine ⟨h1.W, h1.G, ⟨pd, hO.add (fun _ => ⟨rfl, [], by simp [putR, get], ?_⟩) (fun x hx => ?_), ⟨hf.al, hf.la, hf.pd⟩⟩, h1.F⟩
    · rw [put_get hlt]; exact ⟨by simp, .inl ⟨rfl, rfl⟩⟩
    · rw [put_get hlt] at hx
      have : x = .slice none 0 0 := by simpa [Value.cells] using hx.symm
      subst this
      exact ⟨.inl ⟨isLin_add z, none, 0, 0, rfl, .inl ⟨rfl, rfl, rfl⟩⟩, fun b hb => by simp [ownBlk] at hb⟩

theorem trOpL_appl {p size bytes : Nat} {s x : Arg} (h : trOpL P o.op gd = some (.appl p size bytes s x)) :
    ∃ y y' t e i z, o.op = .call { callee := .builtin .append, args := #[y, y'], argTypes := #[t, t] } ∧ P.underlying t = some (.slice e) ∧ P.info? e = some i ∧ i.zero = some z ∧ size = i.size ∧ bytes = i.bytes ∧ 0 < i.size ∧ 0 < i.bytes ∧ z.cells.size = i.size ∧ trArg y = some s ∧ trArg y' = some x := by
  cases gd <;> simp only [trOpL, reduceCtorEq] at h <;> obtain ⟨r, h1, h2⟩ := bnd_eq_some h <;> cases h2
  unfold trAppl at h1
  split at h1
  · rename_i c hop
    split at h1
    · rename_i s' x' t tx e1 e2 e3
      obtain ⟨e, he, h1⟩ := bnd_eq_some h1
      obtain ⟨i, hie, h1⟩ := bnd_eq_some h1
      obtain ⟨a', ha, h1⟩ := bnd_eq_some h1
      obtain ⟨y, hy, h1⟩ := bnd_eq_some h1
      split at h1
      · rename_i z e' hz he'
        split at h1
        · rename_i hcond
          cases h1
          obtain ⟨rfl, rfl, c1, c2, c3⟩ := hcond
          obtain ⟨cal, cargs, cts⟩ := c
          simp only at e1 e2 e3
          have e4 : cargs = #[s', x'] := by apply Array.ext'; simpa using e2
          have e5 : cts = #[tx, tx] := by apply Array.ext'; simpa using e3
          subst e1 e4 e5
          exact ⟨s', x', tx, e', i, z, hop, he', hie, hz, rfl, rfl, c1, c2, c3, ha, hy⟩
        · cases h1
      · cases h1
    · cases h1
  · cases h1
theorem sliceT_inv {t e : TypeId} (h : sliceT P t = some e) : P.underlying t = some (.slice e) := by
  unfold sliceT at h
  split at h
  · rename_i hu; cases h; exact hu
  · cases h
theorem trOpL_lenl {p : Nat} {x : Arg} (h : trOpL P o.op gd = some (.lenl p x)) :
    ∃ y t e, o.op = .call { callee := .builtin .len, args := #[y], argTypes := #[t] } ∧ P.underlying t = some (.slice e) ∧ trArg y = some x := by
  cases gd <;> simp only [trOpL, reduceCtorEq] at h <;> obtain ⟨r, h1, h2⟩ := bnd_eq_some h <;> cases h2
  unfold trLenl at h1
  split at h1
  · rename_i c hop
    split at h1
    · rename_i x' t e1 e2 e3
      obtain ⟨e, he, h1⟩ := bnd_eq_some h1
      obtain ⟨cal, cargs, cts⟩ := c
      simp only at e1 e2 e3
      have e4 : cargs = #[x'] := by apply Array.ext'; simpa using e2
      have e5 : cts = #[t] := by apply Array.ext'; simpa using e3
      subst e1 e4 e5
      exact ⟨x', t, e, hop, sliceT_inv he, h1⟩
    · cases h1
  · cases h1
theorem trOpL_slf {p size : Nat} {x : Arg} {lo hi' : Option Arg} (h : trOpL P o.op gd = some (.slf p size x lo hi')) :
    ∃ t y l u e, o.op = .slice t y l u none ∧ P.underlying t = some (.slice e) ∧ sizeT P e = some size ∧ trArg y = some x ∧ trOpt l = some lo ∧ trOpt u = some hi' ∧ 0 < size := by
  cases gd <;> simp only [trOpL, reduceCtorEq] at h <;> obtain ⟨r, h1, h2⟩ := bnd_eq_some h <;> cases h2
  unfold trSlf at h1
  split at h1
  · rename_i t y l u hop
    obtain ⟨e, he, h1⟩ := bnd_eq_some h1
    obtain ⟨n, hn, h1⟩ := bnd_eq_some h1
    obtain ⟨a', ha, h1⟩ := bnd_eq_some h1
    obtain ⟨l', hl, h1⟩ := bnd_eq_some h1
    obtain ⟨u', hu, h1⟩ := bnd_eq_some h1
    obtain ⟨hp, h1⟩ := cnd_eq_some h1
    cases h1
    exact ⟨t, y, l, u, e, hop, sliceT_inv he, hn, ha, hl, hu, of_decide_eq_true hp⟩
  · cases h1
theorem trOpL_calll {f p size : Nat} {F : List V → List V → Option (List V)} {x : Arg} {as : List Arg} (h : trOpL P o.op gd = some (.calll f p size F x as)) :
    ∃ y ys ts, o.op = .call { callee := .value (.func f), args := (y :: ys).toArray, argTypes := ts } ∧ trArg y = some x ∧ trArgs ys = some as := by
  cases gd <;> simp only [trOpL, reduceCtorEq] at h <;> obtain ⟨r, h1, h2⟩ := bnd_eq_some h <;> cases h2
  unfold trCalll at h1
  split at h1
  · rename_i c hop
    split at h1
    · rename_i f' y ys e1 e2
      obtain ⟨a', ha, h1⟩ := bnd_eq_some h1
      obtain ⟨as', has, h1⟩ := bnd_eq_some h1
      cases h1
      obtain ⟨cal, cargs, cts⟩ := c
      simp only at e1 e2
      have e4 : cargs = (y :: ys).toArray := by apply Array.ext'; simpa using e2
      subst e1 e4
      exact ⟨y, ys, cts, hop, ha, has⟩
    · cases h1
  · cases h1

/-- The register that the operation names, and the one that it is of. -/
theorem lin_alias {pd : Pd} (hf : Facts S pd rs a.tmps w) {y : Operand} {t p : Nat} (hy : trArg y = some (.r t)) (hal : t = p ∨ hasPair t p S.al = true) : a.eval y = a.tmps.getD p Go.undef := by
  have e := trArg_tmp hy
  subst e
  rcases hal with rfl | hal
  · rfl
  · exact hf.al _ _ (hasPair_mem hal)
theorem exec_len {y : Operand} {t : TypeId} (hop : o.op = .call { callee := .builtin .len, args := #[y], argTypes := #[t] }) {u : Value} {w' : World} (hr : (Builtin.len_ #[t] o.type #[a.eval y]).run P w = .ok u w') :
    (execOp a.eval o).run P w = .ok (.value u) w' := by
  unfold execOp
  rw [hop]
  simp only [resolve, invoke, builtin, Sem.run_bind, Sem.run_pure, Result.andThen_ok]
  have : (#[y].map a.eval) = #[a.eval y] := by simp
  rw [this, hr]
  rfl
theorem appl_ok (hi : Inv cx N hb0 S rs h fl g a w) {p size bytes : Nat} {s x : Arg} (htr : trOpL P o.op gd = some (.appl p size bytes s x)) (hs : S.step1 R o.dst (.appl p size bytes s x) = some T) (hd : ∀ x, o.dst = some x → x < N)
    {v : V} (hv : applV size bytes (get rs p) (x.val rs) = some v) : ∃ u w', (execOp a.eval o).run P w = .ok (.value u) w' ∧ Inv cx N hb0 T (putR o.dst v rs) h fl g (a.put o.dst u) w' := by
  obtain ⟨y, y', t, e, i, z, hop, ht, hie, hz, rfl, rfl, hpos, hbp, hzs, hy, hy'⟩ := trOpL_appl htr
  cases s with
  | c cv => simp only [Ow.step1, reduceCtorEq] at hs
  | r tr =>
    simp only [Ow.step1] at hs
    obtain ⟨hcond, hs⟩ := cnd_eq_some hs
    obtain ⟨T0, hk, hs⟩ := bnd_eq_some hs
    cases hs
    simp only [Bool.and_eq_true, Bool.or_eq_true, decide_eq_true_eq] at hcond
    obtain ⟨hal, ho, hpf⟩ := hcond
    obtain ⟨pd, hO, hf⟩ := hi.O
    have hp := hasLin_mem ho
    obtain ⟨xs, hget, hcont, hlin, _, _⟩ := Inv.linAt hO hf hp hpf
    have he := lin_alias hf hy hal
    rw [hget] at hv
    have hvl : ∃ zs, v = .lst zs := by
      unfold applV at hv
      split at hv
      · obtain ⟨_, hv⟩ := cnd_eq_some hv; cases hv; exact ⟨_, rfl⟩
      · cases hv
    obtain ⟨zs, rfl⟩ := hvl
    obtain ⟨u', w', hr, post⟩ := appl_core (P := P) (ty := o.type) ht hie hz hpos hbp hzs hi.G.hr hlin hcont (trArg_sound hi.F.regs hy') hv (fun b k hb => hi.G.immNone hb k)
    refine ⟨u', w', exec_append hop (by rw [he]; exact hr), lin_step hi hp hpf hd hk post⟩
theorem lenl_ok (hi : Inv cx N hb0 S rs h fl g a w) {p : Nat} {x : Arg} (htr : trOpL P o.op gd = some (.lenl p x)) (hs : S.step1 R o.dst (.lenl p x) = some T) (hd : ∀ x, o.dst = some x → x < N)
    {v : V} (hv : lenlV (get rs p) = some v) : ∃ u, (execOp a.eval o).run P w = .ok (.value u) w ∧ Inv cx N hb0 T (putR o.dst v rs) h fl g (a.put o.dst u) w := by
  obtain ⟨y, t, e, hop, ht, hy⟩ := trOpL_lenl htr
  cases x with
  | c cv => simp only [Ow.step1, reduceCtorEq] at hs
  | r tr =>
    simp only [Ow.step1] at hs
    obtain ⟨hcond, hk⟩ := cnd_eq_some hs
    simp only [Bool.and_eq_true, Bool.or_eq_true, decide_eq_true_eq, anyLin, List.any_eq_true] at hcond
    obtain ⟨hal, ⟨q, off, z⟩, hm, hq, hz⟩ := hcond
    simp only at hq hz
    subst hq
    obtain ⟨pd, hO, hf⟩ := hi.O
    obtain ⟨h0, xs, hget, hcont⟩ := hO.cont _ _ _ hm hz
    have he := lin_alias hf hy hal
    rw [hget] at hv
    simp only [lenlV, Option.some.injEq] at hv
    subst hv
    have hrun : (Builtin.len_ #[t] o.type #[a.eval y]).run P w = .ok (.int .i64 xs.length) w := by
      rw [he]
      rcases hcont.2 with ⟨e, rfl⟩ | ⟨b, cap, us, e, _⟩ <;> rw [e] <;> simp [Builtin.len_, run_underlying ht] <;> rfl
    exact ⟨_, exec_len hop hrun, hi.put hd hk (.i _ _)⟩
theorem slf_ok (hi : Inv cx N hb0 S rs h fl g a w) {p size : Nat} {x : Arg} {lo hi' : Option Arg} (htr : trOpL P o.op gd = some (.slf p size x lo hi')) (hs : S.step1 R o.dst (.slf p size x lo hi') = some T) (hd : ∀ x, o.dst = some x → x < N)
    {v : V} (hv : slfV size rs lo hi' (get rs p) = some v) : ∃ u g', (execOp a.eval o).run P w = .ok (.value u) w ∧ GLe g g' ∧ Inv cx N hb0 T (putR o.dst v rs) h fl g' (a.put o.dst u) w := by
  obtain ⟨t, y, l, q, e, hop, ht, hsz, hy, hl, hq, hpos⟩ := trOpL_slf htr
  cases x with
  | c cv => simp only [Ow.step1, reduceCtorEq] at hs
  | r tr =>
    simp only [Ow.step1] at hs
    obtain ⟨hcond, hs⟩ := cnd_eq_some hs
    obtain ⟨T0, hk, hs⟩ := bnd_eq_some hs
    cases hs
    simp only [Bool.and_eq_true, Bool.or_eq_true, decide_eq_true_eq] at hcond
    obtain ⟨hal, ho, hpf⟩ := hcond
    obtain ⟨pd, hO, hf⟩ := hi.O
    have hp := hasLin_mem ho
    obtain ⟨xs, hget, hcont, hlin, hheldp, hblk⟩ := Inv.linAt hO hf hp hpf
    have he := lin_alias hf hy hal
    rw [hget] at hv
    obtain ⟨m1, m2, m3, m4⟩ := kill_sub hk
    -- the cells are read by all from now on
    have frz : ∃ g', GLe g g' ∧ MemG cx hb0 h fl g' w ∧ VR g' (a.tmps.getD p Go.undef) (.sl xs) ∧ g'.mu = g.mu ∧ ∀ b, ownBlk (size + 1000000) (a.tmps.getD p Go.undef) ≠ some b → ∀ k, g'.imm b k = g.imm b k := by
      rcases hcont.2 with ⟨e1, rfl⟩ | ⟨b, cap, us, e1, h1, h2⟩
      · exact ⟨g, GLe.refl g, hi.G, by rw [e1]; exact .cell .nils, rfl, fun _ _ _ => rfl⟩
      · have hb : ownBlk (size + 1000000) (a.tmps.getD p Go.undef) = some b := by rw [e1]; simp [ownBlk, isLin_add]
        obtain ⟨f1, f2, f3, f4⟩ := hblk b hb
        obtain ⟨_, n', cap', cur, tt, e2, hn, hheap, hfit, _⟩ := hlin.blk hb
        rw [e1] at e2
        injection e2 with e3 e4 e5
        subst e4 e5
        have hus : ∀ (j : Nat) (x : Value), us[j]? = some x → cur[0 + j]? = some x := fun j x hx => by
          have := h1 j x hx
          simp only [World.cell?, hheap] at this
          rw [Nat.zero_add]
          simpa using this
        have hG := hi.G.tail (b := b) (lo := 0) (us := us) (cur := cur) (cur' := cur) hheap (.inl f3) f2 (fun k _ => f4 k) (w' := w) rfl (fun _ _ => rfl) hheap (fun k hk => by omega) hus
        have hle : GLe g (g.addImm b 0 us) := Gh.addImm_le fun k _ _ => f4 k
        refine ⟨_, hle, hG, ?_, rfl, fun c hc k => Gh.addImm_other (fun e => hc (by rw [e]; exact hb)) k⟩
        rw [e1]
        exact .cell (.sl (sz := size) (us := us) rfl hn hcont.1 (fun j x hx => Gh.addImm_at hx) (h2.mono hle.imm))
    obtain ⟨g', hle, hG', hvr, hmu, himm⟩ := frz
    have hRR : RR g' a rs := fun r => (hi.F.regs r).mono hle
    obtain ⟨zv, hz, hzr⟩ := slice_sound (P := P) (w := w) hRR ht hsz hvr hl hq (mx := none) (mx' := none) rfl hv
    have hexec : (execOp a.eval o).run P w = .ok (.value zv) w := by
      unfold execOp
      rw [hop]
      simp only [he]
      exact run_v hz
    refine ⟨zv, g', hexec, hle, ?_⟩
    have hsub : ∀ x, x ∈ offReg p S.own → x ∈ S.own := fun x hx => (mem_offReg.1 hx).1
    have h1 : Inv cx N hb0 ⟨offReg p S.own, S.al, S.la, S.pd⟩ rs h fl g' a w := by
      refine ⟨hi.W, hG', ⟨pd, ?_, ⟨hf.al, hf.la, hf.pd⟩⟩, hi.F.mono hle⟩
      refine (hO.less hsub).map (fun p q => p = q) (fun _ _ _ e1 e2 => e1.trans e2.symm) (fun q z x hq => .inr ⟨q, z, rfl, ?_, .inl rfl⟩) (fun p q b e hn => e ▸ hn) (fun q z x b hq _ hb => ⟨⟨rfl, fun k hk => ?_⟩, fun i hl hm => ⟨hl, by rw [hmu] at hm; exact hm⟩⟩) hle.imm
      · cases q with
        | reg r off => exact hq
        | cell i j =>
          obtain ⟨cs, own, b, c1, c2, c3, c4, c5⟩ := hq
          exact ⟨cs, own, b, c1, c2, c3, by rw [hmu] at c4; exact c4, c5⟩
      · rw [himm b (fun e => ?_)]; exact hk
        have hq2 : Held S.own pd h g a.tmps w q z x := by
          cases q with
          | cell i j => exact hq
          | reg r off => exact ⟨hsub _ hq.1, hq.2⟩
        have := hO.dis _ _ _ _ _ _ b hq2 hheldp hb e
        subst this
        exact (mem_offReg.1 hq.1).2 rfl
    cases hdst : o.dst with
    | none =>
      rw [hdst] at hk
      cases kill_none hk
      exact h1
    | some d =>
      rw [hdst] at hk hd
      obtain ⟨hpd', rfl⟩ := kill_some hk
      have h2 := h1.put (dst := some d) hd (T := ⟨offReg d (offReg p S.own), offPair d S.al, offPair d S.la, S.pd⟩) (by simp only [Ow.kill, hpd', cnd_true]) hzr
      refine h2.weaken (fun x hx => ?_) (fun x hx => hx) (fun x hx => hx) rfl
      obtain ⟨k1, k2⟩ := mem_offReg.1 hx
      obtain ⟨k3, k4⟩ := mem_offReg.1 k1
      exact mem_offReg.2 ⟨mem_offReg.2 ⟨k3, k2⟩, k4⟩
theorem calll_ok (hi : Inv cx N hb0 S rs h fl g a w) {f p size : Nat} {F : List V → List V → Option (List V)} {x : Arg} {as : List Arg} (htr : trOpL P o.op gd = some (.calll f p size F x as)) (hF : LinOk P f size F) (hs : S.step1 R o.dst (.calll f p size F x as) = some T) (hd : ∀ x, o.dst = some x → x < N)
    {v : V} (hv : calllV F (vals rs as) (get rs p) = some v) {K : Act → World → Prop} {Q : Exit → Act → World → Prop} (hK : ∀ u w', Inv cx N hb0 T (putR o.dst v rs) h fl g (a.put o.dst u) w' → K (a.put o.dst u) w') : o.wp P a w K Q := by
  obtain ⟨y, ys, ts, hop, hy, hys⟩ := trOpL_calll htr
  cases x with
  | c cv => simp only [Ow.step1, reduceCtorEq] at hs
  | r tr =>
    simp only [Ow.step1] at hs
    obtain ⟨hcond, hs⟩ := cnd_eq_some hs
    obtain ⟨T0, hk, hs⟩ := bnd_eq_some hs
    cases hs
    simp only [Bool.and_eq_true, Bool.or_eq_true, decide_eq_true_eq, Ow.noPd, Option.isNone_iff_eq_none] at hcond
    obtain ⟨hnpd, hal, ho⟩ := hcond
    have hpf : pdFree p S.pd = true := by rw [hnpd]; rfl
    obtain ⟨pd, hO, hf⟩ := hi.O
    have hp := hasLin_mem ho
    obtain ⟨xs, hget, hcont, hlin, hheldp, hblk⟩ := Inv.linAt hO hf hp hpf
    have he := lin_alias hf hy hal
    rw [hget] at hv
    simp only [calllV] at hv
    obtain ⟨zs, hFv, hv⟩ := bnd_eq_some hv
    cases hv
    have hargs := trArgs_sound hi.F.regs hys
    have hcall := hF xs (vals rs as) zs hFv h g w (a.tmps.getD p Go.undef) (ys.map a.eval).toArray (hi.pre hnpd) hlin hcont (by simpa using hargs)
    have hexec := exec_call (P := P) (w := w) (a := a) hop (y := .func f) rfl (f := f) (us := #[]) (vs := #[]) rfl
    have hargs' : (#[] ++ ((y :: ys).toArray).map a.eval ++ #[] : Array Value) = #[a.tmps.getD p Go.undef] ++ (ys.map a.eval).toArray := by
      apply Array.ext'
      simp [he]
    rw [hargs'] at hexec
    unfold Oper.wp
    rw [hexec]
    rcases hcall with ⟨h1, h2⟩ | ⟨u, w', h1, h2⟩
    · rw [h1, Oper.upon_enter]
      refine Calls.mono h2 fun e w' he => ?_
      obtain ⟨u, rfl, post⟩ := he
      exact hK u w' (lin_step hi hp hpf hd hk post)
    · rw [h1, Oper.upon_value]
      exact hK u w' (lin_step hi hp hpf hd hk h2)
end
end Go.Vm

/- A struct's literal whose slices are nil; a new object that has slices of its own; a text's bytes. -/
set_option linter.unusedVariables false
set_option linter.unusedSimpArgs false
namespace Go.Vm

theorem fill_keep {place : Nat → Option (Nat × Nat)} : ∀ (parts : List (Nat × Value)) (us us' : Array Value), Instr.fill place us parts = some us' → ∀ j, (∀ i u off size, (i, u) ∈ parts → place i = some (off, size) → j < off ∨ off + size ≤ j) → us'[j]? = us[j]?
  | [], us, us', h, j, _ => by cases h; rfl
  | (i, u) :: rest, us, us', h, j, hj => by
    simp only [Instr.fill] at h
    split at h
    · cases h
    · rename_i off size hp
      split at h
      · cases h
      · rename_i hc
        rw [fill_keep rest _ us' h j (fun i' u' off' size' hm => hj i' u' off' size' (List.mem_cons_of_mem _ hm))]
        simp only [Bool.or_eq_true, bne_iff_ne, ne_eq, decide_eq_true_eq, not_or, Decidable.not_not, Nat.not_lt, gt_iff_lt] at hc
        have e : (u.cells.zipIdx.foldl (fun cs (x : Value × Nat) => cs.setIfInBounds (off + x.2) x.1) us) = ((u.cells.toList.zipIdx 0).foldl (fun (cs : Array Value) (x : Value × Nat) => cs.setIfInBounds (off + x.2) x.1) us) := by
          rw [← Array.foldl_toList]; simp
        have h2 := foldl_set off u.cells.toList 0 us (by simp only [Array.length_toList]; have := hc.2; omega)
        have hsz : u.cells.toList.length = size := by rw [Array.length_toList]; exact hc.1
        rw [← Array.getElem?_toList, ← Array.getElem?_toList]
        show (u.cells.zipIdx.foldl (fun cs (x : Value × Nat) => cs.setIfInBounds (off + x.2) x.1) us).toList[j]? = _
        rw [e, h2, Nat.add_zero, hsz]
        have hle : off + size ≤ us.toList.length := by rw [Array.length_toList, ← hc.1]; exact hc.2
        have := seg_get us.toList u.cells.toList off size j hsz hle
        rw [List.append_assoc] at this
        rw [this]
        rcases hj i u off size (by simp) hp with h3 | h3
        · rw [if_pos h3]
        · rw [if_neg (by omega), if_neg (by omega)]

section
variable {P : Program} {R : Nat → Option Nat} {cx : Cx} {N : Nat} {hb0 : Heap} {S T : Ow} {rs : Regs} {h : Heap} {fl : Fl} {g : Gh} {a : Act} {w : World} {o : Oper} {gd vop : VOp}

theorem partsS_mem {t : TypeId} {fs : Array Field} (hu : P.underlying t = some (.struct fs)) {places : List (Nat × Nat)} (hpl : fs.toList.mapM (fun f => (P.info? f.type).map fun i => (f.offset, i.size)) = some places) :
    ∀ (parts : List (Nat × Operand)) (ps : List (Nat × Nat × Arg)), partsS P t parts = some ps → ∀ i u off size, (i, u) ∈ realParts a parts → (places.toArray[·]?) i = some (off, size) → ∃ x, (off, size, x) ∈ ps
  | [], ps, h, i, u, off, size, hm, _ => by simp [realParts] at hm
  | (i0, o) :: parts, ps, h, i, u, off, size, hm, hp => by
    simp only [partsS] at h
    obtain ⟨f, hf, h⟩ := bnd_eq_some h
    obtain ⟨z, hz, h⟩ := bnd_eq_some h
    obtain ⟨x, hx, h⟩ := bnd_eq_some h
    obtain ⟨l, hl, h⟩ := bnd_eq_some h
    cases h
    simp only [realParts, List.map_cons, List.mem_cons, Prod.mk.injEq] at hm
    rcases hm with ⟨rfl, rfl⟩ | hm
    · refine ⟨x, ?_⟩
      have : (off, size) = (f.1, z) := by
        unfold fieldT at hf
        rw [hu] at hf
        simp only at hf
        unfold sizeT at hz
        obtain ⟨info, hi, hz⟩ := bnd_eq_some hz
        cases hz
        cases hfi : fs[i]? with
        | none => simp [hfi] at hf
        | some fd =>
          simp only [hfi, Option.some.injEq] at hf
          subst hf
          have key : ∀ (l : List Field) (pl : List (Nat × Nat)) (k : Nat), l.mapM (fun f => (P.info? f.type).map fun i => (f.offset, i.size)) = some pl → l[k]? = some fd → pl[k]? = some (fd.offset, info.size) := by
            intro l
            induction l with
            | nil => intro pl k _ hk; simp at hk
            | cons f0 l ih =>
              intro pl k hm hk
              simp only [List.mapM_cons, Option.bind_eq_bind, Option.pure_def] at hm
              cases h0 : (P.info? f0.type).map (fun i => (f0.offset, i.size)) with
              | none => simp [h0] at hm
              | some q =>
                cases h1 : l.mapM (fun f => (P.info? f.type).map fun i => (f.offset, i.size)) with
                | none => simp [h0, h1] at hm
                | some r =>
                  simp [h0, h1] at hm
                  subst hm
                  cases k with
                  | zero =>
                    simp only [List.getElem?_cons_zero, Option.some.injEq] at hk ⊢
                    subst hk
                    simp [hi] at h0
                    exact h0.symm
                  | succ k => simpa using ih r k h1 (by simpa using hk)
          have h2 : places[i]? = some (fd.offset, info.size) := key fs.toList places i hpl (by simpa using hfi)
          have h3 : places[i]? = some (off, size) := by simpa using hp
          rw [h2] at h3
          exact (Option.some.inj h3).symm
      cases this
      simp
    · obtain ⟨x', hx'⟩ := partsS_mem hu hpl parts l hl i u off size hm hp
      exact ⟨x', by simp [hx']⟩
theorem Inv.addOffs : ∀ (offs : List Nat) {S : Ow} {rs : Regs} {a : Act}, Inv cx N hb0 S rs h fl g a w → ∀ {dst : Option Nat}, (∀ j ∈ offs, ∀ d, dst = some d → ∀ u, (a.tmps.getD d Go.undef).cells[j]? = some u → ∃ ad n, u = .slice ad n n) → Inv cx N hb0 (Vm.addOffs dst offs S) rs h fl g a w
  | [], S, rs, a, hi, dst, _ => hi
  | j :: l, S, rs, a, hi, dst, hu => (Inv.addOffs l hi (fun j' hj' => hu j' (by simp [hj']))).addFull isLin_zero (hu j (by simp))
theorem bld_ok (hi : Inv cx N hb0 S rs h fl g a w) {cs : List V} {ps : List (Nat × Nat × Arg)} {offs : List Nat} (htr : trOpL P o.op gd = some (.bld cs ps offs)) (hs : S.step1 R o.dst (.bld cs ps offs) = some T) (hd : ∀ x, o.dst = some x → x < N)
    {vs : List V} (hv : fillV rs cs ps = some vs) : ∃ u, (execOp a.eval o).run P w = .ok (.value u) w ∧ Inv cx N hb0 T (putR o.dst (.agg vs) rs) h fl g (a.put o.dst u) w := by
  cases gd <;> simp only [trOpL, reduceCtorEq] at htr <;> obtain ⟨r, h1, h2⟩ := bnd_eq_some htr <;> cases h2
  unfold trBld at h1
  split at h1
  · rename_i t parts hop
    obtain ⟨z, hz, h1⟩ := bnd_eq_some h1
    obtain ⟨cs', hcs, h1⟩ := bnd_eq_some h1
    split at h1
    · rename_i fs hu
      obtain ⟨places, hpl, h1⟩ := bnd_eq_some h1
      obtain ⟨ps', hps, h1⟩ := bnd_eq_some h1
      cases h1
      have hz0 : VRs g z.cells.toList cs' := (trVals_sound hcs).vrs
      have hzc : cs'.all V.isCell = true := (trVals_sound (m := g.imm) hcs).isCells
      unfold zeroT at hz
      obtain ⟨it, hit, hz⟩ := bnd_eq_some hz
      have hparts : (parts.map fun (i, x) => (i, a.eval x)).toList = realParts a parts.toList := by simp [realParts]
      have hpl' := places_some t fs places hpl
      obtain ⟨us', e, hus'⟩ := fillS_sound hi.F.regs hu hpl' parts.toList ps' z.cells cs' vs hps hz0 hv
      have hrun : (Instr.build t (parts.map fun (i, x) => (i, a.eval x))).run P w = .ok (.agg us') w := by
        refine run_build w t _ us' ?_
        simp only [Program.built, hit, hu, hz, hpl', hparts, e]
      have hur : VR g (.agg us') (.agg vs) := by simpa using VR.agg hus' (fillV_cells hzc hv)
      have hexec : (execOp a.eval o).run P w = .ok (.value (.agg us')) w := by
        unfold execOp; rw [hop]; exact run_v hrun
      refine ⟨_, hexec, ?_⟩
      simp only [Ow.step1] at hs
      obtain ⟨hnil, hs⟩ := cnd_eq_some hs
      obtain ⟨T0, hk, hs⟩ := bnd_eq_some hs
      cases hs
      refine Inv.addOffs offs (hi.put hd hk hur) fun j hj d hdst x hx => ?_
      rw [hdst, put_get (by rw [hi.F.size]; exact hd d hdst)] at hx
      simp only [nilOffs, List.all_eq_true, Bool.and_eq_true, Bool.or_eq_true, decide_eq_true_eq] at hnil
      obtain ⟨hn1, hn2⟩ := hnil j hj
      have hkeep := fill_keep _ _ _ e j (fun i u off size hm hp => by
        obtain ⟨y, hy⟩ := partsS_mem hu hpl' parts.toList ps' hps i u off size hm hp
        exact hn2 _ hy)
      have hx' : us'[j]? = some x := hx
      rw [hkeep] at hx'
      obtain ⟨v, hv1, hv2⟩ := trVals_get hcs j x (by simpa using hx')
      split at hn1
      · rename_i hc
        rw [hc] at hv1
        cases hv1
        exact ⟨none, 0, trVal_nil hv2⟩
      · cases hn1
    · cases h1
  · cases h1

theorem boxo_ok (hi : Inv cx N hb0 S rs h fl g a w) {n : Nat} {x : Arg} {own : List (Nat × Nat)} (htr : trOpL P o.op gd = some (.boxo n x own)) (hs : S.step1 R o.dst (.boxo n x own) = some T) (hd : ∀ x, o.dst = some x → x < N) (hb : boxable n (x.val rs) = true) :
    ∃ u w' g', (execOp a.eval o).run P w = .ok (.value u) w' ∧ GLe g g' ∧ Inv cx N hb0 T (putR o.dst (.ptr (some (h.length, 0))) rs) (h ++ [.cells (x.val rs).flat own]) fl g' (a.put o.dst u) w' := by
  cases gd <;> simp only [trOpL, reduceCtorEq] at htr <;> obtain ⟨r, h1, h2⟩ := bnd_eq_some htr <;> cases h2
  unfold trBoxo at h1
  split at h1
  · rename_i e y hop
    obtain ⟨n', hn, h1⟩ := bnd_eq_some h1
    obtain ⟨x', hx, h1⟩ := bnd_eq_some h1
    cases h1
    have hu := trArg_sound hi.F.regs hx
    simp only [boxable, Bool.and_eq_true] at hb
    have hlen := hi.G.muNone (Nat.le_refl h.length)
    have hle : GLe g (g.addMu h.length w.heap.size) := Gh.addMu_le hlen
    have hk : S.kill o.dst = some T ∧ ∀ j sz, (j, sz) ∈ own → isLin sz = false ∧ ∃ t, y = .tmp t ∧ (t, j, 0) ∈ S.own := by
      cases x' with
      | c c =>
        simp only [Ow.step1] at hs
        obtain ⟨he, hs⟩ := cnd_eq_some hs
        simp only [List.isEmpty_iff] at he
        subst he
        exact ⟨hs, fun j sz hm => by simp at hm⟩
      | r t =>
        simp only [Ow.step1] at hs
        obtain ⟨he, hs⟩ := cnd_eq_some hs
        simp only [Bool.and_eq_true, List.all_eq_true, List.any_eq_true, decide_eq_true_eq] at he
        refine ⟨hs, fun j sz hm => ⟨noLin_mem he.1 hm, t, trArg_tmp hx, ?_⟩⟩
        obtain ⟨q, hq, rfl⟩ := he.2 _ hm
        exact hq
    obtain ⟨pd, hO, hf⟩ := hi.O
    have h1 := hi.push (O := .cells (a.eval y).cells e) (x := .cells (x'.val rs).flat own) ⟨_, e, heap_alloc_new w _, (hu.cells hb.2).mono hle, hb.2⟩ (fun cs' own' e' j sz u hm hc => by
      cases e'
      obtain ⟨hnl, t, rfl, hm'⟩ := hk.2 j sz hm
      refine ⟨hnl, ?_⟩
      simp only [World.cell?, heap_alloc_new] at hc
      have hc' : (a.eval (.tmp t)).cells[j]? = some u := by simpa using hc
      obtain ⟨ad, n, cap, rfl, h⟩ := (hO.own (.reg t j) 0 u ⟨hm', show (a.eval (.tmp t)).cells[j]? = some u from hc'⟩).plain isLin_zero
      rcases h with rfl | ⟨_, h, _⟩
      · exact ⟨ad, n, rfl⟩
      · omega)
    refine ⟨.pointer (some ⟨w.heap.size, 0, none⟩), _, _, ?_, hle, h1.put hd hk.1 (.ptr (by simp [Gh.addMu]))⟩
    unfold execOp
    rw [hop]
    simp [Instr.box, newVar, newRow]
  · cases h1

theorem bstr_ok (hi : Inv cx N hb0 S rs h fl g a w) {x : Arg} (htr : trOpL P o.op gd = some (.bstr x)) (hs : S.step1 R o.dst (.bstr x) = some T) (hd : ∀ x, o.dst = some x → x < N) {v : V} (hv : convV .bytesOfStr (x.val rs) = some v) :
    ∃ u w' g', (execOp a.eval o).run P w = .ok (.value u) w' ∧ GLe g g' ∧ Inv cx N hb0 T (putR o.dst v rs) h fl g' (a.put o.dst u) w' := by
  cases gd <;> simp only [trOpL, reduceCtorEq] at htr <;> obtain ⟨r, h1, h2⟩ := bnd_eq_some htr <;> cases h2
  unfold trBstr at h1
  split at h1
  · rename_i s d y hop
    split at h1
    · rename_i e hus hud
      obtain ⟨hbt, hx⟩ := cnd_eq_some h1
      have he : P.underlying e = some (.int .u8) := by
        unfold byteT at hbt
        split at hbt
        · assumption
        · cases hbt
      have hu := trArg_sound hi.F.regs hx
      cases hxv : x.val rs <;> rw [hxv] at hv hu <;> simp only [convV, reduceCtorEq, Option.some.injEq] at hv
      subst hv
      obtain ⟨str, hstr, rfl⟩ := hu.str_inv
      have hrun := Go.Lib.run_convert_string_bytes (P := P) w s d e str hus hud he
      generalize hw' : Go.Lib.bytesWorld w e str = w' at hrun
      have hold : ∀ k, k < w.heap.size → w'.heap[k]? = w.heap[k]? := fun k hk => by subst hw'; exact Go.Lib.bytesWorld_at_old w e str k hk
      have hnew : w'.heap[w.heap.size]? = some (.cells (Go.Lib.bytesCells w e str) e ((Go.Lib.bytesCells w e str).size, (Go.Lib.bytesCells w e str).size + 1)) := by subst hw'; exact Go.Lib.bytesWorld_at_new w e str
      have hgr : w.grownBy w' none := ⟨by subst hw'; rfl, by subst hw'; rfl, by subst hw'; rfl, by subst hw'; rw [Go.Lib.bytesWorld_size]; exact Nat.le_succ _, fun k hk _ => hold k hk⟩
      have hG1 := hi.G.other hgr (fun b e => by cases e)
      have hus' : ∀ (j : Nat) (u : Value), (str.data.toList.map fun b => Value.int .u8 b.toNat)[j]? = some u → (Go.Lib.bytesCells w e str)[0 + j]? = some u := fun j u hu => by
        have hj := (List.getElem?_eq_some_iff.1 hu).1
        simp only [List.length_map, Array.length_toList] at hj
        simp only [Go.Lib.bytesCells, Nat.zero_add]
        rw [Array.getElem?_append_left (by simpa using hj)]
        simpa using hu
      have hG2 := hG1.tail (b := w.heap.size) (lo := 0) (us := str.data.toList.map fun b => Value.int .u8 b.toNat) hnew (.inl hi.W.hsz) (fun i hl hm => by have := (hi.G.muW i _ hm).1; omega) (fun k _ => hi.G.immNone (Nat.le_refl _) k) (w' := w') rfl (fun _ _ => rfl) hnew (fun k hk => by omega) hus'
      have hle : GLe g (g.addImm w.heap.size 0 (str.data.toList.map fun b => Value.int .u8 b.toNat)) := Gh.addImm_le fun k _ _ => hi.G.immNone (Nat.le_refl _) k
      have hvr : VR (g.addImm w.heap.size 0 (str.data.toList.map fun b => Value.int .u8 b.toNat)) (.slice (some ⟨w.heap.size, 0, none⟩) str.size (grownCap w str.size 0 e)) (.sl (str.data.toList.map byteV)) := by
        refine .cell (.sl (sz := 1) (us := str.data.toList.map fun b => Value.int .u8 b.toNat) (by rw [List.length_map, Array.length_toList]; rfl) (by have := grownCap_ge w str.size 0 e; exact this) (fun x hx => ?_) (fun j u hu => Gh.addImm_at hu) ?_)
        · obtain ⟨b, _, rfl⟩ := List.mem_map.1 hx; rfl
        · have : ∀ l : List UInt8, CRs (g.addImm w.heap.size 0 (str.data.toList.map fun b => Value.int .u8 b.toNat)).imm (l.map fun b => Value.int .u8 b.toNat) ((l.map byteV).flatMap V.flat) := by
            intro l
            induction l with
            | nil => exact .nil
            | cons b l ih => exact .cons (.int .u8 b.toNat) ih
          exact this _
      obtain ⟨pd, hO, hf⟩ := hi.O
      have h1 : Inv cx N hb0 S rs h fl (g.addImm w.heap.size 0 (str.data.toList.map fun b => Value.int .u8 b.toNat)) a w' := by
        refine ⟨hi.W.step hgr (fun b e => by cases e) id, hG2, ⟨pd, ?_, ⟨hf.al, fun t p hm => ?_, hf.pd⟩⟩, hi.F.mono hle⟩
        · refine hO.map (fun p q => p = q) (fun _ _ _ e1 e2 => e1.trans e2.symm) (fun p sz u hp => .inr ⟨_, sz, rfl, ?_, .inl rfl⟩) (fun p q b e hn => e ▸ hn) (fun q sz u b hq _ hb => ⟨⟨hold b ((hO.own q sz u hq).lt hb), fun k hk => ?_⟩, fun i hl hm => ⟨hl, hm⟩⟩) hle.imm
          · cases p with
            | reg r off => exact hp
            | cell i j =>
              obtain ⟨cs, own, b, h1, h2, h3, h4, h5⟩ := hp
              exact ⟨cs, own, b, h1, h2, h3, h4, by rw [← cell_same (hold b (hi.G.muW i b h4).1)]; exact h5⟩
          · rw [Gh.addImm_other (Nat.ne_of_lt ((hO.own q sz u hq).lt hb))]; exact hk
        · obtain ⟨b, k, h1, h2⟩ := hf.la t p hm
          exact ⟨b, k, h1, by rw [cell_same (hold b (cell_lt h2))]; exact h2⟩
      simp only [Ow.step1] at hs
      obtain ⟨T0, hk, hs⟩ := bnd_eq_some hs
      cases hs
      refine ⟨_, w', _, ?_, hle, (h1.put hd hk hvr).noLa⟩
      unfold execOp
      rw [hop]
      simp only [hstr]
      exact run_v hrun
    · cases h1
  · cases h1

theorem run_eq_slice (d : Nat) {t e : TypeId} (ht : P.underlying t = some (.slice e)) {ad : Option Addr} {n c : Nat} (hn : ad = none → n = 0 ∧ c = 0) : (Op.equalIn (d + 1) t (.slice ad n c) (.slice none 0 0)).run P w = .ok ad.isNone w := by
  cases ad <;> simp [Op.equalIn, run_underlying ht]
theorem isnil_run {t e : TypeId} (ht : P.underlying t = some (.slice e)) {x y : Operand} {ad : Option Addr} {n c : Nat} (hn : ad = none → n = 0 ∧ c = 0) :
    (do eqGuard .eql t x y (.slice ad n c) (.slice none 0 0); binOp .eql t (.slice ad n c) (.slice none 0 0)).run P w = .ok (.bool ad.isNone) w := by
  have h1 : binOp .eql t (.slice ad n c) (.slice none 0 0) = (do pure (.bool (← Op.equal t (.slice ad n c) (.slice none 0 0)))) := rfl
  have h2 : (Op.equal t (.slice ad n c) (.slice none 0 0)).run P w = .ok ad.isNone w := run_eq_slice 9999 ht hn
  simp only [eqGuard_at_slice, Sem.run_bind, Sem.run_pure, Result.andThen_ok, h1, h2]
theorem isnil_ok (hi : Inv cx N hb0 S rs h fl g a w) {x : Arg} (htr : trOpL P o.op gd = some (.isnil x)) (hs : S.step1 R o.dst (.isnil x) = some T) (hd : ∀ x, o.dst = some x → x < N) {v : V} (hv : isnilV (x.val rs) = some v) :
    ∃ u, (execOp a.eval o).run P w = .ok (.value u) w ∧ Inv cx N hb0 T (putR o.dst v rs) h fl g (a.put o.dst u) w := by
  cases gd <;> simp only [trOpL, reduceCtorEq] at htr <;> obtain ⟨r, h1, h2⟩ := bnd_eq_some htr <;> cases h2
  unfold trIsnil at h1
  split at h1
  · rename_i t y c z hop
    split at h1
    · rename_i e ht
      have hu := trArg_sound hi.F.regs h1
      unfold isnilV at hv
      have key : ∃ ad n c b, a.eval y = .slice ad n c ∧ (ad = none → n = 0 ∧ c = 0) ∧ b = ad.isNone ∧ VR g (.bool b) v := by
        split at hv
        · rename_i hx
          cases hv
          rw [hx] at hu
          generalize a.eval y = u at hu
          cases hu with
          | cell q => cases q with
            | nils => exact ⟨_, _, _, _, rfl, (fun _ => ⟨rfl, rfl⟩), rfl, .cell (.bb _)⟩
            | sl0 => exact ⟨_, _, _, _, rfl, (fun e => by cases e), rfl, .cell (.bb _)⟩
            | sl _ _ _ _ _ => exact ⟨_, _, _, _, rfl, (fun e => by cases e), rfl, .cell (.bb _)⟩
        · rename_i p ps hx
          cases hv
          rw [hx] at hu
          generalize a.eval y = u at hu
          cases hu with
          | cell q => cases q with
            | sl _ _ _ _ _ => exact ⟨_, _, _, _, rfl, (fun e => by cases e), rfl, .cell (.bool _)⟩
        · cases hv
      obtain ⟨ad, n, c, b, hy, hn, rfl, hvr⟩ := key
      refine ⟨.bool ad.isNone, ?_, hi.put hd (by simpa only [Ow.step1] using hs) hvr⟩
      unfold execOp
      rw [hop]
      have := isnil_run (P := P) (w := w) ht (x := y) (y := .const (.slice none 0 0)) hn
      rw [← hy] at this
      exact run_v this
    · cases h1
  · cases h1
end
end Go.Vm

/- Every operation; a region whose order is fixed. -/
set_option linter.unusedVariables false
set_option linter.unusedSimpArgs false
namespace Go.Vm
attribute [local simp] evalOps_nil evalOps_cons evalOps_consg evalOp_mv evalOp_asg evalOp_pick evalOp_build evalOp_bslice evalOp_load evalOp_nilck evalOp_bin evalOp_un evalOp_conv evalOp_mkfn evalOp_slice evalOp_faddr evalOp_field evalOp_iaddr evalOp_index evalOp_lookup evalOp_extract evalOp_app evalOp_len evalOp_mn evalOp_mx evalOp_alloc evalOp_box evalOp_mkmap evalOp_store evalOp_mapupd evalOp_delete evalOp_sliceArr evalOp_call evalOp_callv evalOp_appc code_skip code_ops code_dops code_seq code_cond code_block code_exit code_ret finish_normal finish_ret
attribute [local simp] V.lt V.ltL V.flat V.pureCell V.pure V.isCell cellEq cellsEq eqV intV shV strV isShift binV unV byteV convV minV maxV foldV foldV1 fillV fillE findV putV delV isKey natOf natOr cut cellsAt mapAt mapOf loadV pickV nilckV sizeOk allSize sliceV faddrV fieldV iaddrV indexV found extractV allPure appV lenV ownHas ownOk storeC storeV samePtr appcV boxable mapupdV deleteV sliceArrV callV allLt clean bodyEnd resV one finishV runV initR
section
variable {P : Program} {R : Nat → Option Nat} {cx : Cx} {N : Nat} {hb0 : Heap} {S T : Ow} {rs : Regs} {h : Heap} {fl : Fl} {g : Gh} {a : Act} {w : World} {o : Oper} {gd vop : VOp}

theorem wp_value' {u : Value} {w' : World} {K : Act → World → Prop} {Q : Exit → Act → World → Prop} (hr : (execOp a.eval o).run P w = .ok (.value u) w') (h : K (a.put o.dst u) w') : o.wp P a w K Q := by
  unfold Oper.wp; rw [hr, Oper.upon_value]; exact h
theorem wp_skip' {w' : World} {K : Act → World → Prop} {Q : Exit → Act → World → Prop} (hr : (execOp a.eval o).run P w = .ok .skip w') (h : K (a.put o.dst Go.undef) w') : o.wp P a w K Q := by
  unfold Oper.wp; rw [hr, Oper.upon_skip]; exact h
theorem or_no : fl.or .no = fl := by cases fl; simp [Fl.or]
theorem or_ff : fl.or ⟨false, false⟩ = fl := by cases fl; simp [Fl.or]

set_option maxHeartbeats 1000000 in
theorem op_ok {C : Callee} (hi : Inv cx N hb0 S rs h fl g a w) (hC : FnOk P R C) (htr : trOp P o.op o.type gd = some vop) (hs : S.step1 R o.dst vop = some T) (hd : ∀ x, o.dst = some x → x < N) {r : V × Heap × Fl} (he : evalOp C cx.n0 hb0.length rs h vop = some r)
    {K : Act → World → Prop} {Q : Exit → Act → World → Prop} (hK : ∀ u w' g', GLe g g' → Inv cx N hb0 T (putR o.dst r.1 rs) r.2.1 (fl.or r.2.2) g' (a.put o.dst u) w' → K (a.put o.dst u) w') : o.wp P a w K Q := by
  have quiet : quietOp vop = true → (bnd (valOp h rs vop) fun v => some (v, h, Fl.no)) = some r → o.wp P a w K Q := fun hq hv => by
    obtain ⟨v, hv2, e⟩ := bnd_eq_some hv
    cases e
    obtain ⟨u, hr, hi'⟩ := quiet_ok hi htr hq hv2 hs hd
    exact wp_value' hr (hK u w g (GLe.refl g) (by rw [or_no]; exact hi'))
  cases vop with
  | alloc cs own =>
    cases he
    obtain ⟨u, w', g', hr, hle, hi'⟩ := alloc_ok hi htr hs hd
    exact wp_value' hr (hK u w' g' hle (by rw [or_no]; exact hi'))
  | box n x =>
    simp only [evalOp] at he
    obtain ⟨hb, he⟩ := cnd_eq_some he
    cases he
    obtain ⟨u, w', g', hr, hle, hi'⟩ := box_ok hi htr hs hd hb
    exact wp_value' hr (hK u w' g' hle (by rw [or_no]; exact hi'))
  | store n p x own q =>
    obtain ⟨w', hr, hi'⟩ := store_ok (C := C) hi htr hs hd he
    exact wp_skip' hr (hK Go.undef w' g (GLe.refl g) hi')
  | bslice z k n ps =>
    simp only [evalOp] at he
    obtain ⟨v, hv, e⟩ := bnd_eq_some he
    cases e
    obtain ⟨u, w', g', hr, hle, hi'⟩ := bslice_ok hi htr hs hd hv
    exact wp_value' hr (hK u w' g' hle (by rw [or_no]; exact hi'))
  | app p size bytes s x =>
    simp only [evalOp, valOp] at he
    obtain ⟨v, hv, e⟩ := bnd_eq_some he
    cases e
    obtain ⟨u, w', g', hr, hle, hi'⟩ := app_ok hi htr hs hd hv
    exact wp_value' hr (hK u w' g' hle (by rw [or_no]; exact hi'))
  | appc p size bytes s x =>
    simp only [evalOp] at he
    obtain ⟨wr, hwr, he⟩ := bnd_eq_some he
    obtain ⟨v, hv, e⟩ := bnd_eq_some he
    cases e
    obtain ⟨u, w', g', hr, hle, hi'⟩ := appc_ok hi htr hs hd hv hwr
    exact wp_value' hr (hK u w' g' hle hi')
  | call q f as =>
    simp only [evalOp] at he
    obtain ⟨r0, hr0, he⟩ := bnd_eq_some he
    have := quiet_same he
    subst this
    obtain ⟨args, ts, hop, has⟩ := trOp_call htr
    have hargs := trArgs_sound hi.F.regs has
    simp only [Ow.step1] at hs
    obtain ⟨hnp, hs⟩ := cnd_eq_some hs
    obtain ⟨T0, hk, hs⟩ := bnd_eq_some hs
    have hpd : S.pd = none := by simpa [Ow.noPd] using hnp
    have hexec := exec_call (P := P) (w := w) (a := a) hop (y := .func f) rfl (f := f) (us := #[]) (vs := #[]) rfl
    have hargs' : VRs g (#[] ++ args.map a.eval ++ #[]).toList (vals rs as) := by simpa using hargs
    cases hRf : R f with
    | none =>
      rw [hRf] at hs; cases hs
      exact call_core hi hC hr0 hargs' hexec hpd hk none (.inl rfl) (fun _ e => by cases e) rfl hd hK
    | some sz =>
      rw [hRf] at hs
      cases hl : isLin sz <;> simp only [hl, cnd_true, cnd_false, Option.some.injEq] at hs <;> subst hs
      · exact call_core hi hC hr0 hargs' hexec hpd hk (some sz) (.inr hRf.symm) (fun _ e => by cases e; exact hl) rfl hd hK
      · exact call_core hi hC hr0 hargs' hexec hpd hk none (.inl rfl) (fun _ e => by cases e) rfl hd hK
  | callv q x as =>
    simp only [evalOp] at he
    obtain ⟨r0, hr0, he⟩ := bnd_eq_some he
    have := quiet_same he
    subst this
    obtain ⟨y, args, ts, hop, hy, has⟩ := trOp_callv htr
    have hargs := trArgs_sound hi.F.regs has
    have hyv := trArg_sound hi.F.regs hy
    simp only [Ow.step1] at hs
    obtain ⟨hnp, hs⟩ := cnd_eq_some hs
    obtain ⟨T0, hk, hs⟩ := bnd_eq_some hs
    cases hs
    have hpd : S.pd = none := by simpa [Ow.noPd] using hnp
    unfold callV at hr0
    split at hr0
    · rename_i f first caps hxe
      rw [hxe] at hyv
      obtain ⟨us, vs, hyu, h1, h2⟩ := hyv.fn_inv
      have hexec := exec_call (P := P) (w := w) (a := a) hop (y := y) rfl hyu
      have hargs' : VRs g (us.toArray ++ args.map a.eval ++ vs.toArray).toList (first ++ (vals rs as ++ caps)) := by
        have := h1.append (hargs.append h2)
        simpa using this
      exact call_core hi hC hr0 hargs' hexec hpd hk none (.inl rfl) (fun _ e => by cases e) rfl hd hK
    · cases hr0
  | conv k x =>
    cases k with
    | bytesOfStr => simp only [Ow.step1, reduceCtorEq] at hs
    | _ => exact quiet rfl he
  | mkmap => simp only [Ow.step1, reduceCtorEq] at hs
  | sliceArr n k x => simp only [Ow.step1, reduceCtorEq] at hs
  | mapupd q m k v => simp only [Ow.step1, reduceCtorEq] at hs
  | delete q m k => simp only [Ow.step1, reduceCtorEq] at hs
  | newl z => have := trOp_nolin htr; cases this
  | appl p z b s x => have := trOp_nolin htr; cases this
  | lenl p x => have := trOp_nolin htr; cases this
  | slf p z x l u => have := trOp_nolin htr; cases this
  | calll f p z F x as => have := trOp_nolin htr; cases this
  | bld z p f => have := trOp_nolin htr; cases this
  | boxo n x w => have := trOp_nolin htr; cases this
  | bstr x => have := trOp_nolin htr; cases this
  | isnil x => have := trOp_nolin htr; cases this
  | _ => exact quiet rfl he

/-- What a call on such a list rests on. -/
def linOkV (P : Program) : VOp → Prop
  | .calll f _ size F _ _ => LinOk P f size F
  | _ => True
theorem op_okA {C : Callee} (hi : Inv cx N hb0 S rs h fl g a w) (hC : FnOk P R C) (htr : trOpA P o.op o.type gd = some vop) (hL : linOkV P vop) (hs : S.step1 R o.dst vop = some T) (hd : ∀ x, o.dst = some x → x < N) {r : V × Heap × Fl} (he : evalOp C cx.n0 hb0.length rs h vop = some r)
    {K : Act → World → Prop} {Q : Exit → Act → World → Prop} (hK : ∀ u w' g', GLe g g' → Inv cx N hb0 T (putR o.dst r.1 rs) r.2.1 (fl.or r.2.2) g' (a.put o.dst u) w' → K (a.put o.dst u) w') : o.wp P a w K Q := by
  cases hlin : linOp vop with
  | false => exact op_ok hi hC (trOpA_plain htr hlin) hs hd he hK
  | true =>
    have htr := trOpA_lin htr hlin
    cases vop with
    | newl z =>
      cases he
      obtain ⟨u, hr, hi'⟩ := newl_ok hi htr hs hd
      exact wp_value' hr (hK u w g (GLe.refl g) (by rw [or_no]; exact hi'))
    | appl p z b s x =>
      simp only [evalOp] at he
      obtain ⟨v, hv, e⟩ := bnd_eq_some he
      cases e
      obtain ⟨u, w', hr, hi'⟩ := appl_ok hi htr hs hd hv
      exact wp_value' hr (hK u w' g (GLe.refl g) (by rw [or_no]; exact hi'))
    | lenl p x =>
      simp only [evalOp] at he
      obtain ⟨v, hv, e⟩ := bnd_eq_some he
      cases e
      obtain ⟨u, hr, hi'⟩ := lenl_ok hi htr hs hd hv
      exact wp_value' hr (hK u w g (GLe.refl g) (by rw [or_no]; exact hi'))
    | slf p z x l u =>
      simp only [evalOp] at he
      obtain ⟨v, hv, e⟩ := bnd_eq_some he
      cases e
      obtain ⟨u, g', hr, hle, hi'⟩ := slf_ok hi htr hs hd hv
      exact wp_value' hr (hK u w g' hle (by rw [or_no]; exact hi'))
    | calll f p z F x as =>
      simp only [evalOp] at he
      obtain ⟨v, hv, e⟩ := bnd_eq_some he
      cases e
      exact calll_ok hi htr hL hs hd hv fun u w' hi' => hK u w' g (GLe.refl g) (by rw [or_no]; exact hi')
    | bld cs ps offs =>
      simp only [evalOp] at he
      obtain ⟨v, hv, e⟩ := bnd_eq_some he
      cases e
      obtain ⟨vs, hvs, hv⟩ := bnd_eq_some hv
      cases hv
      obtain ⟨u, hr, hi'⟩ := bld_ok hi htr hs hd hvs
      exact wp_value' hr (hK u w g (GLe.refl g) (by rw [or_no]; exact hi'))
    | boxo n x own =>
      simp only [evalOp] at he
      obtain ⟨hb, he⟩ := cnd_eq_some he
      cases he
      obtain ⟨u, w', g', hr, hle, hi'⟩ := boxo_ok hi htr hs hd hb
      exact wp_value' hr (hK u w' g' hle (by rw [or_no]; exact hi'))
    | isnil x =>
      simp only [evalOp] at he
      obtain ⟨v, hv, e⟩ := bnd_eq_some he
      cases e
      obtain ⟨u, hr, hi'⟩ := isnil_ok hi htr hs hd hv
      exact wp_value' hr (hK u w g (GLe.refl g) (by rw [or_no]; exact hi'))
    | bstr x =>
      simp only [evalOp] at he
      obtain ⟨v, hv, e⟩ := bnd_eq_some he
      cases e
      obtain ⟨u, w', g', hr, hle, hi'⟩ := bstr_ok hi htr hs hd hv
      exact wp_value' hr (hK u w' g' hle (by rw [or_no]; exact hi'))
    | _ => cases hlin

/-- The guard, as the V-machine has it. -/
theorem wanted_ok {ops : Array Oper} (hr : RR g a rs) (hsz : a.tmps.size = N) {gd' : Option (Nat × Bool)} (hg : trGuard ops o.guard = some gd') {b : Bool} (hb : wanted rs gd' = some b) : Region.wanted o (yielded ops a.tmps) = b := by
  unfold trGuard at hg
  unfold Region.wanted
  split at hg
  · rename_i e
    cases hg
    cases hb
    rw [e]
  · rename_i j t e
    split at hg
    · rename_i d hd
      cases hg
      simp only [wanted] at hb
      rw [e]
      simp only [yielded, hd, Option.bind_some]
      have hv := hr d
      unfold wantedV at hb
      split at hb
      · rename_i c hc
        rw [hc] at hv
        cases hb
        have hb1 := hv.bool_inv
        have : a.tmps[d]? = some (.bool c) := by
          rw [Array.getD_eq_getD_getElem?] at hb1
          cases hq : a.tmps[d]? with
          | none => rw [hq] at hb1; cases hb1
          | some z => rw [hq] at hb1; simp at hb1; rw [hb1]
        rw [this]
        cases c <;> cases t <;> rfl
      · rename_i hc
        rw [hc] at hv
        cases hb
        have hu : a.tmps.getD d Go.undef = Go.undef := by
          generalize a.tmps.getD d Go.undef = q at hv
          cases hv with
          | cell c => cases c
          | undef => rfl
        rw [Array.getD_eq_getD_getElem?] at hu
        cases hq : a.tmps[d]? with
        | none => cases t <;> rfl
        | some z =>
          rw [hq] at hu
          simp at hu
          subst hu
          cases t <;> rfl
      · cases hb
    · cases hg

theorem step_ok {C : Callee} {ops : Array Oper} {i : VI} (hi : Inv cx N hb0 S rs h fl g a w) (hC : FnOk P R C) {g0 : VI} (htr : trI P ops o g0 = some i) (hL : linOkV P i.op) (hs : S.step R i = some T) (hd : ∀ x, o.dst = some x → x < N) {b : Bool} (hb : wanted rs i.guard = some b)
    {rs' : Regs} {h' : Heap} {fl' : Fl} (he : (b = true ∧ ∃ r, evalOp C cx.n0 hb0.length rs h i.op = some r ∧ rs' = putR i.dst r.1 rs ∧ h' = r.2.1 ∧ fl' = fl.or r.2.2) ∨ (b = false ∧ rs' = putR i.dst .undef rs ∧ h' = h ∧ fl' = fl))
    {K : Act → World → Prop} {Q : Exit → Act → World → Prop} (hK : ∀ u w' g', GLe g g' → Inv cx N hb0 T rs' h' fl' g' (a.put o.dst u) w' → K (a.put o.dst u) w') :
    (if Region.wanted o (yielded ops a.tmps) then o.wp P a w K Q ∨ (o.asks P a w ∧ LetsOut Q) else K (a.put o.dst Go.undef) w) := by
  simp only [trI] at htr
  obtain ⟨gd', hgd, htr⟩ := bnd_eq_some htr
  obtain ⟨vop, hop, htr⟩ := bnd_eq_some htr
  cases htr
  have hwant := wanted_ok hi.F.regs hi.F.size hgd hb
  rw [hwant]
  rcases he with ⟨rfl, r, hr, rfl, rfl, rfl⟩ | ⟨rfl, rfl, rfl, rfl⟩
  · simp only [if_true]
    left
    cases gd' with
    | none => exact op_okA hi hC hop hL hs hd hr hK
    | some q =>
      simp only [Ow.step] at hs
      obtain ⟨S1, h1, hs⟩ := bnd_eq_some hs
      obtain ⟨S0, h0, hs⟩ := bnd_eq_some hs
      obtain ⟨S2, h2, hs⟩ := bnd_eq_some hs
      obtain ⟨hsub, hs⟩ := cnd_eq_some hs
      cases hs
      refine op_okA hi hC hop hL h1 hd hr fun u w' g' hle hi' => hK u w' g' hle ?_
      obtain ⟨m1, m2, m3, m4⟩ := kill_sub h2
      refine hi'.weaken (fun x hx => (m2 x hx).1) (fun x hx => (m3 x hx).1) (fun x hx => ?_) m1
      cases hdst : o.dst with
      | none => rw [hdst] at h2; cases kill_none h2; exact hx
      | some d => rw [hdst] at h2; obtain ⟨_, rfl⟩ := kill_some h2; exact (mem_offPair.1 hx).1
  · simp only [if_false, Bool.false_eq_true]
    cases gd' with
    | none => simp [wanted] at hb
    | some q =>
      simp only [Ow.step] at hs
      obtain ⟨S1, h1, hs⟩ := bnd_eq_some hs
      obtain ⟨S0, h0, hs⟩ := bnd_eq_some hs
      obtain ⟨S2, h2, hs⟩ := bnd_eq_some hs
      obtain ⟨hsub, hs⟩ := cnd_eq_some hs
      cases hs
      exact hK Go.undef w g (GLe.refl g) ((hi.put hd h0 .undef).sub hsub)

/-- All operations, one behind the other. -/
theorem list_ok {C : Callee} {ops : Array Oper} (hC : FnOk P R C) {Q : Exit → Act → World → Prop} {rs' : Regs} {h' : Heap} {fl' : Fl} : ∀ (os : List Oper) (is is' : List VI) (k : Nat) (S T : Ow) (rs : Regs) (h : Heap) (fl : Fl) (g : Gh) (a : Act) (w : World),
    (∀ (j : Nat), os[j]? = ops[k + j]?) → trIs P ops os is' = some is → (∀ i ∈ is, linOkV P i.op) → Inv cx N hb0 S rs h fl g a w → Ow.steps R is S = some T → (∀ o ∈ os, ∀ x, o.dst = some x → x < N) → evalOps C cx.n0 hb0.length is rs h fl = some (rs', h', fl') →
    (∀ g' a' w', GLe g g' → Inv cx N hb0 T rs' h' fl' g' a' w' → Q .normal a' w') → wpOps P ops Q (List.range' k os.length) a w
  | [], is, is', k, S, T, rs, h, fl, g, a, w, _, htr, _, hi, hs, _, he, hQ => by
    cases is' with
    | nil =>
      cases htr
      cases hs
      cases he
      exact hQ g a w (GLe.refl g) hi
    | cons _ _ => cases htr
  | o :: os, is, is', k, S, T, rs, h, fl, g, a, w, hk, htr, hL, hi, hs, hd, he, hQ => by
    cases is' with
    | nil => cases htr
    | cons g0 gs =>
      simp only [trIs] at htr
      obtain ⟨i, h1, htr⟩ := bnd_eq_some htr
      obtain ⟨l, h2, htr⟩ := bnd_eq_some htr
      cases htr
      simp only [Ow.steps] at hs
      obtain ⟨T1, hs1, hs⟩ := bnd_eq_some hs
      simp only [evalOps] at he
      obtain ⟨b, hb, he⟩ := bnd_eq_some he
      have ho : ops[k]? = some o := by have := hk 0; simpa using this.symm
      simp only [List.length_cons, List.range'_succ, wpOps, ho]
      have next : ∀ rs1 h1' fl1, evalOps C cx.n0 hb0.length l rs1 h1' fl1 = some (rs', h', fl') → ∀ u w' g', GLe g g' → Inv cx N hb0 T1 rs1 h1' fl1 g' (a.put o.dst u) w' → wpOps P ops Q (List.range' (k + 1) os.length) (a.put o.dst u) w' :=
        fun rs1 h1' fl1 he' u w' g' hle hi' => list_ok hC os l gs (k + 1) T1 T rs1 h1' fl1 g' (a.put o.dst u) w' (fun j => by have := hk (j + 1); simpa [Nat.add_assoc, Nat.add_comm 1 j] using this) h2 (fun i hi => hL i (by simp [hi])) hi' hs (fun o ho => hd o (by simp [ho])) he' fun g'' a' w'' hle' hi'' => hQ g'' a' w'' (hle.trans hle') hi''
      cases b with
      | true =>
        simp only [cnd_true] at he
        obtain ⟨r, hr, he⟩ := bnd_eq_some he
        exact step_ok hi hC h1 (hL _ (by simp)) hs1 (hd o (by simp)) hb (.inl ⟨rfl, r, hr, rfl, rfl, rfl⟩) (next _ _ _ he)
      | false => exact step_ok hi hC h1 (hL _ (by simp)) hs1 (hd o (by simp)) hb (.inr ⟨rfl, rfl, rfl, rfl⟩) (next _ _ _ he)
end
end Go.Vm

/- Rounds and calls: what was made in one goes with it. -/
set_option linter.unusedVariables false
set_option linter.unusedSimpArgs false
namespace Go.Vm
attribute [local simp] evalOps_nil evalOps_cons evalOps_consg evalOp_mv evalOp_asg evalOp_pick evalOp_build evalOp_bslice evalOp_load evalOp_nilck evalOp_bin evalOp_un evalOp_conv evalOp_mkfn evalOp_slice evalOp_faddr evalOp_field evalOp_iaddr evalOp_index evalOp_lookup evalOp_extract evalOp_app evalOp_len evalOp_mn evalOp_mx evalOp_alloc evalOp_box evalOp_mkmap evalOp_store evalOp_mapupd evalOp_delete evalOp_sliceArr evalOp_call evalOp_callv evalOp_appc code_skip code_ops code_dops code_seq code_cond code_block code_exit code_ret finish_normal finish_ret
attribute [local simp] V.lt V.ltL V.flat V.pureCell V.pure V.isCell cellEq cellsEq eqV intV shV strV isShift binV unV byteV convV minV maxV foldV foldV1 fillV fillE findV putV delV isKey natOf natOr cut cellsAt mapAt mapOf loadV pickV nilckV sizeOk allSize sliceV faddrV fieldV iaddrV indexV found extractV allPure appV lenV ownHas ownOk storeC storeV samePtr appcV boxable mapupdV deleteV sliceArrV callV allLt clean bodyEnd resV one finishV runV initR

def BaseLt (h : Heap) : Prop := ∀ (i : Nat) (o : Obj), h[i]? = some o → o.lt h.length = true
theorem ERels.lt {g : Gh} {n : Nat} (hd : ∀ i b, g.mu i = some b → i < n) : ∀ {es : List MapEntry} {ps : List (V × V)}, ERels g es ps → pairsLt n ps = true
  | [], [], _ => rfl
  | e :: _, p :: _, ⟨h, t⟩ => by
    obtain ⟨k, v⟩ := p
    simp only [pairsLt, Bool.and_eq_true]
    exact ⟨⟨VR.lt (g := g) hd (.cell h.1), VR.lt hd h.2⟩, ERels.lt hd t⟩
  | [], _ :: _, h => h.elim
  | _ :: _, [], h => h.elim
theorem ObjR.lt {g : Gh} {w : World} {b n : Nat} {o : Obj} (h : ObjR g w b o) (hd : ∀ i b, g.mu i = some b → i < n) : o.lt n = true := by
  cases o with
  | cells cs own => obtain ⟨us, t, h1, h2, h3⟩ := h; exact VRs.lt hd h2
  | map es => obtain ⟨rs, c, h1, h2⟩ := h; exact h2.lt hd
  | dead => rfl
theorem ERels.trim {g : Gh} {n : Nat} : ∀ {es : List MapEntry} {ps : List (V × V)}, ERels g es ps → pairsLt n ps = true → ERels (g.trim n) es ps
  | [], [], _, _ => trivial
  | e :: _, p :: _, ⟨h, t⟩, hl => by
    obtain ⟨k, v⟩ := p
    simp only [pairsLt, Bool.and_eq_true] at hl
    exact ⟨⟨h.1, h.2.trim hl.1.2⟩, ERels.trim t hl.2⟩
  | [], _ :: _, h, _ => h.elim
  | _ :: _, [], h, _ => h.elim
theorem ObjR.trim {g : Gh} {w : World} {b n : Nat} {o : Obj} (h : ObjR g w b o) (hl : o.lt n = true) : ObjR (g.trim n) w b o := by
  cases o with
  | cells cs own => obtain ⟨us, t, h1, h2, h3⟩ := h; exact ⟨us, t, h1, h2.trim hl, h3⟩
  | map es => obtain ⟨rs, c, h1, h2⟩ := h; exact ⟨rs, c, h1, h2.trim hl⟩
  | dead => trivial

abbrev Inv0 (cx : Cx) (N : Nat) (hb : Heap) (own : Ows) (rs : Regs) (h : Heap) (fl : Fl) (g : Gh) (a : Act) (w : World) : Prop := Inv cx N hb ⟨own, [], [], none⟩ rs h fl g a w
/-- What the state at a round's beginning says of the older objects. -/
structure From (cx : Cx) (hb h : Heap) (fl : Fl) : Prop where
  fbl : cx.n0 ≤ hb.length
  lbh : hb.length ≤ h.length
  low : fl.esc = true ∨ ∀ (i : Nat) (o : Obj), i < hb.length → h[i]? = some o → ∃ ob : Obj, hb[i]? = some ob ∧ ∀ m, ob.lt m = true → o.lt m = true

section
variable {cx : Cx} {N : Nat} {hb0 : Heap} {S : Ow} {own : Ows} {rs : Regs} {h h' : Heap} {fl fl' : Fl} {g : Gh} {a : Act} {w : World}

theorem Inv.frm (hi : Inv cx N hb0 S rs h fl g a w) : From cx hb0 h fl := ⟨hi.G.fbl, hi.G.lbh, hi.G.low⟩
theorem MemG.baseLt (hm : MemG cx hb0 h fl g w) : BaseLt h := fun i o ho => by
  cases hl : o.live
  · cases o <;> first | (cases hl; done) | rfl
  · obtain ⟨b, _, hob⟩ := hm.hr.obj i o ho hl
    exact hob.lt hm.dom
theorem Inv.rebase (hi : Inv cx N hb0 S rs h fl g a w) : Inv cx N h S rs h ⟨fl.wr, false⟩ g a w :=
  ⟨hi.W.fl' id, ⟨hi.G.hr, hi.G.ge, hi.G.immW, Nat.le_trans hi.G.fbl hi.G.lbh, Nat.le_refl _, hi.G.muOld, hi.G.dom, hi.G.muW, hi.G.new, hi.G.inj, hi.G.muimm, .inr fun i o _ ho => ⟨o, ho, fun _ h => h⟩⟩, hi.O, hi.F⟩
theorem From.low2 (hf : From cx hb0 h fl) (hl : fl'.esc = true ∨ ∀ (i : Nat) (o : Obj), i < h.length → h'[i]? = some o → ∃ ob : Obj, h[i]? = some ob ∧ ∀ m, ob.lt m = true → o.lt m = true) :
    (fl.esc || fl'.esc) = true ∨ ∀ (i : Nat) (o : Obj), i < hb0.length → h'[i]? = some o → ∃ ob : Obj, hb0[i]? = some ob ∧ ∀ m, ob.lt m = true → o.lt m = true := by
  rcases hf.low with h1 | h1
  · exact .inl (by simp [h1])
  · rcases hl with h2 | h2
    · exact .inl (by simp [h2])
    · refine .inr fun i o hi ho => ?_
      obtain ⟨x, hx, hxo⟩ := h2 i o (Nat.lt_of_lt_of_le hi hf.lbh) ho
      obtain ⟨y, hy, hyx⟩ := h1 i x hi hx
      exact ⟨y, hy, fun m hm => hxo m (hyx m hm)⟩
/-- Back to the older base. -/
theorem Inv.unbase (hi : Inv cx N h S rs h' fl' g a w) (hf : From cx hb0 h fl) : Inv cx N hb0 S rs h' ⟨fl'.wr, fl.esc || fl'.esc⟩ g a w :=
  ⟨hi.W.fl' id, ⟨hi.G.hr, hi.G.ge, hi.G.immW, hf.fbl, Nat.le_trans hf.lbh hi.G.lbh, hi.G.muOld, hi.G.dom, hi.G.muW, hi.G.new, hi.G.inj, hi.G.muimm, hf.low2 hi.G.low⟩, hi.O, hi.F⟩
theorem RR.keep {live : List Nat} (hr : RR g a rs) : RR g a (keep rs live) := by
  intro r
  induction live with
  | nil => exact .top
  | cons q l ih =>
    simp only [Vm.keep, get]
    by_cases hq : r = q
    · subst hq; simpa using hr r
    · simpa [hq] using ih
theorem get_keep {live : List Nat} {r : Nat} (h : r ∈ live) : get (keep rs live) r = get rs r := by
  induction live with
  | nil => simp at h
  | cons q l ih =>
    simp only [Vm.keep, get]
    by_cases hq : r = q
    · subst hq; simp
    · rcases List.mem_cons.1 h with e | h
      · exact absurd e hq
      · simpa [hq] using ih h
/-- Lists that are a register's alone stay so if the register is needed. -/
def keepOwn (live : List Nat) (own : Ows) : Ows := own.filter fun x => !isLin x.2.2 || live.contains x.1
def linLive (live : List Nat) (own : Ows) : Bool := own.all fun x => !isLin x.2.2 || live.contains x.1
theorem linLive_keepOwn (live : List Nat) (own : Ows) : linLive live (keepOwn live own) = true := by
  simp only [linLive, keepOwn, List.all_eq_true]
  intro x hx
  exact (List.mem_filter.1 hx).2
theorem Inv.keep {live : List Nat} (hi : Inv0 cx N hb0 own rs h fl g a w) (hl : linLive live own = true) : Inv0 cx N hb0 own (keep rs live) h fl g a w := by
  obtain ⟨hO, hf⟩ := hi.own0 rfl
  refine ⟨hi.W, hi.G, ⟨none, ⟨hO.own, hO.blk, hO.dis, fun r off z hm hz => ?_⟩, ⟨hf.al, hf.la, .inl ⟨rfl, rfl⟩⟩⟩, ⟨hi.F.size, hi.F.nodef, hi.F.regs.keep⟩⟩
  obtain ⟨h0, xs, h1, h2⟩ := hO.cont r off z hm hz
  refine ⟨h0, xs, ?_, h2⟩
  have := (List.all_eq_true.1 hl) _ hm
  simp only [hz, Bool.not_true, Bool.false_or, List.contains_iff_mem] at this
  rw [get_keep this]
  exact h1
theorem allLt_get {n : Nat} : ∀ {rs : Regs}, allLt n rs = true → ∀ r, (get rs r).lt n = true
  | [], _, r => by simp
  | (k, v) :: rs, h, r => by
    simp only [allLt, Bool.and_eq_true] at h
    simp only [get]
    by_cases hr : r = k
    · simpa [hr] using h.1
    · simpa [hr] using allLt_get h.2 r
theorem take_get {n i : Nat} {o : Obj} (h : (h'.take n)[i]? = some o) : i < n ∧ h'[i]? = some o := by
  rw [List.getElem?_take] at h
  split at h
  · exact ⟨by assumption, h⟩
  · cases h
/-- The objects from the base on go. -/
theorem MemG.cut (hm : MemG cx h h' fl' g w) (he : fl'.esc = false) (hb : BaseLt h) : MemG cx h (h'.take h.length) fl' (g.trim h.length) w := by
  have hle : h.length ≤ h'.length := hm.lbh
  have hlen : (h'.take h.length).length = h.length := by simp; omega
  have live : ∀ i, LiveAt (h'.take h.length) i → i < h.length ∧ LiveAt h' i := fun i hl => by
    obtain ⟨o, ho, hl⟩ := hl
    obtain ⟨h1, h2⟩ := take_get ho
    exact ⟨h1, o, h2, hl⟩
  have mu : ∀ i b, (g.trim h.length).mu i = some b → i < h.length ∧ g.mu i = some b := fun i b hb => by
    simp only [Gh.trim] at hb
    split at hb
    · exact ⟨by assumption, hb⟩
    · cases hb
  have low : ∀ (i : Nat) (o : Obj), i < h.length → h'[i]? = some o → ∃ ob : Obj, h[i]? = some ob ∧ ∀ m, ob.lt m = true → o.lt m = true := by
    rcases hm.low with h1 | h1
    · rw [he] at h1; cases h1
    · exact h1
  have objLt : ∀ (i : Nat) (o : Obj), i < h.length → h'[i]? = some o → o.lt h.length = true := fun i o hi ho => by
    obtain ⟨ob, h1, h2⟩ := low i o hi ho
    exact h2 _ (hb i ob h1)
  refine ⟨⟨fun i o ho hl => ?_, hm.hr.imm⟩, ⟨fun i b hb => ?_, hm.ge.imm⟩, hm.immW, hm.fbl, by rw [hlen]; exact Nat.le_refl _, fun i hi => ?_, fun i b hb => by rw [hlen]; exact (mu i b hb).1, fun i b hb => ?_, fun i b hi hb => hm.new i b hi (mu i b hb).2, fun i j b hi hj hbi hbj => hm.inj i j b (live i hi).2 (live j hj).2 (mu i b hbi).2 (mu j b hbj).2,
    fun i b hi hb => hm.muimm i b (live i hi).2 (mu i b hb).2, .inr fun i o hi ho => low i o hi (take_get ho).2⟩
  · obtain ⟨h1, h2⟩ := take_get ho
    obtain ⟨b, hb, hob⟩ := hm.hr.obj i o h2 hl
    exact ⟨b, by simp [Gh.trim, h1, hb], hob.trim (objLt i o h1 h2)⟩
  · have h1 := hm.ge.mu i b hb
    have h2 : i < cx.n0 := by
      simp only [Gh.trim] at hb
      split at hb
      · assumption
      · cases hb
    have := hm.fbl
    simp only [Gh.trim]
    rw [if_pos (by omega)]
    exact h1
  · have := hm.fbl
    simp only [Gh.trim]
    rw [if_pos (by omega)]
    exact hm.muOld i hi
  · obtain ⟨h1, h2⟩ := hm.muW i b (mu i b hb).2
    exact ⟨h1, fun hl => h2 (live i hl).2⟩
theorem OwnI.cut {n : Nat} {tmps : Array Value} (hO : OwnI cx own none rs h' g tmps w) : OwnI cx own none rs (h'.take n) (g.trim n) tmps w := by
  refine hO.map (fun p q => p = q) (fun _ _ _ e1 e2 => e1.trans e2.symm) (fun p sz x hp => .inr ⟨_, sz, rfl, ?_, .inl rfl⟩) (fun p q b e hn => e ▸ hn) (fun q sz x b _ _ _ => ⟨⟨rfl, fun _ h => h⟩, fun i hl hm => ?_⟩)
  · cases p with
    | reg r off => exact hp
    | cell i j =>
      obtain ⟨cs, ow, b, h1, h2, h3, h4, h5⟩ := hp
      obtain ⟨e1, e2⟩ := take_get h1
      exact ⟨cs, ow, b, e2, h2, h3, by simpa [Gh.trim, e1] using h4, h5⟩
  · obtain ⟨o, ho, hl⟩ := hl
    obtain ⟨e1, e2⟩ := take_get ho
    exact ⟨⟨o, e2, hl⟩, by simpa [Gh.trim, e1] using hm⟩
/-- Behind a round. -/
theorem Inv.clean (hi : Inv0 cx N h own rs h' fl' g a w) (hf : From cx hb0 h fl) (hb : BaseLt h) {g0 : Gh} (hd0 : ∀ i b, g0.mu i = some b → i < h.length) (hg : GLe g0 g) :
    ∃ g', GLe g0 g' ∧ Inv0 cx N hb0 own (clean h.length fl.esc rs ⟨rs, h', fl'⟩).rs (clean h.length fl.esc rs ⟨rs, h', fl'⟩).h (clean h.length fl.esc rs ⟨rs, h', fl'⟩).fl g' a w := by
  unfold Vm.clean
  cases hc : (!fl'.esc && allLt h.length rs)
  · exact ⟨g, hg, hi.unbase hf⟩
  · simp only [Bool.and_eq_true, Bool.not_eq_true'] at hc
    obtain ⟨he, hlt⟩ := hc
    obtain ⟨hO, hfc⟩ := hi.own0 rfl
    refine ⟨g.trim h.length, ⟨fun i b hb => ?_, hg.imm⟩, ?_⟩
    · simp only [Gh.trim]
      rw [if_pos (hd0 i b hb)]
      exact hg.mu i b hb
    · have h1 : Inv0 cx N h own rs (h'.take h.length) fl' (g.trim h.length) a w :=
        ⟨hi.W, hi.G.cut he hb, ⟨none, hO.cut, ⟨hfc.al, hfc.la, .inl ⟨rfl, rfl⟩⟩⟩, ⟨hi.F.size, hi.F.nodef, fun r => (hi.F.regs r).trim (allLt_get hlt r)⟩⟩
      have h2 := h1.unbase hf
      rw [he] at h2
      simpa using h2
end
end Go.Vm

/- A region whose order is open: what may stand in it, in which order; what an operation reads. -/
set_option linter.unusedVariables false
set_option linter.unusedSimpArgs false
namespace Go.Vm
attribute [local simp] evalOps_nil evalOps_cons evalOps_consg evalOp_mv evalOp_asg evalOp_pick evalOp_build evalOp_bslice evalOp_load evalOp_nilck evalOp_bin evalOp_un evalOp_conv evalOp_mkfn evalOp_slice evalOp_faddr evalOp_field evalOp_iaddr evalOp_index evalOp_lookup evalOp_extract evalOp_app evalOp_len evalOp_mn evalOp_mx evalOp_alloc evalOp_box evalOp_mkmap evalOp_store evalOp_mapupd evalOp_delete evalOp_sliceArr evalOp_call evalOp_callv evalOp_appc code_skip code_ops code_dops code_seq code_cond code_block code_exit code_ret finish_normal finish_ret
attribute [local simp] V.lt V.ltL V.flat V.pureCell V.pure V.isCell cellEq cellsEq eqV intV shV strV isShift binV unV byteV convV minV maxV foldV foldV1 fillV fillE findV putV delV isKey natOf natOr cut cellsAt mapAt mapOf loadV pickV nilckV sizeOk allSize sliceV faddrV fieldV iaddrV indexV found extractV allPure appV lenV ownHas ownOk storeC storeV samePtr appcV boxable mapupdV deleteV sliceArrV callV allLt clean bodyEnd resV one finishV runV initR

def argRegs : Arg → List Nat
  | .r n => [n]
  | .c _ => []
def argsRegs : List Arg → List Nat
  | [] => []
  | x :: xs => argRegs x ++ argsRegs xs
def optRegs : Option Arg → List Nat
  | none => []
  | some x => argRegs x
def partsRegs : List (Nat × Nat × Arg) → List Nat
  | [] => []
  | (_, _, x) :: l => argRegs x ++ partsRegs l
def elemsRegs : List (Nat × Arg) → List Nat
  | [] => []
  | (_, x) :: l => argRegs x ++ elemsRegs l
/-- The registers that an operation reads; none: it may not stand where the order is open. -/
def readsOf : VOp → Option (List Nat)
  | .mv x => some (argRegs x)
  | .pick c a b => some (argRegs c ++ (argRegs a ++ argRegs b))
  | .build _ ps => some (partsRegs ps)
  | .bslice _ _ _ ps => cnd (incrFrom 0 ps) (some (elemsRegs ps)) none
  | .load _ _ a => some (argRegs a)
  | .nilck x => some (argRegs x)
  | .bin _ _ x y => some (argRegs x ++ argRegs y)
  | .un _ x => some (argRegs x)
  | .conv .bytesOfStr _ => none
  | .conv _ x => some (argRegs x)
  | .mkfn _ x y => some (argsRegs x ++ argsRegs y)
  | .slice _ _ x lo hi mx => some (argRegs x ++ (optRegs lo ++ (optRegs hi ++ optRegs mx)))
  | .faddr _ x => some (argRegs x)
  | .field _ _ _ x => some (argRegs x)
  | .iaddr _ _ x i => some (argRegs x ++ argRegs i)
  | .index _ _ _ _ x i => some (argRegs x ++ argRegs i)
  | .lookup _ _ _ m k => some (argRegs m ++ argRegs k)
  | .extract _ x => some (argRegs x)
  | .call true _ as => some (argsRegs as)
  | .callv true x as => some (argRegs x ++ argsRegs as)
  | .app .fresh _ _ s x => cnd (isNilArg s) (some (argRegs x)) none
  | .app (.reg p) _ _ (.r t) x => cnd (decide (t = p)) (some (p :: argRegs x)) none
  | .len _ x => some (argRegs x)
  | .mn xs => some (argsRegs xs)
  | .mx xs => some (argsRegs xs)
  | _ => none

section
variable {rs rs' : Regs}
theorem val_congr {x : Arg} (h : ∀ r ∈ argRegs x, get rs r = get rs' r) : x.val rs = x.val rs' := by
  cases x with
  | r n => exact h n (by simp [argRegs])
  | c v => rfl
theorem vals_congr : ∀ {xs : List Arg}, (∀ r ∈ argsRegs xs, get rs r = get rs' r) → vals rs xs = vals rs' xs
  | [], _ => rfl
  | x :: xs, h => by
    simp only [vals]
    rw [val_congr fun r hr => h r (by simp [argsRegs, hr]), vals_congr fun r hr => h r (by simp [argsRegs, hr])]
theorem natOr_congr {d : Nat} {x : Option Arg} (h : ∀ r ∈ optRegs x, get rs r = get rs' r) : natOr rs d x = natOr rs' d x := by
  cases x with
  | none => rfl
  | some x => simp only [natOr]; rw [val_congr h]
theorem fillV_congr : ∀ {ps : List (Nat × Nat × Arg)} {cs : List V}, (∀ r ∈ partsRegs ps, get rs r = get rs' r) → fillV rs cs ps = fillV rs' cs ps
  | [], _, _ => rfl
  | (off, size, x) :: ps, cs, h => by
    simp only [fillV]
    rw [val_congr fun r hr => h r (by simp [partsRegs, hr]), fillV_congr fun r hr => h r (by simp [partsRegs, hr])]
theorem fillE_congr : ∀ {ps : List (Nat × Arg)} {cs : List V}, (∀ r ∈ elemsRegs ps, get rs r = get rs' r) → fillE rs cs ps = fillE rs' cs ps
  | [], _, _ => rfl
  | (i, x) :: ps, cs, h => by
    simp only [fillE]
    rw [val_congr fun r hr => h r (by simp [elemsRegs, hr]), fillE_congr fun r hr => h r (by simp [elemsRegs, hr])]
theorem sliceV_congr {size : Nat} {lo hi mx : Option Arg} (h1 : ∀ r ∈ optRegs lo, get rs r = get rs' r) (h2 : ∀ r ∈ optRegs hi, get rs r = get rs' r) (h3 : ∀ r ∈ optRegs mx, get rs r = get rs' r) (b : Bool) (v : V) : sliceV size rs lo hi mx b v = sliceV size rs' lo hi mx b v := by
  unfold sliceV
  split
  · rw [natOr_congr h1, natOr_congr h2]
  · rw [natOr_congr h1, natOr_congr h2]
    congr 1
    funext l
    congr 1
    funext u
    rw [natOr_congr h3]
  · rfl
/-- What an operation yields hangs on what it reads alone. -/
theorem evalOp_congr {C : Callee} {fb lb : Nat} {h : Heap} {op : VOp} {l : List Nat} (hl : readsOf op = some l) (hr : ∀ r ∈ l, get rs r = get rs' r) : evalOp C fb lb rs h op = evalOp C fb lb rs' h op := by
  cases op with
  | mv x => cases hl; simp only [evalOp, valOp]; rw [val_congr hr]
  | pick c a b => cases hl; simp only [evalOp, valOp]; rw [val_congr fun r h => hr r (by simp [h]), val_congr fun r h => hr r (by simp [h]), val_congr fun r h => hr r (by simp [h])]
  | build z ps => cases hl; simp only [evalOp, valOp]; rw [fillV_congr hr]
  | bslice z k n ps => simp only [readsOf] at hl; obtain ⟨_, hl⟩ := cnd_eq_some hl; cases hl; simp only [evalOp, valOp]; rw [fillE_congr hr]
  | load b n a => cases hl; simp only [evalOp, valOp]; rw [val_congr hr]
  | nilck x => cases hl; simp only [evalOp, valOp]; rw [val_congr hr]
  | bin o k x y => cases hl; simp only [evalOp, valOp]; rw [val_congr fun r h => hr r (by simp [h]), val_congr fun r h => hr r (by simp [h])]
  | un o x => cases hl; simp only [evalOp, valOp]; rw [val_congr hr]
  | conv k x => cases k <;> cases hl <;> (simp only [evalOp, valOp]; rw [val_congr hr])
  | mkfn f x y => cases hl; simp only [evalOp, valOp]; rw [vals_congr fun r h => hr r (by simp [h]), vals_congr fun r h => hr r (by simp [h])]
  | slice b n x lo hi mx => cases hl; simp only [evalOp, valOp]; rw [val_congr fun r h => hr r (by simp [h]), sliceV_congr (fun r h => hr r (by simp [h])) (fun r h => hr r (by simp [h])) (fun r h => hr r (by simp [h]))]
  | faddr k x => cases hl; simp only [evalOp, valOp]; rw [val_congr hr]
  | field k n b x => cases hl; simp only [evalOp, valOp]; rw [val_congr hr]
  | iaddr a k x i => cases hl; simp only [evalOp, valOp]; rw [val_congr fun r h => hr r (by simp [h]), val_congr fun r h => hr r (by simp [h])]
  | index b m n t x i => cases hl; simp only [evalOp, valOp]; rw [val_congr fun r h => hr r (by simp [h]), val_congr fun r h => hr r (by simp [h])]
  | lookup q z b m k => cases hl; simp only [evalOp, valOp]; rw [val_congr fun r h => hr r (by simp [h]), val_congr fun r h => hr r (by simp [h])]
  | extract i x => cases hl; simp only [evalOp, valOp]; rw [val_congr hr]
  | call q f as => cases q <;> cases hl; simp only [evalOp]; rw [vals_congr hr]
  | callv q x as => cases q <;> cases hl; simp only [evalOp]; rw [val_congr fun r h => hr r (by simp [h]), vals_congr fun r h => hr r (by simp [h])]
  | app p k m s x =>
    cases p with
    | fresh =>
      simp only [readsOf] at hl
      obtain ⟨hs, hl⟩ := cnd_eq_some hl
      cases hl
      cases s with
      | r t => cases hs
      | c v => simp only [evalOp, valOp]; rw [val_congr (x := x) hr, val_congr (x := Arg.c v) (rs := rs) (rs' := rs') (by simp [argRegs])]
    | reg p =>
      cases s with
      | c v => cases hl
      | r t =>
        simp only [readsOf] at hl
        obtain ⟨ht, hl⟩ := cnd_eq_some hl
        cases hl
        have ht := of_decide_eq_true ht
        subst ht
        simp only [evalOp, valOp]
        rw [val_congr (x := Arg.r t) fun r h => hr r (by simp [argRegs] at h; simp [h]), val_congr (x := x) fun r h => hr r (by simp [h])]
  | len k x => cases hl; simp only [evalOp, valOp]; rw [val_congr hr]
  | mn xs => cases hl; simp only [evalOp, valOp]; rw [vals_congr hr]
  | mx xs => cases hl; simp only [evalOp, valOp]; rw [vals_congr hr]
  | _ => cases hl
end
/-- .. and leaves the heap as it was. -/
theorem evalOp_still {C : Callee} {fb lb : Nat} {rs : Regs} {h : Heap} {op : VOp} {l : List Nat} (hl : readsOf op = some l) {r : V × Heap × Fl} (hr : evalOp C fb lb rs h op = some r) : r.2.1 = h ∧ r.2.2 = .no := by
  have plain : ∀ {x : Option V}, (bnd x fun v => some (v, h, Fl.no)) = some r → r.2.1 = h ∧ r.2.2 = .no := fun hx => by
    obtain ⟨v, _, e⟩ := bnd_eq_some hx; cases e; exact ⟨rfl, rfl⟩
  cases op with
  | call q f as =>
    cases q <;> cases hl
    simp only [evalOp] at hr
    obtain ⟨q, _, hr⟩ := bnd_eq_some hr
    simp only [quiet, cnd_true] at hr
    exact plain hr
  | callv q x as =>
    cases q <;> cases hl
    simp only [evalOp] at hr
    obtain ⟨q, _, hr⟩ := bnd_eq_some hr
    simp only [quiet, cnd_true] at hr
    exact plain hr
  | _ => first
    | (cases hl; done)
    | exact plain (x := some _) hr
    | exact plain hr
end Go.Vm

/- What must stand before what; the registers behind a set of operations. -/
set_option linter.unusedVariables false
set_option linter.unusedSimpArgs false
namespace Go.Vm
attribute [local simp] evalOps_nil evalOps_cons evalOps_consg evalOp_mv evalOp_asg evalOp_pick evalOp_build evalOp_bslice evalOp_load evalOp_nilck evalOp_bin evalOp_un evalOp_conv evalOp_mkfn evalOp_slice evalOp_faddr evalOp_field evalOp_iaddr evalOp_index evalOp_lookup evalOp_extract evalOp_app evalOp_len evalOp_mn evalOp_mx evalOp_alloc evalOp_box evalOp_mkmap evalOp_store evalOp_mapupd evalOp_delete evalOp_sliceArr evalOp_call evalOp_callv evalOp_appc code_skip code_ops code_dops code_seq code_cond code_block code_exit code_ret finish_normal finish_ret
attribute [local simp] V.lt V.ltL V.flat V.pureCell V.pure V.isCell cellEq cellsEq eqV intV shV strV isShift binV unV byteV convV minV maxV foldV foldV1 fillV fillE findV putV delV isKey natOf natOr cut cellsAt mapAt mapOf loadV pickV nilckV sizeOk allSize sliceV faddrV fieldV iaddrV indexV found extractV allPure appV lenV ownHas ownOk storeC storeV samePtr appcV boxable mapupdV deleteV sliceArrV callV allLt clean bodyEnd resV one finishV runV initR

def bindsOn (o : Oper) : List Nat := o.after.toList.filterMap fun e => cnd (Region.binds .any e) (some e.on) none
/-- All that must stand before, as a number's bits. -/
def maskOf (acc : List Nat) : List Nat → Nat
  | [] => 0
  | j :: l => (2 ^ j ||| acc.getD j 0) ||| maskOf acc l
def masks : List Oper → List Nat → List Nat
  | [], acc => acc
  | o :: os, acc => masks os (acc ++ [maskOf acc (bindsOn o)])

theorem mem_bindsOn {o : Oper} {j : Nat} : j ∈ bindsOn o ↔ ∃ e ∈ o.after, Region.binds .any e = true ∧ e.on = j := by
  simp only [bindsOn, List.mem_filterMap, Array.mem_toList_iff]
  constructor
  · rintro ⟨e, he, h⟩
    obtain ⟨h1, h⟩ := cnd_eq_some h
    cases h
    exact ⟨e, he, h1, rfl⟩
  · rintro ⟨e, he, h1, rfl⟩
    exact ⟨e, he, by rw [h1]; rfl⟩
theorem maskOf_bit {acc : List Nat} {b : Nat} : ∀ {l : List Nat}, (maskOf acc l).testBit b = true → ∃ j ∈ l, j = b ∨ (acc.getD j 0).testBit b = true
  | [], h => by simp [maskOf] at h
  | j :: l, h => by
    simp only [maskOf, Nat.testBit_or, Bool.or_eq_true, Nat.testBit_two_pow, decide_eq_true_eq] at h
    rcases h with (h | h) | h
    · exact ⟨j, by simp, .inl h⟩
    · exact ⟨j, by simp, .inr h⟩
    · obtain ⟨q, hq, h⟩ := maskOf_bit h
      exact ⟨q, by simp [hq], h⟩
theorem masks_len : ∀ (os : List Oper) (acc : List Nat), (masks os acc).length = acc.length + os.length
  | [], acc => by simp [masks]
  | o :: os, acc => by simp only [masks]; rw [masks_len]; simp; omega
theorem masks_keep : ∀ (os : List Oper) (acc : List Nat) (k : Nat), k < acc.length → (masks os acc)[k]? = acc[k]?
  | [], acc, k, _ => rfl
  | o :: os, acc, k, h => by
    simp only [masks]
    rw [masks_keep os _ k (by simp; omega), List.getElem?_append_left h]
theorem masks_at : ∀ (os : List Oper) (acc : List Nat) (k : Nat) (o : Oper), os[k]? = some o → (masks os acc)[acc.length + k]? = some (maskOf ((masks os acc).take (acc.length + k)) (bindsOn o))
  | [], acc, k, o, h => by simp at h
  | o' :: os, acc, 0, o, h => by
    simp at h
    subst h
    simp only [masks, Nat.add_zero]
    rw [masks_keep os _ acc.length (by simp), List.getElem?_append_right (Nat.le_refl _)]
    simp only [Nat.sub_self, List.getElem?_cons_zero, Option.some.injEq]
    congr 1
    apply List.ext_getElem?
    intro j
    rw [List.getElem?_take]
    split
    · rename_i hj
      rw [masks_keep os _ j (by simp; omega), List.getElem?_append_left hj]
    · rename_i hj
      exact List.getElem?_eq_none (by omega)
  | o' :: os, acc, k + 1, o, h => by
    simp only [masks]
    have := masks_at os (acc ++ [maskOf acc (bindsOn o')]) k o (by simpa using h)
    simp only [List.length_append, List.length_singleton] at this
    rw [show acc.length + (k + 1) = acc.length + 1 + k by omega]
    exact this
/-- What must stand before an operation that may stand now, stands. -/
theorem mask_closed {os : List Oper} {L : Nat → Bool} (hL : ∀ k o, os[k]? = some o → L k = true → ∀ j ∈ bindsOn o, L j = true) : ∀ (k : Nat) (o : Oper), os[k]? = some o → (∀ j ∈ bindsOn o, L j = true) → ∀ b, ((masks os []).getD k 0).testBit b = true → L b = true := by
  intro k
  induction k using Nat.strongRecOn with
  | _ k ih =>
    intro o ho hj b hb
    have hat := masks_at os [] k o ho
    simp only [List.length_nil, Nat.zero_add] at hat
    rw [List.getD_eq_getElem?_getD, hat, Option.getD_some] at hb
    obtain ⟨j, hm, h⟩ := maskOf_bit hb
    rcases h with rfl | h
    · exact hj j hm
    · rw [List.getD_eq_getElem?_getD, List.getElem?_take] at h
      split at h
      · rename_i hjk
        have hlen := masks_len os []
        have hk := (List.getElem?_eq_some_iff.1 ho).1
        have hjl : j < os.length := by omega
        have hoj : os[j]? = some os[j] := by simp [hjl]
        refine ih j hjk os[j] hoj (hL j os[j] hoj (hj j hm)) b ?_
        rw [List.getD_eq_getElem?_getD]
        exact h
      · simp at h

/-- The registers behind the operations of a set. -/
def mix (L : Nat → Bool) : Nat → List VI → List V → Regs → Regs
  | k, i :: is, v :: vs, rs => mix L (k + 1) is vs (cnd (L k) (putR i.dst v rs) rs)
  | _, _, _, rs => rs
theorem get_putR {d : Option Nat} {v : V} {rs : Regs} {r : Nat} (h : d ≠ some r) : get (putR d v rs) r = get rs r := by
  cases d with
  | none => rfl
  | some q =>
    have : r ≠ q := fun e => h (e ▸ rfl)
    simp [putR, get, this]
theorem mix_none {L : Nat → Bool} {r : Nat} : ∀ (is : List VI) (vs : List V) (k : Nat) (rs : Regs), (∀ (j : Nat) (i : VI), is[j]? = some i → L (k + j) = true → i.dst ≠ some r) → get (mix L k is vs rs) r = get rs r
  | [], _, _, _, _ => rfl
  | _ :: _, [], _, _, _ => rfl
  | i :: is, v :: vs, k, rs, h => by
    simp only [mix]
    rw [mix_none is vs (k + 1) _ fun j i' hi hl => h (j + 1) i' (by simpa using hi) (by rw [show k + (j + 1) = k + 1 + j by omega]; exact hl)]
    cases hk : L k
    · rfl
    · exact get_putR (h 0 i (by simp) (by simpa using hk))
theorem mix_some {L : Nat → Bool} {r : Nat} : ∀ (is : List VI) (vs : List V) (k : Nat) (rs : Regs) (j : Nat) (i : VI) (v : V), is[j]? = some i → vs[j]? = some v → L (k + j) = true → i.dst = some r → (∀ (q : Nat) (i' : VI), j < q → is[q]? = some i' → i'.dst ≠ some r) → get (mix L k is vs rs) r = v
  | [], _, _, _, j, i, v, hi, _, _, _, _ => by simp at hi
  | _ :: _, [], _, _, j, i, v, _, hv, _, _, _ => by simp at hv
  | i0 :: is, v0 :: vs, k, rs, 0, i, v, hi, hv, hl, hd, hu => by
    simp at hi hv
    subst hi hv
    simp only [mix]
    rw [mix_none is vs (k + 1) _ fun q i' hi' _ => hu (q + 1) i' (by omega) (by simpa using hi')]
    have hk : L k = true := by simpa using hl
    rw [hk, hd]
    simp [putR, get]
  | i0 :: is, v0 :: vs, k, rs, j + 1, i, v, hi, hv, hl, hd, hu => by
    simp only [mix]
    exact mix_some is vs (k + 1) _ j i v (by simpa using hi) (by simpa using hv) (by rw [show k + 1 + j = k + (j + 1) by omega]; exact hl) hd fun q i' hq hi' => hu (q + 1) i' (by omega) (by simpa using hi')
end Go.Vm

/- The check of a region whose order is open; its run in the order of the text. -/
set_option linter.unusedVariables false
set_option linter.unusedSimpArgs false
namespace Go.Vm
attribute [local simp] evalOps_nil evalOps_cons evalOps_consg evalOp_mv evalOp_asg evalOp_pick evalOp_build evalOp_bslice evalOp_load evalOp_nilck evalOp_bin evalOp_un evalOp_conv evalOp_mkfn evalOp_slice evalOp_faddr evalOp_field evalOp_iaddr evalOp_index evalOp_lookup evalOp_extract evalOp_app evalOp_len evalOp_mn evalOp_mx evalOp_alloc evalOp_box evalOp_mkmap evalOp_store evalOp_mapupd evalOp_delete evalOp_sliceArr evalOp_call evalOp_callv evalOp_appc code_skip code_ops code_dops code_seq code_cond code_block code_exit code_ret finish_normal finish_ret
attribute [local simp] V.lt V.ltL V.flat V.pureCell V.pure V.isCell cellEq cellsEq eqV intV shV strV isShift binV unV byteV convV minV maxV foldV foldV1 fillV fillE findV putV delV isKey natOf natOr cut cellsAt mapAt mapOf loadV pickV nilckV sizeOk allSize sliceV faddrV fieldV iaddrV indexV found extractV allPure appV lenV ownHas ownOk storeC storeV samePtr appcV boxable mapupdV deleteV sliceArrV callV allLt clean bodyEnd resV one finishV runV initR

def readsAll (i : VI) : Option (List Nat) := bnd (readsOf i.op) fun l => some (match i.guard with | some (g, _) => g :: l | none => l)
/-- Each operation that writes one of the registers stands before. -/
def writersIn (mask : Nat) (regs : List Nat) : Nat → List VI → Bool
  | _, [] => true
  | j, i :: is => (match i.dst with | some d => !(regs.contains d) || mask.testBit j | none => true) && writersIn mask regs (j + 1) is
def readsOk (pre : List VI) (M : List Nat) : Nat → List VI → Bool
  | _, [] => true
  | k, i :: is => (match readsAll i with | some l => writersIn (M.getD k 0) l 0 pre | none => false) && readsOk pre M (k + 1) is
def oneWriter : List VI → Bool
  | [] => true
  | i :: is => (match i.dst with | some d => is.all (fun i' => decide (i'.dst ≠ some d)) | none => true) && oneWriter is
def backOk : Nat → List Oper → Bool
  | _, [] => true
  | k, o :: os => (bindsOn o).all (fun j => decide (j < k)) && backOk (k + 1) os
/-- From c on each stands behind all that stand before it in the text. -/
def restOk (c : Nat) (M : List Nat) (n : Nat) : Bool := (List.range n).all fun k => decide (k < c) || (List.range k).all fun j => (M.getD k 0).testBit j
def tokenOf (i : VI) : Option (Nat × Nat × Nat) :=
  match i.dst, i.guard, i.op with
  | some d, none, .bslice _ _ _ _ => some (d, 0, 0)
  | some d, none, .app _ size _ _ _ => some (d, 0, size)
  | _, _, _ => none
def eatenBy (i : VI) : Option Nat :=
  match i.op with
  | .app (.reg p) _ _ _ _ => some p
  | _ => none
def toks (L : Nat → Bool) : Nat → List VI → Ows
  | _, [] => []
  | k, i :: is => (match tokenOf i with | some t => cnd (L k) [t] [] | none => []) ++ toks L (k + 1) is
def eaten (L : Nat → Bool) : Nat → List VI → List Nat
  | _, [] => []
  | k, i :: is => (match eatenBy i with | some p => cnd (L k) [p] [] | none => []) ++ eaten L (k + 1) is
def alOf (i : VI) : Option (Nat × Nat) :=
  match i.dst, i.guard, i.op with
  | some d, none, .mv (.r p) => cnd (decide (d ≠ p)) (some (d, p)) none
  | _, _, _ => none
def als (L : Nat → Bool) : Nat → List VI → List (Nat × Nat)
  | _, [] => []
  | k, i :: is => (match alOf i with | some t => cnd (L k) [t] [] | none => []) ++ als L (k + 1) is
def own0 (pre : List VI) (own : Ows) : Ows := own.filter fun x => pre.all fun i => decide (i.dst ≠ some x.1)
def ownL (L : Nat → Bool) (pre : List VI) (own : Ows) : Ows := (own0 pre own ++ toks L 0 pre).filter fun x => !((eaten L 0 pre).contains x.1)
def nodupN : List Nat → Bool
  | [] => true
  | x :: l => !(l.contains x) && nodupN l
/-- Each append has a slice that the region itself has made. -/
def eatsOk (pre : List VI) : List VI → Bool
  | [] => true
  | i :: is => (match i.op with | .app (.reg p) size _ _ _ => (toks (fun _ => true) 0 pre).any (fun x => decide (x.1 = p) && (decide (x.2.1 = 0) && (decide (x.2.2 = size) || decide (x.2.2 = 0)))) && !isLin size | .app .fresh size _ _ _ => !isLin size | _ => true) && eatsOk pre is
def preOk (c : Nat) (os : List Oper) (is : List VI) : Bool :=
  decide (c ≤ is.length) && (oneWriter (is.take c) && (readsOk (is.take c) (masks os []) 0 (is.take c) && (backOk 0 os && (restOk c (masks os []) is.length && (eatsOk (is.take c) (is.take c) && nodupN (eaten (fun _ => true) 0 (is.take c)))))))
/-- What is known behind the first c. -/
def preOw (c : Nat) (is : List VI) (own : Ows) : Ow := ⟨ownL (fun _ => true) (is.take c) own, als (fun _ => true) 0 (is.take c), [], none⟩

/-! ### the run in the text's order -/
section
variable {C : Callee} {fb lb : Nat}
theorem evalOps_append : ∀ (is js : List VI) (rs : Regs) (h : Heap) (fl : Fl), evalOps C fb lb (is ++ js) rs h fl = bnd (evalOps C fb lb is rs h fl) fun r => evalOps C fb lb js r.1 r.2.1 r.2.2
  | [], js, rs, h, fl => rfl
  | i :: is, js, rs, h, fl => by
    simp only [List.cons_append, evalOps]
    cases hw : wanted rs i.guard with
    | none => rfl
    | some b =>
      simp only [bnd_some]
      cases b
      · exact evalOps_append is js _ h fl
      · simp only [cnd_true]
        cases he : evalOp C fb lb rs h i.op with
        | none => rfl
        | some r =>
          simp only [bnd_some]
          exact evalOps_append is js _ _ _
/-- Each of the first operations: what it finds, what it yields. -/
theorem canon {h : Heap} {fl : Fl} : ∀ (is : List VI) (k : Nat) (rs : Regs) (r : Regs × Heap × Fl), (∀ i ∈ is, (readsAll i).isSome = true) → evalOps C fb lb is rs h fl = some r →
    ∃ vs : List V, vs.length = is.length ∧ r = (mix (fun _ => true) k is vs rs, h, fl) ∧ ∀ (j : Nat) (i : VI), is[j]? = some i → ∃ b v, vs[j]? = some v ∧ wanted (mix (fun q => decide (q < k + j)) k is vs rs) i.guard = some b ∧
      (b = true → ∃ q, evalOp C fb lb (mix (fun q => decide (q < k + j)) k is vs rs) h i.op = some q ∧ q.1 = v) ∧ (b = false → v = .undef)
  | [], k, rs, r, _, he => by
    cases he
    exact ⟨[], rfl, rfl, fun j i hi => by simp at hi⟩
  | i :: is, k, rs, r, hr, he => by
    simp only [evalOps] at he
    obtain ⟨b, hb, he⟩ := bnd_eq_some he
    have hri := hr i (by simp)
    have hl : ∃ l, readsOf i.op = some l := by
      unfold readsAll at hri
      cases hq : readsOf i.op with
      | none => rw [hq] at hri; simp at hri
      | some l => exact ⟨l, rfl⟩
    obtain ⟨l, hl⟩ := hl
    have mixall : ∀ (is : List VI) (vs : List V) (k : Nat) (rs : Regs) (L L' : Nat → Bool), (∀ j, j < is.length → L (k + j) = L' (k + j)) → mix L k is vs rs = mix L' k is vs rs := by
      intro is
      induction is with
      | nil => intro vs k rs L L' _; cases vs <;> rfl
      | cons i is ih =>
        intro vs k rs L L' hLL
        cases vs with
        | nil => rfl
        | cons v vs =>
          simp only [mix]
          have h0 := hLL 0 (by simp)
          simp only [Nat.add_zero] at h0
          rw [h0]
          exact ih vs (k + 1) _ L L' fun j hj => by have := hLL (j + 1) (by simp; omega); rw [show k + 1 + j = k + (j + 1) by omega]; exact this
    have mixnone : ∀ (is : List VI) (vs : List V) (k : Nat) (rs : Regs) (m : Nat), m ≤ k → mix (fun q => decide (q < m)) k is vs rs = rs := by
      intro is
      induction is with
      | nil => intro vs k rs m _; cases vs <;> rfl
      | cons i is ih =>
        intro vs k rs m hm
        cases vs with
        | nil => rfl
        | cons v vs =>
          simp only [mix]
          have : decide (k < m) = false := decide_eq_false (by omega)
          rw [this]
          exact ih vs (k + 1) rs m (by omega)
    have main : ∀ (v : V), evalOps C fb lb is (putR i.dst v rs) h fl = some r → (b = true → ∃ q, evalOp C fb lb rs h i.op = some q ∧ q.1 = v) → (b = false → v = .undef) →
        ∃ vs : List V, vs.length = (i :: is).length ∧ r = (mix (fun _ => true) k (i :: is) vs rs, h, fl) ∧ ∀ (j : Nat) (i' : VI), (i :: is)[j]? = some i' → ∃ b v, vs[j]? = some v ∧ wanted (mix (fun q => decide (q < k + j)) k (i :: is) vs rs) i'.guard = some b ∧
          (b = true → ∃ q, evalOp C fb lb (mix (fun q => decide (q < k + j)) k (i :: is) vs rs) h i'.op = some q ∧ q.1 = v) ∧ (b = false → v = .undef) := fun v hv h1 h2 => by
      obtain ⟨vs, hlen, hre, hall⟩ := canon is (k + 1) (putR i.dst v rs) r (fun i' hi' => hr i' (by simp [hi'])) hv
      refine ⟨v :: vs, by simp [hlen], by rw [hre]; rfl, fun j i' hi' => ?_⟩
      cases j with
      | zero =>
        simp at hi'
        subst hi'
        refine ⟨b, v, rfl, ?_, ?_, h2⟩
        · rw [mixnone _ _ k rs (k + 0) (by omega)]; exact hb
        · rw [mixnone _ _ k rs (k + 0) (by omega)]; exact h1
      | succ j =>
        obtain ⟨b', v', hv', hw', hx, hy⟩ := hall j i' (by simpa using hi')
        have e : mix (fun q => decide (q < k + (j + 1))) k (i :: is) (v :: vs) rs = mix (fun q => decide (q < k + 1 + j)) (k + 1) is vs (putR i.dst v rs) := by
          simp only [mix]
          have : decide (k < k + (j + 1)) = true := decide_eq_true (by omega)
          rw [this, cnd_true]
          refine mixall is vs (k + 1) _ _ _ fun q _ => ?_
          rw [show k + (j + 1) = k + 1 + j by omega]
        refine ⟨b', v', by simpa using hv', ?_, ?_, hy⟩
        · rw [e]; exact hw'
        · rw [e]; exact hx
    cases b with
    | true =>
      simp only [cnd_true] at he
      obtain ⟨q, hq, he⟩ := bnd_eq_some he
      obtain ⟨e1, e2⟩ := evalOp_still hl hq
      rw [e1, e2] at he
      have : fl.or .no = fl := by cases fl; simp [Fl.or]
      rw [this] at he
      exact main q.1 he (fun _ => ⟨q, hq, rfl⟩) (fun e => by cases e)
    | false => exact main .undef he (fun e => by cases e) (fun _ => rfl)
end
end Go.Vm

/- A region whose order is open: the totally ordered rest. -/
set_option linter.unusedVariables false
set_option linter.unusedSimpArgs false
namespace Go.Vm
attribute [local simp] evalOps_nil evalOps_cons evalOps_consg evalOp_mv evalOp_asg evalOp_pick evalOp_build evalOp_bslice evalOp_load evalOp_nilck evalOp_bin evalOp_un evalOp_conv evalOp_mkfn evalOp_slice evalOp_faddr evalOp_field evalOp_iaddr evalOp_index evalOp_lookup evalOp_extract evalOp_app evalOp_len evalOp_mn evalOp_mx evalOp_alloc evalOp_box evalOp_mkmap evalOp_store evalOp_mapupd evalOp_delete evalOp_sliceArr evalOp_call evalOp_callv evalOp_appc code_skip code_ops code_dops code_seq code_cond code_block code_exit code_ret finish_normal finish_ret
attribute [local simp] V.lt V.ltL V.flat V.pureCell V.pure V.isCell cellEq cellsEq eqV intV shV strV isShift binV unV byteV convV minV maxV foldV foldV1 fillV fillE findV putV delV isKey natOf natOr cut cellsAt mapAt mapOf loadV pickV nilckV sizeOk allSize sliceV faddrV fieldV iaddrV indexV found extractV allPure appV lenV ownHas ownOk storeC storeV samePtr appcV boxable mapupdV deleteV sliceArrV callV allLt clean bodyEnd resV one finishV runV initR
section
variable {P : Program} {R : Nat → Option Nat} {cx : Cx} {N : Nat} {hb0 : Heap} {S T : Ow} {rs : Regs} {h : Heap} {fl : Fl} {g : Gh} {a : Act} {w : World}

theorem Inv.drew (hi : Inv cx N hb0 S rs h fl g a w) : Inv cx N hb0 S rs h fl g a w.drew := by
  obtain ⟨pd, hO, hf⟩ := hi.O
  exact ⟨hi.W.drew, hi.G.drew, ⟨pd, ⟨hO.own, hO.blk, hO.dis, hO.cont⟩, ⟨hf.al, hf.la, hf.pd⟩⟩, hi.F⟩
theorem backOk_at : ∀ (os : List Oper) (k j : Nat) (o : Oper), backOk k os = true → os[j]? = some o → ∀ q ∈ bindsOn o, q < k + j
  | [], k, j, o, _, ho => by simp at ho
  | o' :: os, k, 0, o, h, ho => by
    simp at ho
    subst ho
    simp only [backOk, Bool.and_eq_true, List.all_eq_true, decide_eq_true_eq] at h
    simpa using h.1
  | o' :: os, k, j + 1, o, h, ho => by
    simp only [backOk, Bool.and_eq_true] at h
    intro q hq
    have := backOk_at os (k + 1) j o h.2 (by simpa using ho) q hq
    omega
theorem restOk_at {c n : Nat} {M : List Nat} (h : restOk c M n = true) {k j : Nat} (hk : k < n) (hc : c ≤ k) (hj : j < k) : (M.getD k 0).testBit j = true := by
  simp only [restOk, List.all_eq_true, List.mem_range, Bool.or_eq_true, decide_eq_true_eq] at h
  rcases h k hk with h | h
  · omega
  · exact h j hj
theorem filter_lt {L L' : Nat → Bool} {i : Nat} (hLL : ∀ k, L k = true → L' k = true) (h1 : L i = false) (h2 : L' i = true) : ∀ {l : List Nat}, i ∈ l → (l.filter fun k => !L' k).length < (l.filter fun k => !L k).length := by
  have le : ∀ l : List Nat, (l.filter fun k => !L' k).length ≤ (l.filter fun k => !L k).length := by
    intro l
    induction l with
    | nil => simp
    | cons x l ih =>
      simp only [List.filter_cons]
      cases hx : L x <;> cases hx' : L' x <;> simp
      · exact ih
      · omega
      · have := hLL x hx; rw [hx'] at this; cases this
      · exact ih
  intro l
  induction l with
  | nil => intro h; simp at h
  | cons x l ih =>
    intro hi
    simp only [List.filter_cons]
    rcases List.mem_cons.1 hi with rfl | hi
    · rw [h1, h2]
      have := le l
      simp
      omega
    · have := ih hi
      cases hx : L x <;> cases hx' : L' x <;> simp
      · exact this
      · omega
      · have := hLL x hx; rw [hx'] at this; cases this
      · exact this

theorem getD_set_self {listed : Array Bool} {i : Nat} (h : i < listed.size) : (listed.setIfInBounds i true).getD i false = true := by simp [h]
theorem rest_ok {C : Callee} {ops : Array Oper} (hC : FnOk P R C) {c : Nat} (hback : backOk 0 ops.toList = true) (hrest : restOk c (masks ops.toList []) ops.size = true) {Q : Exit → Act → World → Prop} {rs' : Regs} {h' : Heap} {fl' : Fl} :
    ∀ (os : List Oper) (js gs : List VI) (m : Nat) (S T : Ow) (rs : Regs) (h : Heap) (fl : Fl) (g : Gh) (a : Act) (w : World) (listed : Array Bool) (fuel : Nat),
      (∀ (j : Nat), os[j]? = ops[m + j]?) → trIs P ops os gs = some js → (∀ i ∈ js, linOkV P i.op) → Inv cx N hb0 S rs h fl g a w → Ow.steps R js S = some T → (∀ o ∈ os, ∀ x, o.dst = some x → x < N) → evalOps C cx.n0 hb0.length js rs h fl = some (rs', h', fl') →
      listed.size = ops.size → (∀ k, listed.getD k false = decide (k < m)) → c ≤ m → os.length + m = ops.size → os.length ≤ fuel → (∀ g' a' w', GLe g g' → Inv cx N hb0 T rs' h' fl' g' a' w' → Q .normal a' w') → wpAny P .any ops Q fuel listed a w
  | [], js, gs, m, S, T, rs, h, fl, g, a, w, listed, fuel, _, htr, _, hi, hs, _, he, hsz, hl, hc, hlen, hfuel, hQ => by
    cases gs with
    | cons _ _ => cases htr
    | nil =>
      cases htr
      cases hs
      cases he
      refine wpAny_done ?_ (hQ g a w (GLe.refl g) hi) fuel
      cases hr : Region.ready .any ops listed with
      | nil => rfl
      | cons j l =>
        exfalso
        have hj : j ∈ Region.ready .any ops listed := by rw [hr]; simp
        obtain ⟨h1, o, ho, _⟩ := mem_ready.1 hj
        have hjs : j < ops.size := (Array.getElem?_eq_some_iff.1 ho).1
        have h2 := hl j
        simp only [List.length_nil, Nat.zero_add] at hlen
        rw [decide_eq_true (by omega)] at h2
        have hj2 : j < listed.size := by omega
        simp [Array.getD, hj2] at h1 h2
        rw [h1] at h2; cases h2
  | o :: os, js, gs, m, S, T, rs, h, fl, g, a, w, listed, fuel, hk, htr, hL, hi, hs, hd, he, hsz, hl, hc, hlen, hfuel, hQ => by
    cases gs with
    | nil => cases htr
    | cons g0 gs =>
      simp only [trIs] at htr
      obtain ⟨i, h1, htr⟩ := bnd_eq_some htr
      obtain ⟨l, h2, htr⟩ := bnd_eq_some htr
      cases htr
      simp only [Ow.steps] at hs
      obtain ⟨T1, hs1, hs⟩ := bnd_eq_some hs
      simp only [evalOps] at he
      obtain ⟨b, hb, he⟩ := bnd_eq_some he
      have ho : ops[m]? = some o := by have := hk 0; simpa using this.symm
      have hms : m < ops.size := (Array.getElem?_eq_some_iff.1 ho).1
      simp only [List.length_cons] at hlen hfuel
      cases fuel with
      | zero => omega
      | succ fuel =>
        have hmr : m ∈ Region.ready .any ops listed := by
          refine mem_ready.2 ⟨?_, o, ho, fun e he hbind => ?_⟩
          · have h3 := hl m
            rw [decide_eq_false (by omega)] at h3
            have hm2 : m < listed.size := by omega
            simpa [Array.getD, hm2] using h3
          · rw [hl e.on]
            have := backOk_at ops.toList 0 m o hback (by simpa using ho) e.on (mem_bindsOn.2 ⟨e, he, hbind, rfl⟩)
            exact decide_eq_true (by omega)
        refine ⟨fun h0 => by rw [h0] at hmr; simp at hmr, fun j hj => ?_⟩
        have hjm : j = m := by
          obtain ⟨h3, oj, hoj, hall⟩ := mem_ready.1 hj
          have hjs : j < ops.size := (Array.getElem?_eq_some_iff.1 hoj).1
          have hj2 : j < listed.size := by omega
          have h4 : listed.getD j false = false := by simpa [Array.getD, hj2] using h3
          rw [hl j] at h4
          have h5 := of_decide_eq_false h4
          rcases Nat.lt_or_ge m j with h6 | h6
          · exfalso
            have hbit := restOk_at hrest hjs (by omega) h6
            have := mask_closed (os := ops.toList) (L := fun k => listed.getD k false) (fun k o' ho' hLk q hq => by
              have hLk' : listed.getD k false = true := hLk
              rw [hl k] at hLk'
              have h7 := of_decide_eq_true hLk'
              have h8 := backOk_at ops.toList 0 k o' hback ho' q hq
              show listed.getD q false = true
              rw [hl q]
              exact decide_eq_true (by omega)) j oj (by simpa using hoj) (fun q hq => by
                obtain ⟨e, he', hb', rfl⟩ := mem_bindsOn.1 hq
                exact hall e he' hb') m hbit
            have h9 : listed.getD m false = true := this
            rw [hl m] at h9
            have := of_decide_eq_true h9
            omega
          · omega
        subst hjm
        have next : ∀ rs1 h1' fl1, evalOps C cx.n0 hb0.length l rs1 h1' fl1 = some (rs', h', fl') → ∀ u w' g', GLe g g' → Inv cx N hb0 T1 rs1 h1' fl1 g' (a.put o.dst u) w' → wpAny P .any ops Q fuel (listed.setIfInBounds j true) (a.put o.dst u) w' :=
          fun rs1 h1' fl1 he' u w' g' hle hi' => rest_ok hC hback hrest os l gs (j + 1) T1 T rs1 h1' fl1 g' (a.put o.dst u) w' (listed.setIfInBounds j true) fuel (fun q => by have := hk (q + 1); simpa [Nat.add_assoc, Nat.add_comm 1 q] using this) h2 (fun i hi => hL i (by simp [hi])) hi' hs (fun o ho => hd o (by simp [ho])) he' (by simpa using hsz) (fun k => by
            by_cases hkj : j = k
            · subst hkj
              rw [getD_set_self (by omega)]
              exact (decide_eq_true (by omega)).symm
            · rw [getD_set_ne false hkj, hl k]
              congr 1
              exact propext ⟨fun _ => by omega, fun _ => by omega⟩) (by omega) (by omega) (by omega) fun g'' a' w'' hle' hi'' => hQ g'' a' w'' (hle.trans hle') hi''
        unfold wpOp
        simp only [ho]
        cases b with
        | true =>
          simp only [cnd_true] at he
          obtain ⟨r, hr, he⟩ := bnd_eq_some he
          exact step_ok hi hC h1 (hL _ (by simp)) hs1 (hd o (by simp)) hb (.inl ⟨rfl, r, hr, rfl, rfl, rfl⟩) (next _ _ _ he)
        | false => exact step_ok hi hC h1 (hL _ (by simp)) hs1 (hd o (by simp)) hb (.inr ⟨rfl, rfl, rfl, rfl⟩) (next _ _ _ he)
end
end Go.Vm

/- A region whose order is open: its first part. -/
set_option linter.unusedVariables false
set_option linter.unusedSimpArgs false
namespace Go.Vm
attribute [local simp] evalOps_nil evalOps_cons evalOps_consg evalOp_mv evalOp_asg evalOp_pick evalOp_build evalOp_bslice evalOp_load evalOp_nilck evalOp_bin evalOp_un evalOp_conv evalOp_mkfn evalOp_slice evalOp_faddr evalOp_field evalOp_iaddr evalOp_index evalOp_lookup evalOp_extract evalOp_app evalOp_len evalOp_mn evalOp_mx evalOp_alloc evalOp_box evalOp_mkmap evalOp_store evalOp_mapupd evalOp_delete evalOp_sliceArr evalOp_call evalOp_callv evalOp_appc code_skip code_ops code_dops code_seq code_cond code_block code_exit code_ret finish_normal finish_ret
attribute [local simp] V.lt V.ltL V.flat V.pureCell V.pure V.isCell cellEq cellsEq eqV intV shV strV isShift binV unV byteV convV minV maxV foldV foldV1 fillV fillE findV putV delV isKey natOf natOr cut cellsAt mapAt mapOf loadV pickV nilckV sizeOk allSize sliceV faddrV fieldV iaddrV indexV found extractV allPure appV lenV ownHas ownOk storeC storeV samePtr appcV boxable mapupdV deleteV sliceArrV callV allLt clean bodyEnd resV one finishV runV initR
section
variable {P : Program} {R : Nat → Option Nat} {cx : Cx} {N : Nat} {hb0 : Heap} {S S' T : Ow} {rs : Regs} {h : Heap} {fl : Fl} {g : Gh} {a : Act} {w : World}

theorem pre_step {C : Callee} {ops : Array Oper} {o : Oper} {i : VI} (hi : Inv cx N hb0 S rs h fl g a w) (hC : FnOk P R C) {g0 : VI} (htr : trI P ops o g0 = some i) (hL : linOkV P i.op) (hd : ∀ x, o.dst = some x → x < N) {b : Bool} (hb : wanted rs i.guard = some b) {v : V}
    (he : (b = true ∧ ∃ q, evalOp C cx.n0 hb0.length rs h i.op = some q ∧ q.1 = v ∧ q.2.1 = h ∧ q.2.2 = .no) ∨ (b = false ∧ v = .undef)) (hS : S.pd = none) (hS' : S'.pd = none) (hla : S'.la = [])
    (h1 : ∃ T1, S.step1 R o.dst i.op = some T1 ∧ T1.pd = none ∧ (∀ x, x ∈ S'.own → x ∈ T1.own) ∧ ∀ x, x ∈ S'.al → x ∈ T1.al)
    (h0 : b = false → (∀ x, x ∈ S'.own → x ∈ S.own ∧ ∀ d, o.dst = some d → x.1 ≠ d) ∧ ∀ x, x ∈ S'.al → x ∈ S.al ∧ ∀ d, o.dst = some d → x.1 ≠ d ∧ x.2 ≠ d)
    {K : Act → World → Prop} {Q : Exit → Act → World → Prop} (hK : ∀ u w' g', GLe g g' → Inv cx N hb0 S' (putR o.dst v rs) h fl g' (a.put o.dst u) w' → K (a.put o.dst u) w') :
    (if Region.wanted o (yielded ops a.tmps) then o.wp P a w K Q ∨ (o.asks P a w ∧ LetsOut Q) else K (a.put o.dst Go.undef) w) := by
  simp only [trI] at htr
  obtain ⟨gd', hgd, htr⟩ := bnd_eq_some htr
  obtain ⟨vop, hop, htr⟩ := bnd_eq_some htr
  cases htr
  have hwant := wanted_ok hi.F.regs hi.F.size hgd hb
  rw [hwant]
  rcases he with ⟨rfl, q, hq, rfl, hqh, hqf⟩ | ⟨rfl, rfl⟩
  · simp only [if_true]
    left
    obtain ⟨T1, hs1, hp1, ho1, ha1⟩ := h1
    refine op_okA hi hC hop hL hs1 hd hq fun u w' g' hle hi' => hK u w' g' hle ?_
    rw [hqh, hqf, or_no] at hi'
    exact hi'.weaken ho1 ha1 (fun x hx => by rw [hla] at hx; simp at hx) (hS'.trans hp1.symm)
  · simp only [if_false, Bool.false_eq_true]
    obtain ⟨T0, hk, k1, k2, k3, k4⟩ := kill_nopd hS o.dst
    obtain ⟨e1, e2⟩ := h0 rfl
    exact hK Go.undef w g (GLe.refl g) ((hi.put hd hk .undef).weaken (fun x hx => (k2 x).2 (e1 x hx)) (fun x hx => (k3 x).2 (e2 x hx)) (fun x hx => by rw [hla] at hx; simp at hx) (hS'.trans k1.symm))
theorem Inv.regs {rs' : Regs} (hi : Inv cx N hb0 S rs h fl g a w) (hS : S.pd = none) (he : ∀ r, get rs r = get rs' r) : Inv cx N hb0 S rs' h fl g a w := by
  obtain ⟨hO, hf⟩ := hi.own0 hS
  exact ⟨hi.W, hi.G, ⟨none, ⟨hO.own, hO.blk, hO.dis, fun r off z hm hz => by rw [← he r]; exact hO.cont r off z hm hz⟩, ⟨hf.al, hf.la, .inl ⟨hS, rfl⟩⟩⟩, ⟨hi.F.size, hi.F.nodef, fun r => by rw [← he r]; exact hi.F.regs r⟩⟩

/-- What an operation of the first part does to what is known. -/
structure PreRes (S T1 : Ow) (i : VI) : Prop where
  pd : T1.pd = none
  own : ∀ x, x ∈ S.own → (∀ d, i.dst = some d → x.1 ≠ d) → eatenBy i ≠ some x.1 → x ∈ T1.own
  tok : ∀ t, tokenOf i = some t → t ∈ T1.own
  al : ∀ x, x ∈ S.al → (∀ d, i.dst = some d → x.1 ≠ d ∧ x.2 ≠ d) → x ∈ T1.al
  mv : ∀ d p, i.dst = some d → i.op = .mv (.r p) → d ≠ p → (d, p) ∈ T1.al
theorem addOwn_keep {dst : Option Nat} {off sz : Nat} {T : Ow} {x : Nat × Nat × Nat} (hx : x ∈ T.own) : x ∈ (addOwn dst off sz T).own := by
  cases dst with
  | none => exact hx
  | some d => simp [addOwn, hx]
theorem addOwn_pd {dst : Option Nat} {off sz : Nat} {T : Ow} : (addOwn dst off sz T).pd = T.pd := by cases dst <;> rfl
theorem addOwn_al' {dst : Option Nat} {off sz : Nat} {T : Ow} : (addOwn dst off sz T).al = T.al := by cases dst <;> rfl
theorem step1_pre {i : VI} {l : List Nat} (hl : readsOf i.op = some l) (hS : S.pd = none) (heat : ∀ p size bytes s x, i.op = .app (.reg p) size bytes s x → hasOwn p 0 size S.own = true) (hnl : ∀ p size bytes s x, i.op = .app p size bytes s x → isLin size = false) :
    ∃ T1, S.step1 R i.dst i.op = some T1 ∧ PreRes S T1 i := by
  obtain ⟨T0, hk, k1, k2, k3, k4⟩ := kill_nopd hS i.dst
  obtain ⟨dst, gd, op⟩ := i
  simp only at hl hk k2 k3 k4 heat hnl ⊢
  have base : ∀ T1 : Ow, T1.pd = none → (∀ x, x ∈ T0.own → x ∈ T1.own) → (∀ x, x ∈ T0.al → x ∈ T1.al) → tokenOf ⟨dst, gd, op⟩ = none → (∀ p, op ≠ .mv (.r p)) → PreRes S T1 ⟨dst, gd, op⟩ := fun T1 h1 h2 h3 htok hmv =>
    ⟨h1, fun x hx hxd _ => h2 x ((k2 x).2 ⟨hx, hxd⟩), fun t ht => (by rw [htok] at ht; cases ht), fun x hx hxd => h3 x ((k3 x).2 ⟨hx, hxd⟩), fun d p _ e _ => absurd e (hmv p)⟩
  have noTok : (∀ z k n ps, op ≠ .bslice z k n ps) → (∀ p size bytes s x, op ≠ .app p size bytes s x) → tokenOf ⟨dst, gd, op⟩ = none := fun hb ha => by
    unfold tokenOf
    split
    · rename_i e; exact absurd e (hb _ _ _ _)
    · rename_i e; exact absurd e (ha _ _ _ _ _)
    · rfl
  have simple : S.step1 R dst op = S.kill dst → (∀ z k n ps, op ≠ .bslice z k n ps) → (∀ p size bytes s x, op ≠ .app p size bytes s x) → (∀ p, op ≠ .mv (.r p)) → ∃ T1, S.step1 R dst op = some T1 ∧ PreRes S T1 ⟨dst, gd, op⟩ := fun hs hb ha hmv =>
    ⟨T0, hs.trans hk, base T0 k1 (fun _ h => h) (fun _ h => h) (noTok hb ha) hmv⟩
  have hnp : S.noPd = true := by simp [Ow.noPd, hS]
  cases op with
  | mv x =>
    cases x with
    | c c =>
      refine ⟨cnd (isNilArg (.c c)) (addOwn dst 0 0 T0) T0, by simp only [Ow.step1]; rw [hk]; rfl, base _ ?_ ?_ ?_ (noTok (fun _ _ _ _ e => by cases e) (fun _ _ _ _ _ e => by cases e)) (fun p e => by cases e)⟩
      · cases isNilArg (.c c)
        · exact k1
        · exact addOwn_pd.trans k1
      · intro x hx
        cases isNilArg (.c c)
        · exact hx
        · exact addOwn_keep hx
      · intro x hx
        cases isNilArg (.c c)
        · exact hx
        · simp only [cnd_true]; rw [addOwn_al']; exact hx
    | r p =>
      have htok : tokenOf ⟨dst, gd, .mv (.r p)⟩ = none := noTok (fun _ _ _ _ e => by cases e) (fun _ _ _ _ _ e => by cases e)
      cases dst with
      | none => exact ⟨T0, by simp only [Ow.step1]; rw [hk]; rfl, ⟨k1, fun x hx hxd _ => (k2 x).2 ⟨hx, hxd⟩, fun t ht => (by rw [htok] at ht; cases ht), fun x hx hxd => (k3 x).2 ⟨hx, hxd⟩, fun d q e _ _ => (by cases e)⟩⟩
      | some d =>
        by_cases hdp : d = p
        · exact ⟨T0, by simp only [Ow.step1]; rw [hk]; simp [hdp], ⟨k1, fun x hx hxd _ => (k2 x).2 ⟨hx, hxd⟩, fun t ht => (by rw [htok] at ht; cases ht), fun x hx hxd => (k3 x).2 ⟨hx, hxd⟩, fun d' q e e2 hne => (by cases e; cases e2; exact absurd hdp hne)⟩⟩
        · exact ⟨{ T0 with al := (d, p) :: T0.al }, by simp only [Ow.step1]; rw [hk]; simp [hdp], ⟨k1, fun x hx hxd _ => (k2 x).2 ⟨hx, hxd⟩, fun t ht => (by rw [htok] at ht; cases ht), fun x hx hxd => List.mem_cons_of_mem _ ((k3 x).2 ⟨hx, hxd⟩), fun d' q e e2 hne => (by cases e; cases e2; simp)⟩⟩
  | load b n x =>
    have htok : tokenOf ⟨dst, gd, .load b n x⟩ = none := noTok (fun _ _ _ _ e => by cases e) (fun _ _ _ _ _ e => by cases e)
    by_cases hc : ∃ p, b = false ∧ n = 1 ∧ x = .r p
    · obtain ⟨p, rfl, rfl, rfl⟩ := hc
      cases dst with
      | none => exact ⟨T0, by simp only [Ow.step1]; rw [hk]; rfl, base T0 k1 (fun _ h => h) (fun _ h => h) htok (fun _ e => by cases e)⟩
      | some d =>
        by_cases hdp : d = p
        · exact ⟨T0, by simp only [Ow.step1]; rw [hk]; simp [hdp], base T0 k1 (fun _ h => h) (fun _ h => h) htok (fun _ e => by cases e)⟩
        · exact ⟨{ T0 with la := (d, p) :: T0.la }, by simp only [Ow.step1]; rw [hk]; simp [hdp], base _ k1 (fun _ h => h) (fun _ h => h) htok (fun _ e => by cases e)⟩
    · refine simple ?_ (fun _ _ _ _ e => by cases e) (fun _ _ _ _ _ e => by cases e) (fun _ e => by cases e)
      unfold Ow.step1
      split <;> first | rfl | (rename_i e; cases e; exact absurd ⟨_, rfl, rfl, rfl⟩ hc) | simp_all
  | bslice z k n ps =>
    simp only [readsOf] at hl
    obtain ⟨hinc, _⟩ := cnd_eq_some hl
    refine ⟨addOwn dst 0 0 T0, by simp only [Ow.step1]; rw [hinc, hk]; rfl, ⟨addOwn_pd.trans k1, fun x hx hxd _ => addOwn_keep ((k2 x).2 ⟨hx, hxd⟩), fun t ht => ?_, fun x hx hxd => (by rw [addOwn_al']; exact (k3 x).2 ⟨hx, hxd⟩), fun d p _ e _ => (by cases e)⟩⟩
    unfold tokenOf at ht
    split at ht
    · rename_i d e1 e2 e3; simp only at e1; cases ht; rw [e1]; simp [addOwn]
    · rename_i e3; cases e3
    · cases ht
  | app p size bytes s x =>
    have tok : ∀ (T2 : Ow) (t : Nat × Nat × Nat), tokenOf ⟨dst, gd, .app p size bytes s x⟩ = some t → t ∈ (addOwn dst 0 size T2).own := fun T2 t ht => by
      unfold tokenOf at ht
      split at ht
      · rename_i e3; cases e3
      · rename_i d sz' e1 e2 e3
        simp only at e1 e3
        cases e3
        cases ht
        rw [e1]
        simp [addOwn]
      · cases ht
    cases p with
    | fresh =>
      simp only [readsOf] at hl
      obtain ⟨hnil, _⟩ := cnd_eq_some hl
      have hz := hnl .fresh size bytes s x rfl
      exact ⟨addOwn dst 0 size (offLa T0), by simp only [Ow.step1]; rw [hnil, hz, hk]; rfl, ⟨addOwn_pd.trans k1, fun x hx hxd _ => addOwn_keep ((k2 x).2 ⟨hx, hxd⟩), tok _, fun x hx hxd => (by rw [addOwn_al']; exact (k3 x).2 ⟨hx, hxd⟩), fun d p _ e _ => (by cases e)⟩⟩
    | reg p =>
      cases s with
      | c v => cases hl
      | r t =>
        simp only [readsOf] at hl
        obtain ⟨ht, _⟩ := cnd_eq_some hl
        have ht := of_decide_eq_true ht
        subst ht
        have h1 := heat t size bytes (.r t) x rfl
        have h2 : pdFree t S.pd = true := by rw [hS]; rfl
        have hz := hnl (.reg t) size bytes (.r t) x rfl
        exact ⟨addOwn dst 0 size (offLa { T0 with own := offReg t T0.own }), by simp only [Ow.step1]; rw [h1, h2, hz, hk]; simp, ⟨addOwn_pd.trans k1, fun x hx hxd hne => addOwn_keep (mem_offReg.2 ⟨(k2 x).2 ⟨hx, hxd⟩, fun e => hne (by rw [e]; rfl)⟩), tok _, fun x hx hxd => (by rw [addOwn_al']; exact (k3 x).2 ⟨hx, hxd⟩), fun d p _ e _ => (by cases e)⟩⟩
  | call q f as =>
    refine ⟨(match R f with | some sz => cnd (isLin sz) (offLa T0) (addOwn dst 0 sz (offLa T0)) | none => offLa T0), ?_, base _ ?_ ?_ ?_ (noTok (fun _ _ _ _ e => by cases e) (fun _ _ _ _ _ e => by cases e)) (fun p e => by cases e)⟩
    · simp only [Ow.step1]; rw [hnp, hk]; cases R f <;> rfl
    · cases R f with
      | none => exact k1
      | some sz => cases hl : isLin sz <;> simp only [hl, cnd_true, cnd_false]
                   · exact addOwn_pd.trans k1
                   · exact k1
    · intro x hx
      cases R f with
      | none => exact hx
      | some sz => cases hl : isLin sz <;> simp only [hl, cnd_true, cnd_false]
                   · exact addOwn_keep hx
                   · exact hx
    · intro x hx
      cases R f with
      | none => exact hx
      | some sz => cases hl : isLin sz <;> simp only [hl, cnd_true, cnd_false]
                   · rw [addOwn_al']; exact hx
                   · exact hx
  | callv q x as =>
    exact ⟨offLa T0, by simp only [Ow.step1]; rw [hnp, hk]; rfl, base _ k1 (fun _ h => h) (fun _ h => h) (noTok (fun _ _ _ _ e => by cases e) (fun _ _ _ _ _ e => by cases e)) (fun p e => by cases e)⟩
  | conv k x => cases k <;> first | (cases hl; done) | exact simple rfl (fun _ _ _ _ e => by cases e) (fun _ _ _ _ _ e => by cases e) (fun _ e => by cases e)
  | _ => first
    | (cases hl; done)
    | exact simple rfl (fun _ _ _ _ e => by cases e) (fun _ _ _ _ _ e => by cases e) (fun _ e => by cases e)
end
end Go.Vm

