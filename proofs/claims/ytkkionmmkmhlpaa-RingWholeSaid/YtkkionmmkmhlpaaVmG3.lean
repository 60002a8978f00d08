/- The V-machine, part 3. -/
import Derived.Test.YtkkionmmkmhlpaaVmG2
import Derived.Lib.ConvBytes
import Derived.Orders
/- A call: what it rests on, what it leaves. -/
set_option linter.unusedVariables false
set_option linter.unusedSimpArgs false
namespace Go.Vm
attribute [local simp] evalOps_nil evalOps_cons evalOps_consg evalOp_mv evalOp_asg evalOp_pick evalOp_build evalOp_bslice evalOp_load evalOp_nilck evalOp_bin evalOp_un evalOp_conv evalOp_mkfn evalOp_slice evalOp_faddr evalOp_field evalOp_iaddr evalOp_index evalOp_lookup evalOp_extract evalOp_app evalOp_len evalOp_mn evalOp_mx evalOp_alloc evalOp_box evalOp_mkmap evalOp_store evalOp_mapupd evalOp_delete evalOp_sliceArr evalOp_call evalOp_callv evalOp_appc code_skip code_ops code_dops code_seq code_cond code_block code_exit code_ret finish_normal finish_ret
attribute [local simp] V.lt V.ltL V.flat V.pureCell V.pure V.isCell cellEq cellsEq eqV intV shV strV isShift binV unV byteV convV minV maxV foldV foldV1 fillV fillE findV putV delV isKey natOf natOr cut cellsAt mapAt mapOf loadV pickV nilckV sizeOk allSize sliceV faddrV fieldV iaddrV indexV found extractV allPure appV lenV ownHas ownOk storeC storeV samePtr appcV boxable mapupdV deleteV sliceArrV callV allLt clean bodyEnd resV one finishV runV initR

structure Pre (h : Heap) (g : Gh) (w : World) : Prop where
  hr : HRead g h w
  dom : ∀ i b, g.mu i = some b → i < h.length
  dome : ∀ i, g.em i = true → i < h.length
  muW : ∀ i b, g.mu i = some b → b < w.heap.size
  inj : ∀ i j b, LiveAt h i → LiveAt h j → g.mu i = some b → g.mu j = some b → i = j
  muimm : ∀ i b, LiveAt h i → g.mu i = some b → ∀ k, g.imm b k = none
  own : ∀ p sz u, Held [] none h g #[] w p sz u → OwnR w g.imm sz u
  blk : ∀ p sz u b, Held [] none h g #[] w p sz u → ownBlk sz u = some b → ∀ i, LiveAt h i → g.mu i ≠ some b
  dis : ∀ p q sz sz' u u' b, Held [] none h g #[] w p sz u → Held [] none h g #[] w q sz' u' → ownBlk sz u = some b → ownBlk sz' u' = some b → p = q
  contc : ∀ i j z u, Held [] none h g #[] w (.cell i j) z u → isLin z = true → ∃ xs, PlIs h i j xs ∧ LinC g.imm w (z - 1000000) xs u
def cellOwn (h : Heap) (g : Gh) (w : World) (i j b : Nat) (l : Bool) : Prop := ∃ sz u, isLin sz = l ∧ Held [] none h g #[] w (.cell i j) sz u ∧ ownBlk sz u = some b
def calleeCx {Dt : Prop} (h : Heap) (g : Gh) (w : World) : Cx Dt where
  w0 := w
  g0 := g
  n0 := h.length
  W b := (∃ i, LiveAt h i ∧ g.mu i = some b) ∨ ∃ i j l, cellOwn h g w i j b l
  O := cellOwn h g w
  hO i j b l hb := by
    obtain ⟨sz, u, _, ⟨cs, own, b, h1, _⟩, _⟩ := hb
    exact (List.getElem?_eq_some_iff.1 h1).1
def OwnRes {Dt : Prop} (cx : Cx Dt) (h : Heap) (g : Gh) (w : World) (sz : Nat) (u : Value) : Prop :=
  OwnR w g.imm sz u ∧ ∀ b, ownBlk sz u = some b → cx.w0.heap.size ≤ b ∧ (∀ i, LiveAt h i → g.mu i ≠ some b) ∧ ∀ p sz' u', Held [] none h g #[] w p sz' u' → ownBlk sz' u' ≠ some b
def CallPost {Dt : Prop} (cx : Cx Dt) (hb : Heap) (own : Option Nat) (r : V × Heap × Fl) (u : Value) (w : World) : Prop :=
  ∃ g, MemW cx r.2.2 w ∧ MemG cx hb r.2.1 r.2.2 g w ∧ OwnI cx [] none [] r.2.1 g #[] w ∧ VR g u r.1 ∧ ∀ sz, own = some sz → ∀ x, u.cells[0]? = some x → OwnRes cx r.2.1 g w sz x
def CallOk (P : Program) (f : Nat) (uargs : Array Value) (w : World) (R : Value → World → Prop) : Prop :=
  ((callFunc f uargs).run P w = .ok (.enter f uargs) w ∧ Calls P f uargs w (fun e w' => ∃ u, e = .returned u ∧ R u w')) ∨ ∃ u w', (callFunc f uargs).run P w = .ok (.value u) w' ∧ R u w'
def FnOk (P : Program) (own : Nat → Option Nat) (C : Callee) : Prop :=
  ∀ f vargs h r, C f vargs h = some r → ∀ g w (uargs : Array Value), Pre h g w → VRs g uargs.toList vargs → CallOk P f uargs w (CallPost (calleeCx (Dt := Tracks own) h g w) h (own f) r)

theorem held_cell {ow : Ows} {h : Heap} {g : Gh} {tmps : Array Value} {w : World} {i j sz : Nat} {u : Value} (hp : Held ow none h g tmps w (.cell i j) sz u) (tmps' : Array Value) (ow' : Ows) : Held ow' none h g tmps' w (.cell i j) sz u := hp
section
variable {P : Program} {R : Nat → Option Nat} {Dt : Prop} {cx : Cx Dt} {N : Nat} {hb0 : Heap} {S T : Ow} {rs : Regs} {h : Heap} {fl : Fl} {g : Gh} {a : Act} {w : World} {o : Oper} {gd vop : VOp}

theorem Inv.own0 (hi : Inv cx N hb0 S rs h fl g a w) (hpd : S.pd = none) : OwnI cx S.own none rs h g a.tmps w ∧ Facts S none rs a.tmps w := by
  obtain ⟨pd, hO, hf⟩ := hi.O
  rcases hf.pd with ⟨_, h2⟩ | ⟨p, d, i, j, h2, _⟩
  · subst h2; exact ⟨hO, hf⟩
  · rw [hpd] at h2; cases h2
theorem Inv.pre (hi : Inv cx N hb0 S rs h fl g a w) (hpd : S.pd = none) : Pre h g w := by
  obtain ⟨hO, _⟩ := hi.own0 hpd
  have up : ∀ p sz u, Held [] none h g #[] w p sz u → Held S.own none h g a.tmps w p sz u := fun p sz u hp => by
    cases p with
    | reg r off => obtain ⟨h1, _⟩ := hp; simp at h1
    | cell i j => exact hp
  exact ⟨hi.G.hr, hi.G.dom, hi.G.dome, fun i b hb => (hi.G.muW i b hb).1, hi.G.inj, hi.G.muimm, fun p sz u hp => hO.own p sz u (up p sz u hp), fun p sz u b hp hb => (hO.blk p sz u b (up p sz u hp) hb).2.1, fun p q sz sz' u u' b hp hq => hO.dis p q sz sz' u u' b (up p sz u hp) (up q sz' u' hq), fun i j z u hp hz => hO.contc i j z u (up _ z u hp) hz⟩

theorem after_call (hi : Inv cx N hb0 S rs h fl g a w) (hpd : S.pd = none) {own : Option Nat} {r : V × Heap × Fl} {u : Value} {w' : World} (hp : CallPost (calleeCx (Dt := Dt) h g w) h own r u w') :
    ∃ g', GLe g g' ∧ Inv cx N hb0 (offLa S) rs r.2.1 (fl.or r.2.2) g' a w' ∧ VR g' u r.1 ∧ w.heap.size ≤ w'.heap.size ∧ (∀ sz, own = some sz → ∀ x, u.cells[0]? = some x → OwnRes (calleeCx (Dt := Dt) h g w) r.2.1 g' w' sz x) ∧
      (∀ q off sz x b, (q, off, sz) ∈ S.own → (a.tmps.getD q Go.undef).cells[off]? = some x → ownBlk sz x = some b → b < w.heap.size) := by
  obtain ⟨g', hW', hG', hO', hu, hown⟩ := hp
  obtain ⟨hO, hf⟩ := hi.own0 hpd
  have hsz : w.heap.size ≤ w'.heap.size := hW'.hsz
  have hle : GLe g g' := ⟨fun i b hb => hG'.ge.mu i b (by simp only [Gh.trim]; rw [if_pos (show i < (calleeCx (Dt := Dt) h g w).n0 from hi.G.dom i b hb)]; exact hb), hG'.ge.imm, hG'.ge.siz, fun i hi' => hG'.ge.em i (by simp only [Gh.trim, Bool.and_eq_true, decide_eq_true_eq]; exact ⟨hi.G.dome i hi', hi'⟩)⟩
  have hW0 := hi.W.hsz
  -- what the callee may write the caller may
  have may : ∀ b, (calleeCx (Dt := Dt) h g w).may b → cx.may b := fun b hb => by
    rcases hb with hb | ⟨i, hl, hm⟩ | ⟨i, j, l, sz, x, _, hx, hb⟩
    · exact .inl (Nat.le_trans hW0 hb)
    · exact (hi.G.muW i b hm).2 hl
    · exact (hO.blk _ _ _ b (held_cell hx _ _) hb).1
  have regNot : ∀ q off sz x b, Held S.own none h g a.tmps w (.reg q off) sz x → ownBlk sz x = some b → b < w.heap.size ∧ ¬ (calleeCx (Dt := Dt) h g w).W b := fun q off sz x b hx hb => by
    refine ⟨(hO.own _ _ _ hx).lt hb, ?_⟩
    rintro (⟨i, hl, hm⟩ | ⟨i, j, l, sz', y, _, hy, hb'⟩)
    · exact (hO.blk _ _ _ b hx hb).2.1 i hl hm
    · cases hO.dis _ _ _ _ _ _ b hx (held_cell hy _ _) hb hb'
  have regHeap : ∀ q off sz x b, Held S.own none h g a.tmps w (.reg q off) sz x → ownBlk sz x = some b → w'.heap[b]? = w.heap[b]? := fun q off sz x b hx hb => hW'.old b (regNot q off sz x b hx hb).1 (regNot q off sz x b hx hb).2
  have regImm : ∀ q off sz x b k, Held S.own none h g a.tmps w (.reg q off) sz x → ownBlk sz x = some b → g'.imm b k = g.imm b k := fun q off sz x b k hx hb => hG'.immW b k (regNot q off sz x b hx hb).1 (regNot q off sz x b hx hb).2
  refine ⟨g', hle, ⟨?_, ?_, ⟨none, ?_, ⟨hf.al, fun t p hm => by simp [offLa] at hm, .inl ⟨hpd, rfl⟩⟩⟩, hi.F.mono hle⟩, hu, hsz, hown, fun q off sz x b hm hx hb => (hO.own (.reg q off) sz x ⟨hm, hx⟩).lt hb⟩
  · refine ⟨hW'.os.trans hi.W.os, hW'.tape.trans hi.W.tape, hW'.out.trans hi.W.out, fun d => Nat.le_trans (hi.W.drn d) (hW'.drn d), Nat.le_trans hW0 hsz, fun b hb hWb => ?_, fun b hb => ?_⟩
    · rw [hW'.old b (Nat.lt_of_lt_of_le hb hW0) ?_]
      · exact hi.W.old b hb hWb
      · intro hb'
        rcases may b (.inr hb') with h1 | h1
        · omega
        · exact hWb h1
    · rcases hW'.wr b (Nat.lt_of_lt_of_le hb hW0) with h1 | h1
      · refine .inl ?_
        rcases h1 with h1 | ⟨i, h1, h2, h3⟩
        · exact Cx.wrOk.or' (.inl h1) fl
        · have hn : h.length = (calleeCx (Dt := Dt) h g w).n0 := rfl
          rcases h3 with h3 | ⟨j, sz, u, hz, hx, hob⟩
          · have h3 : g.mu i = some b := h3
            by_cases hin : i < cx.n0
            · exact Cx.wrOk.or' (.inr ⟨i, h1, hin, .inl (by rw [← hi.G.muOld i hin]; exact h3)⟩) fl
            · rcases hi.G.new i b (by omega) h3 with h4 | h4
              · omega
              · exact Cx.wrOk.or (.inl h4) _
          · rcases (hO.blk _ _ _ b (held_cell hx _ _) hob).2.2 hb with h4 | h4
            · rw [hz] at h4; cases h4
            · exact Cx.wrOk.or' (.inr ⟨i, h1, cx.hO _ _ _ _ h4, .inr ⟨j, h4⟩⟩) fl
      · rw [h1]
        exact (hi.W.wr b hb).imp (fun h => h.or _) id
  · have hfbl := hi.G.fbl
    have hlbh := hi.G.lbh
    have hlen : h.length ≤ r.2.1.length := hG'.lbh
    refine ⟨hG'.hr, hi.G.ge.trans hle, fun b k hb hWb => ?_, hfbl, Nat.le_trans hlbh hlen, fun i hi' => ?_, hG'.dom, hG'.dome, fun i b hb => ?_, fun i b hi' hb => ?_, hG'.inj, hG'.muimm, ?_⟩
    · rw [hG'.immW b k (Nat.lt_of_lt_of_le hb hW0) ?_]
      · exact hi.G.immW b k hb hWb
      · intro hb'
        rcases may b (.inr hb') with h1 | h1
        · omega
        · exact hWb h1
    · rw [hG'.muOld i (show i < h.length by omega)]
      exact hi.G.muOld i hi'
    · obtain ⟨h1, h2⟩ := hG'.muW i b hb
      exact ⟨h1, fun hl => may b (h2 hl)⟩
    · by_cases hlt : i < h.length
      · have : g'.mu i = g.mu i := hG'.muOld i hlt
        rw [this] at hb
        exact (hi.G.new i b hi' hb).imp id fun e => by simp [Fl.or, e]
      · exact (hG'.new i b (Nat.le_of_not_lt hlt) hb).imp (Nat.le_trans hW0) fun e => by simp [Fl.or, e]
    · intro i x hx hix
      rcases hG'.low i x (by omega) hix with h2 | ⟨y, hy, hyx⟩
      · exact .inl (mem_addE.2 (.inr h2))
      · rcases hi.G.low i y hx hy with h1 | ⟨ob, hob, hoby⟩
        · exact .inl (mem_addE.2 (.inl h1))
        · exact .inr ⟨ob, hob, fun m hm => hyx m (hoby m hm)⟩
  · have split : ∀ p sz x, Held (offLa S).own none r.2.1 g' a.tmps w' p sz x → (∃ q off, p = .reg q off ∧ Held S.own none h g a.tmps w p sz x) ∨ ∃ i j, p = .cell i j ∧ Held [] none r.2.1 g' #[] w' p sz x := fun p sz x hp => by
      cases p with
      | reg q off => exact .inl ⟨q, off, rfl, hp⟩
      | cell i j => exact .inr ⟨i, j, rfl, hp⟩
    have regCell : ∀ q off sz x b i j sz' y, Held S.own none h g a.tmps w (.reg q off) sz x → ownBlk sz x = some b → Held [] none r.2.1 g' #[] w' (.cell i j) sz' y → ownBlk sz' y = some b → False := fun q off sz x b i j sz' y hx hb hy hb' => by
      obtain ⟨h1, h2⟩ := regNot q off sz x b hx hb
      rcases (hO'.blk _ _ _ b hy hb').1 with h3 | h3
      · have : w.heap.size ≤ b := h3
        omega
      · exact h2 h3
    refine ⟨fun p sz x hp => ?_, fun p sz x b hp hb => ?_, fun p q sz sz' x x' b hp hq hb hb' => ?_, fun q off z hm hz => ?_, fun i j z x hp hz => hO'.contc i j z x hp hz⟩
    · rcases split p sz x hp with ⟨q, off, rfl, hp⟩ | ⟨i, j, rfl, hp⟩
      · exact (hO.own _ _ _ hp).move fun b hb => ⟨regHeap q off sz x b hp hb, fun k hk => by rw [regImm q off sz x b k hp hb]; exact hk⟩
      · exact hO'.own _ _ _ hp
    · rcases split p sz x hp with ⟨q, off, rfl, hp⟩ | ⟨i, j, rfl, hp⟩
      · obtain ⟨h1, h2, h3⟩ := hO.blk _ _ _ b hp hb
        refine ⟨h1, fun i hl hm => ?_, h3⟩
        obtain ⟨h4, h5⟩ := regNot q off sz x b hp hb
        rcases (hG'.muW i b hm).2 hl with h6 | h6
        · have : w.heap.size ≤ b := h6
          omega
        · exact h5 h6
      · obtain ⟨h1, h2, h3⟩ := hO'.blk _ _ _ b hp hb
        refine ⟨may b h1, h2, fun hlt => ?_⟩
        rcases h3 (Nat.lt_of_lt_of_le hlt hW0) with hl | ⟨sz', y, hz', hy, hb'⟩
        · exact .inl hl
        · rcases (hO.blk _ _ _ b (held_cell hy _ _) hb').2.2 hlt with h | h
          · rw [hz'] at h; cases h
          · exact .inr h
    · rcases split p sz x hp with ⟨q1, off1, rfl, hp⟩ | ⟨i1, j1, rfl, hp⟩ <;> rcases split q sz' x' hq with ⟨q2, off2, rfl, hq⟩ | ⟨i2, j2, rfl, hq⟩
      · exact hO.dis _ _ _ _ _ _ b hp hq hb hb'
      · exact (regCell _ _ _ _ _ _ _ _ _ hp hb hq hb').elim
      · exact (regCell _ _ _ _ _ _ _ _ _ hq hb' hp hb).elim
      · exact hO'.dis _ _ _ _ _ _ b hp hq hb hb'
    · obtain ⟨h0, xs, h1, h2⟩ := hO.cont q off z hm hz
      have hp' : Held S.own none h g a.tmps w (.reg q off) z (a.tmps.getD q Go.undef) := ⟨hm, by rw [h2.cells, h0]; rfl⟩
      exact ⟨h0, xs, h1, h2.move hz hle.imm fun b hb => regHeap q off z _ b hp' hb⟩

theorem quiet_same {fb : Nat} {q : Bool} {r r' : V × Heap × Fl} (hq : quiet fb q h r = some r') : r' = (r.1, r.2.1, r.2.2.cut fb) := by
  cases q
  · cases hq; rfl
  · simp only [quiet, cnd_true] at hq
    obtain ⟨v, hv, hq⟩ := bnd_eq_some hq
    unfold still at hv
    split at hv
    · rename_i hc
      cases hv; cases hq
      obtain ⟨r1, r2, r3⟩ := r
      simp only at hc
      rw [hc.1, hc.2]
      rfl
    · cases hv
theorem MemG.cutWr {f : Fl} (hm : MemG cx hb0 h (fl.or f) g w) {n : Nat} : MemG cx hb0 h (fl.or (f.cut n)) g w :=
  ⟨hm.hr, hm.ge, hm.immW, hm.fbl, hm.lbh, hm.muOld, hm.dom, hm.dome, hm.muW, hm.new, hm.inj, hm.muimm, hm.low⟩
theorem Inv.cutWr {f : Fl} (hi : Inv cx N hb0 S rs h (fl.or f) g a w) : Inv cx N hb0 S rs h (fl.or (f.cut cx.n0)) g a w :=
  ⟨⟨hi.W.os, hi.W.tape, hi.W.out, hi.W.drn, hi.W.hsz, hi.W.old, fun b hb => (hi.W.wr b hb).imp Cx.wrOk.cut id⟩, hi.G.cutWr, hi.O, hi.F⟩
theorem exec_call {c : Call} (hop : o.op = .call c) {y : Operand} (hc : c.callee = .value y) {f : Nat} {us vs : Array Value} (hy : a.eval y = .func (.func f) us vs) : (execOp a.eval o).run P w = (callFunc f (us ++ c.args.map a.eval ++ vs)).run P w := by
  unfold execOp
  rw [hop]
  simp only [resolve, hc, hy, Deferred.ofValue, invoke, Sem.run_bind, Sem.run_pure, Result.andThen_ok]

def ownAfter (dst : Option Nat) : Option Nat → Ow → Ow
  | some sz, T => addOwn dst 0 sz T
  | none, T => T
theorem call_core {cx : Cx (Tracks R)} (hi : Inv cx N hb0 S rs h fl g a w) {C : Callee} (hC : FnOk P R C) {f : Nat} {vargs : List V} {r : V × Heap × Fl} (hr : C f vargs h = some r) {uargs : Array Value} (hargs : VRs g uargs.toList vargs) (hexec : (execOp a.eval o).run P w = (callFunc f uargs).run P w)
    (hpd : S.pd = none) {T0 : Ow} (hk : S.kill o.dst = some T0) (own : Option Nat) (hown : own = none ∨ own = R f) (hnl : ∀ sz, own = some sz → isLin sz = false) (hT : T = ownAfter o.dst own (offLa T0)) (hd : ∀ x, o.dst = some x → x < N)
    {K : Act → World → Prop} {Q : Exit → Act → World → Prop} (hK : ∀ u w' g', GLe g g' → Inv cx N hb0 T (putR o.dst r.1 rs) r.2.1 (fl.or r.2.2) g' (a.put o.dst u) w' → K (a.put o.dst u) w') : o.wp P a w K Q := by
  have main : ∀ u w', CallPost (calleeCx (Dt := Tracks R) h g w) h (R f) r u w' → K (a.put o.dst u) w' := fun u w' hp => by
    obtain ⟨g', hle, hi', hu, hsz, hres, hlt⟩ := after_call hi hpd hp
    obtain ⟨T1, hk1, k1, k2, k3, k4⟩ := kill_nopd (S := offLa S) hpd o.dst
    have h2 := hi'.put hd hk1 hu
    obtain ⟨m1, m2, m3, m4⟩ := kill_sub hk
    have h3 : Inv cx N hb0 (offLa T0) (putR o.dst r.1 rs) r.2.1 (fl.or r.2.2) g' (a.put o.dst u) w' :=
      h2.weaken (fun x hx => (k2 x).2 (m2 x hx)) (fun x hx => (k3 x).2 (m3 x hx)) (fun x hx => by simp [offLa] at hx) ((show T0.pd = T1.pd by rw [m1, hpd, k1]))
    refine hK u w' g' hle ?_
    cases own with
    | none => rw [hT]; exact h3
    | some sz =>
      rw [hT]
      simp only [ownAfter]
      have hRf : R f = some sz := by
        rcases hown with h | h
        · cases h
        · exact h.symm
      cases hdst : o.dst with
      | none => simp only [addOwn]; rw [hdst] at h3; exact h3
      | some d =>
        rw [hdst] at h3
        have hlt' : d < a.tmps.size := by rw [hi.F.size]; exact hd d hdst
        have hpd3 : (offLa T0).pd = none := by show T0.pd = none; rw [m1, hpd]
        obtain ⟨hO3, hf3⟩ := h3.own0 hpd3
        refine ⟨h3.W, h3.G, ⟨none, hO3.add (fun h => by rw [hnl sz rfl] at h; cases h) fun x hx => ?_, ⟨hf3.al, hf3.la, hf3.pd⟩⟩, h3.F⟩
        rw [put_get hlt'] at hx
        obtain ⟨hOu, hOb⟩ := hres sz hRf x hx
        refine ⟨hOu, fun b hb => ?_⟩
        obtain ⟨f1, f2, f3⟩ := hOb b hb
        have f1' : w.heap.size ≤ b := f1
        refine ⟨.inl (Nat.le_trans hi.W.hsz f1'), f2, fun hlt2 => by have := hi.W.hsz; omega, fun p sz' u' hp hb' => ?_⟩
        exfalso
        cases p with
        | cell i j => exact f3 _ _ _ (held_cell hp _ _) hb'
        | reg q off =>
          obtain ⟨hm, hx⟩ := hp
          obtain ⟨e1, e2⟩ := m2 _ hm
          rw [put_other hlt' (e2 d hdst)] at hx
          have := hlt q off sz' u' b e1 hx hb'
          omega
  unfold Oper.wp
  rw [hexec]
  rcases hC f vargs h r hr g w uargs (hi.pre hpd) hargs with ⟨h1, h2⟩ | ⟨u, w', h1, h2⟩
  · rw [h1, Oper.upon_enter]
    refine Calls.mono h2 fun e w' he => ?_
    obtain ⟨u, rfl, hp⟩ := he
    exact main u w' hp
  · rw [h1, Oper.upon_value]
    exact main u w' h2
end
end Go.Vm

/- Lists that are their register's alone: made, appended to, handed to a function that turns them in place, and in the end read by all. -/
set_option linter.unusedVariables false
set_option linter.unusedSimpArgs false
namespace Go.Vm

theorem isLin_add (s : Nat) : isLin (s + 1000000) = true := by simp [isLin]
structure LinPost (g : Gh) (w : World) (u : Value) (size : Nat) (ys : List V) (u' : Value) (w' : World) (m : Imm) : Prop where
  grown : w.grownBy w' (ownBlk (size + 1000000) u)
  lin : LinR w' m size u'
  cont : LinC m w' size ys u'
  blk : ∀ b, ownBlk (size + 1000000) u' = some b → ownBlk (size + 1000000) u = some b ∨ w.heap.size ≤ b
  drn : w.drawn ≤ w'.drawn
  le : ImmLe g.imm m
  old : ∀ b o, b < w.heap.size → m b o = g.imm b o
  mem : ∀ b o x, m b o = some x → w'.cell? ⟨b, o, none⟩ = some x
  keeps : ∀ b, Keeps w w' b
def LinOk (P : Program) (f size : Nat) (F : List V → List V → Option (List V)) : Prop :=
  ∀ xs args ys, F xs args = some ys → ∀ h g w u (uargs : Array Value), Pre h g w → LinR w g.imm size u → LinC g.imm w size xs u → VRs g uargs.toList args → CallOk P f (#[u] ++ uargs) w fun u' w' => ∃ m, LinPost g w u size ys u' w' m

section
variable {P : Program} {R : Nat → Option Nat} {Dt : Prop} {cx : Cx Dt} {N : Nat} {hb0 : Heap} {S T : Ow} {rs : Regs} {h : Heap} {fl : Fl} {g : Gh} {a : Act} {w : World} {o : Oper} {gd vop : VOp}

theorem MemG.other (hm : MemG cx hb0 h fl g w) {w' : World} {row : Option Nat} (hw : w.grownBy w' row) (hrow : ∀ b, row = some b → (∀ i, LiveAt h i → g.mu i ≠ some b) ∧ ∀ k, g.imm b k = none) (hk : ∀ b, Keeps w w' b) : MemG cx hb0 h fl g w' := by
  refine ⟨⟨fun i x hx hl => ?_, fun c k u hu => ?_, fun i c hx hc => (hm.hr.emp i c hx hc).mono (GLe.refl g) (hw.block c (hm.muW i c hc).1 fun e => (hrow c e.symm).1 i ⟨_, hx, rfl⟩ hc), siz_mono hm.hr.siz hk⟩, hm.ge, hm.immW, hm.fbl, hm.lbh, hm.muOld, hm.dom, hm.dome, fun i c hc => ⟨Nat.lt_of_lt_of_le (hm.muW i c hc).1 hw.size, (hm.muW i c hc).2⟩, hm.new, hm.inj, hm.muimm, hm.low⟩
  · obtain ⟨c, hc, hob⟩ := hm.hr.obj i x hx hl
    refine ⟨c, hc, hob.mono (GLe.refl g) (hw.block c (hm.muW i c hc).1 fun e => ?_)⟩
    exact (hrow c e.symm).1 i ⟨x, hx, Obj.live_of_blk hl⟩ hc
  · have := hm.hr.imm c k u hu
    rw [cell_same (hw.block c (cell_lt this) fun e => ?_)]
    · exact this
    · rw [(hrow c e.symm).2 k] at hu; cases hu
def Gh.withImm (g : Gh) (m : Imm) : Gh := ⟨g.mu, m, g.siz, g.em⟩
theorem MemG.more {w w' : World} (hm : MemG cx hb0 h fl g w') {m : Imm} (hsz : cx.w0.heap.size ≤ w.heap.size) (hmu : ∀ i b, g.mu i = some b → b < w.heap.size) (hle : ImmLe g.imm m) (hold : ∀ b o, b < w.heap.size → m b o = g.imm b o) (hmem : ∀ b o x, m b o = some x → w'.cell? ⟨b, o, none⟩ = some x) : MemG cx hb0 h fl (g.withImm m) w' := by
  have hle2 : GLe g (g.withImm m) := ⟨fun _ _ h => h, hle, fun _ => Nat.le_refl _, fun _ h => h⟩
  refine ⟨⟨fun i x hx hl => ?_, hmem, fun i b hx hb => (hm.hr.emp i b hx hb).mono hle2 rfl, hm.hr.siz⟩, hm.ge.trans hle2, fun b o hb hW => ?_, hm.fbl, hm.lbh, hm.muOld, hm.dom, hm.dome, hm.muW, hm.new, hm.inj, fun i b hl hb k => ?_, hm.low⟩
  · obtain ⟨c, hc, hob⟩ := hm.hr.obj i x hx hl
    exact ⟨c, hc, hob.mono hle2 rfl⟩
  · show m b o = _
    rw [hold b o (by omega)]; exact hm.immW b o hb hW
  · show m b k = none
    rw [hold b k (hmu i b hb)]; exact hm.muimm i b hl hb k
theorem hasLin_mem {p z : Nat} {l : Ows} (h : hasLin p z l = true) : (p, 0, z) ∈ l := by
  simp only [hasLin, List.any_eq_true, decide_eq_true_eq] at h
  obtain ⟨x, hx, rfl⟩ := h
  exact hx
theorem LinR.cells {w : World} {imm : Imm} {sz : Nat} {u : Value} (h : LinR w imm sz u) : u.cells = #[u] := by
  obtain ⟨_, _, _, rfl, _⟩ := h; rfl

theorem Inv.linAt {pd : Pd} (hO : OwnI cx S.own pd rs h g a.tmps w) (hf : Facts S pd rs a.tmps w) {p size : Nat} (hp : (p, 0, size + 1000000) ∈ S.own) (hpf : pdFree p S.pd = true) :
    ∃ xs, get rs p = .lst xs ∧ LinC g.imm w size xs (a.tmps.getD p Go.undef) ∧ LinR w g.imm size (a.tmps.getD p Go.undef) ∧ Held S.own pd h g a.tmps w (.reg p 0) (size + 1000000) (a.tmps.getD p Go.undef) ∧
      ∀ b, ownBlk (size + 1000000) (a.tmps.getD p Go.undef) = some b → b < w.heap.size ∧ (∀ i, LiveAt h i → g.mu i ≠ some b) ∧ cx.w0.heap.size ≤ b ∧ ∀ k, g.imm b k = none := by
  obtain ⟨_, xs, h3, h4⟩ := hO.cont p 0 _ hp (isLin_add size)
  have hheld : Held S.own pd h g a.tmps w (.reg p 0) (size + 1000000) (a.tmps.getD p Go.undef) := ⟨hp, by rw [h4.cells]; rfl⟩
  have h1 := hO.own _ _ _ hheld
  have h2 := h1.lin (isLin_add size)
  rw [Nat.add_sub_cancel] at h2 h4
  refine ⟨xs, h3, h4, h2, hheld, fun b hb => ?_⟩
  obtain ⟨f1, f2, f3⟩ := hO.blk _ _ _ b hheld hb
  obtain ⟨_, _, _, _, _, _, _, _, _, h5⟩ := h2.blk hb
  refine ⟨h1.lt hb, f2, Nat.le_of_not_lt fun hlt => ?_, h5⟩
  obtain ⟨i', j', e, _⟩ := f3 hlt
  rcases hf.pd with ⟨_, h2⟩ | ⟨p', d', i'', j'', h2, h3, _⟩
  · rw [h2] at e; cases e
  · rw [h3] at e; cases e
    exact (pdFree_spec hpf h2).2 rfl

theorem lin_step (hi : Inv cx N hb0 S rs h fl g a w) {p size : Nat} (hp : (p, 0, size + 1000000) ∈ S.own) (hpf : pdFree p S.pd = true) (hd : ∀ x, o.dst = some x → x < N) {T0 : Ow} (hk : S.kill o.dst = some T0)
    {ys : List V} {u' : Value} {w' : World} {m : Imm} (post : LinPost g w (a.tmps.getD p Go.undef) size ys u' w' m) :
    Inv cx N hb0 (addOwn o.dst 0 (size + 1000000) (offLa { T0 with own := offReg p T0.own })) (putR o.dst (.lst ys) rs) h fl (g.withImm m) (a.put o.dst u') w' := by
  obtain ⟨pd, hO, hf⟩ := hi.O
  obtain ⟨xs, hget, hcont, hlin, hheldp, hblk⟩ := Inv.linAt hO hf hp hpf
  obtain ⟨m1, m2, m3, m4⟩ := kill_sub hk
  have hW : MemW cx fl w' := hi.W.step post.grown (fun b e => ⟨.inl (hblk b e).2.2.1, .inl (hblk b e).2.2.1⟩) (fun _ h => h) post.drn
  have hG0 : MemG cx hb0 h fl g w' := hi.G.other post.grown (fun b e => ⟨(hblk b e).2.1, (hblk b e).2.2.2⟩) post.keeps
  have hG : MemG cx hb0 h fl (g.withImm m) w' := hG0.more hi.W.hsz (fun i b hb => (hi.G.muW i b hb).1) post.le post.old post.mem
  have hle2 : GLe g (g.withImm m) := ⟨fun _ _ h => h, post.le, fun _ => Nat.le_refl _, fun _ h => h⟩
  have hd' : ∀ x, o.dst = some x → x < a.tmps.size := fun x e => by rw [hi.F.size]; exact hd x e
  have same : ∀ q z x b, Held (offReg p T0.own) pd h g a.tmps w q z x → ownBlk z x = some b → w'.heap[b]? = w.heap[b]? := fun q z x b hq hb => by
    have hq2 : Held S.own pd h g a.tmps w q z x := by
      cases q with
      | cell i j => exact hq
      | reg r off => exact ⟨(m2 _ (mem_offReg.1 hq.1).1).1, hq.2⟩
    refine post.grown.block b ((hO.own _ _ _ hq2).lt hb) fun e => ?_
    have := hO.dis _ _ _ _ _ _ b hq2 hheldp hb e.symm
    subst this
    exact (mem_offReg.1 hq.1).2 rfl
  have cellBack : ∀ i j z x, Held (offReg p T0.own) pd h g a.tmps w' (.cell i j) z x → Held (offReg p T0.own) pd h g a.tmps w (.cell i j) z x := fun i j z x hq => by
    obtain ⟨cs, own, b, h1, h2, h3, h4, h5⟩ := hq
    refine ⟨cs, own, b, h1, h2, h3, h4, ?_⟩
    rw [← cell_same (post.grown.block b (hi.G.muW i b h4).1 fun e => (hblk b e.symm).2.1 i ⟨_, h1, rfl⟩ h4)]
    exact h5
  have hO1 : OwnI cx (offReg p T0.own) pd rs h (g.withImm m) a.tmps w' := by
    refine (hO.less (ow' := offReg p T0.own) fun x hx => (m2 x (mem_offReg.1 hx).1).1).map (fun p q => p = q) (fun _ _ _ e1 e2 => e1.trans e2.symm) (fun q z x hq => .inr ⟨q, z, rfl, ?_, .inl rfl⟩) (fun p q b l e hn => e ▸ hn) (fun q z x b hq _ hb => ⟨⟨same q z x b hq hb, fun k hk => by
      have hlt : b < w.heap.size := by
        refine (hO.own q z x ?_).lt hb
        cases q with
        | cell i j => exact hq
        | reg r off => exact ⟨(m2 _ (mem_offReg.1 hq.1).1).1, hq.2⟩
      show m b k = none
      rw [post.old b k hlt]; exact hk⟩, fun _ h1 h2 => ⟨h1, h2⟩⟩) post.le
    cases q with
    | cell i j => exact cellBack i j z x hq
    | reg r off => exact hq
  have hnd : ∀ d, o.dst = some d → ∀ x, x ∈ offReg p T0.own → x.1 ≠ d := fun d e x hx => (m2 x (mem_offReg.1 hx).1).2 d e
  refine ⟨hW, hG, ⟨pd, ?_, ?_⟩, (hi.F.mono hle2).put hd .lst⟩
  · cases hdst : o.dst with
    | none => exact hO1
    | some d =>
      have hlt' := hd' d hdst
      refine (hO1.put (v := .lst ys) hlt' (hnd d hdst)).add (fun _ => ⟨rfl, ys, ?_, ?_⟩) fun x hx => ?_
      · simp [putR, get]
      · rw [put_get hlt', Nat.add_sub_cancel]; exact post.cont
      · rw [put_get hlt', post.lin.cells] at hx
        have : x = u' := by simpa using hx.symm
        subst this
        refine ⟨.inl ⟨isLin_add size, by rw [Nat.add_sub_cancel]; exact post.lin⟩, fun b hb => ?_⟩
        have hnew : cx.w0.heap.size ≤ b := by
          rcases post.blk b hb with h1 | h1
          · exact (hblk b h1).2.2.1
          · exact Nat.le_trans hi.W.hsz h1
        have hmu : ∀ i, LiveAt h i → g.mu i ≠ some b := fun i hl hm => by
          rcases post.blk b hb with h1 | h1
          · exact (hblk b h1).2.1 i hl hm
          · have := (hi.G.muW i b hm).1; omega
        refine ⟨.inl hnew, hmu, fun hlt => by omega, fun q z' y hq hb' => ?_⟩
        exfalso
        have hq1 : Held (offReg p T0.own) pd h g a.tmps w q z' y := by
          cases q with
          | cell i j => exact cellBack i j z' y hq
          | reg r off =>
            obtain ⟨hm, hx⟩ := hq
            rw [put_other hlt' (hnd d hdst _ hm)] at hx
            exact ⟨hm, hx⟩
        have hq2 : Held S.own pd h g a.tmps w q z' y := by
          cases q with
          | cell i j => exact hq1
          | reg r off => exact ⟨(m2 _ (mem_offReg.1 hq1.1).1).1, hq1.2⟩
        rcases post.blk b hb with h1 | h1
        · have := hO.dis _ _ _ _ _ _ b hq2 hheldp hb' h1
          subst this
          exact (mem_offReg.1 hq1.1).2 rfl
        · have := (hO.own _ _ _ hq2).lt hb'
          omega
  · obtain ⟨q1, q2, q3⟩ := addOwn_al (dst := o.dst) (off := 0) (sz := size + 1000000) (T := offLa { T0 with own := offReg p T0.own })
    refine ⟨fun t p hm => ?_, fun t p hm => by rw [q2] at hm; simp [offLa] at hm, ?_⟩
    · rw [q1] at hm
      exact al_put hd' (fun d e => (m3 _ hm).2 d e) (hf.al t p (m3 _ hm).1)
    · rw [q3]
      show ((offLa { T0 with own := offReg p T0.own }).pd = none ∧ _) ∨ _
      have : (offLa { T0 with own := offReg p T0.own }).pd = S.pd := m1
      rw [this]
      rcases hf.pd with h1 | ⟨p, q, i', j', h1, h2, h3⟩
      · exact .inl h1
      · exact .inr ⟨p, q, i', j', h1, h2, by rw [get_put (fun d e => (pdFree_spec (m4 d e) h1).1)]; exact h3⟩

theorem LinC.reads {size : Nat} {xs : List V} {u : Value} (hl : LinR w g.imm size u) (hc : LinC g.imm w size xs u) :
    ∃ ao cap us, u = .slice ao xs.length cap ∧ Reads w u xs.length us ∧ us.length = xs.length * size ∧ CRs g.imm us (xs.flatMap V.flat) := by
  obtain ⟨h0, hc⟩ := hc
  rcases hc with ⟨rfl, rfl⟩ | ⟨b, cap, us, rfl, h1, h2⟩
  · exact ⟨none, 0, [], rfl, .inl ⟨rfl, rfl, rfl⟩, by simp, .nil⟩
  · obtain ⟨a', n', cap', e, hl⟩ := hl
    injection e with e1 e2 e3
    subst e1 e2 e3
    refine ⟨_, cap, us, rfl, .inr (.inr ⟨b, 0, cap, rfl, ?_, fun j u hu => by rw [Nat.zero_add]; exact h1 j u hu⟩), by rw [h2.length, flatMap_length h0], h2⟩
    rcases hl with ⟨e, _⟩ | ⟨h, _⟩
    · cases e
    · exact h
theorem appl_core {t ty e : TypeId} {i : TypeInfo} {z : Value} (ht : P.underlying t = some (.slice e)) (hie : P.info? e = some i) (hz : i.zero = some z) (hpos : 0 < i.size) (hbp : 0 < i.bytes) (hzs : z.cells.size = i.size) (hz1 : z.cells.toList.all Value.oneCell' = true)
    (hi : HRead g h w) {u xu : Value} {xv : V} {xs zs : List V} (hl : LinR w g.imm i.size u) (hc : LinC g.imm w i.size xs u) (hx : VR g xu xv) (hv : applV i.size i.bytes (.lst xs) xv = some (.lst zs)) (himm : ∀ b k, w.heap.size ≤ b → g.imm b k = none) :
    ∃ u' w', (Builtin.append_ #[t, t] ty #[u, xu]).run P w = .ok u' w' ∧ LinPost g w u i.size zs u' w' g.imm := by
  cases xv with
  | sl ys =>
    simp only [applV] at hv
    obtain ⟨hcond, hv⟩ := cnd_eq_some hv
    cases hv
    simp only [Bool.and_eq_true, decide_eq_true_eq] at hcond
    obtain ⟨hbytes, hzx, hzy⟩ := hcond
    obtain ⟨vs, hrv, hlv, hcv, hsv, _⟩ := sl_reads hi hx hzy
    obtain ⟨ao, cap, us, rfl, hru, hlu, hcu⟩ := hc.reads hl
    have hsz : ∀ x ∈ xs ++ ys, x.flat.length = i.size := fun x hx => by
      rcases List.mem_append.1 hx with hx | hx
      · exact hc.1 x hx
      · exact hsv x hx
    have hflat : (xs ++ ys).flatMap V.flat = xs.flatMap V.flat ++ ys.flatMap V.flat := by simp
    have hncap : xs.length ≤ cap := by
      obtain ⟨_, _, _, e, h⟩ := hl
      injection e with e1 e2 e3
      subst e1 e2 e3
      rcases h with ⟨_, h1, h2⟩ | ⟨h, _⟩ <;> omega
    by_cases hm0 : ys = []
    · subst hm0
      have : vs = [] := List.length_eq_zero_iff.1 (by simpa using hlv)
      subst this
      have hr := app_run_none (P := P) (w := w) (ty := ty) ht hie ao xs.length cap hncap hrv
      exact ⟨_, _, hr, ⟨⟨rfl, rfl, rfl, Nat.le_refl _, fun _ _ _ => rfl⟩, hl, by simpa using hc, fun b hb => .inl hb, Nat.le_refl _, ImmLe.refl _, fun _ _ _ => rfl, hi.imm, fun b => Keeps.same rfl⟩⟩
    · have hmpos : 0 < ys.length := List.length_pos_iff.2 hm0
      by_cases hg : cap < xs.length + ys.length
      · have hr := app_run_grow (P := P) (w := w) (ty := ty) ht hie hz hru hlu hrv hlv hg hbytes hbp
        have hge := grownCap_ge w (xs.length + ys.length) cap e
        generalize hcap : grownCap w (xs.length + ys.length) cap e = C at hr hge
        generalize hrow : us.toArray ++ vs.toArray ++ Builtin.zeroCells z.cells (C - (xs.length + ys.length)) = row at hr
        have hrowsz : row.size = C * i.size := by
          subst hrow
          simp only [Array.size_append, List.size_toArray, size_zeroCells, hzs, hlu, hlv, ← Nat.add_mul]
          congr 1; omega
        have hrowget : ∀ (j : Nat) (u : Value), (us ++ vs)[j]? = some u → row[j]? = some u := fun j u hu => by
          have hj := (List.getElem?_eq_some_iff.1 hu).1
          subst hrow
          rw [← Array.getElem?_toList]
          simp only [Array.toList_append]
          rw [List.getElem?_append_left (by simpa using hj)]
          simpa using hu
        have hnew : (w.drew.alloc (.cells row e)).heap[w.heap.size]? = some (.cells row e (0, 0)) := heap_alloc_new w.drew _
        refine ⟨_, _, hr, ⟨?_, ?_, ⟨hsz, .inr ⟨w.heap.size, C, us ++ vs, by simp, fun j u hu => ?_, ?_⟩⟩, (fun b hb => .inr ?_), Nat.le_succ _, ImmLe.refl _, (fun _ _ _ => rfl), fun c k x hx => by rw [cell_same (heap_alloc_old w.drew _ (cell_lt (hi.imm c k x hx)))]; exact hi.imm c k x hx, keep_of_old fun b hb => heap_alloc_old w.drew _ hb⟩⟩
        · refine ⟨rfl, rfl, rfl, by rw [World.size_alloc]; exact Nat.le_succ w.heap.size, fun k hk _ => heap_alloc_old w.drew _ hk⟩
        · exact ⟨_, _, _, rfl, .inr ⟨hge, hpos, w.heap.size, row, e, rfl, hnew, by rw [hrowsz]; exact Nat.le_refl _, fun k => himm _ _ (Nat.le_refl _)⟩⟩
        · have := hrowget j u hu
          simp only [World.cell?, hnew]
          simpa using this
        · rw [hflat]; exact hcu.append hcv
        · simp only [ownBlk] at hb
          split at hb
          · have := Option.some.inj hb; show w.heap.size ≤ b; omega
          · cases hb
      · have hroom : xs.length + ys.length ≤ cap := by omega
        obtain ⟨_, _, _, e, hl2⟩ := hl
        injection e with e1 e2 e3
        subst e1 e2 e3
        rcases hl2 with ⟨_, h1, h2⟩ | ⟨_, _, b, cur, tt, rfl, hheap, hfit, hno⟩
        · omega
        · have hmul : (xs.length + ys.length) * i.size ≤ cap * i.size := Nat.mul_le_mul_right _ hroom
          have hcurfit : xs.length * i.size + vs.length ≤ cur.size := by rw [hlv, ← Nat.add_mul]; omega
          have hr := app_run_room (P := P) (w := w) (ty := ty) ht hie b xs.length cap ys.length hheap hrv hlv hcv.oneCells hroom hcurfit
          have hnewrow := setRow_heap w b cur (cur.toList.take (xs.length * i.size) ++ vs ++ cur.toList.drop (xs.length * i.size + vs.length)).toArray tt (0, 0) hheap
          have hget : ∀ (j : Nat), (cur.toList.take (xs.length * i.size) ++ vs ++ cur.toList.drop (xs.length * i.size + vs.length)).toArray[j]? = if j < xs.length * i.size then cur[j]? else if j < xs.length * i.size + vs.length then vs[j - xs.length * i.size]? else cur[j]? := fun j => by
            have := seg_get cur.toList vs (xs.length * i.size) vs.length j rfl (by simpa using hcurfit)
            simpa using this
          have holdc : ∀ (j : Nat) (x : Value), us[j]? = some x → cur[j]? = some x := fun j x hx => by
            rcases hru with ⟨e, _⟩ | ⟨_, _, e, _, _⟩ | ⟨b', o', cap', e, _, h3⟩
            · cases e
            · subst_vars
              have hj := (List.getElem?_eq_some_iff.1 hx).1
              simp_all
            · injection e with e1 _ _
              injection e1 with e1
              injection e1 with e1 e2 _
              subst e1 e2
              have := h3 j x hx
              simp only [World.cell?, hheap, Nat.zero_add] at this
              simpa using this
          refine ⟨_, _, hr, ⟨⟨rfl, rfl, rfl, by simp, fun k hk hne => setRow_other w b k _ (fun e => hne (by subst e; simp [ownBlk, isLin_add]))⟩, ?_, ⟨hsz, .inr ⟨b, cap, us ++ vs, by simp, fun j x hx => ?_, by rw [hflat]; exact hcu.append hcv⟩⟩, (fun c hc' => .inl ?_), Nat.le_refl _, ImmLe.refl _, (fun _ _ _ => rfl), fun c k x hx => by rw [cell_same (setRow_other w b c _ (fun e => by rw [e, hno k] at hx; cases hx))]; exact hi.imm c k x hx, fun c => ?_⟩⟩
          · refine ⟨_, _, _, rfl, .inr ⟨hroom, hpos, b, _, tt, rfl, hnewrow, ?_, hno⟩⟩
            simp only [List.size_toArray, List.length_append, List.length_take, List.length_drop, Array.length_toList]
            omega
          · rw [cell_of_heap hnewrow, hget]
            rcases Nat.lt_or_ge j us.length with hj | hj
            · rw [List.getElem?_append_left hj] at hx
              rw [if_pos (by rw [← hlu]; exact hj)]
              exact holdc j x hx
            · rw [List.getElem?_append_right hj] at hx
              have hj2 := (List.getElem?_eq_some_iff.1 hx).1
              rw [if_neg (by rw [← hlu]; omega), if_pos (by rw [← hlu]; omega), ← hlu]
              exact hx
          · simp only [ownBlk, isLin_add, true_or, if_true] at hc' ⊢
            exact hc'
          · by_cases hcb : c = b
            · subst hcb
              intro vs' t' fr' hv'
              rw [hheap] at hv'
              cases hv'
              refine ⟨_, _, _, hnewrow, ?_⟩
              simp only [List.size_toArray, List.length_append, List.length_take, List.length_drop, Array.length_toList]
              omega
            · exact Keeps.same (setRow_other w b c _ hcb)
  | _ => simp [applV] at hv
end
end Go.Vm

/- Operations on lists that are their register's alone. -/
set_option linter.unusedVariables false
set_option linter.unusedSimpArgs false
namespace Go.Vm

section
variable {P : Program} {R : Nat → Option Nat} {Dt : Prop} {cx : Cx Dt} {N : Nat} {hb0 : Heap} {S T : Ow} {rs : Regs} {h : Heap} {fl : Fl} {g : Gh} {a : Act} {w : World} {o : Oper} {gd vop : VOp}

theorem isNil_eval {x : Operand} {y : Arg} (h : trArg x = some y) (hn : isNil y = true) : a.eval x = .slice none 0 0 := by
  refine nilArg_eval h ?_
  unfold isNil at hn
  split at hn
  · rfl
  · cases hn
theorem newl_ok (hi : Inv cx N hb0 S rs h fl g a w) {z : Nat} (htr : trOpL P o.op gd = some (.newl z)) (hs : S.step1 R o.dst (.newl z) = some T) (hd : ∀ x, o.dst = some x → x < N) :
    ∃ u, (execOp a.eval o).run P w = .ok (.value u) w ∧ Inv cx N hb0 T (putR o.dst (.lst []) rs) h fl g (a.put o.dst u) w := by
  have hrun : (execOp a.eval o).run P w = .ok (.value (.slice none 0 0)) w := by
    cases gd <;> simp only [trOpL, reduceCtorEq] at htr <;> obtain ⟨_, h1, h2⟩ := bnd_eq_some htr <;> cases h2
    unfold trNewl at h1
    split at h1
    · rename_i x hop
      obtain ⟨y, hy, h1⟩ := bnd_eq_some h1
      obtain ⟨hn, h1⟩ := cnd_eq_some h1
      unfold execOp; rw [hop]; show Result.ok (Next.value (a.eval x)) w = _
      rw [isNil_eval hy hn]
    · rename_i x hop
      obtain ⟨y, hy, h1⟩ := bnd_eq_some h1
      obtain ⟨hn, h1⟩ := cnd_eq_some h1
      unfold execOp; rw [hop]; show Result.ok (Next.value (a.eval x)) w = _
      rw [isNil_eval hy hn]
    · cases h1
  refine ⟨_, hrun, ?_⟩
  simp only [Ow.step1] at hs
  obtain ⟨T0, hk, hs⟩ := bnd_eq_some hs
  cases hs
  have h1 := hi.put hd hk (u := .slice none 0 0) (v := .lst []) .lst
  cases hdst : o.dst with
  | none => rw [hdst] at h1; exact h1
  | some d =>
    rw [hdst] at h1
    have hlt : d < a.tmps.size := by rw [hi.F.size]; exact hd d hdst
    obtain ⟨pd, hO, hf⟩ := h1.O
    refine ⟨h1.W, h1.G, ⟨pd, hO.add (fun _ => ⟨rfl, [], by simp [putR, get], ?_⟩) (fun x hx => ?_), ⟨hf.al, hf.la, hf.pd⟩⟩, h1.F⟩
    · rw [put_get hlt]; exact ⟨by simp, .inl ⟨rfl, rfl⟩⟩
    · rw [put_get hlt] at hx
      have : x = .slice none 0 0 := by simpa [Value.cells] using hx.symm
      subst this
      exact ⟨.inl ⟨isLin_add z, none, 0, 0, rfl, .inl ⟨rfl, rfl, rfl⟩⟩, fun b hb => by simp [ownBlk] at hb⟩

theorem trOpL_appl {p size bytes : Nat} {s x : Arg} (h : trOpL P o.op gd = some (.appl p size bytes s x)) :
    ∃ y y' t e i z, o.op = .call { callee := .builtin .append, args := #[y, y'], argTypes := #[t, t] } ∧ P.underlying t = some (.slice e) ∧ P.info? e = some i ∧ i.zero = some z ∧ size = i.size ∧ bytes = i.bytes ∧ 0 < i.size ∧ 0 < i.bytes ∧ z.cells.size = i.size ∧ z.cells.toList.all Value.oneCell' = true ∧ trArg y = some s ∧ trArg y' = some x := by
  cases gd <;> simp only [trOpL, reduceCtorEq] at h <;> obtain ⟨r, h1, h2⟩ := bnd_eq_some h <;> cases h2
  unfold trAppl at h1
  split at h1
  · rename_i c hop
    split at h1
    · rename_i s' x' t tx e1 e2 e3
      obtain ⟨e, he, h1⟩ := bnd_eq_some h1
      obtain ⟨i, hie, h1⟩ := bnd_eq_some h1
      obtain ⟨a', ha, h1⟩ := bnd_eq_some h1
      obtain ⟨y, hy, h1⟩ := bnd_eq_some h1
      split at h1
      · rename_i z e' hz he'
        split at h1
        · rename_i hcond
          cases h1
          obtain ⟨rfl, rfl, c1, c2, c3, c4⟩ := hcond
          obtain ⟨cal, cargs, cts⟩ := c
          simp only at e1 e2 e3
          have e4 : cargs = #[s', x'] := by apply Array.ext'; simpa using e2
          have e5 : cts = #[tx, tx] := by apply Array.ext'; simpa using e3
          subst e1 e4 e5
          exact ⟨s', x', tx, e', i, z, hop, he', hie, hz, rfl, rfl, c1, c2, c3, c4, ha, hy⟩
        · cases h1
      · cases h1
    · cases h1
  · cases h1
theorem sliceT_inv {t e : TypeId} (h : sliceT P t = some e) : P.underlying t = some (.slice e) := by
  unfold sliceT at h
  split at h
  · rename_i hu; cases h; exact hu
  · cases h
theorem trOpL_lenl {p : Nat} {x : Arg} (h : trOpL P o.op gd = some (.lenl p x)) :
    ∃ y t e, o.op = .call { callee := .builtin .len, args := #[y], argTypes := #[t] } ∧ P.underlying t = some (.slice e) ∧ trArg y = some x := by
  cases gd <;> simp only [trOpL, reduceCtorEq] at h <;> obtain ⟨r, h1, h2⟩ := bnd_eq_some h <;> cases h2
  unfold trLenl at h1
  split at h1
  · rename_i c hop
    split at h1
    · rename_i x' t e1 e2 e3
      obtain ⟨e, he, h1⟩ := bnd_eq_some h1
      obtain ⟨cal, cargs, cts⟩ := c
      simp only at e1 e2 e3
      have e4 : cargs = #[x'] := by apply Array.ext'; simpa using e2
      have e5 : cts = #[t] := by apply Array.ext'; simpa using e3
      subst e1 e4 e5
      exact ⟨x', t, e, hop, sliceT_inv he, h1⟩
    · cases h1
  · cases h1
theorem trOpL_slf {p size : Nat} {x : Arg} {lo hi' : Option Arg} (h : trOpL P o.op gd = some (.slf p size x lo hi')) :
    ∃ t y l u e, o.op = .slice t y l u none ∧ P.underlying t = some (.slice e) ∧ sizeT P e = some size ∧ trArg y = some x ∧ trOpt l = some lo ∧ trOpt u = some hi' ∧ 0 < size := by
  cases gd <;> simp only [trOpL, reduceCtorEq] at h <;> obtain ⟨r, h1, h2⟩ := bnd_eq_some h <;> cases h2
  unfold trSlf at h1
  split at h1
  · rename_i t y l u hop
    obtain ⟨e, he, h1⟩ := bnd_eq_some h1
    obtain ⟨n, hn, h1⟩ := bnd_eq_some h1
    obtain ⟨a', ha, h1⟩ := bnd_eq_some h1
    obtain ⟨l', hl, h1⟩ := bnd_eq_some h1
    obtain ⟨u', hu, h1⟩ := bnd_eq_some h1
    obtain ⟨hp, h1⟩ := cnd_eq_some h1
    cases h1
    exact ⟨t, y, l, u, e, hop, sliceT_inv he, hn, ha, hl, hu, of_decide_eq_true hp⟩
  · cases h1
theorem trOpL_calll {f p size : Nat} {F : List V → List V → Option (List V)} {x : Arg} {as : List Arg} (h : trOpL P o.op gd = some (.calll f p size F x as)) :
    ∃ y ys ts, o.op = .call { callee := .value (.func f), args := (y :: ys).toArray, argTypes := ts } ∧ trArg y = some x ∧ trArgs ys = some as := by
  cases gd <;> simp only [trOpL, reduceCtorEq] at h <;> obtain ⟨r, h1, h2⟩ := bnd_eq_some h <;> cases h2
  unfold trCalll at h1
  split at h1
  · rename_i c hop
    split at h1
    · rename_i f' y ys e1 e2
      obtain ⟨a', ha, h1⟩ := bnd_eq_some h1
      obtain ⟨as', has, h1⟩ := bnd_eq_some h1
      cases h1
      obtain ⟨cal, cargs, cts⟩ := c
      simp only at e1 e2
      have e4 : cargs = (y :: ys).toArray := by apply Array.ext'; simpa using e2
      subst e1 e4
      exact ⟨y, ys, cts, hop, ha, has⟩
    · cases h1
  · cases h1

theorem lin_alias {pd : Pd} (hf : Facts S pd rs a.tmps w) {y : Operand} {t p : Nat} (hy : trArg y = some (.r t)) (hal : t = p ∨ hasPair t p S.al = true) : a.eval y = a.tmps.getD p Go.undef := by
  have e := trArg_tmp hy
  subst e
  rcases hal with rfl | hal
  · rfl
  · exact hf.al _ _ (hasPair_mem hal)
theorem exec_len {y : Operand} {t : TypeId} (hop : o.op = .call { callee := .builtin .len, args := #[y], argTypes := #[t] }) {u : Value} {w' : World} (hr : (Builtin.len_ #[t] o.type #[a.eval y]).run P w = .ok u w') :
    (execOp a.eval o).run P w = .ok (.value u) w' := by
  unfold execOp
  rw [hop]
  simp only [resolve, invoke, builtin, Sem.run_bind, Sem.run_pure, Result.andThen_ok]
  have : (#[y].map a.eval) = #[a.eval y] := by simp
  rw [this, hr]
  rfl
theorem appl_ok (hi : Inv cx N hb0 S rs h fl g a w) {p size bytes : Nat} {s x : Arg} (htr : trOpL P o.op gd = some (.appl p size bytes s x)) (hs : S.step1 R o.dst (.appl p size bytes s x) = some T) (hd : ∀ x, o.dst = some x → x < N)
    {v : V} (hv : applV size bytes (get rs p) (x.val rs) = some v) : ∃ u w', (execOp a.eval o).run P w = .ok (.value u) w' ∧ Inv cx N hb0 T (putR o.dst v rs) h fl g (a.put o.dst u) w' := by
  obtain ⟨y, y', t, e, i, z, hop, ht, hie, hz, rfl, rfl, hpos, hbp, hzs, hz1, hy, hy'⟩ := trOpL_appl htr
  cases s with
  | c cv => simp only [Ow.step1, reduceCtorEq] at hs
  | r tr =>
    simp only [Ow.step1] at hs
    obtain ⟨hcond, hs⟩ := cnd_eq_some hs
    obtain ⟨T0, hk, hs⟩ := bnd_eq_some hs
    cases hs
    simp only [Bool.and_eq_true, Bool.or_eq_true, decide_eq_true_eq] at hcond
    obtain ⟨hal, ho, hpf⟩ := hcond
    obtain ⟨pd, hO, hf⟩ := hi.O
    have hp := hasLin_mem ho
    obtain ⟨xs, hget, hcont, hlin, _, _⟩ := Inv.linAt hO hf hp hpf
    have he := lin_alias hf hy hal
    rw [hget] at hv
    have hvl : ∃ zs, v = .lst zs := by
      unfold applV at hv
      split at hv
      · obtain ⟨_, hv⟩ := cnd_eq_some hv; cases hv; exact ⟨_, rfl⟩
      · cases hv
    obtain ⟨zs, rfl⟩ := hvl
    obtain ⟨u', w', hr, post⟩ := appl_core (P := P) (ty := o.type) ht hie hz hpos hbp hzs hz1 hi.G.hr hlin hcont (trArg_sound hi.F.regs hy') hv (fun b k hb => hi.G.immNone hb k)
    refine ⟨u', w', exec_append hop (by rw [he]; exact hr), lin_step hi hp hpf hd hk post⟩
theorem lenl_ok (hi : Inv cx N hb0 S rs h fl g a w) {p : Nat} {x : Arg} (htr : trOpL P o.op gd = some (.lenl p x)) (hs : S.step1 R o.dst (.lenl p x) = some T) (hd : ∀ x, o.dst = some x → x < N)
    {v : V} (hv : lenlV (get rs p) = some v) : ∃ u, (execOp a.eval o).run P w = .ok (.value u) w ∧ Inv cx N hb0 T (putR o.dst v rs) h fl g (a.put o.dst u) w := by
  obtain ⟨y, t, e, hop, ht, hy⟩ := trOpL_lenl htr
  cases x with
  | c cv => simp only [Ow.step1, reduceCtorEq] at hs
  | r tr =>
    simp only [Ow.step1] at hs
    obtain ⟨hcond, hk⟩ := cnd_eq_some hs
    simp only [Bool.and_eq_true, Bool.or_eq_true, decide_eq_true_eq, anyLin, List.any_eq_true] at hcond
    obtain ⟨hal, ⟨q, off, z⟩, hm, hq, hz⟩ := hcond
    simp only at hq hz
    subst hq
    obtain ⟨pd, hO, hf⟩ := hi.O
    obtain ⟨h0, xs, hget, hcont⟩ := hO.cont _ _ _ hm hz
    have he := lin_alias hf hy hal
    rw [hget] at hv
    simp only [lenlV, Option.some.injEq] at hv
    subst hv
    have hrun : (Builtin.len_ #[t] o.type #[a.eval y]).run P w = .ok (.int .i64 xs.length) w := by
      rw [he]
      rcases hcont.2 with ⟨e, rfl⟩ | ⟨b, cap, us, e, _⟩ <;> rw [e] <;> simp [Builtin.len_, run_underlying ht] <;> rfl
    exact ⟨_, exec_len hop hrun, hi.put hd hk (.i _ _)⟩
theorem Inv.frzLin (hi : Inv cx N hb0 S rs h fl g a w) {p size : Nat} (hp : (p, 0, size + 1000000) ∈ S.own) (hpf : pdFree p S.pd = true) :
    ∃ xs g', get rs p = .lst xs ∧ GLe g g' ∧ VR g' (a.tmps.getD p Go.undef) (.sl xs) ∧ Inv cx N hb0 ⟨offReg p S.own, S.al, S.la, S.pd⟩ rs h fl g' a w := by
  obtain ⟨pd, hO, hf⟩ := hi.O
  obtain ⟨xs, hget, hcont, hlin, hheldp, hblk⟩ := Inv.linAt hO hf hp hpf
  have frz : ∃ g', GLe g g' ∧ MemG cx hb0 h fl g' w ∧ VR g' (a.tmps.getD p Go.undef) (.sl xs) ∧ g'.mu = g.mu ∧ ∀ b, ownBlk (size + 1000000) (a.tmps.getD p Go.undef) ≠ some b → ∀ k, g'.imm b k = g.imm b k := by
    rcases hcont.2 with ⟨e1, rfl⟩ | ⟨b, cap, us, e1, h1, h2⟩
    · exact ⟨g, GLe.refl g, hi.G, by rw [e1]; exact .cell .nils, rfl, fun _ _ _ => rfl⟩
    · have hb : ownBlk (size + 1000000) (a.tmps.getD p Go.undef) = some b := by rw [e1]; simp [ownBlk, isLin_add]
      obtain ⟨f1, f2, f3, f4⟩ := hblk b hb
      obtain ⟨_, n', cap', cur, tt, e2, hn, hheap, hfit, _⟩ := hlin.blk hb
      rw [e1] at e2
      injection e2 with e3 e4 e5
      subst e4 e5
      have hG := hi.G.addImm (b := b) (lo := 0) (us := us) (.inl f3) f2 (fun k _ _ => f4 k) (fun j x hx => by rw [Nat.zero_add]; exact h1 j x hx)
      have hle : GLe g (g.addImm b 0 us) := Gh.addImm_le fun k _ _ => f4 k
      refine ⟨_, hle, hG, ?_, rfl, fun c hc k => Gh.addImm_other (fun e => hc (by rw [e]; exact hb)) k⟩
      rw [e1]
      exact .cell (.sl (sz := size) (us := us) rfl hn hcont.1 (fun j x hx => Gh.addImm_at hx) (h2.mono hle.imm))
  obtain ⟨g', hle, hG', hvr, hmu, himm⟩ := frz
  have hsub : ∀ x, x ∈ offReg p S.own → x ∈ S.own := fun x hx => (mem_offReg.1 hx).1
  refine ⟨xs, g', hget, hle, hvr, hi.W, hG', ⟨pd, ?_, ⟨hf.al, hf.la, hf.pd⟩⟩, hi.F.mono hle⟩
  refine (hO.less hsub).map (fun p q => p = q) (fun _ _ _ e1 e2 => e1.trans e2.symm) (fun q z x hq => .inr ⟨q, z, rfl, ?_, .inl rfl⟩) (fun p q b l e hn => e ▸ hn) (fun q z x b hq _ hb => ⟨⟨rfl, fun k hk => ?_⟩, fun i hl hm => ⟨hl, by rw [hmu] at hm; exact hm⟩⟩) hle.imm
  · cases q with
    | reg r off => exact hq
    | cell i j =>
      obtain ⟨cs, own, b, c1, c2, c3, c4, c5⟩ := hq
      exact ⟨cs, own, b, c1, c2, c3, by rw [hmu] at c4; exact c4, c5⟩
  · rw [himm b (fun e => ?_)]; exact hk
    have hq2 : Held S.own pd h g a.tmps w q z x := by
      cases q with
      | cell i j => exact hq
      | reg r off => exact ⟨hsub _ hq.1, hq.2⟩
    have := hO.dis _ _ _ _ _ _ b hq2 hheldp hb e
    subst this
    exact (mem_offReg.1 hq.1).2 rfl
theorem slf_ok (hi : Inv cx N hb0 S rs h fl g a w) {p size : Nat} {x : Arg} {lo hi' : Option Arg} (htr : trOpL P o.op gd = some (.slf p size x lo hi')) (hs : S.step1 R o.dst (.slf p size x lo hi') = some T) (hd : ∀ x, o.dst = some x → x < N)
    {v : V} (hv : slfV size rs lo hi' (get rs p) = some v) : ∃ u g', (execOp a.eval o).run P w = .ok (.value u) w ∧ GLe g g' ∧ Inv cx N hb0 T (putR o.dst v rs) h fl g' (a.put o.dst u) w := by
  obtain ⟨t, y, l, q, e, hop, ht, hsz, hy, hl, hq, hpos⟩ := trOpL_slf htr
  cases x with
  | c cv => simp only [Ow.step1, reduceCtorEq] at hs
  | r tr =>
    simp only [Ow.step1] at hs
    obtain ⟨hcond, hs⟩ := cnd_eq_some hs
    obtain ⟨T0, hk, hs⟩ := bnd_eq_some hs
    cases hs
    simp only [Bool.and_eq_true, Bool.or_eq_true, decide_eq_true_eq] at hcond
    obtain ⟨hal, ho, hpf⟩ := hcond
    have hp := hasLin_mem ho
    have he : a.eval y = a.tmps.getD p Go.undef := by
      obtain ⟨pd, hO, hf⟩ := hi.O
      exact lin_alias hf hy hal
    obtain ⟨xs, g', hget, hle, hvr, h1⟩ := hi.frzLin hp hpf
    rw [hget] at hv
    have hRR : RR g' a rs := fun r => (hi.F.regs r).mono hle
    obtain ⟨zv, hz, hzr⟩ := slice_sound (P := P) (w := w) hRR ht hsz hvr hl hq (mx := none) (mx' := none) rfl hv
    have hexec : (execOp a.eval o).run P w = .ok (.value zv) w := by
      unfold execOp
      rw [hop]
      simp only [he]
      exact run_v hz
    refine ⟨zv, g', hexec, hle, ?_⟩
    cases hdst : o.dst with
    | none =>
      rw [hdst] at hk
      cases kill_none hk
      exact h1
    | some d =>
      rw [hdst] at hk hd
      obtain ⟨hpd', rfl⟩ := kill_some hk
      have h2 := h1.put (dst := some d) hd (T := ⟨offReg d (offReg p S.own), offPair d S.al, offPair d S.la, S.pd⟩) (by simp only [Ow.kill, hpd', cnd_true]) hzr
      refine h2.weaken (fun x hx => ?_) (fun x hx => hx) (fun x hx => hx) rfl
      obtain ⟨k1, k2⟩ := mem_offReg.1 hx
      obtain ⟨k3, k4⟩ := mem_offReg.1 k1
      exact mem_offReg.2 ⟨mem_offReg.2 ⟨k3, k2⟩, k4⟩
theorem calll_ok (hi : Inv cx N hb0 S rs h fl g a w) {f p size : Nat} {F : List V → List V → Option (List V)} {x : Arg} {as : List Arg} (htr : trOpL P o.op gd = some (.calll f p size F x as)) (hL : LinOk P f size F) (hs : S.step1 R o.dst (.calll f p size F x as) = some T) (hd : ∀ x, o.dst = some x → x < N)
    {v : V} (hv : calllV F (vals rs as) (get rs p) = some v) {K : Act → World → Prop} {Q : Exit → Act → World → Prop} (hK : ∀ u w' g', GLe g g' → Inv cx N hb0 T (putR o.dst v rs) h fl g' (a.put o.dst u) w' → K (a.put o.dst u) w') : o.wp P a w K Q := by
  obtain ⟨y, ys, ts, hop, hy, hys⟩ := trOpL_calll htr
  cases x with
  | c cv => simp only [Ow.step1, reduceCtorEq] at hs
  | r tr =>
    simp only [Ow.step1] at hs
    obtain ⟨hcond, hs⟩ := cnd_eq_some hs
    obtain ⟨T0, hk, hs⟩ := bnd_eq_some hs
    cases hs
    simp only [Bool.and_eq_true, Bool.or_eq_true, decide_eq_true_eq] at hcond
    obtain ⟨hal, ho, hnp⟩ := hcond
    have hpd : S.pd = none := by simpa [Ow.noPd] using hnp
    have hpf : pdFree p S.pd = true := by rw [hpd]; rfl
    obtain ⟨pd, hO, hf⟩ := hi.O
    have hp := hasLin_mem ho
    obtain ⟨xs, hget, hcont, hlin, _, _⟩ := Inv.linAt hO hf hp hpf
    have he := lin_alias hf hy hal
    rw [hget] at hv
    have hv2 : (bnd (F xs (vals rs as)) fun ys => some (V.lst ys)) = some v := hv
    obtain ⟨zs, hF, e⟩ := bnd_eq_some hv2
    cases e
    have hargs := trArgs_sound (g := g) hi.F.regs hys
    have hexec := exec_call (P := P) (w := w) (a := a) hop (y := .func f) rfl (f := f) (us := #[]) (vs := #[]) rfl
    have hua : (#[] ++ Array.map a.eval (y :: ys).toArray ++ #[] : Array Value) = #[a.tmps.getD p Go.undef] ++ (ys.map a.eval).toArray := by
      apply Array.ext'
      simp [he]
    have hc := hL xs (vals rs as) zs hF h g w (a.tmps.getD p Go.undef) (ys.map a.eval).toArray (hi.pre hpd) hlin hcont (by simpa using hargs)
    simp only at hexec
    rw [hua] at hexec
    unfold Oper.wp
    rw [hexec]
    have main : ∀ u' w' m, LinPost g w (a.tmps.getD p Go.undef) size zs u' w' m → K (a.put o.dst u') w' := fun u' w' m post =>
      hK u' w' (g.withImm m) ⟨fun _ _ h => h, post.le, fun _ => Nat.le_refl _, fun _ h => h⟩ (lin_step hi hp hpf hd hk post)
    rcases hc with ⟨h1, h2⟩ | ⟨u', w', h1, m, h2⟩
    · rw [h1, Oper.upon_enter]
      refine Calls.mono h2 fun e w' he => ?_
      obtain ⟨u', rfl, m, hp⟩ := he
      exact main u' w' m hp
    · rw [h1, Oper.upon_value]
      exact main u' w' m h2
end
end Go.Vm

/- A struct's literal whose slices are nil; a new object that has slices of its own; a text's bytes. -/
set_option linter.unusedVariables false
set_option linter.unusedSimpArgs false
namespace Go.Vm

theorem fill_keep {place : Nat → Option (Nat × Nat)} : ∀ (parts : List (Nat × Value)) (us us' : Array Value), Instr.fill place us parts = some us' → ∀ j, (∀ i u off size, (i, u) ∈ parts → place i = some (off, size) → j < off ∨ off + size ≤ j) → us'[j]? = us[j]?
  | [], us, us', h, j, _ => by cases h; rfl
  | (i, u) :: rest, us, us', h, j, hj => by
    simp only [Instr.fill] at h
    split at h
    · cases h
    · rename_i off size hp
      split at h
      · cases h
      · rename_i hc
        rw [fill_keep rest _ us' h j (fun i' u' off' size' hm => hj i' u' off' size' (List.mem_cons_of_mem _ hm))]
        simp only [Bool.or_eq_true, bne_iff_ne, ne_eq, decide_eq_true_eq, not_or, Decidable.not_not, Nat.not_lt, gt_iff_lt] at hc
        have e : (u.cells.zipIdx.foldl (fun cs (x : Value × Nat) => cs.setIfInBounds (off + x.2) x.1) us) = ((u.cells.toList.zipIdx 0).foldl (fun (cs : Array Value) (x : Value × Nat) => cs.setIfInBounds (off + x.2) x.1) us) := by
          rw [← Array.foldl_toList]; simp
        have h2 := foldl_set off u.cells.toList 0 us (by simp only [Array.length_toList]; have := hc.2; omega)
        have hsz : u.cells.toList.length = size := by rw [Array.length_toList]; exact hc.1
        rw [← Array.getElem?_toList, ← Array.getElem?_toList]
        show (u.cells.zipIdx.foldl (fun cs (x : Value × Nat) => cs.setIfInBounds (off + x.2) x.1) us).toList[j]? = _
        rw [e, h2, Nat.add_zero, hsz]
        have hle : off + size ≤ us.toList.length := by rw [Array.length_toList, ← hc.1]; exact hc.2
        have := seg_get us.toList u.cells.toList off size j hsz hle
        rw [List.append_assoc] at this
        rw [this]
        rcases hj i u off size (by simp) hp with h3 | h3
        · rw [if_pos h3]
        · rw [if_neg (by omega), if_neg (by omega)]

section
variable {P : Program} {R : Nat → Option Nat} {Dt : Prop} {cx : Cx Dt} {N : Nat} {hb0 : Heap} {S T : Ow} {rs : Regs} {h : Heap} {fl : Fl} {g : Gh} {a : Act} {w : World} {o : Oper} {gd vop : VOp}

theorem partsS_mem {t : TypeId} {fs : Array Field} (hu : P.underlying t = some (.struct fs)) {places : List (Nat × Nat)} (hpl : fs.toList.mapM (fun f => (P.info? f.type).map fun i => (f.offset, i.size)) = some places) :
    ∀ (parts : List (Nat × Operand)) (ps : List (Nat × Nat × Arg)), partsS P t parts = some ps → ∀ i u off size, (i, u) ∈ realParts a parts → (places.toArray[·]?) i = some (off, size) → ∃ x, (off, size, x) ∈ ps
  | [], ps, h, i, u, off, size, hm, _ => by simp [realParts] at hm
  | (i0, o) :: parts, ps, h, i, u, off, size, hm, hp => by
    simp only [partsS] at h
    obtain ⟨f, hf, h⟩ := bnd_eq_some h
    obtain ⟨z, hz, h⟩ := bnd_eq_some h
    obtain ⟨x, hx, h⟩ := bnd_eq_some h
    obtain ⟨l, hl, h⟩ := bnd_eq_some h
    cases h
    simp only [realParts, List.map_cons, List.mem_cons, Prod.mk.injEq] at hm
    rcases hm with ⟨rfl, rfl⟩ | hm
    · refine ⟨x, ?_⟩
      have : (off, size) = (f.1, z) := by
        unfold fieldT at hf
        rw [hu] at hf
        simp only at hf
        unfold sizeT at hz
        obtain ⟨info, hi, hz⟩ := bnd_eq_some hz
        cases hz
        cases hfi : fs[i]? with
        | none => simp [hfi] at hf
        | some fd =>
          simp only [hfi, Option.some.injEq] at hf
          subst hf
          have key : ∀ (l : List Field) (pl : List (Nat × Nat)) (k : Nat), l.mapM (fun f => (P.info? f.type).map fun i => (f.offset, i.size)) = some pl → l[k]? = some fd → pl[k]? = some (fd.offset, info.size) := by
            intro l
            induction l with
            | nil => intro pl k _ hk; simp at hk
            | cons f0 l ih =>
              intro pl k hm hk
              simp only [List.mapM_cons, Option.bind_eq_bind, Option.pure_def] at hm
              cases h0 : (P.info? f0.type).map (fun i => (f0.offset, i.size)) with
              | none => simp [h0] at hm
              | some q =>
                cases h1 : l.mapM (fun f => (P.info? f.type).map fun i => (f.offset, i.size)) with
                | none => simp [h0, h1] at hm
                | some r =>
                  simp [h0, h1] at hm
                  subst hm
                  cases k with
                  | zero =>
                    simp only [List.getElem?_cons_zero, Option.some.injEq] at hk ⊢
                    subst hk
                    simp [hi] at h0
                    exact h0.symm
                  | succ k => simpa using ih r k h1 (by simpa using hk)
          have h2 : places[i]? = some (fd.offset, info.size) := key fs.toList places i hpl (by simpa using hfi)
          have h3 : places[i]? = some (off, size) := by simpa using hp
          rw [h2] at h3
          exact (Option.some.inj h3).symm
      cases this
      simp
    · obtain ⟨x', hx'⟩ := partsS_mem hu hpl parts l hl i u off size hm hp
      exact ⟨x', by simp [hx']⟩
theorem Inv.addOffs : ∀ (offs : List Nat) {S : Ow} {rs : Regs} {a : Act}, Inv cx N hb0 S rs h fl g a w → ∀ {dst : Option Nat}, (∀ j ∈ offs, ∀ d, dst = some d → ∀ u, (a.tmps.getD d Go.undef).cells[j]? = some u → ∃ ad n, u = .slice ad n n) → Inv cx N hb0 (Vm.addOffs dst offs S) rs h fl g a w
  | [], S, rs, a, hi, dst, _ => hi
  | j :: l, S, rs, a, hi, dst, hu => (Inv.addOffs l hi (fun j' hj' => hu j' (by simp [hj']))).addFull isLin_zero (hu j (by simp))
theorem bld_ok (hi : Inv cx N hb0 S rs h fl g a w) {cs : List V} {ps : List (Nat × Nat × Arg)} {offs : List Nat} (htr : trOpL P o.op gd = some (.bld cs ps offs)) (hs : S.step1 R o.dst (.bld cs ps offs) = some T) (hd : ∀ x, o.dst = some x → x < N)
    {vs : List V} (hv : fillV rs cs ps = some vs) : ∃ u, (execOp a.eval o).run P w = .ok (.value u) w ∧ Inv cx N hb0 T (putR o.dst (.agg vs) rs) h fl g (a.put o.dst u) w := by
  cases gd <;> simp only [trOpL, reduceCtorEq] at htr <;> obtain ⟨r, h1, h2⟩ := bnd_eq_some htr <;> cases h2
  unfold trBld at h1
  split at h1
  · rename_i t parts hop
    obtain ⟨z, hz, h1⟩ := bnd_eq_some h1
    obtain ⟨cs', hcs, h1⟩ := bnd_eq_some h1
    split at h1
    · rename_i fs hu
      obtain ⟨places, hpl, h1⟩ := bnd_eq_some h1
      obtain ⟨ps', hps, h1⟩ := bnd_eq_some h1
      cases h1
      have hfx := fun gs => fixN_sound (g := g) hcs gs
      unfold zeroT at hz
      obtain ⟨it, hit, hz⟩ := bnd_eq_some hz
      have hparts : (parts.map fun (i, x) => (i, a.eval x)).toList = realParts a parts.toList := by simp [realParts]
      have hpl' := places_some t fs places hpl
      obtain ⟨us', e, hus'⟩ := fillS_sound hi.F.regs hu hpl' parts.toList ps' z.cells _ vs hps (hfx _).1 hv
      have hrun : (Instr.build t (parts.map fun (i, x) => (i, a.eval x))).run P w = .ok (.agg us') w := by
        refine run_build w t _ us' ?_
        simp only [Program.built, hit, hu, hz, hpl', hparts, e]
      have hur : VR g (.agg us') (.agg vs) := by simpa using VR.agg hus' (fillV_cells (hfx _).2.1 hv)
      have hexec : (execOp a.eval o).run P w = .ok (.value (.agg us')) w := by
        unfold execOp; rw [hop]; exact run_v hrun
      refine ⟨_, hexec, ?_⟩
      simp only [Ow.step1] at hs
      obtain ⟨hnil, hs⟩ := cnd_eq_some hs
      obtain ⟨T0, hk, hs⟩ := bnd_eq_some hs
      cases hs
      refine Inv.addOffs offs (hi.put hd hk hur) fun j hj d hdst x hx => ?_
      rw [hdst, put_get (by rw [hi.F.size]; exact hd d hdst)] at hx
      simp only [nilOffs, List.all_eq_true, Bool.and_eq_true, Bool.or_eq_true, decide_eq_true_eq] at hnil
      obtain ⟨hn1, hn2⟩ := hnil j hj
      have hkeep := fill_keep _ _ _ e j (fun i u off size hm hp => by
        obtain ⟨y, hy⟩ := partsS_mem hu hpl' parts.toList ps' hps i u off size hm hp
        exact hn2 _ hy)
      have hx' : us'[j]? = some x := hx
      rw [hkeep] at hx'
      split at hn1
      · rename_i hc
        exact ⟨none, 0, (hfx _).2.2 j x (by simpa using hx') _ hc (.inl rfl)⟩
      · cases hn1
    · cases h1
  · cases h1

theorem VRs.setAt {g : Gh} : ∀ {us : List Value} {vs : List V}, VRs g us vs → ∀ (j : Nat) (v : V), (∀ u, us[j]? = some u → VR g u v) → VRs g us (vs.set j v)
  | _, _, .nil, j, v, _ => by simpa using VRs.nil
  | _, _, .cons a b, 0, v, h => .cons (h _ rfl) b
  | _, _, .cons a b, j + 1, v, h => .cons a (b.setAt j v fun u hu => h u (by simpa using hu))
theorem all_set {p : V → Bool} {vs : List V} (h : vs.all p = true) {j : Nat} {v : V} (hv : p v = true) : (vs.set j v).all p = true := by
  simp only [List.all_eq_true] at h ⊢
  intro x hx
  rcases List.mem_or_eq_of_mem_set hx with hx | rfl
  · exact h x hx
  · exact hv
theorem linNil_mem {cs : List V} : ∀ {own : List (Nat × Nat)}, linNil cs own = true → ∀ j z, (j, z) ∈ own → isLin z = true → cs[j]? = some .nsl
  | [], _, j, z, hm, _ => by simp at hm
  | (j', z') :: l, h, j, z, hm, hz => by
    simp only [linNil, Bool.and_eq_true, Bool.or_eq_true, Bool.not_eq_true'] at h
    rcases List.mem_cons.1 hm with e | hm
    · cases e
      rcases h.1 with h1 | h1
      · unfold isLin at hz; rw [hz] at h1; cases h1
      · split at h1
        · assumption
        · cases h1
    · exact linNil_mem h.2 j z hm hz
theorem ownCells_sound {g : Gh} {us : List Value} {cs : List V} (hr : VRs g us cs) (hc : cs.all V.isCell = true) : ∀ {own : List (Nat × Nat)}, linNil cs own = true →
    VRs g us (ownCells cs own) ∧ (ownCells cs own).all V.isCell = true ∧ (ownCells cs own).length = cs.length ∧ (∀ j z, (j, z) ∈ own → isLin z = true → (ownCells cs own)[j]? = some (.own [])) ∧ ∀ j : Nat, (ownCells cs own)[j]? = some (V.own []) ∨ (ownCells cs own)[j]? = cs[j]?
  | [], _ => ⟨hr, hc, rfl, fun j z h => by simp at h, fun j => .inr rfl⟩
  | (j', z') :: l, h => by
    have hl : linNil cs l = true := by simp only [linNil, Bool.and_eq_true] at h; exact h.2
    obtain ⟨i1, i2, i3, i4, i5⟩ := ownCells_sound hr hc hl
    simp only [ownCells]
    cases hz' : decide (1000000 ≤ z')
    · refine ⟨i1, i2, i3, fun j z hm hz => ?_, i5⟩
      rcases List.mem_cons.1 hm with e | hm
      · cases e; unfold isLin at hz; rw [hz] at hz'; cases hz'
      · exact i4 j z hm hz
    · have hn := linNil_mem h j' z' (by simp) hz'
      have hlt : j' < (ownCells cs l).length := by rw [i3]; exact (List.getElem?_eq_some_iff.1 hn).1
      simp only [cnd_true]
      refine ⟨i1.setAt _ _ fun u hu => ?_, all_set i2 rfl, by simp [i3], fun j z hm hz => ?_, fun j => ?_⟩
      · obtain ⟨u', hu', hv⟩ := hr.get _ _ hn
        rw [hu] at hu'
        cases hu'
        cases hv.nsl_inv
        exact .own rfl
      · by_cases hj : j = j'
        · subst hj; rw [List.getElem?_set_self hlt]
        · rw [List.getElem?_set_ne (Ne.symm hj)]
          rcases List.mem_cons.1 hm with e | hm
          · cases e; exact absurd rfl hj
          · exact i4 j z hm hz
      · by_cases hj : j = j'
        · subst hj; rw [List.getElem?_set_self hlt]; exact .inl rfl
        · rw [List.getElem?_set_ne (Ne.symm hj)]; exact i5 j
theorem boxo_ok (hi : Inv cx N hb0 S rs h fl g a w) {n : Nat} {x : Arg} {own : List (Nat × Nat)} (htr : trOpL P o.op gd = some (.boxo n x own)) (hs : S.step1 R o.dst (.boxo n x own) = some T) (hd : ∀ x, o.dst = some x → x < N) (hb : boxable n (x.val rs) = true) (hln : linNil (x.val rs).flat own = true) :
    ∃ u w' g', (execOp a.eval o).run P w = .ok (.value u) w' ∧ GLe g g' ∧ Inv cx N hb0 T (putR o.dst (.ptr (some (h.length, 0))) rs) (h ++ [.cells (ownCells (x.val rs).flat own) own]) fl g' (a.put o.dst u) w' := by
  cases gd <;> simp only [trOpL, reduceCtorEq] at htr <;> obtain ⟨r, h1, h2⟩ := bnd_eq_some htr <;> cases h2
  unfold trBoxo at h1
  split at h1
  · rename_i e y hop
    obtain ⟨n', hn, h1⟩ := bnd_eq_some h1
    obtain ⟨x', hx, h1⟩ := bnd_eq_some h1
    cases h1
    have hu := trArg_sound hi.F.regs hx
    simp only [boxable, Bool.and_eq_true] at hb
    have hlen := hi.G.muNone (Nat.le_refl h.length)
    have hle : GLe g (g.addMu h.length w.heap.size) := Gh.addMu_le hlen
    have hcells := (hu.cells hb.2).mono hle
    obtain ⟨o1, o2, o3, o4, o5⟩ := ownCells_sound hcells hb.2 hln
    have hk : S.kill o.dst = some T ∧ ∀ j sz, (j, sz) ∈ own → isLin sz = false → ∃ t, y = .tmp t ∧ (t, j, 0) ∈ S.own := by
      cases x' with
      | c c =>
        simp only [Ow.step1] at hs
        obtain ⟨he, hs⟩ := cnd_eq_some hs
        simp only [List.isEmpty_iff] at he
        subst he
        exact ⟨hs, fun j sz hm => by simp at hm⟩
      | r t =>
        simp only [Ow.step1] at hs
        obtain ⟨he, hs⟩ := cnd_eq_some hs
        simp only [List.all_eq_true, Bool.or_eq_true, List.any_eq_true, decide_eq_true_eq] at he
        refine ⟨hs, fun j sz hm hnl => ⟨t, trArg_tmp hx, ?_⟩⟩
        rcases he _ hm with h1 | ⟨q, hq, rfl⟩
        · rw [hnl] at h1; cases h1
        · exact hq
    obtain ⟨pd, hO, hf⟩ := hi.O
    have h1 := hi.push (O := .cells (a.eval y).cells e) (x := .cells (ownCells (x'.val rs).flat own) own) ⟨_, e, _, [], heap_alloc_new w _, (List.append_nil _).symm, o1, o2⟩ (fun cs' own' e' j sz u hm hc => by
      cases e'
      simp only [World.cell?, heap_alloc_new] at hc
      have hc' : (a.eval y).cells[j]? = some u := by simpa using hc
      cases hz : isLin sz
      · obtain ⟨t, rfl, hm'⟩ := hk.2 j sz hm hz
        refine .inl ⟨hz, ?_⟩
        obtain ⟨ad, n, cap, rfl, h⟩ := (hO.own (.reg t j) 0 u ⟨hm', show (a.eval (.tmp t)).cells[j]? = some u from hc'⟩).plain isLin_zero
        rcases h with rfl | ⟨_, h, _⟩
        · exact ⟨ad, n, rfl⟩
        · omega
      · obtain ⟨u', hu', hv⟩ := (hu.cells hb.2).get _ _ (linNil_mem hln j sz hm hz)
        have : u = u' := by
          have h2 : (a.eval y).cells.toList[j]? = some u := by simpa using hc'
          rw [hu'] at h2; exact (Option.some.inj h2).symm
        subst this
        exact .inr ⟨_, _, rfl, hv.nsl_inv, _, own, List.getElem?_concat_length .., o4 j sz hm hz⟩)
    refine ⟨.pointer (some ⟨w.heap.size, 0, none⟩), _, _, ?_, hle, h1.put hd hk.1 (.ptr (by simp [Gh.addMu]))⟩
    unfold execOp
    rw [hop]
    simp [Instr.box, newVar, newRow]
  · cases h1

theorem bstr_ok (hi : Inv cx N hb0 S rs h fl g a w) {x : Arg} (htr : trOpL P o.op gd = some (.bstr x)) (hs : S.step1 R o.dst (.bstr x) = some T) (hd : ∀ x, o.dst = some x → x < N) {v : V} (hv : convV .bytesOfStr (x.val rs) = some v) :
    ∃ u w' g', (execOp a.eval o).run P w = .ok (.value u) w' ∧ GLe g g' ∧ Inv cx N hb0 T (putR o.dst v rs) h fl g' (a.put o.dst u) w' := by
  cases gd <;> simp only [trOpL, reduceCtorEq] at htr <;> obtain ⟨r, h1, h2⟩ := bnd_eq_some htr <;> cases h2
  unfold trBstr at h1
  split at h1
  · rename_i s d y hop
    split at h1
    · rename_i e hus hud
      obtain ⟨hbt, hx⟩ := cnd_eq_some h1
      have he : P.underlying e = some (.int .u8) := by
        unfold byteT at hbt
        split at hbt
        · assumption
        · cases hbt
      have hu := trArg_sound hi.F.regs hx
      cases hxv : x.val rs <;> rw [hxv] at hv hu <;> simp only [convV, reduceCtorEq, Option.some.injEq] at hv
      subst hv
      obtain ⟨str, hstr, rfl⟩ := hu.str_inv
      have hrun := Go.Lib.run_convert_string_bytes (P := P) w s d e str hus hud he
      generalize hw' : Go.Lib.bytesWorld w e str = w' at hrun
      have hold : ∀ k, k < w.heap.size → w'.heap[k]? = w.heap[k]? := fun k hk => by subst hw'; exact Go.Lib.bytesWorld_at_old w e str k hk
      have hnew : w'.heap[w.heap.size]? = some (.cells (Go.Lib.bytesCells w e str) e ((Go.Lib.bytesCells w e str).size, (Go.Lib.bytesCells w e str).size + 1)) := by subst hw'; exact Go.Lib.bytesWorld_at_new w e str
      have hgr : w.grownBy w' none := ⟨by subst hw'; rfl, by subst hw'; rfl, by subst hw'; rfl, by subst hw'; rw [Go.Lib.bytesWorld_size]; exact Nat.le_succ _, fun k hk _ => hold k hk⟩
      have hG1 := hi.G.other hgr (fun b e => by cases e) (keep_of_old hold)
      have hus' : ∀ (j : Nat) (u : Value), (str.data.toList.map fun b => Value.int .u8 b.toNat)[j]? = some u → (Go.Lib.bytesCells w e str)[0 + j]? = some u := fun j u hu => by
        have hj := (List.getElem?_eq_some_iff.1 hu).1
        simp only [List.length_map, Array.length_toList] at hj
        simp only [Go.Lib.bytesCells, Nat.zero_add]
        rw [Array.getElem?_append_left (by simpa using hj)]
        simpa using hu
      have hG2 := hG1.tail (b := w.heap.size) (lo := 0) (us := str.data.toList.map fun b => Value.int .u8 b.toNat) hnew (.inl hi.W.hsz) (fun i hl hm => by have := (hi.G.muW i _ hm).1; omega) (fun k _ => hi.G.immNone (Nat.le_refl _) k) (w' := w') rfl (fun _ _ => rfl) hnew (Nat.le_refl _) (fun k hk => by omega) hus'
      have hle : GLe g (g.addImm w.heap.size 0 (str.data.toList.map fun b => Value.int .u8 b.toNat)) := Gh.addImm_le fun k _ _ => hi.G.immNone (Nat.le_refl _) k
      have hvr : VR (g.addImm w.heap.size 0 (str.data.toList.map fun b => Value.int .u8 b.toNat)) (.slice (some ⟨w.heap.size, 0, none⟩) str.size (grownCap w str.size 0 e)) (.sl (str.data.toList.map byteV)) := by
        refine .cell (.sl (sz := 1) (us := str.data.toList.map fun b => Value.int .u8 b.toNat) (by rw [List.length_map, Array.length_toList]; rfl) (by have := grownCap_ge w str.size 0 e; exact this) (fun x hx => ?_) (fun j u hu => Gh.addImm_at hu) ?_)
        · obtain ⟨b, _, rfl⟩ := List.mem_map.1 hx; rfl
        · have : ∀ l : List UInt8, CRs (g.addImm w.heap.size 0 (str.data.toList.map fun b => Value.int .u8 b.toNat)).imm (l.map fun b => Value.int .u8 b.toNat) ((l.map byteV).flatMap V.flat) := by
            intro l
            induction l with
            | nil => exact .nil
            | cons b l ih => exact .cons (.int .u8 b.toNat) ih
          exact this _
      obtain ⟨pd, hO, hf⟩ := hi.O
      have h1 : Inv cx N hb0 S rs h fl (g.addImm w.heap.size 0 (str.data.toList.map fun b => Value.int .u8 b.toNat)) a w' := by
        refine ⟨hi.W.step hgr (fun b e => by cases e) (fun _ h => h) (by subst hw'; exact Nat.le_succ _), hG2, ⟨pd, ?_, ⟨hf.al, fun t p hm => ?_, hf.pd⟩⟩, hi.F.mono hle⟩
        · refine hO.map (fun p q => p = q) (fun _ _ _ e1 e2 => e1.trans e2.symm) (fun p sz u hp => .inr ⟨_, sz, rfl, ?_, .inl rfl⟩) (fun p q b l e hn => e ▸ hn) (fun q sz u b hq _ hb => ⟨⟨hold b ((hO.own q sz u hq).lt hb), fun k hk => ?_⟩, fun i hl hm => ⟨hl, hm⟩⟩) hle.imm
          · cases p with
            | reg r off => exact hp
            | cell i j =>
              obtain ⟨cs, own, b, h1, h2, h3, h4, h5⟩ := hp
              exact ⟨cs, own, b, h1, h2, h3, h4, by rw [← cell_same (hold b (hi.G.muW i b h4).1)]; exact h5⟩
          · rw [Gh.addImm_other (Nat.ne_of_lt ((hO.own q sz u hq).lt hb))]; exact hk
        · obtain ⟨b, k, h1, h2⟩ := hf.la t p hm
          exact ⟨b, k, h1, by rw [cell_same (hold b (cell_lt h2))]; exact h2⟩
      simp only [Ow.step1] at hs
      obtain ⟨T0, hk, hs⟩ := bnd_eq_some hs
      cases hs
      refine ⟨_, w', _, ?_, hle, (h1.put hd hk hvr).noLa⟩
      unfold execOp
      rw [hop]
      simp only [hstr]
      exact run_v hrun
    · cases h1
  · cases h1

theorem run_eq_slice (d : Nat) {t e : TypeId} (ht : P.underlying t = some (.slice e)) {ad : Option Addr} {n c : Nat} (hn : ad = none → n = 0 ∧ c = 0) : (Op.equalIn (d + 1) t (.slice ad n c) (.slice none 0 0)).run P w = .ok ad.isNone w := by
  cases ad <;> simp [Op.equalIn, run_underlying ht]
theorem isnil_run {t e : TypeId} (ht : P.underlying t = some (.slice e)) {x y : Operand} {ad : Option Addr} {n c : Nat} (hn : ad = none → n = 0 ∧ c = 0) :
    (do eqGuard .eql t x y (.slice ad n c) (.slice none 0 0); binOp .eql t (.slice ad n c) (.slice none 0 0)).run P w = .ok (.bool ad.isNone) w := by
  have h1 : binOp .eql t (.slice ad n c) (.slice none 0 0) = (do pure (.bool (← Op.equal t (.slice ad n c) (.slice none 0 0)))) := rfl
  have h2 : (Op.equal t (.slice ad n c) (.slice none 0 0)).run P w = .ok ad.isNone w := run_eq_slice 9999 ht hn
  simp only [eqGuard_at_slice, Sem.run_bind, Sem.run_pure, Result.andThen_ok, h1, h2]
theorem isnil_ok (hi : Inv cx N hb0 S rs h fl g a w) {x : Arg} (htr : trOpL P o.op gd = some (.isnil x)) (hs : S.step1 R o.dst (.isnil x) = some T) (hd : ∀ x, o.dst = some x → x < N) {v : V} (hv : isnilV (x.val rs) = some v) :
    ∃ u, (execOp a.eval o).run P w = .ok (.value u) w ∧ Inv cx N hb0 T (putR o.dst v rs) h fl g (a.put o.dst u) w := by
  cases gd <;> simp only [trOpL, reduceCtorEq] at htr <;> obtain ⟨r, h1, h2⟩ := bnd_eq_some htr <;> cases h2
  unfold trIsnil at h1
  split at h1
  · rename_i t y c z hop
    split at h1
    · rename_i e ht
      have hu := trArg_sound hi.F.regs h1
      unfold isnilV at hv
      have key : ∃ ad n c b, a.eval y = .slice ad n c ∧ (ad = none → n = 0 ∧ c = 0) ∧ b = ad.isNone ∧ VR g (.bool b) v := by
        split at hv
        · rename_i hx
          cases hv
          rw [hx] at hu
          generalize a.eval y = u at hu
          cases hu with
          | cell q => cases q with
            | nils => exact ⟨_, _, _, _, rfl, (fun _ => ⟨rfl, rfl⟩), rfl, .cell (.bb _)⟩
            | sl0 => exact ⟨_, _, _, _, rfl, (fun e => by cases e), rfl, .cell (.bb _)⟩
            | sl _ _ _ _ _ => exact ⟨_, _, _, _, rfl, (fun e => by cases e), rfl, .cell (.bb _)⟩
        · rename_i p ps hx
          cases hv
          rw [hx] at hu
          generalize a.eval y = u at hu
          cases hu with
          | cell q => cases q with
            | sl _ _ _ _ _ => exact ⟨_, _, _, _, rfl, (fun e => by cases e), rfl, .cell (.bool _)⟩
        · rename_i hx
          cases hv
          rw [hx] at hu
          exact ⟨_, _, _, _, hu.nsl_inv, (fun _ => ⟨rfl, rfl⟩), rfl, .cell (.bool _)⟩
        · rename_i hx
          cases hv
          rw [hx] at hu
          obtain ⟨b, c, _, _, e, _⟩ := hu.msl_inv
          exact ⟨_, _, _, _, e, (fun e => by cases e), rfl, .cell (.bool _)⟩
        · cases hv
      obtain ⟨ad, n, c, b, hy, hn, rfl, hvr⟩ := key
      refine ⟨.bool ad.isNone, ?_, hi.put hd (by simpa only [Ow.step1] using hs) hvr⟩
      unfold execOp
      rw [hop]
      have := isnil_run (P := P) (w := w) ht (x := y) (y := .const (.slice none 0 0)) hn
      rw [← hy] at this
      exact run_v this
    · cases h1
  · cases h1
end
end Go.Vm

/- Lists that are written in place: how an object is taken up, let go, and how a cell's list becomes one and goes back. -/
set_option linter.unusedVariables false
set_option linter.unusedSimpArgs false
namespace Go.Vm

def Gh.addEm (g : Gh) (k : Nat) : Gh := ⟨g.mu, g.imm, g.siz, fun i => decide (i = k) || g.em i⟩
def Gh.addSiz (g : Gh) (b n : Nat) : Gh := ⟨g.mu, g.imm, fun c => if c = b then max (g.siz c) n else g.siz c, g.em⟩
theorem Gh.addEm_le (g : Gh) (k : Nat) : GLe g (g.addEm k) := ⟨fun _ _ h => h, ImmLe.refl _, fun _ => Nat.le_refl _, fun i h => by simp [Gh.addEm, h]⟩
theorem Gh.addSiz_le (g : Gh) (b n : Nat) : GLe g (g.addSiz b n) := ⟨fun _ _ h => h, ImmLe.refl _, fun c => by simp only [Gh.addSiz]; split <;> omega, fun _ h => h⟩
theorem Gh.addSiz_at (g : Gh) (b n : Nat) : n ≤ (g.addSiz b n).siz b := by simp only [Gh.addSiz, if_pos]; omega
theorem ltL_set {n : Nat} : ∀ {cs : List V} {j : Nat} {v : V}, V.ltL n cs = true → v.lt n = true → V.ltL n (cs.set j v) = true
  | [], j, v, h, _ => by simpa using h
  | c :: cs, 0, v, h, hv => by simp only [V.ltL, Bool.and_eq_true, List.set_cons_zero] at h ⊢; exact ⟨hv, h.2⟩
  | c :: cs, j + 1, v, h, hv => by simp only [V.ltL, Bool.and_eq_true, List.set_cons_succ] at h ⊢; exact ⟨h.1, ltL_set h.2 hv⟩
theorem hset_ne {h : Heap} {i j : Nat} {o : Obj} (hne : j ≠ i) : (hset h i o)[j]? = h[j]? := by unfold hset; rw [List.getElem?_set_ne (Ne.symm hne)]
theorem hset_at {h : Heap} {i : Nat} {o : Obj} (hi : i < h.length) : (hset h i o)[i]? = some o := by simp [hset, hi]
theorem lt_of_get {h : Heap} {i : Nat} {o : Obj} (hi : h[i]? = some o) : i < h.length := (List.getElem?_eq_some_iff.1 hi).1

section
variable {P : Program} {R : Nat → Option Nat} {Dt : Prop} {cx : Cx Dt} {N : Nat} {hb0 : Heap} {S T : Ow} {rs : Regs} {h : Heap} {fl fl' : Fl} {g : Gh} {a : Act} {w : World} {o : Oper} {gd vop : VOp}

theorem Inv.kill (hi : Inv cx N hb0 S rs h fl g a w) {k : Nat} (hk : k < h.length) : Inv cx N hb0 S rs (hset h k .dead) fl g a w := by
  obtain ⟨pd, hO, hf⟩ := hi.O
  have held : ∀ p z u, Held S.own pd (hset h k .dead) g a.tmps w p z u → Held S.own pd h g a.tmps w p z u ∧ ∀ i j, p = .cell i j → i ≠ k := fun p z u hp => by
    cases p with
    | reg r off => exact ⟨hp, fun i j e => by cases e⟩
    | cell i j =>
      obtain ⟨cs, own, b, h1, h2⟩ := hp
      have hne : i ≠ k := fun e => by subst e; rw [hset_at hk] at h1; cases h1
      rw [hset_ne hne] at h1
      exact ⟨⟨cs, own, b, h1, h2⟩, fun i' j' e => by cases e; exact hne⟩
  refine ⟨hi.W, hi.G.kill hk, ⟨pd, hO.map (fun p q => p = q ∧ ∀ i j, p = .cell i j → i ≠ k) (fun _ _ _ e1 e2 => e1.1.trans e2.1.symm) (fun p sz u hp => .inr ⟨p, sz, ⟨rfl, (held p sz u hp).2⟩, (held p sz u hp).1, .inl rfl⟩) (fun p q b l e hn => e.1 ▸ hn)
    (fun q sz u b _ _ _ => ⟨⟨rfl, fun _ h => h⟩, fun i hl hm => ⟨(liveAt_dead hk hl).2, hm⟩⟩) (ImmLe.refl _) (fun r off z hm _ => ⟨r, hm, ⟨rfl, fun i j e => by cases e⟩, rfl, rfl⟩) (fun i j z u q hp _ e _ => ?_), hf⟩, hi.F⟩
  obtain ⟨rfl, hne⟩ := e
  exact ⟨i, j, rfl, fun xs ⟨cs, own, h1, h2⟩ => ⟨cs, own, by rw [hset_ne (hne i j rfl)]; exact h1, h2⟩⟩

def NoPl (S : Ow) (h : Heap) (g : Gh) (a : Act) (w : World) (b : Nat) : Prop := ∀ p z u, Held S.own none h g a.tmps w p z u → ownBlk z u ≠ some b
theorem NoPl.live (hi : Inv cx N hb0 S rs h fl g a w) (hpd : S.pd = none) {i b : Nat} (hl : LiveAt h i) (hm : g.mu i = some b) : NoPl S h g a w b := fun p z u hp hb => by
  obtain ⟨hO, _⟩ := hi.own0 hpd
  exact (hO.blk p z u b hp hb).2.1 i hl hm
theorem NoPl.kill {b k : Nat} (hn : NoPl S h g a w b) (hk : k < h.length) : NoPl S (hset h k .dead) g a w b := fun p z u hp => by
  refine hn p z u ?_
  cases p with
  | reg r off => exact hp
  | cell i j =>
    obtain ⟨cs, own, b, h1, h2⟩ := hp
    have hne : i ≠ k := fun e => by subst e; rw [hset_at hk] at h1; cases h1
    rw [hset_ne hne] at h1
    exact ⟨cs, own, b, h1, h2⟩

theorem MemG.adopt (hm : MemG cx hb0 h fl g w) {b : Nat} {o : Obj} (hb : b < w.heap.size) (hmay : cx.may b) (hnew : cx.w0.heap.size ≤ b ∨ fl.all = true) (hlive : ∀ i, LiveAt h i → g.mu i ≠ some b) (himm : ∀ k, g.imm b k = none) (ho : ObjR (g.addMu h.length b) w b o) :
    MemG cx hb0 (h ++ [o]) fl (g.addMu h.length b) w := by
  have hnone := hm.muNone (Nat.le_refl h.length)
  have hle : GLe g (g.addMu h.length b) := Gh.addMu_le hnone
  have old : ∀ i c, (g.addMu h.length b).mu i = some c → (i = h.length ∧ c = b) ∨ (i ≠ h.length ∧ g.mu i = some c) := fun i c hc => by
    simp only [Gh.addMu] at hc
    split at hc
    · cases hc; exact .inl ⟨by assumption, rfl⟩
    · exact .inr ⟨by assumption, hc⟩
  have top : ∀ {i : Nat} {x : Obj}, (h ++ [o])[i]? = some x → (i < h.length ∧ h[i]? = some x) ∨ (i = h.length ∧ x = o) := fun hx => getElem?_push_cases hx
  refine ⟨⟨fun i x hx hl => ?_, hm.hr.imm, fun i c hx hc => ?_, hm.hr.siz⟩, hm.ge.trans hle, hm.immW, hm.fbl, by have := hm.lbh; simp; omega, fun i hi => ?_, fun i c hc => ?_, fun i hi => by have := hm.dome i hi; simp; omega, fun i c hc => ?_, fun i c hi hc => ?_, fun i j c hi hj hci hcj => ?_, fun i c hi hc k => ?_, low_append hm.lbh hm.low⟩
  · rcases top hx with ⟨h1, h2⟩ | ⟨rfl, rfl⟩
    · obtain ⟨c, hc, hob⟩ := hm.hr.obj i x h2 hl
      exact ⟨c, hle.mu i c hc, hob.mono hle rfl⟩
    · exact ⟨b, by simp [Gh.addMu], ho⟩
  · rcases top hx with ⟨h1, h2⟩ | ⟨rfl, e⟩
    · rcases old i c hc with ⟨e, _⟩ | ⟨_, hc⟩
      · omega
      · exact (hm.hr.emp i c h2 hc).mono hle rfl
    · rcases old _ c hc with ⟨_, rfl⟩ | ⟨e', _⟩
      · subst e; exact ho
      · exact absurd rfl e'
  · have h1 := hm.fbl; have h2 := hm.lbh
    have hne : i ≠ h.length := by omega
    simp only [Gh.addMu, hne, if_false]
    exact hm.muOld i hi
  · rcases old i c hc with ⟨rfl, _⟩ | ⟨_, hc⟩
    · simp
    · have := hm.dom i c hc; simp; omega
  · rcases old i c hc with ⟨rfl, rfl⟩ | ⟨hne, hc⟩
    · exact ⟨hb, fun _ => hmay⟩
    · obtain ⟨h1, h2⟩ := hm.muW i c hc
      refine ⟨h1, fun hl => h2 ?_⟩
      rcases liveAt_append hl with hl | hl
      · exact hl
      · exact absurd hl hne
  · rcases old i c hc with ⟨rfl, rfl⟩ | ⟨hne, hc⟩
    · exact hnew
    · exact hm.new i c hi hc
  · rcases old i c hci with ⟨e1, e2⟩ | ⟨hne, hci2⟩ <;> rcases old j c hcj with ⟨e3, e4⟩ | ⟨hne', hcj2⟩
    · omega
    · subst e2
      rcases liveAt_append hj with hl | hl
      · exact absurd hcj2 (hlive j hl)
      · exact absurd hl hne'
    · subst e4
      rcases liveAt_append hi with hl | hl
      · exact absurd hci2 (hlive i hl)
      · exact absurd hl hne
    · rcases liveAt_append hi with hl | hl
      · rcases liveAt_append hj with hl' | hl'
        · exact hm.inj i j c hl hl' hci2 hcj2
        · exact absurd hl' hne'
      · exact absurd hl hne
  · rcases old i c hc with ⟨_, rfl⟩ | ⟨hne, hc⟩
    · exact himm k
    · rcases liveAt_append hi with hl | hl
      · exact hm.muimm i c hl hc k
      · exact absurd hl hne
theorem Inv.adopt (hi : Inv cx N hb0 S rs h fl g a w) (hpd : S.pd = none) {b : Nat} {o : Obj} (hb : b < w.heap.size) (hmay : cx.may b) (hnew : cx.w0.heap.size ≤ b ∨ fl.all = true) (hlive : ∀ i, LiveAt h i → g.mu i ≠ some b) (himm : ∀ k, g.imm b k = none) (hno : NoPl S h g a w b)
    (ho : ObjR (g.addMu h.length b) w b o) (hoo : ∀ cs own, o = .cells cs own → own = []) : Inv cx N hb0 S rs (h ++ [o]) fl (g.addMu h.length b) a w := by
  obtain ⟨hO, hf⟩ := hi.own0 hpd
  have hnone := hi.G.muNone (Nat.le_refl h.length)
  have hle : GLe g (g.addMu h.length b) := Gh.addMu_le hnone
  have held : ∀ p z u, Held S.own none (h ++ [o]) (g.addMu h.length b) a.tmps w p z u → Held S.own none h g a.tmps w p z u ∧ ∀ i j, p = .cell i j → i < h.length := fun p z u hp => by
    cases p with
    | reg r off => exact ⟨hp, fun i j e => by cases e⟩
    | cell i j =>
      obtain ⟨cs, own, c, h1, h2, h3, h4, h5⟩ := hp
      rcases getElem?_push_cases h1 with ⟨hlt, h1⟩ | ⟨_, e⟩
      · have hne : i ≠ h.length := by omega
        simp only [Gh.addMu, hne, if_false] at h4
        exact ⟨⟨cs, own, c, h1, h2, h3, h4, h5⟩, fun i' j' e => by cases e; exact hlt⟩
      · have := hoo cs own e.symm
        subst this
        simp at h2
  refine ⟨hi.W, hi.G.adopt hb hmay hnew hlive himm ho, ⟨none, hO.map (fun p q => p = q) (fun _ _ _ e1 e2 => e1.trans e2.symm) (fun p sz u hp => .inr ⟨p, sz, rfl, (held p sz u hp).1, .inl rfl⟩) (fun p q b l e hn => e ▸ hn)
    (fun q sz u c hq _ hc => ⟨⟨rfl, fun _ h => h⟩, fun i hl hm => ?_⟩) (ImmLe.refl _) (fun r off z hm _ => ⟨r, hm, rfl, rfl, rfl⟩) (fun i j z u q hp _ e _ => ?_), hf⟩, hi.F.mono hle⟩
  · simp only [Gh.addMu] at hm
    split at hm
    · cases hm; exact absurd hc (hno q sz u hq)
    · rename_i hne
      rcases liveAt_append hl with hl | hl
      · exact ⟨hl, hm⟩
      · exact absurd hl hne
  · cases e
    refine ⟨i, j, rfl, fun xs ⟨cs, own, h1, h2⟩ => ⟨cs, own, ?_, h2⟩⟩
    rw [List.getElem?_append_left (lt_of_get h1)]; exact h1

theorem Inv.pushEmp (hi : Inv cx N hb0 S rs h fl g a w) : Inv cx N hb0 S rs (h ++ [.emp]) fl (g.addEm h.length) a w := by
  obtain ⟨pd, hO, hf⟩ := hi.O
  have hm := hi.G
  have hle := Gh.addEm_le g h.length
  have hnone := hm.muNone (Nat.le_refl h.length)
  have live : ∀ i b, LiveAt (h ++ [.emp]) i → g.mu i = some b → LiveAt h i := fun i b hl hb => by
    rcases liveAt_append hl with hl | hl
    · exact hl
    · subst hl; rw [hnone] at hb; cases hb
  have held : ∀ p z u, Held S.own pd (h ++ [.emp]) (g.addEm h.length) a.tmps w p z u → Held S.own pd h g a.tmps w p z u := fun p z u hp => by
    cases p with
    | reg r off => exact hp
    | cell i j =>
      obtain ⟨cs, own, c, h1, h2⟩ := hp
      rcases getElem?_push_cases h1 with ⟨_, h1⟩ | ⟨_, e⟩
      · exact ⟨cs, own, c, h1, h2⟩
      · cases e
  refine ⟨hi.W, ⟨⟨fun i x hx hl => ?_, hm.hr.imm, fun i b hx hb => ?_, hm.hr.siz⟩, hm.ge.trans hle, hm.immW, hm.fbl, by have := hm.lbh; simp; omega, hm.muOld, fun i b hb => by have := hm.dom i b hb; simp; omega, fun i hi' => ?_, fun i b hb => ⟨(hm.muW i b hb).1, fun hl => (hm.muW i b hb).2 (live i b hl hb)⟩, hm.new, fun i j b hi' hj hb hb' => hm.inj i j b (live i b hi' hb) (live j b hj hb') hb hb', fun i b hi' hb => hm.muimm i b (live i b hi' hb) hb, low_append hm.lbh hm.low⟩,
    ⟨pd, hO.map (fun p q => p = q) (fun _ _ _ e1 e2 => e1.trans e2.symm) (fun p sz u hp => .inr ⟨p, sz, rfl, held p sz u hp, .inl rfl⟩) (fun p q b l e hn => e ▸ hn) (fun q sz u c hq _ hc => ⟨⟨rfl, fun _ h => h⟩, fun i hl hm => ⟨live i c hl hm, hm⟩⟩) (ImmLe.refl _) (fun r off z hm _ => ⟨r, hm, rfl, rfl, rfl⟩) (fun i j z u q hp _ e _ => by
      cases e
      refine ⟨i, j, rfl, fun xs ⟨cs, own, h1, h2⟩ => ⟨cs, own, ?_, h2⟩⟩
      rw [List.getElem?_append_left (lt_of_get h1)]; exact h1), hf⟩, hi.F.mono hle⟩
  · rcases getElem?_push_cases hx with ⟨_, h2⟩ | ⟨_, rfl⟩
    · obtain ⟨c, hc, hob⟩ := hm.hr.obj i x h2 hl
      exact ⟨c, hc, hob.mono hle rfl⟩
    · cases hl
  · rcases getElem?_push_cases hx with ⟨_, h2⟩ | ⟨rfl, _⟩
    · exact hm.hr.emp i b h2 hb
    · have hb : g.mu h.length = some b := hb
      rw [hnone] at hb; cases hb
  · simp only [Gh.addEm, Bool.or_eq_true, decide_eq_true_eq] at hi'
    rcases hi' with rfl | hi'
    · simp
    · have := hm.dome i hi'; simp; omega

theorem Inv.addSiz (hi : Inv cx N hb0 S rs h fl g a w) {b n : Nat} {us : Array Value} {t : TypeId} {fr : Nat × Nat} (hb : w.heap[b]? = some (.cells us t fr)) (hn : n ≤ us.size) : Inv cx N hb0 S rs h fl (g.addSiz b n) a w := by
  obtain ⟨pd, hO, hf⟩ := hi.O
  have hm := hi.G
  have hle := Gh.addSiz_le g b n
  refine ⟨hi.W, ⟨⟨fun i x hx hl => ?_, hm.hr.imm, hm.hr.emp, fun c hc => ?_⟩, hm.ge.trans hle, hm.immW, hm.fbl, hm.lbh, hm.muOld, hm.dom, hm.dome, hm.muW, hm.new, hm.inj, hm.muimm, hm.low⟩, ⟨pd, ⟨hO.own, hO.blk, hO.dis, hO.cont, hO.contc⟩, hf⟩, hi.F.mono hle⟩
  · obtain ⟨c, hc, hob⟩ := hm.hr.obj i x hx hl
    exact ⟨c, hc, hob.mono hle rfl⟩
  · simp only [Gh.addSiz] at hc ⊢
    split at hc
    · rename_i e
      subst e
      rw [if_pos rfl]
      by_cases h0 : 0 < g.siz c
      · obtain ⟨us', t', fr', h1, h2⟩ := hm.hr.siz c h0
        rw [hb] at h1
        cases h1
        exact ⟨us, t, fr, hb, by omega⟩
      · exact ⟨us, t, fr, hb, by omega⟩
    · rename_i e
      rw [if_neg e]
      exact hm.hr.siz c hc

theorem Inv.addImm (hi : Inv cx N hb0 S rs h fl g a w) (hpd : S.pd = none) {b lo : Nat} (hmay : cx.may b) (hnot : ∀ i, LiveAt h i → g.mu i ≠ some b) (hno : NoPl S h g a w b) {us : List Value} (himm : ∀ k, lo ≤ k → k < lo + us.length → g.imm b k = none) (hus : ∀ (j : Nat) (u : Value), us[j]? = some u → w.cell? ⟨b, lo + j, none⟩ = some u) :
    Inv cx N hb0 S rs h fl (g.addImm b lo us) a w := by
  obtain ⟨hO, hf⟩ := hi.own0 hpd
  have hle : GLe g (g.addImm b lo us) := Gh.addImm_le himm
  refine ⟨hi.W, hi.G.addImm hmay hnot himm hus, ⟨none, hO.map (fun p q => p = q) (fun _ _ _ e1 e2 => e1.trans e2.symm) (fun p sz u hp => .inr ⟨p, sz, rfl, hp, .inl rfl⟩) (fun p q b l e hn => e ▸ hn) (fun q sz u c hq _ hc => ⟨⟨rfl, fun k hk => ?_⟩, fun i hl hm => ⟨hl, hm⟩⟩) hle.imm, hf⟩, hi.F.mono hle⟩
  rw [Gh.addImm_other (fun e => by subst e; exact hno q sz u hq hc)]; exact hk

theorem Inv.rowW (hi : Inv cx N hb0 S rs h fl g a w) (hpd : S.pd = none) (hla : S.la = []) {b : Nat} (hmay : cx.may b) (hwr : cx.w0.heap.size ≤ b ∨ cx.wrOk fl b) (hnot : ∀ i, LiveAt h i → g.mu i ≠ some b) (hno : NoPl S h g a w b) (himm : ∀ k, g.imm b k = none) {w' : World} (hw : w.grownBy w' (some b)) (hk : ∀ c, Keeps w w' c) (hd : w.drawn ≤ w'.drawn) :
    Inv cx N hb0 S rs h fl g a w' := by
  obtain ⟨hO, hf⟩ := hi.own0 hpd
  refine ⟨hi.W.step hw (fun c e => by cases e; exact ⟨hmay, hwr⟩) (fun _ h => h) hd, hi.G.other hw (fun c e => by cases e; exact ⟨hnot, himm⟩) hk, ⟨none, hO.map (fun p q => p = q) (fun _ _ _ e1 e2 => e1.trans e2.symm) (fun p sz u hp => .inr ⟨p, sz, rfl, ?_, .inl rfl⟩) (fun p q b l e hn => e ▸ hn) (fun q sz u c hq _ hc => ⟨⟨?_, fun _ h => h⟩, fun i hl hm => ⟨hl, hm⟩⟩) (ImmLe.refl _), ⟨hf.al, fun t p hm => by rw [hla] at hm; simp at hm, hf.pd⟩⟩, hi.F⟩
  · cases p with
    | reg r off => exact hp
    | cell i j =>
      obtain ⟨cs, own, c, h1, h2, h3, h4, h5⟩ := hp
      refine ⟨cs, own, c, h1, h2, h3, h4, ?_⟩
      rw [← cell_same (hw.block c (hi.G.muW i c h4).1 fun e => hnot i ⟨_, h1, rfl⟩ (by cases e; exact h4))]
      exact h5
  · exact hw.block c ((hO.own q sz u hq).lt hc) fun e => hno q sz u hq (by cases e; exact hc)

theorem Inv.setV (hi : Inv cx N hb0 S rs h fl g a w) (hpd : S.pd = none) {i j b : Nat} {cs : List V} {own : List (Nat × Nat)} (hc : h[i]? = some (.cells cs own)) (hmu : g.mu i = some b) {u : Value} (hu : w.cell? ⟨b, j, none⟩ = some u) {v : V} (hv : VR g u v) (hcell : v.isCell = true)
    (hj : ∀ z, (j, z) ∉ own) (hesc : ∀ x, x ∈ fl.esc → x ∈ fl'.esc) (hwr : ∀ x, x ∈ fl.wr → x ∈ fl'.wr) (hal : fl.all = true → fl'.all = true) (hlow : i ∈ fl'.esc ∨ v.lt 0 = true) : Inv cx N hb0 S rs (hset h i (.cells (cs.set j v) own)) fl' g a w := by
  obtain ⟨hO, hf⟩ := hi.own0 hpd
  have hl : LiveAt h i := ⟨_, hc, rfl⟩
  have hlt := lt_of_get hc
  have hfw : ∀ b, cx.wrOk fl b → cx.wrOk fl' b := fun b hb => hb.imp hal fun ⟨i, h1, h2⟩ => ⟨i, hwr i h1, h2⟩
  obtain ⟨b', hb', us, t, l, r, h1, h2, h3, h4⟩ := hi.G.hr.obj i _ hc rfl
  rw [hmu] at hb'
  cases hb'
  have held : ∀ p z x, Held S.own none (hset h i (.cells (cs.set j v) own)) g a.tmps w p z x → Held S.own none h g a.tmps w p z x := fun p z x hp => by
    cases p with
    | reg r off => exact hp
    | cell i' j' =>
      obtain ⟨cs', own', c, g1, g2⟩ := hp
      by_cases e : i' = i
      · subst e
        rw [hset_at hlt] at g1
        cases g1
        exact ⟨cs, own, c, hc, g2⟩
      · rw [hset_ne e] at g1
        exact ⟨cs', own', c, g1, g2⟩
  refine ⟨hi.W.fl' hfw, hi.G.set hl hmu (Nat.le_refl _) (fun _ _ _ => rfl) (Keeps.same rfl) ⟨us, t, l, r, h1, h2, h3.setAt j v fun x hx => ?_, all_set h4 hcell⟩ hesc hal (hlow.imp id fun hv0 _ ox hox m hm => ?_), ⟨none, hO.map (fun p q => p = q) (fun _ _ _ e1 e2 => e1.trans e2.symm) (fun p sz u hp => .inr ⟨p, sz, rfl, held p sz u hp, .inl rfl⟩) (fun p q b l e hn => e ▸ hn)
    (fun q sz u c hq _ hc => ⟨⟨rfl, fun _ h => h⟩, fun k hl' hm => ⟨liveAt_set hl' hl, hm⟩⟩) (ImmLe.refl _) (fun r off z hm _ => ⟨r, hm, rfl, rfl, rfl⟩) (fun i' j' z x q hp _ e hq => ?_), hf⟩, hi.F⟩
  · have := pre_get h2 hx
    rw [cell_of_heap h1, this] at hu
    cases hu
    exact hv
  · rw [hc] at hox
    cases hox
    exact ltL_set hm (V.lt_mono (Nat.zero_le _) v hv0)
  · cases e
    refine ⟨i', j', rfl, fun xs ⟨cs', own', g1, g2⟩ => ?_⟩
    by_cases e : i' = i
    · subst e
      rw [hc] at g1
      cases g1
      have hne : j' ≠ j := fun e => by
        subst e
        obtain ⟨cs', own', c, g3, g4, _⟩ := hq
        rw [hc] at g3
        cases g3
        exact hj z g4
      exact ⟨_, _, hset_at hlt, by rw [List.getElem?_set_ne (Ne.symm hne)]; exact g2⟩
    · exact ⟨cs', own', by rw [hset_ne e]; exact g1, g2⟩

theorem Inv.dropCell (hi : Inv cx N hb0 S rs h fl g a w) (hpd : S.pd = none) {i b : Nat} {cs : List V} {own own' : List (Nat × Nat)} (hc : h[i]? = some (.cells cs own)) (hmu : g.mu i = some b) (hsub : ∀ x, x ∈ own' → x ∈ own) : Inv cx N hb0 S rs (hset h i (.cells cs own')) fl g a w := by
  obtain ⟨hO, hf⟩ := hi.own0 hpd
  have hl : LiveAt h i := ⟨_, hc, rfl⟩
  have hlt := lt_of_get hc
  obtain ⟨b', hb', us, t, l, r, h1, h2, h3, h4⟩ := hi.G.hr.obj i _ hc rfl
  rw [hmu] at hb'
  cases hb'
  have held : ∀ p z x, Held S.own none (hset h i (.cells cs own')) g a.tmps w p z x → Held S.own none h g a.tmps w p z x := fun p z x hp => by
    cases p with
    | reg r off => exact hp
    | cell i' j' =>
      obtain ⟨cs', own2, c, g1, g2, g3⟩ := hp
      by_cases e : i' = i
      · subst e
        rw [hset_at hlt] at g1
        cases g1
        exact ⟨cs, own, c, hc, hsub _ g2, g3⟩
      · rw [hset_ne e] at g1
        exact ⟨cs', own2, c, g1, g2, g3⟩
  refine ⟨hi.W, hi.G.set hl hmu (Nat.le_refl _) (fun _ _ _ => rfl) (Keeps.same rfl) ⟨us, t, l, r, h1, h2, h3, h4⟩ (fun _ h => h) id (.inr fun _ ox hox m hm => ?_), ⟨none, hO.map (fun p q => p = q) (fun _ _ _ e1 e2 => e1.trans e2.symm) (fun p sz u hp => .inr ⟨p, sz, rfl, held p sz u hp, .inl rfl⟩) (fun p q b l e hn => e ▸ hn)
    (fun q sz u c hq _ hc => ⟨⟨rfl, fun _ h => h⟩, fun k hl' hm => ⟨liveAt_set hl' hl, hm⟩⟩) (ImmLe.refl _) (fun r off z hm _ => ⟨r, hm, rfl, rfl, rfl⟩) (fun i' j' z x q hp _ e hq => ?_), hf⟩, hi.F⟩
  · rw [hc] at hox
    cases hox
    exact hm
  · cases e
    refine ⟨i', j', rfl, fun xs ⟨cs', own2, g1, g2⟩ => ?_⟩
    by_cases e : i' = i
    · subst e
      rw [hc] at g1
      cases g1
      exact ⟨_, _, hset_at hlt, g2⟩
    · exact ⟨cs', own2, by rw [hset_ne e]; exact g1, g2⟩

theorem Inv.giveCell (hi : Inv cx N hb0 S rs h fl g a w) (hpd : S.pd = none) {i j b sz : Nat} {cs xs : List V} {own : List (Nat × Nat)} (hc : h[i]? = some (.cells cs own)) (hx : cs[j]? = some (.own xs)) (hmu : g.mu i = some b) {u : Value} (hu : w.cell? ⟨b, j, none⟩ = some u)
    (hj : ∀ z, (j, z) ∉ own) (hlin : LinR w g.imm sz u) (hcont : LinC g.imm w sz xs u) (hblk : ∀ c, ownBlk (sz + 1000000) u = some c → cx.may c ∧ (∀ k, LiveAt h k → g.mu k ≠ some c) ∧ NoPl S h g a w c) : Inv cx N hb0 S rs (hset h i (.cells cs ((j, sz + 1000000) :: own))) fl g a w := by
  obtain ⟨hO, hf⟩ := hi.own0 hpd
  have hl : LiveAt h i := ⟨_, hc, rfl⟩
  have hlt := lt_of_get hc
  obtain ⟨b', hb', us, t, l, r, h1, h2, h3, h4⟩ := hi.G.hr.obj i _ hc rfl
  rw [hmu] at hb'
  cases hb'
  have split : ∀ p z x, Held S.own none (hset h i (.cells cs ((j, sz + 1000000) :: own))) g a.tmps w p z x → Held S.own none h g a.tmps w p z x ∨ (p = .cell i j ∧ z = sz + 1000000 ∧ x = u) := fun p z x hp => by
    cases p with
    | reg r off => exact .inl hp
    | cell i' j' =>
      obtain ⟨cs', own2, c, g1, g2, g3, g4, g5⟩ := hp
      by_cases e : i' = i
      · subst e
        rw [hset_at hlt] at g1
        cases g1
        rcases List.mem_cons.1 g2 with e | g2
        · cases e
          rw [hmu] at g4
          cases g4
          rw [hu] at g5
          cases g5
          exact .inr ⟨rfl, rfl, rfl⟩
        · exact .inl ⟨cs, own, c, hc, g2, g3, g4, g5⟩
      · rw [hset_ne e] at g1
        exact .inl ⟨cs', own2, c, g1, g2, g3, g4, g5⟩
  have old : ∀ z x, ¬ Held S.own none h g a.tmps w (.cell i j) z x := fun z x hp => by
    obtain ⟨cs', own2, c, g1, g2, _⟩ := hp
    rw [hc] at g1
    cases g1
    exact hj _ g2
  have pl : ∀ i' j' ys, PlIs h i' j' ys → PlIs (hset h i (.cells cs ((j, sz + 1000000) :: own))) i' j' ys := fun i' j' ys ⟨cs', own2, g1, g2⟩ => by
    by_cases e : i' = i
    · subst e
      rw [hc] at g1
      cases g1
      exact ⟨_, _, hset_at hlt, g2⟩
    · exact ⟨cs', own2, by rw [hset_ne e]; exact g1, g2⟩
  have live : ∀ k, LiveAt (hset h i (.cells cs ((j, sz + 1000000) :: own))) k → LiveAt h k := fun k hk => liveAt_set hk hl
  refine ⟨hi.W, hi.G.set hl hmu (Nat.le_refl _) (fun _ _ _ => rfl) (Keeps.same rfl) ⟨us, t, l, r, h1, h2, h3, h4⟩ (fun _ h => h) id (.inr fun _ ox hox m hm => ?_), ⟨none, ⟨fun p z x hp => ?_, fun p z x c hp hb => ?_, fun p q z z' x x' c hp hq hb hb' => ?_, hO.cont, fun i' j' z x hp hz => ?_⟩, hf⟩, hi.F⟩
  · rw [hc] at hox
    cases hox
    exact hm
  · rcases split p z x hp with hp | ⟨_, rfl, rfl⟩
    · exact hO.own p z x hp
    · exact .inl ⟨isLin_add sz, by rw [Nat.add_sub_cancel]; exact hlin⟩
  · rcases split p z x hp with hp | ⟨rfl, rfl, rfl⟩
    · obtain ⟨f1, f2, f3⟩ := hO.blk p z x c hp hb
      exact ⟨f1, fun k hk => f2 k (live k hk), f3⟩
    · obtain ⟨f1, f2, _⟩ := hblk c hb
      exact ⟨f1, fun k hk => f2 k (live k hk), fun _ => .inl (isLin_add sz)⟩
  · rcases split p z x hp with hp | ⟨rfl, rfl, rfl⟩ <;> rcases split q z' x' hq with hq | ⟨rfl, rfl, rfl⟩
    · exact hO.dis p q z z' x x' c hp hq hb hb'
    · exact absurd hb ((hblk c hb').2.2 p z x hp)
    · exact absurd hb' ((hblk c hb).2.2 q z' x' hq)
    · rfl
  · rcases split _ z x hp with hp | ⟨e, rfl, rfl⟩
    · obtain ⟨ys, f1, f2⟩ := hO.contc i' j' z x hp hz
      exact ⟨ys, pl _ _ _ f1, f2⟩
    · cases e
      exact ⟨xs, pl _ _ _ ⟨cs, own, hc, hx⟩, by rw [Nat.add_sub_cancel]; exact hcont⟩
end
end Go.Vm

/- Operations on lists that are written in place; what the program does not say: such a list taken up, let go, given to a cell. -/
set_option linter.unusedVariables false
set_option linter.unusedSimpArgs false
namespace Go.Vm

section
variable {P : Program} {R : Nat → Option Nat} {Dt : Prop} {cx : Cx Dt} {N : Nat} {hb0 : Heap} {S T : Ow} {rs : Regs} {h : Heap} {fl fl' : Fl} {g : Gh} {a : Act} {w : World} {o : Oper} {gd vop : VOp}

theorem Inv.drew (hi : Inv cx N hb0 S rs h fl g a w) : Inv cx N hb0 S rs h fl g a w.drew := by
  obtain ⟨pd, hO, hf⟩ := hi.O
  exact ⟨hi.W.drew, hi.G.drew, ⟨pd, ⟨hO.own, hO.blk, hO.dis, hO.cont, hO.contc⟩, ⟨hf.al, hf.la, hf.pd⟩⟩, hi.F⟩
theorem Inv.flag (hi : Inv cx N hb0 S rs h fl g a w) (he : fl'.esc = fl.esc) (hw : ∀ b, cx.wrOk fl b → cx.wrOk fl' b) (ha : fl.all = true → fl'.all = true) : Inv cx N hb0 S rs h fl' g a w :=
  ⟨hi.W.fl' hw, hi.G.fl' he ha, hi.O, hi.F⟩
theorem Inv.setReg (hi : Inv cx N hb0 S rs h fl g a w) (hpd : S.pd = none) {p : Nat} (hp : ∀ x, x ∈ S.own → x.1 ≠ p) {v : V} (hv : VR g (a.tmps.getD p Go.undef) v) : Inv cx N hb0 S (putR (some p) v rs) h fl g a w := by
  obtain ⟨hO, hf⟩ := hi.own0 hpd
  refine ⟨hi.W, hi.G, ⟨none, ⟨hO.own, hO.blk, hO.dis, fun r off z hm hz => ?_, hO.contc⟩, ⟨hf.al, hf.la, .inl ⟨hpd, rfl⟩⟩⟩, ⟨hi.F.size, hi.F.nodef, fun r => ?_⟩⟩
  · obtain ⟨h0, xs, h1, h2⟩ := hO.cont r off z hm hz
    exact ⟨h0, xs, by rw [get_put (fun d e => by cases e; exact hp _ hm)]; exact h1, h2⟩
  · by_cases e : r = p
    · subst e; simpa [putR, get] using hv
    · have := hi.F.regs r
      simpa only [putR, get, e, decide_false, cnd_false] using this

theorem mread (hi : HRead g h w) {v : V} {u : Value} (hv : VR g u v) {cs : List V} {n : Nat} (hm : mcells h v = some (cs, n)) {size : Nat} (hs : msizeA size v = true) :
    ∃ us, Reads w u n us ∧ us.length = n * size ∧ VRs g us cs ∧ cs.all V.isCell = true := by
  cases v with
  | nsl => cases hm; exact ⟨[], .inl ⟨hv.nsl_inv, rfl, rfl⟩, by simp, .nil, rfl⟩
  | eml k z =>
    simp only [mcells] at hm
    split at hm
    · cases hm
      obtain ⟨ad, c, rfl, h1⟩ := hv.eml_inv
      rcases h1 with ⟨_, rfl, rfl⟩ | ⟨b, rfl, _⟩
      · exact ⟨[], .inl ⟨rfl, rfl, rfl⟩, by simp, .nil, rfl⟩
      · exact ⟨[], .inr (.inl ⟨_, _, rfl, rfl, rfl⟩), by simp, .nil, rfl⟩
    · cases hm
  | msl k o m z =>
    simp only [mcells] at hm
    split at hm
    · rename_i cs' hh
      obtain ⟨hle, hm⟩ := cnd_eq_some hm
      cases hm
      obtain ⟨b, c, hb, hn, rfl, _⟩ := hv.msl_inv
      obtain ⟨b', hb', us, t, l, r, h1, h2, h3, h4⟩ := hi.obj k _ hh rfl
      rw [hb] at hb'; cases hb'
      have hle := of_decide_eq_true hle
      simp only [msizeA, decide_eq_true_eq] at hs
      subst hs
      have hlen := h3.length
      refine ⟨(l.drop o).take (n * z), .inr (.inr ⟨b, o, c, rfl, hn, fun j u hu => ?_⟩), ?_, (h3.drop o).take _, ?_⟩
      · rw [cell_of_heap h1]
        rw [List.getElem?_take] at hu
        split at hu
        · rw [List.getElem?_drop] at hu; exact pre_get h2 hu
        · cases hu
      · simp only [List.length_take, List.length_drop]; omega
      · simp only [List.all_eq_true] at h4 ⊢
        exact fun x hx => h4 x (List.mem_of_mem_drop (List.mem_of_mem_take hx))
    · cases hm
  | _ => cases hm
theorem mcells_obj {v : V} {cs : List V} {n : Nat} (hm : mcells h v = some (cs, n)) : (v = .nsl ∧ n = 0 ∧ cs = []) ∨ (misnil v = false ∧ mkill h v = hset h (mobj v) .dead ∧ mobj v < h.length ∧ LiveAt h (mobj v)) := by
  cases v with
  | nsl => cases hm; exact .inl ⟨rfl, rfl, rfl⟩
  | eml k z =>
    simp only [mcells] at hm
    split at hm
    · rename_i hh
      exact .inr ⟨rfl, rfl, (List.getElem?_eq_some_iff.1 hh).1, _, hh, rfl⟩
    · cases hm
  | msl k o m z =>
    simp only [mcells] at hm
    split at hm
    · rename_i cs' hh
      exact .inr ⟨rfl, rfl, (List.getElem?_eq_some_iff.1 hh).1, _, hh, rfl⟩
    · cases hm
  | _ => cases hm
theorem mown (hi : HRead g h w) {v : V} {u : Value} (hv : VR g u v) {cs : List V} {n : Nat} (hm : mcells h v = some (cs, n)) {size : Nat} (hs : msizeA size v = true) :
    ∃ ad cap, u = .slice ad n cap ∧ n ≤ cap ∧ ((ad = none ∧ n = 0 ∧ cap = 0) ∨ ∃ b lo, ad = some ⟨b, lo, none⟩ ∧ misnil v = false ∧ g.mu (mobj v) = some b ∧ (msize size v = true → ∃ cur t, lo = 0 ∧ w.heap[b]? = some (.cells cur t (0, 0)) ∧ cap * size ≤ cur.size ∧ VRs g (cur.toList.take (n * size)) cs)) := by
  cases v with
  | nsl => cases hm; exact ⟨_, _, hv.nsl_inv, Nat.le_refl _, .inl ⟨rfl, rfl, rfl⟩⟩
  | eml k z =>
    simp only [mcells] at hm
    split at hm
    · rename_i hh
      cases hm
      obtain ⟨ad, c, rfl, h1⟩ := hv.eml_inv
      refine ⟨_, _, rfl, Nat.zero_le _, ?_⟩
      rcases h1 with ⟨_, rfl, rfl⟩ | ⟨b, rfl, hb, hc⟩
      · exact .inl ⟨rfl, rfl, rfl⟩
      · obtain ⟨cur, t, hheap⟩ := hi.emp k b hh hb
        refine .inr ⟨b, 0, rfl, rfl, hb, fun _ => ⟨cur, t, rfl, hheap, ?_, by simpa using VRs.nil⟩⟩
        simp only [msizeA, decide_eq_true_eq] at hs
        subst hs
        by_cases h0 : 0 < g.siz b
        · obtain ⟨us, t', fr, h2, h3⟩ := hi.siz b h0
          rw [hheap] at h2; cases h2
          omega
        · omega
    · cases hm
  | msl k o m z =>
    simp only [mcells] at hm
    split at hm
    · rename_i cs' hh
      obtain ⟨hle, hm⟩ := cnd_eq_some hm
      cases hm
      obtain ⟨b, c, hb, hn, rfl, hc⟩ := hv.msl_inv
      refine ⟨_, _, rfl, hn, .inr ⟨b, o, rfl, rfl, hb, fun hz => ?_⟩⟩
      simp only [msize, Bool.and_eq_true, decide_eq_true_eq] at hz
      obtain ⟨rfl, rfl⟩ := hz
      obtain ⟨b', hb', us, t, l, r, h1, h2, h3, h4⟩ := hi.obj k _ hh rfl
      rw [hb] at hb'; cases hb'
      have hle := of_decide_eq_true hle
      have hlen := h3.length
      refine ⟨us, t, rfl, h1, ?_, ?_⟩
      · by_cases h0 : 0 < g.siz b
        · obtain ⟨us', t', fr, h2, h3⟩ := hi.siz b h0
          rw [h1] at h2; cases h2
          omega
        · omega
      · rw [h2, List.take_append_of_le_length (by omega)]
        simpa using h3.take _
    · cases hm
  | _ => cases hm
theorem msize_A {size : Nat} {v : V} (h : msize size v = true) : msizeA size v = true := by
  cases v <;> simp only [msize, msizeA, Bool.and_eq_true, Bool.false_eq_true] at h ⊢ <;> first | exact h.2 | exact h
theorem chunks_flat {agg : Bool} {z : Nat} (hz : 0 < z) (ha : agg = true ∨ z = 1) : ∀ (n : Nat) (cs : List V), cs.all V.pureCell = true → cs.length = n * z →
    (chunks agg z n cs).flatMap V.flat = cs ∧ (chunks agg z n cs).length = n ∧ ∀ x ∈ chunks agg z n cs, x.flat.length = z
  | 0, cs, _, hl => by
    have : cs = [] := List.length_eq_zero_iff.1 (by simpa using hl)
    subst this
    exact ⟨rfl, rfl, fun x hx => by simp [chunks] at hx⟩
  | n + 1, cs, hp, hl => by
    have hl' : (cs.drop z).length = n * z := by rw [List.length_drop, hl, Nat.add_mul]; omega
    have hp' : (cs.drop z).all V.pureCell = true := by
      simp only [List.all_eq_true] at hp ⊢
      exact fun x hx => hp x (List.mem_of_mem_drop hx)
    obtain ⟨i1, i2, i3⟩ := chunks_flat hz ha n (cs.drop z) hp' hl'
    have hge : z ≤ cs.length := by rw [hl, Nat.add_mul]; omega
    have key : (cnd agg (V.agg (cs.take z)) (cs.headD .top)).flat = cs.take z := by
      cases agg with
      | true => rfl
      | false =>
        have : z = 1 := by simpa using ha
        subst this
        cases cs with
        | nil => simp at hge
        | cons c cs =>
          simp only [List.all_cons, Bool.and_eq_true] at hp
          have := hp.1
          simp only [cnd_false, List.headD_cons]
          cases c <;> first | rfl | cases this
    refine ⟨?_, by simp [chunks, i2], fun x hx => ?_⟩
    · simp only [chunks, List.flatMap_cons, key, i1, List.take_append_drop]
    · simp only [chunks, List.mem_cons] at hx
      rcases hx with rfl | hx
      · rw [key, List.length_take]; omega
      · exact i3 x hx
theorem pureL_inv (hi : HRead g h w) {v : V} {u : Value} (hv : VR g u v) {size : Nat} {agg : Bool} {xs : List V} (hp : pureL size agg h v = some xs) :
    0 < size ∧ msizeA size v = true ∧ ∃ cs n us, mcells h v = some (cs, n) ∧ Reads w u n us ∧ CRs g.imm us (xs.flatMap V.flat) ∧ xs.length = n ∧ ∀ x ∈ xs, x.flat.length = size := by
  unfold pureL at hp
  obtain ⟨⟨cs, n⟩, hm, hp⟩ := bnd_eq_some hp
  obtain ⟨hc, hp⟩ := cnd_eq_some hp
  cases hp
  simp only [Bool.and_eq_true, Bool.or_eq_true, decide_eq_true_eq] at hc
  obtain ⟨⟨h1, h2⟩, h3, h4⟩ := hc
  obtain ⟨us, hr, hl, hus, hall⟩ := mread hi hv hm h3
  obtain ⟨c1, c2, c3⟩ := chunks_flat h4 h2 n cs h1 (by rw [← hus.length]; exact hl)
  refine ⟨h4, h3, cs, n, us, hm, hr, ?_, c2, c3⟩
  rw [c1]
  exact hus.pureCells h1
theorem pre_of_get {us : List Value} {cur : Array Value} (h : ∀ (j : Nat) (x : Value), us[j]? = some x → cur[j]? = some x) : cur.toList = us ++ cur.toList.drop us.length := by
  have : us = cur.toList.take us.length := by
    apply List.ext_getElem?
    intro j
    rw [List.getElem?_take]
    split
    · rename_i hj
      have := h j _ (List.getElem?_eq_getElem hj)
      rw [List.getElem?_eq_getElem hj, ← this, ← Array.getElem?_toList]
    · rename_i hj
      rw [List.getElem?_eq_none (by omega)]
  rw (occs := .pos [1]) [← List.take_append_drop us.length cur.toList]
  rw [← this]
theorem Inv.offM (hi : Inv cx N hb0 S rs h fl g a w) (hpd : S.pd = none) {v : V} {cs : List V} {n : Nat} (hm : mcells h v = some (cs, n)) : Inv cx N hb0 S rs (mkill h v) fl g a w ∧ (mkill h v).length = h.length ∧
    ∀ b, misnil v = false → g.mu (mobj v) = some b → cx.may b ∧ b < w.heap.size ∧ (∀ i, LiveAt (mkill h v) i → g.mu i ≠ some b) ∧ NoPl S (mkill h v) g a w b ∧ (∀ k, g.imm b k = none) ∧ (mobj v < cx.n0 ∨ cx.w0.heap.size ≤ b ∨ fl.all = true) := by
  rcases mcells_obj hm with ⟨rfl, _, _⟩ | ⟨h1, h2, h3, h4⟩
  · exact ⟨hi, rfl, fun b hb => by cases hb⟩
  · rw [h2]
    refine ⟨hi.kill h3, by simp [hset], fun b _ hb => ⟨(hi.G.muW _ b hb).2 h4, (hi.G.muW _ b hb).1, fun i hl hm => ?_, (NoPl.live hi hpd h4 hb).kill h3, hi.G.muimm _ b h4 hb, ?_⟩⟩
    · obtain ⟨e1, e2⟩ := liveAt_dead h3 hl
      exact e1 (hi.G.inj i _ b e2 h4 hm hb)
    · by_cases hlt : mobj v < cx.n0
      · exact .inl hlt
      · exact .inr (hi.G.new _ b (by omega) hb)

theorem mvn_ok (hi : Inv cx N hb0 S rs h fl g a w) (htr : trOpL P o.op gd = some .mvn) (hs : S.step1 R o.dst .mvn = some T) (hd : ∀ x, o.dst = some x → x < N) :
    ∃ u, (execOp a.eval o).run P w = .ok (.value u) w ∧ Inv cx N hb0 T (putR o.dst .nsl rs) h fl g (a.put o.dst u) w := by
  have hrun : (execOp a.eval o).run P w = .ok (.value (.slice none 0 0)) w := by
    cases gd <;> simp only [trOpL, reduceCtorEq] at htr <;> obtain ⟨_, h1, h2⟩ := bnd_eq_some htr <;> cases h2
    unfold trNewl at h1
    split at h1
    · rename_i x hop
      obtain ⟨y, hy, h1⟩ := bnd_eq_some h1
      obtain ⟨hn, h1⟩ := cnd_eq_some h1
      unfold execOp; rw [hop]; show Result.ok (Next.value (a.eval x)) w = _
      rw [isNil_eval hy hn]
    · rename_i x hop
      obtain ⟨y, hy, h1⟩ := bnd_eq_some h1
      obtain ⟨hn, h1⟩ := cnd_eq_some h1
      unfold execOp; rw [hop]; show Result.ok (Next.value (a.eval x)) w = _
      rw [isNil_eval hy hn]
    · cases h1
  exact ⟨_, hrun, hi.put hd (by simpa only [Ow.step1] using hs) .nsl⟩

theorem bsll_ok (hi : Inv cx N hb0 S rs h fl g a w) {z : V} {k n : Nat} {ps : List (Nat × Arg)} (htr : trOpL P o.op gd = some (.bsll z k n ps)) (hs : S.step1 R o.dst (.bsll z k n ps) = some T) (hd : ∀ x, o.dst = some x → x < N)
    {xs : List V} (hfill : fillE rs (List.replicate n z) ps = some xs) (hcond : (allPure xs && allSize k xs) = true) : ∃ u w' g', (execOp a.eval o).run P w = .ok (.value u) w' ∧ GLe g g' ∧ Inv cx N hb0 T (putR o.dst (.lst xs) rs) h fl g' (a.put o.dst u) w' := by
  have inv : ∃ t parts e zv, o.op = .buildSlice t n parts ∧ sliceT P t = some e ∧ zeroT P e = some zv ∧ trConst zv = some z ∧ sizeT P e = some k ∧ partsE parts.toList = some ps ∧ 0 < k ∧ n * k ≤ 65536 ∧ zv.cells.size = k := by
    cases gd <;> simp only [trOpL, reduceCtorEq] at htr <;> obtain ⟨r, h1, h2⟩ := bnd_eq_some htr <;> cases h2
    unfold trBsll at h1
    split at h1
    · rename_i t n' parts hop
      obtain ⟨e, he, h1⟩ := bnd_eq_some h1
      obtain ⟨zv, hz, h1⟩ := bnd_eq_some h1
      obtain ⟨v, hv, h1⟩ := bnd_eq_some h1
      obtain ⟨k', hk, h1⟩ := bnd_eq_some h1
      obtain ⟨l, hl, h1⟩ := bnd_eq_some h1
      split at h1
      · rename_i hc
        cases h1
        exact ⟨t, parts, e, zv, hop, he, hz, hv, hk, hl, hc⟩
      · cases h1
    · cases h1
  obtain ⟨t, parts, e, zv, hop, ht, hz, hzv, hk, hp, hpos, hsmall, hzsz⟩ := inv
  simp only [Ow.step1] at hs
  obtain ⟨hinc, hs⟩ := cnd_eq_some hs
  obtain ⟨T0, hkill, hs⟩ := bnd_eq_some hs
  cases hs
  obtain ⟨us', hrun, hpc, hxlen, hsize⟩ := bslice_run hi hop ht hz hzv hk hp hpos hsmall hzsz hinc hfill hcond
  have h1 := hi.row (us := []) (cur := us') (t := e) (fun j u hu => by simp at hu)
  have hle : GLe g (g.addImm w.heap.size 0 []) := Gh.addImm_le fun k _ _ => hi.G.immNone (Nat.le_refl _) k
  have hnoimm : ∀ k, (g.addImm w.heap.size 0 []).imm w.heap.size k = none := fun k => by
    simp only [Gh.addImm, List.length_nil, Nat.add_zero]
    rw [if_neg (by omega)]
    exact hi.G.immNone (Nat.le_refl _) k
  have hheap : (w.alloc (.cells us' e)).heap[w.heap.size]? = some (.cells us' e (0, 0)) := heap_alloc_new w _
  have heap : ∀ b, b < w.heap.size → (w.alloc (.cells us' e)).heap[b]? = w.heap[b]? := fun b hb => heap_alloc_old w _ hb
  have h2 := h1.put hd hkill (u := .slice (some ⟨w.heap.size, 0, none⟩) n n) (v := .lst xs) .lst
  have hlen : us'.size = n * k := by
    have := hpc.length
    rw [flatMap_length hsize, hxlen] at this
    simpa using this
  refine ⟨_, _, _, hrun, hle, ?_⟩
  obtain ⟨m1, m2, m3, m4⟩ := kill_sub hkill
  cases hdst : o.dst with
  | none => rw [hdst] at h2; exact h2
  | some d =>
    rw [hdst] at h2 hd
    have hlt : d < a.tmps.size := by rw [hi.F.size]; exact hd d rfl
    obtain ⟨pd, hO, hf⟩ := hi.O
    obtain ⟨pd2, hO2, hf2⟩ := h2.O
    have same : pd2 = pd := by
      rcases hf.pd with ⟨e1, e2⟩ | ⟨p1, q1, i1, j1, e1, e2, e3⟩ <;> rcases hf2.pd with ⟨e4, e5⟩ | ⟨p2, q2, i2, j2, e4, e5, e6⟩
      · rw [e2, e5]
      · rw [m1, e1] at e4; cases e4
      · rw [m1, e1] at e4; cases e4
      · rw [m1, e1] at e4
        cases e4
        rw [get_put (fun d' e => by cases e; exact (pdFree_spec (m4 d hdst) e1).1), e3] at e6
        cases e6
        rw [e2, e5]
    subst same
    refine ⟨h2.W, h2.G, ⟨pd2, hO2.add (fun _ => ⟨rfl, xs, by simp [putR, get], ?_⟩) (fun x hx => ?_), ⟨hf2.al, hf2.la, hf2.pd⟩⟩, h2.F⟩
    · rw [put_get hlt, Nat.add_sub_cancel]
      refine ⟨hsize, .inr ⟨w.heap.size, n, us'.toList, by rw [hxlen], fun j x hx => ?_, hpc.mono hle.imm⟩⟩
      rw [cell_of_heap hheap]; simpa using hx
    · rw [put_get hlt] at hx
      have : x = .slice (some ⟨w.heap.size, 0, none⟩) n n := by simpa [Value.cells] using hx.symm
      subst this
      refine ⟨.inl ⟨isLin_add k, _, n, n, rfl, .inr ⟨Nat.le_refl _, by rw [Nat.add_sub_cancel]; exact hpos, _, us', e, rfl, hheap, by rw [Nat.add_sub_cancel, hlen]; exact Nat.le_refl _, hnoimm⟩⟩, fun b hb => ?_⟩
      have hbe : b = w.heap.size := by
        simp only [ownBlk, isLin_add, true_or, if_true, Option.some.injEq] at hb
        exact hb.symm
      subst hbe
      refine ⟨.inl hi.W.hsz, fun i hl hm => by have := (hi.G.muW i _ hm).1; omega, fun h1 => by have := hi.W.hsz; omega, fun p z' y hp hb' => ?_⟩
      exfalso
      have hp2 : Held S.own pd2 h g a.tmps w p z' y := by
        cases p with
        | reg r off =>
          obtain ⟨hm, hx⟩ := hp
          rw [put_other hlt ((m2 _ hm).2 d hdst)] at hx
          exact ⟨(m2 _ hm).1, hx⟩
        | cell i j =>
          obtain ⟨cs, own, b, g1, g2, g3, g4, g5⟩ := hp
          exact ⟨cs, own, b, g1, g2, g3, g4, by rw [← cell_same (heap b (hi.G.muW i b g4).1)]; exact g5⟩
      have := (hO.own _ _ _ hp2).lt hb'
      omega

theorem trOpL_appm {size bytes : Nat} {s x : Arg} (h : trOpL P o.op gd = some (.appm size bytes s x)) : ∃ s0, s = nilA s0 ∧ trOpL P o.op (.appl 0 0 0 s0 x) = some (.appl 0 size bytes s0 x) := by
  cases gd <;> simp only [trOpL, reduceCtorEq] at h <;> obtain ⟨r, h1, h2⟩ := bnd_eq_some h <;> cases h2
  exact ⟨r.2.2.1, rfl, by simp only [trOpL, h1, bnd_some]⟩
theorem nilA_sound (hr : RR g a rs) {y : Operand} {s : Arg} (h : trArg y = some s) : VR g (a.eval y) ((nilA s).val rs) := by
  have h1 := trArg_sound hr h
  unfold nilA
  split
  · rw [isNil_eval h rfl]; exact .nsl
  · exact h1
theorem mrk_ok (hi : Inv cx N hb0 S rs h fl g a w) {p : Nat} {x : Arg} (htr : trOpL P o.op gd = some (.mrk p x)) (hs : S.step1 R o.dst (.mrk p x) = some T) (hd : ∀ x, o.dst = some x → x < N)
    {v : V} (hv : mrkV (get rs p) = some v) : ∃ u w' g', (execOp a.eval o).run P w = .ok (.value u) w' ∧ GLe g g' ∧ Inv cx N hb0 T (putR o.dst v rs) h fl g' (a.put o.dst u) w' := by
  have inv : ∃ t e y, o.op = .convert t t y ∧ P.underlying t = some (.slice e) ∧ P.underlying e = some (.int .u8) ∧ trArg y = some x := by
    cases gd <;> simp only [trOpL, reduceCtorEq] at htr <;> obtain ⟨r, h1, h2⟩ := bnd_eq_some htr <;> cases h2
    unfold trMrk at h1
    split at h1
    · rename_i t d y hop
      obtain ⟨hd1, h2⟩ := cnd_eq_some h1
      cases of_decide_eq_true hd1
      obtain ⟨e, hte, h3⟩ := bnd_eq_some h2
      obtain ⟨hb, h4⟩ := cnd_eq_some h3
      refine ⟨t, e, y, hop, sliceT_inv hte, ?_, h4⟩
      unfold byteT at hb
      split at hb
      · assumption
      · cases hb
    · cases h1
  obtain ⟨t, e, y, hop, ht, he, hy⟩ := inv
  cases x with
  | c cv => simp only [Ow.step1, reduceCtorEq] at hs
  | r tr =>
    simp only [Ow.step1] at hs
    obtain ⟨hcond, hs⟩ := cnd_eq_some hs
    obtain ⟨T0, hk, hs⟩ := bnd_eq_some hs
    cases hs
    simp only [Bool.and_eq_true, Bool.or_eq_true, decide_eq_true_eq] at hcond
    obtain ⟨hal, ho, hnp⟩ := hcond
    have hpd : S.pd = none := by simpa [Ow.noPd] using hnp
    have hp := hasLin_mem ho
    obtain ⟨hO, hf⟩ := hi.own0 hpd
    have hey : a.eval y = a.tmps.getD p Go.undef := lin_alias hf hy hal
    obtain ⟨xs, hget, hcont, hlin, hheld, hblk⟩ := Inv.linAt hO hf (size := 1) hp (by rw [hpd]; rfl)
    rw [hget] at hv
    cases xs with
    | nil => cases hv
    | cons x0 xs =>
      cases hv
      obtain ⟨hsz, hcont⟩ := hcont
      rcases hcont with ⟨_, hx⟩ | ⟨b, cap, us, hu, h1, h2⟩
      · cases hx
      · have hb : ownBlk (1 + 1000000) (a.tmps.getD p Go.undef) = some b := by rw [hu]; simp [ownBlk, isLin_add]
        obtain ⟨f1, f2, f3, f4⟩ := hblk b hb
        obtain ⟨_, n', cap', cur, tt, e2, hn, hheap, hfit, _⟩ := hlin.blk hb
        rw [hu] at e2
        cases e2
        have hlt : b < w.heap.size := f1
        have hw' : (w.freeze ⟨b, cur.size, none⟩ 1).heap[b]? = some (.cells cur tt (cur.size, cur.size + 1)) := by
          simp [World.freeze, Array.getElem?_modify, hheap]
        have hoth : ∀ c, c ≠ b → (w.freeze ⟨b, cur.size, none⟩ 1).heap[c]? = w.heap[c]? := fun c hc => by
          simp [World.freeze, Array.getElem?_modify, Ne.symm hc]
        have hsize : (w.freeze ⟨b, cur.size, none⟩ 1).heap.size = w.heap.size := by simp [World.freeze]
        have hgr : w.grownBy (w.freeze ⟨b, cur.size, none⟩ 1) (some b) := ⟨rfl, rfl, rfl, by rw [hsize]; exact Nat.le_refl _, fun k _ hk => hoth k fun e => hk (e ▸ rfl)⟩
        have hcell : ∀ k, (w.freeze ⟨b, cur.size, none⟩ 1).cell? ⟨b, k, none⟩ = w.cell? ⟨b, k, none⟩ := fun k => by simp [World.cell?, hw', hheap]
        have hrun : (convert t t (.slice (some ⟨b, 0, none⟩) (x0 :: xs).length cap)).run P w = .ok (.slice (some ⟨b, 0, none⟩) (x0 :: xs).length cap) (w.freeze ⟨b, cur.size, none⟩ 1) := by
          have hsh : w.shape? b = some (tt, cur.size) := by simp [World.shape?, hheap]
          simp [convert, run_underlying ht, run_underlying he, markStringish, hsh]
        have hno : NoPl ⟨offReg p S.own, S.al, [], S.pd⟩ h g a w b := fun q z y hq hb' => by
          have hq2 : Held S.own none h g a.tmps w q z y := by
            cases q with
            | cell i j => exact hq
            | reg r off => exact ⟨(mem_offReg.1 hq.1).1, hq.2⟩
          have := hO.dis _ _ _ _ _ _ b hq2 hheld hb' hb
          subst this
          exact (mem_offReg.1 hq.1).2 rfl
        have i1 : Inv cx N hb0 ⟨offReg p S.own, S.al, [], S.pd⟩ rs h fl g a w := hi.weaken (fun x hx => (mem_offReg.1 hx).1) (fun x hx => hx) (fun x hx => by simp at hx) rfl
        have i2 := i1.rowW hpd rfl (.inl f3) (.inl f3) f2 hno f4 hgr (fun c => by
          by_cases hcb : c = b
          · subst hcb
            intro vs' t' fr' hv'
            rw [hheap] at hv'
            cases hv'
            exact ⟨_, _, _, hw', Nat.le_refl _⟩
          · exact Keeps.same (hoth c hcb)) (Nat.le_refl _)
        have i3 := i2.addImm hpd (b := b) (lo := 0) (us := us) (.inl f3) f2 (fun q z y hq => by
          refine hno q z y ?_
          cases q with
          | reg r off => exact hq
          | cell i' j' =>
            obtain ⟨cs, own, c, g1, g2, g3, g4, g5⟩ := hq
            exact ⟨cs, own, c, g1, g2, g3, g4, by rw [← cell_same (hoth c fun e => f2 i' ⟨_, g1, rfl⟩ (e ▸ g4))]; exact g5⟩) (fun k _ _ => f4 k) (fun j y hy => by rw [Nat.zero_add, hcell]; exact h1 j y hy)
        have hle : GLe g (g.addImm b 0 us) := Gh.addImm_le fun k _ _ => f4 k
        have hvr : VR (g.addImm b 0 us) (.slice (some ⟨b, 0, none⟩) (x0 :: xs).length cap) (.sl (x0 :: xs)) := .cell (.sl (sz := 1) (us := us) rfl hn hsz (fun j x hx => Gh.addImm_at hx) (h2.mono hle.imm))
        obtain ⟨T1, hk1, k1, k2, k3, k4⟩ := kill_nopd (S := (⟨offReg p S.own, S.al, [], S.pd⟩ : Ow)) hpd o.dst
        obtain ⟨m1, m2, m3, m4⟩ := kill_sub hk
        refine ⟨_, _, _, ?_, hle, (i3.put hd hk1 hvr).weaken (fun x hx => (k2 x).2 ⟨mem_offReg.2 ⟨(m2 x (mem_offReg.1 hx).1).1, (mem_offReg.1 hx).2⟩, (m2 x (mem_offReg.1 hx).1).2⟩) (fun x hx => (k3 x).2 (m3 x hx)) (fun x hx => by simp [offLa] at hx) (show T0.pd = T1.pd by rw [m1, hpd, k1])⟩
        unfold execOp
        rw [hop]
        simp only [hey, hu]
        exact run_v hrun
theorem appX_reads (hi : HRead g h w) {v : V} {u : Value} (hv : VR g u v) {cs : List V} {n size : Nat} (hm : appX size h v = some (cs, n)) :
    ∃ us, Reads w u n us ∧ us.length = n * size ∧ VRs g us cs ∧ cs.all V.isCell = true := by
  unfold appX at hm
  split at hm
  · obtain ⟨hz, hm⟩ := cnd_eq_some hm
    cases hm
    obtain ⟨us, h1, h2, h3, _, _⟩ := sl_reads hi hv hz
    exact ⟨us, h1, h2, h3.vrs, h3.isCells⟩
  · obtain ⟨hz, hm⟩ := cnd_eq_some hm
    exact mread hi hv hm hz
  · obtain ⟨hz, hm⟩ := cnd_eq_some hm
    exact mread hi hv hm hz
  · exact mread hi hv hm rfl
  · cases hm
theorem or_wr {al : Bool} : (fl.or ⟨[], [], al⟩).esc = fl.esc ∧ (∀ b, cx.wrOk fl b → cx.wrOk (fl.or ⟨[], [], al⟩) b) ∧ (fl.all = true → (fl.or ⟨[], [], al⟩).all = true) ∧ (al = true → (fl.or ⟨[], [], al⟩).all = true) := by
  refine ⟨by simp [Fl.or], fun b h => h.or _, fun h => by simp [Fl.or, h], fun h => by simp [Fl.or, h]⟩
theorem appm_ok (hi : Inv cx N hb0 S rs h fl g a w) {size bytes : Nat} {s x : Arg} (htr : trOpL P o.op gd = some (.appm size bytes s x)) (hs : S.step1 R o.dst (.appm size bytes s x) = some T) (hd : ∀ x, o.dst = some x → x < N)
    {r : V × Heap × Fl} (hv : appmV cx.n0 size bytes h (s.val rs) (x.val rs) = some r) : ∃ u w' g', (execOp a.eval o).run P w = .ok (.value u) w' ∧ GLe g g' ∧ Inv cx N hb0 T (putR o.dst r.1 rs) r.2.1 (fl.or r.2.2) g' (a.put o.dst u) w' := by
  obtain ⟨s0, rfl, htr2⟩ := trOpL_appm htr
  obtain ⟨y, y', t, e, i, z, hop, ht, hie, hz, rfl, rfl, hpos, hbp, hzs, hz1, hy, hy'⟩ := trOpL_appl htr2
  have hsv := nilA_sound hi.F.regs hy
  have hxv := trArg_sound hi.F.regs hy'
  simp only [Ow.step1] at hs
  obtain ⟨hnp, hs⟩ := cnd_eq_some hs
  obtain ⟨T0, hk, hs⟩ := bnd_eq_some hs
  cases hs
  have hpd : S.pd = none := by simpa [Ow.noPd] using hnp
  unfold appmV at hv
  obtain ⟨⟨c1, n1⟩, hc, hv⟩ := bnd_eq_some hv
  obtain ⟨hsz, hc⟩ := cnd_eq_some hc
  obtain ⟨⟨c2, n2⟩, hx, hv⟩ := bnd_eq_some hv
  obtain ⟨hbytes, hv⟩ := cnd_eq_some hv
  have hbytes := of_decide_eq_true hbytes
  obtain ⟨vs, hrv, hlv, hvv, hallv⟩ := appX_reads hi.G.hr hxv hx
  obtain ⟨us, hru, hlu, huu, hallu⟩ := mread hi.G.hr hsv hc (msize_A hsz)
  obtain ⟨ad, cap, hse, hncap, hblk⟩ := mown hi.G.hr hsv hc (msize_A hsz)
  by_cases hn0 : n2 = 0
  · subst hn0
    simp only [decide_true, cnd_true, Option.some.injEq] at hv
    subst hv
    have : vs = [] := List.length_eq_zero_iff.1 (by simpa using hlv)
    subst this
    have hr := app_run_none (P := P) (w := w) (ty := o.type) ht hie ad n1 cap hncap hrv
    rw [← hse] at hr
    exact ⟨_, w, g, exec_append hop hr, GLe.refl g, (by rw [Fl.or_no]; exact (hi.put hd hk hsv).noLa)⟩
  · rw [decide_eq_false hn0] at hv
    simp only [cnd_false, Option.some.injEq] at hv
    subst hv
    obtain ⟨T1, hk1, k1, k2, k3, k4⟩ := kill_nopd (S := offLa S) hpd o.dst
    obtain ⟨m1, m2, m3, m4⟩ := kill_sub hk
    obtain ⟨hkl, hklen, hfree⟩ := hi.noLa.offM hpd hc
    have fin : ∀ {u : Value} {w' : World} {g' : Gh} {h' : Heap} {fl' : Fl} {v : V}, Inv cx N hb0 (offLa S) rs h' fl' g' a w' → VR g' u v → Inv cx N hb0 (offLa T0) (putR o.dst v rs) h' fl' g' (a.put o.dst u) w' := fun hi' hvr =>
      (hi'.put hd hk1 hvr).weaken (fun x hx => (k2 x).2 (m2 x hx)) (fun x hx => (k3 x).2 (m3 x hx)) (fun x hx => by simp [offLa] at hx) (show T0.pd = T1.pd by rw [m1, hpd, k1])
    have hall : (c1 ++ c2).all V.isCell = true := by rw [List.all_append, hallu, hallv]; rfl
    obtain ⟨o1, o2, o2a, o3⟩ := or_wr (cx := cx) (fl := fl) (al := (!misnil ((nilA s0).val rs) && decide (mobj ((nilA s0).val rs) < cx.n0)))
    by_cases hg : cap < n1 + n2
    · rw [hse] at hru
      have hr := app_run_grow (P := P) (w := w) (ty := o.type) ht hie hz hru hlu hrv hlv hg hbytes hbp
      rw [← hse] at hr
      have hge := grownCap_ge w (n1 + n2) cap e
      generalize hcap : grownCap w (n1 + n2) cap e = C at hr hge
      have hrowsz : (us.toArray ++ vs.toArray ++ Builtin.zeroCells z.cells (C - (n1 + n2))).size = C * i.size := by
        simp only [Array.size_append, List.size_toArray, size_zeroCells, hzs, hlu, hlv, ← Nat.add_mul]
        congr 1; omega
      generalize hrow : us.toArray ++ vs.toArray ++ Builtin.zeroCells z.cells (C - (n1 + n2)) = row at hr hrowsz
      have hle : GLe g (g.addMu h.length w.heap.size) := Gh.addMu_le (hi.G.muNone (Nat.le_refl _))
      have hnew : (w.drew.alloc (.cells row e)).heap[w.heap.size]? = some (.cells row e (0, 0)) := heap_alloc_new w.drew _
      have h1 := hkl.drew.push (O := .cells row e) (x := .cells (c1 ++ c2) []) (by
        rw [hklen]
        exact ⟨row, e, us ++ vs, (Builtin.zeroCells z.cells (C - (n1 + n2))).toList, hnew, by rw [← hrow]; simp, (huu.append hvv).mono hle, hall⟩) (fun cs own e' j sz u hm _ => by cases e'; simp at hm)
      have h2 := h1.addSiz (b := w.heap.size) (n := C * i.size) hnew (by rw [hrowsz]; exact Nat.le_refl _)
      rw [hklen] at h2
      have h3 := h2.flag o1 o2 o2a
      refine ⟨_, _, _, exec_append hop hr, hle.trans (Gh.addSiz_le _ _ _), fin h3 ?_⟩
      refine .msl (by simp [Gh.addSiz, Gh.addMu]) hge ?_
      have := Gh.addSiz_at (g.addMu h.length w.heap.size) w.heap.size (C * i.size)
      show 0 + C * i.size ≤ _
      omega
    · have hroom : n1 + n2 ≤ cap := by omega
      rcases hblk with ⟨_, _, h0⟩ | ⟨b, lo, rfl, hnn, hmu, hb⟩
      · omega
      · obtain ⟨cur, tt, rfl, hheap, hfit, hpre⟩ := hb hsz
        obtain ⟨f1, f2, f3, f4, f5, f6⟩ := hfree b hnn hmu
        have hmul : (n1 + n2) * i.size ≤ cap * i.size := Nat.mul_le_mul_right _ hroom
        have hcurfit : n1 * i.size + vs.length ≤ cur.size := by rw [hlv, ← Nat.add_mul]; omega
        have hr := app_run_room (P := P) (w := w) (ty := o.type) ht hie b n1 cap n2 hheap hrv hlv (hvv.oneCells hallv) hroom hcurfit
        rw [← hse] at hr
        have hnewrow := setRow_heap w b cur (cur.toList.take (n1 * i.size) ++ vs ++ cur.toList.drop (n1 * i.size + vs.length)).toArray tt (0, 0) hheap
        have hnsz : (cur.toList.take (n1 * i.size) ++ vs ++ cur.toList.drop (n1 * i.size + vs.length)).toArray.size = cur.size := by
          simp only [List.size_toArray, List.length_append, List.length_take, List.length_drop, Array.length_toList]
          omega
        have hgr : w.grownBy (w.setRow b (cur.toList.take (n1 * i.size) ++ vs ++ cur.toList.drop (n1 * i.size + vs.length)).toArray) (some b) := ⟨rfl, rfl, rfl, by simp, fun k _ hk => setRow_other w b k _ (fun e => hk (e ▸ rfl))⟩
        have hwr : ∀ wr, (wr = (!misnil ((nilA s0).val rs) && decide (mobj ((nilA s0).val rs) < cx.n0))) → cx.w0.heap.size ≤ b ∨ (fl.or ⟨[], [], wr⟩).all = true := fun wr hw => by
          subst hw
          rcases f6 with h1 | h1 | h1
          · exact .inr (o3 (by simp [hnn, h1]))
          · exact .inl h1
          · exact .inr (o2a h1)
        have h1 := (hkl.flag o1 o2 o2a).rowW hpd rfl f1 ((hwr _ rfl).imp id .inl) f3 f4 f5 hgr (fun c => by
          by_cases hcb : c = b
          · subst hcb
            intro vs' t' fr' hv'
            rw [hheap] at hv'
            cases hv'
            exact ⟨_, _, _, hnewrow, by rw [hnsz]; exact Nat.le_refl _⟩
          · exact Keeps.same (setRow_other w b c _ hcb)) (Nat.le_refl _)
        have hle : GLe g (g.addMu h.length b) := Gh.addMu_le (hi.G.muNone (Nat.le_refl _))
        have hno : NoPl (offLa S) (mkill h ((nilA s0).val rs)) g a (w.setRow b (cur.toList.take (n1 * i.size) ++ vs ++ cur.toList.drop (n1 * i.size + vs.length)).toArray) b := fun p z' u hp => by
          refine f4 p z' u ?_
          cases p with
          | reg r off => exact hp
          | cell i' j' =>
            obtain ⟨cs, own, c, g1, g2, g3, g4, g5⟩ := hp
            refine ⟨cs, own, c, g1, g2, g3, g4, ?_⟩
            rw [← cell_same (setRow_other w b c _ fun e => f3 i' ⟨_, g1, rfl⟩ (e ▸ g4))]
            exact g5
        have h2 := h1.adopt hpd (b := b) (o := .cells (c1 ++ c2) []) (by simpa using f2) f1 (hwr _ rfl) f3 f5 hno (by
          rw [hklen]
          exact ⟨_, tt, cur.toList.take (n1 * i.size) ++ vs, cur.toList.drop (n1 * i.size + vs.length), hnewrow, by simp, (hpre.append hvv).mono hle, hall⟩) (fun cs own e => by cases e; rfl)
        have h3 := h2.addSiz (b := b) (n := cap * i.size) hnewrow (by rw [hnsz]; exact hfit)
        rw [hklen] at h3
        refine ⟨_, _, _, exec_append hop hr, hle.trans (Gh.addSiz_le _ _ _), fin h3 ?_⟩
        refine .msl (by simp [Gh.addSiz, Gh.addMu]) hroom ?_
        have := Gh.addSiz_at (g.addMu h.length b) b (cap * i.size)
        show 0 + cap * i.size ≤ _
        omega

theorem Inv.thaw (hi : Inv cx N hb0 S rs h fl g a w) (hpd : S.pd = none) {u : Value} {xs : List V} {size : Nat} (hlin : LinR w g.imm size u) (hcont : LinC g.imm w size xs u)
    (hb : ∀ b, ownBlk (size + 1000000) u = some b → cx.may b ∧ (cx.w0.heap.size ≤ b ∨ fl.all = true) ∧ (∀ i, LiveAt h i → g.mu i ≠ some b) ∧ NoPl S h g a w b) :
    ∃ g', GLe g g' ∧ VR g' u (mnewV h size xs.length) ∧ Inv cx N hb0 S rs (h ++ [mnewO xs.length (xs.flatMap V.flat)]) fl g' a w := by
  obtain ⟨hsz, hcont⟩ := hcont
  rcases hcont with ⟨rfl, rfl⟩ | ⟨b, cap, us, rfl, h1, h2⟩
  · exact ⟨_, Gh.addEm_le g h.length, .eml0 (by simp [Gh.addEm]), hi.pushEmp⟩
  · obtain ⟨ad, n, cap', e, hl⟩ := hlin
    injection e with e1 e2 e3
    subst e1 e2 e3
    rcases hl with ⟨e, _⟩ | ⟨hn, hpos, b', cur, t, e, hheap, hfit, himm⟩
    · cases e
    · cases e
      obtain ⟨f1, f2, f3, f4⟩ := hb b (by simp [ownBlk, isLin_add])
      have hle : GLe g (g.addMu h.length b) := Gh.addMu_le (hi.G.muNone (Nat.le_refl _))
      have hpre := pre_of_get (us := us) (cur := cur) fun j x hx => by
        have := h1 j x hx
        rw [cell_of_heap hheap] at this
        exact this
      have ho : ObjR (g.addMu h.length b) w b (mnewO xs.length (xs.flatMap V.flat)) := by
        unfold mnewO
        by_cases h0 : xs.length = 0
        · rw [decide_eq_true h0]; exact ⟨cur, t, hheap⟩
        · rw [decide_eq_false h0]; exact ⟨cur, t, us, _, hheap, hpre, (h2.mono hle.imm).vrs, h2.isCells⟩
      have h3 := hi.adopt hpd (b := b) (o := mnewO xs.length (xs.flatMap V.flat)) ((Array.getElem?_eq_some_iff.1 hheap).1) f1 f2 f3 himm f4 ho (fun cs own e => by
        unfold mnewO at e
        by_cases h0 : xs.length = 0
        · rw [decide_eq_true h0] at e; cases e
        · rw [decide_eq_false h0] at e; cases e; rfl)
      have h4 := h3.addSiz (b := b) (n := cap * size) hheap hfit
      refine ⟨_, hle.trans (Gh.addSiz_le _ _ _), ?_, h4⟩
      have hsz' := Gh.addSiz_at (g.addMu h.length b) b (cap * size)
      unfold mnewV
      by_cases h0 : xs.length = 0
      · rw [decide_eq_true h0, h0]
        exact .eml (by simp [Gh.addSiz, Gh.addMu]) hsz'
      · rw [decide_eq_false h0]
        exact .msl (by simp [Gh.addSiz, Gh.addMu]) hn (by omega)
theorem thwr_ok (hi : Inv cx N hb0 S rs h fl g a w) {p size : Nat} (hs : S.step1 R (some p) (.thwr p size) = some T) {r : V × Heap × Fl} (hv : thwV h size (get rs p) = some r) :
    ∃ g', GLe g g' ∧ Inv cx N hb0 T (putR (some p) r.1 rs) r.2.1 (fl.or r.2.2) g' a w := by
  simp only [Ow.step1] at hs
  obtain ⟨hc, hk⟩ := cnd_eq_some hs
  simp only [Bool.and_eq_true, decide_eq_true_eq] at hc
  obtain ⟨hnp, _, hl⟩ := hc
  have hpd : S.pd = none := by simpa [Ow.noPd] using hnp
  obtain ⟨hO, hf⟩ := hi.own0 hpd
  obtain ⟨xs, hget, hcont, hlin, hheld, hblk⟩ := Inv.linAt hO hf (hasLin_mem hl) (by rw [hpd]; rfl)
  rw [hget] at hv
  simp only [thwV, Option.some.injEq] at hv
  subst hv
  obtain ⟨_, rfl⟩ := kill_some hk
  have h1 : Inv cx N hb0 ⟨offReg p S.own, offPair p S.al, offPair p S.la, S.pd⟩ rs h fl g a w := hi.weaken (fun x hx => (mem_offReg.1 hx).1) (fun x hx => (mem_offPair.1 hx).1) (fun x hx => (mem_offPair.1 hx).1) rfl
  obtain ⟨g', hle, hvr, h2⟩ := h1.thaw hpd hlin hcont (fun b hb => ⟨.inl (hblk b hb).2.2.1, .inl (hblk b hb).2.2.1, (hblk b hb).2.1, fun q z u hq hb' => by
    have hq2 : Held S.own none h g a.tmps w q z u := by
      cases q with
      | cell i j => exact hq
      | reg r off => exact ⟨(mem_offReg.1 hq.1).1, hq.2⟩
    have := hO.dis _ _ _ _ _ _ b hq2 hheld hb' hb
    subst this
    exact (mem_offReg.1 hq.1).2 rfl⟩)
  exact ⟨g', hle, by rw [Fl.or_no]; exact h2.setReg hpd (fun x hx => (mem_offReg.1 hx).2) hvr⟩
theorem frzl_ok (hi : Inv cx N hb0 S rs h fl g a w) {p size : Nat} (hs : S.step1 R (some p) (.frzl p size) = some T) {v : V} (hv : frzlV (get rs p) = some v) :
    ∃ g', GLe g g' ∧ Inv cx N hb0 T (putR (some p) v rs) h fl g' a w := by
  simp only [Ow.step1] at hs
  obtain ⟨hc, hk⟩ := cnd_eq_some hs
  simp only [Bool.and_eq_true, decide_eq_true_eq] at hc
  obtain ⟨hnp, _, hl⟩ := hc
  have hpd : S.pd = none := by simpa [Ow.noPd] using hnp
  obtain ⟨xs, g', hget, hle, hvr, h1⟩ := hi.frzLin (hasLin_mem hl) (by rw [hpd]; rfl)
  rw [hget] at hv
  cases hv
  obtain ⟨_, rfl⟩ := kill_some hk
  have h2 : Inv cx N hb0 ⟨offReg p S.own, offPair p S.al, offPair p S.la, S.pd⟩ rs h fl g' a w := h1.weaken (fun x hx => hx) (fun x hx => (mem_offPair.1 hx).1) (fun x hx => (mem_offPair.1 hx).1) rfl
  exact ⟨g', hle, h2.setReg hpd (fun x hx => (mem_offReg.1 hx).2) hvr⟩
theorem Inv.freeze (hi : Inv cx N hb0 S rs h fl g a w) (hpd : S.pd = none) {u : Value} {v : V} (hv : VR g u v) {size : Nat} {agg : Bool} {xs : List V} (hp : pureL size agg h v = some xs) :
    ∃ g', GLe g g' ∧ g'.mu = g.mu ∧ VR g' u (.sl xs) ∧ Inv cx N hb0 S rs (mkill h v) fl g' a w := by
  obtain ⟨hpos, hms, cs, n, us, hm, hr, hcr, hlen, hall⟩ := pureL_inv hi.G.hr hv hp
  obtain ⟨h1, h2, hfree⟩ := hi.offM hpd hm
  obtain ⟨ad, cap, hu, hncap, hblk⟩ := mown hi.G.hr hv hm hms
  rcases hblk with ⟨rfl, rfl, rfl⟩ | ⟨b, lo, rfl, hnn, hmu, _⟩
  · have : xs = [] := List.length_eq_zero_iff.1 hlen
    subst this
    exact ⟨g, GLe.refl g, rfl, by rw [hu]; exact .cell .nils, h1⟩
  · obtain ⟨f1, f2, f3, f4, f5, f6⟩ := hfree b hnn hmu
    have hus : ∀ (j : Nat) (x : Value), us[j]? = some x → w.cell? ⟨b, lo + j, none⟩ = some x := fun j x hx => by
      rcases hr with ⟨e, _, e2⟩ | ⟨_, _, _, _, e2⟩ | ⟨b', o', cap', e, _, h3⟩
      · subst e2; simp at hx
      · subst e2; simp at hx
      · rw [hu] at e
        cases e
        exact h3 j x hx
    have h3 := h1.addImm hpd (b := b) (lo := lo) (us := us) f1 f3 f4 (fun k _ _ => f5 k) hus
    have hle : GLe g (g.addImm b lo us) := Gh.addImm_le fun k _ _ => f5 k
    refine ⟨_, hle, rfl, ?_, h3⟩
    rw [hu]
    exact .cell (.sl (sz := size) (us := us) hlen.symm hncap hall (fun j x hx => Gh.addImm_at hx) (hcr.mono hle.imm))
theorem frzr_ok (hi : Inv cx N hb0 S rs h fl g a w) {p size : Nat} {agg : Bool} (hs : S.step1 R (some p) (.frzr p size agg) = some T) {r : V × Heap × Fl} (hv : frzrV size agg h (get rs p) = some r) :
    ∃ g', GLe g g' ∧ Inv cx N hb0 T (putR (some p) r.1 rs) r.2.1 (fl.or r.2.2) g' a w := by
  simp only [Ow.step1] at hs
  obtain ⟨hc, hk⟩ := cnd_eq_some hs
  simp only [Bool.and_eq_true, decide_eq_true_eq] at hc
  obtain ⟨hnp, _⟩ := hc
  have hpd : S.pd = none := by simpa [Ow.noPd] using hnp
  obtain ⟨_, rfl⟩ := kill_some hk
  have h1 : Inv cx N hb0 ⟨offReg p S.own, offPair p S.al, offPair p S.la, S.pd⟩ rs h fl g a w := hi.weaken (fun x hx => (mem_offReg.1 hx).1) (fun x hx => (mem_offPair.1 hx).1) (fun x hx => (mem_offPair.1 hx).1) rfl
  have hreg := hi.F.regs p
  have fin : ∀ {v : V} {xs : List V}, get rs p = v → pureL size agg h v = some xs → ∃ g', GLe g g' ∧ Inv cx N hb0 ⟨offReg p S.own, offPair p S.al, offPair p S.la, S.pd⟩ (putR (some p) (.sl xs) rs) (mkill h v) (fl.or .no) g' a w := fun {v xs} e hp => by
    rw [e] at hreg
    obtain ⟨g', hle, _, hvr, h2⟩ := h1.freeze hpd hreg hp
    exact ⟨g', hle, by rw [Fl.or_no]; exact h2.setReg hpd (fun x hx => (mem_offReg.1 hx).2) hvr⟩
  unfold frzrV at hv
  split at hv
  · rename_i xs e
    cases hv
    rw [e] at hreg
    exact ⟨g, GLe.refl g, by rw [Fl.or_no]; exact h1.setReg hpd (fun x hx => (mem_offReg.1 hx).2) hreg⟩
  · rename_i e
    obtain ⟨xs, hp, hv⟩ := bnd_eq_some hv
    cases hv
    exact fin e hp
  · rename_i e
    obtain ⟨xs, hp, hv⟩ := bnd_eq_some hv
    cases hv
    exact fin e hp
  · rename_i e
    cases hv
    rw [e] at hreg
    exact ⟨g, GLe.refl g, by rw [Fl.or_no]; exact h1.setReg hpd (fun x hx => (mem_offReg.1 hx).2) (by rw [hreg.nsl_inv]; exact .cell .nils)⟩
  · cases hv
end
end Go.Vm

/- A cell's list taken up, given to it, let go. -/
set_option linter.unusedVariables false
set_option linter.unusedSimpArgs false
namespace Go.Vm

section
variable {P : Program} {R : Nat → Option Nat} {Dt : Prop} {cx : Cx Dt} {N : Nat} {hb0 : Heap} {S T : Ow} {rs : Regs} {h : Heap} {fl fl' : Fl} {g : Gh} {a : Act} {w : World} {o : Oper} {gd vop : VOp}

theorem cell_of (hi : HRead g h w) {i o : Nat} {c : List V × List (Nat × Nat)} (hc : cellsAt h i = some c) {s : V} (hs : c.1[o]? = some s) : ∃ b u, g.mu i = some b ∧ w.cell? ⟨b, o, none⟩ = some u ∧ VR g u s := by
  obtain ⟨b, us, t, l, r, h1, h2, h3, h4, _⟩ := hi.cells hc
  obtain ⟨u, hu, hv⟩ := h4.get o s hs
  exact ⟨b, u, h1, by rw [cell_of_heap h2]; exact pre_get h3 hu, hv⟩
theorem mnewV_cell {h : Heap} {size n : Nat} : (mnewV h size n).isCell = true := by
  unfold mnewV
  cases decide (n = 0) <;> rfl
theorem ownNot_mem {o : Nat} {own : List (Nat × Nat)} (h : ownNot o own = true) (z : Nat) : (o, z) ∉ own := fun hm => by
  have := (List.all_eq_true.1 h) _ hm
  simp at this
theorem hset_hset {h : Heap} {i : Nat} {x y : Obj} : hset (hset h i x) i y = hset h i y := by simp [hset]
theorem hset_app {h l : Heap} {i : Nat} {x : Obj} (hi : i < h.length) : hset (h ++ l) i x = hset h i x ++ l := by simp [hset, List.set_append_left, hi]

theorem thwc_ok (hi : Inv cx N hb0 S rs h fl g a w) {p off size : Nat} {pv : V} (hs : S.step1 R none (.thwc p off size) = some T) {r : V × Heap × Fl} (hv : thwcV cx.n0 size h pv = some r) :
    ∃ g', GLe g g' ∧ Inv cx N hb0 T (putR none r.1 rs) r.2.1 (fl.or r.2.2) g' a w := by
  simp only [Ow.step1] at hs
  obtain ⟨hc0, hk⟩ := cnd_eq_some hs
  cases hk
  simp only [Bool.and_eq_true] at hc0
  have hpd : S.pd = none := by simpa [Ow.noPd] using hc0.1
  unfold thwcV at hv
  split at hv
  · rename_i i o
    obtain ⟨c, hc, hv⟩ := bnd_eq_some hv
    obtain ⟨hown, hv⟩ := cnd_eq_some hv
    obtain ⟨xs, hx, hv⟩ := bnd_eq_some hv
    cases hv
    have hx' : c.1[o]? = some (.own xs) := by
      unfold ownV at hx
      split at hx
      · rename_i e2; cases hx; exact e2
      · cases hx
    obtain ⟨b, u, hb, hcell, _⟩ := cell_of hi.G.hr hc hx'
    have hci := cellsAt_inv hc
    have hlt := lt_of_get hci
    obtain ⟨hO, hf⟩ := hi.own0 hpd
    have hheld : Held S.own none h g a.tmps w (.cell i o) (size + 1000000) u := ⟨c.1, c.2, b, hci, ownHas_mem hown, (fun d e => by cases e), hb, hcell⟩
    obtain ⟨xs', ⟨cs', own', g1, g2⟩, hcont⟩ := hO.contc i o _ u hheld (isLin_add size)
    rw [hci] at g1
    cases g1
    rw [hx'] at g2
    cases g2
    rw [Nat.add_sub_cancel] at hcont
    have hlin := (hO.own _ _ _ hheld).lin (isLin_add size)
    rw [Nat.add_sub_cancel] at hlin
    have h1 := hi.dropCell hpd hci hb (own' := ownDel o c.2) (fun x hx => (List.mem_filter.1 hx).1)
    have h2 := h1.flag (fl' := fl.or ⟨[], [], true⟩) (or_wr (cx := cx)).1 (or_wr (cx := cx)).2.1 (or_wr (cx := cx)).2.2.1
    obtain ⟨g', hle, hvr, h3⟩ := h2.thaw hpd hlin hcont (fun b' hb' => by
      obtain ⟨f1, f2, _⟩ := hO.blk _ _ _ b' hheld hb'
      refine ⟨f1, .inr ((or_wr (cx := cx)).2.2.2 rfl), fun k hk => f2 k (liveAt_set hk ⟨_, hci, rfl⟩), fun q z y hq hqb => ?_⟩
      have hq2 : Held S.own none h g a.tmps w q z y ∧ q ≠ .cell i o := by
        cases q with
        | reg r off => exact ⟨hq, fun e => by cases e⟩
        | cell i' j' =>
          obtain ⟨cs', own2, c2, k1, k2, k3⟩ := hq
          by_cases e : i' = i
          · subst e
            rw [hset_at hlt] at k1
            cases k1
            refine ⟨⟨c.1, c.2, c2, hci, (List.mem_filter.1 k2).1, k3⟩, fun e => ?_⟩
            cases e
            have := (List.mem_filter.1 k2).2
            simp at this
          · rw [hset_ne e] at k1
            exact ⟨⟨cs', own2, c2, k1, k2, k3⟩, fun e2 => by cases e2; exact e rfl⟩
      exact hq2.2 (hO.dis _ _ _ _ _ _ b' hq2.1 hheld hqb hb'))
    have hlen : (hset h i (.cells c.1 (ownDel o c.2))).length = h.length := by simp [hset]
    have hvr' : VR g' u (mnewV h size xs.length) := by unfold mnewV at hvr ⊢; rw [hlen] at hvr; exact hvr
    have hlt2 : i < (hset h i (.cells c.1 (ownDel o c.2))).length := by rw [hlen]; exact hlt
    have h4 := h3.setV hpd (i := i) (j := o) (b := b) (cs := c.1) (own := ownDel o c.2) (v := mnewV h size xs.length) (fl' := fl.or ⟨[], [i], true⟩) (by rw [List.getElem?_append_left hlt2]; exact hset_at hlt) (hle.mu _ _ hb) hcell hvr' mnewV_cell
      (fun z hm => by have := (List.mem_filter.1 hm).2; simp at this) (fun x hx => by simp only [Fl.or, addE_nil] at hx; exact mem_addE.2 (.inl hx)) (fun x hx => by simp only [Fl.or, addE_nil] at hx ⊢; exact hx) (fun _ => by simp [Fl.or]) (.inl (mem_addE.2 (.inr (by simp))))
    rw [hset_app hlt2, hset_hset] at h4
    exact ⟨g', hle, h4⟩
  · cases hv

theorem mkill_other {i : Nat} {s : V} {cs : List V} {n : Nat} (hm : mcells h s = some (cs, n)) (hn : mnot i s = true) : (mkill h s)[i]? = h[i]? := by
  cases s <;> first | rfl | (simp only [mnot, decide_eq_true_eq] at hn; exact hset_ne (Ne.symm hn)) | (cases hm)
theorem pureL_cells {size : Nat} {agg : Bool} {s : V} {xs : List V} (hp : pureL size agg h s = some xs) : ∃ cs n, mcells h s = some (cs, n) := by
  unfold pureL at hp
  obtain ⟨⟨cs, n⟩, hm, _⟩ := bnd_eq_some hp
  exact ⟨cs, n, hm⟩

theorem frzc_ok (hi : Inv cx N hb0 S rs h fl g a w) {p off size : Nat} {agg : Bool} {pv : V} (hs : S.step1 R none (.frzc p off size agg) = some T) {r : V × Heap × Fl} (hv : frzcV size agg h pv = some r) :
    ∃ g', GLe g g' ∧ Inv cx N hb0 T (putR none r.1 rs) r.2.1 (fl.or r.2.2) g' a w := by
  simp only [Ow.step1] at hs
  obtain ⟨hc0, hk⟩ := cnd_eq_some hs
  cases hk
  simp only [Bool.and_eq_true] at hc0
  have hpd : S.pd = none := by simpa [Ow.noPd] using hc0.1
  unfold frzcV at hv
  split at hv
  · rename_i i o
    obtain ⟨c, hc, hv⟩ := bnd_eq_some hv
    obtain ⟨s, hs, hv⟩ := bnd_eq_some hv
    obtain ⟨xs, hp, hv⟩ := bnd_eq_some hv
    obtain ⟨hcond, hv⟩ := cnd_eq_some hv
    cases hv
    simp only [Bool.and_eq_true] at hcond
    obtain ⟨b, u, hb, hcell, hvr⟩ := cell_of hi.G.hr hc hs
    have hci := cellsAt_inv hc
    obtain ⟨cs, n, hm⟩ := pureL_cells hp
    obtain ⟨g', hle, hmu, hvr', h1⟩ := hi.freeze hpd hvr hp
    have h2 := h1.setV hpd (i := i) (j := o) (b := b) (cs := c.1) (own := c.2) (v := .sl xs) (fl' := fl) (by rw [mkill_other hm hcond.2]; exact hci) (hle.mu _ _ hb) hcell hvr' rfl (ownNot_mem hcond.1) (fun _ h => h) (fun _ h => h) id (.inr rfl)
    exact ⟨g', hle, by rw [Fl.or_no]; exact h2⟩
  · cases hv

theorem setc_ok (hi : Inv cx N hb0 S rs h fl g a w) {p off size : Nat} {agg : Bool} {pv : V} (hs : S.step1 R none (.setc p off size agg) = some T) {r : V × Heap × Fl} (hv : setcV size agg h pv = some r) :
    ∃ g', GLe g g' ∧ Inv cx N hb0 T (putR none r.1 rs) r.2.1 (fl.or r.2.2) g' a w := by
  simp only [Ow.step1] at hs
  obtain ⟨hc0, hk⟩ := cnd_eq_some hs
  cases hk
  simp only [Bool.and_eq_true] at hc0
  have hpd : S.pd = none := by simpa [Ow.noPd] using hc0.1
  unfold setcV at hv
  split at hv
  · rename_i i o
    obtain ⟨c, hc, hv⟩ := bnd_eq_some hv
    obtain ⟨s, hs, hv⟩ := bnd_eq_some hv
    obtain ⟨xs, hp, hv⟩ := bnd_eq_some hv
    obtain ⟨hcond, hv⟩ := cnd_eq_some hv
    cases hv
    simp only [Bool.and_eq_true] at hcond
    obtain ⟨hsz, hnot, hmn⟩ := hcond
    obtain ⟨b, u, hb, hcell, hvr⟩ := cell_of hi.G.hr hc hs
    have hci := cellsAt_inv hc
    obtain ⟨hpos, hms, cs, n, us, hm, hr, hcr, hlen, hall⟩ := pureL_inv hi.G.hr hvr hp
    obtain ⟨h1, hklen, hfree⟩ := hi.offM hpd hm
    obtain ⟨ad, cap, hu, hncap, hblk⟩ := mown hi.G.hr hvr hm hms
    have hci' : (mkill h s)[i]? = some (.cells c.1 c.2) := by rw [mkill_other hm hmn]; exact hci
    have hlt := lt_of_get hci'
    have h2 := h1.setV hpd (i := i) (j := o) (b := b) (cs := c.1) (own := c.2) (v := .own xs) (fl' := fl) hci' hb hcell (.own (by rw [hu]; rfl)) rfl (ownNot_mem hnot) (fun _ h => h) (fun _ h => h) id (.inr rfl)
    have hjlt : o < c.1.length := (List.getElem?_eq_some_iff.1 hs).1
    have noPl : ∀ {b'}, NoPl S (mkill h s) g a w b' → NoPl S (hset (mkill h s) i (.cells (c.1.set o (.own xs)) c.2)) g a w b' := fun {b'} hno q z y hq => by
      refine hno q z y ?_
      cases q with
      | reg r off => exact hq
      | cell i' j' =>
        obtain ⟨cs', own2, c2, k1, k2, k3⟩ := hq
        by_cases e : i' = i
        · subst e
          rw [hset_at hlt] at k1
          cases k1
          exact ⟨c.1, c.2, c2, hci', k2, k3⟩
        · rw [hset_ne e] at k1
          exact ⟨cs', own2, c2, k1, k2, k3⟩
    have h3 := h2.giveCell hpd (i := i) (j := o) (b := b) (sz := size) (cs := c.1.set o (.own xs)) (xs := xs) (own := c.2) (hset_at hlt) (List.getElem?_set_self hjlt) hb hcell (ownNot_mem hnot) (by
      refine ⟨ad, n, cap, hu, ?_⟩
      rcases hblk with h | ⟨b', lo, rfl, hnn, hmu, hx⟩
      · exact .inl h
      · obtain ⟨cur, t, rfl, g1, g2, _⟩ := hx hsz
        exact .inr ⟨hncap, hpos, b', cur, t, rfl, g1, g2, (hfree b' hnn hmu).2.2.2.2.1⟩) (by
      refine ⟨hall, ?_⟩
      rcases hblk with ⟨rfl, rfl, rfl⟩ | ⟨b', lo, rfl, hnn, hmu, hx⟩
      · exact .inl ⟨hu, List.length_eq_zero_iff.1 hlen⟩
      · obtain ⟨cur, t, rfl, g1, g2, _⟩ := hx hsz
        refine .inr ⟨b', cap, us, by rw [hlen]; exact hu, fun j x hx => ?_, hcr⟩
        rcases hr with ⟨e, _, e2⟩ | ⟨_, _, _, _, e2⟩ | ⟨b2, o2, cap2, e, _, k3⟩
        · subst e2; simp at hx
        · subst e2; simp at hx
        · rw [hu] at e
          cases e
          have := k3 j x hx
          rwa [Nat.zero_add] at this) (fun c' hc' => by
      rcases hblk with ⟨rfl, rfl, rfl⟩ | ⟨b', lo, rfl, hnn, hmu, hx⟩
      · rw [hu] at hc'; cases hc'
      · have : c' = b' := by
          rw [hu] at hc'
          simp only [ownBlk, isLin_add, true_or, if_true, Option.some.injEq] at hc'
          exact hc'.symm
        subst this
        obtain ⟨f1, f2, f3, f4, f5, f6⟩ := hfree c' hnn hmu
        exact ⟨f1, fun k hk => f3 k (liveAt_set hk ⟨_, hci', rfl⟩), noPl f4⟩)
    rw [hset_hset] at h3
    exact ⟨g, GLe.refl g, by rw [Fl.or_no]; exact h3⟩
  · cases hv
end
end Go.Vm

/- One operation, carried out: a new map; an entry put into a map. -/
set_option linter.unusedVariables false
set_option linter.unusedSimpArgs false
namespace Go.Vm
section
variable {P : Program} {R : Nat → Option Nat} {Dt : Prop} {cx : Cx Dt} {N : Nat} {hb0 : Heap} {S T : Ow} {rs : Regs} {h : Heap} {fl : Fl} {g : Gh} {a : Act} {w : World} {o : Oper} {gd vop : VOp}

theorem mkmap_ok (hi : Inv cx N hb0 S rs h fl g a w) (htr : trOp P o.op o.type gd = some .mkmap) (hs : S.step1 R o.dst .mkmap = some T) (hd : ∀ x, o.dst = some x → x < N) :
    ∃ u w' g', (execOp a.eval o).run P w = .ok (.value u) w' ∧ GLe g g' ∧ Inv cx N hb0 T (putR o.dst (.map (some h.length)) rs) (h ++ [.map []]) fl g' (a.put o.dst u) w' := by
  obtain ⟨t, hop⟩ := trOp_mkmap htr
  have hk : S.kill o.dst = some T := hs
  have hlen := hi.G.muNone (Nat.le_refl h.length)
  have hle : GLe g (g.addMu h.length w.heap.size) := Gh.addMu_le hlen
  have h1 := hi.push (O := .map #[] 0) (x := .map []) ⟨#[], 0, heap_alloc_new w _, trivial, MapKept.stamped_empty 0⟩ (fun cs' own' e' j sz u hm hc => by cases e')
  refine ⟨.map (some w.heap.size), _, _, ?_, hle, h1.put hd hk (.map (by simp [Gh.addMu]))⟩
  unfold execOp
  rw [hop]
  simp [Instr.makeMap, Result.andThen]

def World.putO (w : World) (b : Nat) (o : Go.Obj) : World := { w with heap := w.heap.setIfInBounds b o }
theorem putO_at {b : Nat} {o o' : Go.Obj} (hb : w.heap[b]? = some o) : (World.putO w b o').heap[b]? = some o' := by
  have hlt : b < w.heap.size := (Array.getElem?_eq_some_iff.1 hb).1
  simp [World.putO, hlt]
theorem putO_other {b k : Nat} {o' : Go.Obj} (hk : k ≠ b) : (World.putO w b o').heap[k]? = w.heap[k]? := by simp [World.putO, Ne.symm hk]
theorem sameBits_int (n : Nat) (k : IntKind) (x : Int) : Instr.sameBits n (.int k x) (.int k x) = true := by cases n <;> simp [Instr.sameBits]
theorem sameBits_str (n : Nat) (s : ByteArray) : Instr.sameBits n (.string s) (.string s) = true := by
  have : (s == s) = true := by
    show (s.data == s.data) = true
    simp
  cases n <;> simp [Instr.sameBits, this]
theorem cellEq_ne {m : Imm} {q : SK} {u : Value} {k k' : V} (h : cellEq q k k' = some false) (h1 : CR m u k') (h2 : CR m u k) : False := by
  cases q <;> cases k <;> cases k' <;> simp only [cellEq, reduceCtorEq] at h
  · cases h1; cases h2; simp at h
  · cases h1; cases h2; simp at h
  · cases h1; cases h2; simp at h
theorem putV_sound {t : TypeId} {q : SK} (hq : keyK P t = some q) {d : TypeDesc} (hd : P.underlying t = some d) {uk uv : Value} {k v : V} (hx : VR g uk k) (hck : CR g.imm uk k) (hv : VR g uv v) :
    ∀ (es : List MapEntry) (ps ps' : List (V × V)) (n : Nat), ERels g es ps → putV q k v ps = some ps' →
      (Instr.findNow d uk es n = some none ∧ (∀ x ∈ es, x.key ≠ uk) ∧ ∀ b, ERels g (es ++ [⟨uk, uv, b⟩]) ps') ∨
      ∃ i e, es[i]? = some e ∧ Instr.findNow d uk es n = some (some (n + i, e.val)) ∧ cellEq q k (ps[i]?.getD (k, v)).1 = some true ∧ CR g.imm e.key (ps[i]?.getD (k, v)).1 ∧ ERels g (es.set i ⟨uk, uv, e.born⟩) ps'
  | [], [], ps', n, _, h => by
    simp only [putV, Option.some.injEq] at h
    subst h
    exact .inl ⟨rfl, (fun x hx => by cases hx), fun b => ⟨⟨hck, hv⟩, trivial⟩⟩
  | e :: es, (k', v') :: ps, ps', n, hrel, h => by
    simp only [ERels] at hrel
    simp only [putV] at h
    obtain ⟨b, hb, h⟩ := bnd_eq_some h
    have hs := sameNow_of hq hd hx hrel.1.1 hb
    cases b with
    | true =>
      simp only [cnd_true, Option.some.injEq] at h
      subst h
      refine .inr ⟨0, e, rfl, by simp only [Instr.findNow, hs]; rfl, hb, hrel.1.1, ?_⟩
      exact ⟨⟨hck, hv⟩, hrel.2⟩
    | false =>
      simp only [cnd_false] at h
      obtain ⟨l, hl, h⟩ := bnd_eq_some h
      cases h
      rcases putV_sound hq hd hx hck hv es ps l (n + 1) hrel.2 hl with ⟨h1, h0, h2⟩ | ⟨i, e', h1, h2, h3, h4, h5⟩
      · refine .inl ⟨by simp only [Instr.findNow, hs]; exact h1, fun x hx' => ?_, fun b => ⟨hrel.1, h2 b⟩⟩
        rcases List.mem_cons.1 hx' with rfl | hx'
        · exact fun e => cellEq_ne hb (e ▸ hrel.1.1) hck
        · exact h0 x hx'
      · refine .inr ⟨i + 1, e', by simpa using h1, by simp only [Instr.findNow, hs, h2]; congr 3; omega, by simpa using h3, by simpa using h4, ?_⟩
        exact ⟨hrel.1, h5⟩
  | [], _ :: _, _, _, hrel, _ => hrel.elim
  | _ :: _, [], _, _, hrel, _ => hrel.elim
theorem putV_lt {q : SK} {k v : V} {n : Nat} (hk : k.lt n = true) (hv : v.lt n = true) : ∀ {ps ps' : List (V × V)}, putV q k v ps = some ps' → pairsLt n ps = true → pairsLt n ps' = true
  | [], ps', h, _ => by
    simp only [putV, Option.some.injEq] at h
    subst h
    simp [pairsLt, hk, hv]
  | (k', v') :: ps, ps', h, hl => by
    simp only [putV] at h
    obtain ⟨b, hb, h⟩ := bnd_eq_some h
    simp only [pairsLt, Bool.and_eq_true] at hl
    cases b with
    | true =>
      simp only [cnd_true, Option.some.injEq] at h
      subst h
      simp only [pairsLt, Bool.and_eq_true]
      simp_all
    | false =>
      simp only [cnd_false] at h
      obtain ⟨l, h1, h⟩ := bnd_eq_some h
      cases h
      have := putV_lt hk hv h1 (by simp_all)
      simp only [pairsLt, Bool.and_eq_true]
      simp_all
theorem delV_lt {q : SK} {k : V} {n : Nat} : ∀ {ps ps' : List (V × V)}, delV q k ps = some ps' → pairsLt n ps = true → pairsLt n ps' = true
  | [], ps', h, _ => by
    simp only [delV, Option.some.injEq] at h
    subst h
    simp [pairsLt]
  | (k', v') :: ps, ps', h, hl => by
    simp only [delV] at h
    obtain ⟨b, hb, h⟩ := bnd_eq_some h
    simp only [pairsLt, Bool.and_eq_true] at hl
    cases b with
    | true =>
      simp only [cnd_true, Option.some.injEq] at h
      subst h
      simp_all
    | false =>
      simp only [cnd_false] at h
      obtain ⟨l, h1, h⟩ := bnd_eq_some h
      cases h
      have := delV_lt h1 hl.2
      simp only [pairsLt, Bool.and_eq_true]
      exact ⟨hl.1, this⟩
theorem or_no' : fl.or .no = fl := by cases fl; simp [Fl.or]
theorem mapAt_inv {i : Nat} {es : List (V × V)} (hm : mapAt h i = some es) : h[i]? = some (.map es) := by
  unfold mapAt hget at hm
  split at hm
  · rename_i es' hh
    cases hm
    exact hh
  · cases hm
theorem mapset_core (hi : Inv cx N hb0 S rs h fl g a w) {i b : Nat} {es es' : List (V × V)} (hm : mapAt h i = some es) (hb : g.mu i = some b) {r0 : Array MapEntry} {c0 : Nat} (hheap : w.heap[b]? = some (.map r0 c0)) {r1 : Array MapEntry} {c1 : Nat} (hrel : ERels g r1.toList es') (hst : MapKept.Stamped r1 c1)
    {esc : List Nat} (hlt : i ∈ esc ∨ ∀ m, pairsLt m es = true → pairsLt m es' = true) (hpd : S.pd = none) :
    Inv cx N hb0 (offLa S) rs (hset h i (.map es')) (fl.or ⟨cnd (decide (i < cx.n0)) [i] [], esc, false⟩) g a (World.putO w b (.map r1 c1)) := by
  have hci := mapAt_inv hm
  have hlive : LiveAt h i := ⟨_, hci, rfl⟩
  have hlt2 : b < w.heap.size := (Array.getElem?_eq_some_iff.1 hheap).1
  have hmay := (hi.G.muW i b hb).2 hlive
  obtain ⟨pd, hO, hf⟩ := hi.O
  have heap : ∀ k, k ≠ b → (World.putO w b (.map r1 c1)).heap[k]? = w.heap[k]? := fun k hk => putO_other hk
  have hnew := putO_at (o' := .map r1 c1) hheap
  have hpdn : pd = none := by
    rcases hf.pd with ⟨_, h2⟩ | ⟨p, d, i', j', h2, h3, h4⟩
    · exact h2
    · rw [hpd] at h2; cases h2
  refine ⟨hi.W.step (row := some b) ⟨rfl, rfl, rfl, by simp [World.putO], fun k _ hk => heap k (fun e => hk (e ▸ rfl))⟩ (fun k e => ?_) (fun _ e => ?_), hi.G.set hlive hb (by simp [World.putO]) (fun k _ hk => heap k hk) ?_ ⟨_, _, hnew, hrel, hst⟩ (fun j hj => mem_addE.2 (.inl hj)) (fun e => by simp [Fl.or, e]) ?_, ⟨pd, ?_, ⟨hf.al, fun t p hm => by simp [offLa] at hm, hf.pd⟩⟩, hi.F⟩
  · cases e
    refine ⟨hmay, ?_⟩
    by_cases hn : i < cx.n0
    · exact .inr (Cx.wrOk.or' (.inr ⟨i, by rw [decide_eq_true hn]; simp, hn, .inl (by rw [← hi.G.muOld i hn]; exact hb)⟩) fl)
    · rcases hi.G.new i b (by omega) hb with h1 | h1
      · exact .inl h1
      · exact .inr (Cx.wrOk.or (.inl h1) _)
  · exact e.or _
  · intro vs t' fr' hv
    rw [hheap] at hv
    cases hv
  · rcases hlt with h1 | h1
    · exact .inl (mem_addE.2 (.inr h1))
    · refine .inr fun hil ox hox m hold => ?_
      rw [hci] at hox
      cases hox
      exact h1 m hold
  · have hilt : i < h.length := hi.G.dom i b hb
    have nocell : ∀ p sz x, Held S.own pd (hset h i (.map es')) g a.tmps (World.putO w b (.map r1 c1)) p sz x → Held S.own pd h g a.tmps w p sz x := fun p sz x hp => by
      cases p with
      | reg r off => exact hp
      | cell i' j =>
        obtain ⟨cs, own, b', h1, h2, h3, h4, h5⟩ := hp
        have hne : i' ≠ i := fun e => by
          subst e
          simp [hset, hilt] at h1
        have h1' : h[i']? = some (.cells cs own) := by
          unfold hset at h1
          rw [List.getElem?_set_ne (Ne.symm hne)] at h1
          exact h1
        have hbb : b' ≠ b := fun e => hne (hi.G.inj i' i b ⟨_, h1', rfl⟩ hlive (e ▸ h4) hb)
        exact ⟨cs, own, b', h1', h2, h3, h4, by rw [← cell_same (heap b' hbb)]; exact h5⟩
    refine hO.map (fun p q => p = q) (fun _ _ _ e1 e2 => e1.trans e2.symm) (fun p sz u hp => .inr ⟨p, sz, rfl, nocell p sz u hp, .inl rfl⟩) (fun p q b l e hn => e ▸ hn) (fun q sz u k hq _ hk => ⟨⟨heap k (fun e => ?_), fun _ h => h⟩, fun j hl hmu => ⟨liveAt_set hl hlive, hmu⟩⟩) (ImmLe.refl _) (fun r off z hm _ => ⟨r, hm, rfl, rfl, rfl⟩) (fun i' j z u q hp _ e _ => by
      cases e
      refine ⟨i', j, rfl, fun xs ⟨cs, own, h1, h2⟩ => ⟨cs, own, ?_, h2⟩⟩
      have hne : i' ≠ i := fun e => by
        subst e
        rw [hci] at h1; cases h1
      unfold hset
      rw [List.getElem?_set_ne (Ne.symm hne)]
      exact h1)
    subst e
    obtain ⟨n, cap, cur, t, _, h1⟩ := (hO.own q sz u hq).at hk
    rw [hheap] at h1; cases h1
theorem offLa_kill {T0 : Ow} (hpd : S.pd = none) (hk : S.kill o.dst = some T0) : (offLa S).kill o.dst = some (offLa T0) := by
  cases hdst : o.dst with
  | none =>
    rw [hdst] at hk
    cases hk
    rfl
  | some d =>
    rw [hdst] at hk
    obtain ⟨h1, rfl⟩ := kill_some hk
    show cnd (pdFree d S.pd) _ none = _
    rw [h1]
    rfl
theorem mapupd_ok {C : Callee} (hi : Inv cx N hb0 S rs h fl g a w) {q : SK} {m k v : Arg} (htr : trOp P o.op o.type gd = some (.mapupd q m k v)) (hs : S.step1 R o.dst (.mapupd q m k v) = some T) (hd : ∀ x, o.dst = some x → x < N)
    {r : V × Heap × Fl} (hv : evalOp C cx.n0 hb0.length rs h (.mapupd q m k v) = some r) :
    ∃ w', (execOp a.eval o).run P w = .ok .skip w' ∧ Inv cx N hb0 T (putR o.dst r.1 rs) r.2.1 (fl.or r.2.2) g (a.put o.dst Go.undef) w' := by
  obtain ⟨t, kt, e, x, y, z, hop, ht, hq, hxa, hya, hza⟩ := trOp_mapupd htr
  simp only [Ow.step1] at hs
  obtain ⟨hnp, hs⟩ := cnd_eq_some hs
  obtain ⟨T0, hk, hs⟩ := bnd_eq_some hs
  cases hs
  have hpd : S.pd = none := by simpa [Ow.noPd] using hnp
  have hmv := trArg_sound hi.F.regs hxa
  have hkv := trArg_sound hi.F.regs hya
  have hvv := trArg_sound hi.F.regs hza
  simp only [evalOp] at hv
  unfold mapupdV at hv
  split at hv
  · rename_i i hme
    rw [hme] at hmv
    obtain ⟨b, hb, hmb⟩ := hmv.map_inv
    obtain ⟨es, hes, hv⟩ := bnd_eq_some hv
    obtain ⟨hkey, hv⟩ := cnd_eq_some hv
    obtain ⟨es', hput, hv⟩ := bnd_eq_some hv
    cases hv
    obtain ⟨b', hb', r0, c0, hheap, hrel, hst⟩ := hi.G.hr.obj i _ (mapAt_inv hes) rfl
    rw [hb] at hb'; cases hb'
    have hdd : ∃ d, P.underlying kt = some d := by
      rcases keyK_inv hq with ⟨_, k, h⟩ | ⟨_, h⟩ <;> exact ⟨_, h⟩
    obtain ⟨d, hdd⟩ := hdd
    have hck : CR g.imm (a.eval y) (k.val rs) ∧ Instr.sameBits 10000 (a.eval y) (a.eval y) = true := by
      generalize k.val rs = kv at *
      cases q <;> cases kv <;> simp only [isKey, Bool.false_eq_true] at hkey
      · rw [hkv.int_inv]; exact ⟨.int _ _, sameBits_int _ _ _⟩
      · obtain ⟨s, e1, e2⟩ := hkv.str_inv
        rw [e1]
        subst e2
        exact ⟨.str _, sameBits_str _ _⟩
    have hchk := checkKey_run (P := P) (w := w) hq hkv hkey false
    have hlt : ∀ n : Nat, (v.val rs).lt 0 = true → pairsLt n es = true → pairsLt n es' = true := fun n hl => putV_lt (by
      generalize k.val rs = kv at *
      cases q <;> cases kv <;> simp only [isKey, Bool.false_eq_true] at hkey <;> simp [V.lt]) (V.lt_mono (Nat.zero_le _) _ hl) hput
    have hesc : i ∈ cnd ((v.val rs).lt 0) [] [i] ∨ ∀ m, pairsLt m es = true → pairsLt m es' = true := by
      cases hl : (v.val rs).lt 0
      · exact .inl (by simp)
      · exact .inr fun n => hlt n hl
    have fin : ∀ r1 c1, ERels g r1.toList es' → MapKept.Stamped r1 c1 → (Instr.mapUpdate t (.map (some b)) (a.eval y) (a.eval z)).run P w = .ok () (World.putO w b (.map r1 c1)) →
        ∃ w', (execOp a.eval o).run P w = .ok .skip w' ∧ Inv cx N hb0 (offLa T0) (putR o.dst .undef rs) (hset h i (.map es')) (fl.or ⟨cnd (decide (i < cx.n0)) [i] [], cnd ((v.val rs).lt 0) [] [i], false⟩) g (a.put o.dst Go.undef) w' := fun r1 c1 h1 h0 h2 => by
      refine ⟨World.putO w b (.map r1 c1), ?_, (mapset_core hi hes hb hheap h1 h0 hesc hpd).put hd (offLa_kill hpd hk) .undef⟩
      unfold execOp
      rcases hop with hop | hop <;> rw [hop] <;> simp only [Sem.run_bind, hmb, h2, Result.andThen_ok, Sem.run_pure]
    have hobj : (getObj b).run P w = .ok (.map r0 c0) w := by simp [getObj, Sem.run, hheap]
    have hset : ∀ o', (setObj b o').run P w = .ok () (World.putO w b o') := fun o' => by simp [setObj, Sem.run, hheap, World.putO]
    rcases putV_sound hq hdd hkv hck.1 hvv r0.toList es es' 0 hrel hput with ⟨h1, h0, h2⟩ | ⟨j, en, h1, h2, h3, h4, h5⟩
    · refine fin (r0.push ⟨a.eval y, a.eval z, c0⟩) (c0 + 1) (by simpa using h2 c0) (MapKept.stamped_push hst h0) ?_
      have hfk : (Instr.findKey kt (a.eval y) r0.toList).run P w = .ok none w := by simp only [Instr.findKey, Sem.run_bind, run_underlying hdd, Result.andThen_ok, h1]; rfl
      simp only [Instr.mapUpdate, Sem.run_bind, run_underlying ht, Result.andThen_ok, hobj, hchk, hfk, hset]
    · have hkk : en.key = a.eval y := by
        generalize k.val rs = kv at *
        generalize (es[j]?.getD (kv, v.val rs)).1 = kw at *
        cases q <;> cases kv <;> simp only [isKey, Bool.false_eq_true] at hkey
        · cases kw <;> simp only [cellEq, reduceCtorEq] at h3
          obtain ⟨e1, h6⟩ := cnd_eq_some h3
          have e1 := of_decide_eq_true e1
          simp only [Option.some.injEq, beq_iff_eq] at h6
          clear h3
          subst e1 h6
          rw [hkv.int_inv]
          exact (VR.cell h4 : VR g _ _).int_inv
        · cases kw <;> simp only [cellEq, reduceCtorEq] at h3
          simp only [Option.some.injEq, beq_iff_eq] at h3
          subst h3
          obtain ⟨s, e3, e4⟩ := hkv.str_inv
          obtain ⟨s', e5, e6⟩ := (VR.cell h4 : VR g _ _).str_inv
          rw [e3, e5]
          congr 1
          have e7 := e6.trans e4.symm
          cases s; cases s'
          simp only [ByteArray.mk.injEq]
          exact Array.toList_inj.1 e7
      have hj : r0[j]? = some en := by simpa using h1
      refine fin (r0.modify j fun e => { e with key := a.eval y, val := a.eval z }) c0 ?_ (MapKept.stamped_modify hst j _ (fun _ _ => rfl) fun e _ he => by rw [hj] at he; cases he; exact hkk.symm) ?_
      · have : (r0.modify j fun e => { e with key := a.eval y, val := a.eval z }).toList = r0.toList.set j ⟨a.eval y, a.eval z, en.born⟩ := by
          apply List.ext_getElem?
          intro n
          rw [Array.getElem?_toList, Array.getElem?_modify, List.getElem?_set]
          by_cases hn : j = n
          · subst hn
            have hlt := (Array.getElem?_eq_some_iff.1 hj).1
            simp [hj, hlt, (Array.getElem?_eq_some_iff.1 hj).2]
          · simp [hn]
        rw [this]
        exact h5
      · have hfk : (Instr.findKey kt (a.eval y) r0.toList).run P w = .ok (some (j, en.val)) w := by
          simp only [Instr.findKey, Sem.run_bind, run_underlying hdd, Result.andThen_ok, h2, Nat.zero_add]; rfl
        have hks : (Instr.keyThatStays en.key (a.eval y)).run P w = .ok (a.eval y) w := by
          rw [hkk]; simp [Instr.keyThatStays, hck.2]
        simp only [Instr.mapUpdate, Sem.run_bind, run_underlying ht, Result.andThen_ok, hobj, hchk, hfk, hj, Option.map_some, Option.getD_some, hks, hset]
  · cases hv
theorem delV_sound {t : TypeId} {q : SK} (hq : keyK P t = some q) {d : TypeDesc} (hd : P.underlying t = some d) {uk : Value} {k : V} (hx : VR g uk k) :
    ∀ (es : List MapEntry) (ps ps' : List (V × V)) (n : Nat), ERels g es ps → delV q k ps = some ps' →
      (Instr.findNow d uk es n = some none ∧ ERels g es ps') ∨ ∃ i e, es[i]? = some e ∧ Instr.findNow d uk es n = some (some (n + i, e.val)) ∧ ERels g (es.eraseIdx i) ps'
  | [], [], ps', n, _, h => by
    simp only [delV, Option.some.injEq] at h
    subst h
    exact .inl ⟨rfl, trivial⟩
  | e :: es, (k', v') :: ps, ps', n, hrel, h => by
    simp only [ERels] at hrel
    simp only [delV] at h
    obtain ⟨b, hb, h⟩ := bnd_eq_some h
    have hs := sameNow_of hq hd hx hrel.1.1 hb
    cases b with
    | true =>
      simp only [cnd_true, Option.some.injEq] at h
      subst h
      exact .inr ⟨0, e, rfl, by simp only [Instr.findNow, hs]; rfl, hrel.2⟩
    | false =>
      simp only [cnd_false] at h
      obtain ⟨l, hl, h⟩ := bnd_eq_some h
      cases h
      rcases delV_sound hq hd hx es ps l (n + 1) hrel.2 hl with ⟨h1, h2⟩ | ⟨i, e', h1, h2, h3⟩
      · exact .inl ⟨by simp only [Instr.findNow, hs]; exact h1, hrel.1, h2⟩
      · exact .inr ⟨i + 1, e', by simpa using h1, by simp only [Instr.findNow, hs, h2]; congr 3; omega, hrel.1, h3⟩
  | [], _ :: _, _, _, hrel, _ => hrel.elim
  | _ :: _, [], _, _, hrel, _ => hrel.elim
theorem delete_ok {C : Callee} (hi : Inv cx N hb0 S rs h fl g a w) {q : SK} {m k : Arg} (htr : trOp P o.op o.type gd = some (.delete q m k)) (hs : S.step1 R o.dst (.delete q m k) = some T) (hd : ∀ x, o.dst = some x → x < N)
    {r : V × Heap × Fl} (hv : evalOp C cx.n0 hb0.length rs h (.delete q m k) = some r) :
    ∃ u w', (execOp a.eval o).run P w = .ok (.value u) w' ∧ Inv cx N hb0 T (putR o.dst r.1 rs) r.2.1 (fl.or r.2.2) g (a.put o.dst u) w' := by
  obtain ⟨x, y, t, ts, kt, e, hop, hts, ht, hq, hxa, hya⟩ := trOp_delete htr
  simp only [Ow.step1] at hs
  obtain ⟨hnp, hs⟩ := cnd_eq_some hs
  obtain ⟨T0, hk, hs⟩ := bnd_eq_some hs
  cases hs
  have hpd : S.pd = none := by simpa [Ow.noPd] using hnp
  have hmv := trArg_sound hi.F.regs hxa
  have hkv := trArg_sound hi.F.regs hya
  have hts0 : ts[0]? = some t := by
    rw [← Array.getElem?_toList]
    cases hl : ts.toList with
    | nil => rw [hl] at hts; cases hts
    | cons z l => rw [hl] at hts; simpa using hts
  have hunit : VR g (.tuple #[]) (.tup []) := .tup (us := []) .nil
  simp only [evalOp] at hv
  have exec : ∀ w', (Builtin.delete_ ts o.type #[a.eval x, a.eval y]).run P w = .ok (.tuple #[]) w' → (execOp a.eval o).run P w = .ok (.value (.tuple #[])) w' := fun w' h1 => by
    unfold execOp
    rw [hop]
    simp only [resolve, invoke, builtin, Sem.run_bind, Sem.run_pure, Result.andThen_ok]
    have : (#[x, y].map a.eval) = #[a.eval x, a.eval y] := by simp
    rw [this, h1]
    rfl
  unfold deleteV at hv
  split at hv
  · rename_i hme
    rw [hme] at hmv
    have hmn := hmv.nilm_inv
    obtain ⟨hkey, hv⟩ := cnd_eq_some hv
    cases hv
    have hchk := checkKey_run (P := P) (w := w) hq hkv hkey true
    refine ⟨_, w, exec w ?_, ?_⟩
    · simp [Builtin.delete_, hts0, run_underlying ht, hmn, hchk, Result.andThen]
    · have h1 := hi.put hd hk hunit
      rw [or_no']
      refine h1.weaken (fun x hx => hx) (fun x hx => hx) (fun x hx => by simp [offLa] at hx) rfl
  · rename_i i hme
    rw [hme] at hmv
    obtain ⟨b, hb, hmb⟩ := hmv.map_inv
    obtain ⟨es, hes, hv⟩ := bnd_eq_some hv
    obtain ⟨hkey, hv⟩ := cnd_eq_some hv
    obtain ⟨es', hput, hv⟩ := bnd_eq_some hv
    cases hv
    obtain ⟨b', hb', r0, c0, hheap, hrel, hst⟩ := hi.G.hr.obj i _ (mapAt_inv hes) rfl
    rw [hb] at hb'; cases hb'
    have hdd : ∃ d, P.underlying kt = some d := by
      rcases keyK_inv hq with ⟨_, k, h⟩ | ⟨_, h⟩ <;> exact ⟨_, h⟩
    obtain ⟨d, hdd⟩ := hdd
    have hchk := checkKey_run (P := P) (w := w) hq hkv hkey r0.isEmpty
    have fin : ∀ r1 c1, ERels g r1.toList es' → MapKept.Stamped r1 c1 → (Builtin.delete_ ts o.type #[a.eval x, a.eval y]).run P w = .ok (.tuple #[]) (World.putO w b (.map r1 c1)) →
        ∃ u w', (execOp a.eval o).run P w = .ok (.value u) w' ∧ Inv cx N hb0 (offLa T0) (putR o.dst (.tup []) rs) (hset h i (.map es')) (fl.or ⟨cnd (decide (i < cx.n0)) [i] [], [], false⟩) g (a.put o.dst u) w' := fun r1 c1 h1 h0 h2 =>
      ⟨.tuple #[], World.putO w b (.map r1 c1), exec _ h2, (mapset_core hi hes hb hheap h1 h0 (.inr fun n => delV_lt hput) hpd).put hd (offLa_kill hpd hk) hunit⟩
    have hobj : (getObj b).run P w = .ok (.map r0 c0) w := by simp [getObj, Sem.run, hheap]
    have hset : ∀ o', (setObj b o').run P w = .ok () (World.putO w b o') := fun o' => by simp [setObj, Sem.run, hheap, World.putO]
    rcases delV_sound hq hdd hkv r0.toList es es' 0 hrel hput with ⟨h1, h2⟩ | ⟨j, en, h1, h2, h3⟩
    · refine fin r0 c0 h2 hst ?_
      have hfk : (Instr.findKey kt (a.eval y) r0.toList).run P w = .ok none w := by simp only [Instr.findKey, Sem.run_bind, run_underlying hdd, Result.andThen_ok, h1]; rfl
      simp [Builtin.delete_, hts0, run_underlying ht, hmb, hobj, hchk, hfk, hset, Result.andThen]
    · refine fin (r0.eraseIdxIfInBounds j) c0 ?_ (MapKept.stamped_erase hst j) ?_
      · have hlt := (List.getElem?_eq_some_iff.1 h1).1
        have hlt' : j < r0.size := by simpa using hlt
        have : (r0.eraseIdxIfInBounds j).toList = r0.toList.eraseIdx j := by
          simp [Array.eraseIdxIfInBounds, hlt']
        rw [this]
        exact h3
      · have hfk : (Instr.findKey kt (a.eval y) r0.toList).run P w = .ok (some (j, en.val)) w := by
          simp only [Instr.findKey, Sem.run_bind, run_underlying hdd, Result.andThen_ok, h2, Nat.zero_add]; rfl
        simp [Builtin.delete_, hts0, run_underlying ht, hmb, hobj, hchk, hfk, hset, Result.andThen]
  · cases hv
end
end Go.Vm

/- One operation, carried out: the elements of a list that is written in place are set to nothing. -/
set_option linter.unusedVariables false
set_option linter.unusedSimpArgs false
namespace Go.Vm
section
variable {P : Program} {R : Nat → Option Nat} {Dt : Prop} {cx : Cx Dt} {N : Nat} {hb0 : Heap} {S T : Ow} {rs : Regs} {h : Heap} {fl : Fl} {g : Gh} {a : Act} {w : World} {o : Oper} {gd vop : VOp}

theorem range_mod (l : List Value) : ∀ n : Nat, (List.range (n * l.length)).map (fun i => l.getD (i % l.length) default) = (List.replicate n l).flatten
  | 0 => by simp
  | n + 1 => by
    have ih := range_mod l n
    rw [show (n + 1) * l.length = l.length + n * l.length by rw [Nat.add_mul]; omega, List.range_add, List.map_append, List.replicate_succ, List.flatten_cons, ← ih]
    congr 1
    · apply List.ext_getElem
      · simp
      · intro i h1 h2
        have hi : i < l.length := h2
        simp [Nat.mod_eq_of_lt hi, hi]
    · rw [List.map_map]
      apply List.map_congr_left
      intro i _
      simp [Nat.add_mod_left]
theorem zeroCells_list (zs : Array Value) (n : Nat) : (Builtin.zeroCells zs n).toList = (List.replicate n zs.toList).flatten := by
  rw [← range_mod]
  unfold Builtin.zeroCells
  rw [Array.toList_map, Array.toList_range, Array.length_toList]
  apply List.map_congr_left
  intro i _
  rw [getElem!_def, List.getD_eq_getElem?_getD, Array.getElem?_toList]
  cases zs[i % zs.size]? <;> rfl
theorem replicate_crs {m : Imm} {us : List Value} {vs : List V} (h : CRs m us vs) : ∀ n : Nat, CRs m (List.replicate n us).flatten (List.replicate n vs).flatten
  | 0 => by simpa using CRs.nil
  | n + 1 => by
    simp only [List.replicate_succ, List.flatten_cons]
    exact h.append (replicate_crs h n)
theorem trOpL_clr {zs : List V} {x : Arg} (h : trOpL P o.op gd = some (.clr zs x)) : ∃ y t e z, o.op = .call { callee := .builtin .clear, args := #[y], argTypes := #[t] } ∧ sliceT P t = some e ∧ zeroT P e = some z ∧ trVals z.cells.toList = some zs ∧ trArg y = some x := by
  cases gd <;> simp only [trOpL, reduceCtorEq] at h <;> obtain ⟨r, hr, h⟩ := bnd_eq_some h <;> cases h
  unfold trClr at hr
  split at hr
  · rename_i c hop
    split at hr
    · rename_i y t h1 h2 h3
      obtain ⟨e, he, hr⟩ := bnd_eq_some hr
      obtain ⟨z, hz, hr⟩ := bnd_eq_some hr
      obtain ⟨zs, hzs, hr⟩ := bnd_eq_some hr
      obtain ⟨x, hx, hr⟩ := bnd_eq_some hr
      cases hr
      refine ⟨y, t, e, z, ?_, he, hz, hzs, hx⟩
      rw [hop]
      obtain ⟨cal, args, ts⟩ := c
      simp only at h1 h2 h3
      subst h1
      have e1 : args = #[y] := by rw [← Array.toList_inj, h2]
      have e2 : ts = #[t] := by rw [← Array.toList_inj, h3]
      rw [e1, e2]
    · cases hr
  · cases hr
theorem clr_ok (hi : Inv cx N hb0 S rs h fl g a w) {zs : List V} {x : Arg} (htr : trOpL P o.op gd = some (.clr zs x)) (hs : S.step1 R o.dst (.clr zs x) = some T) (hd : ∀ x, o.dst = some x → x < N)
    {r : V × Heap × Fl} (hv : clrV cx.n0 hb0.length zs h (x.val rs) = some r) : ∃ u w', (execOp a.eval o).run P w = .ok (.value u) w' ∧ Inv cx N hb0 T (putR o.dst r.1 rs) r.2.1 (fl.or r.2.2) g (a.put o.dst u) w' := by
  obtain ⟨y, t, e, z, hop, ht, hz, hzs, hy⟩ := trOpL_clr htr
  simp only [Ow.step1] at hs
  obtain ⟨hnp, hs⟩ := cnd_eq_some hs
  obtain ⟨T0, hk, hs⟩ := bnd_eq_some hs
  cases hs
  have hpd : S.pd = none := by simpa [Ow.noPd] using hnp
  have hxv := trArg_sound hi.F.regs hy
  have hunit : VR g (.tuple #[]) (.tup []) := .tup (us := []) .nil
  have hut : P.underlying t = some (.slice e) := by
    unfold sliceT at ht
    split at ht
    · rename_i e' h1; cases ht; exact h1
    · cases ht
  have exec : ∀ w', (Builtin.clear_ #[t] o.type #[a.eval y]).run P w = .ok (.tuple #[]) w' → (execOp a.eval o).run P w = .ok (.value (.tuple #[])) w' := fun w' h1 => by
    unfold execOp
    rw [hop]
    simp only [resolve, invoke, builtin, Sem.run_bind, Sem.run_pure, Result.andThen_ok]
    have : (#[y].map a.eval) = #[a.eval y] := by simp
    rw [this, h1]
    rfl
  have same : (Builtin.clear_ #[t] o.type #[a.eval y]).run P w = .ok (.tuple #[]) w → r = (.tup [], h, .no) → ∃ u w', (execOp a.eval o).run P w = .ok (.value u) w' ∧ Inv cx N hb0 (offLa T0) (putR o.dst r.1 rs) r.2.1 (fl.or r.2.2) g (a.put o.dst u) w' := fun h1 e => by
    subst e
    refine ⟨_, w, exec w h1, ?_⟩
    have h2 := hi.put hd hk hunit
    rw [or_no']
    exact h2.weaken (fun x hx => hx) (fun x hx => hx) (fun x hx => by simp [offLa] at hx) rfl
  unfold clrV at hv
  split at hv
  · rename_i hxe
    rw [hxe] at hxv
    cases hv
    refine same ?_ rfl
    rcases hxv.sl_inv.sl_inv with ⟨h1, _⟩ | ⟨ad, cap, h1, _⟩ | ⟨b, o, cap, sz, us, h1, _⟩
    · rw [h1]; simp [Builtin.clear_, run_underlying hut, Result.andThen]
    · rw [h1]; simp [Builtin.clear_, run_underlying hut, Result.andThen]
    · rw [h1]; simp [Builtin.clear_, run_underlying hut, Result.andThen]
  · rename_i hxe
    rw [hxe] at hxv
    cases hv
    refine same ?_ rfl
    generalize a.eval y = u at hxv ⊢
    cases hxv with
    | cell c => cases c
    | nsl => simp [Builtin.clear_, run_underlying hut, Result.andThen]
  · rename_i k q hxe
    rw [hxe] at hxv
    cases hv
    refine same ?_ rfl
    generalize a.eval y = u at hxv ⊢
    cases hxv with
    | cell c => cases c
    | eml0 _ => simp [Builtin.clear_, run_underlying hut, Result.andThen]
    | eml _ _ => simp [Builtin.clear_, run_underlying hut, Result.andThen]
  · rename_i k off n q hxe
    rw [hxe] at hxv
    obtain ⟨c, hc, hv⟩ := bnd_eq_some hv
    obtain ⟨hcond, hv⟩ := cnd_eq_some hv
    obtain ⟨rr, hst, hv⟩ := bnd_eq_some hv
    cases hv
    simp only [Bool.and_eq_true, decide_eq_true_eq] at hcond
    obtain ⟨⟨⟨hn, hlz⟩, hc2⟩, hpz⟩ := hcond
    unfold storeC at hst
    obtain ⟨hcond, hst⟩ := cnd_eq_some hst
    cases hst
    simp only [Bool.and_eq_true, decide_eq_true_eq] at hcond
    obtain ⟨⟨hlen, hle⟩, hok, hall⟩ := hcond
    obtain ⟨b, us, tt, lu, ru, hb, hheap, hlr, hus, hcell⟩ := hi.G.hr.cells hc
    obtain ⟨cap, hu⟩ : ∃ cap, a.eval y = .slice (some ⟨b, off, none⟩) n cap := by
      generalize a.eval y = u at hxv ⊢
      cases hxv with
      | cell c => cases c
      | msl h1 h2 h3 => rw [hb] at h1; cases h1; exact ⟨_, rfl⟩
    have hzr : CRs g.imm z.cells.toList zs := trVals_sound hzs
    have hfr := replicate_crs hzr n
    have hu0 : VR g (.agg (List.replicate n z.cells.toList).flatten.toArray) (.agg (List.replicate n zs).flatten) := .agg hfr.vrs hfr.isCells
    have hful := hus.length
    have hfl := hfr.length
    have hlen' : (List.replicate n z.cells.toList).flatten.length = n * q := by rw [hfl]; exact hlen
    have h1c : ∀ x ∈ (List.replicate n z.cells.toList).flatten, x.oneCell' = true := hfr.vrs.oneCells hfr.isCells
    have hrow := run_storeCells_at P b off tt (List.replicate n z.cells.toList).flatten 0 us w hheap (by have := pre_size hlr; omega) h1c
    simp only [Nat.add_zero] at hrow
    rw [hlen'] at hrow
    have hzv : (zeroValue e).run P w = .ok z w := by
      unfold zeroT at hz
      obtain ⟨i, hie, hz⟩ := bnd_eq_some hz
      simp [zeroValue, typeInfo, hie, hz]
    have hrun : (Builtin.clear_ #[t] o.type #[a.eval y]).run P w = .ok (.tuple #[]) (w.setRow b (us.toList.take off ++ (List.replicate n z.cells.toList).flatten ++ us.toList.drop (off + n * q)).toArray) := by
      obtain ⟨m, rfl⟩ : ∃ m, n = m + 1 := ⟨n - 1, by omega⟩
      rw [hu]
      simp [Builtin.clear_, run_underlying hut, hzv, zeroCells_list, hrow, Result.andThen]
    refine ⟨_, _, exec _ hrun, ?_⟩
    have h1 := store_core hi hc hb hheap hlr hus hcell hu0 hlen hle hall none (fun j sz u' hm _ _ _ => by rw [hc2] at hm; cases hm) (.inl hpd)
    obtain ⟨S2, hk2, k1, k2, k3, k4⟩ := kill_nopd (S := ⟨offTm S.own none, S.al, [], none⟩) rfl o.dst
    obtain ⟨T1, hk1, j1, j2, j3, j4⟩ := kill_nopd hpd o.dst
    rw [hk] at hk1; cases hk1
    have h2 := h1.put hd hk2 (u := .tuple #[]) hunit
    refine h2.weaken (fun x hx => (k2 x).2 ?_) (fun x hx => (k3 x).2 ((j3 x).1 hx)) (fun x hx => by simp [offLa] at hx) (j1.trans k1.symm)
    exact (j2 x).1 hx
  · cases hv
theorem trOpL_mkm {b : Nat} {zs : List V} {x : Arg} (h : trOpL P o.op gd = some (.mkm b zs x)) : ∃ t e f z i, o.op = .makeSlice t (.tmp i) (.tmp i) ∧ sliceT P t = some e ∧ P.info? e = some f ∧ f.zero = some z ∧ trVals z.cells.toList = some zs ∧ f.size = z.cells.size ∧ b = f.bytes ∧ x = .r i := by
  cases gd <;> simp only [trOpL, reduceCtorEq] at h <;> obtain ⟨r, hr, h⟩ := bnd_eq_some h <;> cases h
  unfold trMkm at hr
  split at hr
  · rename_i t i j hop
    obtain ⟨e, he, hr⟩ := bnd_eq_some hr
    obtain ⟨f, hf, hr⟩ := bnd_eq_some hr
    obtain ⟨z, hz, hr⟩ := bnd_eq_some hr
    obtain ⟨zs, hzs, hr⟩ := bnd_eq_some hr
    obtain ⟨hc, hr⟩ := cnd_eq_some hr
    cases hr
    obtain ⟨hij, hsz⟩ := of_decide_eq_true hc
    subst hij
    exact ⟨t, e, f, z, i, hop, he, hf, hz, hzs, hsz, rfl, rfl⟩
  · cases hr
theorem mkm_ok (hi : Inv cx N hb0 S rs h fl g a w) {b : Nat} {zs : List V} {x : Arg} (htr : trOpL P o.op gd = some (.mkm b zs x)) (hs : S.step1 R o.dst (.mkm b zs x) = some T) (hd : ∀ x, o.dst = some x → x < N)
    {r : V × Heap × Fl} (hv : mkmV b zs h (x.val rs) = some r) : ∃ u w' g', (execOp a.eval o).run P w = .ok (.value u) w' ∧ GLe g g' ∧ Inv cx N hb0 T (putR o.dst r.1 rs) r.2.1 (fl.or r.2.2) g' (a.put o.dst u) w' := by
  obtain ⟨t, e, f, z, i, hop, ht, hf, hz, hzs, hsz, rfl, rfl⟩ := trOpL_mkm htr
  have hkill : S.kill o.dst = some T := hs
  have hxv : VR g (a.eval (.tmp i)) ((Arg.r i).val rs) := trArg_sound hi.F.regs rfl
  have hut : P.underlying t = some (.slice e) := by
    unfold sliceT at ht
    split at ht
    · rename_i e' h1; cases ht; exact h1
    · cases ht
  unfold mkmV at hv
  split at hv
  · rename_i n hx
    rw [hx] at hxv
    have hye := hxv.int_inv
    obtain ⟨hcond, hv⟩ := cnd_eq_some hv
    cases hv
    simp only [Bool.and_eq_true, decide_eq_true_eq] at hcond
    obtain ⟨⟨⟨hn1, hn2⟩, hb, hzl⟩, hpure⟩ := hcond
    have hzr : CRs g.imm z.cells.toList zs := trVals_sound hzs
    have hzlen : z.cells.size = zs.length := by rw [← hzr.length]; simp
    have hfr := replicate_crs hzr n.toNat
    have hw : IntKind.wrap .i64 n = n := by simp [IntKind.wrap, IntKind.bits, IntKind.signed]; omega
    have hbn : (f.bytes : Int) * n ≤ 1000 * 1000 := Int.mul_le_mul (by omega) hn2 (by omega) (by omega)
    have hbn2 : n.toNat * f.bytes ≤ 1000 * 1000 := Nat.mul_le_mul (by omega) hb
    have hlen := hi.G.muNone (Nat.le_refl h.length)
    have hle : GLe g (g.addMu h.length w.heap.size) := Gh.addMu_le hlen
    have hrowl : (Builtin.zeroCells z.cells n.toNat).toList = (List.replicate n.toNat z.cells.toList).flatten := zeroCells_list _ _
    have h1 := hi.push (O := .cells (Builtin.zeroCells z.cells n.toNat) e) (x := .cells (List.replicate n.toNat zs).flatten []) ⟨_, e, _, [], heap_alloc_new w _, (List.append_nil _).symm, by rw [hrowl]; exact (hfr.vrs).mono hle, hfr.isCells⟩ (fun cs' own' e' j sz u hm hc => by cases e'; simp at hm)
    have hsize : (Builtin.zeroCells z.cells n.toNat).size = n.toNat * z.cells.size := by simp [Builtin.zeroCells]
    have h2 := h1.addSiz (b := w.heap.size) (n := n.toNat * zs.length) (heap_alloc_new w _) (by rw [hsize, hzlen]; exact Nat.le_refl _)
    refine ⟨.slice (some ⟨w.heap.size, 0, none⟩) n.toNat n.toNat, w.alloc (.cells (Builtin.zeroCells z.cells n.toNat) e), (g.addMu h.length w.heap.size).addSiz w.heap.size (n.toNat * zs.length), ?_, hle.trans (Gh.addSiz_le _ _ _), ?_⟩
    · have hc1 : ¬ (f.bytes : Int) * n > 2 ^ 48 := by omega
      have hc2 : ¬ n < 0 := by omega
      have hroom : ¬ n.toNat * f.bytes > roomBytes := by unfold roomBytes; omega
      have hn0 : ¬ n.toNat * f.size = 0 := by
        rw [hsz, hzlen]
        exact Nat.mul_ne_zero (by omega) (by omega)
      have hsof : (sizeOf e).run P w = .ok f.size w := by simp [sizeOf, typeInfo, hf]
      have hzv : (zeroValue e).run P w = .ok z w := by simp [zeroValue, typeInfo, hf, hz]
      unfold execOp
      rw [hop]
      have hti : (typeInfo e).run P w = .ok f w := by simp [typeInfo, hf]
      have hcb : (decide (n < 0) || decide ((f.bytes : Int) * n > 2 ^ 48) || decide (n < 0) || decide (n > n)) = false := by
        simp only [Bool.or_eq_false_iff, decide_eq_false_iff_not]
        omega
      have hz0 : (Array.range (n.toNat * f.size)).map (fun x => z.cells[x % z.cells.size]!) = Builtin.zeroCells z.cells n.toNat := by rw [hsz]; rfl
      simp only [Instr.makeSlice, hye, Sem.run_bind, run_underlying hut, Result.andThen_ok, asInt, asIntOf, Sem.run_pure, hti, hw, hcb, hsof, hzv, hn0, hz0, if_false, Bool.false_eq_true, askRoom, hroom, newRow]
      rfl
    · have e : fl.or Fl.no = fl := by cases fl; simp [Fl.or]
      rw [e]
      have hat := Gh.addSiz_at (g.addMu h.length w.heap.size) w.heap.size (n.toNat * zs.length)
      exact h2.put hd hkill (.msl (by simp [Gh.addSiz, Gh.addMu]) (Nat.le_refl _) (by omega))
  · cases hv
theorem sliceArr_ok {C : Callee} (hi : Inv cx N hb0 S rs h fl g a w) {n k : Nat} {x : Arg} (htr : trOp P o.op o.type gd = some (.sliceArr n k x)) (hs : S.step1 R o.dst (.sliceArr n k x) = some T) (hd : ∀ x, o.dst = some x → x < N)
    {r : V × Heap × Fl} (hv : evalOp C cx.n0 hb0.length rs h (.sliceArr n k x) = some r) : ∃ u g', (execOp a.eval o).run P w = .ok (.value u) w ∧ GLe g g' ∧ Inv cx N hb0 T (putR o.dst r.1 rs) r.2.1 (fl.or r.2.2) g' (a.put o.dst u) w := by
  obtain ⟨t, y, e, hop, ht, hk, hy⟩ := trOp_sliceArr htr
  have hkill : S.kill o.dst = some T := hs
  have hxv := trArg_sound hi.F.regs hy
  simp only [evalOp] at hv
  unfold sliceArrV at hv
  split at hv
  · rename_i i hx
    rw [hx] at hxv
    obtain ⟨b, hb, hye⟩ := hxv.ptr_inv
    obtain ⟨c, hc, hv⟩ := bnd_eq_some hv
    obtain ⟨hcond, hv⟩ := cnd_eq_some hv
    cases hv
    obtain ⟨hlen, hown⟩ := of_decide_eq_true hcond
    obtain ⟨b', us, tt, l, ru, hb', hheap, hlr, hus, _⟩ := hi.G.hr.cells hc
    rw [hb] at hb'; cases hb'
    have hul := hus.length
    have hfit : n * k ≤ us.size := by
      have := congrArg List.length hlr
      simp only [Array.length_toList, List.length_append] at this
      omega
    have h1 := hi.addSiz hheap hfit
    unfold sizeT at hk
    obtain ⟨inf, hie, hk⟩ := bnd_eq_some hk
    cases hk
    have hsz : (sizeOf e).run P w = .ok inf.size w := by simp [sizeOf, typeInfo, hie]
    refine ⟨.slice (some ⟨b, 0, none⟩) n n, _, ?_, Gh.addSiz_le g b (n * inf.size), ?_⟩
    · have hb2 : (Instr.sliceBounds false n n none none none).run P w = .ok (0, n, n) w := rfl
      unfold execOp
      rw [hop]
      simp only [Option.map_none, Instr.sliceAt, Sem.run_bind, run_underlying ht, Result.andThen_ok, hye, hsz, hb2, Instr.sureAddr, Sem.run_pure]
      congr 2
      simp [Addr.add]
    · have e : fl.or Fl.no = fl := by cases fl; simp [Fl.or]
      rw [e]
      have hat := Gh.addSiz_at g b (n * inf.size)
      exact h1.put hd hkill (.msl (by simpa [Gh.addSiz] using hb) (Nat.le_refl _) (by omega))
  · cases hv
end
end Go.Vm

/- Every operation; a region whose order is fixed. -/
set_option linter.unusedVariables false
set_option linter.unusedSimpArgs false
namespace Go.Vm
attribute [local simp] evalOps_nil evalOps_cons evalOps_consg evalOp_mv evalOp_asg evalOp_pick evalOp_build evalOp_bslice evalOp_load evalOp_nilck evalOp_bin evalOp_un evalOp_conv evalOp_mkfn evalOp_slice evalOp_faddr evalOp_field evalOp_iaddr evalOp_index evalOp_lookup evalOp_extract evalOp_app evalOp_len evalOp_mn evalOp_mx evalOp_alloc evalOp_box evalOp_mkmap evalOp_store evalOp_mapupd evalOp_delete evalOp_sliceArr evalOp_call evalOp_callv evalOp_appc code_skip code_ops code_dops code_seq code_cond code_block code_exit code_ret finish_normal finish_ret
attribute [local simp] V.lt V.ltL V.flat V.pureCell V.pure V.isCell cellEq cellsEq eqV intV shV strV isShift binV unV byteV convV minV maxV foldV foldV1 fillV fillE findV putV delV isKey natOf natOr cut cellsAt mapAt mapOf loadV pickV nilckV sizeOk allSize sliceV faddrV fieldV iaddrV indexV found extractV allPure appV lenV ownHas ownOk storeC storeV samePtr appcV boxable mapupdV deleteV sliceArrV callV allLt clean bodyEnd resV one finishV runV initR
section
variable {P : Program} {R : Nat → Option Nat} {cx : Cx (Tracks R)} {N : Nat} {hb0 : Heap} {S T : Ow} {rs : Regs} {h : Heap} {fl : Fl} {g : Gh} {a : Act} {w : World} {o : Oper} {gd vop : VOp}

theorem wp_value' {u : Value} {w' : World} {K : Act → World → Prop} {Q : Exit → Act → World → Prop} (hr : (execOp a.eval o).run P w = .ok (.value u) w') (h : K (a.put o.dst u) w') : o.wp P a w K Q := by
  unfold Oper.wp; rw [hr, Oper.upon_value]; exact h
theorem wp_skip' {w' : World} {K : Act → World → Prop} {Q : Exit → Act → World → Prop} (hr : (execOp a.eval o).run P w = .ok .skip w') (h : K (a.put o.dst Go.undef) w') : o.wp P a w K Q := by
  unfold Oper.wp; rw [hr, Oper.upon_skip]; exact h
theorem or_no : fl.or .no = fl := by cases fl; simp [Fl.or]
theorem trOp_noghost {op : Op} {ty : TypeId} {v : VOp} (h : trOp P op ty gd = some v) : ghost v = false := by
  have h1 := trOp_kind h
  have h2 := opKind_lt op
  rw [h1] at h2
  cases v <;> first | rfl | (simp [vopKind] at h2)
set_option maxHeartbeats 1000000 in
theorem op_ok {C : Callee} (hi : Inv cx N hb0 S rs h fl g a w) (hC : FnOk P R C) (htr : trOp P o.op o.type gd = some vop) (hs : S.step1 R o.dst vop = some T) (hd : ∀ x, o.dst = some x → x < N) {r : V × Heap × Fl} (he : evalOp C cx.n0 hb0.length rs h vop = some r)
    {K : Act → World → Prop} {Q : Exit → Act → World → Prop} (hK : ∀ u w' g', GLe g g' → Inv cx N hb0 T (putR o.dst r.1 rs) r.2.1 (fl.or r.2.2) g' (a.put o.dst u) w' → K (a.put o.dst u) w') : o.wp P a w K Q := by
  have quiet : quietOp vop = true → (bnd (valOp h rs vop) fun v => some (v, h, Fl.no)) = some r → o.wp P a w K Q := fun hq hv => by
    obtain ⟨v, hv2, e⟩ := bnd_eq_some hv
    cases e
    obtain ⟨u, hr, hi'⟩ := quiet_ok hi htr hq hv2 hs hd
    exact wp_value' hr (hK u w g (GLe.refl g) (by rw [or_no]; exact hi'))
  cases vop with
  | alloc cs own =>
    cases he
    obtain ⟨u, w', g', hr, hle, hi'⟩ := alloc_ok hi htr hs hd
    exact wp_value' hr (hK u w' g' hle (by rw [or_no]; exact hi'))
  | box n x =>
    simp only [evalOp] at he
    obtain ⟨hb, he⟩ := cnd_eq_some he
    cases he
    obtain ⟨u, w', g', hr, hle, hi'⟩ := box_ok hi htr hs hd hb
    exact wp_value' hr (hK u w' g' hle (by rw [or_no]; exact hi'))
  | store n p x own q =>
    obtain ⟨w', hr, hi'⟩ := store_ok (C := C) hi htr hs hd he
    exact wp_skip' hr (hK Go.undef w' g (GLe.refl g) hi')
  | bslice z k n ps =>
    simp only [evalOp] at he
    obtain ⟨v, hv, e⟩ := bnd_eq_some he
    cases e
    obtain ⟨u, w', g', hr, hle, hi'⟩ := bslice_ok hi htr hs hd hv
    exact wp_value' hr (hK u w' g' hle (by rw [or_no]; exact hi'))
  | app p size bytes s x =>
    simp only [evalOp, valOp] at he
    obtain ⟨v, hv, e⟩ := bnd_eq_some he
    cases e
    obtain ⟨u, w', g', hr, hle, hi'⟩ := app_ok hi htr hs hd hv
    exact wp_value' hr (hK u w' g' hle (by rw [or_no]; exact hi'))
  | appc p size bytes s x =>
    simp only [evalOp] at he
    obtain ⟨wr, hwr, he⟩ := bnd_eq_some he
    obtain ⟨v, hv, e⟩ := bnd_eq_some he
    cases e
    obtain ⟨u, w', g', hr, hle, hi'⟩ := appc_ok hi htr hs hd hv hwr
    exact wp_value' hr (hK u w' g' hle hi')
  | call q f as =>
    simp only [evalOp] at he
    obtain ⟨r0, hr0, he⟩ := bnd_eq_some he
    have hqs := quiet_same he
    subst hqs
    replace hK : ∀ u w' g', GLe g g' → Inv cx N hb0 T (putR o.dst r0.1 rs) r0.2.1 (fl.or r0.2.2) g' (a.put o.dst u) w' → K (a.put o.dst u) w' := fun u w' g' h1 h2 => hK u w' g' h1 h2.cutWr
    obtain ⟨args, ts, hop, has⟩ := trOp_call htr
    have hargs := trArgs_sound hi.F.regs has
    simp only [Ow.step1] at hs
    obtain ⟨hnp, hs⟩ := cnd_eq_some hs
    obtain ⟨T0, hk, hs⟩ := bnd_eq_some hs
    have hpd : S.pd = none := by simpa [Ow.noPd] using hnp
    have hexec := exec_call (P := P) (w := w) (a := a) hop (y := .func f) rfl (f := f) (us := #[]) (vs := #[]) rfl
    have hargs' : VRs g (#[] ++ args.map a.eval ++ #[]).toList (vals rs as) := by simpa using hargs
    cases hRf : R f with
    | none =>
      rw [hRf] at hs; cases hs
      exact call_core hi hC hr0 hargs' hexec hpd hk none (.inl rfl) (fun _ e => by cases e) rfl hd hK
    | some sz =>
      rw [hRf] at hs
      cases hl : isLin sz <;> simp only [hl, cnd_true, cnd_false, Option.some.injEq] at hs <;> subst hs
      · exact call_core hi hC hr0 hargs' hexec hpd hk (some sz) (.inr hRf.symm) (fun _ e => by cases e; exact hl) rfl hd hK
      · exact call_core hi hC hr0 hargs' hexec hpd hk none (.inl rfl) (fun _ e => by cases e) rfl hd hK
  | callv q x as =>
    simp only [evalOp] at he
    obtain ⟨r0, hr0, he⟩ := bnd_eq_some he
    have hqs := quiet_same he
    subst hqs
    replace hK : ∀ u w' g', GLe g g' → Inv cx N hb0 T (putR o.dst r0.1 rs) r0.2.1 (fl.or r0.2.2) g' (a.put o.dst u) w' → K (a.put o.dst u) w' := fun u w' g' h1 h2 => hK u w' g' h1 h2.cutWr
    obtain ⟨y, args, ts, hop, hy, has⟩ := trOp_callv htr
    have hargs := trArgs_sound hi.F.regs has
    have hyv := trArg_sound hi.F.regs hy
    simp only [Ow.step1] at hs
    obtain ⟨hnp, hs⟩ := cnd_eq_some hs
    obtain ⟨T0, hk, hs⟩ := bnd_eq_some hs
    cases hs
    have hpd : S.pd = none := by simpa [Ow.noPd] using hnp
    unfold callV at hr0
    split at hr0
    · rename_i f first caps hxe
      rw [hxe] at hyv
      obtain ⟨us, vs, hyu, h1, h2⟩ := hyv.fn_inv
      have hexec := exec_call (P := P) (w := w) (a := a) hop (y := y) rfl hyu
      have hargs' : VRs g (us.toArray ++ args.map a.eval ++ vs.toArray).toList (first ++ (vals rs as ++ caps)) := by
        have := h1.append (hargs.append h2)
        simpa using this
      exact call_core hi hC hr0 hargs' hexec hpd hk none (.inl rfl) (fun _ e => by cases e) rfl hd hK
    · cases hr0
  | conv k x =>
    cases k with
    | bytesOfStr => simp only [Ow.step1, reduceCtorEq] at hs
    | _ => exact quiet rfl he
  | mkmap =>
    cases he
    obtain ⟨u, w', g', hr, hle, hi'⟩ := mkmap_ok hi htr hs hd
    exact wp_value' hr (hK u w' g' hle (by rw [or_no]; exact hi'))
  | sliceArr n k x =>
    obtain ⟨u, g', hr, hle, hi'⟩ := sliceArr_ok (C := C) hi htr hs hd he
    exact wp_value' hr (hK u w g' hle hi')
  | mapupd q m k v =>
    obtain ⟨w', hr, hi'⟩ := mapupd_ok (C := C) hi htr hs hd he
    exact wp_skip' hr (hK Go.undef w' g (GLe.refl g) hi')
  | delete q m k =>
    obtain ⟨u, w', hr, hi'⟩ := delete_ok (C := C) hi htr hs hd he
    exact wp_value' hr (hK u w' g (GLe.refl g) hi')
  | newl z => have := trOp_nolin htr; cases this
  | appl p z b s x => have := trOp_nolin htr; cases this
  | lenl p x => have := trOp_nolin htr; cases this
  | slf p z x l u => have := trOp_nolin htr; cases this
  | calll f p z F x as => have := trOp_nolin htr; cases this
  | bld z p f => have := trOp_nolin htr; cases this
  | boxo n x w => have := trOp_nolin htr; cases this
  | bstr x => have := trOp_nolin htr; cases this
  | isnil x => have := trOp_nolin htr; cases this
  | bad => have := trOp_nolin htr; cases this
  | mvn => have := trOp_nolin htr; cases this
  | bsll z k n ps => have := trOp_nolin htr; cases this
  | appm z b s x => have := trOp_nolin htr; cases this
  | mrk p x => have := trOp_nolin htr; cases this
  | clr zs x => have := trOp_nolin htr; cases this
  | mkm b zs x => have := trOp_nolin htr; cases this
  | thwr p z => have := trOp_noghost htr; cases this
  | thwc p q z => have := trOp_noghost htr; cases this
  | setc p q z b => have := trOp_noghost htr; cases this
  | frzr p z b => have := trOp_noghost htr; cases this
  | frzc p q z b => have := trOp_noghost htr; cases this
  | frzl p z => have := trOp_noghost htr; cases this
  | _ => exact quiet rfl he

def linOkV (P : Program) : VOp → Prop
  | .calll f _ size F _ _ => LinOk P f size F
  | _ => True
theorem op_okA {C : Callee} (hi : Inv cx N hb0 S rs h fl g a w) (hC : FnOk P R C) (htr : trOpA P o.op o.type gd = some vop) (hL : linOkV P vop) (hs : S.step1 R o.dst vop = some T) (hd : ∀ x, o.dst = some x → x < N) {r : V × Heap × Fl} (he : evalOp C cx.n0 hb0.length rs h vop = some r)
    {K : Act → World → Prop} {Q : Exit → Act → World → Prop} (hK : ∀ u w' g', GLe g g' → Inv cx N hb0 T (putR o.dst r.1 rs) r.2.1 (fl.or r.2.2) g' (a.put o.dst u) w' → K (a.put o.dst u) w') : o.wp P a w K Q := by
  cases hlin : linOp vop with
  | false => exact op_ok hi hC (trOpA_plain htr hlin) hs hd he hK
  | true =>
    have htr := trOpA_lin htr hlin
    cases vop with
    | newl z =>
      cases he
      obtain ⟨u, hr, hi'⟩ := newl_ok hi htr hs hd
      exact wp_value' hr (hK u w g (GLe.refl g) (by rw [or_no]; exact hi'))
    | appl p z b s x =>
      simp only [evalOp] at he
      obtain ⟨v, hv, e⟩ := bnd_eq_some he
      cases e
      obtain ⟨u, w', hr, hi'⟩ := appl_ok hi htr hs hd hv
      exact wp_value' hr (hK u w' g (GLe.refl g) (by rw [or_no]; exact hi'))
    | lenl p x =>
      simp only [evalOp] at he
      obtain ⟨v, hv, e⟩ := bnd_eq_some he
      cases e
      obtain ⟨u, hr, hi'⟩ := lenl_ok hi htr hs hd hv
      exact wp_value' hr (hK u w g (GLe.refl g) (by rw [or_no]; exact hi'))
    | slf p z x l u =>
      simp only [evalOp] at he
      obtain ⟨v, hv, e⟩ := bnd_eq_some he
      cases e
      obtain ⟨u, g', hr, hle, hi'⟩ := slf_ok hi htr hs hd hv
      exact wp_value' hr (hK u w g' hle (by rw [or_no]; exact hi'))
    | calll f p z F x as =>
      simp only [evalOp] at he
      obtain ⟨v, hv, e⟩ := bnd_eq_some he
      cases e
      exact calll_ok hi htr hL hs hd hv fun u w' g' hle hi' => hK u w' g' hle (by rw [or_no]; exact hi')
    | bld cs ps offs =>
      simp only [evalOp] at he
      obtain ⟨v, hv, e⟩ := bnd_eq_some he
      cases e
      obtain ⟨vs, hvs, hv⟩ := bnd_eq_some hv
      cases hv
      obtain ⟨u, hr, hi'⟩ := bld_ok hi htr hs hd hvs
      exact wp_value' hr (hK u w g (GLe.refl g) (by rw [or_no]; exact hi'))
    | boxo n x own =>
      simp only [evalOp] at he
      obtain ⟨hb, he⟩ := cnd_eq_some he
      cases he
      simp only [Bool.and_eq_true] at hb
      obtain ⟨u, w', g', hr, hle, hi'⟩ := boxo_ok hi htr hs hd hb.1 hb.2
      exact wp_value' hr (hK u w' g' hle (by rw [or_no]; exact hi'))
    | bad => cases he
    | isnil x =>
      simp only [evalOp] at he
      obtain ⟨v, hv, e⟩ := bnd_eq_some he
      cases e
      obtain ⟨u, hr, hi'⟩ := isnil_ok hi htr hs hd hv
      exact wp_value' hr (hK u w g (GLe.refl g) (by rw [or_no]; exact hi'))
    | bstr x =>
      simp only [evalOp] at he
      obtain ⟨v, hv, e⟩ := bnd_eq_some he
      cases e
      obtain ⟨u, w', g', hr, hle, hi'⟩ := bstr_ok hi htr hs hd hv
      exact wp_value' hr (hK u w' g' hle (by rw [or_no]; exact hi'))
    | mvn =>
      cases he
      obtain ⟨u, hr, hi'⟩ := mvn_ok hi htr hs hd
      exact wp_value' hr (hK u w g (GLe.refl g) (by rw [or_no]; exact hi'))
    | bsll z k n ps =>
      simp only [evalOp] at he
      obtain ⟨xs, hx, he⟩ := bnd_eq_some he
      obtain ⟨hb, he⟩ := cnd_eq_some he
      cases he
      obtain ⟨u, w', g', hr, hle, hi'⟩ := bsll_ok hi htr hs hd hx hb
      exact wp_value' hr (hK u w' g' hle (by rw [or_no]; exact hi'))
    | appm z b s x =>
      simp only [evalOp] at he
      obtain ⟨u, w', g', hr, hle, hi'⟩ := appm_ok hi htr hs hd he
      exact wp_value' hr (hK u w' g' hle hi')
    | mkm b zs x =>
      simp only [evalOp] at he
      obtain ⟨u, w', g', hr, hle, hi'⟩ := mkm_ok hi htr hs hd he
      exact wp_value' hr (hK u w' g' hle hi')
    | clr zs x =>
      simp only [evalOp] at he
      obtain ⟨u, w', hr, hi'⟩ := clr_ok hi htr hs hd he
      exact wp_value' hr (hK u w' g (GLe.refl g) hi')
    | mrk p x =>
      simp only [evalOp] at he
      obtain ⟨v, hv, e⟩ := bnd_eq_some he
      cases e
      obtain ⟨u, w', g', hr, hle, hi'⟩ := mrk_ok hi htr hs hd hv
      exact wp_value' hr (hK u w' g' hle (by rw [or_no]; exact hi'))
    | _ => cases hlin

theorem ghost_ok {C : Callee} (hi : Inv cx N hb0 S rs h fl g a w) (hgh : ghost vop = true) (hs : S.step1 R (gdst vop) vop = some T) {r : V × Heap × Fl} (he : evalOp C cx.n0 hb0.length rs h vop = some r) :
    ∃ g', GLe g g' ∧ Inv cx N hb0 T (putR (gdst vop) r.1 rs) r.2.1 (fl.or r.2.2) g' a w := by
  cases vop with
  | thwr p z => exact thwr_ok hi hs he
  | thwc p q z => exact thwc_ok hi hs he
  | setc p q z b => exact setc_ok hi hs he
  | frzr p z b => exact frzr_ok hi hs he
  | frzc p q z b => exact frzc_ok hi hs he
  | frzl p z =>
    simp only [evalOp] at he
    obtain ⟨v, hv, e⟩ := bnd_eq_some he
    cases e
    obtain ⟨g', hle, hi'⟩ := frzl_ok hi hs hv
    exact ⟨g', hle, by rw [or_no]; exact hi'⟩
  | _ => cases hgh

theorem wanted_ok {ops : Array Oper} (hr : RR g a rs) (hsz : a.tmps.size = N) {gd' : Option (Nat × Bool)} (hg : trGuard ops o.guard = some gd') {b : Bool} (hb : wanted rs gd' = some b) : Region.wanted o (yielded ops a.tmps) = b := by
  unfold trGuard at hg
  unfold Region.wanted
  split at hg
  · rename_i e
    cases hg
    cases hb
    rw [e]
  · rename_i j t e
    split at hg
    · rename_i d hd
      cases hg
      simp only [wanted] at hb
      rw [e]
      simp only [yielded, hd, Option.bind_some]
      have hv := hr d
      unfold wantedV at hb
      split at hb
      · rename_i c hc
        rw [hc] at hv
        cases hb
        have hb1 := hv.bool_inv
        have : a.tmps[d]? = some (.bool c) := by
          rw [Array.getD_eq_getD_getElem?] at hb1
          cases hq : a.tmps[d]? with
          | none => rw [hq] at hb1; cases hb1
          | some z => rw [hq] at hb1; simp at hb1; rw [hb1]
        rw [this]
        cases c <;> cases t <;> rfl
      · rename_i hc
        rw [hc] at hv
        cases hb
        have hu : a.tmps.getD d Go.undef = Go.undef := by
          generalize a.tmps.getD d Go.undef = q at hv
          cases hv with
          | cell c => cases c
          | undef => rfl
        rw [Array.getD_eq_getD_getElem?] at hu
        cases hq : a.tmps[d]? with
        | none => cases t <;> rfl
        | some z =>
          rw [hq] at hu
          simp at hu
          subst hu
          cases t <;> rfl
      · cases hb
    · cases hg

theorem step_ok {C : Callee} {ops : Array Oper} {i : VI} (hi : Inv cx N hb0 S rs h fl g a w) (hC : FnOk P R C) {g0 : VI} (htr : trI P ops o g0 = some i) (hL : linOkV P i.op) (hs : S.step R i = some T) (hd : ∀ x, o.dst = some x → x < N) {b : Bool} (hb : wanted rs i.guard = some b)
    {rs' : Regs} {h' : Heap} {fl' : Fl} (he : (b = true ∧ ∃ r, evalOp C cx.n0 hb0.length rs h i.op = some r ∧ rs' = putR i.dst r.1 rs ∧ h' = r.2.1 ∧ fl' = fl.or r.2.2) ∨ (b = false ∧ rs' = putR i.dst .undef rs ∧ h' = h ∧ fl' = fl))
    {K : Act → World → Prop} {Q : Exit → Act → World → Prop} (hK : ∀ u w' g', GLe g g' → Inv cx N hb0 T rs' h' fl' g' (a.put o.dst u) w' → K (a.put o.dst u) w') :
    (if Region.wanted o (yielded ops a.tmps) then o.wp P a w K Q ∨ (o.asks P a w ∧ LetsOut Q) else K (a.put o.dst Go.undef) w) := by
  simp only [trI] at htr
  obtain ⟨gd', hgd, htr⟩ := bnd_eq_some htr
  obtain ⟨vop, hop, htr⟩ := bnd_eq_some htr
  cases htr
  have hwant := wanted_ok hi.F.regs hi.F.size hgd hb
  rw [hwant]
  rcases he with ⟨rfl, r, hr, rfl, rfl, rfl⟩ | ⟨rfl, rfl, rfl, rfl⟩
  · simp only [if_true]
    left
    cases gd' with
    | none => exact op_okA hi hC hop hL hs hd hr hK
    | some q =>
      simp only [Ow.step] at hs
      obtain ⟨S1, h1, hs⟩ := bnd_eq_some hs
      obtain ⟨S0, h0, hs⟩ := bnd_eq_some hs
      obtain ⟨S2, h2, hs⟩ := bnd_eq_some hs
      obtain ⟨hsub, hs⟩ := cnd_eq_some hs
      cases hs
      refine op_okA hi hC hop hL h1 hd hr fun u w' g' hle hi' => hK u w' g' hle ?_
      obtain ⟨m1, m2, m3, m4⟩ := kill_sub h2
      refine hi'.weaken (fun x hx => (m2 x hx).1) (fun x hx => (m3 x hx).1) (fun x hx => ?_) m1
      cases hdst : o.dst with
      | none => rw [hdst] at h2; cases kill_none h2; exact hx
      | some d => rw [hdst] at h2; obtain ⟨_, rfl⟩ := kill_some h2; exact (mem_offPair.1 hx).1
  · simp only [if_false, Bool.false_eq_true]
    cases gd' with
    | none => simp [wanted] at hb
    | some q =>
      simp only [Ow.step] at hs
      obtain ⟨S1, h1, hs⟩ := bnd_eq_some hs
      obtain ⟨S0, h0, hs⟩ := bnd_eq_some hs
      obtain ⟨S2, h2, hs⟩ := bnd_eq_some hs
      obtain ⟨hsub, hs⟩ := cnd_eq_some hs
      cases hs
      exact hK Go.undef w g (GLe.refl g) ((hi.put hd h0 .undef).sub hsub)

theorem listG_ok {C : Callee} {ops : Array Oper} (hC : FnOk P R C) {Q : Exit → Act → World → Prop} {rs' : Regs} {h' : Heap} {fl' : Fl} : ∀ (is' : List VI) (os : List Oper) (is : List VI) (k : Nat) (S T : Ow) (rs : Regs) (h : Heap) (fl : Fl) (g : Gh) (a : Act) (w : World),
    (∀ (j : Nat), os[j]? = ops[k + j]?) → trGs P ops os is' = some is → (∀ i ∈ is, linOkV P i.op) → Inv cx N hb0 S rs h fl g a w → Ow.steps R is S = some T → (∀ i ∈ is, ∀ x, i.dst = some x → x < N) → evalOps C cx.n0 hb0.length is rs h fl = some (rs', h', fl') →
    (∀ g' a' w', GLe g g' → Inv cx N hb0 T rs' h' fl' g' a' w' → Q .normal a' w') → wpOps P ops Q (List.range' k os.length) a w
  | [], os, is, k, S, T, rs, h, fl, g, a, w, _, htr, _, hi, hs, _, he, hQ => by
    cases os with
    | nil =>
      cases htr
      cases hs
      cases he
      exact hQ g a w (GLe.refl g) hi
    | cons _ _ => cases htr
  | g0 :: gs, os, is, k, S, T, rs, h, fl, g, a, w, hk, htr, hL, hi, hs, hd, he, hQ => by
    have htr2 : cnd (ghost g0.op) (bnd (trGs P ops os gs) fun l => some (⟨gdst g0.op, none, g0.op⟩ :: l)) (match (generalizing := false) os with
      | [] => none
      | o :: os' => bnd (trI P ops o g0) fun i => bnd (trGs P ops os' gs) fun l => some (i :: l)) = some is := by
      cases os <;> exact htr
    clear htr
    cases hgh : ghost g0.op with
    | true =>
      rw [hgh, cnd_true] at htr2
      obtain ⟨l, h2, htr⟩ := bnd_eq_some htr2
      cases htr
      simp only [Ow.steps] at hs
      obtain ⟨T1, hs1, hs⟩ := bnd_eq_some hs
      simp only [evalOps] at he
      obtain ⟨b, hb, he⟩ := bnd_eq_some he
      cases hb
      simp only [cnd_true] at he
      obtain ⟨r, hr, he⟩ := bnd_eq_some he
      obtain ⟨g', hle, hi'⟩ := ghost_ok hi hgh hs1 hr
      exact listG_ok hC gs os l k T1 T _ _ _ g' a w hk h2 (fun i hi => hL i (by simp [hi])) hi' hs (fun i hi => hd i (by simp [hi])) he fun g'' a' w'' hle' hi'' => hQ g'' a' w'' (hle.trans hle') hi''
    | false =>
      rw [hgh, cnd_false] at htr2
      cases os with
      | nil => cases htr2
      | cons o os =>
        obtain ⟨i, h1, htr⟩ := bnd_eq_some htr2
        obtain ⟨l, h2, htr⟩ := bnd_eq_some htr
        cases htr
        simp only [Ow.steps] at hs
        obtain ⟨T1, hs1, hs⟩ := bnd_eq_some hs
        simp only [evalOps] at he
        obtain ⟨b, hb, he⟩ := bnd_eq_some he
        have ho : ops[k]? = some o := by have := hk 0; simpa using this.symm
        have hdo : ∀ x, o.dst = some x → x < N := by
          have := hd i (by simp)
          simp only [trI] at h1
          obtain ⟨gd', _, h1⟩ := bnd_eq_some h1
          obtain ⟨v, _, h1⟩ := bnd_eq_some h1
          cases h1
          exact this
        simp only [List.length_cons, List.range'_succ, wpOps, ho]
        have next : ∀ rs1 h1' fl1, evalOps C cx.n0 hb0.length l rs1 h1' fl1 = some (rs', h', fl') → ∀ u w' g', GLe g g' → Inv cx N hb0 T1 rs1 h1' fl1 g' (a.put o.dst u) w' → wpOps P ops Q (List.range' (k + 1) os.length) (a.put o.dst u) w' :=
          fun rs1 h1' fl1 he' u w' g' hle hi' => listG_ok hC gs os l (k + 1) T1 T rs1 h1' fl1 g' (a.put o.dst u) w' (fun j => by have := hk (j + 1); simpa [Nat.add_assoc, Nat.add_comm 1 j] using this) h2 (fun i hi => hL i (by simp [hi])) hi' hs (fun i hi => hd i (by simp [hi])) he' fun g'' a' w'' hle' hi'' => hQ g'' a' w'' (hle.trans hle') hi''
        cases b with
        | true =>
          simp only [cnd_true] at he
          obtain ⟨r, hr, he⟩ := bnd_eq_some he
          exact step_ok hi hC h1 (hL _ (by simp)) hs1 hdo hb (.inl ⟨rfl, r, hr, rfl, rfl, rfl⟩) (next _ _ _ he)
        | false => exact step_ok hi hC h1 (hL _ (by simp)) hs1 hdo hb (.inr ⟨rfl, rfl, rfl, rfl⟩) (next _ _ _ he)
theorem ghosts_ok {C : Callee} {rs' : Regs} {h' : Heap} {fl' : Fl} : ∀ (gs is : List VI) (S T : Ow) (rs : Regs) (h : Heap) (fl : Fl) (g : Gh), trG gs = some is → Inv cx N hb0 S rs h fl g a w → Ow.steps R is S = some T → evalOps C cx.n0 hb0.length is rs h fl = some (rs', h', fl') →
    ∃ g', GLe g g' ∧ Inv cx N hb0 T rs' h' fl' g' a w
  | [], is, S, T, rs, h, fl, g, htr, hi, hs, he => by
    cases htr
    cases hs
    cases he
    exact ⟨g, GLe.refl g, hi⟩
  | g0 :: gs, is, S, T, rs, h, fl, g, htr, hi, hs, he => by
    simp only [trG] at htr
    obtain ⟨hgh, htr⟩ := cnd_eq_some htr
    obtain ⟨l, h2, htr⟩ := bnd_eq_some htr
    cases htr
    simp only [Ow.steps] at hs
    obtain ⟨T1, hs1, hs⟩ := bnd_eq_some hs
    simp only [evalOps] at he
    obtain ⟨b, hb, he⟩ := bnd_eq_some he
    cases hb
    simp only [cnd_true] at he
    obtain ⟨r, hr, he⟩ := bnd_eq_some he
    obtain ⟨g', hle, hi'⟩ := ghost_ok hi hgh hs1 hr
    obtain ⟨g'', hle', hi''⟩ := ghosts_ok gs l T1 T _ _ _ g' h2 hi' hs he
    exact ⟨g'', hle.trans hle', hi''⟩
end
end Go.Vm

/- Rounds and calls: what was made in one goes with it. -/
set_option linter.unusedVariables false
set_option linter.unusedSimpArgs false
namespace Go.Vm
attribute [local simp] evalOps_nil evalOps_cons evalOps_consg evalOp_mv evalOp_asg evalOp_pick evalOp_build evalOp_bslice evalOp_load evalOp_nilck evalOp_bin evalOp_un evalOp_conv evalOp_mkfn evalOp_slice evalOp_faddr evalOp_field evalOp_iaddr evalOp_index evalOp_lookup evalOp_extract evalOp_app evalOp_len evalOp_mn evalOp_mx evalOp_alloc evalOp_box evalOp_mkmap evalOp_store evalOp_mapupd evalOp_delete evalOp_sliceArr evalOp_call evalOp_callv evalOp_appc code_skip code_ops code_dops code_seq code_cond code_block code_exit code_ret finish_normal finish_ret
attribute [local simp] V.lt V.ltL V.flat V.pureCell V.pure V.isCell cellEq cellsEq eqV intV shV strV isShift binV unV byteV convV minV maxV foldV foldV1 fillV fillE findV putV delV isKey natOf natOr cut cellsAt mapAt mapOf loadV pickV nilckV sizeOk allSize sliceV faddrV fieldV iaddrV indexV found extractV allPure appV lenV ownHas ownOk storeC storeV samePtr appcV boxable mapupdV deleteV sliceArrV callV allLt clean bodyEnd resV one finishV runV initR

def BaseLt (h : Heap) : Prop := ∀ (i : Nat) (o : Obj), h[i]? = some o → o.lt h.length = true
theorem pairsLt_mono {n m : Nat} (h : n ≤ m) : ∀ {es : List (V × V)}, pairsLt n es = true → pairsLt m es = true
  | [], _ => rfl
  | (k, v) :: es, hl => by
    simp only [pairsLt, Bool.and_eq_true] at hl ⊢
    exact ⟨⟨V.lt_mono h k hl.1.1, V.lt_mono h v hl.1.2⟩, pairsLt_mono h hl.2⟩
theorem Obj.lt_mono {n m : Nat} (h : n ≤ m) {o : Obj} (hl : o.lt n = true) : o.lt m = true := by
  cases o with
  | cells cs own => exact V.ltL_mono h cs hl
  | map es => exact pairsLt_mono h hl
  | emp => rfl
  | dead => rfl
theorem ERels.lt {g : Gh} {n : Nat} (hd : ∀ i b, g.mu i = some b → i < n) (he : ∀ i, g.em i = true → i < n) : ∀ {es : List MapEntry} {ps : List (V × V)}, ERels g es ps → pairsLt n ps = true
  | [], [], _ => rfl
  | e :: _, p :: _, ⟨h, t⟩ => by
    obtain ⟨k, v⟩ := p
    simp only [pairsLt, Bool.and_eq_true]
    exact ⟨⟨VR.lt (g := g) hd he (.cell h.1), VR.lt hd he h.2⟩, ERels.lt hd he t⟩
  | [], _ :: _, h => h.elim
  | _ :: _, [], h => h.elim
theorem ObjR.lt {g : Gh} {w : World} {b n : Nat} {o : Obj} (h : ObjR g w b o) (hd : ∀ i b, g.mu i = some b → i < n) (he : ∀ i, g.em i = true → i < n) : o.lt n = true := by
  cases o with
  | cells cs own => obtain ⟨us, t, l, r, h1, h2, h3, h4⟩ := h; exact VRs.lt hd he h3
  | map es => obtain ⟨rs, c, h1, h2, h3⟩ := h; exact h2.lt hd he
  | emp => rfl
  | dead => rfl
theorem ERels.trim {g : Gh} {n : Nat} : ∀ {es : List MapEntry} {ps : List (V × V)}, ERels g es ps → pairsLt n ps = true → ERels (g.trim n) es ps
  | [], [], _, _ => trivial
  | e :: _, p :: _, ⟨h, t⟩, hl => by
    obtain ⟨k, v⟩ := p
    simp only [pairsLt, Bool.and_eq_true] at hl
    exact ⟨⟨h.1, h.2.trim hl.1.2⟩, ERels.trim t hl.2⟩
  | [], _ :: _, h, _ => h.elim
  | _ :: _, [], h, _ => h.elim
theorem ObjR.trim {g : Gh} {w : World} {b n : Nat} {o : Obj} (h : ObjR g w b o) (hl : o.lt n = true) : ObjR (g.trim n) w b o := by
  cases o with
  | cells cs own => obtain ⟨us, t, l, r, h1, h2, h3, h4⟩ := h; exact ⟨us, t, l, r, h1, h2, h3.trim hl, h4⟩
  | map es => obtain ⟨rs, c, h1, h2, h3⟩ := h; exact ⟨rs, c, h1, h2.trim hl, h3⟩
  | emp => exact h
  | dead => trivial

abbrev Inv0 {Dt : Prop} (cx : Cx Dt) (N : Nat) (hb : Heap) (own : Ows) (rs : Regs) (h : Heap) (fl : Fl) (g : Gh) (a : Act) (w : World) : Prop := Inv cx N hb ⟨own, [], [], none⟩ rs h fl g a w
def Low (hb h : Heap) (esc : List Nat) : Prop := ∀ (i : Nat) (o : Obj), i < hb.length → h[i]? = some o → i ∈ esc ∨ ∃ ob : Obj, hb[i]? = some ob ∧ ∀ m, ob.lt m = true → o.lt m = true
structure From {Dt : Prop} (cx : Cx Dt) (hb h : Heap) (fl : Fl) : Prop where
  fbl : cx.n0 ≤ hb.length
  lbh : hb.length ≤ h.length
  low : Low hb h fl.esc
theorem objLt_of {n : Nat} {h : Heap} {i : Nat} {o : Obj} (hl : objLt n h i = true) (ho : h[i]? = some o) : o.lt n = true := by
  unfold objLt hget at hl
  rw [ho] at hl
  exact hl
theorem escOk_mem {n : Nat} {h : Heap} : ∀ {l : List Nat}, escOk n h l = true → ∀ i ∈ l, i < n → ∀ o : Obj, h[i]? = some o → o.lt n = true
  | [], _, i, hi, _, _, _ => by simp at hi
  | j :: l, hl, i, hi, hlt, o, ho => by
    simp only [escOk, Bool.and_eq_true, Bool.or_eq_true, decide_eq_true_eq] at hl
    rcases List.mem_cons.1 hi with rfl | hi
    · rcases hl.1 with h1 | h1
      · omega
      · exact objLt_of h1 ho
    · exact escOk_mem hl.2 i hi hlt o ho

section
variable {Dt : Prop} {cx : Cx Dt} {N : Nat} {hb0 : Heap} {S : Ow} {own : Ows} {rs : Regs} {h h' : Heap} {fl fl' : Fl} {g : Gh} {a : Act} {w : World}

theorem Inv.frm (hi : Inv cx N hb0 S rs h fl g a w) : From cx hb0 h fl := ⟨hi.G.fbl, hi.G.lbh, hi.G.low⟩
theorem MemG.baseLt (hm : MemG cx hb0 h fl g w) : BaseLt h := fun i o ho => by
  cases hl : o.blk
  · cases o <;> first | (cases hl; done) | rfl
  · obtain ⟨b, _, hob⟩ := hm.hr.obj i o ho hl
    exact hob.lt hm.dom hm.dome
theorem Inv.rebase (hi : Inv cx N hb0 S rs h fl g a w) : Inv cx N h S rs h ⟨fl.wr, [], fl.all⟩ g a w :=
  ⟨hi.W.fl' (fun _ h => h), ⟨hi.G.hr, hi.G.ge, hi.G.immW, Nat.le_trans hi.G.fbl hi.G.lbh, Nat.le_refl _, hi.G.muOld, hi.G.dom, hi.G.dome, hi.G.muW, hi.G.new, hi.G.inj, hi.G.muimm, fun i o _ ho => .inr ⟨o, ho, fun _ h => h⟩⟩, hi.O, hi.F⟩
theorem From.low2 (hf : From cx hb0 h fl) {e e' : List Nat} (hl : Low h h' e) (he : ∀ i, i ∈ fl.esc → i ∈ e') (he2 : ∀ i, i < h.length → i ∈ e → i ∈ e' ∨ objLt 0 h' i = true) : Low hb0 h' e' := fun i o hi ho => by
  have hlt := Nat.lt_of_lt_of_le hi hf.lbh
  have zero : objLt 0 h' i = true → ∃ ob : Obj, hb0[i]? = some ob ∧ ∀ m, ob.lt m = true → o.lt m = true := fun h1 => ⟨_, List.getElem?_eq_getElem hi, fun m _ => Obj.lt_mono (Nat.zero_le m) (objLt_of h1 ho)⟩
  rcases hl i o hlt ho with h1 | ⟨x, hx, hxo⟩
  · exact (he2 i hlt h1).imp id zero
  · rcases hf.low i x hi hx with h2 | ⟨y, hy, hyx⟩
    · exact .inl (he i h2)
    · exact .inr ⟨y, hy, fun m hm => hxo m (hyx m hm)⟩
theorem Inv.unbase (hi : Inv cx N h S rs h' fl' g a w) (hf : From cx hb0 h fl) {e' : List Nat} (he : ∀ i, i ∈ fl.esc → i ∈ e') (he2 : ∀ i, i < h.length → i ∈ fl'.esc → i ∈ e' ∨ objLt 0 h' i = true) : Inv cx N hb0 S rs h' ⟨fl'.wr, e', fl'.all⟩ g a w :=
  ⟨hi.W.fl' (fun _ h => h), ⟨hi.G.hr, hi.G.ge, hi.G.immW, hf.fbl, Nat.le_trans hf.lbh hi.G.lbh, hi.G.muOld, hi.G.dom, hi.G.dome, hi.G.muW, hi.G.new, hi.G.inj, hi.G.muimm, hf.low2 hi.G.low he he2⟩, hi.O, hi.F⟩
theorem Inv.unbase' (hi : Inv cx N h S rs h' fl' g a w) (hf : From cx hb0 h fl) : Inv cx N hb0 S rs h' ⟨fl'.wr, addE fl.esc fl'.esc, fl'.all⟩ g a w :=
  hi.unbase hf (fun i h => mem_addE.2 (.inl h)) fun i _ h => .inl (mem_addE.2 (.inr h))
theorem RR.keep {live : List Nat} (hr : RR g a rs) : RR g a (keep rs live) := by
  intro r
  induction live with
  | nil => exact .top
  | cons q l ih =>
    simp only [Vm.keep, get]
    by_cases hq : r = q
    · subst hq; simpa using hr r
    · simpa [hq] using ih
theorem get_keep {live : List Nat} {r : Nat} (h : r ∈ live) : get (keep rs live) r = get rs r := by
  induction live with
  | nil => simp at h
  | cons q l ih =>
    simp only [Vm.keep, get]
    by_cases hq : r = q
    · subst hq; simp
    · rcases List.mem_cons.1 h with e | h
      · exact absurd e hq
      · simpa [hq] using ih h
def keepOwn (live : List Nat) (own : Ows) : Ows := own.filter fun x => !isLin x.2.2 || live.contains x.1
def linLive (live : List Nat) (own : Ows) : Bool := own.all fun x => !isLin x.2.2 || live.contains x.1
theorem linLive_keepOwn (live : List Nat) (own : Ows) : linLive live (keepOwn live own) = true := by
  simp only [linLive, keepOwn, List.all_eq_true]
  intro x hx
  exact (List.mem_filter.1 hx).2
theorem Inv.keep {live : List Nat} (hi : Inv0 cx N hb0 own rs h fl g a w) (hl : linLive live own = true) : Inv0 cx N hb0 own (keep rs live) h fl g a w := by
  obtain ⟨hO, hf⟩ := hi.own0 rfl
  refine ⟨hi.W, hi.G, ⟨none, ⟨hO.own, hO.blk, hO.dis, fun r off z hm hz => ?_, hO.contc⟩, ⟨hf.al, hf.la, .inl ⟨rfl, rfl⟩⟩⟩, ⟨hi.F.size, hi.F.nodef, hi.F.regs.keep⟩⟩
  obtain ⟨h0, xs, h1, h2⟩ := hO.cont r off z hm hz
  refine ⟨h0, xs, ?_, h2⟩
  have := (List.all_eq_true.1 hl) _ hm
  simp only [hz, Bool.not_true, Bool.false_or, List.contains_iff_mem] at this
  rw [get_keep this]
  exact h1
theorem allLt_get {n : Nat} : ∀ {rs : Regs}, allLt n rs = true → ∀ r, (get rs r).lt n = true
  | [], _, r => by simp
  | (k, v) :: rs, h, r => by
    simp only [allLt, Bool.and_eq_true] at h
    simp only [get]
    by_cases hr : r = k
    · simpa [hr] using h.1
    · simpa [hr] using allLt_get h.2 r
theorem take_get {n i : Nat} {o : Obj} (h : (h'.take n)[i]? = some o) : i < n ∧ h'[i]? = some o := by
  rw [List.getElem?_take] at h
  split at h
  · exact ⟨by assumption, h⟩
  · cases h
theorem MemG.cut (hm : MemG cx h h' fl' g w) (he : escOk h.length h' fl'.esc = true) (hb : BaseLt h) : MemG cx h (h'.take h.length) fl' (g.trim h.length) w := by
  have hle : h.length ≤ h'.length := hm.lbh
  have hlen : (h'.take h.length).length = h.length := by simp; omega
  have live : ∀ i, LiveAt (h'.take h.length) i → i < h.length ∧ LiveAt h' i := fun i hl => by
    obtain ⟨o, ho, hl⟩ := hl
    obtain ⟨h1, h2⟩ := take_get ho
    exact ⟨h1, o, h2, hl⟩
  have mu : ∀ i b, (g.trim h.length).mu i = some b → i < h.length ∧ g.mu i = some b := fun i b hb => by
    simp only [Gh.trim] at hb
    split at hb
    · exact ⟨by assumption, hb⟩
    · cases hb
  have objLt : ∀ (i : Nat) (o : Obj), i < h.length → h'[i]? = some o → o.lt h.length = true := fun i o hi ho => by
    rcases hm.low i o hi ho with h1 | ⟨ob, h1, h2⟩
    · exact escOk_mem he i h1 hi o ho
    · exact h2 _ (hb i ob h1)
  refine ⟨⟨fun i o ho hl => ?_, hm.hr.imm, fun i b ho hb => ?_, hm.hr.siz⟩, ⟨fun i b hb => ?_, hm.ge.imm, hm.ge.siz, fun i hi => ?_⟩, hm.immW, hm.fbl, by rw [hlen]; exact Nat.le_refl _, fun i hi => ?_, fun i b hb => by rw [hlen]; exact (mu i b hb).1, fun i hi => ?_, fun i b hb => ?_, fun i b hi hb => hm.new i b hi (mu i b hb).2, fun i j b hi hj hbi hbj => hm.inj i j b (live i hi).2 (live j hj).2 (mu i b hbi).2 (mu j b hbj).2,
    fun i b hi hb => hm.muimm i b (live i hi).2 (mu i b hb).2, fun i o hi ho => hm.low i o hi (take_get ho).2⟩
  · obtain ⟨h1, h2⟩ := take_get ho
    obtain ⟨b, hb, hob⟩ := hm.hr.obj i o h2 hl
    exact ⟨b, by simp [Gh.trim, h1, hb], hob.trim (objLt i o h1 h2)⟩
  · exact hm.hr.emp i b (take_get ho).2 (mu i b hb).2
  · have h1 := hm.ge.mu i b hb
    have h2 : i < cx.n0 := by
      simp only [Gh.trim] at hb
      split at hb
      · assumption
      · cases hb
    have := hm.fbl
    simp only [Gh.trim]
    rw [if_pos (by omega)]
    exact h1
  · have h1 := hm.ge.em i hi
    simp only [Gh.trim, Bool.and_eq_true, decide_eq_true_eq] at hi ⊢
    have := hm.fbl
    exact ⟨by omega, h1⟩
  · have := hm.fbl
    simp only [Gh.trim]
    rw [if_pos (by omega)]
    exact hm.muOld i hi
  · rw [hlen]
    simp only [Gh.trim, Bool.and_eq_true, decide_eq_true_eq] at hi
    exact hi.1
  · obtain ⟨h1, h2⟩ := hm.muW i b (mu i b hb).2
    exact ⟨h1, fun hl => h2 (live i hl).2⟩
theorem OwnI.cut {n : Nat} {tmps : Array Value} (hO : OwnI cx own none rs h' g tmps w) : OwnI cx own none rs (h'.take n) (g.trim n) tmps w := by
  have held : ∀ p sz x, Held own none (h'.take n) (g.trim n) tmps w p sz x → Held own none h' g tmps w p sz x ∧ ∀ i j, p = .cell i j → i < n := fun p sz x hp => by
    cases p with
    | reg r off => exact ⟨hp, fun i j e => by cases e⟩
    | cell i j =>
      obtain ⟨cs, ow, b, h1, h2, h3, h4, h5⟩ := hp
      obtain ⟨e1, e2⟩ := take_get h1
      exact ⟨⟨cs, ow, b, e2, h2, h3, by simpa [Gh.trim, e1] using h4, h5⟩, fun i' j' e => by cases e; exact e1⟩
  refine hO.map (fun p q => p = q) (fun _ _ _ e1 e2 => e1.trans e2.symm) (fun p sz x hp => .inr ⟨_, sz, rfl, (held p sz x hp).1, .inl rfl⟩) (fun p q b l e hn => e ▸ hn) (fun q sz x b _ _ _ => ⟨⟨rfl, fun _ h => h⟩, fun i hl hm => ?_⟩) (ImmLe.refl _) (fun r off z hm _ => ⟨r, hm, rfl, rfl, rfl⟩) (fun i j z u q hp _ e _ => ?_)
  · obtain ⟨o, ho, hl⟩ := hl
    obtain ⟨e1, e2⟩ := take_get ho
    exact ⟨⟨o, e2, hl⟩, by simpa [Gh.trim, e1] using hm⟩
  · cases e
    refine ⟨i, j, rfl, fun xs ⟨cs, ow, h1, h2⟩ => ⟨cs, ow, ?_, h2⟩⟩
    rw [List.getElem?_take, if_pos ((held _ z u hp).2 i j rfl)]; exact h1
theorem objLt_take {n m i : Nat} {h : Heap} (hi : i < n) : objLt m (h.take n) i = objLt m h i := by
  unfold objLt hget
  rw [List.getElem?_take, if_pos hi]
theorem Inv.clean (hi : Inv0 cx N h own rs h' fl' g a w) (hf : From cx hb0 h fl) (hb : BaseLt h) {g0 : Gh} (hd0 : ∀ i b, g0.mu i = some b → i < h.length) (he0 : ∀ i, g0.em i = true → i < h.length) (hg : GLe g0 g) :
    ∃ g', GLe g0 g' ∧ Inv0 cx N hb0 own (clean h.length fl.esc rs ⟨rs, h', fl'⟩).rs (clean h.length fl.esc rs ⟨rs, h', fl'⟩).h (clean h.length fl.esc rs ⟨rs, h', fl'⟩).fl g' a w := by
  unfold Vm.clean
  cases hc : (escOk h.length h' fl'.esc && allLt h.length rs)
  · exact ⟨g, hg, hi.unbase' hf⟩
  · simp only [Bool.and_eq_true] at hc
    obtain ⟨he, hlt⟩ := hc
    obtain ⟨hO, hfc⟩ := hi.own0 rfl
    refine ⟨g.trim h.length, ⟨fun i b hb => ?_, hg.imm, hg.siz, fun i hi => ?_⟩, ?_⟩
    · simp only [Gh.trim]
      rw [if_pos (hd0 i b hb)]
      exact hg.mu i b hb
    · simp only [Gh.trim, Bool.and_eq_true, decide_eq_true_eq]
      exact ⟨he0 i hi, hg.em i hi⟩
    · have h1 : Inv0 cx N h own rs (h'.take h.length) fl' (g.trim h.length) a w :=
        ⟨hi.W, hi.G.cut he hb, ⟨none, hO.cut, ⟨hfc.al, hfc.la, .inl ⟨rfl, rfl⟩⟩⟩, ⟨hi.F.size, hi.F.nodef, fun r => (hi.F.regs r).trim (allLt_get hlt r)⟩⟩
      exact h1.unbase hf (fun i h => mem_addE.2 (.inl h)) fun i hlt hi => by
        rw [objLt_take hlt]
        cases ho : objLt 0 h' i
        · exact .inl (mem_addE.2 (.inr (mem_escLt.2 ⟨hi, hlt, ho⟩)))
        · exact .inr rfl
end
end Go.Vm

/- A region whose order is open: what may stand in it, in which order; what an operation reads. -/
set_option linter.unusedVariables false
set_option linter.unusedSimpArgs false
namespace Go.Vm
attribute [local simp] evalOps_nil evalOps_cons evalOps_consg evalOp_mv evalOp_asg evalOp_pick evalOp_build evalOp_bslice evalOp_load evalOp_nilck evalOp_bin evalOp_un evalOp_conv evalOp_mkfn evalOp_slice evalOp_faddr evalOp_field evalOp_iaddr evalOp_index evalOp_lookup evalOp_extract evalOp_app evalOp_len evalOp_mn evalOp_mx evalOp_alloc evalOp_box evalOp_mkmap evalOp_store evalOp_mapupd evalOp_delete evalOp_sliceArr evalOp_call evalOp_callv evalOp_appc code_skip code_ops code_dops code_seq code_cond code_block code_exit code_ret finish_normal finish_ret
attribute [local simp] V.lt V.ltL V.flat V.pureCell V.pure V.isCell cellEq cellsEq eqV intV shV strV isShift binV unV byteV convV minV maxV foldV foldV1 fillV fillE findV putV delV isKey natOf natOr cut cellsAt mapAt mapOf loadV pickV nilckV sizeOk allSize sliceV faddrV fieldV iaddrV indexV found extractV allPure appV lenV ownHas ownOk storeC storeV samePtr appcV boxable mapupdV deleteV sliceArrV callV allLt clean bodyEnd resV one finishV runV initR

def argRegs : Arg → List Nat
  | .r n => [n]
  | .c _ => []
def argsRegs : List Arg → List Nat
  | [] => []
  | x :: xs => argRegs x ++ argsRegs xs
def optRegs : Option Arg → List Nat
  | none => []
  | some x => argRegs x
def partsRegs : List (Nat × Nat × Arg) → List Nat
  | [] => []
  | (_, _, x) :: l => argRegs x ++ partsRegs l
def elemsRegs : List (Nat × Arg) → List Nat
  | [] => []
  | (_, x) :: l => argRegs x ++ elemsRegs l
def readsOf : VOp → Option (List Nat)
  | .mv x => some (argRegs x)
  | .pick c a b => some (argRegs c ++ (argRegs a ++ argRegs b))
  | .build _ ps => some (partsRegs ps)
  | .bslice _ _ _ ps => cnd (incrFrom 0 ps) (some (elemsRegs ps)) none
  | .load _ _ a => some (argRegs a)
  | .nilck x => some (argRegs x)
  | .bin _ _ x y => some (argRegs x ++ argRegs y)
  | .un _ x => some (argRegs x)
  | .conv .bytesOfStr _ => none
  | .conv _ x => some (argRegs x)
  | .mkfn _ x y => some (argsRegs x ++ argsRegs y)
  | .slice _ _ x lo hi mx => some (argRegs x ++ (optRegs lo ++ (optRegs hi ++ optRegs mx)))
  | .faddr _ x => some (argRegs x)
  | .field _ _ _ x => some (argRegs x)
  | .iaddr _ _ x i => some (argRegs x ++ argRegs i)
  | .index _ _ _ _ x i => some (argRegs x ++ argRegs i)
  | .lookup _ _ _ m k => some (argRegs m ++ argRegs k)
  | .extract _ x => some (argRegs x)
  | .call true _ as => some (argsRegs as)
  | .callv true x as => some (argRegs x ++ argsRegs as)
  | .app .fresh _ _ s x => cnd (isNilArg s) (some (argRegs x)) none
  | .app (.reg p) _ _ (.r t) x => cnd (decide (t = p)) (some (p :: argRegs x)) none
  | .len _ x => some (argRegs x)
  | .mn xs => some (argsRegs xs)
  | .mx xs => some (argsRegs xs)
  | _ => none

section
variable {rs rs' : Regs}
theorem val_congr {x : Arg} (h : ∀ r ∈ argRegs x, get rs r = get rs' r) : x.val rs = x.val rs' := by
  cases x with
  | r n => exact h n (by simp [argRegs])
  | c v => rfl
theorem vals_congr : ∀ {xs : List Arg}, (∀ r ∈ argsRegs xs, get rs r = get rs' r) → vals rs xs = vals rs' xs
  | [], _ => rfl
  | x :: xs, h => by
    simp only [vals]
    rw [val_congr fun r hr => h r (by simp [argsRegs, hr]), vals_congr fun r hr => h r (by simp [argsRegs, hr])]
theorem natOr_congr {d : Nat} {x : Option Arg} (h : ∀ r ∈ optRegs x, get rs r = get rs' r) : natOr rs d x = natOr rs' d x := by
  cases x with
  | none => rfl
  | some x => simp only [natOr]; rw [val_congr h]
theorem fillV_congr : ∀ {ps : List (Nat × Nat × Arg)} {cs : List V}, (∀ r ∈ partsRegs ps, get rs r = get rs' r) → fillV rs cs ps = fillV rs' cs ps
  | [], _, _ => rfl
  | (off, size, x) :: ps, cs, h => by
    simp only [fillV]
    rw [val_congr fun r hr => h r (by simp [partsRegs, hr]), fillV_congr fun r hr => h r (by simp [partsRegs, hr])]
theorem fillE_congr : ∀ {ps : List (Nat × Arg)} {cs : List V}, (∀ r ∈ elemsRegs ps, get rs r = get rs' r) → fillE rs cs ps = fillE rs' cs ps
  | [], _, _ => rfl
  | (i, x) :: ps, cs, h => by
    simp only [fillE]
    rw [val_congr fun r hr => h r (by simp [elemsRegs, hr]), fillE_congr fun r hr => h r (by simp [elemsRegs, hr])]
theorem sliceV_congr {size : Nat} {lo hi mx : Option Arg} (h1 : ∀ r ∈ optRegs lo, get rs r = get rs' r) (h2 : ∀ r ∈ optRegs hi, get rs r = get rs' r) (h3 : ∀ r ∈ optRegs mx, get rs r = get rs' r) (b : Bool) (v : V) : sliceV size rs lo hi mx b v = sliceV size rs' lo hi mx b v := by
  unfold sliceV
  split
  · rw [natOr_congr h1, natOr_congr h2]
  · rw [natOr_congr h1, natOr_congr h2]
    congr 1
    funext l
    congr 1
    funext u
    rw [natOr_congr h3]
  · rw [natOr_congr h1]
    congr 1
    funext l
    rw [natOr_congr h2]
  · rfl
theorem evalOp_congr {C : Callee} {fb lb : Nat} {h : Heap} {op : VOp} {l : List Nat} (hl : readsOf op = some l) (hr : ∀ r ∈ l, get rs r = get rs' r) : evalOp C fb lb rs h op = evalOp C fb lb rs' h op := by
  cases op with
  | mv x => cases hl; simp only [evalOp, valOp]; rw [val_congr hr]
  | pick c a b => cases hl; simp only [evalOp, valOp]; rw [val_congr fun r h => hr r (by simp [h]), val_congr fun r h => hr r (by simp [h]), val_congr fun r h => hr r (by simp [h])]
  | build z ps => cases hl; simp only [evalOp, valOp]; rw [fillV_congr hr]
  | bslice z k n ps => simp only [readsOf] at hl; obtain ⟨_, hl⟩ := cnd_eq_some hl; cases hl; simp only [evalOp, valOp]; rw [fillE_congr hr]
  | load b n a => cases hl; simp only [evalOp, valOp]; rw [val_congr hr]
  | nilck x => cases hl; simp only [evalOp, valOp]; rw [val_congr hr]
  | bin o k x y => cases hl; simp only [evalOp, valOp]; rw [val_congr fun r h => hr r (by simp [h]), val_congr fun r h => hr r (by simp [h])]
  | un o x => cases hl; simp only [evalOp, valOp]; rw [val_congr hr]
  | conv k x => cases k <;> cases hl <;> (simp only [evalOp, valOp]; rw [val_congr hr])
  | mkfn f x y => cases hl; simp only [evalOp, valOp]; rw [vals_congr fun r h => hr r (by simp [h]), vals_congr fun r h => hr r (by simp [h])]
  | slice b n x lo hi mx => cases hl; simp only [evalOp, valOp]; rw [val_congr fun r h => hr r (by simp [h]), sliceV_congr (fun r h => hr r (by simp [h])) (fun r h => hr r (by simp [h])) (fun r h => hr r (by simp [h]))]
  | faddr k x => cases hl; simp only [evalOp, valOp]; rw [val_congr hr]
  | field k n b x => cases hl; simp only [evalOp, valOp]; rw [val_congr hr]
  | iaddr a k x i => cases hl; simp only [evalOp, valOp]; rw [val_congr fun r h => hr r (by simp [h]), val_congr fun r h => hr r (by simp [h])]
  | index b m n t x i => cases hl; simp only [evalOp, valOp]; rw [val_congr fun r h => hr r (by simp [h]), val_congr fun r h => hr r (by simp [h])]
  | lookup q z b m k => cases hl; simp only [evalOp, valOp]; rw [val_congr fun r h => hr r (by simp [h]), val_congr fun r h => hr r (by simp [h])]
  | extract i x => cases hl; simp only [evalOp, valOp]; rw [val_congr hr]
  | call q f as => cases q <;> cases hl; simp only [evalOp]; rw [vals_congr hr]
  | callv q x as => cases q <;> cases hl; simp only [evalOp]; rw [val_congr fun r h => hr r (by simp [h]), vals_congr fun r h => hr r (by simp [h])]
  | app p k m s x =>
    cases p with
    | fresh =>
      simp only [readsOf] at hl
      obtain ⟨hs, hl⟩ := cnd_eq_some hl
      cases hl
      cases s with
      | r t => cases hs
      | c v => simp only [evalOp, valOp]; rw [val_congr (x := x) hr, val_congr (x := Arg.c v) (rs := rs) (rs' := rs') (by simp [argRegs])]
    | reg p =>
      cases s with
      | c v => cases hl
      | r t =>
        simp only [readsOf] at hl
        obtain ⟨ht, hl⟩ := cnd_eq_some hl
        cases hl
        have ht := of_decide_eq_true ht
        subst ht
        simp only [evalOp, valOp]
        rw [val_congr (x := Arg.r t) fun r h => hr r (by simp [argRegs] at h; simp [h]), val_congr (x := x) fun r h => hr r (by simp [h])]
  | len k x => cases hl; simp only [evalOp, valOp]; rw [val_congr hr]
  | mn xs => cases hl; simp only [evalOp, valOp]; rw [vals_congr hr]
  | mx xs => cases hl; simp only [evalOp, valOp]; rw [vals_congr hr]
  | _ => cases hl
end
theorem evalOp_still {C : Callee} {fb lb : Nat} {rs : Regs} {h : Heap} {op : VOp} {l : List Nat} (hl : readsOf op = some l) {r : V × Heap × Fl} (hr : evalOp C fb lb rs h op = some r) : r.2.1 = h ∧ r.2.2 = .no := by
  have plain : ∀ {x : Option V}, (bnd x fun v => some (v, h, Fl.no)) = some r → r.2.1 = h ∧ r.2.2 = .no := fun hx => by
    obtain ⟨v, _, e⟩ := bnd_eq_some hx; cases e; exact ⟨rfl, rfl⟩
  cases op with
  | call q f as =>
    cases q <;> cases hl
    simp only [evalOp] at hr
    obtain ⟨q, _, hr⟩ := bnd_eq_some hr
    simp only [quiet, cnd_true] at hr
    exact plain hr
  | callv q x as =>
    cases q <;> cases hl
    simp only [evalOp] at hr
    obtain ⟨q, _, hr⟩ := bnd_eq_some hr
    simp only [quiet, cnd_true] at hr
    exact plain hr
  | _ => first
    | (cases hl; done)
    | exact plain (x := some _) hr
    | exact plain hr

def readsX : VOp → Option (List Nat)
  | .store _ a x [] none => some (argRegs a ++ argRegs x)
  | .alloc cs own => cnd (ownNil cs own) (some []) none
  | .call false _ as => some (argsRegs as)
  | .callv false x as => some (argRegs x ++ argsRegs as)
  | _ => none
def readsOf2 (op : VOp) : Option (List Nat) :=
  match readsOf op with
  | some l => some l
  | none => readsX op
def freeOp : VOp → Bool
  | .mv _ | .pick _ _ _ | .build _ _ | .bslice _ _ _ _ | .nilck _ | .bin _ _ _ _ | .un _ _ | .conv _ _ | .mkfn _ _ _ | .slice _ _ _ _ _ _ | .faddr _ _ | .field _ _ _ _ | .iaddr _ _ _ _ | .index _ _ _ _ _ _ | .extract _ _ | .mn _ | .mx _ | .app _ _ _ _ _ => true
  | .len .sl _ | .len .str _ | .len (.arr _) _ => true
  | _ => false
theorem evalOp_free {C : Callee} {fb lb : Nat} {rs : Regs} {h : Heap} {op : VOp} {l : List Nat} (hf : freeOp op = true) (hl : readsOf op = some l) {r : V × Heap × Fl} (hr : evalOp C fb lb rs h op = some r) (h' : Heap) : evalOp C fb lb rs h' op = some (r.1, h', .no) := by
  have plain : ∀ {x : Option V}, (bnd x fun v => some (v, h, Fl.no)) = some r → (bnd x fun v => some (v, h', Fl.no)) = some (r.1, h', .no) := fun hx => by
    obtain ⟨v, h1, e⟩ := bnd_eq_some hx; cases e; rw [h1]; rfl
  cases op with
  | len k x =>
    cases k with
    | map => cases hf
    | arr n => exact plain (x := lenV h (.arr n) (x.val rs)) hr
    | sl =>
      have e : lenV h .sl (x.val rs) = lenV h' .sl (x.val rs) := by cases x.val rs <;> rfl
      have := plain (x := lenV h .sl (x.val rs)) hr
      rw [e] at this
      exact this
    | str =>
      have e : lenV h .str (x.val rs) = lenV h' .str (x.val rs) := by cases x.val rs <;> rfl
      have := plain (x := lenV h .str (x.val rs)) hr
      rw [e] at this
      exact this
  | _ => first
    | (cases hf; done)
    | (cases hl; done)
    | exact plain (x := some _) hr
    | exact plain hr
theorem evalOp_congrX {C : Callee} {fb lb : Nat} {rs rs' : Regs} {h : Heap} {op : VOp} {l : List Nat} (hl : readsX op = some l) (hr : ∀ r ∈ l, get rs r = get rs' r) : evalOp C fb lb rs h op = evalOp C fb lb rs' h op := by
  cases op with
  | store n a x own p =>
    cases own with
    | nil =>
      cases p with
      | none => cases hl; simp only [evalOp]; rw [val_congr (x := a) fun r h => hr r (by simp [h]), val_congr (x := x) fun r h => hr r (by simp [h])]; rfl
      | some p => cases hl
    | cons y ys => cases hl
  | alloc cs own => rfl
  | call q f as => cases q <;> cases hl; simp only [evalOp]; rw [vals_congr hr]
  | callv q x as => cases q <;> cases hl; simp only [evalOp]; rw [val_congr fun r h => hr r (by simp [h]), vals_congr fun r h => hr r (by simp [h])]
  | _ => cases hl
theorem evalOp_congr2 {C : Callee} {fb lb : Nat} {rs rs' : Regs} {h : Heap} {op : VOp} {l : List Nat} (hl : readsOf2 op = some l) (hr : ∀ r ∈ l, get rs r = get rs' r) : evalOp C fb lb rs h op = evalOp C fb lb rs' h op := by
  unfold readsOf2 at hl
  split at hl
  · rename_i l' h1; cases hl; exact evalOp_congr h1 hr
  · exact evalOp_congrX hl hr
end Go.Vm

/- What must stand before what; the registers behind a set of operations. -/
set_option linter.unusedVariables false
set_option linter.unusedSimpArgs false
namespace Go.Vm
attribute [local simp] evalOps_nil evalOps_cons evalOps_consg evalOp_mv evalOp_asg evalOp_pick evalOp_build evalOp_bslice evalOp_load evalOp_nilck evalOp_bin evalOp_un evalOp_conv evalOp_mkfn evalOp_slice evalOp_faddr evalOp_field evalOp_iaddr evalOp_index evalOp_lookup evalOp_extract evalOp_app evalOp_len evalOp_mn evalOp_mx evalOp_alloc evalOp_box evalOp_mkmap evalOp_store evalOp_mapupd evalOp_delete evalOp_sliceArr evalOp_call evalOp_callv evalOp_appc code_skip code_ops code_dops code_seq code_cond code_block code_exit code_ret finish_normal finish_ret
attribute [local simp] V.lt V.ltL V.flat V.pureCell V.pure V.isCell cellEq cellsEq eqV intV shV strV isShift binV unV byteV convV minV maxV foldV foldV1 fillV fillE findV putV delV isKey natOf natOr cut cellsAt mapAt mapOf loadV pickV nilckV sizeOk allSize sliceV faddrV fieldV iaddrV indexV found extractV allPure appV lenV ownHas ownOk storeC storeV samePtr appcV boxable mapupdV deleteV sliceArrV callV allLt clean bodyEnd resV one finishV runV initR

def bindsOn (o : Oper) : List Nat := o.after.toList.filterMap fun e => cnd (Region.binds .any e) (some e.on) none
def maskOf (acc : List Nat) : List Nat → Nat
  | [] => 0
  | j :: l => (2 ^ j ||| acc.getD j 0) ||| maskOf acc l
def masks : List Oper → List Nat → List Nat
  | [], acc => acc
  | o :: os, acc => masks os (acc ++ [maskOf acc (bindsOn o)])

theorem mem_bindsOn {o : Oper} {j : Nat} : j ∈ bindsOn o ↔ ∃ e ∈ o.after, Region.binds .any e = true ∧ e.on = j := by
  simp only [bindsOn, List.mem_filterMap, Array.mem_toList_iff]
  constructor
  · rintro ⟨e, he, h⟩
    obtain ⟨h1, h⟩ := cnd_eq_some h
    cases h
    exact ⟨e, he, h1, rfl⟩
  · rintro ⟨e, he, h1, rfl⟩
    exact ⟨e, he, by rw [h1]; rfl⟩
theorem maskOf_bit {acc : List Nat} {b : Nat} : ∀ {l : List Nat}, (maskOf acc l).testBit b = true → ∃ j ∈ l, j = b ∨ (acc.getD j 0).testBit b = true
  | [], h => by simp [maskOf] at h
  | j :: l, h => by
    simp only [maskOf, Nat.testBit_or, Bool.or_eq_true, Nat.testBit_two_pow, decide_eq_true_eq] at h
    rcases h with (h | h) | h
    · exact ⟨j, by simp, .inl h⟩
    · exact ⟨j, by simp, .inr h⟩
    · obtain ⟨q, hq, h⟩ := maskOf_bit h
      exact ⟨q, by simp [hq], h⟩
theorem masks_len : ∀ (os : List Oper) (acc : List Nat), (masks os acc).length = acc.length + os.length
  | [], acc => by simp [masks]
  | o :: os, acc => by simp only [masks]; rw [masks_len]; simp; omega
theorem masks_keep : ∀ (os : List Oper) (acc : List Nat) (k : Nat), k < acc.length → (masks os acc)[k]? = acc[k]?
  | [], acc, k, _ => rfl
  | o :: os, acc, k, h => by
    simp only [masks]
    rw [masks_keep os _ k (by simp; omega), List.getElem?_append_left h]
theorem masks_at : ∀ (os : List Oper) (acc : List Nat) (k : Nat) (o : Oper), os[k]? = some o → (masks os acc)[acc.length + k]? = some (maskOf ((masks os acc).take (acc.length + k)) (bindsOn o))
  | [], acc, k, o, h => by simp at h
  | o' :: os, acc, 0, o, h => by
    simp at h
    subst h
    simp only [masks, Nat.add_zero]
    rw [masks_keep os _ acc.length (by simp), List.getElem?_append_right (Nat.le_refl _)]
    simp only [Nat.sub_self, List.getElem?_cons_zero, Option.some.injEq]
    congr 1
    apply List.ext_getElem?
    intro j
    rw [List.getElem?_take]
    split
    · rename_i hj
      rw [masks_keep os _ j (by simp; omega), List.getElem?_append_left hj]
    · rename_i hj
      exact List.getElem?_eq_none (by omega)
  | o' :: os, acc, k + 1, o, h => by
    simp only [masks]
    have := masks_at os (acc ++ [maskOf acc (bindsOn o')]) k o (by simpa using h)
    simp only [List.length_append, List.length_singleton] at this
    rw [show acc.length + (k + 1) = acc.length + 1 + k by omega]
    exact this
theorem mask_closed {os : List Oper} {L : Nat → Bool} (hL : ∀ k o, os[k]? = some o → L k = true → ∀ j ∈ bindsOn o, L j = true) : ∀ (k : Nat) (o : Oper), os[k]? = some o → (∀ j ∈ bindsOn o, L j = true) → ∀ b, ((masks os []).getD k 0).testBit b = true → L b = true := by
  intro k
  induction k using Nat.strongRecOn with
  | _ k ih =>
    intro o ho hj b hb
    have hat := masks_at os [] k o ho
    simp only [List.length_nil, Nat.zero_add] at hat
    rw [List.getD_eq_getElem?_getD, hat, Option.getD_some] at hb
    obtain ⟨j, hm, h⟩ := maskOf_bit hb
    rcases h with rfl | h
    · exact hj j hm
    · rw [List.getD_eq_getElem?_getD, List.getElem?_take] at h
      split at h
      · rename_i hjk
        have hlen := masks_len os []
        have hk := (List.getElem?_eq_some_iff.1 ho).1
        have hjl : j < os.length := by omega
        have hoj : os[j]? = some os[j] := by simp [hjl]
        refine ih j hjk os[j] hoj (hL j os[j] hoj (hj j hm)) b ?_
        rw [List.getD_eq_getElem?_getD]
        exact h
      · simp at h

def mix (L : Nat → Bool) : Nat → List VI → List V → Regs → Regs
  | k, i :: is, v :: vs, rs => mix L (k + 1) is vs (cnd (L k) (putR i.dst v rs) rs)
  | _, _, _, rs => rs
theorem get_putR {d : Option Nat} {v : V} {rs : Regs} {r : Nat} (h : d ≠ some r) : get (putR d v rs) r = get rs r := by
  cases d with
  | none => rfl
  | some q =>
    have : r ≠ q := fun e => h (e ▸ rfl)
    simp [putR, get, this]
theorem mix_none {L : Nat → Bool} {r : Nat} : ∀ (is : List VI) (vs : List V) (k : Nat) (rs : Regs), (∀ (j : Nat) (i : VI), is[j]? = some i → L (k + j) = true → i.dst ≠ some r) → get (mix L k is vs rs) r = get rs r
  | [], _, _, _, _ => rfl
  | _ :: _, [], _, _, _ => rfl
  | i :: is, v :: vs, k, rs, h => by
    simp only [mix]
    rw [mix_none is vs (k + 1) _ fun j i' hi hl => h (j + 1) i' (by simpa using hi) (by rw [show k + (j + 1) = k + 1 + j by omega]; exact hl)]
    cases hk : L k
    · rfl
    · exact get_putR (h 0 i (by simp) (by simpa using hk))
theorem mix_some {L : Nat → Bool} {r : Nat} : ∀ (is : List VI) (vs : List V) (k : Nat) (rs : Regs) (j : Nat) (i : VI) (v : V), is[j]? = some i → vs[j]? = some v → L (k + j) = true → i.dst = some r → (∀ (q : Nat) (i' : VI), j < q → is[q]? = some i' → i'.dst ≠ some r) → get (mix L k is vs rs) r = v
  | [], _, _, _, j, i, v, hi, _, _, _, _ => by simp at hi
  | _ :: _, [], _, _, j, i, v, _, hv, _, _, _ => by simp at hv
  | i0 :: is, v0 :: vs, k, rs, 0, i, v, hi, hv, hl, hd, hu => by
    simp at hi hv
    subst hi hv
    simp only [mix]
    rw [mix_none is vs (k + 1) _ fun q i' hi' _ => hu (q + 1) i' (by omega) (by simpa using hi')]
    have hk : L k = true := by simpa using hl
    rw [hk, hd]
    simp [putR, get]
  | i0 :: is, v0 :: vs, k, rs, j + 1, i, v, hi, hv, hl, hd, hu => by
    simp only [mix]
    exact mix_some is vs (k + 1) _ j i v (by simpa using hi) (by simpa using hv) (by rw [show k + 1 + j = k + (j + 1) by omega]; exact hl) hd fun q i' hq hi' => hu (q + 1) i' (by omega) (by simpa using hi')
end Go.Vm

/- The check of a region whose order is open; its run in the order of the text. -/
set_option linter.unusedVariables false
set_option linter.unusedSimpArgs false
namespace Go.Vm
attribute [local simp] evalOps_nil evalOps_cons evalOps_consg evalOp_mv evalOp_asg evalOp_pick evalOp_build evalOp_bslice evalOp_load evalOp_nilck evalOp_bin evalOp_un evalOp_conv evalOp_mkfn evalOp_slice evalOp_faddr evalOp_field evalOp_iaddr evalOp_index evalOp_lookup evalOp_extract evalOp_app evalOp_len evalOp_mn evalOp_mx evalOp_alloc evalOp_box evalOp_mkmap evalOp_store evalOp_mapupd evalOp_delete evalOp_sliceArr evalOp_call evalOp_callv evalOp_appc code_skip code_ops code_dops code_seq code_cond code_block code_exit code_ret finish_normal finish_ret
attribute [local simp] V.lt V.ltL V.flat V.pureCell V.pure V.isCell cellEq cellsEq eqV intV shV strV isShift binV unV byteV convV minV maxV foldV foldV1 fillV fillE findV putV delV isKey natOf natOr cut cellsAt mapAt mapOf loadV pickV nilckV sizeOk allSize sliceV faddrV fieldV iaddrV indexV found extractV allPure appV lenV ownHas ownOk storeC storeV samePtr appcV boxable mapupdV deleteV sliceArrV callV allLt clean bodyEnd resV one finishV runV initR

def readsAll (i : VI) : Option (List Nat) := bnd (readsOf2 i.op) fun l => some (match i.guard with | some (g, _) => g :: l | none => l)
def writersIn (mask : Nat) (regs : List Nat) : Nat → List VI → Bool
  | _, [] => true
  | j, i :: is => (match i.dst with | some d => !(regs.contains d) || mask.testBit j | none => true) && writersIn mask regs (j + 1) is
def readsOk (pre : List VI) (M : List Nat) : Nat → List VI → Bool
  | _, [] => true
  | k, i :: is => (match readsAll i with | some l => writersIn (M.getD k 0) l 0 pre | none => false) && readsOk pre M (k + 1) is
def oneWriter : List VI → Bool
  | [] => true
  | i :: is => (match i.dst with | some d => is.all (fun i' => decide (i'.dst ≠ some d)) | none => true) && oneWriter is
def backOk : Nat → List Oper → Bool
  | _, [] => true
  | k, o :: os => (bindsOn o).all (fun j => decide (j < k)) && backOk (k + 1) os
def restOk (c : Nat) (M : List Nat) (n : Nat) : Bool := (List.range n).all fun k => decide (k < c) || (List.range k).all fun j => (M.getD k 0).testBit j
def tokenOf (i : VI) : Option (Nat × Nat × Nat) :=
  match i.dst, i.guard, i.op with
  | some d, none, .bslice _ _ _ _ => some (d, 0, 0)
  | some d, none, .app _ size _ _ _ => some (d, 0, size)
  | _, _, _ => none
def eatenBy (i : VI) : Option Nat :=
  match i.op with
  | .app (.reg p) _ _ _ _ => some p
  | _ => none
def toks (L : Nat → Bool) : Nat → List VI → Ows
  | _, [] => []
  | k, i :: is => (match tokenOf i with | some t => cnd (L k) [t] [] | none => []) ++ toks L (k + 1) is
def eaten (L : Nat → Bool) : Nat → List VI → List Nat
  | _, [] => []
  | k, i :: is => (match eatenBy i with | some p => cnd (L k) [p] [] | none => []) ++ eaten L (k + 1) is
def alOf (i : VI) : Option (Nat × Nat) :=
  match i.dst, i.guard, i.op with
  | some d, none, .mv (.r p) => cnd (decide (d ≠ p)) (some (d, p)) none
  | _, _, _ => none
def als (L : Nat → Bool) : Nat → List VI → List (Nat × Nat)
  | _, [] => []
  | k, i :: is => (match alOf i with | some t => cnd (L k) [t] [] | none => []) ++ als L (k + 1) is
def own0 (pre : List VI) (own : Ows) : Ows := own.filter fun x => pre.all fun i => decide (i.dst ≠ some x.1)
def ownL (L : Nat → Bool) (pre : List VI) (own : Ows) : Ows := (own0 pre own ++ toks L 0 pre).filter fun x => !((eaten L 0 pre).contains x.1)
def nodupN : List Nat → Bool
  | [] => true
  | x :: l => !(l.contains x) && nodupN l
def eatsOk (pre : List VI) : List VI → Bool
  | [] => true
  | i :: is => (match i.op with | .app (.reg p) size _ _ _ => (toks (fun _ => true) 0 pre).any (fun x => decide (x.1 = p) && (decide (x.2.1 = 0) && (decide (x.2.2 = size) || decide (x.2.2 = 0)))) && !isLin size | .app .fresh size _ _ _ => !isLin size | _ => true) && eatsOk pre is
def chgOk (x : Option (Nat × List Nat)) (M : List Nat) : Nat → List VI → Bool
  | _, [] => true
  | k, i :: is => (match x with
      | none => (readsOf i.op).isSome
      | some (x, chk) => cnd (decide (k = x)) (readsX i.op).isSome ((readsOf i.op).isSome && (freeOp i.op || ((M.getD x 0).testBit k || ((M.getD k 0).testBit x || chk.contains k))))) && chgOk x M (k + 1) is
def laOf (i : VI) : Option (Nat × Nat) :=
  match i.dst, i.guard, i.op with
  | some d, none, .load false 1 (.r p) => cnd (decide (d ≠ p)) (some (d, p)) none
  | _, _, _ => none
def las (L : Nat → Bool) : Nat → List VI → List (Nat × Nat)
  | _, [] => []
  | k, i :: is => (match laOf i with | some t => cnd (L k) [t] [] | none => []) ++ las L (k + 1) is
def laStay : VOp → Bool
  | .mv _ | .load _ _ _ | .bslice _ _ _ _ | .build _ _ | .nilck _ | .bin _ _ _ _ | .un _ _ | .faddr _ _ | .field _ _ _ _ | .iaddr _ _ _ _ | .index _ _ _ _ _ _ | .pick _ _ _ | .extract _ _ | .slice _ _ _ _ _ _ | .len _ _ => true
  | _ => false
def laL (L : Nat → Bool) (pre : List VI) : List (Nat × Nat) := cnd (pre.all fun i => laStay i.op) (las L 0 pre) []
def floatI (i : VI) : Bool := freeOp i.op && (i.guard.isNone && ((readsOf i.op).isSome && ((tokenOf i).isNone && ((eatenBy i).isNone && i.dst.isSome))))
def alUse : VOp → List Nat
  | .app _ _ _ s _ => argRegs s
  | .appl _ _ _ s _ => argRegs s
  | .lenl _ s => argRegs s
  | .slf _ _ s _ _ => argRegs s
  | .mrk _ s => argRegs s
  | .calll _ _ _ _ s _ => argRegs s
  | _ => []
def keepD (c : Nat) (is : List VI) (d : Nat) : Bool := (is.drop c).any fun i => (alUse i.op).contains d
def floatP (c : Nat) (is : List VI) (i : VI) : Bool := floatI i && match alOf i with | some x => !keepD c is x.1 | none => true
def readsOfK : VOp → Option (List Nat)
  | .appc a _ _ s x => some (a :: (argRegs s ++ argRegs x))
  | .appm _ _ s x => some (argRegs s ++ argRegs x)
  | op => readsOf2 op
def readsAllK (i : VI) : Option (List Nat) := bnd (readsOfK i.op) fun l => some (match i.guard with | some (g, _) => g :: l | none => l)
def relOk (ij ik : VI) : Bool :=
  floatI ij && (match ij.dst, readsAll ij, readsAllK ik with
    | some d, some lj, some lk => !(lk.contains d) && (match ik.dst with | some dk => decide (dk ≠ d) && !(lj.contains dk) | none => true)
    | _, _, _ => false)
def restOkF (c : Nat) (M : List Nat) (is : List VI) : Bool := (List.range is.length).all fun k => decide (k < c) || (List.range k).all fun j => (M.getD k 0).testBit j || (decide (j < c) && (match is[j]?, is[k]? with | some ij, some ik => floatP c is ij && relOk ij ik | _, _ => false))
def preOk0 (c : Nat) (os : List Oper) (is : List VI) : Bool :=
  decide (c ≤ is.length) && (oneWriter (is.take c) && (readsOk (is.take c) (masks os []) 0 (is.take c) && (backOk 0 os && (restOkF c (masks os []) is && (eatsOk (is.take c) (is.take c) && nodupN (eaten (fun _ => true) 0 (is.take c)))))))
def preOk (c : Nat) (x : Option (Nat × List Nat)) (os : List Oper) (is : List VI) : Bool :=
  chgOk x (masks os []) 0 (is.take c) && preOk0 c os is
def preOw (c : Nat) (is : List VI) (own : Ows) : Ow := ⟨ownL (fun _ => true) (is.take c) own, (als (fun _ => true) 0 (is.take c)).filter fun x => keepD c is x.1, laL (fun _ => true) (is.take c), none⟩

section
variable {C : Callee} {fb lb : Nat}
theorem canon {h : Heap} {fl : Fl} : ∀ (is : List VI) (k : Nat) (rs : Regs) (r : Regs × Heap × Fl), (∀ i ∈ is, (readsOf i.op).isSome = true) → evalOps C fb lb is rs h fl = some r →
    ∃ vs : List V, vs.length = is.length ∧ r = (mix (fun _ => true) k is vs rs, h, fl) ∧ ∀ (j : Nat) (i : VI), is[j]? = some i → ∃ b v, vs[j]? = some v ∧ wanted (mix (fun q => decide (q < k + j)) k is vs rs) i.guard = some b ∧
      (b = true → ∃ q, evalOp C fb lb (mix (fun q => decide (q < k + j)) k is vs rs) h i.op = some q ∧ q.1 = v) ∧ (b = false → v = .undef)
  | [], k, rs, r, _, he => by
    cases he
    exact ⟨[], rfl, rfl, fun j i hi => by simp at hi⟩
  | i :: is, k, rs, r, hr, he => by
    simp only [evalOps] at he
    obtain ⟨b, hb, he⟩ := bnd_eq_some he
    have hri := hr i (by simp)
    have hl : ∃ l, readsOf i.op = some l := Option.isSome_iff_exists.1 hri
    obtain ⟨l, hl⟩ := hl
    have mixall : ∀ (is : List VI) (vs : List V) (k : Nat) (rs : Regs) (L L' : Nat → Bool), (∀ j, j < is.length → L (k + j) = L' (k + j)) → mix L k is vs rs = mix L' k is vs rs := by
      intro is
      induction is with
      | nil => intro vs k rs L L' _; cases vs <;> rfl
      | cons i is ih =>
        intro vs k rs L L' hLL
        cases vs with
        | nil => rfl
        | cons v vs =>
          simp only [mix]
          have h0 := hLL 0 (by simp)
          simp only [Nat.add_zero] at h0
          rw [h0]
          exact ih vs (k + 1) _ L L' fun j hj => by have := hLL (j + 1) (by simp; omega); rw [show k + 1 + j = k + (j + 1) by omega]; exact this
    have mixnone : ∀ (is : List VI) (vs : List V) (k : Nat) (rs : Regs) (m : Nat), m ≤ k → mix (fun q => decide (q < m)) k is vs rs = rs := by
      intro is
      induction is with
      | nil => intro vs k rs m _; cases vs <;> rfl
      | cons i is ih =>
        intro vs k rs m hm
        cases vs with
        | nil => rfl
        | cons v vs =>
          simp only [mix]
          have : decide (k < m) = false := decide_eq_false (by omega)
          rw [this]
          exact ih vs (k + 1) rs m (by omega)
    have main : ∀ (v : V), evalOps C fb lb is (putR i.dst v rs) h fl = some r → (b = true → ∃ q, evalOp C fb lb rs h i.op = some q ∧ q.1 = v) → (b = false → v = .undef) →
        ∃ vs : List V, vs.length = (i :: is).length ∧ r = (mix (fun _ => true) k (i :: is) vs rs, h, fl) ∧ ∀ (j : Nat) (i' : VI), (i :: is)[j]? = some i' → ∃ b v, vs[j]? = some v ∧ wanted (mix (fun q => decide (q < k + j)) k (i :: is) vs rs) i'.guard = some b ∧
          (b = true → ∃ q, evalOp C fb lb (mix (fun q => decide (q < k + j)) k (i :: is) vs rs) h i'.op = some q ∧ q.1 = v) ∧ (b = false → v = .undef) := fun v hv h1 h2 => by
      obtain ⟨vs, hlen, hre, hall⟩ := canon is (k + 1) (putR i.dst v rs) r (fun i' hi' => hr i' (by simp [hi'])) hv
      refine ⟨v :: vs, by simp [hlen], by rw [hre]; rfl, fun j i' hi' => ?_⟩
      cases j with
      | zero =>
        simp at hi'
        subst hi'
        refine ⟨b, v, rfl, ?_, ?_, h2⟩
        · rw [mixnone _ _ k rs (k + 0) (by omega)]; exact hb
        · rw [mixnone _ _ k rs (k + 0) (by omega)]; exact h1
      | succ j =>
        obtain ⟨b', v', hv', hw', hx, hy⟩ := hall j i' (by simpa using hi')
        have e : mix (fun q => decide (q < k + (j + 1))) k (i :: is) (v :: vs) rs = mix (fun q => decide (q < k + 1 + j)) (k + 1) is vs (putR i.dst v rs) := by
          simp only [mix]
          have : decide (k < k + (j + 1)) = true := decide_eq_true (by omega)
          rw [this, cnd_true]
          refine mixall is vs (k + 1) _ _ _ fun q _ => ?_
          rw [show k + (j + 1) = k + 1 + j by omega]
        refine ⟨b', v', by simpa using hv', ?_, ?_, hy⟩
        · rw [e]; exact hw'
        · rw [e]; exact hx
    cases b with
    | true =>
      simp only [cnd_true] at he
      obtain ⟨q, hq, he⟩ := bnd_eq_some he
      obtain ⟨e1, e2⟩ := evalOp_still hl hq
      rw [e1, e2] at he
      have : fl.or .no = fl := by cases fl; simp [Fl.or]
      rw [this] at he
      exact main q.1 he (fun _ => ⟨q, hq, rfl⟩) (fun e => by cases e)
    | false => exact main .undef he (fun e => by cases e) (fun _ => rfl)
end
end Go.Vm

/- A region whose order is open: the totally ordered rest. -/
set_option linter.unusedVariables false
set_option linter.unusedSimpArgs false
namespace Go.Vm
attribute [local simp] evalOps_nil evalOps_cons evalOps_consg evalOp_mv evalOp_asg evalOp_pick evalOp_build evalOp_bslice evalOp_load evalOp_nilck evalOp_bin evalOp_un evalOp_conv evalOp_mkfn evalOp_slice evalOp_faddr evalOp_field evalOp_iaddr evalOp_index evalOp_lookup evalOp_extract evalOp_app evalOp_len evalOp_mn evalOp_mx evalOp_alloc evalOp_box evalOp_mkmap evalOp_store evalOp_mapupd evalOp_delete evalOp_sliceArr evalOp_call evalOp_callv evalOp_appc code_skip code_ops code_dops code_seq code_cond code_block code_exit code_ret finish_normal finish_ret
attribute [local simp] V.lt V.ltL V.flat V.pureCell V.pure V.isCell cellEq cellsEq eqV intV shV strV isShift binV unV byteV convV minV maxV foldV foldV1 fillV fillE findV putV delV isKey natOf natOr cut cellsAt mapAt mapOf loadV pickV nilckV sizeOk allSize sliceV faddrV fieldV iaddrV indexV found extractV allPure appV lenV ownHas ownOk storeC storeV samePtr appcV boxable mapupdV deleteV sliceArrV callV allLt clean bodyEnd resV one finishV runV initR
section
variable {P : Program} {R : Nat → Option Nat} {cx : Cx (Tracks R)} {N : Nat} {hb0 : Heap} {S T : Ow} {rs : Regs} {h : Heap} {fl : Fl} {g : Gh} {a : Act} {w : World}

theorem backOk_at : ∀ (os : List Oper) (k j : Nat) (o : Oper), backOk k os = true → os[j]? = some o → ∀ q ∈ bindsOn o, q < k + j
  | [], k, j, o, _, ho => by simp at ho
  | o' :: os, k, 0, o, h, ho => by
    simp at ho
    subst ho
    simp only [backOk, Bool.and_eq_true, List.all_eq_true, decide_eq_true_eq] at h
    simpa using h.1
  | o' :: os, k, j + 1, o, h, ho => by
    simp only [backOk, Bool.and_eq_true] at h
    intro q hq
    have := backOk_at os (k + 1) j o h.2 (by simpa using ho) q hq
    omega
theorem filter_lt {L L' : Nat → Bool} {i : Nat} (hLL : ∀ k, L k = true → L' k = true) (h1 : L i = false) (h2 : L' i = true) : ∀ {l : List Nat}, i ∈ l → (l.filter fun k => !L' k).length < (l.filter fun k => !L k).length := by
  have le : ∀ l : List Nat, (l.filter fun k => !L' k).length ≤ (l.filter fun k => !L k).length := by
    intro l
    induction l with
    | nil => simp
    | cons x l ih =>
      simp only [List.filter_cons]
      cases hx : L x <;> cases hx' : L' x <;> simp
      · exact ih
      · omega
      · have := hLL x hx; rw [hx'] at this; cases this
      · exact ih
  intro l
  induction l with
  | nil => intro h; simp at h
  | cons x l ih =>
    intro hi
    simp only [List.filter_cons]
    rcases List.mem_cons.1 hi with rfl | hi
    · rw [h1, h2]
      have := le l
      simp
      omega
    · have := ih hi
      cases hx : L x <;> cases hx' : L' x <;> simp
      · exact this
      · omega
      · have := hLL x hx; rw [hx'] at this; cases this
      · exact this

theorem getD_set_self {listed : Array Bool} {i : Nat} (h : i < listed.size) : (listed.setIfInBounds i true).getD i false = true := by simp [h]
end
end Go.Vm

/- A region whose order is open: its first part. -/
set_option linter.unusedVariables false
set_option linter.unusedSimpArgs false
namespace Go.Vm
attribute [local simp] evalOps_nil evalOps_cons evalOps_consg evalOp_mv evalOp_asg evalOp_pick evalOp_build evalOp_bslice evalOp_load evalOp_nilck evalOp_bin evalOp_un evalOp_conv evalOp_mkfn evalOp_slice evalOp_faddr evalOp_field evalOp_iaddr evalOp_index evalOp_lookup evalOp_extract evalOp_app evalOp_len evalOp_mn evalOp_mx evalOp_alloc evalOp_box evalOp_mkmap evalOp_store evalOp_mapupd evalOp_delete evalOp_sliceArr evalOp_call evalOp_callv evalOp_appc code_skip code_ops code_dops code_seq code_cond code_block code_exit code_ret finish_normal finish_ret
attribute [local simp] V.lt V.ltL V.flat V.pureCell V.pure V.isCell cellEq cellsEq eqV intV shV strV isShift binV unV byteV convV minV maxV foldV foldV1 fillV fillE findV putV delV isKey natOf natOr cut cellsAt mapAt mapOf loadV pickV nilckV sizeOk allSize sliceV faddrV fieldV iaddrV indexV found extractV allPure appV lenV ownHas ownOk storeC storeV samePtr appcV boxable mapupdV deleteV sliceArrV callV allLt clean bodyEnd resV one finishV runV initR
section
variable {P : Program} {R : Nat → Option Nat} {cx : Cx (Tracks R)} {N : Nat} {hb0 : Heap} {S S' T : Ow} {rs : Regs} {h : Heap} {fl : Fl} {g : Gh} {a : Act} {w : World}

theorem pre_step {C : Callee} {ops : Array Oper} {o : Oper} {i : VI} (hi : Inv cx N hb0 S rs h fl g a w) (hC : FnOk P R C) {g0 : VI} (htr : trI P ops o g0 = some i) (hL : linOkV P i.op) (hd : ∀ x, o.dst = some x → x < N) {b : Bool} (hb : wanted rs i.guard = some b) {v : V}
    {h' : Heap} {fl' : Fl} (he : (b = true ∧ ∃ q, evalOp C cx.n0 hb0.length rs h i.op = some q ∧ q.1 = v ∧ q.2.1 = h' ∧ fl.or q.2.2 = fl') ∨ (b = false ∧ v = .undef ∧ h' = h ∧ fl' = fl)) (hS : S.pd = none) (hS' : S'.pd = none)
    (h1 : ∃ T1, S.step1 R o.dst i.op = some T1 ∧ T1.pd = none ∧ (∀ x, x ∈ S'.own → x ∈ T1.own) ∧ (∀ x, x ∈ S'.al → x ∈ T1.al) ∧ ∀ x, x ∈ S'.la → x ∈ T1.la)
    (h0 : b = false → (∀ x, x ∈ S'.own → x ∈ S.own ∧ ∀ d, o.dst = some d → x.1 ≠ d) ∧ (∀ x, x ∈ S'.al → x ∈ S.al ∧ ∀ d, o.dst = some d → x.1 ≠ d ∧ x.2 ≠ d) ∧ ∀ x, x ∈ S'.la → x ∈ S.la ∧ ∀ d, o.dst = some d → x.1 ≠ d ∧ x.2 ≠ d)
    {K : Act → World → Prop} {Q : Exit → Act → World → Prop} (hK : ∀ u w' g', GLe g g' → Inv cx N hb0 S' (putR o.dst v rs) h' fl' g' (a.put o.dst u) w' → K (a.put o.dst u) w') :
    (if Region.wanted o (yielded ops a.tmps) then o.wp P a w K Q ∨ (o.asks P a w ∧ LetsOut Q) else K (a.put o.dst Go.undef) w) := by
  simp only [trI] at htr
  obtain ⟨gd', hgd, htr⟩ := bnd_eq_some htr
  obtain ⟨vop, hop, htr⟩ := bnd_eq_some htr
  cases htr
  have hwant := wanted_ok hi.F.regs hi.F.size hgd hb
  rw [hwant]
  rcases he with ⟨rfl, q, hq, rfl, hqh, hqf⟩ | ⟨rfl, rfl, rfl, rfl⟩
  · simp only [if_true]
    left
    obtain ⟨T1, hs1, hp1, ho1, ha1, hl1⟩ := h1
    refine op_okA hi hC hop hL hs1 hd hq fun u w' g' hle hi' => hK u w' g' hle ?_
    rw [hqh, hqf] at hi'
    exact hi'.weaken ho1 ha1 hl1 (hS'.trans hp1.symm)
  · simp only [if_false, Bool.false_eq_true]
    obtain ⟨T0, hk, k1, k2, k3, k4⟩ := kill_nopd hS o.dst
    obtain ⟨e1, e2, e3⟩ := h0 rfl
    exact hK Go.undef w g (GLe.refl g) ((hi.put hd hk .undef).weaken (fun x hx => (k2 x).2 (e1 x hx)) (fun x hx => (k3 x).2 (e2 x hx)) (fun x hx => (k4 x).2 (e3 x hx)) (hS'.trans k1.symm))
theorem Inv.regs {rs' : Regs} (hi : Inv cx N hb0 S rs h fl g a w) (he : ∀ r, get rs r = get rs' r) : Inv cx N hb0 S rs' h fl g a w := by
  obtain ⟨pd, hO, hf⟩ := hi.O
  refine ⟨hi.W, hi.G, ⟨pd, ⟨hO.own, hO.blk, hO.dis, fun r off z hm hz => by rw [← he r]; exact hO.cont r off z hm hz, hO.contc⟩, ⟨hf.al, hf.la, ?_⟩⟩, ⟨hi.F.size, hi.F.nodef, fun r => by rw [← he r]; exact hi.F.regs r⟩⟩
  rcases hf.pd with h1 | ⟨p, d, i, j, h1, h2, h3⟩
  · exact .inl h1
  · exact .inr ⟨p, d, i, j, h1, h2, by rw [← he p]; exact h3⟩

structure PreRes (S T1 : Ow) (i : VI) : Prop where
  pd : T1.pd = none
  own : ∀ x, x ∈ S.own → (∀ d, i.dst = some d → x.1 ≠ d) → eatenBy i ≠ some x.1 → x ∈ T1.own
  tok : ∀ t, tokenOf i = some t → t ∈ T1.own
  al : ∀ x, x ∈ S.al → (∀ d, i.dst = some d → x.1 ≠ d ∧ x.2 ≠ d) → x ∈ T1.al
  mv : ∀ d p, i.dst = some d → i.op = .mv (.r p) → d ≠ p → (d, p) ∈ T1.al
  la : laStay i.op = true → ∀ x, x ∈ S.la → (∀ d, i.dst = some d → x.1 ≠ d ∧ x.2 ≠ d) → x ∈ T1.la
  ld : ∀ x, laOf i = some x → x ∈ T1.la
theorem addOwn_keep {dst : Option Nat} {off sz : Nat} {T : Ow} {x : Nat × Nat × Nat} (hx : x ∈ T.own) : x ∈ (addOwn dst off sz T).own := by
  cases dst with
  | none => exact hx
  | some d => simp [addOwn, hx]
theorem addOwn_pd {dst : Option Nat} {off sz : Nat} {T : Ow} : (addOwn dst off sz T).pd = T.pd := by cases dst <;> rfl
theorem addOwn_al' {dst : Option Nat} {off sz : Nat} {T : Ow} : (addOwn dst off sz T).al = T.al := by cases dst <;> rfl
theorem laOf_load {d p : Nat} {gd : Option (Nat × Bool)} {x : Nat × Nat} (h : laOf ⟨some d, gd, .load false 1 (.r p)⟩ = some x) : x = (d, p) ∧ d ≠ p := by
  cases gd with
  | some q => simp [laOf] at h
  | none =>
    simp only [laOf] at h
    obtain ⟨h1, h2⟩ := cnd_eq_some h
    cases h2
    exact ⟨rfl, of_decide_eq_true h1⟩
theorem addOwn_la {dst : Option Nat} {off sz : Nat} {T : Ow} : (addOwn dst off sz T).la = T.la := by cases dst <;> rfl
theorem cndOwn_la {dst : Option Nat} {off sz : Nat} {T : Ow} {b : Bool} : (cnd b (addOwn dst off sz T) T).la = T.la := by cases b; rfl; exact addOwn_la
set_option maxHeartbeats 1000000 in
theorem step1_pre {i : VI} {l : List Nat} (hl : readsOf i.op = some l) (hS : S.pd = none) (heat : ∀ p size bytes s x, i.op = .app (.reg p) size bytes s x → hasOwn p 0 size S.own = true) (hnl : ∀ p size bytes s x, i.op = .app p size bytes s x → isLin size = false) :
    ∃ T1, S.step1 R i.dst i.op = some T1 ∧ PreRes S T1 i := by
  obtain ⟨T0, hk, k1, k2, k3, k4⟩ := kill_nopd hS i.dst
  obtain ⟨dst, gd, op⟩ := i
  simp only at hl hk k2 k3 k4 heat hnl ⊢
  have base : ∀ T1 : Ow, T1.pd = none → (∀ x, x ∈ T0.own → x ∈ T1.own) → (∀ x, x ∈ T0.al → x ∈ T1.al) → tokenOf ⟨dst, gd, op⟩ = none → (∀ p, op ≠ .mv (.r p)) → (laStay op = true → ∀ x, x ∈ T0.la → x ∈ T1.la) → (∀ x, laOf ⟨dst, gd, op⟩ = some x → x ∈ T1.la) → PreRes S T1 ⟨dst, gd, op⟩ := fun T1 h1 h2 h3 htok hmv hl1 hl2 =>
    ⟨h1, fun x hx hxd _ => h2 x ((k2 x).2 ⟨hx, hxd⟩), fun t ht => (by rw [htok] at ht; cases ht), fun x hx hxd => h3 x ((k3 x).2 ⟨hx, hxd⟩), fun d p _ e _ => absurd e (hmv p), fun hs x hx hxd => hl1 hs x ((k4 x).2 ⟨hx, hxd⟩), hl2⟩
  have noTok : (∀ z k n ps, op ≠ .bslice z k n ps) → (∀ p size bytes s x, op ≠ .app p size bytes s x) → tokenOf ⟨dst, gd, op⟩ = none := fun hb ha => by
    unfold tokenOf
    split
    · rename_i e; exact absurd e (hb _ _ _ _)
    · rename_i e; exact absurd e (ha _ _ _ _ _)
    · rfl
  have noLd : (∀ q, op ≠ .load false 1 (.r q)) → ∀ (T2 : Ow) (x : Nat × Nat), laOf ⟨dst, gd, op⟩ = some x → x ∈ T2.la := fun hne T2 x hx => by
    unfold laOf at hx
    split at hx
    · rename_i e; exact absurd e (hne _)
    · cases hx
  have simple : S.step1 R dst op = S.kill dst → (∀ z k n ps, op ≠ .bslice z k n ps) → (∀ p size bytes s x, op ≠ .app p size bytes s x) → (∀ p, op ≠ .mv (.r p)) → (∀ q, op ≠ .load false 1 (.r q)) → ∃ T1, S.step1 R dst op = some T1 ∧ PreRes S T1 ⟨dst, gd, op⟩ := fun hs hb ha hmv hld =>
    ⟨T0, hs.trans hk, base T0 k1 (fun _ h => h) (fun _ h => h) (noTok hb ha) hmv (fun _ _ h => h) (noLd hld T0)⟩
  have hnp : S.noPd = true := by simp [Ow.noPd, hS]
  cases op with
  | mv x =>
    cases x with
    | c c =>
      refine ⟨cnd (isNilArg (.c c)) (addOwn dst 0 0 T0) T0, by simp only [Ow.step1]; rw [hk]; rfl, base _ ?_ ?_ ?_ (noTok (fun _ _ _ _ e => by cases e) (fun _ _ _ _ _ e => by cases e)) (fun p e => by cases e) (fun _ x hx => by rw [cndOwn_la]; exact hx) (noLd (fun _ e => by cases e) _)⟩
      · cases isNilArg (.c c)
        · exact k1
        · exact addOwn_pd.trans k1
      · intro x hx
        cases isNilArg (.c c)
        · exact hx
        · exact addOwn_keep hx
      · intro x hx
        cases isNilArg (.c c)
        · exact hx
        · simp only [cnd_true]; rw [addOwn_al']; exact hx
    | r p =>
      have htok : tokenOf ⟨dst, gd, .mv (.r p)⟩ = none := noTok (fun _ _ _ _ e => by cases e) (fun _ _ _ _ _ e => by cases e)
      cases dst with
      | none => exact ⟨T0, by simp only [Ow.step1]; rw [hk]; rfl, ⟨k1, fun x hx hxd _ => (k2 x).2 ⟨hx, hxd⟩, fun t ht => (by rw [htok] at ht; cases ht), fun x hx hxd => (k3 x).2 ⟨hx, hxd⟩, fun d q e _ _ => (by cases e), fun _ x hx hxd => (k4 x).2 ⟨hx, hxd⟩, noLd (fun _ e => by cases e) _⟩⟩
      | some d =>
        by_cases hdp : d = p
        · exact ⟨T0, by simp only [Ow.step1]; rw [hk]; simp [hdp], ⟨k1, fun x hx hxd _ => (k2 x).2 ⟨hx, hxd⟩, fun t ht => (by rw [htok] at ht; cases ht), fun x hx hxd => (k3 x).2 ⟨hx, hxd⟩, fun d' q e e2 hne => (by cases e; cases e2; exact absurd hdp hne), fun _ x hx hxd => (k4 x).2 ⟨hx, hxd⟩, noLd (fun _ e => by cases e) _⟩⟩
        · exact ⟨{ T0 with al := (d, p) :: T0.al }, by simp only [Ow.step1]; rw [hk]; simp [hdp], ⟨k1, fun x hx hxd _ => (k2 x).2 ⟨hx, hxd⟩, fun t ht => (by rw [htok] at ht; cases ht), fun x hx hxd => List.mem_cons_of_mem _ ((k3 x).2 ⟨hx, hxd⟩), fun d' q e e2 hne => (by cases e; cases e2; simp), fun _ x hx hxd => (k4 x).2 ⟨hx, hxd⟩, noLd (fun _ e => by cases e) _⟩⟩
  | load b n x =>
    have htok : tokenOf ⟨dst, gd, .load b n x⟩ = none := noTok (fun _ _ _ _ e => by cases e) (fun _ _ _ _ _ e => by cases e)
    by_cases hc : ∃ p, b = false ∧ n = 1 ∧ x = .r p
    · obtain ⟨p, rfl, rfl, rfl⟩ := hc
      cases dst with
      | none => exact ⟨T0, by simp only [Ow.step1]; rw [hk]; rfl, base T0 k1 (fun _ h => h) (fun _ h => h) htok (fun _ e => by cases e) (fun _ _ h => h) (fun x hx => by simp [laOf] at hx)⟩
      | some d =>
        by_cases hdp : d = p
        · exact ⟨T0, by simp only [Ow.step1]; rw [hk]; simp [hdp], base T0 k1 (fun _ h => h) (fun _ h => h) htok (fun _ e => by cases e) (fun _ _ h => h) (fun x hx => absurd hdp (laOf_load hx).2)⟩
        · exact ⟨{ T0 with la := (d, p) :: T0.la }, by simp only [Ow.step1]; rw [hk]; simp [hdp], base _ k1 (fun _ h => h) (fun _ h => h) htok (fun _ e => by cases e) (fun _ _ h => List.mem_cons_of_mem _ h) (fun x hx => by rw [(laOf_load hx).1]; simp)⟩
    · refine simple ?_ (fun _ _ _ _ e => by cases e) (fun _ _ _ _ _ e => by cases e) (fun _ e => by cases e) (fun q e => by cases e; exact hc ⟨q, rfl, rfl, rfl⟩)
      unfold Ow.step1
      split <;> first | rfl | (rename_i e; cases e; exact absurd ⟨_, rfl, rfl, rfl⟩ hc) | simp_all
  | bslice z k n ps =>
    simp only [readsOf] at hl
    obtain ⟨hinc, _⟩ := cnd_eq_some hl
    refine ⟨addOwn dst 0 0 T0, by simp only [Ow.step1]; rw [hinc, hk]; rfl, ⟨addOwn_pd.trans k1, fun x hx hxd _ => addOwn_keep ((k2 x).2 ⟨hx, hxd⟩), fun t ht => ?_, fun x hx hxd => (by rw [addOwn_al']; exact (k3 x).2 ⟨hx, hxd⟩), fun d p _ e _ => (by cases e), fun _ x hx hxd => (by rw [addOwn_la]; exact (k4 x).2 ⟨hx, hxd⟩), noLd (fun _ e => by cases e) _⟩⟩
    unfold tokenOf at ht
    split at ht
    · rename_i d e1 e2 e3; simp only at e1; cases ht; rw [e1]; simp [addOwn]
    · rename_i e3; cases e3
    · cases ht
  | app p size bytes s x =>
    have tok : ∀ (T2 : Ow) (t : Nat × Nat × Nat), tokenOf ⟨dst, gd, .app p size bytes s x⟩ = some t → t ∈ (addOwn dst 0 size T2).own := fun T2 t ht => by
      unfold tokenOf at ht
      split at ht
      · rename_i e3; cases e3
      · rename_i d sz' e1 e2 e3
        simp only at e1 e3
        cases e3
        cases ht
        rw [e1]
        simp [addOwn]
      · cases ht
    cases p with
    | fresh =>
      simp only [readsOf] at hl
      obtain ⟨hnil, _⟩ := cnd_eq_some hl
      have hz := hnl .fresh size bytes s x rfl
      exact ⟨addOwn dst 0 size (offLa T0), by simp only [Ow.step1]; rw [hnil, hz, hk]; rfl, ⟨addOwn_pd.trans k1, fun x hx hxd _ => addOwn_keep ((k2 x).2 ⟨hx, hxd⟩), tok _, fun x hx hxd => (by rw [addOwn_al']; exact (k3 x).2 ⟨hx, hxd⟩), fun d p _ e _ => (by cases e), fun h => (by cases h), noLd (fun _ e => by cases e) _⟩⟩
    | reg p =>
      cases s with
      | c v => cases hl
      | r t =>
        simp only [readsOf] at hl
        obtain ⟨ht, _⟩ := cnd_eq_some hl
        have ht := of_decide_eq_true ht
        subst ht
        have h1 := heat t size bytes (.r t) x rfl
        have h2 : pdFree t S.pd = true := by rw [hS]; rfl
        have hz := hnl (.reg t) size bytes (.r t) x rfl
        exact ⟨addOwn dst 0 size (offLa { T0 with own := offReg t T0.own }), by simp only [Ow.step1]; rw [h1, h2, hz, hk]; simp, ⟨addOwn_pd.trans k1, fun x hx hxd hne => addOwn_keep (mem_offReg.2 ⟨(k2 x).2 ⟨hx, hxd⟩, fun e => hne (by rw [e]; rfl)⟩), tok _, fun x hx hxd => (by rw [addOwn_al']; exact (k3 x).2 ⟨hx, hxd⟩), fun d p _ e _ => (by cases e), fun h => (by cases h), noLd (fun _ e => by cases e) _⟩⟩
  | call q f as =>
    refine ⟨(match R f with | some sz => cnd (isLin sz) (offLa T0) (addOwn dst 0 sz (offLa T0)) | none => offLa T0), ?_, base _ ?_ ?_ ?_ (noTok (fun _ _ _ _ e => by cases e) (fun _ _ _ _ _ e => by cases e)) (fun p e => by cases e) (fun h => by cases h) (noLd (fun _ e => by cases e) _)⟩
    · simp only [Ow.step1]; rw [hnp, hk]; cases R f <;> rfl
    · cases R f with
      | none => exact k1
      | some sz => cases hl : isLin sz <;> simp only [hl, cnd_true, cnd_false]
                   · exact addOwn_pd.trans k1
                   · exact k1
    · intro x hx
      cases R f with
      | none => exact hx
      | some sz => cases hl : isLin sz <;> simp only [hl, cnd_true, cnd_false]
                   · exact addOwn_keep hx
                   · exact hx
    · intro x hx
      cases R f with
      | none => exact hx
      | some sz => cases hl : isLin sz <;> simp only [hl, cnd_true, cnd_false]
                   · rw [addOwn_al']; exact hx
                   · exact hx
  | callv q x as =>
    exact ⟨offLa T0, by simp only [Ow.step1]; rw [hnp, hk]; rfl, base _ k1 (fun _ h => h) (fun _ h => h) (noTok (fun _ _ _ _ e => by cases e) (fun _ _ _ _ _ e => by cases e)) (fun p e => by cases e) (fun h => by cases h) (noLd (fun _ e => by cases e) _)⟩
  | conv k x => cases k <;> first | (cases hl; done) | exact simple rfl (fun _ _ _ _ e => by cases e) (fun _ _ _ _ _ e => by cases e) (fun _ e => by cases e) (fun _ e => by cases e)
  | _ => first
    | (cases hl; done)
    | exact simple rfl (fun _ _ _ _ e => by cases e) (fun _ _ _ _ _ e => by cases e) (fun _ e => by cases e) (fun _ e => by cases e)
theorem step1_x {i : VI} {l : List Nat} (hl : readsX i.op = some l) (hS : S.pd = none) : ∃ T1, S.step1 R i.dst i.op = some T1 ∧ PreRes S T1 i := by
  obtain ⟨T0, hk, k1, k2, k3, k4⟩ := kill_nopd hS i.dst
  obtain ⟨dst, gd, op⟩ := i
  simp only at hl hk k2 k3 k4 ⊢
  have base : ∀ T1 : Ow, T1.pd = none → (∀ x, x ∈ T0.own → x ∈ T1.own) → (∀ x, x ∈ T0.al → x ∈ T1.al) → tokenOf ⟨dst, gd, op⟩ = none → (∀ p, op ≠ .mv (.r p)) → (laStay op = true → ∀ x, x ∈ T0.la → x ∈ T1.la) → (∀ x, laOf ⟨dst, gd, op⟩ = some x → x ∈ T1.la) → PreRes S T1 ⟨dst, gd, op⟩ := fun T1 h1 h2 h3 htok hmv hl1 hl2 =>
    ⟨h1, fun x hx hxd _ => h2 x ((k2 x).2 ⟨hx, hxd⟩), fun t ht => (by rw [htok] at ht; cases ht), fun x hx hxd => h3 x ((k3 x).2 ⟨hx, hxd⟩), fun d p _ e _ => absurd e (hmv p), fun hs x hx hxd => hl1 hs x ((k4 x).2 ⟨hx, hxd⟩), hl2⟩
  have noTok : (∀ z k n ps, op ≠ .bslice z k n ps) → (∀ p size bytes s x, op ≠ .app p size bytes s x) → tokenOf ⟨dst, gd, op⟩ = none := fun hb ha => by
    unfold tokenOf
    split
    · rename_i e; exact absurd e (hb _ _ _ _)
    · rename_i e; exact absurd e (ha _ _ _ _ _)
    · rfl
  have noLd : (∀ q, op ≠ .load false 1 (.r q)) → ∀ (T2 : Ow) (x : Nat × Nat), laOf ⟨dst, gd, op⟩ = some x → x ∈ T2.la := fun hne T2 x hx => by
    unfold laOf at hx
    split at hx
    · rename_i e; exact absurd e (hne _)
    · cases hx
  have hnp : S.noPd = true := by simp [Ow.noPd, hS]
  cases op with
  | store n a x own p =>
    cases own with
    | cons y ys => cases hl
    | nil =>
      cases p with
      | some p => cases hl
      | none =>
        refine ⟨offLa T0, ?_, base _ k1 (fun _ h => h) (fun _ h => h) (noTok (fun _ _ _ _ e => by cases e) (fun _ _ _ _ _ e => by cases e)) (fun p e => by cases e) (fun h => by cases h) (noLd (fun _ e => by cases e) _)⟩
        cases x with
        | r t => simp only [Ow.step1, hnp, hasOwns, noLin, List.all_nil, Bool.and_self, cnd_true, List.isEmpty_nil]; rw [hk]; rfl
        | c v => simp only [Ow.step1, hnp, Option.isNone_none, List.isEmpty_nil, Bool.true_or, Bool.and_self, cnd_true]; rw [hk]; rfl
  | alloc cs own =>
    simp only [readsX] at hl
    obtain ⟨hc, _⟩ := cnd_eq_some hl
    exact ⟨T0, by simp only [Ow.step1]; rw [hc, cnd_true, hk], base _ k1 (fun _ h => h) (fun _ h => h) (noTok (fun _ _ _ _ e => by cases e) (fun _ _ _ _ _ e => by cases e)) (fun p e => by cases e) (fun h => by cases h) (noLd (fun _ e => by cases e) _)⟩
  | call q f as =>
    refine ⟨(match R f with | some sz => cnd (isLin sz) (offLa T0) (addOwn dst 0 sz (offLa T0)) | none => offLa T0), ?_, base _ ?_ ?_ ?_ (noTok (fun _ _ _ _ e => by cases e) (fun _ _ _ _ _ e => by cases e)) (fun p e => by cases e) (fun h => by cases h) (noLd (fun _ e => by cases e) _)⟩
    · simp only [Ow.step1]; rw [hnp, hk]; cases R f <;> rfl
    · cases R f with
      | none => exact k1
      | some sz => cases hl : isLin sz <;> simp only [hl, cnd_true, cnd_false]
                   · exact addOwn_pd.trans k1
                   · exact k1
    · intro x hx
      cases R f with
      | none => exact hx
      | some sz => cases hl : isLin sz <;> simp only [hl, cnd_true, cnd_false]
                   · exact addOwn_keep hx
                   · exact hx
    · intro x hx
      cases R f with
      | none => exact hx
      | some sz => cases hl : isLin sz <;> simp only [hl, cnd_true, cnd_false]
                   · rw [addOwn_al']; exact hx
                   · exact hx
  | callv q x as =>
    exact ⟨offLa T0, by simp only [Ow.step1]; rw [hnp, hk]; rfl, base _ k1 (fun _ h => h) (fun _ h => h) (noTok (fun _ _ _ _ e => by cases e) (fun _ _ _ _ _ e => by cases e)) (fun p e => by cases e) (fun h => by cases h) (noLd (fun _ e => by cases e) _)⟩
  | _ => cases hl
end
end Go.Vm

/- A region whose order is open: all of it. -/
set_option linter.unusedVariables false
set_option linter.unusedSimpArgs false
namespace Go.Vm
attribute [local simp] evalOps_nil evalOps_cons evalOps_consg evalOp_mv evalOp_asg evalOp_pick evalOp_build evalOp_bslice evalOp_load evalOp_nilck evalOp_bin evalOp_un evalOp_conv evalOp_mkfn evalOp_slice evalOp_faddr evalOp_field evalOp_iaddr evalOp_index evalOp_lookup evalOp_extract evalOp_app evalOp_len evalOp_mn evalOp_mx evalOp_alloc evalOp_box evalOp_mkmap evalOp_store evalOp_mapupd evalOp_delete evalOp_sliceArr evalOp_call evalOp_callv evalOp_appc code_skip code_ops code_dops code_seq code_cond code_block code_exit code_ret finish_normal finish_ret
attribute [local simp] V.lt V.ltL V.flat V.pureCell V.pure V.isCell cellEq cellsEq eqV intV shV strV isShift binV unV byteV convV minV maxV foldV foldV1 fillV fillE findV putV delV isKey natOf natOr cut cellsAt mapAt mapOf loadV pickV nilckV sizeOk allSize sliceV faddrV fieldV iaddrV indexV found extractV allPure appV lenV ownHas ownOk storeC storeV samePtr appcV boxable mapupdV deleteV sliceArrV callV allLt clean bodyEnd resV one finishV runV initR

theorem oneWriter_at : ∀ {pre : List VI}, oneWriter pre = true → ∀ (j q : Nat) (i i' : VI) (r : Nat), pre[j]? = some i → pre[q]? = some i' → i.dst = some r → i'.dst = some r → j = q
  | [], _, j, q, i, i', r, hi, _, _, _ => by simp at hi
  | i0 :: pre, h, j, q, i, i', r, hi, hi', hr, hr' => by
    simp only [oneWriter, Bool.and_eq_true] at h
    cases j with
    | zero =>
      cases q with
      | zero => rfl
      | succ q =>
        exfalso
        simp at hi
        subst hi
        have h1 := h.1
        rw [hr] at h1
        simp only [List.all_eq_true, decide_eq_true_eq] at h1
        exact h1 i' (List.mem_of_getElem? (by simpa using hi')) hr'
    | succ j =>
      cases q with
      | zero =>
        exfalso
        simp at hi'
        subst hi'
        have h1 := h.1
        rw [hr'] at h1
        simp only [List.all_eq_true, decide_eq_true_eq] at h1
        exact h1 i (List.mem_of_getElem? (by simpa using hi)) hr
      | succ q => rw [oneWriter_at h.2 j q i i' r (by simpa using hi) (by simpa using hi') hr hr']
theorem writersIn_at {mask : Nat} {regs : List Nat} : ∀ {pre : List VI} {k : Nat}, writersIn mask regs k pre = true → ∀ (j : Nat) (i : VI) (r : Nat), pre[j]? = some i → i.dst = some r → r ∈ regs → mask.testBit (k + j) = true
  | [], _, _, j, i, r, hi, _, _ => by simp at hi
  | i0 :: pre, k, h, 0, i, r, hi, hr, hm => by
    simp at hi
    subst hi
    simp only [writersIn, Bool.and_eq_true] at h
    have h1 := h.1
    rw [hr] at h1
    simp only [Bool.or_eq_true, Bool.not_eq_true', List.contains_eq_mem, decide_eq_false_iff_not] at h1
    rcases h1 with h1 | h1
    · exact absurd hm h1
    · exact h1
  | i0 :: pre, k, h, j + 1, i, r, hi, hr, hm => by
    simp only [writersIn, Bool.and_eq_true] at h
    have := writersIn_at h.2 j i r (by simpa using hi) hr hm
    rw [show k + (j + 1) = k + 1 + j by omega]
    exact this
theorem readsOk_at {pre : List VI} {M : List Nat} : ∀ {is : List VI} {k : Nat}, readsOk pre M k is = true → ∀ (j : Nat) (i : VI), is[j]? = some i → ∃ l, readsAll i = some l ∧ writersIn (M.getD (k + j) 0) l 0 pre = true
  | [], _, _, j, i, hi => by simp at hi
  | i0 :: is, k, h, 0, i, hi => by
    simp at hi
    subst hi
    simp only [readsOk, Bool.and_eq_true] at h
    have h1 := h.1
    split at h1
    · rename_i l hl; exact ⟨l, hl, h1⟩
    · cases h1
  | i0 :: is, k, h, j + 1, i, hi => by
    simp only [readsOk, Bool.and_eq_true] at h
    have := readsOk_at h.2 j i (by simpa using hi)
    rw [show k + (j + 1) = k + 1 + j by omega]
    exact this
theorem bit_lt {os : List Oper} (hb : backOk 0 os = true) {k : Nat} {o : Oper} (ho : os[k]? = some o) {b : Nat} (h : ((masks os []).getD k 0).testBit b = true) : b < k := by
  have := mask_closed (os := os) (L := fun q => decide (q < k)) (fun q o' ho' hq j hj => by
    have h1 := of_decide_eq_true hq
    have h2 := backOk_at os 0 q o' hb ho' j hj
    exact decide_eq_true (by omega)) k o ho (fun j hj => decide_eq_true (by have := backOk_at os 0 k o hb ho j hj; omega)) b h
  exact of_decide_eq_true this
theorem mem_toks {L : Nat → Bool} : ∀ {pre : List VI} {k : Nat} {x : Nat × Nat × Nat}, x ∈ toks L k pre ↔ ∃ j i, pre[j]? = some i ∧ L (k + j) = true ∧ tokenOf i = some x
  | [], k, x => by simp [toks]
  | i0 :: pre, k, x => by
    simp only [toks, List.mem_append, mem_toks (pre := pre)]
    constructor
    · rintro (h | ⟨j, i, h1, h2, h3⟩)
      · refine ⟨0, i0, rfl, ?_⟩
        cases ht : tokenOf i0 with
        | none => rw [ht] at h; simp at h
        | some t =>
          rw [ht] at h
          cases hk : L k <;> rw [hk] at h
          · simp at h
          · simp at h; subst h; exact ⟨rfl, rfl⟩
      · exact ⟨j + 1, i, by simpa using h1, by rw [show k + (j + 1) = k + 1 + j by omega]; exact h2, h3⟩
    · rintro ⟨j, i, h1, h2, h3⟩
      cases j with
      | zero =>
        simp at h1
        subst h1
        left
        rw [h3]
        have : L k = true := by simpa using h2
        rw [this]
        simp
      | succ j => exact .inr ⟨j, i, by simpa using h1, by rw [show k + 1 + j = k + (j + 1) by omega]; exact h2, h3⟩
theorem mem_eaten {L : Nat → Bool} : ∀ {pre : List VI} {k : Nat} {x : Nat}, x ∈ eaten L k pre ↔ ∃ j i, pre[j]? = some i ∧ L (k + j) = true ∧ eatenBy i = some x
  | [], k, x => by simp [eaten]
  | i0 :: pre, k, x => by
    simp only [eaten, List.mem_append, mem_eaten (pre := pre)]
    constructor
    · rintro (h | ⟨j, i, h1, h2, h3⟩)
      · refine ⟨0, i0, rfl, ?_⟩
        cases ht : eatenBy i0 with
        | none => rw [ht] at h; simp at h
        | some t =>
          rw [ht] at h
          cases hk : L k <;> rw [hk] at h
          · simp at h
          · simp at h; subst h; exact ⟨rfl, rfl⟩
      · exact ⟨j + 1, i, by simpa using h1, by rw [show k + (j + 1) = k + 1 + j by omega]; exact h2, h3⟩
    · rintro ⟨j, i, h1, h2, h3⟩
      cases j with
      | zero =>
        simp at h1
        subst h1
        left
        rw [h3]
        have : L k = true := by simpa using h2
        rw [this]
        simp
      | succ j => exact .inr ⟨j, i, by simpa using h1, by rw [show k + 1 + j = k + (j + 1) by omega]; exact h2, h3⟩
theorem mem_als {L : Nat → Bool} : ∀ {pre : List VI} {k : Nat} {x : Nat × Nat}, x ∈ als L k pre ↔ ∃ j i, pre[j]? = some i ∧ L (k + j) = true ∧ alOf i = some x
  | [], k, x => by simp [als]
  | i0 :: pre, k, x => by
    simp only [als, List.mem_append, mem_als (pre := pre)]
    constructor
    · rintro (h | ⟨j, i, h1, h2, h3⟩)
      · refine ⟨0, i0, rfl, ?_⟩
        cases ht : alOf i0 with
        | none => rw [ht] at h; simp at h
        | some t =>
          rw [ht] at h
          cases hk : L k <;> rw [hk] at h
          · simp at h
          · simp at h; subst h; exact ⟨rfl, rfl⟩
      · exact ⟨j + 1, i, by simpa using h1, by rw [show k + (j + 1) = k + 1 + j by omega]; exact h2, h3⟩
    · rintro ⟨j, i, h1, h2, h3⟩
      cases j with
      | zero =>
        simp at h1
        subst h1
        left
        rw [h3]
        have : L k = true := by simpa using h2
        rw [this]
        simp
      | succ j => exact .inr ⟨j, i, by simpa using h1, by rw [show k + 1 + j = k + (j + 1) by omega]; exact h2, h3⟩
theorem mem_las {L : Nat → Bool} : ∀ {pre : List VI} {k : Nat} {x : Nat × Nat}, x ∈ las L k pre ↔ ∃ j i, pre[j]? = some i ∧ L (k + j) = true ∧ laOf i = some x
  | [], k, x => by simp [las]
  | i0 :: pre, k, x => by
    simp only [las, List.mem_append, mem_las (pre := pre)]
    constructor
    · rintro (h | ⟨j, i, h1, h2, h3⟩)
      · refine ⟨0, i0, rfl, ?_⟩
        cases ht : laOf i0 with
        | none => rw [ht] at h; simp at h
        | some t =>
          rw [ht] at h
          cases hk : L k <;> rw [hk] at h
          · simp at h
          · simp at h; subst h; exact ⟨rfl, rfl⟩
      · exact ⟨j + 1, i, by simpa using h1, by rw [show k + (j + 1) = k + 1 + j by omega]; exact h2, h3⟩
    · rintro ⟨j, i, h1, h2, h3⟩
      cases j with
      | zero =>
        simp at h1
        subst h1
        left
        rw [h3]
        have : L k = true := by simpa using h2
        rw [this]
        simp
      | succ j => exact .inr ⟨j, i, by simpa using h1, by rw [show k + 1 + j = k + (j + 1) by omega]; exact h2, h3⟩
end Go.Vm

