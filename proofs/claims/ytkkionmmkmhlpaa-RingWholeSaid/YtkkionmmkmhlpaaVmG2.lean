/- The V-machine, part 2. -/
import Derived.Test.YtkkionmmkmhlpaaVmG1
import Derived.ArgAppend
/- The invariant of a run: how a state of the V-machine stands to a frame and a world; who may write where. -/
set_option linter.unusedVariables false
set_option linter.unusedSimpArgs false
namespace Go.Vm
attribute [local simp] evalOps_nil evalOps_cons evalOps_consg evalOp_mv evalOp_asg evalOp_pick evalOp_build evalOp_bslice evalOp_load evalOp_nilck evalOp_bin evalOp_un evalOp_conv evalOp_mkfn evalOp_slice evalOp_faddr evalOp_field evalOp_iaddr evalOp_index evalOp_lookup evalOp_extract evalOp_app evalOp_len evalOp_mn evalOp_mx evalOp_alloc evalOp_box evalOp_mkmap evalOp_store evalOp_mapupd evalOp_delete evalOp_sliceArr evalOp_call evalOp_callv evalOp_appc code_skip code_ops code_dops code_seq code_cond code_block code_exit code_ret finish_normal finish_ret
attribute [local simp] V.lt V.ltL V.flat V.pureCell V.pure V.isCell cellEq cellsEq eqV intV shV strV isShift binV unV byteV convV minV maxV foldV foldV1 fillV fillE findV putV delV isKey natOf natOr cut cellsAt mapAt mapOf loadV pickV nilckV sizeOk allSize sliceV faddrV fieldV iaddrV indexV found extractV allPure appV lenV ownHas ownOk storeC storeV samePtr appcV boxable mapupdV deleteV sliceArrV callV allLt clean bodyEnd resV one finishV runV initR

def Tracks (R : Nat → Option Nat) : Prop := R 1000000007 = none
structure Cx (Dt : Prop) where
  w0 : World
  g0 : Gh
  n0 : Nat
  W : Nat → Prop
  O : Nat → Nat → Nat → Bool → Prop
  hO : ∀ i j b l, O i j b l → i < n0
def Cx.may {Dt : Prop} (cx : Cx Dt) (b : Nat) : Prop := cx.w0.heap.size ≤ b ∨ cx.W b
def Cx.wrOk {Dt : Prop} (cx : Cx Dt) (fl : Fl) (b : Nat) : Prop := fl.all = true ∨ ∃ i, i ∈ fl.wr ∧ i < cx.n0 ∧ (cx.g0.mu i = some b ∨ ∃ j, cx.O i j b false)
theorem Cx.wrOk.or {Dt : Prop} {cx : Cx Dt} {fl : Fl} {b : Nat} (h : cx.wrOk fl b) (f : Fl) : cx.wrOk (fl.or f) b := by
  rcases h with h | ⟨i, h1, h2⟩
  · exact .inl (by simp [Fl.or, h])
  · exact .inr ⟨i, mem_addE.2 (.inl h1), h2⟩
theorem Cx.wrOk.or' {Dt : Prop} {cx : Cx Dt} {fl : Fl} {b : Nat} (h : cx.wrOk fl b) (f : Fl) : cx.wrOk (f.or fl) b := by
  rcases h with h | ⟨i, h1, h2⟩
  · exact .inl (by simp [Fl.or, h])
  · exact .inr ⟨i, mem_addE.2 (.inr h1), h2⟩
theorem Cx.wrOk.cut {Dt : Prop} {cx : Cx Dt} {fl f : Fl} {b : Nat} (h : cx.wrOk (fl.or f) b) : cx.wrOk (fl.or (f.cut cx.n0)) b := by
  rcases h with h | ⟨i, h1, h2, h3⟩
  · exact .inl (by simpa [Fl.or, Fl.cut] using h)
  · refine .inr ⟨i, ?_, h2, h3⟩
    rcases mem_addE.1 h1 with h1 | h1
    · exact mem_addE.2 (.inl h1)
    · exact mem_addE.2 (.inr (mem_wrLt.2 ⟨h1, h2⟩))

def LiveAt (h : Heap) (i : Nat) : Prop := ∃ o, h[i]? = some o ∧ o.live = true

structure MemW {Dt : Prop} (cx : Cx Dt) (fl : Fl) (w : World) : Prop where
  os : w.os = cx.w0.os
  tape : w.tape = cx.w0.tape
  out : w.output = cx.w0.output
  drn : Dt → cx.w0.drawn ≤ w.drawn
  hsz : cx.w0.heap.size ≤ w.heap.size
  old : ∀ b, b < cx.w0.heap.size → ¬ cx.W b → w.heap[b]? = cx.w0.heap[b]?
  wr : ∀ b, b < cx.w0.heap.size → cx.wrOk fl b ∨ w.heap[b]? = cx.w0.heap[b]?
structure MemG {Dt : Prop} (cx : Cx Dt) (hb : Heap) (h : Heap) (fl : Fl) (g : Gh) (w : World) : Prop where
  hr : HRead g h w
  ge : GLe (cx.g0.trim cx.n0) g
  immW : ∀ b o, b < cx.w0.heap.size → ¬ cx.W b → g.imm b o = cx.g0.imm b o
  fbl : cx.n0 ≤ hb.length
  lbh : hb.length ≤ h.length
  muOld : ∀ i, i < cx.n0 → g.mu i = cx.g0.mu i
  dom : ∀ i b, g.mu i = some b → i < h.length
  dome : ∀ i, g.em i = true → i < h.length
  muW : ∀ i b, g.mu i = some b → b < w.heap.size ∧ (LiveAt h i → cx.may b)
  new : ∀ i b, cx.n0 ≤ i → g.mu i = some b → cx.w0.heap.size ≤ b ∨ fl.all = true
  inj : ∀ i j b, LiveAt h i → LiveAt h j → g.mu i = some b → g.mu j = some b → i = j
  muimm : ∀ i b, LiveAt h i → g.mu i = some b → ∀ k, g.imm b k = none
  low : ∀ (i : Nat) (o : Obj), i < hb.length → h[i]? = some o → i ∈ fl.esc ∨ ∃ ob : Obj, hb[i]? = some ob ∧ ∀ m, ob.lt m = true → o.lt m = true

def isLin (z : Nat) : Bool := decide (1000000 ≤ z)
def LinR (w : World) (imm : Imm) (sz : Nat) (u : Value) : Prop :=
  ∃ a n cap, u = .slice a n cap ∧ ((a = none ∧ n = 0 ∧ cap = 0) ∨ (n ≤ cap ∧ 0 < sz ∧ ∃ b cur t, a = some ⟨b, 0, none⟩ ∧ w.heap[b]? = some (.cells cur t (0, 0)) ∧ cap * sz ≤ cur.size ∧ ∀ k, imm b k = none))
def OwnR (w : World) (imm : Imm) (sz : Nat) (u : Value) : Prop :=
  (isLin sz = true ∧ LinR w imm (sz - 1000000) u) ∨ (isLin sz = false ∧ ∃ a n cap, u = .slice a n cap ∧ (n = cap ∨ (n < cap ∧ 0 < sz ∧ ∃ b cur t, a = some ⟨b, 0, none⟩ ∧ w.heap[b]? = some (.cells cur t (0, 0)) ∧ cap * sz ≤ cur.size ∧ ∀ k, n * sz ≤ k → imm b k = none)))
def ownBlk (z : Nat) : Value → Option Nat
  | .slice (some a) n cap => if isLin z = true ∨ n < cap then some a.block else none
  | _ => none
theorem ownBlk_congr {z z' : Nat} (h : isLin z = isLin z') (u : Value) : ownBlk z u = ownBlk z' u := by cases u <;> simp [ownBlk, h]
theorem ownBlk_full {z : Nat} (h : isLin z = false) {a : Option Addr} {n : Nat} : ownBlk z (.slice a n n) = none := by cases a <;> simp [ownBlk, h]
theorem isLin_zero : isLin 0 = false := rfl
theorem OwnR.plain {w : World} {imm : Imm} {sz : Nat} {u : Value} (h : OwnR w imm sz u) (hz : isLin sz = false) :
    ∃ a n cap, u = .slice a n cap ∧ (n = cap ∨ (n < cap ∧ 0 < sz ∧ ∃ b cur t, a = some ⟨b, 0, none⟩ ∧ w.heap[b]? = some (.cells cur t (0, 0)) ∧ cap * sz ≤ cur.size ∧ ∀ k, n * sz ≤ k → imm b k = none)) := by
  rcases h with ⟨h1, _⟩ | ⟨_, h⟩
  · rw [hz] at h1; cases h1
  · exact h
theorem OwnR.lin {w : World} {imm : Imm} {sz : Nat} {u : Value} (h : OwnR w imm sz u) (hz : isLin sz = true) : LinR w imm (sz - 1000000) u := by
  rcases h with ⟨_, h⟩ | ⟨h1, _⟩
  · exact h
  · rw [hz] at h1; cases h1
theorem OwnR.blk {w : World} {imm : Imm} {sz : Nat} {u : Value} (h : OwnR w imm sz u) (hz : isLin sz = false) {b : Nat} (hb : ownBlk sz u = some b) :
    0 < sz ∧ ∃ n cap cur t, u = .slice (some ⟨b, 0, none⟩) n cap ∧ n < cap ∧ w.heap[b]? = some (.cells cur t (0, 0)) ∧ cap * sz ≤ cur.size ∧ ∀ k, n * sz ≤ k → imm b k = none := by
  obtain ⟨a, n, cap, rfl, hx⟩ := h.plain hz
  rcases hx with rfl | ⟨hn, hs, b', cur, t, rfl, h1, h2, h3⟩
  · rw [ownBlk_full hz] at hb; cases hb
  · simp only [ownBlk, hn, or_true, if_true, Option.some.injEq] at hb
    subst hb
    exact ⟨hs, n, cap, cur, t, rfl, hn, h1, h2, h3⟩
theorem LinR.blk {w : World} {imm : Imm} {sz z : Nat} {u : Value} (h : LinR w imm sz u) {b : Nat} (hb : ownBlk z u = some b) :
    0 < sz ∧ ∃ n cap cur t, u = .slice (some ⟨b, 0, none⟩) n cap ∧ n ≤ cap ∧ w.heap[b]? = some (.cells cur t (0, 0)) ∧ cap * sz ≤ cur.size ∧ ∀ k, imm b k = none := by
  obtain ⟨a, n, cap, rfl, h⟩ := h
  rcases h with ⟨rfl, _⟩ | ⟨hn, hs, b', cur, t, rfl, h1, h2, h3⟩
  · simp [ownBlk] at hb
  · have : b' = b := by
      simp only [ownBlk] at hb
      split at hb
      · exact Option.some.inj hb
      · cases hb
    subst this
    exact ⟨hs, n, cap, cur, t, rfl, hn, h1, h2, h3⟩
theorem OwnR.at {w : World} {imm : Imm} {sz : Nat} {u : Value} (h : OwnR w imm sz u) {b : Nat} (hb : ownBlk sz u = some b) : ∃ n cap cur t, u = .slice (some ⟨b, 0, none⟩) n cap ∧ w.heap[b]? = some (.cells cur t (0, 0)) := by
  cases hz : isLin sz
  · obtain ⟨_, n, cap, cur, t, e, _, h1, _⟩ := h.blk hz hb
    exact ⟨n, cap, cur, t, e, h1⟩
  · obtain ⟨_, n, cap, cur, t, e, _, h1, _⟩ := (h.lin hz).blk hb
    exact ⟨n, cap, cur, t, e, h1⟩
theorem OwnR.full {w : World} {imm : Imm} {sz : Nat} (hz : isLin sz = false) {a : Option Addr} {n : Nat} : OwnR w imm sz (.slice a n n) := .inr ⟨hz, a, n, n, rfl, .inl rfl⟩
theorem OwnR.zero {w : World} {imm : Imm} {sz : Nat} {u : Value} (h : OwnR w imm 0 u) (hz : isLin sz = false) : OwnR w imm sz u ∧ ownBlk sz u = none := by
  obtain ⟨a, n, cap, rfl, hx⟩ := h.plain isLin_zero
  rcases hx with rfl | ⟨_, h, _⟩
  · exact ⟨.full hz, ownBlk_full hz⟩
  · omega
theorem OwnR.none {w : World} {imm : Imm} {sz sz' : Nat} {u : Value} (h : OwnR w imm sz u) (hz : isLin sz = false) (hz' : isLin sz' = false) (hb : ownBlk sz u = .none) : OwnR w imm sz' u := by
  obtain ⟨a, n, cap, rfl, hx⟩ := h.plain hz
  rcases hx with rfl | ⟨hn, _, b', cur, t, rfl, _⟩
  · exact .full hz'
  · simp [ownBlk, hn] at hb
theorem OwnR.move {w w' : World} {imm imm' : Imm} {sz : Nat} {u : Value} (h : OwnR w imm sz u) (hw : ∀ b, ownBlk sz u = some b → w'.heap[b]? = w.heap[b]? ∧ ∀ k, imm b k = Option.none → imm' b k = Option.none) : OwnR w' imm' sz u := by
  cases hz : isLin sz
  · cases hb : ownBlk sz u with
    | none =>
      obtain ⟨a, n, cap, rfl, hx⟩ := h.plain hz
      rcases hx with rfl | ⟨hn, _, b', cur, t, rfl, _⟩
      · exact .full hz
      · simp [ownBlk, hn] at hb
    | some b =>
      obtain ⟨hs, n, cap, cur, t, rfl, hn, h1, h2, h3⟩ := h.blk hz hb
      obtain ⟨e1, e2⟩ := hw b hb
      exact .inr ⟨hz, _, n, cap, rfl, .inr ⟨hn, hs, b, cur, t, rfl, e1.trans h1, h2, fun k hk => e2 k (h3 k hk)⟩⟩
  · obtain ⟨a, n, cap, rfl, hl⟩ := h.lin hz
    refine .inl ⟨hz, a, n, cap, rfl, ?_⟩
    rcases hl with hl | ⟨hn, hs, b, cur, t, rfl, h1, h2, h3⟩
    · exact .inl hl
    · obtain ⟨e1, e2⟩ := hw b (by simp [ownBlk, hz])
      exact .inr ⟨hn, hs, b, cur, t, rfl, e1.trans h1, h2, fun k => e2 k (h3 k)⟩

def LinC (m : Imm) (w : World) (sz : Nat) (xs : List V) (u : Value) : Prop :=
  (∀ x ∈ xs, x.flat.length = sz) ∧ ((u = .slice none 0 0 ∧ xs = []) ∨ ∃ b cap us, u = .slice (some ⟨b, 0, none⟩) xs.length cap ∧ (∀ (j : Nat) (x : Value), us[j]? = some x → w.cell? ⟨b, j, none⟩ = some x) ∧ CRs m us (xs.flatMap V.flat))
theorem LinC.cells {m : Imm} {w : World} {sz : Nat} {xs : List V} {u : Value} (h : LinC m w sz xs u) : u.cells = #[u] := by
  rcases h.2 with ⟨rfl, _⟩ | ⟨_, _, _, rfl, _⟩ <;> rfl
theorem LinC.move {m m' : Imm} {w w' : World} {z sz : Nat} {xs : List V} {u : Value} (h : LinC m w sz xs u) (hz : isLin z = true) (hm : ImmLe m m') (hw : ∀ b, ownBlk z u = some b → w'.heap[b]? = w.heap[b]?) : LinC m' w' sz xs u := by
  obtain ⟨h0, h⟩ := h
  refine ⟨h0, ?_⟩
  rcases h with h | ⟨b, cap, us, rfl, h1, h2⟩
  · exact .inl h
  · have := hw b (by simp [ownBlk, hz])
    exact .inr ⟨b, cap, us, rfl, fun j x hx => by simpa [World.cell?, this] using h1 j x hx, h2.mono hm⟩

inductive Pl where
  | reg (r off : Nat)
  | cell (i j : Nat)
abbrev Pd := Option (Nat × Nat × Nat)
def Held (ow : List (Nat × Nat × Nat)) (pd : Pd) (h : Heap) (g : Gh) (tmps : Array Value) (w : World) : Pl → Nat → Value → Prop
  | .reg r off, sz, u => (r, off, sz) ∈ ow ∧ (tmps.getD r Go.undef).cells[off]? = some u
  | .cell i j, sz, u => ∃ cs own b, h[i]? = some (.cells cs own) ∧ (j, sz) ∈ own ∧ (∀ d, pd ≠ some (i, j, d)) ∧ g.mu i = some b ∧ w.cell? ⟨b, j, none⟩ = some u
def Pl.old {Dt : Prop} (cx : Cx Dt) (pd : Pd) (b : Nat) (lin : Bool) : Pl → Prop
  | .reg r _ => ∃ i j, pd = some (i, j, r) ∧ cx.O i j b false
  | .cell i j => lin = true ∨ cx.O i j b false
def PlIs (h : Heap) (i j : Nat) (xs : List V) : Prop := ∃ cs own, h[i]? = some (.cells cs own) ∧ cs[j]? = some (.own xs)
structure OwnI {Dt : Prop} (cx : Cx Dt) (ow : List (Nat × Nat × Nat)) (pd : Pd) (rs : Regs) (h : Heap) (g : Gh) (tmps : Array Value) (w : World) : Prop where
  own : ∀ p sz u, Held ow pd h g tmps w p sz u → OwnR w g.imm sz u
  blk : ∀ p sz u b, Held ow pd h g tmps w p sz u → ownBlk sz u = some b → cx.may b ∧ (∀ i, LiveAt h i → g.mu i ≠ some b) ∧ (b < cx.w0.heap.size → p.old cx pd b (isLin sz))
  dis : ∀ p q sz sz' u u' b, Held ow pd h g tmps w p sz u → Held ow pd h g tmps w q sz' u' → ownBlk sz u = some b → ownBlk sz' u' = some b → p = q
  cont : ∀ r off z, (r, off, z) ∈ ow → isLin z = true → off = 0 ∧ ∃ xs, get rs r = .lst xs ∧ LinC g.imm w (z - 1000000) xs (tmps.getD r Go.undef)
  contc : ∀ i j z u, Held ow pd h g tmps w (.cell i j) z u → isLin z = true → ∃ xs, PlIs h i j xs ∧ LinC g.imm w (z - 1000000) xs u

structure FrI (N : Nat) (rs : Regs) (g : Gh) (a : Act) : Prop where
  size : a.tmps.size = N
  nodef : a.defers = []
  regs : RR g a rs

theorem getD_put {a : Act} {d r : Nat} {u : Value} (hd : d < a.tmps.size) : (a.put (some d) u).tmps.getD r Go.undef = if r = d then u else a.tmps.getD r Go.undef := by
  simp only [Act.put, Array.getD_eq_getD_getElem?, Array.getElem?_setIfInBounds]
  by_cases h : r = d
  · subst h; simp [hd]
  · have : ¬ d = r := fun e => h e.symm
    simp [h, this]
theorem RR.put {g : Gh} {a : Act} {rs : Regs} (hr : RR g a rs) {d : Nat} (hd : d < a.tmps.size) {u : Value} {v : V} (hu : VR g u v) : RR g (a.put (some d) u) (putR (some d) v rs) := by
  intro r
  rw [getD_put hd]
  simp only [putR, get]
  by_cases h : r = d
  · subst h; simpa using hu
  · simpa [h] using hr r
theorem FrI.put {N : Nat} {rs : Regs} {g : Gh} {a : Act} (h : FrI N rs g a) {d : Option Nat} (hd : ∀ x, d = some x → x < N) {u : Value} {v : V} (hu : VR g u v) : FrI N (putR d v rs) g (a.put d u) := by
  cases d with
  | none => exact ⟨h.size, h.nodef, h.regs⟩
  | some d =>
    have hlt : d < a.tmps.size := by rw [h.size]; exact hd d rfl
    exact ⟨by simp only [Act.put, Array.size_setIfInBounds]; exact h.size, h.nodef, h.regs.put hlt hu⟩
theorem FrI.mono {N : Nat} {rs : Regs} {g g' : Gh} {a : Act} (h : FrI N rs g a) (hg : GLe g g') : FrI N rs g' a := ⟨h.size, h.nodef, fun r => (h.regs r).mono hg⟩

end Go.Vm

/- How memory and the abstract heap go on together: a new object, a new frozen row, an object set, a row's tail written, an object frozen. -/
set_option linter.unusedVariables false
set_option linter.unusedSimpArgs false
namespace Go.Vm
attribute [local simp] evalOps_nil evalOps_cons evalOps_consg evalOp_mv evalOp_asg evalOp_pick evalOp_build evalOp_bslice evalOp_load evalOp_nilck evalOp_bin evalOp_un evalOp_conv evalOp_mkfn evalOp_slice evalOp_faddr evalOp_field evalOp_iaddr evalOp_index evalOp_lookup evalOp_extract evalOp_app evalOp_len evalOp_mn evalOp_mx evalOp_alloc evalOp_box evalOp_mkmap evalOp_store evalOp_mapupd evalOp_delete evalOp_sliceArr evalOp_call evalOp_callv evalOp_appc code_skip code_ops code_dops code_seq code_cond code_block code_exit code_ret finish_normal finish_ret
attribute [local simp] V.lt V.ltL V.flat V.pureCell V.pure V.isCell cellEq cellsEq eqV intV shV strV isShift binV unV byteV convV minV maxV foldV foldV1 fillV fillE findV putV delV isKey natOf natOr cut cellsAt mapAt mapOf loadV pickV nilckV sizeOk allSize sliceV faddrV fieldV iaddrV indexV found extractV allPure appV lenV ownHas ownOk storeC storeV samePtr appcV boxable mapupdV deleteV sliceArrV callV allLt clean bodyEnd resV one finishV runV initR

theorem cell_same {w w' : World} {b : Nat} (h : w'.heap[b]? = w.heap[b]?) (o : Nat) : w'.cell? ⟨b, o, none⟩ = w.cell? ⟨b, o, none⟩ := by simp [World.cell?, h]
theorem cell_lt {w : World} {b o : Nat} {u : Value} (h : w.cell? ⟨b, o, none⟩ = some u) : b < w.heap.size := by
  simp only [World.cell?] at h
  split at h
  · rename_i c t fr hb; exact (Array.getElem?_eq_some_iff.1 hb).1
  · cases h
def Keeps (w w' : World) (b : Nat) : Prop := ∀ (us : Array Value) (t : TypeId) (fr : Nat × Nat), w.heap[b]? = some (.cells us t fr) → ∃ (us' : Array Value) (t' : TypeId) (fr' : Nat × Nat), w'.heap[b]? = some (.cells us' t' fr') ∧ us.size ≤ us'.size
theorem ERels.mono {g g' : Gh} (hg : GLe g g') : ∀ {es : List MapEntry} {ps : List (V × V)}, ERels g es ps → ERels g' es ps
  | [], [], _ => trivial
  | _ :: _, _ :: _, ⟨h, t⟩ => ⟨⟨h.1.mono hg.imm, h.2.mono hg⟩, ERels.mono hg t⟩
  | [], _ :: _, h => h.elim
  | _ :: _, [], h => h.elim
theorem ObjR.mono {g g' : Gh} {w w' : World} {b : Nat} {o : Obj} (h : ObjR g w b o) (hg : GLe g g') (hw : w'.heap[b]? = w.heap[b]?) : ObjR g' w' b o := by
  cases o with
  | cells cs own =>
    obtain ⟨us, t, l, r, h1, h0, h2, h3⟩ := h
    exact ⟨us, t, l, r, hw.trans h1, h0, h2.mono hg, h3⟩
  | map es =>
    obtain ⟨rs, c, h1, h2, h3⟩ := h
    exact ⟨rs, c, hw.trans h1, h2.mono hg, h3⟩
  | emp =>
    obtain ⟨us, t, h1⟩ := h
    exact ⟨us, t, hw.trans h1⟩
  | dead => trivial

theorem MemW.step {Dt : Prop} {cx : Cx Dt} {fl fl' : Fl} {w w' : World} {row : Option Nat} (hm : MemW cx fl w) (hw : w.grownBy w' row) (hrow : ∀ b, row = some b → cx.may b ∧ (cx.w0.heap.size ≤ b ∨ cx.wrOk fl' b)) (hfl : ∀ b, cx.wrOk fl b → cx.wrOk fl' b) (hd : w.drawn ≤ w'.drawn := by first | exact Nat.le_refl _ | exact Nat.le_succ _ | simp) : MemW cx fl' w' := by
  have hs := hm.hsz
  refine ⟨hw.os.trans hm.os, hw.tape.trans hm.tape, hw.output.trans hm.out, fun d => Nat.le_trans (hm.drn d) hd, Nat.le_trans hs hw.size, fun b hb hW => ?_, fun b hb => ?_⟩
  · rw [hw.block b (by omega) ?_]
    · exact hm.old b hb hW
    · intro e
      rcases (hrow b e.symm).1 with h | h
      · omega
      · exact hW h
  · by_cases e : some b = row
    · rcases (hrow b e.symm).2 with h | h
      · omega
      · exact .inl h
    · rw [hw.block b (by omega) e]
      exact (hm.wr b hb).imp (hfl b) id

def Gh.addMu (g : Gh) (i b : Nat) : Gh := ⟨fun j => if j = i then some b else g.mu j, g.imm, g.siz, g.em⟩
def Gh.addImm (g : Gh) (b lo : Nat) (us : List Value) : Gh := ⟨g.mu, fun c k => if c = b ∧ lo ≤ k ∧ k < lo + us.length then us[k - lo]? else g.imm c k, g.siz, g.em⟩
theorem Gh.addMu_le {g : Gh} {i b : Nat} (h : g.mu i = none) : GLe g (g.addMu i b) :=
  ⟨fun j c hc => by simp only [Gh.addMu]; split <;> simp_all, fun _ _ _ h => h, fun _ => Nat.le_refl _, fun _ h => h⟩
theorem Gh.addImm_le {g : Gh} {b lo : Nat} {us : List Value} (h : ∀ k, lo ≤ k → k < lo + us.length → g.imm b k = none) : GLe g (g.addImm b lo us) :=
  ⟨fun _ _ h => h, fun c k u hu => by
    simp only [Gh.addImm]
    split
    · rename_i hc
      obtain ⟨rfl, h1, h2⟩ := hc
      rw [h k h1 h2] at hu; cases hu
    · exact hu, fun _ => Nat.le_refl _, fun _ h => h⟩
theorem Gh.addImm_other {g : Gh} {b lo : Nat} {us : List Value} {c : Nat} (h : c ≠ b) (k : Nat) : (g.addImm b lo us).imm c k = g.imm c k := by simp [Gh.addImm, h]
theorem Gh.addImm_at {g : Gh} {b lo : Nat} {us : List Value} {j : Nat} {u : Value} (h : us[j]? = some u) : (g.addImm b lo us).imm b (lo + j) = some u := by
  have := (List.getElem?_eq_some_iff.1 h).1
  have hc : b = b ∧ lo ≤ lo + j ∧ lo + j < lo + us.length := ⟨rfl, by omega, by omega⟩
  unfold Gh.addImm
  dsimp only
  rw [if_pos hc, show lo + j - lo = j by omega, h]

section
variable {Dt : Prop} {cx : Cx Dt} {hb0 : Heap} {h : Heap} {fl : Fl} {g : Gh} {w : World}

theorem MemG.muNone (hm : MemG cx hb0 h fl g w) {i : Nat} (hi : h.length ≤ i) : g.mu i = none := by
  cases hmu : g.mu i with
  | none => rfl
  | some b => have := hm.dom i b hmu; omega
theorem MemG.immNone (hm : MemG cx hb0 h fl g w) {b : Nat} (hb : w.heap.size ≤ b) (k : Nat) : g.imm b k = none := by
  cases hi : g.imm b k with
  | none => rfl
  | some u => have := cell_lt (hm.hr.imm b k u hi); omega
theorem liveAt_append {h : Heap} {o : Obj} {i : Nat} (hl : LiveAt (h ++ [o]) i) : LiveAt h i ∨ i = h.length := by
  obtain ⟨x, hx, hl⟩ := hl
  by_cases hi : i < h.length
  · rw [List.getElem?_append_left hi] at hx; exact .inl ⟨x, hx, hl⟩
  · have := (List.getElem?_eq_some_iff.1 hx).1
    simp at this
    exact .inr (by omega)

theorem siz_mono {w' : World} (hs : ∀ b, 0 < g.siz b → ∃ us t fr, w.heap[b]? = some (.cells us t fr) ∧ g.siz b ≤ us.size) (hk : ∀ b, Keeps w w' b) :
    ∀ b, 0 < g.siz b → ∃ us t fr, w'.heap[b]? = some (.cells us t fr) ∧ g.siz b ≤ us.size := fun b hb => by
  obtain ⟨us, t, fr, h1, h2⟩ := hs b hb
  obtain ⟨us', t', fr', h3, h4⟩ := hk b us t fr h1
  exact ⟨us', t', fr', h3, Nat.le_trans h2 h4⟩
theorem Keeps.same {w' : World} {b : Nat} (h : w'.heap[b]? = w.heap[b]?) : Keeps w w' b := fun us t fr hb => ⟨us, t, fr, h.trans hb, Nat.le_refl _⟩
theorem keep_of_old {w' : World} (ho : ∀ b, b < w.heap.size → w'.heap[b]? = w.heap[b]?) (b : Nat) : Keeps w w' b :=
  fun us t fr h => ⟨us, t, fr, (ho b (Array.getElem?_eq_some_iff.1 h).1).trans h, Nat.le_refl _⟩
theorem low_append {hb h l : Heap} {esc : List Nat} (hlb : hb.length ≤ h.length) (hm : ∀ (i : Nat) (o : Obj), i < hb.length → h[i]? = some o → i ∈ esc ∨ ∃ ob : Obj, hb[i]? = some ob ∧ ∀ m, ob.lt m = true → o.lt m = true) :
    ∀ (i : Nat) (o : Obj), i < hb.length → (h ++ l)[i]? = some o → i ∈ esc ∨ ∃ ob : Obj, hb[i]? = some ob ∧ ∀ m, ob.lt m = true → o.lt m = true := fun i o hi ho => by
  rw [List.getElem?_append_left (by omega)] at ho
  exact hm i o hi ho

theorem MemG.push (hm : MemG cx hb0 h fl g w) (hsz : cx.w0.heap.size ≤ w.heap.size) {O : Go.Obj} {o : Obj} (ho : ObjR (g.addMu h.length w.heap.size) (w.alloc O) w.heap.size o) :
    MemG cx hb0 (h ++ [o]) fl (g.addMu h.length w.heap.size) (w.alloc O) := by
  have hnone := hm.muNone (Nat.le_refl h.length)
  have hle : GLe g (g.addMu h.length w.heap.size) := Gh.addMu_le hnone
  have heap : ∀ b, b < w.heap.size → (w.alloc O).heap[b]? = w.heap[b]? := fun b hb => heap_alloc_old w O hb
  refine ⟨⟨fun i x hx hl => ?_, fun b k u hu => ?_, fun i b hx hb => ?_, siz_mono hm.hr.siz (keep_of_old heap)⟩, hm.ge.trans hle, hm.immW, hm.fbl, ?_, fun i hi => ?_, fun i b hb => ?_, fun i hi => ?_, fun i b hb => ?_, fun i b hi hb => ?_, fun i j b hi hj hbi hbj => ?_, fun i b hi hb k => ?_, low_append hm.lbh hm.low⟩
  · by_cases hi : i < h.length
    · rw [List.getElem?_append_left hi] at hx
      obtain ⟨b, hb, hob⟩ := hm.hr.obj i x hx hl
      exact ⟨b, hle.mu i b hb, hob.mono hle (heap b (hm.muW i b hb).1)⟩
    · have h2 := (List.getElem?_eq_some_iff.1 hx).1
      simp at h2
      have : i = h.length := by omega
      subst this
      simp at hx
      subst hx
      exact ⟨w.heap.size, by simp [Gh.addMu], ho⟩
  · have hu' : g.imm b k = some u := hu
    have := hm.hr.imm b k u hu'
    rw [cell_same (heap b (cell_lt this))]
    exact this
  · by_cases hi : i < h.length
    · rw [List.getElem?_append_left hi] at hx
      have hne : i ≠ h.length := by omega
      simp only [Gh.addMu, hne, if_false] at hb
      exact (hm.hr.emp i b hx hb).mono hle (heap b (hm.muW i b hb).1)
    · have h2 := (List.getElem?_eq_some_iff.1 hx).1
      simp at h2
      have : i = h.length := by omega
      subst this
      simp at hx
      subst hx
      simp only [Gh.addMu, if_true, Option.some.injEq] at hb
      subst hb
      exact ho
  · have := hm.lbh; simp; omega
  · have := hm.lbh
    have := hm.fbl
    have hne : i ≠ h.length := by omega
    simp only [Gh.addMu, hne, if_false]
    exact hm.muOld i hi
  · simp only [Gh.addMu] at hb
    split at hb
    · simp; omega
    · have := hm.dom i b hb; simp; omega
  · have := hm.dome i hi; simp; omega
  · simp only [Gh.addMu] at hb
    split at hb
    · cases hb
      exact ⟨by simp, fun _ => .inl hsz⟩
    · rename_i hne
      obtain ⟨h1, h2⟩ := hm.muW i b hb
      refine ⟨by simp; omega, fun hl => h2 ?_⟩
      rcases liveAt_append hl with hl | hl
      · exact hl
      · exact absurd hl hne
  · simp only [Gh.addMu] at hb
    split at hb
    · cases hb; exact .inl hsz
    · exact hm.new i b hi hb
  · simp only [Gh.addMu] at hbi hbj
    split at hbi <;> split at hbj
    · omega
    · cases hbi
      have := (hm.muW j _ hbj).1; omega
    · cases hbj
      have := (hm.muW i _ hbi).1; omega
    · rename_i h1 h2
      rcases liveAt_append hi with hi | hi
      · rcases liveAt_append hj with hj | hj
        · exact hm.inj i j b hi hj hbi hbj
        · exact absurd hj h2
      · exact absurd hi h1
  · simp only [Gh.addMu] at hb
    split at hb
    · cases hb; exact hm.immNone (Nat.le_refl _) k
    · rename_i hne
      rcases liveAt_append hi with hi | hi
      · exact hm.muimm i b hi hb k
      · exact absurd hi hne

theorem MemG.frozen (hm : MemG cx hb0 h fl g w) {us : List Value} {cur : Array Value} {t : TypeId} (hus : ∀ (j : Nat) (u : Value), us[j]? = some u → cur[j]? = some u) (hsz : cx.w0.heap.size ≤ w.heap.size) :
    MemG cx hb0 h fl (g.addImm w.heap.size 0 us) (w.alloc (.cells cur t)) := by
  have hle : GLe g (g.addImm w.heap.size 0 us) := Gh.addImm_le fun k _ _ => hm.immNone (Nat.le_refl _) k
  have heap : ∀ b, b < w.heap.size → (w.alloc (.cells cur t)).heap[b]? = w.heap[b]? := fun b hb => heap_alloc_old w _ hb
  refine ⟨⟨fun i x hx hl => ?_, fun b k u hu => ?_, fun i b hx hb => (hm.hr.emp i b hx hb).mono hle (heap b (hm.muW i b hb).1), siz_mono hm.hr.siz (keep_of_old heap)⟩, hm.ge.trans hle, fun b o hb hW => ?_, hm.fbl, hm.lbh, hm.muOld, hm.dom, hm.dome, fun i b hb => ?_, hm.new, hm.inj, fun i b hi hb k => ?_, hm.low⟩
  · obtain ⟨b, hb, hob⟩ := hm.hr.obj i x hx hl
    exact ⟨b, hb, hob.mono hle (heap b (hm.muW i b hb).1)⟩
  · by_cases hb : b = w.heap.size
    · subst hb
      simp only [Gh.addImm] at hu
      split at hu
      · rename_i hk
        have := hus (k - 0) u hu
        simp only [Nat.sub_zero] at this
        simp only [World.cell?, heap_alloc_new, this]
        rfl
      · rw [hm.immNone (Nat.le_refl _)] at hu; cases hu
    · rw [Gh.addImm_other hb] at hu
      have := hm.hr.imm b k u hu
      rw [cell_same (heap b (cell_lt this))]
      exact this
  · rw [Gh.addImm_other (by omega)]; exact hm.immW b o hb hW
  · obtain ⟨h1, h2⟩ := hm.muW i b hb
    exact ⟨by simp; omega, h2⟩
  · have := (hm.muW i b hb).1
    rw [Gh.addImm_other (by omega)]; exact hm.muimm i b hi hb k

theorem liveAt_set {h : Heap} {i : Nat} {o : Obj} {j : Nat} (hl : LiveAt (hset h i o) j) (hi : LiveAt h i) : LiveAt h j := by
  by_cases hji : j = i
  · subst hji; exact hi
  · obtain ⟨x, hx, hl⟩ := hl
    unfold hset at hx
    rw [List.getElem?_set_ne (Ne.symm hji)] at hx
    exact ⟨x, hx, hl⟩

theorem MemG.set (hm : MemG cx hb0 h fl g w) {i b : Nat} (hi : LiveAt h i) (hb : g.mu i = some b) {o : Obj} {fl' : Fl} {w' : World} (hsz : w.heap.size ≤ w'.heap.size)
    (hoth : ∀ c, c < w.heap.size → c ≠ b → w'.heap[c]? = w.heap[c]?) (hrow : Keeps w w' b) (ho : ObjR g w' b o)
    (hesc : ∀ j, j ∈ fl.esc → j ∈ fl'.esc) (hwr : fl.all = true → fl'.all = true) (hlow : i ∈ fl'.esc ∨ (i < hb0.length → ∀ ox : Obj, h[i]? = some ox → ∀ m, ox.lt m = true → o.lt m = true)) : MemG cx hb0 (hset h i o) fl' g w' := by
  have hlen : (hset h i o).length = h.length := by simp [hset]
  have nimm : ∀ c k u, g.imm c k = some u → c ≠ b := fun c k u hu e => by subst e; rw [hm.muimm i c hi hb k] at hu; cases hu
  refine ⟨⟨fun j x hx hl => ?_, fun c k u hu => ?_, fun j c hx hc => ?_, siz_mono hm.hr.siz fun c us t fr hc => ?_⟩, hm.ge, hm.immW, hm.fbl, by rw [hlen]; exact hm.lbh, hm.muOld, fun j c hc => by rw [hlen]; exact hm.dom j c hc, fun j hj => by rw [hlen]; exact hm.dome j hj, fun j c hc => ?_, fun j c hj hc => (hm.new j c hj hc).imp id hwr, fun j k c hj hk => hm.inj j k c (liveAt_set hj hi) (liveAt_set hk hi), fun j c hj => hm.muimm j c (liveAt_set hj hi), ?_⟩
  · by_cases hji : j = i
    · subst hji
      have hlt : j < h.length := hm.dom j b hb
      simp [hset, hlt] at hx
      subst hx
      exact ⟨b, hb, ho⟩
    · unfold hset at hx
      rw [List.getElem?_set_ne (Ne.symm hji)] at hx
      obtain ⟨c, hc, hob⟩ := hm.hr.obj j x hx hl
      have hcb : c ≠ b := fun e => hji (hm.inj j i b ⟨x, hx, Obj.live_of_blk hl⟩ hi (e ▸ hc) hb)
      exact ⟨c, hc, hob.mono (GLe.refl g) (hoth c (hm.muW j c hc).1 hcb)⟩
  · have := hm.hr.imm c k u hu
    rw [cell_same (hoth c (cell_lt this) (nimm c k u hu))]
    exact this
  · by_cases hji : j = i
    · subst hji
      have hlt : j < h.length := hm.dom j b hb
      simp [hset, hlt] at hx
      subst hx
      rw [hb] at hc
      cases hc
      exact ho
    · unfold hset at hx
      rw [List.getElem?_set_ne (Ne.symm hji)] at hx
      have hcb : c ≠ b := fun e => hji (hm.inj j i b ⟨_, hx, rfl⟩ hi (e ▸ hc) hb)
      exact (hm.hr.emp j c hx hc).mono (GLe.refl g) (hoth c (hm.muW j c hc).1 hcb)
  · by_cases hcb : c = b
    · subst hcb; exact hrow us t fr hc
    · exact ⟨us, t, fr, (hoth c (Array.getElem?_eq_some_iff.1 hc).1 hcb).trans hc, Nat.le_refl _⟩
  · obtain ⟨h1, h2⟩ := hm.muW j c hc
    exact ⟨Nat.lt_of_lt_of_le h1 hsz, fun hl => h2 (liveAt_set hl hi)⟩
  · intro j x hj hx
    by_cases hji : j = i
    · subst hji
      rcases hlow with h1 | h2
      · exact .inl h1
      · have hlt : j < h.length := hm.dom j b hb
        simp [hset, hlt] at hx
        subst hx
        obtain ⟨ox, hox, _⟩ := hi
        rcases hm.low j ox hj hox with h3 | ⟨ob, h4, h5⟩
        · exact .inl (hesc j h3)
        · exact .inr ⟨ob, h4, fun m hm => h2 hj ox hox m (h5 m hm)⟩
    · unfold hset at hx
      rw [List.getElem?_set_ne (Ne.symm hji)] at hx
      exact (hm.low j x hj hx).imp (hesc j) id

theorem MemG.tail (hm : MemG cx hb0 h fl g w) {b lo : Nat} {us : List Value} {cur cur' : Array Value} {t : TypeId} {fr : Nat × Nat} (hb : w.heap[b]? = some (.cells cur t fr)) (hmay : cx.may b) (hnot : ∀ i, LiveAt h i → g.mu i ≠ some b)
    (himm : ∀ k, lo ≤ k → g.imm b k = none) {w' : World} (hsz : w'.heap.size = w.heap.size) (hoth : ∀ c, c ≠ b → w'.heap[c]? = w.heap[c]?) (hb' : w'.heap[b]? = some (.cells cur' t fr)) (hcc : cur.size ≤ cur'.size)
    (hlow : ∀ (k : Nat), k < lo → cur'[k]? = cur[k]?) (hus : ∀ (j : Nat) (u : Value), us[j]? = some u → cur'[lo + j]? = some u) : MemG cx hb0 h fl (g.addImm b lo us) w' := by
  have hle : GLe g (g.addImm b lo us) := Gh.addImm_le fun k hk _ => himm k hk
  refine ⟨⟨fun i x hx hl => ?_, fun c k u hu => ?_, fun i c hx hc => (hm.hr.emp i c hx hc).mono hle (hoth c fun e => hnot i ⟨_, hx, rfl⟩ (e ▸ hc)), siz_mono hm.hr.siz fun c vs t' fr' hc => ?_⟩, hm.ge.trans hle, fun c o hc hW => ?_, hm.fbl, hm.lbh, hm.muOld, hm.dom, hm.dome, fun i c hc => ?_, hm.new, hm.inj, fun i c hi hc k => ?_, hm.low⟩
  · obtain ⟨c, hc, hob⟩ := hm.hr.obj i x hx hl
    have : c ≠ b := fun e => hnot i ⟨x, hx, Obj.live_of_blk hl⟩ (e ▸ hc)
    exact ⟨c, hc, hob.mono hle (hoth c this)⟩
  · by_cases hc : c = b
    · subst hc
      simp only [World.cell?, hb']
      simp only [Gh.addImm] at hu
      split at hu
      · rename_i hk
        have := hus (k - lo) u hu
        rw [show lo + (k - lo) = k by omega] at this
        simpa using this
      · have hk : k < lo := by
          rcases Nat.lt_or_ge k lo with hk | hk
          · exact hk
          · rw [himm k hk] at hu; cases hu
        have := hm.hr.imm c k u hu
        simp only [World.cell?, hb] at this
        simpa [hlow k hk] using this
    · rw [Gh.addImm_other hc] at hu
      rw [cell_same (hoth c hc)]
      exact hm.hr.imm c k u hu
  · by_cases hcb : c = b
    · subst hcb
      rw [hb] at hc
      cases hc
      exact ⟨cur', _, _, hb', hcc⟩
    · exact ⟨vs, t', fr', (hoth c hcb).trans hc, Nat.le_refl _⟩
  · by_cases hcb : c = b
    · subst hcb
      rcases hmay with h1 | h1
      · omega
      · exact absurd h1 hW
    · rw [Gh.addImm_other hcb]; exact hm.immW c o hc hW
  · rw [hsz]; exact hm.muW i c hc
  · have hcb : c ≠ b := fun e => hnot i hi (e ▸ hc)
    rw [Gh.addImm_other hcb]; exact hm.muimm i c hi hc k

theorem liveAt_dead {h : Heap} {i j : Nat} (hi : i < h.length) (hj : LiveAt (hset h i .dead) j) : j ≠ i ∧ LiveAt h j := by
  obtain ⟨x, hx, hl⟩ := hj
  by_cases hji : j = i
  · subst hji
    simp [hset, hi] at hx
    subst hx
    cases hl
  · unfold hset at hx
    rw [List.getElem?_set_ne (Ne.symm hji)] at hx
    exact ⟨hji, x, hx, hl⟩
theorem MemG.kill (hm : MemG cx hb0 h fl g w) {i : Nat} (hi : i < h.length) : MemG cx hb0 (hset h i .dead) fl g w := by
  have hlen : (hset h i .dead).length = h.length := by simp [hset]
  have other : ∀ (j : Nat) (x : Obj), (hset h i .dead)[j]? = some x → x.live = true → j ≠ i ∧ h[j]? = some x := fun j x hx hl => by
    have hji := (liveAt_dead hi ⟨x, hx, hl⟩).1
    unfold hset at hx
    rw [List.getElem?_set_ne (Ne.symm hji)] at hx
    exact ⟨hji, hx⟩
  refine ⟨⟨fun j x hx hl => hm.hr.obj j x (other j x hx (Obj.live_of_blk hl)).2 hl, hm.hr.imm, fun j c hx => hm.hr.emp j c (other j _ hx rfl).2, hm.hr.siz⟩, hm.ge, hm.immW, hm.fbl, by rw [hlen]; exact hm.lbh, hm.muOld, fun j c hc => by rw [hlen]; exact hm.dom j c hc, fun j hj => by rw [hlen]; exact hm.dome j hj, fun j c hc => ⟨(hm.muW j c hc).1, fun hl => (hm.muW j c hc).2 (liveAt_dead hi hl).2⟩, hm.new, fun j k c hj hk => hm.inj j k c (liveAt_dead hi hj).2 (liveAt_dead hi hk).2, fun j c hj => hm.muimm j c (liveAt_dead hi hj).2, fun j x hj hx => ?_⟩
  by_cases hji : j = i
  · subst hji
    simp [hset, hi] at hx
    subst hx
    obtain ⟨ox, hox⟩ : ∃ ox, h[j]? = some ox := ⟨_, List.getElem?_eq_getElem hi⟩
    rcases hm.low j ox hj hox with h1 | ⟨ob, h4, _⟩
    · exact .inl h1
    · exact .inr ⟨ob, h4, fun m _ => rfl⟩
  · unfold hset at hx
    rw [List.getElem?_set_ne (Ne.symm hji)] at hx
    exact hm.low j x hj hx
theorem MemG.addImm (hm : MemG cx hb0 h fl g w) {b lo : Nat} (hmay : cx.may b) (hnot : ∀ i, LiveAt h i → g.mu i ≠ some b) {us : List Value} (himm : ∀ k, lo ≤ k → k < lo + us.length → g.imm b k = none) (hus : ∀ (j : Nat) (u : Value), us[j]? = some u → w.cell? ⟨b, lo + j, none⟩ = some u) :
    MemG cx hb0 h fl (g.addImm b lo us) w := by
  have hle : GLe g (g.addImm b lo us) := Gh.addImm_le himm
  refine ⟨⟨fun j x hx hl => ?_, fun c k u hu => ?_, fun j c hx hc => (hm.hr.emp j c hx hc).mono hle rfl, hm.hr.siz⟩, hm.ge.trans hle, fun c o hc hW => ?_, hm.fbl, hm.lbh, hm.muOld, hm.dom, hm.dome, hm.muW, hm.new, hm.inj, fun j c hj hc k => ?_, hm.low⟩
  · obtain ⟨c, hc, hob⟩ := hm.hr.obj j x hx hl
    exact ⟨c, hc, hob.mono hle rfl⟩
  · by_cases hc : c = b
    · subst hc
      simp only [Gh.addImm] at hu
      split at hu
      · rename_i hk
        have := hus (k - lo) u hu
        rw [show lo + (k - lo) = k by omega] at this
        exact this
      · exact hm.hr.imm c k u hu
    · rw [Gh.addImm_other hc] at hu
      exact hm.hr.imm c k u hu
  · by_cases hcb : c = b
    · subst hcb
      rcases hmay with h1 | h1
      · omega
      · exact absurd h1 hW
    · rw [Gh.addImm_other hcb]; exact hm.immW c o hc hW
  · have hcb : c ≠ b := fun e => hnot j hj (e ▸ hc)
    rw [Gh.addImm_other hcb]; exact hm.muimm j c hj hc k
end
end Go.Vm

/- Who may append: a check of each function's text, and what it keeps true. -/
set_option linter.unusedVariables false
set_option linter.unusedSimpArgs false
namespace Go.Vm
attribute [local simp] evalOps_nil evalOps_cons evalOps_consg evalOp_mv evalOp_asg evalOp_pick evalOp_build evalOp_bslice evalOp_load evalOp_nilck evalOp_bin evalOp_un evalOp_conv evalOp_mkfn evalOp_slice evalOp_faddr evalOp_field evalOp_iaddr evalOp_index evalOp_lookup evalOp_extract evalOp_app evalOp_len evalOp_mn evalOp_mx evalOp_alloc evalOp_box evalOp_mkmap evalOp_store evalOp_mapupd evalOp_delete evalOp_sliceArr evalOp_call evalOp_callv evalOp_appc code_skip code_ops code_dops code_seq code_cond code_block code_exit code_ret finish_normal finish_ret
attribute [local simp] V.lt V.ltL V.flat V.pureCell V.pure V.isCell cellEq cellsEq eqV intV shV strV isShift binV unV byteV convV minV maxV foldV foldV1 fillV fillE findV putV delV isKey natOf natOr cut cellsAt mapAt mapOf loadV pickV nilckV sizeOk allSize sliceV faddrV fieldV iaddrV indexV found extractV allPure appV lenV ownHas ownOk storeC storeV samePtr appcV boxable mapupdV deleteV sliceArrV callV allLt clean bodyEnd resV one finishV runV initR

abbrev Ows := List (Nat × Nat × Nat)
structure Ow where
  own : Ows
  al : List (Nat × Nat)
  la : List (Nat × Nat)
  pd : Option (Nat × Nat)

def offReg (r : Nat) (l : Ows) : Ows := l.filter fun x => decide (x.1 ≠ r)
def offPair (r : Nat) (l : List (Nat × Nat)) : List (Nat × Nat) := l.filter fun x => decide (x.1 ≠ r) && decide (x.2 ≠ r)
def pdFree (r : Nat) : Option (Nat × Nat) → Bool
  | none => true
  | some (a, q) => decide (a ≠ r) && decide (q ≠ r)
def Ow.kill (S : Ow) : Option Nat → Option Ow
  | none => some S
  | some d => cnd (pdFree d S.pd) (some ⟨offReg d S.own, offPair d S.al, offPair d S.la, S.pd⟩) none
def hasOwn (r off sz : Nat) : Ows → Bool
  | [] => false
  | (q, o, z) :: l => (decide (q = r) && decide (o = off) && (decide (z = sz) || (decide (z = 0) && !isLin sz))) || hasOwn r off sz l
def noLin (own : List (Nat × Nat)) : Bool := own.all fun x => !isLin x.2
def nilOffs (cs : List V) (ps : List (Nat × Nat × Arg)) (offs : List Nat) : Bool :=
  offs.all fun j => (match cs[j]? with | some (.sl []) => true | _ => false) && ps.all fun p => decide (j < p.1) || decide (p.1 + p.2.1 ≤ j)
def hasLin (r z : Nat) (l : Ows) : Bool := l.any fun x => decide (x = (r, 0, z))
def anyLin (r : Nat) (l : Ows) : Bool := l.any fun x => decide (x.1 = r) && isLin x.2.2
def hasPair (t p : Nat) : List (Nat × Nat) → Bool
  | [] => false
  | (x, y) :: l => (decide (x = t) && decide (y = p)) || hasPair t p l
def hasOwns (t : Nat) (own : Ows) : List (Nat × Nat) → Bool
  | [] => true
  | (off, sz) :: l => hasOwn t off sz own && hasOwns t own l
def moved (p d : Nat) (l : Ows) : Ows := offReg p l ++ (l.filter fun x => decide (x.1 = p)).map fun x => (d, x.2)
def addOwn (d : Option Nat) (off sz : Nat) (S : Ow) : Ow :=
  match d with
  | none => S
  | some d => { S with own := (d, off, sz) :: S.own }
def addOffs (dst : Option Nat) : List Nat → Ow → Ow
  | [], T => T
  | j :: l, T => addOwn dst j 0 (addOffs dst l T)
def isNilArg : Arg → Bool
  | .c (.sl []) => true
  | _ => false
def Ow.noPd (S : Ow) : Bool := S.pd.isNone
def offLa (S : Ow) : Ow := { S with la := [] }

def ownNil (cs : List V) : List (Nat × Nat) → Bool
  | [] => true
  | (j, z) :: l => (match cs[j]? with | some (.sl []) => !isLin z | some (.own []) => isLin z | _ => false) && ownNil cs l
def incrFrom (m : Nat) : List (Nat × Arg) → Bool
  | [] => true
  | (i, _) :: l => decide (m ≤ i) && incrFrom (i + 1) l
def Ow.step1 (R : Nat → Option Nat) (S : Ow) (dst : Option Nat) : VOp → Option Ow
  | .mv (.r p) => bnd (S.kill dst) fun T => match dst with
    | some d => cnd (decide (d = p)) (some T) (some { T with al := (d, p) :: T.al })
    | none => some T
  | .asg (.r p) => bnd (S.kill dst) fun T => match dst with
    | some d => cnd (decide (d = p)) (some T) (cnd (pdFree p S.pd) (some { T with own := moved p d T.own }) none)
    | none => some T
  | .mv x | .asg x => bnd (S.kill dst) fun T => some (cnd (isNilArg x) (addOwn dst 0 0 T) T)
  | .load false 1 (.r p) => bnd (S.kill dst) fun T => match dst with
    | some d => cnd (decide (d = p)) (some T) (some { T with la := (d, p) :: T.la })
    | none => some T
  | .alloc cs own => cnd (ownNil cs own) (S.kill dst) none
  | .newl z => bnd (S.kill dst) fun T => some (addOwn dst 0 (z + 1000000) T)
  | .appl p size _ (.r t) _ => cnd ((decide (t = p) || hasPair t p S.al) && (hasLin p (size + 1000000) S.own && pdFree p S.pd))
      (bnd (S.kill dst) fun T => some (addOwn dst 0 (size + 1000000) (offLa { T with own := offReg p T.own }))) none
  | .lenl p (.r t) => cnd ((decide (t = p) || hasPair t p S.al) && anyLin p S.own) (S.kill dst) none
  | .slf p size (.r t) _ _ => cnd ((decide (t = p) || hasPair t p S.al) && (hasLin p (size + 1000000) S.own && pdFree p S.pd)) (bnd (S.kill dst) fun T => some { T with own := offReg p T.own }) none
  | .mrk p (.r t) => cnd ((decide (t = p) || hasPair t p S.al) && (hasLin p 1000001 S.own && S.noPd)) (bnd (S.kill dst) fun T => some (offLa { T with own := offReg p T.own })) none
  | .calll _ p size _ (.r t) _ => cnd ((decide (t = p) || hasPair t p S.al) && (hasLin p (size + 1000000) S.own && S.noPd))
      (bnd (S.kill dst) fun T => some (addOwn dst 0 (size + 1000000) (offLa { T with own := offReg p T.own }))) none
  | .appl _ _ _ _ _ | .lenl _ _ | .slf _ _ _ _ _ | .calll _ _ _ _ _ _ | .mrk _ _ => none
  | .bld cs ps offs => cnd (nilOffs cs ps offs) (bnd (S.kill dst) fun T => some (addOffs dst offs T)) none
  | .boxo _ (.r t) own => cnd (own.all fun x => isLin x.2 || S.own.any fun y => decide (y = (t, x.1, 0))) (S.kill dst) none
  | .boxo _ (.c _) own => cnd own.isEmpty (S.kill dst) none
  | .bstr _ => bnd (S.kill dst) fun T => some (offLa T)
  | .isnil _ => S.kill dst
  | .bad => S.kill dst
  | .clr _ _ => cnd S.noPd (bnd (S.kill dst) fun T => some (offLa T)) none
  | .mvn => S.kill dst
  | .mkm _ _ _ => S.kill dst
  | .bsll _ size _ ps => cnd (incrFrom 0 ps) (bnd (S.kill dst) fun T => some (addOwn dst 0 (size + 1000000) T)) none
  | .appm _ _ _ _ => cnd S.noPd (bnd (S.kill dst) fun T => some (offLa T)) none
  | .thwr p size => cnd (S.noPd && (decide (dst = some p) && hasLin p (size + 1000000) S.own)) (S.kill dst) none
  | .frzl p size => cnd (S.noPd && (decide (dst = some p) && hasLin p (size + 1000000) S.own)) (S.kill dst) none
  | .frzr p _ _ => cnd (S.noPd && decide (dst = some p)) (S.kill dst) none
  | .thwc _ _ _ | .setc _ _ _ _ | .frzc _ _ _ _ => cnd (S.noPd && decide (dst = none)) (some S) none
  | .bslice _ _ _ ps => cnd (incrFrom 0 ps) (bnd (S.kill dst) fun T => some (addOwn dst 0 0 T)) none
  | .app .fresh size _ s _ => cnd (isNilArg s && !isLin size) (bnd (S.kill dst) fun T => some (addOwn dst 0 size (offLa T))) none
  | .app (.reg p) size _ (.r t) _ => cnd ((decide (t = p) || hasPair t p S.al) && (hasOwn p 0 size S.own && (pdFree p S.pd && !isLin size)))
      (bnd (S.kill dst) fun T => some (addOwn dst 0 size (offLa { T with own := offReg p T.own }))) none
  | .appc p size _ (.r t) _ => match dst with
    | some d => cnd (hasPair t p S.la && (S.noPd && (decide (d ≠ p) && !isLin size))) (bnd (S.kill dst) fun T => some { addOwn dst 0 size (offLa T) with pd := some (p, d) }) none
    | none => none
  | .app _ _ _ _ _ | .appc _ _ _ _ _ => none
  | .store n _ (.r t) own (some p) => match S.pd with
    | some (p', t') => cnd (decide (p' = p) && (decide (t' = t) && (decide (n = 1) && (hasOwns t S.own own && noLin own)))) (bnd (Ow.kill { S with pd := none } dst) fun T => some (offLa { T with own := offReg t T.own })) none
    | none => none
  | .store _ _ (.r t) own none => cnd (S.noPd && (hasOwns t S.own own && noLin own)) (bnd (S.kill dst) fun T => some (offLa (cnd own.isEmpty T { T with own := offReg t T.own }))) none
  | .store _ _ x own p => cnd (S.noPd && (p.isNone && (own.isEmpty || (isNilArg x && ((own.all fun y => decide (y.1 = 0)) && noLin own))))) (bnd (S.kill dst) fun T => some (offLa T)) none
  | .call _ f _ => cnd S.noPd (bnd (S.kill dst) fun T => match R f with
    | some sz => some (cnd (isLin sz) (offLa T) (addOwn dst 0 sz (offLa T)))
    | none => some (offLa T)) none
  | .callv _ _ _ => cnd S.noPd (bnd (S.kill dst) fun T => some (offLa T)) none
  | .mkmap => S.kill dst
  | .mapupd _ _ _ _ | .delete _ _ _ => cnd S.noPd (bnd (S.kill dst) fun T => some (offLa T)) none
  | .conv .bytesOfStr _ => none
  | _ => S.kill dst

def subOws : Ows → Ows → Bool
  | [], _ => true
  | (r, o, z) :: l, m => m.any (fun x => decide (x = (r, o, z))) && subOws l m
def subPairs : List (Nat × Nat) → List (Nat × Nat) → Bool
  | [], _ => true
  | p :: l, m => m.any (fun x => decide (x = p)) && subPairs l m
def Ow.sub (A B : Ow) : Bool := subOws A.own B.own && (subPairs A.al B.al && (subPairs A.la B.la && decide (A.pd = B.pd)))
def Ow.step (R : Nat → Option Nat) (S : Ow) (i : VI) : Option Ow :=
  match i.guard with
  | none => S.step1 R i.dst i.op
  | some _ => bnd (S.step1 R i.dst i.op) fun S1 => bnd (S.kill i.dst) fun S0 => bnd (S1.kill i.dst) fun S2 => cnd (S2.sub S0) (some S2) none
def Ow.steps (R : Nat → Option Nat) : List VI → Ow → Option Ow
  | [], S => some S
  | i :: is, S => bnd (S.step R i) fun T => Ow.steps R is T

structure Facts (S : Ow) (pd : Pd) (rs : Regs) (tmps : Array Value) (w : World) : Prop where
  al : ∀ t p, (t, p) ∈ S.al → tmps.getD t Go.undef = tmps.getD p Go.undef
  la : ∀ t p, (t, p) ∈ S.la → ∃ b o, tmps.getD p Go.undef = .pointer (some ⟨b, o, none⟩) ∧ w.cell? ⟨b, o, none⟩ = some (tmps.getD t Go.undef)
  pd : (S.pd = none ∧ pd = none) ∨ ∃ p d i j, S.pd = some (p, d) ∧ pd = some (i, j, d) ∧ get rs p = .ptr (some (i, j))
structure Inv {Dt : Prop} (cx : Cx Dt) (N : Nat) (hb : Heap) (S : Ow) (rs : Regs) (h : Heap) (fl : Fl) (g : Gh) (a : Act) (w : World) : Prop where
  W : MemW cx fl w
  G : MemG cx hb h fl g w
  O : ∃ pd, OwnI cx S.own pd rs h g a.tmps w ∧ Facts S pd rs a.tmps w
  F : FrI N rs g a

section
variable {Dt : Prop} {cx : Cx Dt} {pd : Pd} {rs : Regs} {h : Heap} {g : Gh} {tmps : Array Value} {w : World} {ow : Ows}

def FreshAt (h : Heap) (p : Pl) (sz : Nat) (u : Value) : Prop := (isLin sz = false ∧ ∃ ad n, u = .slice ad n n) ∨ ∃ i j, p = .cell i j ∧ u = .slice none 0 0 ∧ PlIs h i j []
theorem OwnR.nil {w : World} {imm : Imm} {sz : Nat} : OwnR w imm sz (.slice Option.none 0 0) := by
  cases hz : isLin sz
  · exact .full hz
  · exact .inl ⟨hz, Option.none, 0, 0, rfl, .inl ⟨rfl, rfl, rfl⟩⟩
theorem OwnI.map {pd' : Pd} {rs' : Regs} {h' : Heap} {g' : Gh} {tmps' : Array Value} {w' : World} {ow' : Ows} (hi : OwnI cx ow pd rs h g tmps w) (Rel : Pl → Pl → Prop) (hinj : ∀ p p' q, Rel p q → Rel p' q → p = p')
    (hheld : ∀ p sz u, Held ow' pd' h' g' tmps' w' p sz u → FreshAt h' p sz u ∨ ∃ q sz', Rel p q ∧ Held ow pd h g tmps w q sz' u ∧ (sz' = sz ∨ (sz' = 0 ∧ isLin sz = false)))
    (hold : ∀ p q b l, Rel p q → q.old cx pd b l → p.old cx pd' b l)
    (hblk : ∀ q sz u b, Held ow pd h g tmps w q sz u → (∃ p sz', Rel p q ∧ Held ow' pd' h' g' tmps' w' p sz' u ∧ isLin sz' = isLin sz) → ownBlk sz u = some b → (w'.heap[b]? = w.heap[b]? ∧ ∀ k, g.imm b k = none → g'.imm b k = none) ∧ ∀ i, LiveAt h' i → g'.mu i = some b → LiveAt h i ∧ g.mu i = some b)
    (himm : ImmLe g.imm g'.imm := by exact ImmLe.refl _) (hmem : ∀ r off z, (r, off, z) ∈ ow' → isLin z = true → ∃ r', (r', off, z) ∈ ow ∧ Rel (.reg r off) (.reg r' off) ∧ get rs' r = get rs r' ∧ tmps'.getD r Go.undef = tmps.getD r' Go.undef := by exact fun r off z hm _ => ⟨r, hm, rfl, rfl, rfl⟩)
    (hpl : ∀ i j z u q, Held ow' pd' h' g' tmps' w' (.cell i j) z u → isLin z = true → Rel (.cell i j) q → Held ow pd h g tmps w q z u → ∃ i' j', q = .cell i' j' ∧ ∀ xs, PlIs h i' j' xs → PlIs h' i j xs := by
      intro i j z u q _ _ e _
      first
      | (cases e; exact ⟨i, j, rfl, fun _ h => h⟩)
      | (obtain ⟨rfl, _⟩ := e; exact ⟨i, j, rfl, fun _ h => h⟩)) :
    OwnI cx ow' pd' rs' h' g' tmps' w' := by
  have cl : ∀ {sz sz' : Nat}, (sz' = sz ∨ (sz' = 0 ∧ isLin sz = false)) → isLin sz' = isLin sz := fun hs => by
    rcases hs with rfl | ⟨rfl, h⟩
    · rfl
    · rw [h]; rfl
  have cg : ∀ {sz sz' : Nat} (x : Value), (sz' = sz ∨ (sz' = 0 ∧ isLin sz = false)) → ownBlk sz' x = ownBlk sz x := fun x hs => ownBlk_congr (cl hs) x
  refine ⟨fun p sz x hp => ?_, fun p sz x b hp hb => ?_, fun p q sz sz' x x' b hp hq hb hb' => ?_, fun r off z hm hz => ?_, fun i j z x hp hz => ?_⟩
  · rcases hheld p sz x hp with (⟨hz, ad, n, rfl⟩ | ⟨i, j, rfl, rfl, hx⟩) | ⟨q, sz', hR, hq, hs⟩
    · exact .full hz
    · exact .nil
    · have h1 := (hi.own q sz' x hq).move (fun b hb => (hblk q sz' x b hq ⟨p, sz, hR, hp, (cl hs).symm⟩ hb).1)
      rcases hs with rfl | ⟨rfl, hz⟩
      · exact h1
      · exact (h1.zero hz).1
  · rcases hheld p sz x hp with (⟨hz, ad, n, rfl⟩ | ⟨i, j, rfl, rfl, hx⟩) | ⟨q, sz', hR, hq, hs⟩
    · rw [ownBlk_full hz] at hb; cases hb
    · cases hb
    · rw [← cg x hs] at hb
      obtain ⟨h1, h2, h3⟩ := hi.blk q sz' x b hq hb
      obtain ⟨_, h4⟩ := hblk q sz' x b hq ⟨p, sz, hR, hp, (cl hs).symm⟩ hb
      exact ⟨h1, fun i hl hm => h2 i (h4 i hl hm).1 (h4 i hl hm).2, fun hn => (cl hs) ▸ hold p q b _ hR (h3 hn)⟩
  · rcases hheld p sz x hp with (⟨hz, ad, n, rfl⟩ | ⟨i, j, rfl, rfl, hx⟩) | ⟨p0, s0, hR0, hp0, hs0⟩
    · rw [ownBlk_full hz] at hb; cases hb
    · cases hb
    · rcases hheld q sz' x' hq with (⟨hz, ad, n, rfl⟩ | ⟨i, j, rfl, rfl, hx⟩) | ⟨q0, s1, hR1, hq0, hs1⟩
      · rw [ownBlk_full hz] at hb'; cases hb'
      · cases hb'
      · rw [← cg x hs0] at hb
        rw [← cg x' hs1] at hb'
        have := hi.dis p0 q0 s0 s1 x x' b hp0 hq0 hb hb'
        subst this
        exact hinj p q p0 hR0 hR1
  · obtain ⟨r', hm', hR, hr, ht⟩ := hmem r off z hm hz
    obtain ⟨h0, xs, h1, h2⟩ := hi.cont r' off z hm' hz
    refine ⟨h0, xs, hr.trans h1, ?_⟩
    rw [ht]
    refine h2.move hz himm fun b hb => ?_
    have hc : (tmps.getD r' Go.undef).cells[off]? = some (tmps.getD r' Go.undef) := by rw [h2.cells, h0]; rfl
    exact (hblk (.reg r' off) z _ b ⟨hm', hc⟩ ⟨.reg r off, z, hR, ⟨hm, by rw [ht]; exact hc⟩, rfl⟩ hb).1.1
  · rcases hheld _ z x hp with (⟨hz', _⟩ | ⟨i', j', e, rfl, hx⟩) | ⟨q, sz', hR, hq, hs⟩
    · rw [hz'] at hz; cases hz
    · cases e
      exact ⟨[], hx, by simp, .inl ⟨rfl, rfl⟩⟩
    · have : sz' = z := by
        rcases hs with hs | ⟨_, hs⟩
        · exact hs
        · rw [hs] at hz; cases hz
      subst this
      obtain ⟨i', j', rfl, hxs⟩ := hpl i j sz' x q hp hz hR hq
      obtain ⟨xs, h1, h2⟩ := hi.contc i' j' sz' x hq hz
      exact ⟨xs, hxs xs h1, h2.move hz himm fun b hb => (hblk _ sz' x b hq ⟨.cell i j, sz', hR, hp, rfl⟩ hb).1.1⟩

theorem OwnI.less (hi : OwnI cx ow pd rs h g tmps w) {ow' : Ows} (hs : ∀ x, x ∈ ow' → x ∈ ow) : OwnI cx ow' pd rs h g tmps w :=
  hi.map (fun p q => p = q) (fun _ _ _ e1 e2 => e1.trans e2.symm) (fun p sz u hp => .inr ⟨p, sz, rfl, by
    cases p with
    | reg r off => exact ⟨hs _ hp.1, hp.2⟩
    | cell i j => exact hp, .inl rfl⟩) (fun p q b l e hn => e ▸ hn) (fun _ _ _ _ _ _ _ => ⟨⟨rfl, fun _ h => h⟩, fun _ h1 h2 => ⟨h1, h2⟩⟩) (ImmLe.refl _) (fun r off z hm _ => ⟨r, hs _ hm, rfl, rfl, rfl⟩)

theorem mem_offReg {r : Nat} {l : Ows} {x : Nat × Nat × Nat} : x ∈ offReg r l ↔ x ∈ l ∧ x.1 ≠ r := by simp [offReg]
theorem mem_offPair {r : Nat} {l : List (Nat × Nat)} {x : Nat × Nat} : x ∈ offPair r l ↔ x ∈ l ∧ x.1 ≠ r ∧ x.2 ≠ r := by simp [offPair]
theorem hasOwn_mem {r off sz : Nat} : ∀ {l : Ows}, hasOwn r off sz l = true → ∃ z, (r, off, z) ∈ l ∧ (z = sz ∨ (z = 0 ∧ isLin sz = false))
  | [], h => by cases h
  | (q, o, z) :: l, h => by
    simp only [hasOwn, Bool.or_eq_true, Bool.and_eq_true, decide_eq_true_eq, Bool.not_eq_true'] at h
    rcases h with ⟨⟨rfl, rfl⟩, h⟩ | h
    · exact ⟨z, by simp, h⟩
    · obtain ⟨z', h1, h2⟩ := hasOwn_mem h
      exact ⟨z', by simp [h1], h2⟩
theorem noLin_mem {own : List (Nat × Nat)} (h : noLin own = true) {j sz : Nat} (hm : (j, sz) ∈ own) : isLin sz = false := by
  have := (List.all_eq_true.1 h) _ hm
  simpa using this
theorem hasPair_mem {t p : Nat} : ∀ {l : List (Nat × Nat)}, hasPair t p l = true → (t, p) ∈ l
  | [], h => by cases h
  | (x, y) :: l, h => by
    simp only [hasPair, Bool.or_eq_true, Bool.and_eq_true, decide_eq_true_eq] at h
    rcases h with ⟨rfl, rfl⟩ | h
    · simp
    · simp [hasPair_mem h]
theorem hasOwns_mem {t : Nat} {own : Ows} : ∀ {l : List (Nat × Nat)}, hasOwns t own l = true → ∀ x ∈ l, ∃ z, (t, x.1, z) ∈ own ∧ (z = x.2 ∨ (z = 0 ∧ isLin x.2 = false))
  | [], _, x, hx => by simp at hx
  | (off, sz) :: l, h, x, hx => by
    simp only [hasOwns, Bool.and_eq_true] at h
    rcases List.mem_cons.1 hx with rfl | hx
    · exact hasOwn_mem h.1
    · exact hasOwns_mem h.2 x hx

theorem OwnI.add (hi : OwnI cx ow pd rs h g tmps w) {r off sz : Nat} (hlin : isLin sz = true → off = 0 ∧ ∃ xs, get rs r = .lst xs ∧ LinC g.imm w (sz - 1000000) xs (tmps.getD r Go.undef)) (hu : ∀ u, (tmps.getD r Go.undef).cells[off]? = some u → OwnR w g.imm sz u ∧ ∀ b, ownBlk sz u = some b → cx.may b ∧ (∀ i, LiveAt h i → g.mu i ≠ some b) ∧ (b < cx.w0.heap.size → (Pl.reg r off).old cx pd b (isLin sz)) ∧
      ∀ p sz' u', Held ow pd h g tmps w p sz' u' → ownBlk sz' u' = some b → p = .reg r off) : OwnI cx ((r, off, sz) :: ow) pd rs h g tmps w := by
  have split : ∀ p z x, Held ((r, off, sz) :: ow) pd h g tmps w p z x → Held ow pd h g tmps w p z x ∨ (p = .reg r off ∧ z = sz ∧ (tmps.getD r Go.undef).cells[off]? = some x) := by
    intro p z x hp
    cases p with
    | reg q o =>
      obtain ⟨hm, hx⟩ := hp
      rcases List.mem_cons.1 hm with e | hm
      · cases e; exact .inr ⟨rfl, rfl, hx⟩
      · exact .inl ⟨hm, hx⟩
    | cell i j => exact .inl hp
  refine ⟨fun p z x hp => ?_, fun p z x b hp hb => ?_, fun p q z z' x x' b hp hq hb hb' => ?_, fun q o z hm hz => ?_, fun i j z x hp hz => ?_⟩
  · rcases split p z x hp with hp | ⟨rfl, rfl, hx⟩
    · exact hi.own p z x hp
    · exact (hu x hx).1
  · rcases split p z x hp with hp | ⟨rfl, rfl, hx⟩
    · exact hi.blk p z x b hp hb
    · obtain ⟨h1, h2, h3, _⟩ := (hu x hx).2 b hb
      exact ⟨h1, h2, h3⟩
  · rcases split p z x hp with hp1 | ⟨e1, e2, hx⟩ <;> rcases split q z' x' hq with hq1 | ⟨e3, e4, hx'⟩
    · exact hi.dis p q z z' x x' b hp1 hq1 hb hb'
    · exact (((hu x' hx').2 b (e4 ▸ hb')).2.2.2 p z x hp1 hb).trans e3.symm
    · exact ((((hu x hx).2 b (e2 ▸ hb)).2.2.2 q z' x' hq1 hb').trans e1.symm).symm
    · exact e1.trans e3.symm
  · rcases List.mem_cons.1 hm with e | hm
    · cases e; exact hlin hz
    · exact hi.cont q o z hm hz
  · exact hi.contc i j z x hp hz
theorem OwnI.addFull (hi : OwnI cx ow pd rs h g tmps w) {r off sz : Nat} (hz : isLin sz = false) (hu : ∀ u, (tmps.getD r Go.undef).cells[off]? = some u → ∃ ad n, u = .slice ad n n) : OwnI cx ((r, off, sz) :: ow) pd rs h g tmps w :=
  hi.add (fun h => by rw [hz] at h; cases h) fun u hu' => by
    obtain ⟨ad, n, rfl⟩ := hu u hu'
    exact ⟨.full hz, fun b hb => by rw [ownBlk_full hz] at hb; cases hb⟩

theorem OwnI.moved (hi : OwnI cx ow pd rs h g tmps w) {p d : Nat} (hne : d ≠ p) (hv : tmps.getD d Go.undef = tmps.getD p Go.undef) (hvr : get rs d = get rs p) (hd : ∀ x, x ∈ ow → x.1 ≠ d) (hp : ∀ i j, pd ≠ some (i, j, p)) : OwnI cx (moved p d ow) pd rs h g tmps w := by
  refine hi.map (fun x y => (x = y ∧ (∀ off, y ≠ .reg p off)) ∨ ∃ off, x = .reg d off ∧ y = .reg p off) (fun x x' y h1 h2 => ?_) (fun x sz u hx => .inr ?_) (fun x y b l hR hn => ?_) (fun _ _ _ _ _ _ _ => ⟨⟨rfl, fun _ h => h⟩, fun _ h1 h2 => ⟨h1, h2⟩⟩) (ImmLe.refl _) (fun r off z hm _ => ?_) (fun i j z u q _ _ e _ => ?_)
  · rcases h1 with ⟨rfl, h1⟩ | ⟨o, rfl, rfl⟩ <;> rcases h2 with ⟨rfl, h2⟩ | ⟨o', rfl, e⟩
    · rfl
    · exact absurd e (h1 _)
    · exact absurd rfl (h2 o)
    · cases e; rfl
  · cases x with
    | cell i j => exact ⟨.cell i j, sz, .inl ⟨rfl, fun off e => by cases e⟩, hx, .inl rfl⟩
    | reg r off =>
      obtain ⟨hm, hx⟩ := hx
      simp only [Vm.moved, List.mem_append, mem_offReg, List.mem_map, List.mem_filter, decide_eq_true_eq] at hm
      rcases hm with ⟨hm, hr⟩ | ⟨⟨q, o, z⟩, ⟨hm, rfl⟩, e⟩
      · exact ⟨.reg r off, sz, .inl ⟨rfl, fun o e => by cases e; exact hr rfl⟩, ⟨hm, hx⟩, .inl rfl⟩
      · cases e
        exact ⟨.reg q off, sz, .inr ⟨off, rfl, rfl⟩, ⟨hm, hv ▸ hx⟩, .inl rfl⟩
  · rcases hR with ⟨rfl, _⟩ | ⟨off, rfl, rfl⟩
    · exact hn
    · obtain ⟨i, j, e, _⟩ := hn
      exact absurd e (hp i j)
  · simp only [Vm.moved, List.mem_append, mem_offReg, List.mem_map, List.mem_filter, decide_eq_true_eq] at hm
    rcases hm with ⟨hm, hr⟩ | ⟨⟨q, o, z⟩, ⟨hm, rfl⟩, e⟩
    · exact ⟨r, hm, .inl ⟨rfl, fun o e => by cases e; exact hr rfl⟩, rfl, rfl⟩
    · cases e
      exact ⟨q, hm, .inr ⟨off, rfl, rfl⟩, hvr, hv⟩
  · rcases e with ⟨rfl, _⟩ | ⟨off, e, _⟩
    · exact ⟨i, j, rfl, fun _ h => h⟩
    · cases e

theorem OwnI.put {a : Act} (hi : OwnI cx ow pd rs h g a.tmps w) {d : Nat} (hd : d < a.tmps.size) {u : Value} {v : V} (ho : ∀ x, x ∈ ow → x.1 ≠ d) : OwnI cx ow pd (putR (some d) v rs) h g (a.put (some d) u).tmps w := by
  refine hi.map (fun p q => p = q ∧ ∀ off, q ≠ .reg d off) (fun _ _ _ e1 e2 => e1.1.trans e2.1.symm) (fun p sz x hp => .inr ⟨p, sz, ⟨rfl, fun off e => ?_⟩, ?_, .inl rfl⟩) (fun p q b l e hn => e.1 ▸ hn) (fun _ _ _ _ _ _ _ => ⟨⟨rfl, fun _ h => h⟩, fun _ h1 h2 => ⟨h1, h2⟩⟩) (ImmLe.refl _) (fun r off z hm _ => ?_)
  · subst e; exact ho _ hp.1 rfl
  · cases p with
    | cell i j => exact hp
    | reg r off =>
      obtain ⟨hm, hx⟩ := hp
      rw [getD_put hd, if_neg (ho _ hm)] at hx
      exact ⟨hm, hx⟩
  · have : r ≠ d := ho _ hm
    refine ⟨r, hm, ⟨rfl, fun o e => by cases e; exact this rfl⟩, ?_, ?_⟩
    · simp only [putR, get, this, decide_false, cnd_false]
    · rw [getD_put hd, if_neg this]
end

section
variable {Dt : Prop} {cx : Cx Dt} {N : Nat} {hb0 : Heap} {S : Ow} {rs : Regs} {h : Heap} {fl : Fl} {g : Gh} {a : Act} {w : World}

theorem pdFree_spec {r : Nat} {o : Option (Nat × Nat)} (h : pdFree r o = true) {p q : Nat} (ho : o = some (p, q)) : p ≠ r ∧ q ≠ r := by
  subst ho
  simpa [pdFree] using h
theorem kill_none {T : Ow} (h : S.kill none = some T) : T = S := by cases h; rfl
theorem kill_some {d : Nat} {T : Ow} (h : S.kill (some d) = some T) : pdFree d S.pd = true ∧ T = ⟨offReg d S.own, offPair d S.al, offPair d S.la, S.pd⟩ := by
  simp only [Ow.kill] at h
  cases hp : pdFree d S.pd <;> rw [hp] at h
  · cases h
  · cases h; exact ⟨rfl, rfl⟩

theorem Facts.put {pd : Pd} (hf : Facts S pd rs a.tmps w) {d : Nat} (hd : d < a.tmps.size) {u : Value} {v : V} (hp : pdFree d S.pd = true) :
    Facts ⟨offReg d S.own, offPair d S.al, offPair d S.la, S.pd⟩ pd (putR (some d) v rs) (a.put (some d) u).tmps w := by
  refine ⟨fun t p hm => ?_, fun t p hm => ?_, ?_⟩
  · obtain ⟨hm, h1, h2⟩ := mem_offPair.1 hm
    rw [getD_put hd, getD_put hd, if_neg h1, if_neg h2]
    exact hf.al t p hm
  · obtain ⟨hm, h1, h2⟩ := mem_offPair.1 hm
    rw [getD_put hd, getD_put hd, if_neg h1, if_neg h2]
    exact hf.la t p hm
  · rcases hf.pd with h1 | ⟨p, q, i, j, h1, h2, h3⟩
    · exact .inl h1
    · refine .inr ⟨p, q, i, j, h1, h2, ?_⟩
      have := (pdFree_spec hp h1).1
      simp only [putR, get, this, decide_false, cnd_false]
      exact h3

theorem Inv.put (hi : Inv cx N hb0 S rs h fl g a w) {dst : Option Nat} (hd : ∀ x, dst = some x → x < N) {T : Ow} (hk : S.kill dst = some T) {u : Value} {v : V} (hu : VR g u v) : Inv cx N hb0 T (putR dst v rs) h fl g (a.put dst u) w := by
  obtain ⟨pd, hO, hf⟩ := hi.O
  refine ⟨hi.W, hi.G, ?_, hi.F.put hd hu⟩
  cases dst with
  | none =>
    cases kill_none hk
    exact ⟨pd, hO, hf⟩
  | some d =>
    obtain ⟨hp, rfl⟩ := kill_some hk
    have hlt : d < a.tmps.size := by rw [hi.F.size]; exact hd d rfl
    exact ⟨pd, (hO.less fun x hx => (mem_offReg.1 hx).1).put hlt (fun x hx => (mem_offReg.1 hx).2), hf.put hlt hp⟩
theorem subOws_mem : ∀ {A B : Ows}, subOws A B = true → ∀ x ∈ A, x ∈ B
  | [], _, _, x, hx => by simp at hx
  | (r, o, z) :: l, m, h, x, hx => by
    simp only [subOws, Bool.and_eq_true, List.any_eq_true, decide_eq_true_eq] at h
    rcases List.mem_cons.1 hx with rfl | hx
    · obtain ⟨y, hy, rfl⟩ := h.1; exact hy
    · exact subOws_mem h.2 x hx
theorem subPairs_mem : ∀ {A B : List (Nat × Nat)}, subPairs A B = true → ∀ x ∈ A, x ∈ B
  | [], _, _, x, hx => by simp at hx
  | p :: l, m, h, x, hx => by
    simp only [subPairs, Bool.and_eq_true, List.any_eq_true, decide_eq_true_eq] at h
    rcases List.mem_cons.1 hx with rfl | hx
    · obtain ⟨y, hy, rfl⟩ := h.1; exact hy
    · exact subPairs_mem h.2 x hx
theorem Inv.weaken (hi : Inv cx N hb0 S rs h fl g a w) {T : Ow} (h1 : ∀ x, x ∈ T.own → x ∈ S.own) (h2 : ∀ x, x ∈ T.al → x ∈ S.al) (h3 : ∀ x, x ∈ T.la → x ∈ S.la) (h4 : T.pd = S.pd) : Inv cx N hb0 T rs h fl g a w := by
  obtain ⟨pd, hO, hf⟩ := hi.O
  exact ⟨hi.W, hi.G, ⟨pd, hO.less h1, ⟨fun t p hm => hf.al t p (h2 _ hm), fun t p hm => hf.la t p (h3 _ hm), h4 ▸ hf.pd⟩⟩, hi.F⟩
theorem Inv.sub (hi : Inv cx N hb0 S rs h fl g a w) {T : Ow} (hs : T.sub S = true) : Inv cx N hb0 T rs h fl g a w := by
  simp only [Ow.sub, Bool.and_eq_true, decide_eq_true_eq] at hs
  exact hi.weaken (subOws_mem hs.1) (subPairs_mem hs.2.1) (subPairs_mem hs.2.2.1) hs.2.2.2
theorem Inv.addFull (hi : Inv cx N hb0 S rs h fl g a w) {dst : Option Nat} {off sz : Nat} (hz : isLin sz = false) (hu : ∀ d, dst = some d → ∀ u, (a.tmps.getD d Go.undef).cells[off]? = some u → ∃ ad n, u = .slice ad n n) : Inv cx N hb0 (addOwn dst off sz S) rs h fl g a w := by
  cases dst with
  | none => exact hi
  | some d =>
    obtain ⟨pd, hO, hf⟩ := hi.O
    exact ⟨hi.W, hi.G, ⟨pd, hO.addFull hz (hu d rfl), ⟨hf.al, hf.la, hf.pd⟩⟩, hi.F⟩
theorem Inv.noLa (hi : Inv cx N hb0 S rs h fl g a w) : Inv cx N hb0 (offLa S) rs h fl g a w := hi.weaken (fun _ h => h) (fun _ h => h) (fun _ h => by simp [offLa] at h) rfl
theorem put_get {d : Nat} (hd : d < a.tmps.size) (u : Value) : (a.put (some d) u).tmps.getD d Go.undef = u := by rw [getD_put hd, if_pos rfl]
end
end Go.Vm

/- Which of the model's operations stands behind one of the V-machine's. -/
set_option linter.unusedVariables false
set_option linter.unusedSimpArgs false
namespace Go.Vm
attribute [local simp] evalOps_nil evalOps_cons evalOps_consg evalOp_mv evalOp_asg evalOp_pick evalOp_build evalOp_bslice evalOp_load evalOp_nilck evalOp_bin evalOp_un evalOp_conv evalOp_mkfn evalOp_slice evalOp_faddr evalOp_field evalOp_iaddr evalOp_index evalOp_lookup evalOp_extract evalOp_app evalOp_len evalOp_mn evalOp_mx evalOp_alloc evalOp_box evalOp_mkmap evalOp_store evalOp_mapupd evalOp_delete evalOp_sliceArr evalOp_call evalOp_callv evalOp_appc code_skip code_ops code_dops code_seq code_cond code_block code_exit code_ret finish_normal finish_ret
attribute [local simp] V.lt V.ltL V.flat V.pureCell V.pure V.isCell cellEq cellsEq eqV intV shV strV isShift binV unV byteV convV minV maxV foldV foldV1 fillV fillE findV putV delV isKey natOf natOr cut cellsAt mapAt mapOf loadV pickV nilckV sizeOk allSize sliceV faddrV fieldV iaddrV indexV found extractV allPure appV lenV ownHas ownOk storeC storeV samePtr appcV boxable mapupdV deleteV sliceArrV callV allLt clean bodyEnd resV one finishV runV initR
section
variable {P : Program} {op : Op} {ty : TypeId} {gd : VOp}
theorem cnd_eq_some {α : Type} {b : Bool} {x : Option α} {y : α} (h : cnd b x none = some y) : b = true ∧ x = some y := by
  cases b
  · cases h
  · exact ⟨rfl, h⟩

def opKind : Op → Nat
  | .move _ => 0
  | .assign _ => 0
  | .load _ _ => 2
  | .alloc _ => 3
  | .box _ _ => 4
  | .buildSlice _ _ _ => 5
  | .convert _ _ _ => 6
  | .store _ _ _ => 7
  | .makeMap _ _ => 8
  | .slice _ _ _ _ _ => 9
  | .mapUpdate _ _ _ _ => 10
  | .insert _ _ _ _ => 10
  | .call c =>
    match c.callee with
    | .value (.func _) => 21
    | .value _ => 22
    | .invoke _ _ => 23
    | .builtin .append => 24
    | .builtin .delete => 25
    | .builtin _ => 26
  | _ => 12
def vopKind : VOp → Nat
  | .mv _ => 0
  | .asg _ => 0
  | .load _ _ _ => 2
  | .alloc _ _ => 3
  | .box _ _ => 4
  | .bslice _ _ _ _ => 5
  | .conv _ _ => 6
  | .store _ _ _ _ _ => 7
  | .mkmap => 8
  | .slice _ _ _ _ _ _ => 9
  | .sliceArr _ _ _ => 9
  | .mapupd _ _ _ _ => 10
  | .call _ _ _ => 21
  | .callv _ _ _ => 22
  | .app _ _ _ _ _ => 24
  | .appc _ _ _ _ _ => 24
  | .delete _ _ _ => 25
  | .len _ _ => 26
  | .mn _ => 26
  | .mx _ => 26
  | .newl _ | .appl _ _ _ _ _ | .lenl _ _ | .slf _ _ _ _ _ | .calll _ _ _ _ _ _ | .bld _ _ _ | .boxo _ _ _ | .bstr _ | .isnil _ | .mvn | .bsll _ _ _ _ | .appm _ _ _ _ | .thwr _ _ | .thwc _ _ _ | .setc _ _ _ _ | .frzr _ _ _ | .frzc _ _ _ _ | .frzl _ _ | .mrk _ _ | .clr _ _ | .mkm _ _ _ | .bad => 99
  | _ => 12
theorem trOp_kind {v : VOp} (h : trOp P op ty gd = some v) : opKind op = vopKind v := by
  cases op <;> simp only [trOp, reduceCtorEq] at h
  case move x => obtain ⟨_, _, h⟩ := bnd_eq_some h; cases h; rfl
  case assign x => split at h <;> (obtain ⟨_, _, h⟩ := bnd_eq_some h; cases h; rfl)
  case pick c x y => obtain ⟨_, _, h⟩ := bnd_eq_some h; obtain ⟨_, _, h⟩ := bnd_eq_some h; obtain ⟨_, _, h⟩ := bnd_eq_some h; cases h; rfl
  case alloc e => split at h <;> (try cases h; done); obtain ⟨_, _, h⟩ := bnd_eq_some h; obtain ⟨_, _, h⟩ := bnd_eq_some h; cases h; rfl
  case box e x => obtain ⟨_, _, h⟩ := bnd_eq_some h; obtain ⟨_, _, h⟩ := bnd_eq_some h; cases h; rfl
  case build t parts =>
    obtain ⟨_, _, h⟩ := bnd_eq_some h; obtain ⟨_, _, h⟩ := bnd_eq_some h
    split at h
    · obtain ⟨_, _, h⟩ := bnd_eq_some h; obtain ⟨_, _, h⟩ := bnd_eq_some h; cases h; rfl
    · obtain ⟨_, _, h⟩ := bnd_eq_some h; obtain ⟨_, _, h⟩ := bnd_eq_some h; cases h; rfl
    · cases h
  case buildSlice t n parts =>
    obtain ⟨_, _, h⟩ := bnd_eq_some h; obtain ⟨_, _, h⟩ := bnd_eq_some h; obtain ⟨_, _, h⟩ := bnd_eq_some h; obtain ⟨_, _, h⟩ := bnd_eq_some h; obtain ⟨_, _, h⟩ := bnd_eq_some h
    split at h <;> cases h
    rfl
  case load t x =>
    obtain ⟨_, _, h⟩ := bnd_eq_some h; obtain ⟨_, _, h⟩ := bnd_eq_some h; obtain ⟨_, _, h⟩ := bnd_eq_some h
    split at h <;> cases h
    rfl
  case store t x y => split at h <;> (try cases h; done); obtain ⟨_, _, h⟩ := bnd_eq_some h; obtain ⟨_, _, h⟩ := bnd_eq_some h; obtain ⟨_, _, h⟩ := bnd_eq_some h; cases h; rfl
  case nilCheck x => obtain ⟨_, _, h⟩ := bnd_eq_some h; cases h; rfl
  case binOp o t x y yt => obtain ⟨_, _, h⟩ := bnd_eq_some h; obtain ⟨_, _, h⟩ := bnd_eq_some h; cases h; rfl
  case unOp o t x => obtain ⟨_, _, h⟩ := bnd_eq_some h; cases h; rfl
  case convert s d x =>
    obtain ⟨_, _, h⟩ := bnd_eq_some h
    split at h
    · cases h; rfl
    · cases h; rfl
    · obtain ⟨_, h⟩ := cnd_eq_some h; cases h; rfl
    · obtain ⟨_, h⟩ := cnd_eq_some h; cases h; rfl
    · cases h
  case makeFunc f first caps =>
    split at h
    · obtain ⟨_, _, h⟩ := bnd_eq_some h; obtain ⟨_, _, h⟩ := bnd_eq_some h; cases h; rfl
    · cases h
  case makeMap t r => split at h <;> cases h; rfl
  case slice t x lo hi mx =>
    obtain ⟨_, _, h⟩ := bnd_eq_some h; obtain ⟨_, _, h⟩ := bnd_eq_some h; obtain ⟨_, _, h⟩ := bnd_eq_some h; obtain ⟨_, _, h⟩ := bnd_eq_some h
    split at h
    · cases h; rfl
    · obtain ⟨_, _, h⟩ := bnd_eq_some h; cases h; rfl
    · split at h
      · obtain ⟨_, _, h⟩ := bnd_eq_some h; cases h; rfl
      · cases h
    · cases h
  case fieldAddr t x f =>
    obtain ⟨_, _, h⟩ := bnd_eq_some h; obtain ⟨_, _, h⟩ := bnd_eq_some h; obtain ⟨_, _, h⟩ := bnd_eq_some h
    split at h <;> cases h
    rfl
  case field t x f =>
    obtain ⟨_, _, h⟩ := bnd_eq_some h; obtain ⟨_, _, h⟩ := bnd_eq_some h; obtain ⟨_, _, h⟩ := bnd_eq_some h; obtain ⟨_, _, h⟩ := bnd_eq_some h
    split at h <;> cases h
    rfl
  case indexAddr t x i =>
    obtain ⟨_, _, h⟩ := bnd_eq_some h; obtain ⟨_, _, h⟩ := bnd_eq_some h
    split at h
    · obtain ⟨_, _, h⟩ := bnd_eq_some h; cases h; rfl
    · obtain ⟨_, _, h⟩ := bnd_eq_some h; cases h; rfl
    · cases h
  case index t x i =>
    obtain ⟨_, _, h⟩ := bnd_eq_some h; obtain ⟨_, _, h⟩ := bnd_eq_some h
    split at h
    · cases h; rfl
    · obtain ⟨_, _, h⟩ := bnd_eq_some h; obtain ⟨_, _, h⟩ := bnd_eq_some h
      split at h <;> cases h
      rfl
    · cases h
  case lookup t x i ok =>
    obtain ⟨_, _, h⟩ := bnd_eq_some h; obtain ⟨_, _, h⟩ := bnd_eq_some h
    split at h
    · obtain ⟨_, _, h⟩ := bnd_eq_some h; obtain ⟨_, _, h⟩ := bnd_eq_some h; obtain ⟨_, _, h⟩ := bnd_eq_some h; cases h; rfl
    · cases h
  case mapUpdate t m k x =>
    split at h
    · obtain ⟨_, _, h⟩ := bnd_eq_some h; obtain ⟨_, _, h⟩ := bnd_eq_some h; obtain ⟨_, _, h⟩ := bnd_eq_some h; obtain ⟨_, _, h⟩ := bnd_eq_some h; cases h; rfl
    · cases h
  case insert t m k x =>
    split at h
    · obtain ⟨_, _, h⟩ := bnd_eq_some h; obtain ⟨_, _, h⟩ := bnd_eq_some h; obtain ⟨_, _, h⟩ := bnd_eq_some h; obtain ⟨_, _, h⟩ := bnd_eq_some h; cases h; rfl
    · cases h
  case extract x i => obtain ⟨_, _, h⟩ := bnd_eq_some h; cases h; rfl
  case call c =>
    obtain ⟨callee, args, argTypes⟩ := c
    cases callee with
    | value f =>
      cases f <;> simp only at h <;> split at h <;> (try cases h; done) <;> first
        | (obtain ⟨_, _, h⟩ := bnd_eq_some h; cases h; rfl)
        | (obtain ⟨_, _, h⟩ := bnd_eq_some h; obtain ⟨_, _, h⟩ := bnd_eq_some h; cases h; rfl)
    | invoke r m => simp only [reduceCtorEq] at h
    | builtin b =>
      cases b <;> simp only [reduceCtorEq] at h
      case append =>
        split at h <;> (try cases h; done)
        obtain ⟨_, _, h⟩ := bnd_eq_some h; obtain ⟨_, _, h⟩ := bnd_eq_some h; obtain ⟨_, _, h⟩ := bnd_eq_some h; obtain ⟨_, _, h⟩ := bnd_eq_some h
        split at h <;> (try cases h; done)
        split at h <;> (try cases h; done)
        split at h <;> cases h <;> rfl
      case delete =>
        split at h <;> (try cases h; done)
        split at h <;> (try cases h; done)
        obtain ⟨_, _, h⟩ := bnd_eq_some h; obtain ⟨_, _, h⟩ := bnd_eq_some h; obtain ⟨_, _, h⟩ := bnd_eq_some h
        cases h; rfl
      case len =>
        split at h <;> (try cases h; done)
        obtain ⟨_, _, h⟩ := bnd_eq_some h
        split at h
        · cases h; rfl
        · cases h; rfl
        · cases h; rfl
        · cases h; rfl
        · obtain ⟨_, _, h⟩ := bnd_eq_some h; cases h; rfl
        · cases h
      case min => obtain ⟨_, _, h⟩ := bnd_eq_some h; cases h; rfl
      case max => obtain ⟨_, _, h⟩ := bnd_eq_some h; cases h; rfl
theorem kind_call {c : Call} {n : Nat} (h : opKind (.call c) = n) : 21 ≤ n := by
  subst h
  simp only [opKind]
  split <;> omega

theorem trOp_mv {x : Arg} (h : trOp P op ty gd = some (.mv x)) : ∃ y, (op = .move y ∨ op = .assign y) ∧ trArg y = some x := by
  have k := trOp_kind h
  cases op <;> (try (exact absurd (kind_call k) (by simp [vopKind]); done)) <;> (try (simp [opKind, vopKind] at k; done))
  · rename_i y
    simp only [trOp] at h
    obtain ⟨x', hx, h⟩ := bnd_eq_some h; cases h; exact ⟨y, .inl rfl, hx⟩
  · rename_i y
    simp only [trOp] at h
    split at h
    · obtain ⟨x', hx, h⟩ := bnd_eq_some h; cases h; exact ⟨y, .inr rfl, hx⟩
    · obtain ⟨x', hx, h⟩ := bnd_eq_some h; cases h
theorem trOp_asg {x : Arg} (h : trOp P op ty gd = some (.asg x)) : ∃ y, op = .assign y ∧ trArg y = some x := by
  have k := trOp_kind h
  cases op <;> (try (exact absurd (kind_call k) (by simp [vopKind]); done)) <;> (try (simp [opKind, vopKind] at k; done))
  · rename_i y
    simp only [trOp] at h
    obtain ⟨x', hx, h⟩ := bnd_eq_some h; cases h
  · rename_i y
    simp only [trOp] at h
    split at h
    · obtain ⟨x', hx, h⟩ := bnd_eq_some h; cases h
    · obtain ⟨x', hx, h⟩ := bnd_eq_some h; cases h; exact ⟨y, rfl, hx⟩
theorem trOp_load {b : Bool} {n : Nat} {x : Arg} (h : trOp P op ty gd = some (.load b n x)) : ∃ t y, op = .load t y ∧ aggT P t = some b ∧ sizeT P t = some n ∧ trArg y = some x ∧ (b = true ∨ n = 1) := by
  have k := trOp_kind h
  cases op <;> (try (exact absurd (kind_call k) (by simp [vopKind]); done)) <;> (try (simp [opKind, vopKind] at k; done))
  rename_i t y
  simp only [trOp] at h
  obtain ⟨b', hb, h⟩ := bnd_eq_some h; obtain ⟨n', hn, h⟩ := bnd_eq_some h; obtain ⟨x', hx, h⟩ := bnd_eq_some h
  split at h
  · rename_i hc; cases h; exact ⟨t, y, rfl, hb, hn, hx, hc⟩
  · cases h
theorem trOp_alloc {cs : List V} {own : List (Nat × Nat)} (h : trOp P op ty gd = some (.alloc cs own)) : ∃ e z cs0 gs, op = .alloc e ∧ zeroT P e = some z ∧ trVals z.cells.toList = some cs0 ∧ cs = fixN cs0 gs := by
  have k := trOp_kind h
  cases op <;> (try (exact absurd (kind_call k) (by simp [vopKind]); done)) <;> (try (simp [opKind, vopKind] at k; done))
  rename_i e
  simp only [trOp] at h
  split at h
  · obtain ⟨z, hz, h⟩ := bnd_eq_some h; obtain ⟨cs', hc, h⟩ := bnd_eq_some h
    cases h; exact ⟨e, z, _, _, rfl, hz, hc, rfl⟩
  · cases h
theorem trOp_box {n : Nat} {x : Arg} (h : trOp P op ty gd = some (.box n x)) : ∃ e y, op = .box e y ∧ sizeT P e = some n ∧ trArg y = some x := by
  have k := trOp_kind h
  cases op <;> (try (exact absurd (kind_call k) (by simp [vopKind]); done)) <;> (try (simp [opKind, vopKind] at k; done))
  rename_i e y
  simp only [trOp] at h
  obtain ⟨n', hn, h⟩ := bnd_eq_some h; obtain ⟨x', hx, h⟩ := bnd_eq_some h
  cases h; exact ⟨e, y, rfl, hn, hx⟩
theorem trOp_bslice {z : V} {k n : Nat} {ps : List (Nat × Arg)} (h : trOp P op ty gd = some (.bslice z k n ps)) :
    ∃ t parts e zv, op = .buildSlice t n parts ∧ sliceT P t = some e ∧ zeroT P e = some zv ∧ trConst zv = some z ∧ sizeT P e = some k ∧ partsE parts.toList = some ps ∧ 0 < k ∧ n * k ≤ 65536 ∧ zv.cells.size = k := by
  have k := trOp_kind h
  cases op <;> (try (exact absurd (kind_call k) (by simp [vopKind]); done)) <;> (try (simp [opKind, vopKind] at k; done))
  rename_i t m parts
  simp only [trOp] at h
  obtain ⟨e, he, h⟩ := bnd_eq_some h; obtain ⟨zv, hz, h⟩ := bnd_eq_some h; obtain ⟨v, hv, h⟩ := bnd_eq_some h; obtain ⟨k', hk, h⟩ := bnd_eq_some h; obtain ⟨ps', hp, h⟩ := bnd_eq_some h
  split at h
  · rename_i hc
    cases h; exact ⟨t, parts, e, zv, rfl, he, hz, hv, hk, hp, hc.1, hc.2.1, hc.2.2⟩
  · cases h
theorem trOp_store {n : Nat} {p x : Arg} {own : List (Nat × Nat)} {q : Option Nat} (h : trOp P op ty gd = some (.store n p x own q)) : ∃ t y z, op = .store t y z ∧ sizeT P t = some n ∧ trArg y = some p ∧ trArg z = some x := by
  have k := trOp_kind h
  cases op <;> (try (exact absurd (kind_call k) (by simp [vopKind]); done)) <;> (try (simp [opKind, vopKind] at k; done))
  rename_i t y z
  simp only [trOp] at h
  split at h
  · obtain ⟨n', hn, h⟩ := bnd_eq_some h; obtain ⟨p', hp, h⟩ := bnd_eq_some h; obtain ⟨x', hx, h⟩ := bnd_eq_some h
    cases h; exact ⟨t, y, z, rfl, hn, hp, hx⟩
  · cases h
theorem trOp_mkmap (h : trOp P op ty gd = some .mkmap) : ∃ t, op = .makeMap t none := by
  have k := trOp_kind h
  cases op <;> (try (exact absurd (kind_call k) (by simp [vopKind]); done)) <;> (try (simp [opKind, vopKind] at k; done))
  rename_i t r
  simp only [trOp] at h
  split at h
  · exact ⟨t, rfl⟩
  · cases h
theorem trOp_sliceArr {n k : Nat} {x : Arg} (h : trOp P op ty gd = some (.sliceArr n k x)) : ∃ t y e, op = .slice t y none none none ∧ P.underlying t = some (.array n e) ∧ sizeT P e = some k ∧ trArg y = some x := by
  have k := trOp_kind h
  cases op <;> (try (exact absurd (kind_call k) (by simp [vopKind]); done)) <;> (try (simp [opKind, vopKind] at k; done))
  rename_i t y lo hi mx
  simp only [trOp] at h
  obtain ⟨x', hx, h⟩ := bnd_eq_some h; obtain ⟨l, hl, h⟩ := bnd_eq_some h; obtain ⟨u, hu, h⟩ := bnd_eq_some h; obtain ⟨m, hm, h⟩ := bnd_eq_some h
  split at h
  · cases h
  · obtain ⟨_, _, h⟩ := bnd_eq_some h; cases h
  · rename_i n e ht
    split at h
    · obtain ⟨k', hk, h⟩ := bnd_eq_some h
      cases h
      have e1 : lo = none := by cases lo with | none => rfl | some o => simp only [trOpt] at hl; obtain ⟨_, _, hl⟩ := bnd_eq_some hl; cases hl
      have e2 : hi = none := by cases hi with | none => rfl | some o => simp only [trOpt] at hu; obtain ⟨_, _, hu⟩ := bnd_eq_some hu; cases hu
      have e3 : mx = none := by cases mx with | none => rfl | some o => simp only [trOpt] at hm; obtain ⟨_, _, hm⟩ := bnd_eq_some hm; cases hm
      subst e1 e2 e3
      exact ⟨t, y, e, rfl, ht, hk, hx⟩
    · cases h
  · cases h
theorem trOp_mapupd {q : SK} {m k v : Arg} (h : trOp P op ty gd = some (.mapupd q m k v)) : ∃ t kt e x y z, (op = .mapUpdate t x y z ∨ op = .insert t x y z) ∧ P.underlying t = some (.map kt e) ∧ keyK P kt = some q ∧ trArg x = some m ∧ trArg y = some k ∧ trArg z = some v := by
  have kk := trOp_kind h
  cases op <;> (try (exact absurd (kind_call kk) (by simp [vopKind]); done)) <;> (try (simp [opKind, vopKind] at kk; done))
  all_goals
    rename_i t x y z
    simp only [trOp] at h
    split at h
    · rename_i kt e ht
      obtain ⟨q', hq, h⟩ := bnd_eq_some h; obtain ⟨m', hm, h⟩ := bnd_eq_some h; obtain ⟨k', hk, h⟩ := bnd_eq_some h; obtain ⟨v', hv, h⟩ := bnd_eq_some h
      cases h
      first
        | exact ⟨t, kt, e, x, y, z, .inl rfl, ht, hq, hm, hk, hv⟩
        | exact ⟨t, kt, e, x, y, z, .inr rfl, ht, hq, hm, hk, hv⟩
    · cases h
theorem toList_two {α : Type} {xs : Array α} {x y : α} (h : xs.toList = [x, y]) : xs = #[x, y] := by apply Array.ext'; simpa using h
theorem trOp_delete {q : SK} {m k : Arg} (h : trOp P op ty gd = some (.delete q m k)) : ∃ x y t ts kt e, op = .call { callee := .builtin .delete, args := #[x, y], argTypes := ts } ∧ ts.toList.head? = some t ∧ P.underlying t = some (.map kt e) ∧ keyK P kt = some q ∧ trArg x = some m ∧ trArg y = some k := by
  have kk := trOp_kind h
  cases op <;> (try (simp [opKind, vopKind] at kk; done))
  rename_i c
  obtain ⟨callee, args, argTypes⟩ := c
  cases callee with
  | value f => exfalso; cases f <;> simp [opKind, vopKind] at kk
  | invoke r m => exfalso; simp [opKind, vopKind] at kk
  | builtin b =>
    cases b <;> (try (simp [opKind, vopKind] at kk; done))
    simp only [trOp] at h
    split at h
    · rename_i x y t tl h1 h2
      split at h
      · rename_i kt e ht
        obtain ⟨q', hq, h⟩ := bnd_eq_some h; obtain ⟨m', hm, h⟩ := bnd_eq_some h; obtain ⟨k', hk, h⟩ := bnd_eq_some h
        cases h
        have e1 := toList_two h1
        subst e1
        exact ⟨x, y, t, argTypes, kt, e, rfl, by rw [h2]; rfl, ht, hq, hm, hk⟩
      · cases h
    · cases h
theorem trOp_call {q : Bool} {f : Nat} {as : List Arg} (h : trOp P op ty gd = some (.call q f as)) : ∃ args ts, op = .call { callee := .value (.func f), args := args, argTypes := ts } ∧ trArgs args.toList = some as := by
  have k := trOp_kind h
  cases op <;> (try (simp [opKind, vopKind] at k; done))
  rename_i c
  obtain ⟨callee, args, argTypes⟩ := c
  cases callee with
  | value f =>
    cases f <;> (try (simp [opKind, vopKind] at k; done))
    simp only [trOp] at h
    split at h
    · obtain ⟨as', ha, h⟩ := bnd_eq_some h
      cases h; exact ⟨args, argTypes, rfl, ha⟩
    · cases h
  | invoke r m => exfalso; simp [opKind, vopKind] at k
  | builtin b => exfalso; cases b <;> simp [opKind, vopKind] at k
theorem trOp_callv {q : Bool} {x : Arg} {as : List Arg} (h : trOp P op ty gd = some (.callv q x as)) : ∃ y args ts, op = .call { callee := .value y, args := args, argTypes := ts } ∧ trArg y = some x ∧ trArgs args.toList = some as := by
  have k := trOp_kind h
  cases op <;> (try (simp [opKind, vopKind] at k; done))
  rename_i c
  obtain ⟨callee, args, argTypes⟩ := c
  cases callee with
  | value f =>
    cases f <;> (try (simp [opKind, vopKind] at k; done)) <;> simp only [trOp] at h <;> split at h <;> first
      | (obtain ⟨x', hx, h⟩ := bnd_eq_some h; obtain ⟨as', ha, h⟩ := bnd_eq_some h; cases h; exact ⟨_, args, argTypes, rfl, hx, ha⟩)
      | cases h
  | invoke r m => exfalso; simp [opKind, vopKind] at k
  | builtin b => exfalso; cases b <;> simp [opKind, vopKind] at k
def isAppend (vop : VOp) (size bytes : Nat) (s x : Arg) : Prop := (∃ p, vop = .app p size bytes s x) ∨ ∃ p, vop = .appc p size bytes s x
theorem trOp_app {vop : VOp} {size bytes : Nat} {s x : Arg} (hv : isAppend vop size bytes s x) (h : trOp P op ty gd = some vop) :
    ∃ y y' t e i z, op = .call { callee := .builtin .append, args := #[y, y'], argTypes := #[t, t] } ∧ P.underlying t = some (.slice e) ∧ P.info? e = some i ∧ i.zero = some z ∧ i.size = size ∧ i.bytes = bytes ∧ 0 < size ∧ 0 < bytes ∧ z.cells.size = size ∧ trArg y = some s ∧ trArg y' = some x := by
  have k := trOp_kind h
  have kv : vopKind vop = 24 := by rcases hv with ⟨_, rfl⟩ | ⟨_, rfl⟩ <;> rfl
  rw [kv] at k
  cases op <;> (try (simp [opKind] at k; done))
  rename_i c
  obtain ⟨callee, args, argTypes⟩ := c
  cases callee with
  | value f => exfalso; cases f <;> simp [opKind] at k
  | invoke r m => exfalso; simp [opKind] at k
  | builtin b =>
    cases b <;> (try (simp [opKind] at k; done))
    simp only [trOp] at h
    split at h
    · rename_i y y' t tx h1 h2
      obtain ⟨e, he, g1⟩ := bnd_eq_some h; obtain ⟨i, hi, g2⟩ := bnd_eq_some g1; obtain ⟨a, ha, g3⟩ := bnd_eq_some g2; obtain ⟨b, hb, g4⟩ := bnd_eq_some g3
      clear h g1 g2 g3
      have e1 := toList_two h1
      have e2 := toList_two h2
      clear h1 h2
      subst e1 e2
      split at g4
      · rename_i z e' hz hu
        split at g4
        · rename_i hc
          obtain ⟨c1, c2, h3, h4, h5⟩ := hc
          subst c1 c2
          split at g4
          · cases g4
            rcases hv with ⟨_, hv⟩ | ⟨_, hv⟩ <;> cases hv
            exact ⟨y, y', _, _, i, z, rfl, hu, hi, hz, rfl, rfl, h3, h4, h5, ha, hb⟩
          · cases g4
            rcases hv with ⟨_, hv⟩ | ⟨_, hv⟩ <;> cases hv
            exact ⟨y, y', _, _, i, z, rfl, hu, hi, hz, rfl, rfl, h3, h4, h5, ha, hb⟩
          · cases g4
        · cases g4
      · cases g4
    · cases h
theorem opKind_lt (op : Op) : opKind op < 99 := by
  cases op <;> simp only [opKind] <;> try omega
  split <;> omega
theorem trOp_nolin {v : VOp} (h : trOp P op ty gd = some v) : linOp v = false := by
  have h1 := trOp_kind h
  have h2 := opKind_lt op
  rw [h1] at h2
  cases v <;> first | rfl | (simp [vopKind] at h2)
theorem trOpL_lin {v : VOp} (h : trOpL P op gd = some v) : linOp v = true := by
  cases gd <;> simp only [trOpL, reduceCtorEq] at h <;> obtain ⟨_, _, h⟩ := bnd_eq_some h <;> cases h <;> rfl
theorem trOpA_plain {v : VOp} (h : trOpA P op ty gd = some v) (hv : linOp v = false) : trOp P op ty gd = some v := by
  unfold trOpA at h
  cases hg : linOp gd <;> rw [hg] at h
  · exact h
  · have := trOpL_lin (P := P) (op := op) (gd := gd) (v := v) h
    rw [hv] at this; cases this
theorem trOpA_lin {v : VOp} (h : trOpA P op ty gd = some v) (hv : linOp v = true) : trOpL P op gd = some v := by
  unfold trOpA at h
  cases hg : linOp gd <;> rw [hg] at h
  · have := trOp_nolin (P := P) (op := op) (ty := ty) (gd := gd) (v := v) h
    rw [hv] at this; cases this
  · exact h
end
end Go.Vm

/- One operation, carried out: quiet ones; a new object; a new row. -/
set_option linter.unusedVariables false
set_option linter.unusedSimpArgs false
namespace Go.Vm
attribute [local simp] evalOps_nil evalOps_cons evalOps_consg evalOp_mv evalOp_asg evalOp_pick evalOp_build evalOp_bslice evalOp_load evalOp_nilck evalOp_bin evalOp_un evalOp_conv evalOp_mkfn evalOp_slice evalOp_faddr evalOp_field evalOp_iaddr evalOp_index evalOp_lookup evalOp_extract evalOp_app evalOp_len evalOp_mn evalOp_mx evalOp_alloc evalOp_box evalOp_mkmap evalOp_store evalOp_mapupd evalOp_delete evalOp_sliceArr evalOp_call evalOp_callv evalOp_appc code_skip code_ops code_dops code_seq code_cond code_block code_exit code_ret finish_normal finish_ret
attribute [local simp] V.lt V.ltL V.flat V.pureCell V.pure V.isCell cellEq cellsEq eqV intV shV strV isShift binV unV byteV convV minV maxV foldV foldV1 fillV fillE findV putV delV isKey natOf natOr cut cellsAt mapAt mapOf loadV pickV nilckV sizeOk allSize sliceV faddrV fieldV iaddrV indexV found extractV allPure appV lenV ownHas ownOk storeC storeV samePtr appcV boxable mapupdV deleteV sliceArrV callV allLt clean bodyEnd resV one finishV runV initR
section
variable {P : Program} {R : Nat → Option Nat} {Dt : Prop} {cx : Cx Dt} {N : Nat} {hb0 : Heap} {S T : Ow} {rs : Regs} {h : Heap} {fl : Fl} {g : Gh} {a : Act} {w : World} {o : Oper} {gd vop : VOp}

theorem andThen_inv {α β : Type} {r : Result α} {f : α → World → Result β} {b : β} {w' : World} (h : r.andThen f = .ok b w') : ∃ a w1, r = .ok a w1 ∧ f a w1 = .ok b w' := by
  cases r with
  | ok a w1 => exact ⟨a, w1, rfl, h⟩
  | halt x w1 => simp [Result.andThen] at h
theorem Inv.addAl (hi : Inv cx N hb0 S rs h fl g a w) {t p : Nat} (he : a.tmps.getD t Go.undef = a.tmps.getD p Go.undef) : Inv cx N hb0 { S with al := (t, p) :: S.al } rs h fl g a w := by
  obtain ⟨pd, hO, hf⟩ := hi.O
  refine ⟨hi.W, hi.G, ⟨pd, hO, ⟨fun x y hm => ?_, hf.la, hf.pd⟩⟩, hi.F⟩
  rcases List.mem_cons.1 hm with e | hm
  · cases e; exact he
  · exact hf.al x y hm
theorem Inv.addLa (hi : Inv cx N hb0 S rs h fl g a w) {t p b o : Nat} (h1 : a.tmps.getD p Go.undef = .pointer (some ⟨b, o, none⟩)) (h2 : w.cell? ⟨b, o, none⟩ = some (a.tmps.getD t Go.undef)) : Inv cx N hb0 { S with la := (t, p) :: S.la } rs h fl g a w := by
  obtain ⟨pd, hO, hf⟩ := hi.O
  refine ⟨hi.W, hi.G, ⟨pd, hO, ⟨hf.al, fun x y hm => ?_, hf.pd⟩⟩, hi.F⟩
  rcases List.mem_cons.1 hm with e | hm
  · cases e; exact ⟨b, o, h1, h2⟩
  · exact hf.la x y hm
theorem put_other {d p : Nat} (hd : d < a.tmps.size) (hne : p ≠ d) (u : Value) : (a.put (some d) u).tmps.getD p Go.undef = a.tmps.getD p Go.undef := by rw [getD_put hd, if_neg hne]
theorem trArg_tmp {x : Operand} {p : Nat} (h : trArg x = some (.r p)) : x = .tmp p := by
  cases x with
  | tmp t => simp only [trArg, Option.some.injEq, Arg.r.injEq] at h; rw [h]
  | const u => simp only [trArg] at h; obtain ⟨_, _, h⟩ := bnd_eq_some h; cases h
  | func f => cases h
  | global _ => cases h
theorem nilArg_eval {x : Operand} {y : Arg} (h : trArg x = some y) (hn : isNilArg y = true) : a.eval x = .slice none 0 0 := by
  unfold isNilArg at hn
  split at hn
  · cases x with
    | tmp t => cases h
    | const u =>
      simp only [trArg] at h
      obtain ⟨v, hv, h⟩ := bnd_eq_some h
      cases h
      show u = _
      unfold trConst at hv
      split at hv
      · obtain ⟨_, _, hv⟩ := bnd_eq_some hv; cases hv
      · unfold trVal at hv
        split at hv <;> first | rfl | cases hv
    | func f => cases h
    | global _ => cases h
  · cases hn
theorem Inv.addNil (hi : Inv cx N hb0 S rs h fl g a w) {dst : Option Nat} (hd : ∀ x, dst = some x → x < N) {u : Value} {v : V} (hu : u = .slice none 0 0) (hT : Inv cx N hb0 T (putR dst v rs) h fl g (a.put dst u) w) :
    Inv cx N hb0 (addOwn dst 0 0 T) (putR dst v rs) h fl g (a.put dst u) w := by
  refine hT.addFull isLin_zero fun d e x hx => ?_
  subst e hu
  rw [put_get (by rw [hi.F.size]; exact hd d rfl)] at hx
  exact ⟨none, 0, by simpa [Value.cells] using hx.symm⟩

theorem mv_ok {dst : Option Nat} (hi : Inv cx N hb0 S rs h fl g a w) {y : Operand} {x : Arg} (hx : trArg y = some x) (hd : ∀ x, dst = some x → x < N) {v : V} (hv : VR g (a.eval y) v) (hs : S.step1 R dst (.mv x) = some T) :
    Inv cx N hb0 T (putR dst v rs) h fl g (a.put dst (a.eval y)) w := by
  cases x with
  | r p =>
    have e := trArg_tmp hx
    subst e
    simp only [Ow.step1] at hs
    obtain ⟨T0, hk, hs⟩ := bnd_eq_some hs
    have h1 := hi.put hd hk hv
    cases dst with
    | none => cases hs; exact h1
    | some d =>
      simp only at hs
      cases hdp : decide (d = p) <;> rw [hdp] at hs
      · cases hs
        have hlt : d < a.tmps.size := by rw [hi.F.size]; exact hd d rfl
        refine h1.addAl ?_
        rw [put_get hlt, put_other hlt (fun e => of_decide_eq_false hdp e.symm)]
        rfl
      · cases hs; exact h1
  | c c =>
    simp only [Ow.step1] at hs
    obtain ⟨T0, hk, hs⟩ := bnd_eq_some hs
    have h1 := hi.put hd hk hv
    cases hn : isNilArg (.c c) <;> rw [hn] at hs <;> cases hs
    · exact h1
    · exact hi.addNil hd (nilArg_eval hx hn) h1
theorem asg_ok {dst : Option Nat} (hi : Inv cx N hb0 S rs h fl g a w) {y : Operand} {x : Arg} (hx : trArg y = some x) (hd : ∀ x, dst = some x → x < N) {v : V} (hv : VR g (a.eval y) v) (hvv : v = x.val rs) (hs : S.step1 R dst (.asg x) = some T) :
    Inv cx N hb0 T (putR dst v rs) h fl g (a.put dst (a.eval y)) w := by
  cases x with
  | r p =>
    have e := trArg_tmp hx
    subst e
    simp only [Ow.step1] at hs
    obtain ⟨T0, hk, hs⟩ := bnd_eq_some hs
    have h1 := hi.put hd hk hv
    cases dst with
    | none => cases hs; exact h1
    | some d =>
      simp only at hs
      cases hdp : decide (d = p) <;> rw [hdp] at hs
      · simp only [cnd_false] at hs
        obtain ⟨hpd, hs⟩ := cnd_eq_some hs
        cases hs
        have hlt : d < a.tmps.size := by rw [hi.F.size]; exact hd d rfl
        have hne : d ≠ p := of_decide_eq_false hdp
        obtain ⟨_, rfl⟩ := kill_some hk
        obtain ⟨pd, hO, hf⟩ := h1.O
        refine ⟨h1.W, h1.G, ⟨pd, hO.moved hne ?_ ?_ (fun x hx => (mem_offReg.1 hx).2) (fun i j e => ?_), ⟨hf.al, hf.la, hf.pd⟩⟩, h1.F⟩
        · rw [put_get hlt, put_other hlt (Ne.symm hne)]; rfl
        · have hne' : ¬ p = d := fun e => hne e.symm
          simp [putR, get, hne', hvv, Arg.val]
        · rcases hf.pd with ⟨_, h2⟩ | ⟨p', d', i', j', h2, h3, _⟩
          · rw [h2] at e; cases e
          · rw [h3] at e; cases e
            exact (pdFree_spec hpd h2).2 rfl
      · cases hs; exact h1
  | c c =>
    simp only [Ow.step1] at hs
    obtain ⟨T0, hk, hs⟩ := bnd_eq_some hs
    have h1 := hi.put hd hk hv
    cases hn : isNilArg (.c c) <;> rw [hn] at hs <;> cases hs
    · exact h1
    · exact hi.addNil hd (nilArg_eval hx hn) h1
theorem VR.addr {u : Value} {b : Bool} {n : Nat} {h : Heap} {x v : V} (hx : VR g u x) (hv : loadV b n h x = some v) : ∃ c k, u = .pointer (some ⟨c, k, none⟩) := by
  unfold loadV at hv
  split at hv
  · obtain ⟨b, _, rfl⟩ := hx.ptr_inv; exact ⟨_, _, rfl⟩
  · obtain ⟨b, o, us, rfl, _⟩ := hx.ro_inv; exact ⟨_, _, rfl⟩
  · cases hv
theorem load_cell {t : TypeId} (ht : aggT P t = some false) {c k : Nat} {u : Value} (hr : (Instr.loadAt t (.pointer (some ⟨c, k, none⟩))).run P w = .ok u w) (hc : ∃ z, w.cell? ⟨c, k, none⟩ = some z) : w.cell? ⟨c, k, none⟩ = some u := by
  obtain ⟨z, hz⟩ := hc
  unfold aggT at ht
  split at ht
  · cases ht
  · cases ht
  · rename_i d hu h2 h3
    have hu' : (isAgg t).run P w = .ok false w := by
      simp only [isAgg, Sem.run_bind, run_underlying h3, Result.andThen_ok]
      rfl
    simp [Instr.loadAt, Instr.sureAddr, loadVar, hu', hz] at hr
    rw [hz, hr]
  · cases ht
theorem cellThere (hi : HRead g h w) {u : Value} {x v : V} (hx : VR g u x) (hv : loadV false 1 h x = some v) {c k : Nat} (hu : u = .pointer (some ⟨c, k, none⟩)) : ∃ z, w.cell? ⟨c, k, none⟩ = some z := by
  unfold loadV at hv
  split at hv
  · rename_i i o
    obtain ⟨cs, hc, hv⟩ := bnd_eq_some hv
    obtain ⟨bl, hbl, rfl⟩ := hx.ptr_inv
    cases hu
    obtain ⟨b', us, tt, lu, ru, hb', hheap, hlr, hus, _⟩ := hi.cells hc
    rw [hbl] at hb'; cases hb'
    unfold cut at hv
    obtain ⟨hle, hv⟩ := cnd_eq_some hv
    have hl := hus.length
    rw [cell_of_heap hheap]
    have : k < us.size := by have := of_decide_eq_true hle; have := pre_size hlr; omega
    exact ⟨us[k], by simp [this]⟩
  · rename_i cs
    obtain ⟨bl, o, us, rfl, himm, hus⟩ := hx.ro_inv
    cases hu
    unfold cut at hv
    obtain ⟨hle, hv⟩ := cnd_eq_some hv
    have hl := hus.length
    have : 0 < us.length := by have := of_decide_eq_true hle; omega
    exact ⟨us[0], by simpa using hi.imm _ _ _ (himm 0 us[0] (by simp [this]))⟩
  · cases hv

set_option maxHeartbeats 800000 in
theorem quiet_ok (hi : Inv cx N hb0 S rs h fl g a w) (htr : trOp P o.op o.type gd = some vop) (hq : quietOp vop = true) {v : V} (hv : valOp h rs vop = some v) (hs : S.step1 R o.dst vop = some T) (hd : ∀ x, o.dst = some x → x < N) :
    ∃ u, (execOp a.eval o).run P w = .ok (.value u) w ∧ Inv cx N hb0 T (putR o.dst v rs) h fl g (a.put o.dst u) w := by
  obtain ⟨u, hu, hur⟩ := quiet_sound (P := P) hi.G.hr hi.F.regs htr hq hv
  refine ⟨u, hu, ?_⟩
  cases vop with
  | mv x =>
    obtain ⟨y, hy, hx⟩ := trOp_mv htr
    have : u = a.eval y := by
      have : (execOp a.eval o).run P w = .ok (.value (a.eval y)) w := by unfold execOp; rcases hy with hy | hy <;> rw [hy] <;> rfl
      rw [this] at hu; cases hu; rfl
    subst this
    exact mv_ok hi hx hd hur hs
  | asg x =>
    obtain ⟨y, hy, hx⟩ := trOp_asg htr
    have : u = a.eval y := by
      have : (execOp a.eval o).run P w = .ok (.value (a.eval y)) w := by unfold execOp; rw [hy]; rfl
      rw [this] at hu; cases hu; rfl
    subst this
    exact asg_ok hi hx hd hur (by cases hv; rfl) hs
  | load b n x =>
    cases b with
    | true => exact hi.put hd hs hur
    | false =>
      cases x with
      | c c => exact hi.put hd (by simpa only [Ow.step1] using hs) hur
      | r p =>
        by_cases hn : n = 1
        · subst hn
          simp only [Ow.step1] at hs
          obtain ⟨T0, hk, hs⟩ := bnd_eq_some hs
          have h1 := hi.put hd hk hur
          cases hdst : o.dst with
          | none => rw [hdst] at hs h1; cases hs; exact h1
          | some d =>
            rw [hdst] at hs h1
            simp only at hs
            cases hdp : decide (d = p) <;> rw [hdp] at hs
            · cases hs
              have hlt : d < a.tmps.size := by rw [hi.F.size]; exact hd d hdst
              obtain ⟨t, y, hop, hagg, _, hy, _⟩ := trOp_load htr
              have e := trArg_tmp hy
              subst e
              have hpx := hi.F.regs p
              obtain ⟨c, k, hck⟩ := hpx.addr hv
              have hcell := cellThere hi.G.hr hpx hv hck
              have hrun : (Instr.loadAt t (.pointer (some ⟨c, k, none⟩))).run P w = .ok u w := by
                have e2 : a.eval (.tmp p) = .pointer (some ⟨c, k, none⟩) := hck
                unfold execOp at hu
                rw [hop] at hu
                simp only [e2, Sem.run_bind] at hu
                obtain ⟨z, w1, hz, h2⟩ := andThen_inv hu
                simp only [Sem.run_pure, Result.ok.injEq, Next.value.injEq] at h2
                rw [hz, h2.1, h2.2]
              have hc := load_cell hagg hrun hcell
              refine h1.addLa (b := c) (o := k) ?_ ?_
              · rw [put_other hlt (fun e => of_decide_eq_false hdp e.symm)]; exact hck
              · rw [put_get hlt]; exact hc
            · cases hs; exact h1
        · exact hi.put hd (by
            have : S.step1 R o.dst (.load false n (.r p)) = S.kill o.dst := by
              unfold Ow.step1
              split <;> first | rfl | (rename_i e; cases e; exact absurd rfl hn) | simp_all
            rw [← this]; exact hs) hur
  | conv k x =>
    cases k with
    | bytesOfStr => cases hq
    | _ => exact hi.put hd hs hur
  | _ => first
    | (cases hq; done)
    | exact hi.put hd hs hur
end
end Go.Vm

/- A new object; an object written. -/
set_option linter.unusedVariables false
set_option linter.unusedSimpArgs false
namespace Go.Vm
attribute [local simp] evalOps_nil evalOps_cons evalOps_consg evalOp_mv evalOp_asg evalOp_pick evalOp_build evalOp_bslice evalOp_load evalOp_nilck evalOp_bin evalOp_un evalOp_conv evalOp_mkfn evalOp_slice evalOp_faddr evalOp_field evalOp_iaddr evalOp_index evalOp_lookup evalOp_extract evalOp_app evalOp_len evalOp_mn evalOp_mx evalOp_alloc evalOp_box evalOp_mkmap evalOp_store evalOp_mapupd evalOp_delete evalOp_sliceArr evalOp_call evalOp_callv evalOp_appc code_skip code_ops code_dops code_seq code_cond code_block code_exit code_ret finish_normal finish_ret
attribute [local simp] V.lt V.ltL V.flat V.pureCell V.pure V.isCell cellEq cellsEq eqV intV shV strV isShift binV unV byteV convV minV maxV foldV foldV1 fillV fillE findV putV delV isKey natOf natOr cut cellsAt mapAt mapOf loadV pickV nilckV sizeOk allSize sliceV faddrV fieldV iaddrV indexV found extractV allPure appV lenV ownHas ownOk storeC storeV samePtr appcV boxable mapupdV deleteV sliceArrV callV allLt clean bodyEnd resV one finishV runV initR
section
variable {P : Program} {R : Nat → Option Nat} {Dt : Prop} {cx : Cx Dt} {N : Nat} {hb0 : Heap} {S T : Ow} {rs : Regs} {h : Heap} {fl : Fl} {g : Gh} {a : Act} {w : World} {o : Oper} {gd vop : VOp}

theorem OwnR.lt {imm : Imm} {sz : Nat} {u : Value} (h : OwnR w imm sz u) {b : Nat} (hb : ownBlk sz u = some b) : b < w.heap.size := by
  obtain ⟨n, cap, cur, t, _, h1⟩ := h.at hb
  exact (Array.getElem?_eq_some_iff.1 h1).1
theorem getElem?_push_cases {h : Heap} {x : Obj} {i : Nat} {y : Obj} (hy : (h ++ [x])[i]? = some y) : (i < h.length ∧ h[i]? = some y) ∨ (i = h.length ∧ y = x) := by
  by_cases hi : i < h.length
  · rw [List.getElem?_append_left hi] at hy; exact .inl ⟨hi, hy⟩
  · have h2 := (List.getElem?_eq_some_iff.1 hy).1
    simp at h2
    have : i = h.length := by omega
    subst this
    simp at hy
    exact .inr ⟨rfl, hy.symm⟩

theorem Inv.push (hi : Inv cx N hb0 S rs h fl g a w) {O : Go.Obj} {x : Obj} (ho : ObjR (g.addMu h.length w.heap.size) (w.alloc O) w.heap.size x)
    (hown : ∀ cs own, x = .cells cs own → ∀ j sz u, (j, sz) ∈ own → (w.alloc O).cell? ⟨w.heap.size, j, none⟩ = some u → FreshAt (h ++ [x]) (.cell h.length j) sz u) : Inv cx N hb0 S rs (h ++ [x]) fl (g.addMu h.length w.heap.size) a (w.alloc O) := by
  have hnone := hi.G.muNone (Nat.le_refl h.length)
  have hle : GLe g (g.addMu h.length w.heap.size) := Gh.addMu_le hnone
  have heap : ∀ b, b < w.heap.size → (w.alloc O).heap[b]? = w.heap[b]? := fun b hb => heap_alloc_old w O hb
  have muOld : ∀ i b, i ≠ h.length → (g.addMu h.length w.heap.size).mu i = some b → g.mu i = some b := fun i b hne hb => by simpa [Gh.addMu, hne] using hb
  obtain ⟨pd, hO, hf⟩ := hi.O
  refine ⟨hi.W.step (World.grownBy_alloc w O none) (fun b e => by cases e) (fun _ h => h), hi.G.push hi.W.hsz ho, ⟨pd, ?_, ⟨hf.al, fun t p hm => ?_, hf.pd⟩⟩, hi.F.mono hle⟩
  · refine hO.map (fun p q => p = q) (fun _ _ _ e1 e2 => e1.trans e2.symm) (fun p sz u hp => ?_) (fun p q b l e hn => e ▸ hn) (fun q sz u b hq _ hb => ⟨⟨heap b ((hO.own q sz u hq).lt hb), fun _ h => h⟩, fun i hl hm => ?_⟩) (ImmLe.refl _) (fun r off z hm _ => ⟨r, hm, rfl, rfl, rfl⟩) (fun i j z u q _ _ e _ => by
      cases e
      refine ⟨i, j, rfl, fun xs ⟨cs, own, h1, h2⟩ => ⟨cs, own, ?_, h2⟩⟩
      rw [List.getElem?_append_left (List.getElem?_eq_some_iff.1 h1).1]; exact h1)
    · cases p with
      | reg r off => exact .inr ⟨_, sz, rfl, hp, .inl rfl⟩
      | cell i j =>
        obtain ⟨cs, own, b, h1, h2, h3, h4, h5⟩ := hp
        rcases getElem?_push_cases h1 with ⟨hlt, h1⟩ | ⟨rfl, h6⟩
        · have hm := muOld i b (by omega) h4
          refine .inr ⟨_, sz, rfl, ⟨cs, own, b, h1, h2, h3, hm, ?_⟩, .inl rfl⟩
          rw [← cell_same (heap b (hi.G.muW i b hm).1)]
          exact h5
        · have hb : b = w.heap.size := by simpa [Gh.addMu] using h4.symm
          subst hb
          exact .inl (hown cs own h6.symm j sz u h2 h5)
    · have hlt := (hO.own q sz u hq).lt hb
      rcases liveAt_append hl with hl | rfl
      · have hne : i ≠ h.length := by
          obtain ⟨y, hy, _⟩ := hl
          have := (List.getElem?_eq_some_iff.1 hy).1
          omega
        exact ⟨hl, muOld i b hne hm⟩
      · have hb : b = w.heap.size := by simpa [Gh.addMu] using hm.symm
        omega
  · obtain ⟨b, k, h1, h2⟩ := hf.la t p hm
    exact ⟨b, k, h1, by rw [cell_same (heap b (cell_lt h2))]; exact h2⟩

theorem ownNil_mem {cs : List V} : ∀ {own : List (Nat × Nat)}, ownNil cs own = true → ∀ x ∈ own, (cs[x.1]? = some (.sl []) ∧ isLin x.2 = false) ∨ (cs[x.1]? = some (.own []) ∧ isLin x.2 = true)
  | [], _, x, hx => by simp at hx
  | (j, s) :: l, h, x, hx => by
    simp only [ownNil, Bool.and_eq_true] at h
    rcases List.mem_cons.1 hx with rfl | hx
    · have h1 := h.1
      split at h1
      · rename_i e; exact .inl ⟨e, by simpa using h1⟩
      · rename_i e; exact .inr ⟨e, h1⟩
      · cases h1
    · exact ownNil_mem h.2 x hx
theorem trVals_get : ∀ {us : List Value} {vs : List V}, trVals us = some vs → ∀ (j : Nat) (u : Value), us[j]? = some u → ∃ v, vs[j]? = some v ∧ trVal u = some v
  | [], vs, h, j, u, hu => by simp at hu
  | x :: us, vs, h, j, u, hu => by
    simp only [trVals] at h
    obtain ⟨v, hv, h⟩ := bnd_eq_some h
    obtain ⟨l, hl, h⟩ := bnd_eq_some h
    cases h
    cases j with
    | zero => simp at hu; subst hu; exact ⟨v, rfl, hv⟩
    | succ j => simpa using trVals_get hl j u (by simpa using hu)
theorem trVal_nil {u : Value} (h : trVal u = some (.sl [])) : u = .slice none 0 0 := by
  unfold trVal at h
  split at h <;> first | rfl | cases h

theorem trVal_own {u : Value} {xs : List V} : trVal u ≠ some (.own xs) := by
  unfold trVal
  split <;> simp
theorem fix1_cases (c g : V) : fix1 c g = c ∨ (c = .sl [] ∧ (fix1 c g = .nsl ∨ fix1 c g = .own [])) := by
  unfold fix1
  split
  · exact .inr ⟨rfl, .inl rfl⟩
  · exact .inr ⟨rfl, .inr rfl⟩
  · exact .inl rfl
theorem fixN_sound {g : Gh} : ∀ {us : List Value} {vs : List V}, trVals us = some vs → ∀ gs, VRs g us (fixN vs gs) ∧ (fixN vs gs).all V.isCell = true ∧ ∀ (j : Nat) (u : Value), us[j]? = some u → ∀ v, (fixN vs gs)[j]? = some v → (v = .sl [] ∨ v = .own []) → u = .slice none 0 0
  | [], vs, h, gs => by
    simp only [trVals, Option.some.injEq] at h
    subst h
    cases gs <;> exact ⟨.nil, rfl, fun j u hu => by simp at hu⟩
  | x :: us, vs, h, gs => by
    have h0 := h
    simp only [trVals] at h
    obtain ⟨v, hv, h⟩ := bnd_eq_some h
    obtain ⟨l, hl, h⟩ := bnd_eq_some h
    cases h
    have hc := trVal_sound (m := g.imm) hv
    cases gs with
    | nil =>
      have h1 := trVals_sound (m := g.imm) h0
      refine ⟨h1.vrs, h1.isCells, fun j u hu w hw hor => ?_⟩
      obtain ⟨v', h2, h3⟩ := trVals_get h0 j u hu
      have hw : (v :: l)[j]? = some w := hw
      rw [hw] at h2
      cases h2
      rcases hor with rfl | rfl
      · exact trVal_nil h3
      · exact absurd h3 trVal_own
    | cons k gs =>
      obtain ⟨i1, i2, i3⟩ := fixN_sound hl gs
      have key : VR g x (fix1 v k) ∧ (fix1 v k).isCell = true ∧ (fix1 v k = .sl [] ∨ fix1 v k = .own [] → x = .slice none 0 0) := by
        rcases fix1_cases v k with e | ⟨rfl, e⟩
        · rw [e]
          refine ⟨.cell hc, hc.isCell, fun hor => ?_⟩
          rcases hor with rfl | rfl
          · exact trVal_nil hv
          · exact absurd hv trVal_own
        · have hx := trVal_nil hv
          subst hx
          rcases e with e | e <;> rw [e]
          · exact ⟨.nsl, rfl, fun _ => rfl⟩
          · exact ⟨.own rfl, rfl, fun _ => rfl⟩
      refine ⟨.cons key.1 i1, by simp only [fixN, List.all_cons, Bool.and_eq_true]; exact ⟨key.2.1, i2⟩, fun j u hu w hw hor => ?_⟩
      cases j with
      | zero =>
        simp only [List.getElem?_cons_zero, Option.some.injEq] at hu
        simp only [fixN, List.getElem?_cons_zero, Option.some.injEq] at hw
        subst hu hw
        exact key.2.2 hor
      | succ j => exact i3 j u (by simpa using hu) w (by simpa [fixN] using hw) hor

theorem alloc_ok (hi : Inv cx N hb0 S rs h fl g a w) {cs : List V} {own : List (Nat × Nat)} (htr : trOp P o.op o.type gd = some (.alloc cs own)) (hs : S.step1 R o.dst (.alloc cs own) = some T) (hd : ∀ x, o.dst = some x → x < N) :
    ∃ u w' g', (execOp a.eval o).run P w = .ok (.value u) w' ∧ GLe g g' ∧ Inv cx N hb0 T (putR o.dst (.ptr (some (h.length, 0))) rs) (h ++ [.cells cs own]) fl g' (a.put o.dst u) w' := by
  obtain ⟨e, z, cs0, gs, hop, hz, hcs, rfl⟩ := trOp_alloc htr
  simp only [Ow.step1] at hs
  obtain ⟨hnil, hk⟩ := cnd_eq_some hs
  unfold zeroT at hz
  obtain ⟨i, hie, hz⟩ := bnd_eq_some hz
  obtain ⟨hrel, hisc, hnils⟩ := fixN_sound (g := g.addMu h.length w.heap.size) hcs gs
  have hlen := hi.G.muNone (Nat.le_refl h.length)
  have hle : GLe g (g.addMu h.length w.heap.size) := Gh.addMu_le hlen
  have h1 := hi.push (O := .cells z.cells e) (x := .cells (fixN cs0 gs) own) ⟨z.cells, e, z.cells.toList, [], heap_alloc_new w _, by simp, hrel, hisc⟩ (fun cs' own' e' j sz u hm hc => by
    cases e'
    simp only [World.cell?, heap_alloc_new] at hc
    have hc' : z.cells.toList[j]? = some u := by simpa using hc
    rcases ownNil_mem hnil _ hm with ⟨h2, h3⟩ | ⟨h2, h3⟩
    · exact .inl ⟨h3, none, 0, hnils j u hc' _ h2 (.inl rfl)⟩
    · exact .inr ⟨_, _, rfl, hnils j u hc' _ h2 (.inr rfl), fixN cs0 gs, own, by simp, h2⟩)
  refine ⟨.pointer (some ⟨w.heap.size, 0, none⟩), _, _, ?_, hle, h1.put hd hk (.ptr (by simp [Gh.addMu]))⟩
  unfold execOp
  rw [hop]
  simp [Instr.alloc, zeroValue, typeInfo, hie, hz, newVar, newRow]
theorem box_ok (hi : Inv cx N hb0 S rs h fl g a w) {n : Nat} {x : Arg} (htr : trOp P o.op o.type gd = some (.box n x)) (hs : S.step1 R o.dst (.box n x) = some T) (hd : ∀ x, o.dst = some x → x < N) (hb : boxable n (x.val rs) = true) :
    ∃ u w' g', (execOp a.eval o).run P w = .ok (.value u) w' ∧ GLe g g' ∧ Inv cx N hb0 T (putR o.dst (.ptr (some (h.length, 0))) rs) (h ++ [.cells (x.val rs).flat []]) fl g' (a.put o.dst u) w' := by
  obtain ⟨e, y, hop, hn, hx⟩ := trOp_box htr
  have hk : S.kill o.dst = some T := hs
  have hu := trArg_sound hi.F.regs hx
  simp only [boxable, Bool.and_eq_true] at hb
  have hlen := hi.G.muNone (Nat.le_refl h.length)
  have hle : GLe g (g.addMu h.length w.heap.size) := Gh.addMu_le hlen
  have h1 := hi.push (O := .cells (a.eval y).cells e) (x := .cells (x.val rs).flat []) ⟨_, e, _, [], heap_alloc_new w _, (List.append_nil _).symm, (hu.cells hb.2).mono hle, hb.2⟩ (fun cs' own' e' j sz u hm hc => by cases e'; simp at hm)
  refine ⟨.pointer (some ⟨w.heap.size, 0, none⟩), _, _, ?_, hle, h1.put hd hk (.ptr (by simp [Gh.addMu]))⟩
  unfold execOp
  rw [hop]
  simp [Instr.box, newVar, newRow]

theorem seg_get {α : Type} (l m : List α) (o n j : Nat) (hm : m.length = n) (hle : o + n ≤ l.length) : (l.take o ++ m ++ l.drop (o + n))[j]? = if j < o then l[j]? else if j < o + n then m[j - o]? else l[j]? := by
  have h1 : (l.take o).length = o := by simp; omega
  by_cases hj : j < o
  · rw [if_pos hj, List.append_assoc, List.getElem?_append_left (by omega), List.getElem?_take, if_pos hj]
  · rw [if_neg hj, List.append_assoc, List.getElem?_append_right (by omega), h1]
    by_cases hj2 : j < o + n
    · rw [if_pos hj2, List.getElem?_append_left (by omega)]
    · rw [if_neg hj2, List.getElem?_append_right (by omega), List.getElem?_drop]
      congr 1; omega
theorem ltL_append {n : Nat} : ∀ {xs ys : List V}, V.ltL n xs = true → V.ltL n ys = true → V.ltL n (xs ++ ys) = true
  | [], _, _, h => h
  | x :: xs, ys, h, h' => by
    simp only [V.ltL, Bool.and_eq_true, List.cons_append] at h ⊢
    exact ⟨h.1, ltL_append h.2 h'⟩
theorem ltL_take {n : Nat} : ∀ (k : Nat) {xs : List V}, V.ltL n xs = true → V.ltL n (xs.take k) = true
  | 0, _, _ => by simp [V.ltL]
  | k + 1, [], _ => by simp [V.ltL]
  | k + 1, x :: xs, h => by
    simp only [V.ltL, Bool.and_eq_true, List.take_succ_cons] at h ⊢
    exact ⟨h.1, ltL_take k h.2⟩
theorem ltL_drop {n : Nat} : ∀ (k : Nat) {xs : List V}, V.ltL n xs = true → V.ltL n (xs.drop k) = true
  | 0, _, h => by simpa using h
  | k + 1, [], _ => by simp [V.ltL]
  | k + 1, x :: xs, h => by
    simp only [V.ltL, Bool.and_eq_true, List.drop_succ_cons] at h ⊢
    exact ltL_drop k h.2
theorem lt_flat {n : Nat} {v : V} (h : v.lt n = true) : V.ltL n v.flat = true := by
  cases v <;> first | exact h | simp only [V.flat, V.ltL, Bool.and_true]; exact h

def offTm (l : Ows) : Option Nat → Ows
  | none => l
  | some t => offReg t l
theorem store_core (hi : Inv cx N hb0 S rs h fl g a w) {i b off n : Nat} {c : List V × List (Nat × Nat)} (hc : cellsAt h i = some c) (hb : g.mu i = some b) {us : Array Value} {tt : TypeId} (hheap : w.heap[b]? = some (.cells us tt (0, 0))) {lu ru : List Value} (hlr : us.toList = lu ++ ru) (hus : VRs g lu c.1) (hcell : c.1.all V.isCell = true)
    {u : Value} {v : V} (hu : VR g u v) (hlen : v.flat.length = n) (hle : off + n ≤ c.1.length) (hall : v.flat.all V.isCell = true) (tm : Option Nat)
    (hown : ∀ j sz u', (j, sz) ∈ c.2 → off ≤ j → j < off + n → u.cells[j - off]? = some u' → isLin sz = false ∧ ((∃ ad m, u' = .slice ad m m) ∨ ∃ t sz', tm = some t ∧ a.tmps.getD t Go.undef = u ∧ (t, j - off, sz') ∈ S.own ∧ (sz' = sz ∨ sz' = 0)))
    (hpd : S.pd = none ∨ ∃ p t, S.pd = some (p, t) ∧ tm = some t ∧ get rs p = .ptr (some (i, off)) ∧ n = 1) :
    Inv cx N hb0 ⟨offTm S.own tm, S.al, [], none⟩ rs (hset h i (.cells (c.1.take off ++ (v.flat ++ c.1.drop (off + n))) c.2)) (fl.or ⟨cnd (decide (i < cx.n0)) [i] [], cnd (v.lt 0) [] [i], false⟩) g a
      (w.setRow b (us.toList.take off ++ u.cells.toList ++ us.toList.drop (off + n)).toArray) := by
  have hci := cellsAt_inv hc
  have hlive : LiveAt h i := ⟨_, hci, rfl⟩
  have hlt : b < w.heap.size := (Array.getElem?_eq_some_iff.1 hheap).1
  have hcs := hu.cells hall
  have hcl := hcs.length
  have hul := hus.length
  have hmay := (hi.G.muW i b hb).2 hlive
  obtain ⟨pd, hO, hf⟩ := hi.O
  have hpd' : pd = none ∨ ∃ t, pd = some (i, off, t) ∧ tm = some t ∧ n = 1 := by
    rcases hf.pd with ⟨_, h2⟩ | ⟨p, d, i', j', h2, h3, h4⟩
    · exact .inl h2
    · rcases hpd with h5 | ⟨p', t, h5, h6, h7, h8⟩
      · rw [h5] at h2; cases h2
      · rw [h5] at h2; cases h2
        rw [h7] at h4; cases h4
        exact .inr ⟨d, h3, h6, h8⟩
  have heap : ∀ k, k ≠ b → (w.setRow b (us.toList.take off ++ u.cells.toList ++ us.toList.drop (off + n)).toArray).heap[k]? = w.heap[k]? := fun k hk => setRow_other w b k _ hk
  have hnewrow := setRow_heap w b us (us.toList.take off ++ u.cells.toList ++ us.toList.drop (off + n)).toArray tt (0, 0) hheap
  refine ⟨hi.W.step (row := some b) ⟨rfl, rfl, rfl, by simp, fun k _ hk => heap k (fun e => hk (e ▸ rfl))⟩ (fun k e => ?_) (fun _ e => ?_), hi.G.set hlive hb (by simp) (fun k _ hk => heap k hk) ?_ ⟨_, tt, lu.take off ++ (u.cells.toList ++ lu.drop (off + n)), ru, hnewrow, ?_, ?_, ?_⟩ (fun j hj => mem_addE.2 (.inl hj)) (fun e => by simp [Fl.or, e]) ?_, ⟨none, ?_, ⟨hf.al, fun t p hm => by simp at hm, .inl ⟨rfl, rfl⟩⟩⟩, hi.F⟩
  · cases e
    refine ⟨hmay, ?_⟩
    by_cases hn : i < cx.n0
    · exact .inr (Cx.wrOk.or' (.inr ⟨i, by rw [decide_eq_true hn]; simp, hn, .inl (by rw [← hi.G.muOld i hn]; exact hb)⟩) fl)
    · rcases hi.G.new i b (by omega) hb with h1 | h1
      · exact .inl h1
      · exact .inr (Cx.wrOk.or (.inl h1) _)
  · exact e.or _
  · intro vs t' fr' hv
    rw [hheap] at hv
    cases hv
    refine ⟨_, _, _, hnewrow, ?_⟩
    have h1 := pre_size hlr
    have h2 : u.cells.size = n := by rw [← Array.length_toList]; exact hcl.trans hlen
    simp only [List.size_toArray, List.length_append, List.length_take, List.length_drop, Array.length_toList]
    omega
  · rw [hlr]
    simp only [List.append_assoc]
    rw [List.take_append_of_le_length (by omega), List.drop_append_of_le_length (by omega)]
  · exact (hus.take off).append (hcs.append (hus.drop (off + n)))
  · simp only [List.all_append, Bool.and_eq_true]
    refine ⟨?_, hall, ?_⟩
    · simp only [List.all_eq_true] at hcell ⊢; exact fun x hx => hcell x (List.mem_of_mem_take hx)
    · simp only [List.all_eq_true] at hcell ⊢; exact fun x hx => hcell x (List.mem_of_mem_drop hx)
  · cases hx : v.lt 0
    · exact .inl (mem_addE.2 (.inr (by simp)))
    · refine .inr fun hil ox hox m hold => ?_
      rw [hci] at hox
      cases hox
      exact ltL_append (ltL_take off hold) (ltL_append (lt_flat (V.lt_mono (Nat.zero_le _) v hx)) (ltL_drop (off + n) hold))
  · have hrowget : ∀ j, (w.setRow b (us.toList.take off ++ u.cells.toList ++ us.toList.drop (off + n)).toArray).cell? ⟨b, j, none⟩ = if j < off then us[j]? else if j < off + n then u.cells[j - off]? else us[j]? := by
      intro j
      rw [cell_of_heap hnewrow]
      have := seg_get us.toList u.cells.toList off n j (hcl.trans hlen) (by have := pre_size hlr; rw [Array.length_toList]; omega)
      simpa using this
    refine hO.map (fun p q => (p = q ∧ ∀ t, tm = some t → ∀ o, q ≠ .reg t o) ∨ ∃ t j, tm = some t ∧ p = .cell i j ∧ (off ≤ j ∧ j < off + n) ∧ q = .reg t (j - off)) (fun p p' q h1 h2 => ?_) (fun p sz x hp => ?_) (fun p q b' l hR hn => ?_) (fun q sz x k hq _ hk => ⟨⟨heap k (fun e => ?_), fun _ h => h⟩, fun j hl hm => ⟨liveAt_set hl hlive, hm⟩⟩) (ImmLe.refl _) (fun r o z hm _ => by
      refine ⟨r, ?_, .inl ⟨rfl, fun t ht o' e => ?_⟩, rfl, rfl⟩
      · cases tm with
        | none => exact hm
        | some t => exact (mem_offReg.1 hm).1
      · cases e; subst ht; exact (mem_offReg.1 hm).2 rfl) (fun i' j z x q hp hz hR hq => by
      by_cases hii : i' = i
      · subst hii
        obtain ⟨cs, own, b', h1, h2, h3, h4, h5⟩ := hp
        rw [hb] at h4; cases h4
        have hilt : i' < h.length := hi.G.dom i' b hb
        simp [hset, hilt] at h1
        obtain ⟨rfl, rfl⟩ := h1
        rw [hrowget] at h5
        have hout : j < off ∨ off + n ≤ j := by
          by_cases hj : j < off
          · exact .inl hj
          · by_cases hj2 : j < off + n
            · rw [if_neg hj, if_pos hj2] at h5
              have := (hown j z x h2 (by omega) hj2 h5).1
              rw [hz] at this; cases this
            · exact .inr (by omega)
        rcases hR with ⟨rfl, _⟩ | ⟨t, j', _, e, ⟨hj1, hj2⟩, _⟩
        · refine ⟨_, _, rfl, fun xs ⟨cs, own, h6, h7⟩ => ⟨c.1.take off ++ (v.flat ++ c.1.drop (off + n)), c.2, by simp [hset, hilt], ?_⟩⟩
          rw [hci] at h6
          cases h6
          have := seg_get c.1 v.flat off n j hlen hle
          rw [List.append_assoc] at this
          rw [this]
          rcases hout with ho | ho
          · rw [if_pos ho]; exact h7
          · rw [if_neg (by omega), if_neg (by omega)]; exact h7
        · cases e; omega
      · rcases hR with ⟨rfl, _⟩ | ⟨t, j', _, e, _⟩
        · refine ⟨_, _, rfl, fun xs ⟨cs, own, h6, h7⟩ => ⟨cs, own, ?_, h7⟩⟩
          unfold hset
          rw [List.getElem?_set_ne (Ne.symm hii)]; exact h6
        · cases e; exact absurd rfl hii)
    · rcases h1 with ⟨rfl, h1⟩ | ⟨t, j, ht, rfl, hj, rfl⟩ <;> rcases h2 with ⟨rfl, h2⟩ | ⟨t', j', ht', rfl, hj', e⟩
      · rfl
      · exact absurd e (h1 t' ht' _)
      · exact absurd rfl (h2 t ht _)
      · have := (Pl.reg.inj e).2
        have : j = j' := by omega
        subst this; rfl
    · cases p with
      | reg r o =>
        obtain ⟨hm, hx⟩ := hp
        refine .inr ⟨_, sz, .inl ⟨rfl, fun t ht o' e => ?_⟩, ⟨?_, hx⟩, .inl rfl⟩
        · cases e; subst ht; exact (mem_offReg.1 hm).2 rfl
        · cases tm with
          | none => exact hm
          | some t => exact (mem_offReg.1 hm).1
      | cell i' j =>
        obtain ⟨cs, own, b', h1, h2, h3, h4, h5⟩ := hp
        by_cases hii : i' = i
        · subst hii
          rw [hb] at h4; cases h4
          have hilt : i' < h.length := hi.G.dom i' b hb
          simp [hset, hilt] at h1
          obtain ⟨_, rfl⟩ := h1
          rw [hrowget] at h5
          have outside : (j < off ∨ off + n ≤ j) → us[j]? = some x → ∃ q sz', ((Pl.cell i' j = q ∧ ∀ t, tm = some t → ∀ o, q ≠ .reg t o) ∨ ∃ t j', tm = some t ∧ Pl.cell i' j = .cell i' j' ∧ (off ≤ j' ∧ j' < off + n) ∧ q = .reg t (j' - off)) ∧ Held S.own pd h g a.tmps w q sz' x ∧ (sz' = sz ∨ (sz' = 0 ∧ isLin sz = false)) := fun hj hux => by
            refine ⟨_, sz, .inl ⟨rfl, fun t _ o e => by cases e⟩, ⟨c.1, c.2, b, hci, h2, fun d e => ?_, hb, by rw [cell_of_heap hheap]; exact hux⟩, .inl rfl⟩
            rcases hpd' with h6 | ⟨t, h6, _, h7⟩
            · rw [h6] at e; cases e
            · rw [h6] at e; cases e; omega
          by_cases hj : j < off
          · rw [if_pos hj] at h5
            exact .inr (outside (.inl hj) h5)
          · rw [if_neg hj] at h5
            by_cases hj2 : j < off + n
            · rw [if_pos hj2] at h5
              obtain ⟨hnl, hor⟩ := hown j sz x h2 (by omega) hj2 h5
              rcases hor with hfull | ⟨t, sz', ht, he, hm, hs⟩
              · exact .inl (.inl ⟨hnl, hfull⟩)
              · exact .inr ⟨.reg t (j - off), sz', .inr ⟨t, j, ht, rfl, ⟨by omega, hj2⟩, rfl⟩, ⟨hm, by rw [he]; exact h5⟩, hs.imp id fun h => ⟨h, hnl⟩⟩
            · rw [if_neg hj2] at h5
              exact .inr (outside (.inr (by omega)) h5)
        · unfold hset at h1
          rw [List.getElem?_set_ne (Ne.symm hii)] at h1
          have hbb : b' ≠ b := fun e => hii (hi.G.inj i' i b ⟨_, h1, rfl⟩ hlive (e ▸ h4) hb)
          refine .inr ⟨_, sz, .inl ⟨rfl, fun t _ o e => by cases e⟩, ⟨cs, own, b', h1, h2, fun d e => ?_, h4, by rw [← cell_same (heap b' hbb)]; exact h5⟩, .inl rfl⟩
          rcases hpd' with h6 | ⟨t, h6, _, _⟩
          · rw [h6] at e; cases e
          · rw [h6] at e; cases e; exact hii rfl
    · rcases hR with ⟨rfl, h1⟩ | ⟨t, j, ht, rfl, ⟨hj1, hj2⟩, rfl⟩
      · cases p with
        | cell i' j => exact hn
        | reg r o =>
          obtain ⟨i', j', e, _⟩ := hn
          rcases hpd' with h6 | ⟨t, h6, h7, _⟩
          · rw [h6] at e; cases e
          · rw [h6] at e; cases e
            exact absurd rfl (h1 _ h7 o)
      · obtain ⟨i', j', e, hn⟩ := hn
        rcases hpd' with h6 | ⟨t', h6, h7, h8⟩
        · rw [h6] at e; cases e
        · rw [h6] at e; cases e
          have : j = off := by omega
          subst this
          cases l
          · exact .inr hn
          · exact .inl rfl
    · subst e
      exact (hO.blk q sz x k hq hk).2.1 i hlive hb
end
end Go.Vm

/- A store; an append. -/
set_option linter.unusedVariables false
set_option linter.unusedSimpArgs false
namespace Go.Vm
attribute [local simp] evalOps_nil evalOps_cons evalOps_consg evalOp_mv evalOp_asg evalOp_pick evalOp_build evalOp_bslice evalOp_load evalOp_nilck evalOp_bin evalOp_un evalOp_conv evalOp_mkfn evalOp_slice evalOp_faddr evalOp_field evalOp_iaddr evalOp_index evalOp_lookup evalOp_extract evalOp_app evalOp_len evalOp_mn evalOp_mx evalOp_alloc evalOp_box evalOp_mkmap evalOp_store evalOp_mapupd evalOp_delete evalOp_sliceArr evalOp_call evalOp_callv evalOp_appc code_skip code_ops code_dops code_seq code_cond code_block code_exit code_ret finish_normal finish_ret
attribute [local simp] V.lt V.ltL V.flat V.pureCell V.pure V.isCell cellEq cellsEq eqV intV shV strV isShift binV unV byteV convV minV maxV foldV foldV1 fillV fillE findV putV delV isKey natOf natOr cut cellsAt mapAt mapOf loadV pickV nilckV sizeOk allSize sliceV faddrV fieldV iaddrV indexV found extractV allPure appV lenV ownHas ownOk storeC storeV samePtr appcV boxable mapupdV deleteV sliceArrV callV allLt clean bodyEnd resV one finishV runV initR
section
variable {P : Program} {R : Nat → Option Nat} {Dt : Prop} {cx : Cx Dt} {N : Nat} {hb0 : Heap} {S T : Ow} {rs : Regs} {h : Heap} {fl : Fl} {g : Gh} {a : Act} {w : World} {o : Oper} {gd vop : VOp}

theorem kill_nopd (hS : S.pd = none) (dst : Option Nat) : ∃ T, S.kill dst = some T ∧ T.pd = none ∧ (∀ x, x ∈ T.own ↔ x ∈ S.own ∧ ∀ d, dst = some d → x.1 ≠ d) ∧ (∀ x, x ∈ T.al ↔ x ∈ S.al ∧ ∀ d, dst = some d → x.1 ≠ d ∧ x.2 ≠ d) ∧ (∀ x, x ∈ T.la ↔ x ∈ S.la ∧ ∀ d, dst = some d → x.1 ≠ d ∧ x.2 ≠ d) := by
  cases dst with
  | none => exact ⟨S, rfl, hS, fun x => by simp, fun x => by simp, fun x => by simp⟩
  | some d =>
    refine ⟨⟨offReg d S.own, offPair d S.al, offPair d S.la, S.pd⟩, ?_, hS, fun x => ?_, fun x => ?_, fun x => ?_⟩
    · simp only [Ow.kill, hS, pdFree, cnd_true]
    · simp [mem_offReg]
    · simp [mem_offPair]
    · simp [mem_offPair]

theorem ownHas_mem {j sz : Nat} : ∀ {own : List (Nat × Nat)}, ownHas own j sz = true → (j, sz) ∈ own
  | [], h => by cases h
  | (k, z) :: l, h => by
    simp only [ownHas, Bool.or_eq_true, Bool.and_eq_true, decide_eq_true_eq] at h
    rcases h with ⟨rfl, rfl⟩ | h
    · simp
    · simp [ownHas_mem h]
theorem ownOk_mem {off n : Nat} {own : List (Nat × Nat)} : ∀ {l : List (Nat × Nat)}, ownOk off n own l = true → ∀ j sz, (j, sz) ∈ l → off ≤ j → j < off + n → (j - off, sz) ∈ own
  | [], _, j, sz, hm, _, _ => by simp at hm
  | (k, z) :: l, h, j, sz, hm, h1, h2 => by
    simp only [ownOk, Bool.and_eq_true, Bool.or_eq_true, Bool.not_eq_true', Bool.and_eq_false_iff, decide_eq_false_iff_not] at h
    rcases List.mem_cons.1 hm with e | hm
    · cases e
      rcases h.1 with (h3 | h3) | h3
      · omega
      · omega
      · exact ownHas_mem h3
    · exact ownOk_mem h.2 j sz hm h1 h2

theorem store_run {t : TypeId} {n b off : Nat} {us : Array Value} {tt : TypeId} {u : Value} (hn : sizeT P t = some n) (hheap : w.heap[b]? = some (.cells us tt (0, 0))) (hl : u.cells.size = n) (hle : off + n ≤ us.size) (h1 : ∀ x ∈ u.cells.toList, x.oneCell' = true) :
    (Instr.storeAt t (.pointer (some ⟨b, off, none⟩)) u).run P w = .ok () (w.setRow b (us.toList.take off ++ u.cells.toList ++ us.toList.drop (off + n)).toArray) := by
  unfold sizeT at hn
  obtain ⟨i, hi, hn⟩ := bnd_eq_some hn
  cases hn
  have hst := run_storeCells_at P b off tt u.cells.toList 0 us w hheap (by simp; omega) h1
  simp only [Nat.add_zero] at hst
  have hl2 : u.cells.toList.length = i.size := by simpa using hl
  rw [hl2] at hst
  simp [Instr.storeAt, Instr.sureAddr, storeVar, sizeOf, typeInfo, hi, hl, hst]

theorem store_ok {C : Callee} (hi : Inv cx N hb0 S rs h fl g a w) {n : Nat} {p x : Arg} {own : List (Nat × Nat)} {q : Option Nat} (htr : trOp P o.op o.type gd = some (.store n p x own q)) (hs : S.step1 R o.dst (.store n p x own q) = some T) (hd : ∀ x, o.dst = some x → x < N)
    {r : V × Heap × Fl} (hv : evalOp C cx.n0 hb0.length rs h (.store n p x own q) = some r) :
    ∃ w', (execOp a.eval o).run P w = .ok .skip w' ∧ Inv cx N hb0 T (putR o.dst r.1 rs) r.2.1 (fl.or r.2.2) g (a.put o.dst Go.undef) w' := by
  obtain ⟨t, y, z, hop, hn, hy, hz⟩ := trOp_store htr
  simp only [evalOp] at hv
  obtain ⟨hsame, hv⟩ := cnd_eq_some hv
  obtain ⟨q', hst, hv⟩ := bnd_eq_some hv
  cases hv
  have hpv := trArg_sound hi.F.regs hy
  have hxv := trArg_sound hi.F.regs hz
  unfold storeV at hst
  split at hst
  · rename_i i off hpe
    rw [hpe] at hpv
    obtain ⟨b, hb, hpe2⟩ := hpv.ptr_inv
    obtain ⟨c, hc, hst⟩ := bnd_eq_some hst
    unfold storeC at hst
    obtain ⟨hcond, hst⟩ := cnd_eq_some hst
    cases hst
    simp only [Bool.and_eq_true, decide_eq_true_eq] at hcond
    obtain ⟨⟨hlen, hle⟩, hok, hall⟩ := hcond
    obtain ⟨b', us, tt, lu, ru, hb', hheap, hlr, hus, hcell⟩ := hi.G.hr.cells hc
    rw [hb] at hb'; cases hb'
    have hcs := hxv.cells hall
    have hcl := hcs.length
    have hul := hus.length
    have hrun := store_run (P := P) (w := w) (off := off) hn hheap (u := a.eval z) (by rw [← hlen, ← hcl]; simp) (by have := pre_size hlr; omega) (hcs.oneCells hall)
    have hexec : (execOp a.eval o).run P w = .ok .skip (w.setRow b (us.toList.take off ++ (a.eval z).cells.toList ++ us.toList.drop (off + n)).toArray) := by
      unfold execOp
      rw [hop]
      simp only [Sem.run_bind, hpe2, hrun, Result.andThen_ok, Sem.run_pure]
    refine ⟨_, hexec, ?_⟩
    -- which register gives its own
    have fin : ∀ (tm : Option Nat), (∀ j sz u', (j, sz) ∈ c.2 → off ≤ j → j < off + n → (a.eval z).cells[j - off]? = some u' → isLin sz = false ∧ ((∃ ad m, u' = .slice ad m m) ∨ ∃ t sz', tm = some t ∧ a.tmps.getD t Go.undef = a.eval z ∧ (t, j - off, sz') ∈ S.own ∧ (sz' = sz ∨ sz' = 0))) →
        (S.pd = none ∨ ∃ p t, S.pd = some (p, t) ∧ tm = some t ∧ get rs p = .ptr (some (i, off)) ∧ n = 1) → T.pd = none → T.la = [] → (∀ x, x ∈ T.al → x ∈ S.al ∧ ∀ d, o.dst = some d → x.1 ≠ d ∧ x.2 ≠ d) →
        (∀ x, x ∈ T.own → x ∈ S.own ∧ (∀ d, o.dst = some d → x.1 ≠ d) ∧ ∀ t, tm = some t → x.1 ≠ t) →
        Inv cx N hb0 T (putR o.dst .undef rs) (hset h i (.cells (c.1.take off ++ ((x.val rs).flat ++ c.1.drop (off + n))) c.2)) (fl.or ⟨cnd (decide (i < cx.n0)) [i] [], cnd ((x.val rs).lt 0) [] [i], false⟩) g (a.put o.dst Go.undef) (w.setRow b (us.toList.take off ++ (a.eval z).cells.toList ++ us.toList.drop (off + n)).toArray) := by
      intro tm hown hpd hTpd hTla hTal hTown
      have h1 := store_core hi hc hb hheap hlr hus hcell hxv hlen hle hall tm hown hpd
      obtain ⟨S2, hk, k1, k2, k3, k4⟩ := kill_nopd (S := ⟨offTm S.own tm, S.al, [], none⟩) rfl o.dst
      have h2 := h1.put hd hk (u := Go.undef) .undef
      refine h2.weaken (fun x hx => (k2 x).2 ?_) (fun x hx => (k3 x).2 (hTal x hx)) (fun x hx => by rw [hTla] at hx; simp at hx) (hTpd.trans k1.symm)
      obtain ⟨e1, e2, e3⟩ := hTown x hx
      refine ⟨?_, e2⟩
      cases tm with
      | none => exact e1
      | some t => exact mem_offReg.2 ⟨e1, e3 t rfl⟩
    have noOwn : own = [] → ∀ j sz u', (j, sz) ∈ c.2 → off ≤ j → j < off + n → (a.eval z).cells[j - off]? = some u' → False := fun e j sz u' hm h1 h2 _ => by
      subst e
      have := ownOk_mem hok j sz hm h1 h2
      simp at this
    have fromReg : ∀ t, x = .r t → hasOwns t S.own own = true → noLin own = true → ∀ j sz u', (j, sz) ∈ c.2 → off ≤ j → j < off + n → (a.eval z).cells[j - off]? = some u' → isLin sz = false ∧ ((∃ ad m, u' = .slice ad m m) ∨ ∃ t' sz', some t = some t' ∧ a.tmps.getD t' Go.undef = a.eval z ∧ (t', j - off, sz') ∈ S.own ∧ (sz' = sz ∨ sz' = 0)) := fun t e ho hnl j sz u' hm h1 h2 _ => by
      subst e
      have e2 := trArg_tmp hz
      subst e2
      obtain ⟨z', h3, h4⟩ := hasOwns_mem ho _ (ownOk_mem hok j sz hm h1 h2)
      exact ⟨noLin_mem hnl (ownOk_mem hok j sz hm h1 h2), .inr ⟨t, z', rfl, rfl, h3, h4.imp id And.left⟩⟩
    -- the state behind
    have plain : S.pd = none → ∀ T0, S.kill o.dst = some T0 → T0.pd = none ∧ (∀ x, x ∈ T0.own → x ∈ S.own ∧ ∀ d, o.dst = some d → x.1 ≠ d) ∧ ∀ x, x ∈ T0.al → x ∈ S.al ∧ ∀ d, o.dst = some d → x.1 ≠ d ∧ x.2 ≠ d := fun hpd T0 hk => by
      obtain ⟨T1, hk1, k1, k2, k3, k4⟩ := kill_nopd hpd o.dst
      rw [hk1] at hk; cases hk
      exact ⟨k1, fun x hx => (k2 x).1 hx, fun x hx => (k3 x).1 hx⟩
    have other : (isNilArg x = true ∧ noLin own = true) ∨ own = [] → S.pd = none → ∀ T0, S.kill o.dst = some T0 → T = offLa T0 → Inv cx N hb0 T (putR o.dst .undef rs) (hset h i (.cells (c.1.take off ++ ((x.val rs).flat ++ c.1.drop (off + n))) c.2)) (fl.or ⟨cnd (decide (i < cx.n0)) [i] [], cnd ((x.val rs).lt 0) [] [i], false⟩) g (a.put o.dst Go.undef) (w.setRow b (us.toList.take off ++ (a.eval z).cells.toList ++ us.toList.drop (off + n)).toArray) := by
      intro hcase hpd T0 hk e
      obtain ⟨k1, k2, k3⟩ := plain hpd T0 hk
      subst e
      refine fin none (fun j sz u' hm h1 h2 hu => ?_) (.inl hpd) k1 rfl k3 (fun x hx => ⟨(k2 x hx).1, (k2 x hx).2, fun t e => by cases e⟩)
      rcases hcase with hnil | he
      · refine ⟨noLin_mem hnil.2 (ownOk_mem hok j sz hm h1 h2), .inl ?_⟩
        have e := nilArg_eval (a := a) hz hnil.1
        rw [e] at hu
        have : j - off = 0 := by
          rcases Nat.eq_zero_or_pos (j - off) with h0 | h0
          · exact h0
          · have := (Array.getElem?_eq_some_iff.1 hu).1
            simp [Value.cells] at this
            omega
        rw [this] at hu
        simp [Value.cells] at hu
        exact ⟨none, 0, hu.symm⟩
      · exact (noOwn he j sz u' hm h1 h2 hu).elim
    cases x with
    | c cv =>
      simp only [Ow.step1] at hs
      obtain ⟨hcond, hs⟩ := cnd_eq_some hs
      obtain ⟨T0, hk, hs⟩ := bnd_eq_some hs
      cases hs
      simp only [Ow.noPd, Bool.and_eq_true, Option.isNone_iff_eq_none, Bool.or_eq_true, List.isEmpty_iff] at hcond
      refine other ?_ hcond.1 T0 hk rfl
      rcases hcond.2.2 with h1 | h1
      · exact .inr h1
      · exact .inl ⟨h1.1, h1.2.2⟩
    | r tr =>
      cases q with
      | none =>
        simp only [Ow.step1] at hs
        obtain ⟨hcond, hs⟩ := cnd_eq_some hs
        obtain ⟨T0, hk, hs⟩ := bnd_eq_some hs
        simp only [Ow.noPd, Bool.and_eq_true, Option.isNone_iff_eq_none] at hcond
        cases hemp : own.isEmpty <;> rw [hemp] at hs
        · cases hs
          obtain ⟨k1, k2, k3⟩ := plain hcond.1 T0 hk
          exact fin (some tr) (fromReg tr rfl hcond.2.1 hcond.2.2) (.inl hcond.1) k1 rfl k3 (fun x hx => ⟨(k2 x (mem_offReg.1 hx).1).1, (k2 x (mem_offReg.1 hx).1).2, fun t e => by cases e; exact (mem_offReg.1 hx).2⟩)
        · cases hs
          exact other (.inr (by simpa using hemp)) hcond.1 T0 hk rfl
      | some ar =>
        simp only [Ow.step1] at hs
        split at hs
        · rename_i p' t' hpd
          obtain ⟨hcond, hs⟩ := cnd_eq_some hs
          obtain ⟨T0, hk, hs⟩ := bnd_eq_some hs
          cases hs
          simp only [Bool.and_eq_true, decide_eq_true_eq] at hcond
          obtain ⟨rfl, rfl, hpos, ho, hnl⟩ := hcond
          obtain ⟨T1, hk1, k1, k2, k3, k4⟩ := kill_nopd (S := { S with pd := none }) rfl o.dst
          rw [hk1] at hk; cases hk
          refine fin (some t') (fromReg t' rfl ho hnl) (.inr ⟨p', t', hpd, rfl, ?_, hpos⟩) k1 rfl (fun x hx => (k3 x).1 hx) (fun x hx => ⟨((k2 x).1 (mem_offReg.1 hx).1).1, ((k2 x).1 (mem_offReg.1 hx).1).2, fun t e => by cases e; exact (mem_offReg.1 hx).2⟩)
          have hs2 := hsame
          rw [hpe] at hs2
          simp only [samePtr] at hs2
          split at hs2
          · rename_i i1 o1 i2 o2 h5 h6
            simp only [Bool.and_eq_true, decide_eq_true_eq] at hs2
            cases h6
            rw [h5, hs2.1, hs2.2]
          · cases hs2
        · cases hs
  · cases hst
end
end Go.Vm

/- Rows: an append, a slice literal. -/
set_option linter.unusedVariables false
set_option linter.unusedSimpArgs false
namespace Go.Vm
attribute [local simp] evalOps_nil evalOps_cons evalOps_consg evalOp_mv evalOp_asg evalOp_pick evalOp_build evalOp_bslice evalOp_load evalOp_nilck evalOp_bin evalOp_un evalOp_conv evalOp_mkfn evalOp_slice evalOp_faddr evalOp_field evalOp_iaddr evalOp_index evalOp_lookup evalOp_extract evalOp_app evalOp_len evalOp_mn evalOp_mx evalOp_alloc evalOp_box evalOp_mkmap evalOp_store evalOp_mapupd evalOp_delete evalOp_sliceArr evalOp_call evalOp_callv evalOp_appc code_skip code_ops code_dops code_seq code_cond code_block code_exit code_ret finish_normal finish_ret
attribute [local simp] V.lt V.ltL V.flat V.pureCell V.pure V.isCell cellEq cellsEq eqV intV shV strV isShift binV unV byteV convV minV maxV foldV foldV1 fillV fillE findV putV delV isKey natOf natOr cut cellsAt mapAt mapOf loadV pickV nilckV sizeOk allSize sliceV faddrV fieldV iaddrV indexV found extractV allPure appV lenV ownHas ownOk storeC storeV samePtr appcV boxable mapupdV deleteV sliceArrV callV allLt clean bodyEnd resV one finishV runV initR
section
variable {P : Program} {R : Nat → Option Nat} {Dt : Prop} {cx : Cx Dt} {N : Nat} {hb0 : Heap} {S T : Ow} {rs : Regs} {h : Heap} {fl : Fl} {g : Gh} {a : Act} {w : World} {o : Oper} {gd vop : VOp}

theorem MemG.fl' (hm : MemG cx hb0 h fl g w) {fl' : Fl} (he : fl'.esc = fl.esc) (hw : fl.all = true → fl'.all = true := by first | exact id | (intro e; simp [Fl.or, e])) : MemG cx hb0 h fl' g w :=
  ⟨hm.hr, hm.ge, hm.immW, hm.fbl, hm.lbh, hm.muOld, hm.dom, hm.dome, hm.muW, fun i b h1 h2 => (hm.new i b h1 h2).imp id hw, hm.inj, hm.muimm, he ▸ hm.low⟩
theorem MemW.fl' (hm : MemW cx fl w) {fl' : Fl} (he : ∀ b, cx.wrOk fl b → cx.wrOk fl' b) : MemW cx fl' w := ⟨hm.os, hm.tape, hm.out, hm.drn, hm.hsz, hm.old, fun b hb => (hm.wr b hb).imp (he b) id⟩
theorem MemW.drew (hm : MemW cx fl w) : MemW cx fl w.drew := ⟨hm.os, hm.tape, hm.out, fun d => Nat.le_trans (hm.drn d) (Nat.le_succ _), hm.hsz, hm.old, hm.wr⟩
theorem MemG.drew (hm : MemG cx hb0 h fl g w) : MemG cx hb0 h fl g w.drew := ⟨⟨hm.hr.obj, hm.hr.imm, hm.hr.emp, hm.hr.siz⟩, hm.ge, hm.immW, hm.fbl, hm.lbh, hm.muOld, hm.dom, hm.dome, hm.muW, hm.new, hm.inj, hm.muimm, hm.low⟩

def Reads (w : World) (s : Value) (n : Nat) (us : List Value) : Prop :=
  (s = .slice none 0 0 ∧ n = 0 ∧ us = []) ∨ (∃ ad cap, s = .slice (some ad) 0 cap ∧ n = 0 ∧ us = []) ∨ ∃ b o cap, s = .slice (some ⟨b, o, none⟩) n cap ∧ n ≤ cap ∧ ∀ j u, us[j]? = some u → w.cell? ⟨b, o + j, none⟩ = some u
theorem CRs.oneCells {m : Imm} : ∀ {us : List Value} {vs : List V}, CRs m us vs → ∀ u ∈ us, u.oneCell' = true
  | _, _, .nil, u, hu => by simp at hu
  | _, _, .cons a b, u, hu => by
    rcases List.mem_cons.1 hu with rfl | hu
    · cases a <;> rfl
    · exact b.oneCells u hu
theorem sl_reads (hi : HRead g h w) {s : Value} {xs : List V} (hs : VR g s (.sl xs)) {size : Nat} (hz : sizeOk size xs = true) :
    ∃ us, Reads w s xs.length us ∧ us.length = xs.length * size ∧ CRs g.imm us (xs.flatMap V.flat) ∧ (∀ x ∈ xs, x.flat.length = size) ∧ (∀ b o n cap, s = .slice (some ⟨b, o, none⟩) n cap → ∀ (j : Nat) (u : Value), us[j]? = some u → g.imm b (o + j) = some u) := by
  rcases hs.sl_inv.sl_inv with ⟨rfl, rfl⟩ | ⟨ad, cap, rfl, rfl⟩ | ⟨b, o, cap, sz, us, rfl, h1, h2, h3, h4⟩
  · exact ⟨[], .inl ⟨rfl, rfl, rfl⟩, by simp, .nil, by simp, fun b o n cap e => by cases e⟩
  · exact ⟨[], .inr (.inl ⟨_, _, rfl, rfl, rfl⟩), by simp, .nil, by simp, fun b o n cap e j u hu => by simp at hu⟩
  · have hsz : ∀ x ∈ xs, x.flat.length = size := by
      cases xs with
      | nil => simp
      | cons x xs =>
        have h5 : sz = size := sizeOk_eq hz h2 (by simp)
        intro y hy; rw [← h5]; exact h2 y hy
    refine ⟨us, .inr (.inr ⟨b, o, cap, rfl, h1, fun j u hu => hi.imm _ _ _ (h3 j u hu)⟩), ?_, h4, hsz, fun b' o' n' cap' e j u hu => ?_⟩
    · rw [h4.length, flatMap_length hsz]
    · cases e; exact h3 j u hu
theorem Reads.first {s : Value} {n size : Nat} {us : List Value} (h : Reads w s n us) (hl : us.length = n * size) (w' : World) (hw : w'.heap = w.heap) : (Builtin.firstCells size n s).run P w' = .ok us.toArray w' := by
  rcases h with ⟨rfl, rfl, rfl⟩ | ⟨ad, cap, rfl, rfl, rfl⟩ | ⟨b, o, cap, rfl, _, h⟩
  · exact run_firstCells_none w' _ _ _ _
  · exact run_firstCells_some w' size 0 ad 0 cap [] (by simp) fun j v hj => by simp at hj
  · refine run_firstCells_some w' size n ⟨b, o, none⟩ n cap us hl fun j v hj => ?_
    rw [add_lit]
    have := h j v hj
    simpa [World.cell?, hw] using this
theorem Reads.len {s : Value} {n : Nat} {us : List Value} (h : Reads w s n us) (w' : World) : (Builtin.lenOf s).run P w' = .ok n w' := by
  rcases h with ⟨rfl, rfl, rfl⟩ | ⟨ad, cap, rfl, rfl, rfl⟩ | ⟨b, o, cap, rfl, _, h⟩ <;> simp [Builtin.lenOf]

section
variable {t ty e : TypeId} {i : TypeInfo} {z : Value} (ht : P.underlying t = some (.slice e)) (hie : P.info? e = some i) (hz : i.zero = some z)
include ht hie
theorem app_run_none (base : Option Addr) (n cap : Nat) (hn : n ≤ cap) {x : Value} (hx : Reads w x 0 []) : (Builtin.append_ #[t, t] ty #[.slice base n cap, x]).run P w = .ok (.slice base n cap) w := by
  have h1 := hx.len (P := P) w
  have h2 := hx.first (P := P) (size := i.size) (by simp) w rfl
  cases base <;> simp [Builtin.append_, run_underlying ht, sizeOf, typeInfo, hie, h1, h2, hn, storeCells]
theorem app_run_room (b n cap m : Nat) {cur : Array Value} {tt : TypeId} (hg : w.heap[b]? = some (.cells cur tt (0, 0))) {x : Value} {vs : List Value} (hx : Reads w x m vs) (hl : vs.length = m * i.size) (h1 : ∀ u ∈ vs, u.oneCell' = true)
    (hroom : n + m ≤ cap) (hfit : n * i.size + vs.length ≤ cur.size) :
    (Builtin.append_ #[t, t] ty #[.slice (some ⟨b, 0, none⟩) n cap, x]).run P w = .ok (.slice (some ⟨b, 0, none⟩) (n + m) cap) (w.setRow b (cur.toList.take (n * i.size) ++ vs ++ cur.toList.drop (n * i.size + vs.length)).toArray) := by
  have hlen := hx.len (P := P) w
  have hf := hx.first (P := P) (size := i.size) hl w rfl
  have hst := run_storeCells_at P b (n * i.size) tt vs 0 cur w hg (by simpa using hfit) h1
  simp only [Nat.add_zero] at hst
  simp [Builtin.append_, run_underlying ht, sizeOf, typeInfo, hie, hlen, hroom, hf, Addr.add_lit, hst]
include hz
theorem app_run_grow {ao : Option Addr} {n cap m : Nat} {us vs : List Value} (hs : Reads w (.slice ao n cap) n us) (hlu : us.length = n * i.size) {x : Value} (hx : Reads w x m vs) (hl : vs.length = m * i.size)
    (hg : cap < n + m) (hb : (n + m) * i.bytes ≤ 140737488355328) (hpos : 0 < i.bytes) :
    (Builtin.append_ #[t, t] ty #[.slice ao n cap, x]).run P w =
      .ok (.slice (some ⟨w.heap.size, 0, none⟩) (n + m) (grownCap w (n + m) cap e)) (w.drew.alloc (.cells (us.toArray ++ vs.toArray ++ Builtin.zeroCells z.cells (grownCap w (n + m) cap e - (n + m))) e)) := by
  have hlen := hx.len (P := P) w
  have hf := hx.first (P := P) (size := i.size) hl w.drew rfl
  have hfo := hs.first (P := P) (size := i.size) hlu w.drew rfl
  have hn : ¬ (n + m ≤ cap) := by omega
  have hfit := growslice_fits hg hb
  have h63 : ((n + m : Nat) : Int) ≤ 9223372036854775807 := by
    have : (n + m) * 1 ≤ (n + m) * i.bytes := Nat.mul_le_mul_left _ hpos
    omega
  have h63' : ¬ (9223372036854775807 < ((n : Int) + (m : Int))) := by omega
  have h48' : ¬ (281474976710656 < Builtin.nextslicecap (n + m) cap * i.bytes) := by omega
  simp [Builtin.append_, run_underlying ht, sizeOf, typeInfo, zeroValue, hie, hz, hlen, hn, h63', h48', Question.forced, hf, hfo, newRow, grownCap]
  congr 2
  apply Array.ext'
  simp [List.append_assoc]
end

def AppDone (P : Program) {Dt : Prop} (cx : Cx Dt) (hb0 : Heap) (h : Heap) (fl : Fl) (g : Gh) (w : World) (t ty : TypeId) (size : Nat) (su xu : Value) (v : V) (wr : List Nat) (nw : Nat → Prop) : Prop :=
    ∃ u w' g', (Builtin.append_ #[t, t] ty #[su, xu]).run P w = .ok u w' ∧ GLe g g' ∧ g'.mu = g.mu ∧ MemW cx (fl.or (.w wr)) w' ∧ MemG cx hb0 h (fl.or (.w wr)) g' w' ∧ VR g' u v ∧ OwnR w' g'.imm size u ∧
      (∀ b, ownBlk size u = some b → cx.may b ∧ (∀ j, LiveAt h j → g.mu j ≠ some b) ∧ (b < cx.w0.heap.size → nw b) ∧ (ownBlk size su = some b ∨ w.heap.size ≤ b)) ∧
      (∀ b, b < w.heap.size → ownBlk size su ≠ some b → w'.heap[b]? = w.heap[b]? ∧ ∀ k, g.imm b k = none → g'.imm b k = none) ∧ w.heap.size ≤ w'.heap.size
theorem app_core {t ty e : TypeId} {i : TypeInfo} {z : Value} (ht : P.underlying t = some (.slice e)) (hie : P.info? e = some i) (hz : i.zero = some z) (hpos : 0 < i.size) (hbp : 0 < i.bytes) (hzs : z.cells.size = i.size)
    (hW : MemW cx fl w) (hG : MemG cx hb0 h fl g w) {su xu : Value} {sv xv v : V} (hs : VR g su sv) (hx : VR g xu xv) (hv : appV i.size i.bytes sv xv = some v) (hown : OwnR w g.imm i.size su) (wr : List Nat) (nw : Nat → Prop)
    (hnl : isLin i.size = false) (hfree : ∀ b, ownBlk i.size su = some b → cx.may b ∧ (∀ j, LiveAt h j → g.mu j ≠ some b) ∧ (cx.w0.heap.size ≤ b ∨ cx.wrOk (fl.or (.w wr)) b) ∧ (b < cx.w0.heap.size → nw b)) :
    AppDone P cx hb0 h fl g w t ty i.size su xu v wr nw := by
  unfold appV at hv
  split at hv
  · rename_i xs ys
    obtain ⟨hcond, hv⟩ := cnd_eq_some hv
    cases hv
    simp only [Bool.and_eq_true, decide_eq_true_eq] at hcond
    obtain ⟨hbytes, hzx, hzy⟩ := hcond
    obtain ⟨us, hru, hlu, hcu, hsu, himu⟩ := sl_reads hG.hr hs hzx
    obtain ⟨vs, hrv, hlv, hcv, hsv, _⟩ := sl_reads hG.hr hx hzy
    have hsz : ∀ x ∈ xs ++ ys, x.flat.length = i.size := fun x hx => by
      rcases List.mem_append.1 hx with hx | hx
      · exact hsu x hx
      · exact hsv x hx
    have hflat : (xs ++ ys).flatMap V.flat = xs.flatMap V.flat ++ ys.flatMap V.flat := by simp
    obtain ⟨ao, n, cap, rfl, hfull⟩ := hown.plain hnl
    have hn : n = xs.length := by
      rcases hru with ⟨e, e2, _⟩ | ⟨ad, c, e, e2, _⟩ | ⟨b, o, c, e, _, _⟩
      · injection e with _ e _; omega
      · injection e with _ e _; omega
      · injection e with _ e _
    subst hn
    have hncap : xs.length ≤ cap := by
      rcases hfull with rfl | ⟨h1, _⟩ <;> omega
    have esc0 : (fl.or (.w wr)).esc = fl.esc := by simp [Fl.or]
    by_cases hm0 : ys = []
    · -- nothing is appended
      subst hm0
      have : vs = [] := List.length_eq_zero_iff.1 (by simpa using hlv)
      subst this
      have hr := app_run_none (P := P) (w := w) (ty := ty) ht hie ao xs.length cap hncap hrv
      refine ⟨_, w, g, hr, GLe.refl g, rfl, hW.fl' fun _ e => e.or _, hG.fl' esc0, by simpa using hs, (.inr ⟨hnl, ao, xs.length, cap, rfl, hfull⟩), fun b hb => ?_, fun b _ _ => ⟨rfl, fun _ h => h⟩, Nat.le_refl _⟩
      obtain ⟨h1, h2, _, h4⟩ := hfree b hb
      exact ⟨h1, h2, h4, .inl hb⟩
    · have hmpos : 0 < ys.length := List.length_pos_iff.2 hm0
      have grow : cap < xs.length + ys.length → AppDone P cx hb0 h fl g w t ty i.size (.slice ao xs.length cap) xu (.sl (xs ++ ys)) wr nw := fun hg => by
        have hr := app_run_grow (P := P) (w := w) (ty := ty) ht hie hz hru hlu hrv hlv hg hbytes hbp
        have hge := grownCap_ge w (xs.length + ys.length) cap e
        generalize hcap : grownCap w (xs.length + ys.length) cap e = C at hr hge
        generalize hrow : us.toArray ++ vs.toArray ++ Builtin.zeroCells z.cells (C - (xs.length + ys.length)) = row at hr
        have hrowsz : row.size = C * i.size := by
          subst hrow
          simp only [Array.size_append, List.size_toArray, size_zeroCells, hzs, hlu, hlv, ← Nat.add_mul]
          congr 1; omega
        have hlen : (us ++ vs).length = (xs.length + ys.length) * i.size := by rw [List.length_append, hlu, hlv, Nat.add_mul]
        have hrowget : ∀ (j : Nat) (u : Value), (us ++ vs)[j]? = some u → row[j]? = some u := fun j u hu => by
          have hj := (List.getElem?_eq_some_iff.1 hu).1
          subst hrow
          rw [← Array.getElem?_toList]
          simp only [Array.toList_append]
          rw [List.getElem?_append_left (by simpa using hj)]
          simpa using hu
        have hG1 := (hG.drew).frozen (us := us ++ vs) (cur := row) (t := e) hrowget hW.hsz
        have hle : GLe g (g.addImm w.heap.size 0 (us ++ vs)) := Gh.addImm_le fun k _ _ => hG.immNone (Nat.le_refl _) k
        have hnew : (w.drew.alloc (.cells row e)).heap[w.heap.size]? = some (.cells row e (0, 0)) := heap_alloc_new w.drew _
        refine ⟨_, _, _, hr, hle, rfl, ?_, hG1.fl' esc0, ?_, .inr ⟨hnl, _, _, _, rfl, ?_⟩, fun b hb => ?_, fun b hb hne => ⟨heap_alloc_old w.drew _ hb, fun k hk => ?_⟩, by rw [World.size_alloc]; exact Nat.le_succ w.heap.size⟩
        · exact (hW.drew.step (World.grownBy_alloc w.drew _ none) (fun b e => by cases e) (fun _ h => h)).fl' fun _ e => e.or _
        · refine .cell (.sl (sz := i.size) (us := us ++ vs) (by simp) hge hsz (fun j u hu => Gh.addImm_at hu) ?_)
          rw [hflat]
          exact (hcu.mono hle.imm).append (hcv.mono hle.imm)
        · rcases Nat.eq_or_lt_of_le hge with h1 | h1
          · exact .inl h1
          · refine .inr ⟨h1, hpos, w.heap.size, row, e, rfl, hnew, by rw [hrowsz]; exact Nat.le_refl _, fun k hk => ?_⟩
            have : ¬ k < 0 + (us ++ vs).length := by rw [hlen]; omega
            simp only [Gh.addImm]
            rw [if_neg (by rintro ⟨_, _, h3⟩; exact this h3)]
            exact hG.immNone (Nat.le_refl _) k
        · have hbe : b = w.heap.size := by
            simp only [ownBlk] at hb
            split at hb
            · exact (Option.some.inj hb).symm
            · cases hb
          subst hbe
          exact ⟨.inl hW.hsz, fun j hl hm => by have := (hG.muW j _ hm).1; omega, fun h1 => by have := hW.hsz; omega, .inr (Nat.le_refl _)⟩
        · rw [Gh.addImm_other (Nat.ne_of_lt hb)]; exact hk
      rcases hfull with rfl | ⟨hlt, _, b, cur, tt, rfl, hheap, hfit, hnoimm⟩
      · exact grow (by omega)
      · by_cases hroom : xs.length + ys.length ≤ cap
        · -- in place
          have hob : ownBlk i.size (.slice (some ⟨b, 0, none⟩) xs.length cap) = some b := by simp [ownBlk, hlt]
          obtain ⟨f1, f2, f3, f4⟩ := hfree b hob
          have hmul : (xs.length + ys.length) * i.size ≤ cap * i.size := Nat.mul_le_mul_right _ hroom
          have hcurfit : xs.length * i.size + vs.length ≤ cur.size := by rw [hlv, ← Nat.add_mul]; omega
          have hr := app_run_room (P := P) (w := w) (ty := ty) ht hie b xs.length cap ys.length hheap hrv hlv hcv.oneCells hroom hcurfit
          have hnewrow := setRow_heap w b cur (cur.toList.take (xs.length * i.size) ++ vs ++ cur.toList.drop (xs.length * i.size + vs.length)).toArray tt (0, 0) hheap
          have hoth : ∀ c, c ≠ b → (w.setRow b (cur.toList.take (xs.length * i.size) ++ vs ++ cur.toList.drop (xs.length * i.size + vs.length)).toArray).heap[c]? = w.heap[c]? := fun c hc => setRow_other w b c _ hc
          have hget : ∀ (j : Nat), (cur.toList.take (xs.length * i.size) ++ vs ++ cur.toList.drop (xs.length * i.size + vs.length)).toArray[j]? = if j < xs.length * i.size then cur[j]? else if j < xs.length * i.size + vs.length then vs[j - xs.length * i.size]? else cur[j]? := fun j => by
            have := seg_get cur.toList vs (xs.length * i.size) vs.length j rfl (by simpa using hcurfit)
            simpa using this
          have hG1 := hG.tail (b := b) (lo := xs.length * i.size) (us := vs) hheap f1 f2 hnoimm (by simp) hoth hnewrow (by simp only [List.size_toArray, List.length_append, List.length_take, List.length_drop, Array.length_toList]; omega) (fun k hk => by rw [hget, if_pos hk]) (fun j u hu => by
            have hj := (List.getElem?_eq_some_iff.1 hu).1
            rw [hget, if_neg (by omega), if_pos (by omega), show xs.length * i.size + j - xs.length * i.size = j by omega]; exact hu)
          have hle : GLe g (g.addImm b (xs.length * i.size) vs) := Gh.addImm_le fun k hk _ => hnoimm k hk
          refine ⟨_, _, _, hr, hle, rfl, ?_, hG1.fl' esc0, ?_, .inr ⟨hnl, _, _, _, rfl, ?_⟩, fun c hc => ?_, fun c hc hne => ?_, by simp⟩
          · refine hW.step (row := some b) ⟨rfl, rfl, rfl, by simp, fun k _ hk => hoth k (fun e => hk (e ▸ rfl))⟩ (fun c e => ?_) (fun _ e => e.or _)
            cases e
            exact ⟨f1, f3⟩
          · refine .cell (.sl (sz := i.size) (us := us ++ vs) (by simp) hroom hsz (fun j u hu => ?_) ?_)
            · rcases Nat.lt_or_ge j us.length with hj | hj
              · rw [List.getElem?_append_left hj] at hu
                exact hle.imm _ _ _ (himu b 0 _ _ rfl j u hu)
              · rw [List.getElem?_append_right hj] at hu
                have := Gh.addImm_at (g := g) (b := b) (lo := xs.length * i.size) hu
                rw [← hlu, show us.length + (j - us.length) = 0 + j by omega] at this
                rw [← hlu]
                exact this
            · rw [hflat]
              exact (hcu.mono hle.imm).append (hcv.mono hle.imm)
          · rcases Nat.eq_or_lt_of_le hroom with h1 | h1
            · exact .inl h1
            · refine .inr ⟨h1, hpos, b, _, tt, rfl, hnewrow, ?_, fun k hk => ?_⟩
              · simp only [List.size_toArray, List.length_append, List.length_take, List.length_drop, Array.length_toList]
                omega
              · simp only [Gh.addImm]
                rw [if_neg (by rintro ⟨_, _, h3⟩; rw [hlv, ← Nat.add_mul] at h3; omega)]
                exact hnoimm k (by rw [Nat.add_mul] at hk; omega)
          · have hcb : c = b := by
              simp only [ownBlk] at hc
              split at hc
              · exact (Option.some.inj hc).symm
              · cases hc
            subst hcb
            exact ⟨f1, f2, f4, .inl hob⟩
          · have hcb : c ≠ b := fun e => hne (e ▸ hob)
            exact ⟨hoth c hcb, fun k hk => by rw [Gh.addImm_other hcb]; exact hk⟩
        · exact grow (by omega)
  · cases hv
end
end Go.Vm

/- Appends and slice literals, carried out. -/
set_option linter.unusedVariables false
set_option linter.unusedSimpArgs false
namespace Go.Vm
attribute [local simp] evalOps_nil evalOps_cons evalOps_consg evalOp_mv evalOp_asg evalOp_pick evalOp_build evalOp_bslice evalOp_load evalOp_nilck evalOp_bin evalOp_un evalOp_conv evalOp_mkfn evalOp_slice evalOp_faddr evalOp_field evalOp_iaddr evalOp_index evalOp_lookup evalOp_extract evalOp_app evalOp_len evalOp_mn evalOp_mx evalOp_alloc evalOp_box evalOp_mkmap evalOp_store evalOp_mapupd evalOp_delete evalOp_sliceArr evalOp_call evalOp_callv evalOp_appc code_skip code_ops code_dops code_seq code_cond code_block code_exit code_ret finish_normal finish_ret
attribute [local simp] V.lt V.ltL V.flat V.pureCell V.pure V.isCell cellEq cellsEq eqV intV shV strV isShift binV unV byteV convV minV maxV foldV foldV1 fillV fillE findV putV delV isKey natOf natOr cut cellsAt mapAt mapOf loadV pickV nilckV sizeOk allSize sliceV faddrV fieldV iaddrV indexV found extractV allPure appV lenV ownHas ownOk storeC storeV samePtr appcV boxable mapupdV deleteV sliceArrV callV allLt clean bodyEnd resV one finishV runV initR
section
variable {P : Program} {R : Nat → Option Nat} {Dt : Prop} {cx : Cx Dt} {N : Nat} {hb0 : Heap} {S T : Ow} {rs : Regs} {h : Heap} {fl : Fl} {g : Gh} {a : Act} {w : World} {o : Oper} {gd vop : VOp}

theorem VR.slice {u : Value} {xs : List V} (hu : VR g u (.sl xs)) : u.cells = #[u] := by
  rcases hu.sl_inv.sl_inv with ⟨rfl, _⟩ | ⟨ad, cap, rfl, _⟩ | ⟨b, o, cap, sz, us, rfl, _⟩ <;> rfl

theorem app_finish {dst : Option Nat} {pd pd1 : Pd} (hi : Inv cx N hb0 S rs h fl g a w) (hO : OwnI cx S.own pd rs h g a.tmps w) {own1 : Ows} (hd : ∀ x, dst = some x → x < N) (hdown : ∀ d, dst = some d → ∀ x, x ∈ own1 → x.1 ≠ d)
    (hsub1 : ∀ x, x ∈ own1 → x ∈ S.own) (hheld : ∀ p sz u, Held own1 pd1 h g a.tmps w p sz u → Held S.own pd h g a.tmps w p sz u) (hnewp : ∀ (p : Pl) b l, p.old cx pd b l → p.old cx pd1 b l)
    {t ty : TypeId} {size : Nat} {su xu : Value} {v : V} {wr : List Nat} {nw : Nat → Prop} (hnl : isLin size = false) (hap : ∀ p sz u b, Held own1 pd1 h g a.tmps w p sz u → ownBlk sz u = some b → ownBlk size su ≠ some b) (hlt : ∀ b, ownBlk size su = some b → b < w.heap.size)
    (hfree : ∀ b, ownBlk size su = some b → ∀ j, LiveAt h j → g.mu j ≠ some b)
    (hnw : ∀ d b, dst = some d → nw b → (Pl.reg d 0).old cx pd1 b (isLin size)) (hvs : ∃ xs, v = .sl xs) (done : AppDone P cx hb0 h fl g w t ty size su xu v wr nw) :
    ∃ u w' g', (Builtin.append_ #[t, t] ty #[su, xu]).run P w = .ok u w' ∧ GLe g g' ∧ MemW cx (fl.or (.w wr)) w' ∧ MemG cx hb0 h (fl.or (.w wr)) g' w' ∧
      OwnI cx (addOwn dst 0 size ⟨own1, [], [], none⟩).own pd1 (putR dst v rs) h g' (a.put dst u).tmps w' ∧ FrI N (putR dst v rs) g' (a.put dst u) := by
  obtain ⟨u, w', g', hr, hle, hmu, hW', hG', hu, hOu, hblk, hfr, hsz⟩ := done
  obtain ⟨xs, rfl⟩ := hvs
  have back : ∀ p sz x, Held own1 pd1 h g' a.tmps w' p sz x → Held own1 pd1 h g a.tmps w p sz x := by
    intro p sz x hp
    cases p with
    | reg r off => exact hp
    | cell i j =>
      obtain ⟨cs, own, b, h1, h2, h3, h4, h5⟩ := hp
      rw [hmu] at h4
      have hlive : LiveAt h i := ⟨_, h1, rfl⟩
      refine ⟨cs, own, b, h1, h2, h3, h4, ?_⟩
      rw [← cell_same (hfr b (hi.G.muW i b h4).1 (fun hb => hfree b hb i hlive h4)).1]
      exact h5
  have h1 : OwnI cx own1 pd1 rs h g' a.tmps w' := by
    refine hO.map (fun p q => p = q) (fun _ _ _ e1 e2 => e1.trans e2.symm) (fun p sz x hp => .inr ⟨_, sz, rfl, hheld _ _ _ (back p sz x hp), .inl rfl⟩) (fun p q b l e hn => e ▸ hnewp q b l hn) (fun q sz x b hq hex hb => ?_) hle.imm (fun r off z hm _ => ⟨r, hsub1 _ hm, rfl, rfl, rfl⟩)
    obtain ⟨p, sz', e, hp, hl⟩ := hex
    subst e
    have hne := hap p sz' x b (back p sz' x hp) ((ownBlk_congr hl x).trans hb)
    obtain ⟨e1, e2⟩ := hfr b ((hO.own p sz x hq).lt hb) hne
    exact ⟨⟨e1, e2⟩, fun i hl hm => ⟨hl, by rw [hmu] at hm; exact hm⟩⟩
  have hF := (hi.F.mono hle).put hd hu
  refine ⟨u, w', g', hr, hle, hW', hG', ?_, hF⟩
  cases dst with
  | none => exact h1
  | some d =>
    have hlt' : d < a.tmps.size := by rw [hi.F.size]; exact hd d rfl
    refine (h1.put hlt' (hdown d rfl)).add (fun h => by rw [hnl] at h; cases h) fun x hx => ?_
    rw [put_get hlt', hu.slice] at hx
    have : x = u := by simpa using hx.symm
    subst this
    refine ⟨hOu, fun b hb => ?_⟩
    obtain ⟨f1, f2, f3, f4⟩ := hblk b hb
    refine ⟨f1, fun i hl hm => f2 i hl (by rw [hmu] at hm; exact hm), fun hn => hnw d b rfl (f3 hn), fun p sz' u' hp hb' => ?_⟩
    exfalso
    -- another place has that block: it had it before
    have hp2 : Held own1 pd1 h g' a.tmps w' p sz' u' := by
      cases p with
      | cell i j => exact hp
      | reg r off =>
        obtain ⟨hm, hx⟩ := hp
        rw [put_other hlt' (hdown d rfl _ hm)] at hx
        exact ⟨hm, hx⟩
    have hp3 := back p sz' u' hp2
    rcases f4 with h4 | h4
    · exact hap p sz' u' b hp3 hb' h4
    · have := (hO.own p sz' u' (hheld p sz' u' hp3)).lt hb'
      omega
theorem appV_sl {size bytes : Nat} {x y v : V} (h : appV size bytes x y = some v) : ∃ xs, v = .sl xs := by
  unfold appV at h
  split at h
  · obtain ⟨_, h⟩ := cnd_eq_some h; cases h; exact ⟨_, rfl⟩
  · cases h
theorem exec_append {y y' : Operand} {t : TypeId} (hop : o.op = .call { callee := .builtin .append, args := #[y, y'], argTypes := #[t, t] }) {u : Value} {w' : World} (hr : (Builtin.append_ #[t, t] o.type #[a.eval y, a.eval y']).run P w = .ok u w') :
    (execOp a.eval o).run P w = .ok (.value u) w' := by
  unfold execOp
  rw [hop]
  simp only [resolve, invoke, builtin, Sem.run_bind, Sem.run_pure, Result.andThen_ok]
  have : (#[y, y'].map a.eval) = #[a.eval y, a.eval y'] := by simp
  rw [this, hr]
  rfl
theorem kill_sub {dst : Option Nat} {T : Ow} (hk : S.kill dst = some T) : T.pd = S.pd ∧ (∀ x, x ∈ T.own → x ∈ S.own ∧ ∀ d, dst = some d → x.1 ≠ d) ∧ (∀ x, x ∈ T.al → x ∈ S.al ∧ ∀ d, dst = some d → x.1 ≠ d ∧ x.2 ≠ d) ∧ ∀ d, dst = some d → pdFree d S.pd = true := by
  cases dst with
  | none => cases kill_none hk; exact ⟨rfl, fun x hx => ⟨hx, fun d e => by cases e⟩, fun x hx => ⟨hx, fun d e => by cases e⟩, fun d e => by cases e⟩
  | some d =>
    obtain ⟨h1, rfl⟩ := kill_some hk
    exact ⟨rfl, fun x hx => ⟨(mem_offReg.1 hx).1, fun d' e => by cases e; exact (mem_offReg.1 hx).2⟩, fun x hx => ⟨(mem_offPair.1 hx).1, fun d' e => by cases e; exact (mem_offPair.1 hx).2⟩, fun d' e => by cases e; exact h1⟩
theorem al_put {dst : Option Nat} (hd : ∀ x, dst = some x → x < a.tmps.size) {u : Value} {t p : Nat} (h1 : ∀ d, dst = some d → t ≠ d ∧ p ≠ d) (he : a.tmps.getD t Go.undef = a.tmps.getD p Go.undef) : (a.put dst u).tmps.getD t Go.undef = (a.put dst u).tmps.getD p Go.undef := by
  cases dst with
  | none => exact he
  | some d => rw [put_other (hd d rfl) (h1 d rfl).1, put_other (hd d rfl) (h1 d rfl).2]; exact he
theorem get_put {dst : Option Nat} {v : V} {p : Nat} (h : ∀ d, dst = some d → p ≠ d) : get (putR dst v rs) p = get rs p := by
  cases dst with
  | none => rfl
  | some d => simp only [putR, get, h d rfl, decide_false, cnd_false]
theorem addOwn_mem {dst : Option Nat} {off sz : Nat} {T : Ow} {x : Nat × Nat × Nat} (hx : x ∈ (addOwn dst off sz T).own) {l : Ows} (hl : ∀ y, y ∈ T.own → y ∈ l) : x ∈ (addOwn dst off sz ⟨l, [], [], none⟩).own := by
  cases dst with
  | none => exact hl x hx
  | some d =>
    rcases List.mem_cons.1 hx with rfl | hx
    · simp [addOwn]
    · simp [addOwn, hl x hx]
theorem addOwn_al {dst : Option Nat} {off sz : Nat} {T : Ow} : (addOwn dst off sz T).al = T.al ∧ (addOwn dst off sz T).la = T.la ∧ (addOwn dst off sz T).pd = T.pd := by cases dst <;> exact ⟨rfl, rfl, rfl⟩

theorem app_ok (hi : Inv cx N hb0 S rs h fl g a w) {p : Place} {size bytes : Nat} {s x : Arg} (htr : trOp P o.op o.type gd = some (.app p size bytes s x)) (hs : S.step1 R o.dst (.app p size bytes s x) = some T) (hd : ∀ x, o.dst = some x → x < N)
    {v : V} (hv : appV size bytes (s.val rs) (x.val rs) = some v) : ∃ u w' g', (execOp a.eval o).run P w = .ok (.value u) w' ∧ GLe g g' ∧ Inv cx N hb0 T (putR o.dst v rs) h fl g' (a.put o.dst u) w' := by
  obtain ⟨y, y', t, e, i, z, hop, ht, hie, hz, rfl, rfl, hpos, hbp, hzs, hy, hy'⟩ := trOp_app (.inl ⟨p, rfl⟩) htr
  have hsv := trArg_sound hi.F.regs hy
  have hxv := trArg_sound hi.F.regs hy'
  obtain ⟨pd, hO, hf⟩ := hi.O
  have hd' : ∀ x, o.dst = some x → x < a.tmps.size := fun x e => by rw [hi.F.size]; exact hd x e
  -- the rest, once the place is known
  have fin : ∀ (own1 : Ows) (T0 : Ow), S.kill o.dst = some T0 → T = addOwn o.dst 0 i.size (offLa { T0 with own := own1 }) → (∀ x, x ∈ own1 → x ∈ T0.own) → isLin i.size = false → OwnR w g.imm i.size (a.eval y) →
      (∀ b, ownBlk i.size (a.eval y) = some b → cx.may b ∧ (∀ j, LiveAt h j → g.mu j ≠ some b) ∧ cx.w0.heap.size ≤ b) → (∀ p sz u b, Held own1 pd h g a.tmps w p sz u → ownBlk sz u = some b → ownBlk i.size (a.eval y) ≠ some b) →
      ∃ u w' g', (execOp a.eval o).run P w = .ok (.value u) w' ∧ GLe g g' ∧ Inv cx N hb0 T (putR o.dst v rs) h fl g' (a.put o.dst u) w' := by
    intro own1 T0 hk hT hsub hnl hown hfree hap
    obtain ⟨k1, k2, k3, k4⟩ := kill_sub hk
    have done := app_core (ty := o.type) ht hie hz hpos hbp hzs hi.W hi.G hsv hxv hv hown [] (fun _ => False) hnl (fun b hb => ⟨(hfree b hb).1, (hfree b hb).2.1, .inl (hfree b hb).2.2, fun h1 => by have := (hfree b hb).2.2; omega⟩)
    obtain ⟨u, w', g', hr, hle, hW', hG', hO', hF'⟩ := app_finish (dst := o.dst) (pd1 := pd) (own1 := own1) hi hO hd (fun d e x hx => (k2 x (hsub x hx)).2 d e) (fun x hx => (k2 x (hsub x hx)).1)
      (fun p sz u hp => by
        cases p with
        | cell i j => exact hp
        | reg r off => exact ⟨(k2 _ (hsub _ hp.1)).1, hp.2⟩) (fun _ _ _ hn => hn) hnl hap (fun b hb => hown.lt hb) (fun b hb => (hfree b hb).2.1) (fun _ _ _ hf => hf.elim) (appV_sl hv) done
    have ew : fl.or (.w []) = fl := by cases fl; simp [Fl.or]
    rw [ew] at hW' hG'
    refine ⟨u, w', g', exec_append hop hr, hle, hW', hG', ⟨pd, ?_, ?_⟩, hF'⟩
    · subst hT
      exact hO'.less fun x hx => addOwn_mem hx fun _ h => h
    · subst hT
      obtain ⟨q1, q2, q3⟩ := addOwn_al (dst := o.dst) (off := 0) (sz := i.size) (T := offLa { T0 with own := own1 })
      refine ⟨fun t p hm => ?_, fun t p hm => by rw [q2] at hm; simp [offLa] at hm, ?_⟩
      · rw [q1] at hm
        exact al_put hd' (fun d e => (k3 _ hm).2 d e) (hf.al t p (k3 _ hm).1)
      · rw [q3]
        show ((offLa { T0 with own := own1 }).pd = none ∧ _) ∨ _
        have : (offLa { T0 with own := own1 }).pd = S.pd := k1
        rw [this]
        rcases hf.pd with h1 | ⟨p, q, i', j', h1, h2, h3⟩
        · exact .inl h1
        · exact .inr ⟨p, q, i', j', h1, h2, by rw [get_put (fun d e => (pdFree_spec (k4 d e) h1).1)]; exact h3⟩
  cases p with
  | fresh =>
    simp only [Ow.step1] at hs
    obtain ⟨hnil, hs⟩ := cnd_eq_some hs
    obtain ⟨T0, hk, hs⟩ := bnd_eq_some hs
    cases hs
    simp only [Bool.and_eq_true, Bool.not_eq_true'] at hnil
    obtain ⟨hnil, hnl⟩ := hnil
    have e := nilArg_eval (a := a) hy hnil
    refine fin T0.own T0 hk rfl (fun _ h => h) hnl (by rw [e]; exact .full hnl) (fun b hb => by rw [e] at hb; simp [ownBlk] at hb) (fun p sz u b _ _ hb => by rw [e] at hb; simp [ownBlk] at hb)
  | reg p =>
    cases s with
    | c cv => simp only [Ow.step1, reduceCtorEq] at hs
    | r tr =>
      simp only [Ow.step1] at hs
      obtain ⟨hcond, hs⟩ := cnd_eq_some hs
      obtain ⟨T0, hk, hs⟩ := bnd_eq_some hs
      cases hs
      simp only [Bool.and_eq_true, Bool.or_eq_true, decide_eq_true_eq, Bool.not_eq_true'] at hcond
      obtain ⟨hal, ho, hpf, hnl⟩ := hcond
      have e1 := trArg_tmp hy
      subst e1
      have he : a.eval (.tmp tr) = a.tmps.getD p Go.undef := by
        rcases hal with rfl | hal
        · rfl
        · exact hf.al _ _ (hasPair_mem hal)
      obtain ⟨z', hm, hz'⟩ := hasOwn_mem ho
      have hsl : ∃ xs, (Arg.r tr).val rs = .sl xs := by
        unfold appV at hv
        split at hv
        · rename_i e1 e2; exact ⟨_, e1⟩
        · cases hv
      obtain ⟨xs, hxs⟩ := hsl
      rw [hxs] at hsv
      have hheldp : Held S.own pd h g a.tmps w (.reg p 0) z' (a.eval (.tmp tr)) := ⟨hm, by rw [← he, hsv.slice]; rfl⟩
      have hnewp : ∀ b l, ¬ (Pl.reg p 0).old cx pd b l := fun b l hb => by
        obtain ⟨i', j', e, _⟩ := hb
        rcases hf.pd with ⟨_, h2⟩ | ⟨p', d', i'', j'', h2, h3, _⟩
        · rw [h2] at e; cases e
        · rw [h3] at e; cases e
          exact (pdFree_spec hpf h2).2 rfl
      have hown : OwnR w g.imm i.size (a.eval (.tmp tr)) := by
        have := hO.own _ _ _ hheldp
        rcases hz' with rfl | ⟨rfl, _⟩
        · exact this
        · exact (this.zero hnl).1
      have hcg : ∀ u, ownBlk i.size u = ownBlk z' u := fun u => ownBlk_congr (by
        rcases hz' with rfl | ⟨rfl, _⟩
        · rfl
        · rw [hnl]; rfl) u
      refine fin (offReg p T0.own) T0 hk rfl (fun x hx => (mem_offReg.1 hx).1) hnl hown (fun b hb => ?_) (fun q sz u b hq hb hb2 => ?_)
      · rw [hcg] at hb
        obtain ⟨f1, f2, f3⟩ := hO.blk _ _ _ b hheldp hb
        exact ⟨f1, f2, Nat.le_of_not_lt fun hlt => hnewp b _ (f3 hlt)⟩
      · obtain ⟨k1, k2, k3, k4⟩ := kill_sub hk
        have hq2 : Held S.own pd h g a.tmps w q sz u := by
          cases q with
          | cell i j => exact hq
          | reg r off => exact ⟨(k2 _ (mem_offReg.1 hq.1).1).1, hq.2⟩
        rw [hcg] at hb2
        have := hO.dis _ _ _ _ _ _ b hq2 hheldp hb hb2
        subst this
        exact (mem_offReg.1 hq.1).2 rfl
theorem appc_ok (hi : Inv cx N hb0 S rs h fl g a w) {p : Nat} {size bytes : Nat} {s x : Arg} (htr : trOp P o.op o.type gd = some (.appc p size bytes s x)) (hs : S.step1 R o.dst (.appc p size bytes s x) = some T) (hd : ∀ x, o.dst = some x → x < N)
    {v : V} (hv : appV size bytes (s.val rs) (x.val rs) = some v) {wr : List Nat} (hc : appcV cx.n0 size h (get rs p) = some wr) :
    ∃ u w' g', (execOp a.eval o).run P w = .ok (.value u) w' ∧ GLe g g' ∧ Inv cx N hb0 T (putR o.dst v rs) h (fl.or (.w wr)) g' (a.put o.dst u) w' := by
  obtain ⟨y, y', t, e, i, z, hop, ht, hie, hz, rfl, rfl, hpos, hbp, hzs, hy, hy'⟩ := trOp_app (.inr ⟨p, rfl⟩) htr
  have hsv := trArg_sound hi.F.regs hy
  have hxv := trArg_sound hi.F.regs hy'
  obtain ⟨pd, hO, hf⟩ := hi.O
  have hd' : ∀ x, o.dst = some x → x < a.tmps.size := fun x e => by rw [hi.F.size]; exact hd x e
  cases s with
  | c cv => cases hdst : o.dst <;> rw [hdst] at hs <;> simp only [Ow.step1, reduceCtorEq] at hs
  | r tr =>
    cases hdst : o.dst with
    | none => rw [hdst] at hs; simp only [Ow.step1, reduceCtorEq] at hs
    | some d =>
      rw [hdst] at hs hd hd'
      simp only [Ow.step1] at hs
      obtain ⟨hcond, hs⟩ := cnd_eq_some hs
      obtain ⟨T0, hk, hs⟩ := bnd_eq_some hs
      cases hs
      simp only [Bool.and_eq_true, Ow.noPd, Option.isNone_iff_eq_none, decide_eq_true_eq, Bool.not_eq_true'] at hcond
      obtain ⟨hla, hnopd, hdp, hnl⟩ := hcond
      have hpdn : pd = none := by
        rcases hf.pd with ⟨_, h2⟩ | ⟨p', d', i'', j'', h2, h3, _⟩
        · exact h2
        · rw [hnopd] at h2; cases h2
      subst hpdn
      have e1 := trArg_tmp hy
      subst e1
      obtain ⟨b, k, hb1, hb2⟩ := hf.la _ _ (hasPair_mem hla)
      unfold appcV at hc
      split at hc
      · rename_i i' off hpe
        obtain ⟨c, hcc, hc⟩ := bnd_eq_some hc
        obtain ⟨hhas, hc⟩ := cnd_eq_some hc
        cases hc
        have hpr := hi.F.regs p
        rw [hpe] at hpr
        obtain ⟨b', hb', he⟩ := hpr.ptr_inv
        rw [hb1] at he
        cases he
        have hci := cellsAt_inv hcc
        have hheldp : Held S.own none h g a.tmps w (.cell i' k) i.size (a.eval (.tmp tr)) := ⟨c.1, c.2, b, hci, ownHas_mem hhas, fun d e => (by cases e), hb', hb2⟩
        have hown := hO.own _ _ _ hheldp
        obtain ⟨k1, k2, k3, k4⟩ := kill_sub hk
        have done := app_core (ty := o.type) (wr := cnd (decide (i' < cx.n0)) [i'] []) (nw := fun b => cx.O i' k b false) ht hie hz hpos hbp hzs hi.W hi.G hsv hxv hv hown (hnl := hnl) (hfree := fun b hb => by
          obtain ⟨f1, f2, f3⟩ := hO.blk _ _ _ b hheldp hb
          have f4 : b < cx.w0.heap.size → cx.O i' k b false := fun hlt => by
            rcases f3 hlt with h | h
            · rw [hnl] at h; cases h
            · exact h
          refine ⟨f1, f2, ?_, fun e => f4 e⟩
          by_cases hlt : b < cx.w0.heap.size
          · have hn := cx.hO _ _ _ _ (f4 hlt)
            exact .inr (Cx.wrOk.or' (.inr ⟨i', by rw [decide_eq_true hn]; simp, hn, .inr ⟨k, f4 hlt⟩⟩) fl)
          · exact .inl (Nat.le_of_not_lt hlt))
        have toOld : ∀ q sz u, Held T0.own (some (i', k, d)) h g a.tmps w q sz u → Held S.own none h g a.tmps w q sz u ∧ q ≠ .cell i' k := fun q sz u hq => by
          cases q with
          | cell i j =>
            obtain ⟨cs, own, b, h1, h2, h3, h4, h5⟩ := hq
            refine ⟨⟨cs, own, b, h1, h2, fun d e => (by cases e), h4, h5⟩, fun e => ?_⟩
            cases e
            exact h3 d rfl
          | reg r off => exact ⟨⟨(k2 _ hq.1).1, hq.2⟩, fun e => by cases e⟩
        obtain ⟨u, w', g', hr, hle, hW', hG', hO', hF'⟩ := app_finish (dst := some d) (pd1 := some (i', k, d)) (own1 := T0.own) hi hO hd (fun d' e x hx => (k2 x hx).2 d' e) (fun x hx => (k2 x hx).1)
          (fun q sz u hq => (toOld q sz u hq).1) (fun q b l hn => by
            cases q with
            | cell i j => exact hn
            | reg r off => obtain ⟨i, j, e, _⟩ := hn; cases e) hnl
          (fun q sz u b hq hb hb2 => (toOld q sz u hq).2 (hO.dis _ _ _ _ _ _ b (toOld q sz u hq).1 hheldp hb hb2)) (fun b hb => hown.lt hb) (fun b hb => (hO.blk _ _ _ b hheldp hb).2.1)
          (fun d' b e hn => by cases e; exact ⟨i', k, rfl, hn⟩) (appV_sl hv) done
        refine ⟨u, w', g', exec_append hop hr, hle, hW', hG', ⟨some (i', k, d), ?_, ?_⟩, hF'⟩
        · exact hO'.less fun x hx => addOwn_mem hx fun _ h => h
        · refine ⟨fun t p hm => ?_, fun t p hm => by simp [addOwn, offLa] at hm, .inr ⟨p, d, i', k, rfl, rfl, ?_⟩⟩
          · exact al_put hd' (fun d' e => (k3 _ hm).2 d' e) (hf.al t p (k3 _ hm).1)
          · rw [get_put (fun d' e => by cases e; exact Ne.symm hdp)]; exact hpe
      · cases hc
end
end Go.Vm

/- A slice literal. -/
set_option linter.unusedVariables false
set_option linter.unusedSimpArgs false
namespace Go.Vm
attribute [local simp] evalOps_nil evalOps_cons evalOps_consg evalOp_mv evalOp_asg evalOp_pick evalOp_build evalOp_bslice evalOp_load evalOp_nilck evalOp_bin evalOp_un evalOp_conv evalOp_mkfn evalOp_slice evalOp_faddr evalOp_field evalOp_iaddr evalOp_index evalOp_lookup evalOp_extract evalOp_app evalOp_len evalOp_mn evalOp_mx evalOp_alloc evalOp_box evalOp_mkmap evalOp_store evalOp_mapupd evalOp_delete evalOp_sliceArr evalOp_call evalOp_callv evalOp_appc code_skip code_ops code_dops code_seq code_cond code_block code_exit code_ret finish_normal finish_ret
attribute [local simp] V.lt V.ltL V.flat V.pureCell V.pure V.isCell cellEq cellsEq eqV intV shV strV isShift binV unV byteV convV minV maxV foldV foldV1 fillV fillE findV putV delV isKey natOf natOr cut cellsAt mapAt mapOf loadV pickV nilckV sizeOk allSize sliceV faddrV fieldV iaddrV indexV found extractV allPure appV lenV ownHas ownOk storeC storeV samePtr appcV boxable mapupdV deleteV sliceArrV callV allLt clean bodyEnd resV one finishV runV initR
section
variable {P : Program} {R : Nat → Option Nat} {Dt : Prop} {cx : Cx Dt} {N : Nat} {hb0 : Heap} {S T : Ow} {rs : Regs} {h : Heap} {fl : Fl} {g : Gh} {a : Act} {w : World} {o : Oper} {gd vop : VOp}

theorem Inv.row (hi : Inv cx N hb0 S rs h fl g a w) {us : List Value} {cur : Array Value} {t : TypeId} (hus : ∀ (j : Nat) (u : Value), us[j]? = some u → cur[j]? = some u) : Inv cx N hb0 S rs h fl (g.addImm w.heap.size 0 us) a (w.alloc (.cells cur t)) := by
  have hle : GLe g (g.addImm w.heap.size 0 us) := Gh.addImm_le fun k _ _ => hi.G.immNone (Nat.le_refl _) k
  have heap : ∀ b, b < w.heap.size → (w.alloc (.cells cur t)).heap[b]? = w.heap[b]? := fun b hb => heap_alloc_old w _ hb
  obtain ⟨pd, hO, hf⟩ := hi.O
  refine ⟨hi.W.step (World.grownBy_alloc w _ none) (fun b e => by cases e) (fun _ h => h), hi.G.frozen hus hi.W.hsz, ⟨pd, ?_, ⟨hf.al, fun t p hm => ?_, hf.pd⟩⟩, hi.F.mono hle⟩
  · refine hO.map (fun p q => p = q) (fun _ _ _ e1 e2 => e1.trans e2.symm) (fun p sz u hp => .inr ⟨_, sz, rfl, ?_, .inl rfl⟩) (fun p q b l e hn => e ▸ hn) (fun q sz u b hq _ hb => ⟨⟨heap b ((hO.own q sz u hq).lt hb), fun k hk => ?_⟩, fun i hl hm => ⟨hl, hm⟩⟩) hle.imm
    · cases p with
      | reg r off => exact hp
      | cell i j =>
        obtain ⟨cs, own, b, h1, h2, h3, h4, h5⟩ := hp
        exact ⟨cs, own, b, h1, h2, h3, h4, by rw [← cell_same (heap b (hi.G.muW i b h4).1)]; exact h5⟩
    · rw [Gh.addImm_other (Nat.ne_of_lt ((hO.own q sz u hq).lt hb))]; exact hk
  · obtain ⟨b, k, h1, h2⟩ := hf.la t p hm
    exact ⟨b, k, h1, by rw [cell_same (heap b (cell_lt h2))]; exact h2⟩

theorem rep_get {α : Type} {n k : Nat} {l : List α} (hl : l.length = k) (hk : 0 < k) : ∀ (n j : Nat), j < n * k → ((List.replicate n l).flatten)[j]? = l[j % k]?
  | 0, j, h => by simp at h
  | n + 1, j, h => by
    rw [List.replicate_succ, List.flatten_cons]
    by_cases hj : j < k
    · rw [List.getElem?_append_left (by omega), Nat.mod_eq_of_lt hj]
    · rw [List.getElem?_append_right (by omega), hl, rep_get (n := n) hl hk n (j - k) (by rw [Nat.add_mul] at h; omega), ← Nat.mod_eq_sub_mod (by omega)]
theorem VRs.rep {us : List Value} {vs : List V} (hu : VRs g us vs) : ∀ n, VRs g (List.replicate n us).flatten (List.replicate n vs).flatten
  | 0 => .nil
  | n + 1 => by rw [List.replicate_succ, List.replicate_succ, List.flatten_cons, List.flatten_cons]; exact hu.append (hu.rep n)
theorem zeroRow {z : Array Value} {k n : Nat} (hz : z.size = k) (hk : 0 < k) : ((Array.range (n * k)).map (z[· % z.size]!)).toList = (List.replicate n z.toList).flatten := by
  apply List.ext_getElem?
  intro j
  have hlen : ((List.replicate n z.toList).flatten).length = n * k := by simp [hz]
  by_cases hj : j < n * k
  · rw [rep_get (n := n) (by simpa using hz) hk n j hj]
    have : j % k < z.size := by rw [hz]; exact Nat.mod_lt _ hk
    simp [hj, hz]
    rw [getElem!_pos z (j % k) this, Array.getElem?_eq_getElem this]
  · rw [List.getElem?_eq_none (by simp; omega), List.getElem?_eq_none (by omega)]
theorem flatMap_replicate {n : Nat} {z : V} : (List.replicate n z).flatMap V.flat = (List.replicate n z.flat).flatten := by
  simp [List.flatMap]
theorem flatMap_set {k : Nat} {xs : List V} (hs : ∀ x ∈ xs, x.flat.length = k) {i : Nat} (hi : i < xs.length) (v : V) : (xs.set i v).flatMap V.flat = (xs.flatMap V.flat).take (i * k) ++ (v.flat ++ (xs.flatMap V.flat).drop (i * k + k)) := by
  rw [List.set_eq_take_append_cons_drop, if_pos hi, List.flatMap_append, List.flatMap_cons, ← flatMap_take i hs, ← flatMap_drop (i + 1) hs, Nat.add_mul, Nat.one_mul]
theorem fillE_keep : ∀ {ps : List (Nat × Arg)} {m : Nat} {xs xs' : List V}, incrFrom m ps = true → fillE rs xs ps = some xs' → xs'.length = xs.length ∧ ∀ j, j < m → xs'[j]? = xs[j]?
  | [], m, xs, xs', _, h => by simp only [fillE, Option.some.injEq] at h; subst h; exact ⟨rfl, fun _ _ => rfl⟩
  | (i, x) :: ps, m, xs, xs', hi, h => by
    simp only [incrFrom, Bool.and_eq_true, decide_eq_true_eq] at hi
    simp only [fillE] at h
    obtain ⟨_, h⟩ := cnd_eq_some h
    obtain ⟨h1, h2⟩ := fillE_keep hi.2 h
    refine ⟨by simpa using h1, fun j hj => ?_⟩
    rw [h2 j (by omega), List.getElem?_set_ne (by omega)]
theorem fillE_sound (hr : RR g a rs) {k : Nat} : ∀ (parts : List (Nat × Operand)) (ps : List (Nat × Arg)) (m : Nat) (us : Array Value) (xs xs' : List V), partsE parts = some ps → incrFrom m ps = true → VRs g us.toList (xs.flatMap V.flat) → (∀ x ∈ xs, x.flat.length = k) → fillE rs xs ps = some xs' →
    (∀ x ∈ xs', x.flat.length = k ∧ x.flat.all V.isCell = true) → ∃ us' : Array Value, Instr.fill (fun i => some (i * k, k)) us (realParts a parts) = some us' ∧ VRs g us'.toList (xs'.flatMap V.flat)
  | [], ps, m, us, xs, xs', hp, _, hus, _, hv, _ => by
    simp only [partsE, Option.some.injEq] at hp
    subst hp
    simp only [fillE, Option.some.injEq] at hv
    subst hv
    exact ⟨us, rfl, hus⟩
  | (i, y) :: parts, ps, m, us, xs, xs', hp, hinc, hus, hs, hv, hall => by
    simp only [partsE] at hp
    obtain ⟨x, hx, hp⟩ := bnd_eq_some hp
    obtain ⟨l, hl, hp⟩ := bnd_eq_some hp
    cases hp
    simp only [incrFrom, Bool.and_eq_true, decide_eq_true_eq] at hinc
    simp only [fillE] at hv
    obtain ⟨hlt, hv⟩ := cnd_eq_some hv
    have hlt := of_decide_eq_true hlt
    obtain ⟨hlen, hkeep⟩ := fillE_keep hinc.2 hv
    have hmem : x.val rs ∈ xs' := by
      have := hkeep i (by omega)
      rw [List.getElem?_set_self hlt] at this
      exact List.mem_of_getElem? this
    obtain ⟨hsz, hcell⟩ := hall _ hmem
    have hle : i * k + k ≤ (xs.flatMap V.flat).length := by
      rw [flatMap_length hs, ← Nat.succ_mul]
      exact Nat.mul_le_mul_right _ hlt
    obtain ⟨us1, e1, h1⟩ := fill_one (place := fun i => some (i * k, k)) (i := i) rfl (trArg_sound hr hx) hcell hsz hus hle (realParts a parts)
    rw [← flatMap_set hs hlt] at h1
    obtain ⟨us', e2, h2⟩ := fillE_sound hr parts l (i + 1) us1 _ xs' hl hinc.2 h1 (fun z hz => by
      rcases List.mem_or_eq_of_mem_set hz with hz | rfl
      · exact hs z hz
      · exact hsz) hv hall
    exact ⟨us', by show Instr.fill _ us ((i, a.eval y) :: realParts a parts) = _; rw [e1, e2], h2⟩
theorem pure_cells {v : V} (h : v.pure = true) : v.flat.all V.isCell = true := by
  cases v with
  | agg cs =>
    simp only [V.pure, V.flat, List.all_eq_true] at h ⊢
    exact fun x hx => V.pureCell_isCell (h x hx)
  | _ => first
    | (simp [V.pure, V.pureCell] at h; done)
    | simp [V.flat]

theorem bslice_run (hi : Inv cx N hb0 S rs h fl g a w) {z : V} {k n : Nat} {ps : List (Nat × Arg)} {t e : TypeId} {parts : Array (Nat × Operand)} {zv : Value} (hop : o.op = .buildSlice t n parts) (ht : sliceT P t = some e) (hz : zeroT P e = some zv) (hzv : trConst zv = some z) (hk : sizeT P e = some k) (hp : partsE parts.toList = some ps) (hpos : 0 < k) (hsmall : n * k ≤ 65536) (hzsz : zv.cells.size = k)
    (hinc : incrFrom 0 ps = true) {xs : List V} (hfill : fillE rs (List.replicate n z) ps = some xs) (hcond : (allPure xs && allSize k xs) = true) :
    ∃ us' : Array Value, (execOp a.eval o).run P w = .ok (.value (.slice (some ⟨w.heap.size, 0, none⟩) n n)) (w.alloc (.cells us' e)) ∧ CRs g.imm us'.toList (xs.flatMap V.flat) ∧ xs.length = n ∧ (∀ x ∈ xs, x.flat.length = k) := by
  simp only [Bool.and_eq_true] at hcond
  have hpure := allPure_mem hcond.1
  have hsize := allSize_mem hcond.2
  unfold sliceT at ht
  split at ht
  · rename_i e' ht'
    cases ht
    unfold sizeT at hk
    obtain ⟨i, hie, hk⟩ := bnd_eq_some hk
    cases hk
    unfold zeroT at hz
    obtain ⟨i', hie', hz⟩ := bnd_eq_some hz
    rw [hie] at hie'; cases hie'
    have hzr := trConst_sound (g := g) hzv
    -- the zero element's cells
    have hzc : VRs g zv.cells.toList z.flat := by
      unfold trConst at hzv
      split at hzv
      · obtain ⟨l, hl, hzv⟩ := bnd_eq_some hzv
        cases hzv
        exact (trVals_sound (m := g.imm) hl).vrs
      · have hc := trVal_sound (m := g.imm) hzv
        exact hzr.cells (by cases hc <;> rfl)
    have hzl : z.flat.length = i.size := by rw [← hzc.length]; simpa using hzsz
    have hrow : VRs g ((Array.range (n * i.size)).map (zv.cells[· % zv.cells.size]!)).toList ((List.replicate n z).flatMap V.flat) := by
      rw [zeroRow hzsz hpos, flatMap_replicate]
      exact hzc.rep n
    obtain ⟨us', hf, hus'⟩ := fillE_sound hi.F.regs parts.toList ps 0 _ (List.replicate n z) xs hp hinc hrow (fun x hx => by rw [List.eq_of_mem_replicate hx]; exact hzl) hfill (fun x hx => ⟨hsize x hx, pure_cells (hpure x hx)⟩)
    have hxlen : xs.length = n := by have := (fillE_keep hinc hfill).1; simpa using this
    have hpc : CRs g.imm us'.toList (xs.flatMap V.flat) := by
      refine hus'.pureCells ?_
      simp only [List.all_eq_true, List.mem_flatMap]
      rintro y ⟨x, hx, hy⟩
      have := hpure x hx
      cases x with
      | agg cs => simp only [V.pure, List.all_eq_true] at this; exact this y hy
      | _ => simp only [V.flat, List.mem_singleton] at hy; subst hy; exact this
    refine ⟨us', ?_, hpc, hxlen, hsize⟩
    have hm : (parts.map fun p => (p.1, a.eval p.2)).toList = realParts a parts.toList := by simp [realParts]
    have hf2 : Instr.fill (fun j => some (j * i.size, i.size)) ((Array.range (n * i.size)).map (zv.cells[· % zv.cells.size]!)) (parts.map fun p => (p.1, a.eval p.2)).toList = some us' := by rw [hm]; exact hf
    unfold execOp
    rw [hop]
    have h24 : ¬ (n * i.size > 2 ^ 24) := by omega
    by_cases hn0 : n = 0
    · subst hn0
      simp only [Nat.zero_mul] at hf2
      have e0 : (Array.map (fun x => zv.cells[x % zv.cells.size]!) (Array.range 0)) = #[] := by simp
      rw [e0] at hf2
      have hf3 : Instr.fill (fun j => some (j * i.size, i.size)) #[] (List.map (fun x => (x.1, a.eval x.2)) parts.toList) = some us' := by rw [← hf2]; simp
      have e1 : ∀ f : Nat → Value, Array.map f (Array.range 0) = #[] := fun f => Array.eq_empty_of_size_eq_zero (by simp)
      simp [Instr.buildSlice, run_underlying ht', sizeOf, typeInfo, hie, hf3, newRow, e1]
    · have hnz : ¬ (n * i.size = 0) := by
        intro e0
        rcases Nat.mul_eq_zero.1 e0 with h3 | h3 <;> omega
      have : (Instr.buildSlice t n (parts.map fun p => (p.1, a.eval p.2))).run P w = .ok (.slice (some ⟨w.heap.size, 0, none⟩) n n) (w.alloc (.cells us' e)) := by
        have hf3 : Instr.fill (fun j => some (j * i.size, i.size)) (Array.map (fun x => zv.cells[x % zv.cells.size]!) (Array.range (n * i.size))) (List.map (fun x => (x.1, a.eval x.2)) parts.toList) = some us' := by rw [← hf2]; simp
        simp [Instr.buildSlice, run_underlying ht', sizeOf, typeInfo, zeroValue, hie, hz, h24, hnz, hf3, newRow]
      simp only [Sem.run_bind, this, Result.andThen_ok, Sem.run_pure]
  · cases ht
theorem bslice_ok (hi : Inv cx N hb0 S rs h fl g a w) {z : V} {k n : Nat} {ps : List (Nat × Arg)} (htr : trOp P o.op o.type gd = some (.bslice z k n ps)) (hs : S.step1 R o.dst (.bslice z k n ps) = some T) (hd : ∀ x, o.dst = some x → x < N)
    {v : V} (hv : valOp h rs (.bslice z k n ps) = some v) : ∃ u w' g', (execOp a.eval o).run P w = .ok (.value u) w' ∧ GLe g g' ∧ Inv cx N hb0 T (putR o.dst v rs) h fl g' (a.put o.dst u) w' := by
  obtain ⟨t, parts, e, zv, hop, ht, hz, hzv, hk, hp, hpos, hsmall, hzsz⟩ := trOp_bslice htr
  simp only [Ow.step1] at hs
  obtain ⟨hinc, hs⟩ := cnd_eq_some hs
  obtain ⟨T0, hkill, hs⟩ := bnd_eq_some hs
  cases hs
  simp only [valOp] at hv
  obtain ⟨xs, hfill, hv⟩ := bnd_eq_some hv
  obtain ⟨hcond, hv⟩ := cnd_eq_some hv
  cases hv
  obtain ⟨us', hrun, hpc, hxlen, hsize⟩ := bslice_run hi hop ht hz hzv hk hp hpos hsmall hzsz hinc hfill hcond
  have h1 := hi.row (us := us'.toList) (cur := us') (t := e) (fun j u hu => by simpa using hu)
  have hle : GLe g (g.addImm w.heap.size 0 us'.toList) := Gh.addImm_le fun k _ _ => hi.G.immNone (Nat.le_refl _) k
  have hu : VR (g.addImm w.heap.size 0 us'.toList) (.slice (some ⟨w.heap.size, 0, none⟩) n n) (.sl xs) :=
    .cell (.sl (sz := k) hxlen.symm (by omega) hsize (fun j u hu => Gh.addImm_at hu) (hpc.mono hle.imm))
  have h2 := h1.put hd hkill hu
  have hlt : ∀ d, o.dst = some d → d < a.tmps.size := fun d e => by rw [hi.F.size]; exact hd d e
  refine ⟨_, _, _, hrun, hle, h2.addFull isLin_zero fun d e x hx => ?_⟩
  rw [e, put_get (hlt d e)] at hx
  exact ⟨_, n, by simpa [Value.cells] using hx.symm⟩
end
end Go.Vm

