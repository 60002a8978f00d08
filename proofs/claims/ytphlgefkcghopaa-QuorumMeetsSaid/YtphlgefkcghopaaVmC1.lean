/- The invariant of a run: how a state of the V-machine stands to a frame and a world; who may write where. -/
import Derived.Test.YtphlgefkcghopaaVmB6
set_option linter.unusedVariables false
set_option linter.unusedSimpArgs false
namespace Go.Vm
attribute [local simp] evalOps_nil evalOps_cons evalOps_consg evalOp_mv evalOp_asg evalOp_pick evalOp_build evalOp_bslice evalOp_load evalOp_nilck evalOp_bin evalOp_un evalOp_conv evalOp_mkfn evalOp_slice evalOp_faddr evalOp_field evalOp_iaddr evalOp_index evalOp_lookup evalOp_extract evalOp_app evalOp_len evalOp_mn evalOp_mx evalOp_alloc evalOp_box evalOp_mkmap evalOp_store evalOp_mapupd evalOp_delete evalOp_sliceArr evalOp_call evalOp_callv evalOp_appc code_skip code_ops code_dops code_seq code_cond code_block code_exit code_ret finish_normal finish_ret
attribute [local simp] V.lt V.ltL V.flat V.pureCell V.pure V.isCell cellEq cellsEq eqV intV shV strV isShift binV unV byteV convV minV maxV foldV foldV1 fillV fillE findV putV delV isKey natOf natOr cut cellsAt mapAt mapOf loadV pickV nilckV sizeOk allSize sliceV faddrV fieldV iaddrV indexV found extractV allPure appV lenV ownHas ownOk storeC storeV samePtr appcV boxable mapupdV deleteV sliceArrV callV allLt clean bodyEnd resV one finishV runV initR

/-- What a call is made in: the world and the cells as they were then, which older blocks it may write, how many objects there were; which blocks the older objects' own slices had. -/
structure Cx where
  w0 : World
  g0 : Gh
  n0 : Nat
  W : Nat → Prop
  O : Nat → Nat → Nat → Prop
  hO : ∀ i j b, O i j b → i < n0
/-- A block that the call may write: one of those, or a new one. -/
def Cx.may (cx : Cx) (b : Nat) : Prop := cx.w0.heap.size ≤ b ∨ cx.W b

def LiveAt (h : Heap) (i : Nat) : Prop := ∃ o, h[i]? = some o ∧ o.live = true
def pairsLt (n : Nat) : List (V × V) → Bool
  | [] => true
  | (k, v) :: es => (k.lt n && v.lt n) && pairsLt n es
def Obj.lt (n : Nat) : Obj → Bool
  | .cells cs _ => V.ltL n cs
  | .map es => pairsLt n es
  | .dead => true

/-- What a call has done to the world so far. -/
structure MemW (cx : Cx) (fl : Fl) (w : World) : Prop where
  os : w.os = cx.w0.os
  tape : w.tape = cx.w0.tape
  out : w.output = cx.w0.output
  hsz : cx.w0.heap.size ≤ w.heap.size
  old : ∀ b, b < cx.w0.heap.size → ¬ cx.W b → w.heap[b]? = cx.w0.heap[b]?
  wr : fl.wr = false → ∀ b, b < cx.w0.heap.size → w.heap[b]? = cx.w0.heap[b]?
/-- The abstract heap over memory. -/
structure MemG (cx : Cx) (hb : Heap) (h : Heap) (fl : Fl) (g : Gh) (w : World) : Prop where
  hr : HRead g h w
  ge : GLe (cx.g0.trim cx.n0) g
  immW : ∀ b o, b < cx.w0.heap.size → ¬ cx.W b → g.imm b o = cx.g0.imm b o
  fbl : cx.n0 ≤ hb.length
  lbh : hb.length ≤ h.length
  muOld : ∀ i, i < cx.n0 → g.mu i = cx.g0.mu i
  dom : ∀ i b, g.mu i = some b → i < h.length
  muW : ∀ i b, g.mu i = some b → b < w.heap.size ∧ (LiveAt h i → cx.may b)
  new : ∀ i b, cx.n0 ≤ i → g.mu i = some b → cx.w0.heap.size ≤ b
  inj : ∀ i j b, LiveAt h i → LiveAt h j → g.mu i = some b → g.mu j = some b → i = j
  muimm : ∀ i b, LiveAt h i → g.mu i = some b → ∀ k, g.imm b k = none
  low : fl.esc = true ∨ ∀ (i : Nat) (o : Obj), i < hb.length → h[i]? = some o → ∃ ob : Obj, hb[i]? = some ob ∧ ∀ m, ob.lt m = true → o.lt m = true

/-- A slice that an append may write behind: it is full, or its block is free behind it. -/
def OwnR (w : World) (imm : Imm) (sz : Nat) (u : Value) : Prop :=
  ∃ a n cap, u = .slice a n cap ∧ (n = cap ∨ (n < cap ∧ 0 < sz ∧ ∃ b cur t, a = some ⟨b, 0, none⟩ ∧ w.heap[b]? = some (.cells cur t (0, 0)) ∧ cap * sz ≤ cur.size ∧ ∀ k, n * sz ≤ k → imm b k = none))
/-- The block that it would write. -/
def ownBlk : Value → Option Nat
  | .slice (some a) n cap => if n < cap then some a.block else none
  | _ => none
theorem OwnR.blk {w : World} {imm : Imm} {sz : Nat} {u : Value} (h : OwnR w imm sz u) {b : Nat} (hb : ownBlk u = some b) :
    0 < sz ∧ ∃ n cap cur t, u = .slice (some ⟨b, 0, none⟩) n cap ∧ n < cap ∧ w.heap[b]? = some (.cells cur t (0, 0)) ∧ cap * sz ≤ cur.size ∧ ∀ k, n * sz ≤ k → imm b k = none := by
  obtain ⟨a, n, cap, rfl, h⟩ := h
  rcases h with rfl | ⟨hn, hs, b', cur, t, rfl, h1, h2, h3⟩
  · cases a <;> simp [ownBlk] at hb
  · simp only [ownBlk, hn, if_true, Option.some.injEq] at hb
    subst hb
    exact ⟨hs, n, cap, cur, t, rfl, hn, h1, h2, h3⟩
theorem OwnR.full {w : World} {imm : Imm} {sz : Nat} {a : Option Addr} {n : Nat} : OwnR w imm sz (.slice a n n) := ⟨a, n, n, rfl, .inl rfl⟩
theorem OwnR.zero {w : World} {imm : Imm} {sz : Nat} {u : Value} (h : OwnR w imm 0 u) : OwnR w imm sz u ∧ ownBlk u = none := by
  obtain ⟨a, n, cap, rfl, h⟩ := h
  rcases h with rfl | ⟨_, h, _⟩
  · exact ⟨.full, by cases a <;> simp [ownBlk]⟩
  · omega
theorem OwnR.none {w : World} {imm : Imm} {sz sz' : Nat} {u : Value} (h : OwnR w imm sz u) (hb : ownBlk u = .none) : OwnR w imm sz' u := by
  obtain ⟨a, n, cap, rfl, h⟩ := h
  rcases h with rfl | ⟨hn, _, b', cur, t, rfl, _⟩
  · exact .full
  · simp [ownBlk, hn] at hb
theorem OwnR.move {w w' : World} {imm imm' : Imm} {sz : Nat} {u : Value} (h : OwnR w imm sz u) (hw : ∀ b, ownBlk u = some b → w'.heap[b]? = w.heap[b]? ∧ ∀ k, imm b k = Option.none → imm' b k = Option.none) : OwnR w' imm' sz u := by
  cases hb : ownBlk u with
  | none =>
    obtain ⟨a, n, cap, rfl, h⟩ := h
    rcases h with rfl | ⟨hn, _, b', cur, t, rfl, _⟩
    · exact .full
    · simp [ownBlk, hn] at hb
  | some b =>
    obtain ⟨hs, n, cap, cur, t, rfl, hn, h1, h2, h3⟩ := h.blk hb
    obtain ⟨e1, e2⟩ := hw b hb
    exact ⟨_, n, cap, rfl, .inr ⟨hn, hs, b, cur, t, rfl, e1.trans h1, h2, fun k hk => e2 k (h3 k hk)⟩⟩

/-- Who may append: a register (at one of its value's cells), a cell of an object. -/
inductive Pl where
  | reg (r off : Nat)
  | cell (i j : Nat)
/-- The cell whose slice has been taken and is not yet put back; the register that has it. -/
abbrev Pd := Option (Nat × Nat × Nat)
def Held (ow : List (Nat × Nat × Nat)) (pd : Pd) (h : Heap) (g : Gh) (tmps : Array Value) (w : World) : Pl → Nat → Value → Prop
  | .reg r off, sz, u => (r, off, sz) ∈ ow ∧ (tmps.getD r Go.undef).cells[off]? = some u
  | .cell i j, sz, u => ∃ cs own b, h[i]? = some (.cells cs own) ∧ (j, sz) ∈ own ∧ (∀ d, pd ≠ some (i, j, d)) ∧ g.mu i = some b ∧ w.cell? ⟨b, j, none⟩ = some u
/-- The block was the cell's own when the call began. -/
def Pl.old (cx : Cx) (pd : Pd) (b : Nat) : Pl → Prop
  | .reg r _ => ∃ i j, pd = some (i, j, r) ∧ cx.O i j b
  | .cell i j => cx.O i j b
structure OwnI (cx : Cx) (ow : List (Nat × Nat × Nat)) (pd : Pd) (h : Heap) (g : Gh) (tmps : Array Value) (w : World) : Prop where
  own : ∀ p sz u, Held ow pd h g tmps w p sz u → OwnR w g.imm sz u
  blk : ∀ p sz u b, Held ow pd h g tmps w p sz u → ownBlk u = some b → cx.may b ∧ (∀ i, LiveAt h i → g.mu i ≠ some b) ∧ (b < cx.w0.heap.size → p.old cx pd b)
  dis : ∀ p q sz sz' u u' b, Held ow pd h g tmps w p sz u → Held ow pd h g tmps w q sz' u' → ownBlk u = some b → ownBlk u' = some b → p = q

structure FrI (N : Nat) (rs : Regs) (g : Gh) (a : Act) : Prop where
  size : a.tmps.size = N
  nodef : a.defers = []
  regs : RR g a rs

/-! ### a register is written -/
theorem getD_put {a : Act} {d r : Nat} {u : Value} (hd : d < a.tmps.size) : (a.put (some d) u).tmps.getD r Go.undef = if r = d then u else a.tmps.getD r Go.undef := by
  simp only [Act.put, Array.getD_eq_getD_getElem?, Array.getElem?_setIfInBounds]
  by_cases h : r = d
  · subst h; simp [hd]
  · have : ¬ d = r := fun e => h e.symm
    simp [h, this]
theorem RR.put {g : Gh} {a : Act} {rs : Regs} (hr : RR g a rs) {d : Nat} (hd : d < a.tmps.size) {u : Value} {v : V} (hu : VR g u v) : RR g (a.put (some d) u) (putR (some d) v rs) := by
  intro r
  rw [getD_put hd]
  simp only [putR, get]
  by_cases h : r = d
  · subst h; simpa using hu
  · simpa [h] using hr r
theorem FrI.put {N : Nat} {rs : Regs} {g : Gh} {a : Act} (h : FrI N rs g a) {d : Option Nat} (hd : ∀ x, d = some x → x < N) {u : Value} {v : V} (hu : VR g u v) : FrI N (putR d v rs) g (a.put d u) := by
  cases d with
  | none => exact ⟨h.size, h.nodef, h.regs⟩
  | some d =>
    have hlt : d < a.tmps.size := by rw [h.size]; exact hd d rfl
    exact ⟨by simp only [Act.put, Array.size_setIfInBounds]; exact h.size, h.nodef, h.regs.put hlt hu⟩
theorem FrI.mono {N : Nat} {rs : Regs} {g g' : Gh} {a : Act} (h : FrI N rs g a) (hg : GLe g g') : FrI N rs g' a := ⟨h.size, h.nodef, fun r => (h.regs r).mono hg⟩

end Go.Vm
