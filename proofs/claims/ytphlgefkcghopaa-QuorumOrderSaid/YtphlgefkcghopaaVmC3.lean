/- Who may append: a check of each function's text, and what it keeps true. -/
import Derived.Test.YtphlgefkcghopaaVmC2
set_option linter.unusedVariables false
set_option linter.unusedSimpArgs false
namespace Go.Vm
attribute [local simp] evalOps_nil evalOps_cons evalOps_consg evalOp_mv evalOp_asg evalOp_pick evalOp_build evalOp_bslice evalOp_load evalOp_nilck evalOp_bin evalOp_un evalOp_conv evalOp_mkfn evalOp_slice evalOp_faddr evalOp_field evalOp_iaddr evalOp_index evalOp_lookup evalOp_extract evalOp_app evalOp_len evalOp_mn evalOp_mx evalOp_alloc evalOp_box evalOp_mkmap evalOp_store evalOp_mapupd evalOp_delete evalOp_sliceArr evalOp_call evalOp_callv evalOp_appc code_skip code_ops code_dops code_seq code_cond code_block code_exit code_ret finish_normal finish_ret
attribute [local simp] V.lt V.ltL V.flat V.pureCell V.pure V.isCell cellEq cellsEq eqV intV shV strV isShift binV unV byteV convV minV maxV foldV foldV1 fillV fillE findV putV delV isKey natOf natOr cut cellsAt mapAt mapOf loadV pickV nilckV sizeOk allSize sliceV faddrV fieldV iaddrV indexV found extractV allPure appV lenV ownHas ownOk storeC storeV samePtr appcV boxable mapupdV deleteV sliceArrV callV allLt clean bodyEnd resV one finishV runV initR

abbrev Ows := List (Nat × Nat × Nat)
/-- What is known behind an operation: registers with slices of their own (at which cell, of what size of element; 0: full); registers with one value; registers that hold what a cell holds; the cell whose slice a register has taken. -/
structure Ow where
  own : Ows
  al : List (Nat × Nat)
  la : List (Nat × Nat)
  pd : Option (Nat × Nat)

def offReg (r : Nat) (l : Ows) : Ows := l.filter fun x => decide (x.1 ≠ r)
def offPair (r : Nat) (l : List (Nat × Nat)) : List (Nat × Nat) := l.filter fun x => decide (x.1 ≠ r) && decide (x.2 ≠ r)
def pdFree (r : Nat) : Option (Nat × Nat) → Bool
  | none => true
  | some (a, q) => decide (a ≠ r) && decide (q ≠ r)
def Ow.kill (S : Ow) : Option Nat → Option Ow
  | none => some S
  | some d => cnd (pdFree d S.pd) (some ⟨offReg d S.own, offPair d S.al, offPair d S.la, S.pd⟩) none
/-- A register has its own at the cell. -/
def hasOwn (r off sz : Nat) : Ows → Bool
  | [] => false
  | (q, o, z) :: l => (decide (q = r) && decide (o = off) && (decide (z = sz) || decide (z = 0))) || hasOwn r off sz l
def hasPair (t p : Nat) : List (Nat × Nat) → Bool
  | [] => false
  | (x, y) :: l => (decide (x = t) && decide (y = p)) || hasPair t p l
def hasOwns (t : Nat) (own : Ows) : List (Nat × Nat) → Bool
  | [] => true
  | (off, sz) :: l => hasOwn t off sz own && hasOwns t own l
def moved (p d : Nat) (l : Ows) : Ows := offReg p l ++ (l.filter fun x => decide (x.1 = p)).map fun x => (d, x.2)
def addOwn (d : Option Nat) (off sz : Nat) (S : Ow) : Ow :=
  match d with
  | none => S
  | some d => { S with own := (d, off, sz) :: S.own }
def isNilArg : Arg → Bool
  | .c (.sl []) => true
  | _ => false
def Ow.noPd (S : Ow) : Bool := S.pd.isNone
def offLa (S : Ow) : Ow := { S with la := [] }

/-- At those cells there are nil slices. -/
def ownNil (cs : List V) : List (Nat × Nat) → Bool
  | [] => true
  | (j, _) :: l => (match cs[j]? with | some (.sl []) => true | _ => false) && ownNil cs l
def incrFrom (m : Nat) : List (Nat × Arg) → Bool
  | [] => true
  | (i, _) :: l => decide (m ≤ i) && incrFrom (i + 1) l
/-- What an operation does to that. R: which functions hand back a slice of their caller's own. -/
def Ow.step1 (R : Nat → Option Nat) (S : Ow) (dst : Option Nat) : VOp → Option Ow
  | .mv (.r p) => bnd (S.kill dst) fun T => match dst with
    | some d => cnd (decide (d = p)) (some T) (some { T with al := (d, p) :: T.al })
    | none => some T
  | .asg (.r p) => bnd (S.kill dst) fun T => match dst with
    | some d => cnd (decide (d = p)) (some T) (cnd (pdFree p S.pd) (some { T with own := moved p d T.own }) none)
    | none => some T
  | .mv x | .asg x => bnd (S.kill dst) fun T => some (cnd (isNilArg x) (addOwn dst 0 0 T) T)
  | .load false 1 (.r p) => bnd (S.kill dst) fun T => match dst with
    | some d => cnd (decide (d = p)) (some T) (some { T with la := (d, p) :: T.la })
    | none => some T
  | .alloc cs own => cnd (ownNil cs own) (S.kill dst) none
  | .bslice _ _ _ ps => cnd (incrFrom 0 ps) (bnd (S.kill dst) fun T => some (addOwn dst 0 0 T)) none
  | .app .fresh size _ s _ => cnd (isNilArg s) (bnd (S.kill dst) fun T => some (addOwn dst 0 size (offLa T))) none
  | .app (.reg p) size _ (.r t) _ => cnd ((decide (t = p) || hasPair t p S.al) && (hasOwn p 0 size S.own && pdFree p S.pd))
      (bnd (S.kill dst) fun T => some (addOwn dst 0 size (offLa { T with own := offReg p T.own }))) none
  | .appc p size _ (.r t) _ => match dst with
    | some d => cnd (hasPair t p S.la && (S.noPd && decide (d ≠ p))) (bnd (S.kill dst) fun T => some { addOwn dst 0 size (offLa T) with pd := some (p, d) }) none
    | none => none
  | .app _ _ _ _ _ | .appc _ _ _ _ _ => none
  | .store n _ (.r t) own (some p) => match S.pd with
    | some (p', t') => cnd (decide (p' = p) && (decide (t' = t) && (decide (n = 1) && hasOwns t S.own own))) (bnd (Ow.kill { S with pd := none } dst) fun T => some (offLa { T with own := offReg t T.own })) none
    | none => none
  | .store _ _ (.r t) own none => cnd (S.noPd && hasOwns t S.own own) (bnd (S.kill dst) fun T => some (offLa (cnd own.isEmpty T { T with own := offReg t T.own }))) none
  | .store _ _ x own p => cnd (S.noPd && (p.isNone && (own.isEmpty || (isNilArg x && own.all fun y => decide (y.1 = 0))))) (bnd (S.kill dst) fun T => some (offLa T)) none
  | .call _ f _ => cnd S.noPd (bnd (S.kill dst) fun T => match R f with
    | some sz => some (addOwn dst 0 sz (offLa T))
    | none => some (offLa T)) none
  | .callv _ _ _ => cnd S.noPd (bnd (S.kill dst) fun T => some (offLa T)) none
  | .mapupd _ _ _ _ | .delete _ _ _ | .sliceArr _ _ _ | .mkmap | .conv .bytesOfStr _ => none
  | _ => S.kill dst

def subOws : Ows → Ows → Bool
  | [], _ => true
  | (r, o, z) :: l, m => m.any (fun x => decide (x = (r, o, z))) && subOws l m
def subPairs : List (Nat × Nat) → List (Nat × Nat) → Bool
  | [], _ => true
  | p :: l, m => m.any (fun x => decide (x = p)) && subPairs l m
def Ow.sub (A B : Ow) : Bool := subOws A.own B.own && (subPairs A.al B.al && (subPairs A.la B.la && decide (A.pd = B.pd)))
def Ow.step (R : Nat → Option Nat) (S : Ow) (i : VI) : Option Ow :=
  match i.guard with
  | none => S.step1 R i.dst i.op
  | some _ => bnd (S.step1 R i.dst i.op) fun S1 => bnd (S.kill i.dst) fun S0 => bnd (S1.kill i.dst) fun S2 => cnd (S2.sub S0) (some S2) none
def Ow.steps (R : Nat → Option Nat) : List VI → Ow → Option Ow
  | [], S => some S
  | i :: is, S => bnd (S.step R i) fun T => Ow.steps R is T

/-! ### what it says of a state -/
structure Facts (S : Ow) (pd : Pd) (rs : Regs) (tmps : Array Value) (w : World) : Prop where
  al : ∀ t p, (t, p) ∈ S.al → tmps.getD t Go.undef = tmps.getD p Go.undef
  la : ∀ t p, (t, p) ∈ S.la → ∃ b o, tmps.getD p Go.undef = .pointer (some ⟨b, o, none⟩) ∧ w.cell? ⟨b, o, none⟩ = some (tmps.getD t Go.undef)
  pd : (S.pd = none ∧ pd = none) ∨ ∃ p d i j, S.pd = some (p, d) ∧ pd = some (i, j, d) ∧ get rs p = .ptr (some (i, j))
structure Inv (cx : Cx) (N : Nat) (hb : Heap) (S : Ow) (rs : Regs) (h : Heap) (fl : Fl) (g : Gh) (a : Act) (w : World) : Prop where
  W : MemW cx fl w
  G : MemG cx hb h fl g w
  O : ∃ pd, OwnI cx S.own pd h g a.tmps w ∧ Facts S pd rs a.tmps w
  F : FrI N rs g a

section
variable {cx : Cx} {pd : Pd} {h : Heap} {g : Gh} {tmps : Array Value} {w : World} {ow : Ows}

theorem OwnI.map {pd' : Pd} {h' : Heap} {g' : Gh} {tmps' : Array Value} {w' : World} {ow' : Ows} (hi : OwnI cx ow pd h g tmps w) (Rel : Pl → Pl → Prop) (hinj : ∀ p p' q, Rel p q → Rel p' q → p = p')
    (hheld : ∀ p sz u, Held ow' pd' h' g' tmps' w' p sz u → (∃ ad n, u = .slice ad n n) ∨ ∃ q sz', Rel p q ∧ Held ow pd h g tmps w q sz' u ∧ (sz' = sz ∨ sz' = 0))
    (hold : ∀ p q b, Rel p q → q.old cx pd b → p.old cx pd' b)
    (hblk : ∀ q sz u b, Held ow pd h g tmps w q sz u → (∃ p sz', Rel p q ∧ Held ow' pd' h' g' tmps' w' p sz' u) → ownBlk u = some b → (w'.heap[b]? = w.heap[b]? ∧ ∀ k, g.imm b k = none → g'.imm b k = none) ∧ ∀ i, LiveAt h' i → g'.mu i = some b → LiveAt h i ∧ g.mu i = some b) :
    OwnI cx ow' pd' h' g' tmps' w' := by
  refine ⟨fun p sz x hp => ?_, fun p sz x b hp hb => ?_, fun p q sz sz' x x' b hp hq hb hb' => ?_⟩
  · rcases hheld p sz x hp with ⟨ad, n, rfl⟩ | ⟨q, sz', hR, hq, hs⟩
    · exact .full
    · have h1 := (hi.own q sz' x hq).move (fun b hb => (hblk q sz' x b hq ⟨p, sz, hR, hp⟩ hb).1)
      rcases hs with rfl | rfl
      · exact h1
      · exact h1.zero.1
  · rcases hheld p sz x hp with ⟨ad, n, rfl⟩ | ⟨q, sz', hR, hq, hs⟩
    · cases ad <;> simp [ownBlk] at hb
    · obtain ⟨h1, h2, h3⟩ := hi.blk q sz' x b hq hb
      obtain ⟨_, h4⟩ := hblk q sz' x b hq ⟨p, sz, hR, hp⟩ hb
      exact ⟨h1, fun i hl hm => h2 i (h4 i hl hm).1 (h4 i hl hm).2, fun hn => hold p q b hR (h3 hn)⟩
  · rcases hheld p sz x hp with ⟨ad, n, rfl⟩ | ⟨p0, s0, hR0, hp0, _⟩
    · cases ad <;> simp [ownBlk] at hb
    · rcases hheld q sz' x' hq with ⟨ad, n, rfl⟩ | ⟨q0, s1, hR1, hq0, _⟩
      · cases ad <;> simp [ownBlk] at hb'
      · have := hi.dis p0 q0 s0 s1 x x' b hp0 hq0 hb hb'
        subst this
        exact hinj p q p0 hR0 hR1

/-- Fewer have their own. -/
theorem OwnI.less (hi : OwnI cx ow pd h g tmps w) {ow' : Ows} (hs : ∀ x, x ∈ ow' → x ∈ ow) : OwnI cx ow' pd h g tmps w :=
  hi.map (fun p q => p = q) (fun _ _ _ e1 e2 => e1.trans e2.symm) (fun p sz u hp => .inr ⟨p, sz, rfl, by
    cases p with
    | reg r off => exact ⟨hs _ hp.1, hp.2⟩
    | cell i j => exact hp, .inl rfl⟩) (fun p q b e hn => e ▸ hn) (fun _ _ _ _ _ _ _ => ⟨⟨rfl, fun _ h => h⟩, fun _ h1 h2 => ⟨h1, h2⟩⟩)

theorem mem_offReg {r : Nat} {l : Ows} {x : Nat × Nat × Nat} : x ∈ offReg r l ↔ x ∈ l ∧ x.1 ≠ r := by simp [offReg]
theorem mem_offPair {r : Nat} {l : List (Nat × Nat)} {x : Nat × Nat} : x ∈ offPair r l ↔ x ∈ l ∧ x.1 ≠ r ∧ x.2 ≠ r := by simp [offPair]
theorem hasOwn_mem {r off sz : Nat} : ∀ {l : Ows}, hasOwn r off sz l = true → ∃ z, (r, off, z) ∈ l ∧ (z = sz ∨ z = 0)
  | [], h => by cases h
  | (q, o, z) :: l, h => by
    simp only [hasOwn, Bool.or_eq_true, Bool.and_eq_true, decide_eq_true_eq] at h
    rcases h with ⟨⟨rfl, rfl⟩, h⟩ | h
    · exact ⟨z, by simp, h⟩
    · obtain ⟨z', h1, h2⟩ := hasOwn_mem h
      exact ⟨z', by simp [h1], h2⟩
theorem hasPair_mem {t p : Nat} : ∀ {l : List (Nat × Nat)}, hasPair t p l = true → (t, p) ∈ l
  | [], h => by cases h
  | (x, y) :: l, h => by
    simp only [hasPair, Bool.or_eq_true, Bool.and_eq_true, decide_eq_true_eq] at h
    rcases h with ⟨rfl, rfl⟩ | h
    · simp
    · simp [hasPair_mem h]
theorem hasOwns_mem {t : Nat} {own : Ows} : ∀ {l : List (Nat × Nat)}, hasOwns t own l = true → ∀ x ∈ l, ∃ z, (t, x.1, z) ∈ own ∧ (z = x.2 ∨ z = 0)
  | [], _, x, hx => by simp at hx
  | (off, sz) :: l, h, x, hx => by
    simp only [hasOwns, Bool.and_eq_true] at h
    rcases List.mem_cons.1 hx with rfl | hx
    · exact hasOwn_mem h.1
    · exact hasOwns_mem h.2 x hx

/-- One more has its own. -/
theorem OwnI.add (hi : OwnI cx ow pd h g tmps w) {r off sz : Nat} (hu : ∀ u, (tmps.getD r Go.undef).cells[off]? = some u → OwnR w g.imm sz u ∧ ∀ b, ownBlk u = some b → cx.may b ∧ (∀ i, LiveAt h i → g.mu i ≠ some b) ∧ (b < cx.w0.heap.size → (Pl.reg r off).old cx pd b) ∧
      ∀ p sz' u', Held ow pd h g tmps w p sz' u' → ownBlk u' = some b → p = .reg r off) : OwnI cx ((r, off, sz) :: ow) pd h g tmps w := by
  have split : ∀ p z x, Held ((r, off, sz) :: ow) pd h g tmps w p z x → Held ow pd h g tmps w p z x ∨ (p = .reg r off ∧ z = sz ∧ (tmps.getD r Go.undef).cells[off]? = some x) := by
    intro p z x hp
    cases p with
    | reg q o =>
      obtain ⟨hm, hx⟩ := hp
      rcases List.mem_cons.1 hm with e | hm
      · cases e; exact .inr ⟨rfl, rfl, hx⟩
      · exact .inl ⟨hm, hx⟩
    | cell i j => exact .inl hp
  refine ⟨fun p z x hp => ?_, fun p z x b hp hb => ?_, fun p q z z' x x' b hp hq hb hb' => ?_⟩
  · rcases split p z x hp with hp | ⟨rfl, rfl, hx⟩
    · exact hi.own p z x hp
    · exact (hu x hx).1
  · rcases split p z x hp with hp | ⟨rfl, rfl, hx⟩
    · exact hi.blk p z x b hp hb
    · obtain ⟨h1, h2, h3, _⟩ := (hu x hx).2 b hb
      exact ⟨h1, h2, h3⟩
  · rcases split p z x hp with hp1 | ⟨e1, e2, hx⟩ <;> rcases split q z' x' hq with hq1 | ⟨e3, e4, hx'⟩
    · exact hi.dis p q z z' x x' b hp1 hq1 hb hb'
    · exact (((hu x' hx').2 b hb').2.2.2 p z x hp1 hb).trans e3.symm
    · exact ((((hu x hx).2 b hb).2.2.2 q z' x' hq1 hb').trans e1.symm).symm
    · exact e1.trans e3.symm
theorem OwnI.addFull (hi : OwnI cx ow pd h g tmps w) {r off sz : Nat} (hu : ∀ u, (tmps.getD r Go.undef).cells[off]? = some u → ∃ ad n, u = .slice ad n n) : OwnI cx ((r, off, sz) :: ow) pd h g tmps w :=
  hi.add fun u hu' => by
    obtain ⟨ad, n, rfl⟩ := hu u hu'
    exact ⟨.full, fun b hb => by cases ad <;> simp [ownBlk] at hb⟩

/-- From one register to another with the same value. -/
theorem OwnI.moved (hi : OwnI cx ow pd h g tmps w) {p d : Nat} (hne : d ≠ p) (hv : tmps.getD d Go.undef = tmps.getD p Go.undef) (hd : ∀ x, x ∈ ow → x.1 ≠ d) (hp : ∀ i j, pd ≠ some (i, j, p)) : OwnI cx (moved p d ow) pd h g tmps w := by
  refine hi.map (fun x y => (x = y ∧ (∀ off, y ≠ .reg p off)) ∨ ∃ off, x = .reg d off ∧ y = .reg p off) (fun x x' y h1 h2 => ?_) (fun x sz u hx => .inr ?_) (fun x y b hR hn => ?_) (fun _ _ _ _ _ _ _ => ⟨⟨rfl, fun _ h => h⟩, fun _ h1 h2 => ⟨h1, h2⟩⟩)
  · rcases h1 with ⟨rfl, h1⟩ | ⟨o, rfl, rfl⟩ <;> rcases h2 with ⟨rfl, h2⟩ | ⟨o', rfl, e⟩
    · rfl
    · exact absurd e (h1 _)
    · exact absurd rfl (h2 o)
    · cases e; rfl
  · cases x with
    | cell i j => exact ⟨.cell i j, sz, .inl ⟨rfl, fun off e => by cases e⟩, hx, .inl rfl⟩
    | reg r off =>
      obtain ⟨hm, hx⟩ := hx
      simp only [Vm.moved, List.mem_append, mem_offReg, List.mem_map, List.mem_filter, decide_eq_true_eq] at hm
      rcases hm with ⟨hm, hr⟩ | ⟨⟨q, o, z⟩, ⟨hm, rfl⟩, e⟩
      · exact ⟨.reg r off, sz, .inl ⟨rfl, fun o e => by cases e; exact hr rfl⟩, ⟨hm, hx⟩, .inl rfl⟩
      · cases e
        exact ⟨.reg q off, sz, .inr ⟨off, rfl, rfl⟩, ⟨hm, hv ▸ hx⟩, .inl rfl⟩
  · rcases hR with ⟨rfl, _⟩ | ⟨off, rfl, rfl⟩
    · exact hn
    · obtain ⟨i, j, e, _⟩ := hn
      exact absurd e (hp i j)

/-- A register is written that has none. -/
theorem OwnI.put {a : Act} (hi : OwnI cx ow pd h g a.tmps w) {d : Nat} (hd : d < a.tmps.size) {u : Value} (ho : ∀ x, x ∈ ow → x.1 ≠ d) : OwnI cx ow pd h g (a.put (some d) u).tmps w := by
  refine hi.map (fun p q => p = q) (fun _ _ _ e1 e2 => e1.trans e2.symm) (fun p sz x hp => .inr ⟨p, sz, rfl, ?_, .inl rfl⟩) (fun p q b e hn => e ▸ hn) (fun _ _ _ _ _ _ _ => ⟨⟨rfl, fun _ h => h⟩, fun _ h1 h2 => ⟨h1, h2⟩⟩)
  cases p with
  | cell i j => exact hp
  | reg r off =>
    obtain ⟨hm, hx⟩ := hp
    rw [getD_put hd, if_neg (ho _ hm)] at hx
    exact ⟨hm, hx⟩
end

section
variable {cx : Cx} {N : Nat} {hb0 : Heap} {S : Ow} {rs : Regs} {h : Heap} {fl : Fl} {g : Gh} {a : Act} {w : World}

theorem pdFree_spec {r : Nat} {o : Option (Nat × Nat)} (h : pdFree r o = true) {p q : Nat} (ho : o = some (p, q)) : p ≠ r ∧ q ≠ r := by
  subst ho
  simpa [pdFree] using h
theorem kill_none {T : Ow} (h : S.kill none = some T) : T = S := by cases h; rfl
theorem kill_some {d : Nat} {T : Ow} (h : S.kill (some d) = some T) : pdFree d S.pd = true ∧ T = ⟨offReg d S.own, offPair d S.al, offPair d S.la, S.pd⟩ := by
  simp only [Ow.kill] at h
  cases hp : pdFree d S.pd <;> rw [hp] at h
  · cases h
  · cases h; exact ⟨rfl, rfl⟩

theorem Facts.put {pd : Pd} (hf : Facts S pd rs a.tmps w) {d : Nat} (hd : d < a.tmps.size) {u : Value} {v : V} (hp : pdFree d S.pd = true) :
    Facts ⟨offReg d S.own, offPair d S.al, offPair d S.la, S.pd⟩ pd (putR (some d) v rs) (a.put (some d) u).tmps w := by
  refine ⟨fun t p hm => ?_, fun t p hm => ?_, ?_⟩
  · obtain ⟨hm, h1, h2⟩ := mem_offPair.1 hm
    rw [getD_put hd, getD_put hd, if_neg h1, if_neg h2]
    exact hf.al t p hm
  · obtain ⟨hm, h1, h2⟩ := mem_offPair.1 hm
    rw [getD_put hd, getD_put hd, if_neg h1, if_neg h2]
    exact hf.la t p hm
  · rcases hf.pd with h1 | ⟨p, q, i, j, h1, h2, h3⟩
    · exact .inl h1
    · refine .inr ⟨p, q, i, j, h1, h2, ?_⟩
      have := (pdFree_spec hp h1).1
      simp only [putR, get, this, decide_false, cnd_false]
      exact h3

/-- A register is written with a value that names nothing of its own. -/
theorem Inv.put (hi : Inv cx N hb0 S rs h fl g a w) {dst : Option Nat} (hd : ∀ x, dst = some x → x < N) {T : Ow} (hk : S.kill dst = some T) {u : Value} {v : V} (hu : VR g u v) : Inv cx N hb0 T (putR dst v rs) h fl g (a.put dst u) w := by
  obtain ⟨pd, hO, hf⟩ := hi.O
  refine ⟨hi.W, hi.G, ?_, hi.F.put hd hu⟩
  cases dst with
  | none =>
    cases kill_none hk
    exact ⟨pd, hO, hf⟩
  | some d =>
    obtain ⟨hp, rfl⟩ := kill_some hk
    have hlt : d < a.tmps.size := by rw [hi.F.size]; exact hd d rfl
    exact ⟨pd, (hO.less fun x hx => (mem_offReg.1 hx).1).put hlt fun x hx => (mem_offReg.1 hx).2, hf.put hlt hp⟩
theorem subOws_mem : ∀ {A B : Ows}, subOws A B = true → ∀ x ∈ A, x ∈ B
  | [], _, _, x, hx => by simp at hx
  | (r, o, z) :: l, m, h, x, hx => by
    simp only [subOws, Bool.and_eq_true, List.any_eq_true, decide_eq_true_eq] at h
    rcases List.mem_cons.1 hx with rfl | hx
    · obtain ⟨y, hy, rfl⟩ := h.1; exact hy
    · exact subOws_mem h.2 x hx
theorem subPairs_mem : ∀ {A B : List (Nat × Nat)}, subPairs A B = true → ∀ x ∈ A, x ∈ B
  | [], _, _, x, hx => by simp at hx
  | p :: l, m, h, x, hx => by
    simp only [subPairs, Bool.and_eq_true, List.any_eq_true, decide_eq_true_eq] at h
    rcases List.mem_cons.1 hx with rfl | hx
    · obtain ⟨y, hy, rfl⟩ := h.1; exact hy
    · exact subPairs_mem h.2 x hx
/-- Less is known. -/
theorem Inv.weaken (hi : Inv cx N hb0 S rs h fl g a w) {T : Ow} (h1 : ∀ x, x ∈ T.own → x ∈ S.own) (h2 : ∀ x, x ∈ T.al → x ∈ S.al) (h3 : ∀ x, x ∈ T.la → x ∈ S.la) (h4 : T.pd = S.pd) : Inv cx N hb0 T rs h fl g a w := by
  obtain ⟨pd, hO, hf⟩ := hi.O
  exact ⟨hi.W, hi.G, ⟨pd, hO.less h1, ⟨fun t p hm => hf.al t p (h2 _ hm), fun t p hm => hf.la t p (h3 _ hm), h4 ▸ hf.pd⟩⟩, hi.F⟩
theorem Inv.sub (hi : Inv cx N hb0 S rs h fl g a w) {T : Ow} (hs : T.sub S = true) : Inv cx N hb0 T rs h fl g a w := by
  simp only [Ow.sub, Bool.and_eq_true, decide_eq_true_eq] at hs
  exact hi.weaken (subOws_mem hs.1) (subPairs_mem hs.2.1) (subPairs_mem hs.2.2.1) hs.2.2.2
/-- The register holds a full slice. -/
theorem Inv.addFull (hi : Inv cx N hb0 S rs h fl g a w) {dst : Option Nat} {off sz : Nat} (hu : ∀ d, dst = some d → ∀ u, (a.tmps.getD d Go.undef).cells[off]? = some u → ∃ ad n, u = .slice ad n n) : Inv cx N hb0 (addOwn dst off sz S) rs h fl g a w := by
  cases dst with
  | none => exact hi
  | some d =>
    obtain ⟨pd, hO, hf⟩ := hi.O
    exact ⟨hi.W, hi.G, ⟨pd, hO.addFull (hu d rfl), ⟨hf.al, hf.la, hf.pd⟩⟩, hi.F⟩
theorem Inv.noLa (hi : Inv cx N hb0 S rs h fl g a w) : Inv cx N hb0 (offLa S) rs h fl g a w := hi.weaken (fun _ h => h) (fun _ h => h) (fun _ h => by simp [offLa] at h) rfl
theorem put_get {d : Nat} (hd : d < a.tmps.size) (u : Value) : (a.put (some d) u).tmps.getD d Go.undef = u := by rw [getD_put hd, if_pos rfl]
end
end Go.Vm
