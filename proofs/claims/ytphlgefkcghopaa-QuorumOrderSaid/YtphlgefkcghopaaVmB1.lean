/- How the V-machine's values stand to the model's: what reads as what. -/
import Derived.Test.YtphlgefkcghopaaVmB0
set_option linter.unusedVariables false
set_option linter.unusedSimpArgs false
namespace Go.Vm
attribute [local simp] evalOps_nil evalOps_cons evalOps_consg evalOp_mv evalOp_asg evalOp_pick evalOp_build evalOp_bslice evalOp_load evalOp_nilck evalOp_bin evalOp_un evalOp_conv evalOp_mkfn evalOp_slice evalOp_faddr evalOp_field evalOp_iaddr evalOp_index evalOp_lookup evalOp_extract evalOp_app evalOp_len evalOp_mn evalOp_mx evalOp_alloc evalOp_box evalOp_mkmap evalOp_store evalOp_mapupd evalOp_delete evalOp_sliceArr evalOp_call evalOp_callv evalOp_appc code_skip code_ops code_dops code_seq code_cond code_block code_exit code_ret finish_normal finish_ret
attribute [local simp] V.lt V.ltL V.flat V.pureCell V.pure V.isCell cellEq cellsEq eqV intV shV strV isShift binV unV byteV convV minV maxV foldV foldV1 fillV fillE findV putV delV isKey natOf natOr cut cellsAt mapAt mapOf loadV pickV nilckV sizeOk allSize sliceV faddrV fieldV iaddrV indexV found extractV allPure appV lenV ownHas ownOk storeC storeV samePtr appcV boxable mapupdV deleteV sliceArrV callV allLt clean bodyEnd resV one finishV runV initR

/-- Cells of memory that are never written again, and what they hold. -/
abbrev Imm := Nat → Nat → Option Value
/-- Where the abstract heap's objects lie; and the cells that are never written again. -/
structure Gh where
  mu : Nat → Option Nat
  imm : Imm

mutual
/-- One cell's value that names no object. -/
inductive CR (m : Imm) : Value → V → Prop
  | bool (b : Bool) : CR m (.bool b) (.bool b)
  | int (k : IntKind) (n : Int) : CR m (.int k n) (.int k n)
  | str (s : ByteArray) : CR m (.string s) (.str s.data.toList)
  | nilp : CR m (.pointer none) (.ptr none)
  | nilm : CR m (.map none) (.map none)
  | nofn : CR m .nilFunc .nofn
  | fn (f : Nat) : CR m (.func (.func f) #[] #[]) (.fn f [] [])
  | nils : CR m (.slice none 0 0) (.sl [])
  | sl0 {a : Addr} {cap : Nat} : CR m (.slice (some a) 0 cap) (.sl [])
  | sl {b o cap sz n : Nat} {us : List Value} {xs : List V} : n = xs.length → n ≤ cap → (∀ x ∈ xs, x.flat.length = sz) →
      (∀ j u, us[j]? = some u → m b (o + j) = some u) → CRs m us (xs.flatMap V.flat) → CR m (.slice (some ⟨b, o, none⟩) n cap) (.sl xs)
inductive CRs (m : Imm) : List Value → List V → Prop
  | nil : CRs m [] []
  | cons {u : Value} {us : List Value} {v : V} {vs : List V} : CR m u v → CRs m us vs → CRs m (u :: us) (v :: vs)
end

mutual
/-- A value. -/
inductive VR (g : Gh) : Value → V → Prop
  | cell {u : Value} {v : V} : CR g.imm u v → VR g u v
  | ptr {i b o : Nat} : g.mu i = some b → VR g (.pointer (some ⟨b, o, none⟩)) (.ptr (some (i, o)))
  | ro {b o : Nat} {us : List Value} {cs : List V} : (∀ j u, us[j]? = some u → g.imm b (o + j) = some u) → CRs g.imm us cs → VR g (.pointer (some ⟨b, o, none⟩)) (.ro cs)
  | map {i b : Nat} : g.mu i = some b → VR g (.map (some b)) (.map (some i))
  | fn {f : Nat} {us vs : List Value} {as cs : List V} : VRs g us as → VRs g vs cs → VR g (.func (.func f) us.toArray vs.toArray) (.fn f as cs)
  | agg {us : List Value} {cs : List V} : VRs g us cs → cs.all V.isCell = true → VR g (.agg us.toArray) (.agg cs)
  | tup {us : List Value} {vs : List V} : VRs g us vs → VR g (.tuple us.toArray) (.tup vs)
  | undef : VR g Go.undef .undef
  | top {u : Value} : VR g u .top
inductive VRs (g : Gh) : List Value → List V → Prop
  | nil : VRs g [] []
  | cons {u : Value} {us : List Value} {v : V} {vs : List V} : VR g u v → VRs g us vs → VRs g (u :: us) (v :: vs)
end

def ImmLe (m m' : Imm) : Prop := ∀ b o u, m b o = some u → m' b o = some u
structure GLe (g g' : Gh) : Prop where
  mu : ∀ i b, g.mu i = some b → g'.mu i = some b
  imm : ImmLe g.imm g'.imm
theorem ImmLe.refl (m : Imm) : ImmLe m m := fun _ _ _ h => h
theorem GLe.refl (g : Gh) : GLe g g := ⟨fun _ _ h => h, ImmLe.refl _⟩
theorem GLe.trans {a b c : Gh} (h : GLe a b) (k : GLe b c) : GLe a c := ⟨fun i x e => k.mu i x (h.mu i x e), fun x o u e => k.imm x o u (h.imm x o u e)⟩

mutual
theorem CR.mono {m m' : Imm} (h : ImmLe m m') : ∀ {u : Value} {v : V}, CR m u v → CR m' u v
  | _, _, .bool b => .bool b
  | _, _, .int k n => .int k n
  | _, _, .str s => .str s
  | _, _, .nilp => .nilp
  | _, _, .nilm => .nilm
  | _, _, .nofn => .nofn
  | _, _, .fn f => .fn f
  | _, _, .nils => .nils
  | _, _, .sl0 => .sl0
  | _, _, .sl a b c d e => .sl a b c (fun j u hu => h _ _ _ (d j u hu)) (CRs.mono h e)
theorem CRs.mono {m m' : Imm} (h : ImmLe m m') : ∀ {us : List Value} {vs : List V}, CRs m us vs → CRs m' us vs
  | _, _, .nil => .nil
  | _, _, .cons a b => .cons (CR.mono h a) (CRs.mono h b)
end
mutual
theorem VR.mono {g g' : Gh} (h : GLe g g') : ∀ {u : Value} {v : V}, VR g u v → VR g' u v
  | _, _, .cell a => .cell (a.mono h.imm)
  | _, _, .ptr a => .ptr (h.mu _ _ a)
  | _, _, .ro a b => .ro (fun j u hu => h.imm _ _ _ (a j u hu)) (b.mono h.imm)
  | _, _, .map a => .map (h.mu _ _ a)
  | _, _, .fn a b => .fn (VRs.mono h a) (VRs.mono h b)
  | _, _, .agg a b => .agg (VRs.mono h a) b
  | _, _, .tup a => .tup (VRs.mono h a)
  | _, _, .undef => .undef
  | _, _, .top => .top
theorem VRs.mono {g g' : Gh} (h : GLe g g') : ∀ {us : List Value} {vs : List V}, VRs g us vs → VRs g' us vs
  | _, _, .nil => .nil
  | _, _, .cons a b => .cons (VR.mono h a) (VRs.mono h b)
end

/-! ### the objects from number n on are forgotten -/
def Gh.trim (g : Gh) (n : Nat) : Gh := ⟨fun i => if i < n then g.mu i else none, g.imm⟩
mutual
theorem VR.trim {g : Gh} {n : Nat} : ∀ {u : Value} {v : V}, VR g u v → v.lt n = true → VR (g.trim n) u v
  | _, _, .cell a, _ => .cell a
  | _, _, .ptr (i := i) a, h => .ptr (by have : i < n := (by simpa using h); simp [Gh.trim, this, a])
  | _, _, .ro a b, _ => .ro a b
  | _, _, .map (i := i) a, h => .map (by have : i < n := (by simpa using h); simp [Gh.trim, this, a])
  | _, _, .fn a b, h => by
    simp only [V.lt, Bool.and_eq_true] at h
    exact .fn (VRs.trim a h.1) (VRs.trim b h.2)
  | _, _, .agg a b, h => .agg (VRs.trim a h) b
  | _, _, .tup a, h => .tup (VRs.trim a h)
  | _, _, .undef, _ => .undef
  | _, _, .top, _ => .top
theorem VRs.trim {g : Gh} {n : Nat} : ∀ {us : List Value} {vs : List V}, VRs g us vs → V.ltL n vs = true → VRs (g.trim n) us vs
  | _, _, .nil, _ => .nil
  | _, _, .cons a b, h => by
    simp only [V.ltL, Bool.and_eq_true] at h
    exact .cons (VR.trim a h.1) (VRs.trim b h.2)
end
mutual
/-- A value names nothing beyond the objects that lie somewhere. -/
theorem VR.lt {g : Gh} {n : Nat} (hd : ∀ i b, g.mu i = some b → i < n) : ∀ {u : Value} {v : V}, VR g u v → v.lt n = true
  | _, _, .cell a => by cases a <;> simp
  | _, _, .ptr a => by simpa using hd _ _ a
  | _, _, .ro a b => by simp
  | _, _, .map a => by simpa using hd _ _ a
  | _, _, .fn a b => by simp [VRs.lt hd a, VRs.lt hd b]
  | _, _, .agg a b => by simp [VRs.lt hd a]
  | _, _, .tup a => by simp [VRs.lt hd a]
  | _, _, .undef => by simp
  | _, _, .top => by simp
theorem VRs.lt {g : Gh} {n : Nat} (hd : ∀ i b, g.mu i = some b → i < n) : ∀ {us : List Value} {vs : List V}, VRs g us vs → V.ltL n vs = true
  | _, _, .nil => by simp
  | _, _, .cons a b => by simp [VR.lt hd a, VRs.lt hd b]
end
mutual
theorem V.lt_mono {n m : Nat} (h : n ≤ m) : ∀ (v : V), v.lt n = true → v.lt m = true
  | .ptr (some (i, _)), hv => by simp at hv ⊢; omega
  | .map (some i), hv => by simp at hv ⊢; omega
  | .fn _ a b, hv => by
    simp only [V.lt, Bool.and_eq_true] at hv ⊢
    exact ⟨V.ltL_mono h a hv.1, V.ltL_mono h b hv.2⟩
  | .agg cs, hv => V.ltL_mono h cs hv
  | .tup vs, hv => V.ltL_mono h vs hv
  | .bool _, _ | .int _ _, _ | .str _, _ | .ptr none, _ | .ro _, _ | .sl _, _ | .map none, _ | .nofn, _ | .undef, _ | .top, _ => by simp
theorem V.ltL_mono {n m : Nat} (h : n ≤ m) : ∀ (vs : List V), V.ltL n vs = true → V.ltL m vs = true
  | [], _ => by simp
  | v :: vs, hv => by
    simp only [V.ltL, Bool.and_eq_true] at hv ⊢
    exact ⟨V.lt_mono h v hv.1, V.ltL_mono h vs hv.2⟩
end

/-! ### lists -/
theorem CRs.length {m : Imm} : ∀ {us : List Value} {vs : List V}, CRs m us vs → us.length = vs.length
  | _, _, .nil => rfl
  | _, _, .cons _ b => by simp [CRs.length b]
theorem VRs.length {g : Gh} : ∀ {us : List Value} {vs : List V}, VRs g us vs → us.length = vs.length
  | _, _, .nil => rfl
  | _, _, .cons _ b => by simp [VRs.length b]
theorem CRs.get {m : Imm} : ∀ {us : List Value} {vs : List V}, CRs m us vs → ∀ (j : Nat) (v : V), vs[j]? = some v → ∃ u, us[j]? = some u ∧ CR m u v
  | _, _, .nil, j, v, h => by simp at h
  | _, _, .cons a b, 0, v, h => by simp at h; subst h; exact ⟨_, rfl, a⟩
  | _, _, .cons a b, j + 1, v, h => by simpa using CRs.get b j v (by simpa using h)
theorem VRs.get {g : Gh} : ∀ {us : List Value} {vs : List V}, VRs g us vs → ∀ (j : Nat) (v : V), vs[j]? = some v → ∃ u, us[j]? = some u ∧ VR g u v
  | _, _, .nil, j, v, h => by simp at h
  | _, _, .cons a b, 0, v, h => by simp at h; subst h; exact ⟨_, rfl, a⟩
  | _, _, .cons a b, j + 1, v, h => by simpa using VRs.get b j v (by simpa using h)
theorem CRs.append {m : Imm} {us us' : List Value} {vs vs' : List V} (h : CRs m us vs) (h' : CRs m us' vs') : CRs m (us ++ us') (vs ++ vs') := by
  match us, vs, h with
  | _, _, .nil => exact h'
  | _, _, .cons a b => exact .cons a (b.append h')
theorem VRs.append {g : Gh} {us us' : List Value} {vs vs' : List V} (h : VRs g us vs) (h' : VRs g us' vs') : VRs g (us ++ us') (vs ++ vs') := by
  match us, vs, h with
  | _, _, .nil => exact h'
  | _, _, .cons a b => exact .cons a (b.append h')
theorem CRs.drop {m : Imm} : ∀ (n : Nat) {us : List Value} {vs : List V}, CRs m us vs → CRs m (us.drop n) (vs.drop n)
  | 0, _, _, h => by simpa using h
  | n + 1, _, _, .nil => by simpa using CRs.nil
  | n + 1, _, _, .cons _ b => by simpa using b.drop n
theorem CRs.take {m : Imm} : ∀ (n : Nat) {us : List Value} {vs : List V}, CRs m us vs → CRs m (us.take n) (vs.take n)
  | 0, _, _, _ => by simpa using CRs.nil
  | n + 1, _, _, .nil => by simpa using CRs.nil
  | n + 1, _, _, .cons a b => by simpa using CRs.cons a (b.take n)
theorem VRs.drop {g : Gh} : ∀ (n : Nat) {us : List Value} {vs : List V}, VRs g us vs → VRs g (us.drop n) (vs.drop n)
  | 0, _, _, h => by simpa using h
  | n + 1, _, _, .nil => by simpa using VRs.nil
  | n + 1, _, _, .cons _ b => by simpa using b.drop n
theorem VRs.take {g : Gh} : ∀ (n : Nat) {us : List Value} {vs : List V}, VRs g us vs → VRs g (us.take n) (vs.take n)
  | 0, _, _, _ => by simpa using VRs.nil
  | n + 1, _, _, .nil => by simpa using VRs.nil
  | n + 1, _, _, .cons a b => by simpa using VRs.cons a (b.take n)
theorem CRs.vrs {g : Gh} : ∀ {us : List Value} {vs : List V}, CRs g.imm us vs → VRs g us vs
  | _, _, .nil => .nil
  | _, _, .cons a b => .cons (.cell a) b.vrs

/-! ### cells of a value -/
theorem VR.oneCell {g : Gh} {u : Value} {v : V} (h : VR g u v) (hv : v.isCell = true) : u.oneCell' = true := by
  cases h with
  | cell a => cases a <;> rfl
  | ptr a => rfl
  | ro a b => rfl
  | map a => rfl
  | fn a b => rfl
  | agg a b => simp at hv
  | tup a => simp at hv
  | undef => simp at hv
  | top => simp at hv
theorem VR.cells {g : Gh} {u : Value} {v : V} (h : VR g u v) (hv : v.flat.all V.isCell = true) : VRs g u.cells.toList v.flat := by
  cases h with
  | agg a b => simpa [Value.cells] using a
  | cell a =>
    have e : u.cells = #[u] ∧ v.flat = [v] := by cases a <;> exact ⟨rfl, rfl⟩
    rw [e.1, e.2]
    exact .cons (.cell a) .nil
  | ptr a => exact .cons (.ptr a) .nil
  | ro a b => exact .cons (.ro a b) .nil
  | map a => exact .cons (.map a) .nil
  | fn a b => exact .cons (.fn a b) .nil
  | tup a => simp at hv
  | undef => simp at hv
  | top => simp at hv
theorem VRs.oneCells {g : Gh} : ∀ {us : List Value} {vs : List V}, VRs g us vs → vs.all V.isCell = true → ∀ u ∈ us, u.oneCell' = true
  | _, _, .nil, _, u, hu => by simp at hu
  | _, _, .cons a b, hv, u, hu => by
    simp only [List.all_cons, Bool.and_eq_true] at hv
    rcases List.mem_cons.1 hu with rfl | hu
    · exact a.oneCell hv.1
    · exact b.oneCells hv.2 u hu
theorem VR.pureCell {g : Gh} {u : Value} {v : V} (h : VR g u v) (hv : v.pureCell = true) : CR g.imm u v := by
  cases h with
  | cell a => exact a
  | ptr a => simp at hv
  | ro a b => simp at hv
  | map a => simp at hv
  | fn a b =>
    rename_i as cs
    match as, cs, a, b, hv with
    | [], [], .nil, .nil, _ => exact .fn _
  | agg a b => simp at hv
  | tup a => simp at hv
  | undef => simp at hv
  | top => simp at hv
theorem VRs.pureCells {g : Gh} : ∀ {us : List Value} {vs : List V}, VRs g us vs → vs.all V.pureCell = true → CRs g.imm us vs
  | _, _, .nil, _ => .nil
  | _, _, .cons a b, hv => by
    simp only [List.all_cons, Bool.and_eq_true] at hv
    exact .cons (a.pureCell hv.1) (b.pureCells hv.2)
theorem V.pureCell_isCell {v : V} (h : v.pureCell = true) : v.isCell = true := by
  cases v <;> simp at h ⊢
/-- A value that names no object: its cells. -/
theorem VR.pure {g : Gh} {u : Value} {v : V} (h : VR g u v) (hv : v.pure = true) : CRs g.imm u.cells.toList v.flat := by
  cases v with
  | agg cs =>
    have hc : cs.all V.pureCell = true := by simpa using hv
    have : VRs g u.cells.toList (V.agg cs).flat := h.cells (by
      simp only [V.flat, List.all_eq_true] at hc ⊢
      exact fun x hx => V.pureCell_isCell (hc x hx))
    exact this.pureCells hc
  | _ => first
    | (cases hv; done)
    | exact (h.cells (by simp)).pureCells (by simp only [V.flat, List.all_cons, List.all_nil, Bool.and_true]; exact hv)
theorem allPure_mem : ∀ {xs : List V}, allPure xs = true → ∀ x ∈ xs, x.pure = true
  | [], _, x, hx => by simp at hx
  | y :: ys, h, x, hx => by
    simp only [allPure, Bool.and_eq_true] at h
    rcases List.mem_cons.1 hx with rfl | hx
    · exact h.1
    · exact allPure_mem h.2 x hx
theorem allSize_mem {n : Nat} : ∀ {xs : List V}, allSize n xs = true → ∀ x ∈ xs, x.flat.length = n
  | [], _, x, hx => by simp at hx
  | y :: ys, h, x, hx => by
    simp only [allSize, Bool.and_eq_true, beq_iff_eq] at h
    rcases List.mem_cons.1 hx with rfl | hx
    · exact h.1
    · exact allSize_mem h.2 x hx

/-! ### the elements of a slice -/
theorem flatMap_length {sz : Nat} : ∀ {xs : List V}, (∀ x ∈ xs, x.flat.length = sz) → (xs.flatMap V.flat).length = xs.length * sz
  | [], _ => by simp
  | x :: xs, h => by
    have := flatMap_length (xs := xs) fun y hy => h y (by simp [hy])
    simp only [List.flatMap_cons, List.length_append, List.length_cons, this, h x (by simp), Nat.add_mul, Nat.one_mul]
    omega
theorem flatMap_drop {sz : Nat} : ∀ (j : Nat) {xs : List V}, (∀ x ∈ xs, x.flat.length = sz) → (xs.flatMap V.flat).drop (j * sz) = (xs.drop j).flatMap V.flat
  | 0, xs, _ => by simp
  | j + 1, [], _ => by simp
  | j + 1, x :: xs, h => by
    have ih := flatMap_drop j (xs := xs) fun y hy => h y (by simp [hy])
    have hx := h x (by simp)
    simp only [List.flatMap_cons, List.drop_succ_cons, Nat.add_mul, Nat.one_mul]
    rw [← ih, Nat.add_comm (j * sz) sz, ← List.drop_drop]
    congr 1
    rw [← hx, List.drop_left]
theorem flatMap_take {sz : Nat} : ∀ (j : Nat) {xs : List V}, (∀ x ∈ xs, x.flat.length = sz) → (xs.flatMap V.flat).take (j * sz) = (xs.take j).flatMap V.flat
  | 0, xs, _ => by simp
  | j + 1, [], _ => by simp
  | j + 1, x :: xs, h => by
    have ih := flatMap_take j (xs := xs) fun y hy => h y (by simp [hy])
    have hx := h x (by simp)
    simp only [List.flatMap_cons, List.take_succ_cons, Nat.add_mul, Nat.one_mul]
    rw [← ih, Nat.add_comm (j * sz) sz, ← hx, List.take_length_add_append]
end Go.Vm
