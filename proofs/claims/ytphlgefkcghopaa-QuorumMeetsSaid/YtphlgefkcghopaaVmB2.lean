/- What the model's operations yield where they leave memory alone. -/
import Derived.Test.YtphlgefkcghopaaVmB1
set_option linter.unusedVariables false
set_option linter.unusedSimpArgs false
namespace Go.Vm
attribute [local simp] evalOps_nil evalOps_cons evalOps_consg evalOp_mv evalOp_asg evalOp_pick evalOp_build evalOp_bslice evalOp_load evalOp_nilck evalOp_bin evalOp_un evalOp_conv evalOp_mkfn evalOp_slice evalOp_faddr evalOp_field evalOp_iaddr evalOp_index evalOp_lookup evalOp_extract evalOp_app evalOp_len evalOp_mn evalOp_mx evalOp_alloc evalOp_box evalOp_mkmap evalOp_store evalOp_mapupd evalOp_delete evalOp_sliceArr evalOp_call evalOp_callv evalOp_appc code_skip code_ops code_dops code_seq code_cond code_block code_exit code_ret finish_normal finish_ret
attribute [local simp] V.lt V.ltL V.flat V.pureCell V.pure V.isCell cellEq cellsEq eqV intV shV strV isShift binV unV byteV convV minV maxV foldV foldV1 fillV fillE findV putV delV isKey natOf natOr cut cellsAt mapAt mapOf loadV pickV nilckV sizeOk allSize sliceV faddrV fieldV iaddrV indexV found extractV allPure appV lenV ownHas ownOk storeC storeV samePtr appcV boxable mapupdV deleteV sliceArrV callV allLt clean bodyEnd resV one finishV runV initR

def ERel (g : Gh) (e : MapEntry) (p : V × V) : Prop := CR g.imm e.key p.1 ∧ VR g e.val p.2
def ERels (g : Gh) : List MapEntry → List (V × V) → Prop
  | [], [] => True
  | e :: es, p :: ps => ERel g e p ∧ ERels g es ps
  | _, _ => False
/-- An object of the abstract heap, and the block that it is. -/
def ObjR (g : Gh) (w : World) (b : Nat) : Obj → Prop
  | .cells cs _ => ∃ us t, w.heap[b]? = some (.cells us t (0, 0)) ∧ VRs g us.toList cs ∧ cs.all V.isCell = true
  | .map es => ∃ rs clock, w.heap[b]? = some (.map rs clock) ∧ ERels g rs.toList es
  | .dead => True
def Obj.live : Obj → Bool
  | .dead => false
  | _ => true
/-- What the abstract heap's reading rests on. -/
structure HRead (g : Gh) (h : Heap) (w : World) : Prop where
  obj : ∀ i o, h[i]? = some o → o.live = true → ∃ b, g.mu i = some b ∧ ObjR g w b o
  imm : ∀ b o u, g.imm b o = some u → w.cell? ⟨b, o, none⟩ = some u

section
variable {P : Program} {g : Gh} {h : Heap} {w : World} {a : Act} {rs : Regs}

/-! ### operands -/
theorem trVal_sound {m : Imm} {u : Value} {v : V} (h : trVal u = some v) : CR m u v := by
  unfold trVal at h
  split at h <;> simp only [Option.some.injEq, reduceCtorEq] at h <;> subst h <;> constructor
theorem trVals_sound {m : Imm} : ∀ {us : List Value} {vs : List V}, trVals us = some vs → CRs m us vs
  | [], vs, h => by simp [trVals] at h; subst h; exact .nil
  | u :: us, vs, h => by
    simp only [trVals] at h
    obtain ⟨v, hv, h⟩ := bnd_eq_some h
    obtain ⟨l, hl, h⟩ := bnd_eq_some h
    cases h
    exact .cons (trVal_sound hv) (trVals_sound hl)
theorem CR.isCell {m : Imm} {u : Value} {v : V} (h : CR m u v) : v.isCell = true := by cases h <;> rfl
theorem CRs.isCells {m : Imm} : ∀ {us : List Value} {vs : List V}, CRs m us vs → vs.all V.isCell = true
  | _, _, .nil => rfl
  | _, _, .cons a b => by rw [List.all_cons, a.isCell, b.isCells]; rfl
theorem trConst_sound {u : Value} {v : V} (h : trConst u = some v) : VR g u v := by
  unfold trConst at h
  split at h
  · obtain ⟨l, hl, h⟩ := bnd_eq_some h
    cases h
    have := trVals_sound (m := g.imm) hl
    simpa using VR.agg this.vrs this.isCells
  · exact .cell (trVal_sound h)

/-- Each register reads as the frame has it. -/
def RR (g : Gh) (a : Act) (rs : Regs) : Prop := ∀ r, VR g (a.tmps.getD r Go.undef) (get rs r)

theorem trArg_sound (hr : RR g a rs) {o : Operand} {x : Arg} (h : trArg o = some x) : VR g (a.eval o) (x.val rs) := by
  cases o with
  | tmp t => simp only [trArg, Option.some.injEq] at h; subst h; exact hr t
  | const u =>
    simp only [trArg] at h
    obtain ⟨v, hv, h⟩ := bnd_eq_some h
    cases h
    exact trConst_sound hv
  | func f =>
    simp only [trArg, Option.some.injEq] at h; subst h
    exact .cell (.fn f)
  | global _ => cases h
theorem trArgs_sound (hr : RR g a rs) : ∀ {os : List Operand} {xs : List Arg}, trArgs os = some xs → VRs g (os.map a.eval) (vals rs xs)
  | [], xs, h => by simp [trArgs] at h; subst h; exact .nil
  | o :: os, xs, h => by
    simp only [trArgs] at h
    obtain ⟨x, hx, h⟩ := bnd_eq_some h
    obtain ⟨l, hl, h⟩ := bnd_eq_some h
    cases h
    exact .cons (trArg_sound hr hx) (trArgs_sound hr hl)

/-! ### what a value must be -/
theorem VR.bool_inv {u : Value} {b : Bool} (h : VR g u (.bool b)) : u = .bool b := by cases h with | cell a => cases a; rfl
theorem VR.int_inv {u : Value} {k : IntKind} {n : Int} (h : VR g u (.int k n)) : u = .int k n := by cases h with | cell a => cases a; rfl
theorem VR.str_inv {u : Value} {l : List UInt8} (h : VR g u (.str l)) : ∃ s : ByteArray, u = .string s ∧ s.data.toList = l := by
  cases h with | cell a => cases a; exact ⟨_, rfl, rfl⟩
theorem VR.nilp_inv {u : Value} (h : VR g u (.ptr none)) : u = .pointer none := by cases h with | cell a => cases a; rfl
theorem VR.nilm_inv {u : Value} (h : VR g u (.map none)) : u = .map none := by cases h with | cell a => cases a; rfl
theorem VR.nofn_inv {u : Value} (h : VR g u .nofn) : u = .nilFunc := by cases h with | cell a => cases a; rfl
theorem VR.ptr_inv {u : Value} {i o : Nat} (h : VR g u (.ptr (some (i, o)))) : ∃ b, g.mu i = some b ∧ u = .pointer (some ⟨b, o, none⟩) := by
  cases h with
  | cell a => cases a
  | ptr a => exact ⟨_, a, rfl⟩
theorem VR.map_inv {u : Value} {i : Nat} (h : VR g u (.map (some i))) : ∃ b, g.mu i = some b ∧ u = .map (some b) := by
  cases h with
  | cell a => cases a
  | map a => exact ⟨_, a, rfl⟩
theorem VR.ro_inv {u : Value} {cs : List V} (h : VR g u (.ro cs)) : ∃ b o us, u = .pointer (some ⟨b, o, none⟩) ∧ (∀ j x, us[j]? = some x → g.imm b (o + j) = some x) ∧ CRs g.imm us cs := by
  cases h with
  | cell a => cases a
  | ro a b => exact ⟨_, _, _, rfl, a, b⟩
theorem VR.agg_inv {u : Value} {cs : List V} (h : VR g u (.agg cs)) : ∃ us : List Value, u = .agg us.toArray ∧ VRs g us cs ∧ cs.all V.isCell = true := by
  cases h with
  | cell a => cases a
  | agg a b => exact ⟨_, rfl, a, b⟩
theorem VR.tup_inv {u : Value} {vs : List V} (h : VR g u (.tup vs)) : ∃ us : List Value, u = .tuple us.toArray ∧ VRs g us vs := by
  cases h with
  | cell a => cases a
  | tup a => exact ⟨_, rfl, a⟩
theorem VR.fn_inv {u : Value} {f : Nat} {as cs : List V} (h : VR g u (.fn f as cs)) : ∃ us vs : List Value, u = .func (.func f) us.toArray vs.toArray ∧ VRs g us as ∧ VRs g vs cs := by
  cases h with
  | cell a => cases a; exact ⟨[], [], rfl, .nil, .nil⟩
  | fn a b => exact ⟨_, _, rfl, a, b⟩
theorem VR.sl_inv {u : Value} {xs : List V} (h : VR g u (.sl xs)) : CR g.imm u (.sl xs) := by cases h with | cell a => exact a
theorem CR.sl_inv {m : Imm} {u : Value} {xs : List V} (h : CR m u (.sl xs)) : (u = .slice none 0 0 ∧ xs = []) ∨ (∃ a cap, u = .slice (some a) 0 cap ∧ xs = []) ∨
    ∃ b o cap sz us, u = .slice (some ⟨b, o, none⟩) xs.length cap ∧ xs.length ≤ cap ∧ (∀ x ∈ xs, x.flat.length = sz) ∧ (∀ j x, us[j]? = some x → m b (o + j) = some x) ∧ CRs m us (xs.flatMap V.flat) := by
  cases h with
  | nils => exact .inl ⟨rfl, rfl⟩
  | sl0 => exact .inr (.inl ⟨_, _, rfl, rfl⟩)
  | sl a b c d e => subst a; exact .inr (.inr ⟨_, _, _, _, _, rfl, b, c, d, e⟩)

/-! ### cells -/
theorem add_lit (b o n : Nat) : Addr.add ⟨b, o, none⟩ n = ⟨b, o + n, none⟩ := Addr.add_lit b o n
theorem run_loadVar {t : TypeId} {b : Bool} {n : Nat} (hb : aggT P t = some b) (hn : sizeT P t = some n) (h1 : b = true ∨ n = 1) (bl o : Nat) {us : List Value} (hl : us.length = n)
    (hc : ∀ j u, us[j]? = some u → w.cell? ⟨bl, o + j, none⟩ = some u) :
    (loadVar t ⟨bl, o, none⟩).run P w = .ok (if b = true then .agg us.toArray else us.getD 0 Go.undef) w := by
  unfold aggT at hb
  unfold sizeT at hn
  obtain ⟨i, hi, hn⟩ := bnd_eq_some hn
  cases hn
  have hcell : ∀ j v, us[j]? = some v → w.cell? ((⟨bl, o, none⟩ : Addr).add j) = some v := fun j v hj => by rw [add_lit]; exact hc j v hj
  have hload := run_loadCells_list (P := P) w ⟨bl, o, none⟩ us hcell
  rw [hl] at hload
  split at hb
  · rename_i fs hu
    cases hb
    simp [loadVar, isAgg, run_underlying hu, sizeOf, typeInfo, hi, hload]
  · rename_i k e hu
    cases hb
    simp [loadVar, isAgg, run_underlying hu, sizeOf, typeInfo, hi, hload]
  · rename_i d hu h2 h3
    cases hb
    have h1' : i.size = 1 := by simpa using h1
    obtain ⟨x, rfl⟩ : ∃ x, us = [x] := by
      match us, hl.trans h1' with
      | [x], _ => exact ⟨x, rfl⟩
    have hx := hc 0 x rfl
    have hu' : (isAgg t).run P w = .ok false w := by
      simp only [isAgg, Sem.run_bind, run_underlying h3, Result.andThen_ok]
      rfl
    simp [loadVar, hu', show w.cell? ⟨bl, o, none⟩ = some x by simpa using hx]
  · cases hb

theorem cut_sound {b : Bool} {n off : Nat} {cs : List V} {v : V} (hv : cut b n off cs = some v) (h1 : b = true ∨ n = 1) {us : List Value} (hus : VRs g us cs) (hc : cs.all V.isCell = true) :
    VR g (if b = true then .agg ((us.drop off).take n).toArray else ((us.drop off).take n).getD 0 Go.undef) v ∧ ((us.drop off).take n).length = n := by
  unfold cut at hv
  have hlen := hus.length
  by_cases hle : off + n ≤ cs.length
  · rw [decide_eq_true hle, cnd_true] at hv
    have hl : ((us.drop off).take n).length = n := by simp; omega
    refine ⟨?_, hl⟩
    cases b
    · simp only [Bool.false_eq_true, false_or] at h1
      subst h1
      simp only [cnd_false, decide_true, cnd_true] at hv
      obtain ⟨u, hu, hr⟩ := hus.get off v hv
      have : ((us.drop off).take 1).getD 0 Go.undef = u := by
        simp [List.getD, List.getElem?_take, List.getElem?_drop, hu]
      rw [this]
      exact hr
    · simp only [cnd_true, Option.some.injEq] at hv
      subst hv
      simp only [if_true]
      refine .agg ((hus.drop off).take n) ?_
      simp only [List.all_eq_true] at hc ⊢
      exact fun x hx => hc x (List.mem_of_mem_drop (List.mem_of_mem_take hx))
  · rw [decide_eq_false hle] at hv
    cases hv

/-- The cells behind an address. -/
theorem cellsAt_inv {i : Nat} {c : List V × List (Nat × Nat)} (hc : cellsAt h i = some c) : h[i]? = some (.cells c.1 c.2) := by
  unfold cellsAt hget at hc
  split at hc
  · rename_i cs own hh; cases hc; exact hh
  · cases hc
theorem HRead.cells (hi : HRead g h w) {i : Nat} {c : List V × List (Nat × Nat)} (hc : cellsAt h i = some c) :
    ∃ b us t, g.mu i = some b ∧ w.heap[b]? = some (.cells us t (0, 0)) ∧ VRs g us.toList c.1 ∧ c.1.all V.isCell = true := by
  obtain ⟨b, hb, us, t, h1, h2, h3⟩ := hi.obj i _ (cellsAt_inv hc) rfl
  exact ⟨b, us, t, hb, h1, h2, h3⟩
theorem cell_of_heap {b : Nat} {us : Array Value} {t : TypeId} {fr : Nat × Nat} (hh : w.heap[b]? = some (.cells us t fr)) (o : Nat) : w.cell? ⟨b, o, none⟩ = us[o]? := by
  simp [World.cell?, hh]

theorem loadV_sound (hi : HRead g h w) {t : TypeId} {b : Bool} {n : Nat} (hb : aggT P t = some b) (hn : sizeT P t = some n) (h1 : b = true ∨ n = 1) {u : Value} {x v : V} (hx : VR g u x) (hv : loadV b n h x = some v) :
    ∃ r, (Instr.loadAt t u).run P w = .ok r w ∧ VR g r v := by
  unfold loadV at hv
  split at hv
  · rename_i i o
    obtain ⟨c, hc, hv⟩ := bnd_eq_some hv
    obtain ⟨bl, hbl, rfl⟩ := hx.ptr_inv
    obtain ⟨b', us, tt, hb', hheap, hus, hcell⟩ := hi.cells hc
    rw [hbl] at hb'; cases hb'
    obtain ⟨hr, hl⟩ := cut_sound hv h1 hus hcell
    refine ⟨_, ?_, hr⟩
    have := run_loadVar (w := w) hb hn h1 bl o hl (fun j u hj => by
      rw [cell_of_heap hheap]
      rw [List.getElem?_take] at hj
      split at hj
      · rw [List.getElem?_drop] at hj; simpa using hj
      · cases hj)
    simp [Instr.loadAt, Instr.sureAddr, this]
  · rename_i cs
    obtain ⟨bl, o, us, rfl, himm, hus⟩ := hx.ro_inv
    obtain ⟨hr, hl⟩ := cut_sound hv h1 hus.vrs hus.isCells
    refine ⟨_, ?_, hr⟩
    have := run_loadVar (w := w) hb hn h1 bl o hl (fun j u hj => by
      rw [List.getElem?_take] at hj
      split at hj
      · rw [List.getElem?_drop] at hj
        exact hi.imm _ _ _ (himm j u (by simpa using hj))
      · cases hj)
    simp [Instr.loadAt, Instr.sureAddr, this]
  · cases hv
/-! ### equality, cell by cell -/
theorem VR.cellEq_iff {k : SK} {u u' : Value} {v v' : V} {r : Bool} (h : VR g u v) (h' : VR g u' v') (he : cellEq k v v' = some r) :
    (k = .b ∧ ∃ a b, u = .bool a ∧ u' = .bool b ∧ r = (a == b)) ∨ (k = .i ∧ ∃ q a b, u = .int q a ∧ u' = .int q b ∧ r = (a == b)) ∨ (k = .s ∧ ∃ a b : ByteArray, u = .string a ∧ u' = .string b ∧ r = (a.data.toList == b.data.toList)) := by
  cases k <;> cases v <;> cases v' <;> simp only [cellEq, Option.some.injEq, reduceCtorEq] at he
  · exact .inl ⟨rfl, _, _, h.bool_inv, h'.bool_inv, he.symm⟩
  · rename_i q a q' b
    cases hq : decide (q = q') <;> rw [hq] at he
    · cases he
    · have := of_decide_eq_true hq
      subst this
      cases he
      exact .inr (.inl ⟨rfl, _, _, _, h.int_inv, h'.int_inv, rfl⟩)
  · obtain ⟨s, hs, rfl⟩ := h.str_inv
    obtain ⟨s', hs', rfl⟩ := h'.str_inv
    exact .inr (.inr ⟨rfl, _, _, hs, hs', he.symm⟩)

/-- The value that so many cells make. -/
def valOf (b : Bool) (us : List Value) : Value := if b = true then .agg us.toArray else us.getD 0 Go.undef
theorem run_part {t : TypeId} {b : Bool} {n : Nat} (hb : aggT P t = some b) (hn : sizeT P t = some n) (h1 : b = true ∨ n = 1) (us : List Value) (off : Nat) (hl : off + n ≤ us.length) :
    (part t us.toArray off).run P w = .ok (valOf b ((us.drop off).take n)) w := by
  unfold aggT at hb
  unfold sizeT at hn
  obtain ⟨i, hi, hn⟩ := bnd_eq_some hn
  cases hn
  split at hb
  · rename_i fs hu
    cases hb
    simp [part, isAgg, run_underlying hu, sizeOf, typeInfo, hi, valOf]
  · rename_i k e hu
    cases hb
    simp [part, isAgg, run_underlying hu, sizeOf, typeInfo, hi, valOf]
  · rename_i d hu h2 h3
    cases hb
    have h1' : i.size = 1 := by simpa using h1
    have hu' : (isAgg t).run P w = .ok false w := by
      simp only [isAgg, Sem.run_bind, run_underlying h3, Result.andThen_ok]
      rfl
    have hoff : off < us.length := by omega
    simp [part, hu', valOf, h1', hoff]
  · cases hb

theorem cellsEq_length : ∀ {ks : List SK} {xs ys : List V} {r : Bool}, cellsEq ks xs ys = some r → xs.length = ks.length ∧ ys.length = ks.length
  | [], [], [], _, _ => ⟨rfl, rfl⟩
  | k :: ks, x :: xs, y :: ys, r, h => by
    simp only [cellsEq] at h
    obtain ⟨b, hb, h⟩ := bnd_eq_some h
    obtain ⟨c, hc, h⟩ := bnd_eq_some h
    have := cellsEq_length hc
    simp [this.1, this.2]
theorem cellsEq_split : ∀ {ks ks' : List SK} {xs ys : List V} {r : Bool}, cellsEq (ks ++ ks') xs ys = some r →
    ∃ p q, cellsEq ks (xs.take ks.length) (ys.take ks.length) = some p ∧ cellsEq ks' (xs.drop ks.length) (ys.drop ks.length) = some q ∧ r = (p && q)
  | [], ks', xs, ys, r, h => ⟨true, r, by simp [cellsEq], by simpa using h, rfl⟩
  | k :: ks, ks', x :: xs, y :: ys, r, h => by
    simp only [List.cons_append, cellsEq] at h
    obtain ⟨b, hb, h⟩ := bnd_eq_some h
    obtain ⟨c, hc, h⟩ := bnd_eq_some h
    obtain ⟨p, q, hp, hq, rfl⟩ := cellsEq_split hc
    cases h
    exact ⟨b && p, q, by simp only [List.length_cons, List.take_succ_cons, cellsEq]; rw [hb, bnd_some, hp, bnd_some], by simpa using hq, by rw [Bool.and_assoc]⟩
  | k :: ks, ks', [], ys, r, h => by simp [cellsEq] at h
  | k :: ks, ks', x :: xs, [], r, h => by simp [cellsEq] at h

/-- What '==' answers of values of a type, by their cells. -/
def EqOk (P : Program) (d : Nat) (t : TypeId) (ks : List SK) : Prop :=
  ∀ (g : Gh) (w : World) (xs ys : List Value) (vx vy : List V) (r : Bool) (b : Bool), aggT P t = some b → VRs g xs vx → VRs g ys vy → cellsEq ks vx vy = some r →
    (Op.equalIn d t (valOf b xs) (valOf b ys)).run P w = .ok r w
theorem eqFields_ok {d : Nat} {ft : TypeId → Option (List SK)} (ih : ∀ t ks, ft t = some ks → EqOk P d t ks ∧ ∃ b, aggT P t = some b ∧ (b = true ∨ ks.length = 1)) (xs ys : List Value) (vx vy : List V) (hx : VRs g xs vx) (hy : VRs g ys vy) :
    ∀ (fs : List Field) (o : Nat) (ks : List SK) (r : Bool), flatFs P ft fs o = some ks → cellsEq ks (vx.drop o) (vy.drop o) = some r → (Op.eqFields d xs.toArray ys.toArray fs).run P w = .ok r w
  | [], o, ks, r, h, he => by
    simp only [flatFs, Option.some.injEq] at h
    subst h
    have : r = true := by
      revert he
      cases vx.drop o <;> cases vy.drop o <;> simp [cellsEq]
    subst this
    rfl
  | f :: fs, o, ks, r, h, he => by
    simp only [flatFs] at h
    obtain ⟨k, hk, h⟩ := bnd_eq_some h
    split at h
    · rename_i hf
      obtain ⟨l, hl, h⟩ := bnd_eq_some h
      cases h
      obtain ⟨hname, hoff, hpos, hsz⟩ := hf
      have h1 := hx.length
      have h2 := hy.length
      have h3 := cellsEq_length he
      simp only [List.length_drop, List.length_append] at h3
      obtain ⟨p, q, hp, hq, rfl⟩ := cellsEq_split he
      obtain ⟨heq, b, hb, hb1⟩ := ih f.type k hk
      have e1 := run_part (w := w) hb hsz hb1 xs o (by omega)
      have e2 := run_part (w := w) hb hsz hb1 ys o (by omega)
      have e3 := heq g w _ _ _ _ p b hb ((hx.drop o).take k.length) ((hy.drop o).take k.length) hp
      rw [List.drop_drop, List.drop_drop] at hq
      have e4 := eqFields_ok ih xs ys vx vy hx hy fs (o + k.length) l q hl hq
      simp only [Op.eqFields, hname, ne_eq, not_false_eq_true, if_true, Sem.run_bind, hoff, e1, e2, e3, Result.andThen_ok, Sem.run_ite, e4]
      cases p <;> simp
    · cases h
theorem eqItems_ok {d : Nat} {e : TypeId} {ks : List SK} (ih : EqOk P d e ks) {b : Bool} (hb : aggT P e = some b) (hk : sizeT P e = some ks.length) (hb1 : b = true ∨ ks.length = 1) (hpos : 0 < ks.length) (xs ys : List Value) (vx vy : List V) (hx : VRs g xs vx) (hy : VRs g ys vy) :
    ∀ (m j : Nat) (r : Bool), cellsEq (reps m ks) (vx.drop (j * ks.length)) (vy.drop (j * ks.length)) = some r → (Op.eqItems d e ks.length xs.toArray ys.toArray (List.range' j m)).run P w = .ok r w
  | 0, j, r, he => by
    have : r = true := by
      revert he
      cases vx.drop (j * ks.length) <;> cases vy.drop (j * ks.length) <;> simp [reps, cellsEq]
    subst this
    rfl
  | m + 1, j, r, he => by
    have h1 := hx.length
    have h2 := hy.length
    have h3 := cellsEq_length he
    simp only [reps, List.length_drop, List.length_append] at h3
    obtain ⟨p, q, hp, hq, rfl⟩ := cellsEq_split he
    have e1 := run_part (w := w) hb hk hb1 xs (j * ks.length) (by omega)
    have e2 := run_part (w := w) hb hk hb1 ys (j * ks.length) (by omega)
    have e3 := ih g w _ _ _ _ p b hb ((hx.drop (j * ks.length)).take ks.length) ((hy.drop (j * ks.length)).take ks.length) hp
    rw [List.drop_drop, List.drop_drop, ← Nat.succ_mul] at hq
    have e4 := eqItems_ok ih hb hk hb1 hpos xs ys vx vy hx hy m (j + 1) q hq
    simp only [List.range'_succ, Op.eqItems, Sem.run_bind, e1, e2, e3, Result.andThen_ok, Sem.run_ite, e4]
    cases p <;> simp
theorem flat_agg {d : Nat} {t : TypeId} {ks : List SK} (h : flatT P d t = some ks) : ∃ b, aggT P t = some b ∧ (b = true ∨ ks.length = 1) := by
  match d, h with
  | d + 1, h =>
    simp only [flatT] at h
    unfold aggT
    split at h <;> rename_i hu <;> (try rw [hu])
    · cases h; exact ⟨false, rfl, .inr rfl⟩
    · cases h; exact ⟨false, rfl, .inr rfl⟩
    · cases h; exact ⟨false, rfl, .inr rfl⟩
    · exact ⟨true, rfl, .inl rfl⟩
    · exact ⟨true, rfl, .inl rfl⟩
    · cases h
theorem cells_one {g : Gh} {xs : List Value} {v : V} (h : VRs g xs [v]) : ∃ u, xs = [u] ∧ VR g u v := by
  cases h with | cons a b => cases b; exact ⟨_, rfl, a⟩
theorem cellsEq_one {k : SK} {vx vy : List V} {r : Bool} (h : cellsEq [k] vx vy = some r) : ∃ v v', vx = [v] ∧ vy = [v'] ∧ cellEq k v v' = some r := by
  have hl := cellsEq_length h
  match vx, vy, hl with
  | [v], [v'], _ =>
    refine ⟨v, v', rfl, rfl, ?_⟩
    simp only [cellsEq] at h
    obtain ⟨b, hb, h⟩ := bnd_eq_some h
    simp at h
    rw [hb, h]
theorem flatT_ok : ∀ (d : Nat) (t : TypeId) (ks : List SK), flatT P d t = some ks → ∀ m, EqOk P (d + m) t ks
  | 0, _, _, h, _ => by cases h
  | d + 1, t, ks, h, m => by
    intro g w xs ys vx vy r b hb hx hy he
    rw [show d + 1 + m = (d + m) + 1 by omega]
    simp only [flatT] at h
    unfold aggT at hb
    split at h <;> rename_i hu <;> (try rw [hu] at hb)
    · cases h
      cases hb
      obtain ⟨v, v', rfl, rfl, he1⟩ := cellsEq_one he
      obtain ⟨u, rfl, hx1⟩ := cells_one hx
      obtain ⟨u', rfl, hy1⟩ := cells_one hy
      rcases hx1.cellEq_iff hy1 he1 with ⟨_, a, b, rfl, rfl, rfl⟩ | ⟨h, _⟩ | ⟨h, _⟩
      · exact run_equalIn_bool' w (d + m) t a b hu
      · cases h
      · cases h
    · cases h
      cases hb
      obtain ⟨v, v', rfl, rfl, he1⟩ := cellsEq_one he
      obtain ⟨u, rfl, hx1⟩ := cells_one hx
      obtain ⟨u', rfl, hy1⟩ := cells_one hy
      rcases hx1.cellEq_iff hy1 he1 with ⟨h, _⟩ | ⟨_, q, a, b, rfl, rfl, rfl⟩ | ⟨h, _⟩
      · cases h
      · exact run_equalIn_int w (d + m) t q _ a b hu
      · cases h
    · cases h
      cases hb
      obtain ⟨v, v', rfl, rfl, he1⟩ := cellsEq_one he
      obtain ⟨u, rfl, hx1⟩ := cells_one hx
      obtain ⟨u', rfl, hy1⟩ := cells_one hy
      rcases hx1.cellEq_iff hy1 he1 with ⟨h, _⟩ | ⟨h, _⟩ | ⟨_, a, b, rfl, rfl, rfl⟩
      · cases h
      · cases h
      · have := run_equalIn_string w (d + m) t a b hu
        rw [ByteArray.toList_eq, ByteArray.toList_eq] at this
        exact this
    · rename_i n e
      cases hb
      obtain ⟨l, hl, h⟩ := bnd_eq_some h
      split at h
      · rename_i hc
        cases h
        obtain ⟨b, hb, hb1⟩ := flat_agg hl
        have hs := hc.2
        unfold sizeT at hs
        obtain ⟨i, hi, hs⟩ := bnd_eq_some hs
        have hce : P.cellsOf e = l.length := by rw [← Option.some.inj hs]; simp [Program.cellsOf, hi]
        simp only [valOf, if_true]
        rw [run_equalIn_array w (d + m) xs.toArray ys.toArray hu hi, hce, List.range_eq_range']
        exact eqItems_ok (flatT_ok d e l hl m) hb hc.2 hb1 hc.1 xs ys vx vy hx hy n 0 r (by simpa using he)
      · cases h
    · rename_i fs
      cases hb
      cases hst : P.stoodInHeld t <;> rw [hst] at h
      · simp only [cnd_false] at h
        have hf : P.fieldsOf t = fs := by simp [Program.fieldsOf, hu]
        simp only [valOf, if_true]
        rw [run_equalIn_struct w (d + m) t xs.toArray ys.toArray (by rw [hf]; exact hu) hst, hf]
        exact eqFields_ok (ft := flatT P d) (fun t ks hk => ⟨flatT_ok d t ks hk m, flat_agg hk⟩) xs ys vx vy hx hy fs.toList 0 ks r h (by simpa using he)
      · cases h
    · cases h
end
end Go.Vm
