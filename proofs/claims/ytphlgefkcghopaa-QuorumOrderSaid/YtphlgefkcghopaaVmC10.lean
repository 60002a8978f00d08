/- A slice literal. -/
import Derived.Test.YtphlgefkcghopaaVmC9
set_option linter.unusedVariables false
set_option linter.unusedSimpArgs false
namespace Go.Vm
attribute [local simp] evalOps_nil evalOps_cons evalOps_consg evalOp_mv evalOp_asg evalOp_pick evalOp_build evalOp_bslice evalOp_load evalOp_nilck evalOp_bin evalOp_un evalOp_conv evalOp_mkfn evalOp_slice evalOp_faddr evalOp_field evalOp_iaddr evalOp_index evalOp_lookup evalOp_extract evalOp_app evalOp_len evalOp_mn evalOp_mx evalOp_alloc evalOp_box evalOp_mkmap evalOp_store evalOp_mapupd evalOp_delete evalOp_sliceArr evalOp_call evalOp_callv evalOp_appc code_skip code_ops code_dops code_seq code_cond code_block code_exit code_ret finish_normal finish_ret
attribute [local simp] V.lt V.ltL V.flat V.pureCell V.pure V.isCell cellEq cellsEq eqV intV shV strV isShift binV unV byteV convV minV maxV foldV foldV1 fillV fillE findV putV delV isKey natOf natOr cut cellsAt mapAt mapOf loadV pickV nilckV sizeOk allSize sliceV faddrV fieldV iaddrV indexV found extractV allPure appV lenV ownHas ownOk storeC storeV samePtr appcV boxable mapupdV deleteV sliceArrV callV allLt clean bodyEnd resV one finishV runV initR
section
variable {P : Program} {R : Nat → Option Nat} {cx : Cx} {N : Nat} {hb0 : Heap} {S T : Ow} {rs : Regs} {h : Heap} {fl : Fl} {g : Gh} {a : Act} {w : World} {o : Oper} {gd vop : VOp}

theorem Inv.row (hi : Inv cx N hb0 S rs h fl g a w) {us : List Value} {cur : Array Value} {t : TypeId} (hus : ∀ (j : Nat) (u : Value), us[j]? = some u → cur[j]? = some u) : Inv cx N hb0 S rs h fl (g.addImm w.heap.size 0 us) a (w.alloc (.cells cur t)) := by
  have hle : GLe g (g.addImm w.heap.size 0 us) := Gh.addImm_le fun k _ _ => hi.G.immNone (Nat.le_refl _) k
  have heap : ∀ b, b < w.heap.size → (w.alloc (.cells cur t)).heap[b]? = w.heap[b]? := fun b hb => heap_alloc_old w _ hb
  obtain ⟨pd, hO, hf⟩ := hi.O
  refine ⟨hi.W.step (World.grownBy_alloc w _ none) (fun b e => by cases e) id, hi.G.frozen hus hi.W.hsz, ⟨pd, ?_, ⟨hf.al, fun t p hm => ?_, hf.pd⟩⟩, hi.F.mono hle⟩
  · refine hO.map (fun p q => p = q) (fun _ _ _ e1 e2 => e1.trans e2.symm) (fun p sz u hp => .inr ⟨_, sz, rfl, ?_, .inl rfl⟩) (fun p q b e hn => e ▸ hn) (fun q sz u b hq _ hb => ⟨⟨heap b ((hO.own q sz u hq).lt hb), fun k hk => ?_⟩, fun i hl hm => ⟨hl, hm⟩⟩)
    · cases p with
      | reg r off => exact hp
      | cell i j =>
        obtain ⟨cs, own, b, h1, h2, h3, h4, h5⟩ := hp
        exact ⟨cs, own, b, h1, h2, h3, h4, by rw [← cell_same (heap b (hi.G.muW i b h4).1)]; exact h5⟩
    · rw [Gh.addImm_other (Nat.ne_of_lt ((hO.own q sz u hq).lt hb))]; exact hk
  · obtain ⟨b, k, h1, h2⟩ := hf.la t p hm
    exact ⟨b, k, h1, by rw [cell_same (heap b (cell_lt h2))]; exact h2⟩

theorem rep_get {α : Type} {n k : Nat} {l : List α} (hl : l.length = k) (hk : 0 < k) : ∀ (n j : Nat), j < n * k → ((List.replicate n l).flatten)[j]? = l[j % k]?
  | 0, j, h => by simp at h
  | n + 1, j, h => by
    rw [List.replicate_succ, List.flatten_cons]
    by_cases hj : j < k
    · rw [List.getElem?_append_left (by omega), Nat.mod_eq_of_lt hj]
    · rw [List.getElem?_append_right (by omega), hl, rep_get (n := n) hl hk n (j - k) (by rw [Nat.add_mul] at h; omega), ← Nat.mod_eq_sub_mod (by omega)]
theorem VRs.rep {us : List Value} {vs : List V} (hu : VRs g us vs) : ∀ n, VRs g (List.replicate n us).flatten (List.replicate n vs).flatten
  | 0 => .nil
  | n + 1 => by rw [List.replicate_succ, List.replicate_succ, List.flatten_cons, List.flatten_cons]; exact hu.append (hu.rep n)
theorem zeroRow {z : Array Value} {k n : Nat} (hz : z.size = k) (hk : 0 < k) : ((Array.range (n * k)).map (z[· % z.size]!)).toList = (List.replicate n z.toList).flatten := by
  apply List.ext_getElem?
  intro j
  have hlen : ((List.replicate n z.toList).flatten).length = n * k := by simp [hz]
  by_cases hj : j < n * k
  · rw [rep_get (n := n) (by simpa using hz) hk n j hj]
    have : j % k < z.size := by rw [hz]; exact Nat.mod_lt _ hk
    simp [hj, hz]
    rw [getElem!_pos z (j % k) this, Array.getElem?_eq_getElem this]
  · rw [List.getElem?_eq_none (by simp; omega), List.getElem?_eq_none (by omega)]
theorem flatMap_replicate {n : Nat} {z : V} : (List.replicate n z).flatMap V.flat = (List.replicate n z.flat).flatten := by
  simp [List.flatMap]
theorem flatMap_set {k : Nat} {xs : List V} (hs : ∀ x ∈ xs, x.flat.length = k) {i : Nat} (hi : i < xs.length) (v : V) : (xs.set i v).flatMap V.flat = (xs.flatMap V.flat).take (i * k) ++ (v.flat ++ (xs.flatMap V.flat).drop (i * k + k)) := by
  rw [List.set_eq_take_append_cons_drop, if_pos hi, List.flatMap_append, List.flatMap_cons, ← flatMap_take i hs, ← flatMap_drop (i + 1) hs, Nat.add_mul, Nat.one_mul]
theorem fillE_keep : ∀ {ps : List (Nat × Arg)} {m : Nat} {xs xs' : List V}, incrFrom m ps = true → fillE rs xs ps = some xs' → xs'.length = xs.length ∧ ∀ j, j < m → xs'[j]? = xs[j]?
  | [], m, xs, xs', _, h => by simp only [fillE, Option.some.injEq] at h; subst h; exact ⟨rfl, fun _ _ => rfl⟩
  | (i, x) :: ps, m, xs, xs', hi, h => by
    simp only [incrFrom, Bool.and_eq_true, decide_eq_true_eq] at hi
    simp only [fillE] at h
    obtain ⟨_, h⟩ := cnd_eq_some h
    obtain ⟨h1, h2⟩ := fillE_keep hi.2 h
    refine ⟨by simpa using h1, fun j hj => ?_⟩
    rw [h2 j (by omega), List.getElem?_set_ne (by omega)]
theorem fillE_sound (hr : RR g a rs) {k : Nat} : ∀ (parts : List (Nat × Operand)) (ps : List (Nat × Arg)) (m : Nat) (us : Array Value) (xs xs' : List V), partsE parts = some ps → incrFrom m ps = true → VRs g us.toList (xs.flatMap V.flat) → (∀ x ∈ xs, x.flat.length = k) → fillE rs xs ps = some xs' →
    (∀ x ∈ xs', x.flat.length = k ∧ x.flat.all V.isCell = true) → ∃ us' : Array Value, Instr.fill (fun i => some (i * k, k)) us (realParts a parts) = some us' ∧ VRs g us'.toList (xs'.flatMap V.flat)
  | [], ps, m, us, xs, xs', hp, _, hus, _, hv, _ => by
    simp only [partsE, Option.some.injEq] at hp
    subst hp
    simp only [fillE, Option.some.injEq] at hv
    subst hv
    exact ⟨us, rfl, hus⟩
  | (i, y) :: parts, ps, m, us, xs, xs', hp, hinc, hus, hs, hv, hall => by
    simp only [partsE] at hp
    obtain ⟨x, hx, hp⟩ := bnd_eq_some hp
    obtain ⟨l, hl, hp⟩ := bnd_eq_some hp
    cases hp
    simp only [incrFrom, Bool.and_eq_true, decide_eq_true_eq] at hinc
    simp only [fillE] at hv
    obtain ⟨hlt, hv⟩ := cnd_eq_some hv
    have hlt := of_decide_eq_true hlt
    obtain ⟨hlen, hkeep⟩ := fillE_keep hinc.2 hv
    have hmem : x.val rs ∈ xs' := by
      have := hkeep i (by omega)
      rw [List.getElem?_set_self hlt] at this
      exact List.mem_of_getElem? this
    obtain ⟨hsz, hcell⟩ := hall _ hmem
    have hle : i * k + k ≤ (xs.flatMap V.flat).length := by
      rw [flatMap_length hs, ← Nat.succ_mul]
      exact Nat.mul_le_mul_right _ hlt
    obtain ⟨us1, e1, h1⟩ := fill_one (place := fun i => some (i * k, k)) (i := i) rfl (trArg_sound hr hx) hcell hsz hus hle (realParts a parts)
    rw [← flatMap_set hs hlt] at h1
    obtain ⟨us', e2, h2⟩ := fillE_sound hr parts l (i + 1) us1 _ xs' hl hinc.2 h1 (fun z hz => by
      rcases List.mem_or_eq_of_mem_set hz with hz | rfl
      · exact hs z hz
      · exact hsz) hv hall
    exact ⟨us', by show Instr.fill _ us ((i, a.eval y) :: realParts a parts) = _; rw [e1, e2], h2⟩
theorem pure_cells {v : V} (h : v.pure = true) : v.flat.all V.isCell = true := by
  cases v with
  | agg cs =>
    simp only [V.pure, V.flat, List.all_eq_true] at h ⊢
    exact fun x hx => V.pureCell_isCell (h x hx)
  | _ => first
    | (simp [V.pure, V.pureCell] at h; done)
    | simp [V.flat]

theorem bslice_ok (hi : Inv cx N hb0 S rs h fl g a w) {z : V} {k n : Nat} {ps : List (Nat × Arg)} (htr : trOp P o.op o.type gd = some (.bslice z k n ps)) (hs : S.step1 R o.dst (.bslice z k n ps) = some T) (hd : ∀ x, o.dst = some x → x < N)
    {v : V} (hv : valOp h rs (.bslice z k n ps) = some v) : ∃ u w' g', (execOp a.eval o).run P w = .ok (.value u) w' ∧ GLe g g' ∧ Inv cx N hb0 T (putR o.dst v rs) h fl g' (a.put o.dst u) w' := by
  obtain ⟨t, parts, e, zv, hop, ht, hz, hzv, hk, hp, hpos, hsmall, hzsz⟩ := trOp_bslice htr
  simp only [Ow.step1] at hs
  obtain ⟨hinc, hs⟩ := cnd_eq_some hs
  obtain ⟨T0, hkill, hs⟩ := bnd_eq_some hs
  cases hs
  simp only [valOp] at hv
  obtain ⟨xs, hfill, hv⟩ := bnd_eq_some hv
  obtain ⟨hcond, hv⟩ := cnd_eq_some hv
  cases hv
  simp only [Bool.and_eq_true] at hcond
  have hpure := allPure_mem hcond.1
  have hsize := allSize_mem hcond.2
  unfold sliceT at ht
  split at ht
  · rename_i e' ht'
    cases ht
    unfold sizeT at hk
    obtain ⟨i, hie, hk⟩ := bnd_eq_some hk
    cases hk
    unfold zeroT at hz
    obtain ⟨i', hie', hz⟩ := bnd_eq_some hz
    rw [hie] at hie'; cases hie'
    have hzr := trConst_sound (g := g) hzv
    -- the zero element's cells
    have hzc : VRs g zv.cells.toList z.flat := by
      unfold trConst at hzv
      split at hzv
      · obtain ⟨l, hl, hzv⟩ := bnd_eq_some hzv
        cases hzv
        exact (trVals_sound (m := g.imm) hl).vrs
      · have hc := trVal_sound (m := g.imm) hzv
        exact hzr.cells (by cases hc <;> rfl)
    have hzl : z.flat.length = i.size := by rw [← hzc.length]; simpa using hzsz
    have hrow : VRs g ((Array.range (n * i.size)).map (zv.cells[· % zv.cells.size]!)).toList ((List.replicate n z).flatMap V.flat) := by
      rw [zeroRow hzsz hpos, flatMap_replicate]
      exact hzc.rep n
    obtain ⟨us', hf, hus'⟩ := fillE_sound hi.F.regs parts.toList ps 0 _ (List.replicate n z) xs hp hinc hrow (fun x hx => by rw [List.eq_of_mem_replicate hx]; exact hzl) hfill (fun x hx => ⟨hsize x hx, pure_cells (hpure x hx)⟩)
    have hxlen : xs.length = n := by have := (fillE_keep hinc hfill).1; simpa using this
    have hpc : CRs g.imm us'.toList (xs.flatMap V.flat) := by
      refine hus'.pureCells ?_
      simp only [List.all_eq_true, List.mem_flatMap]
      rintro y ⟨x, hx, hy⟩
      have := hpure x hx
      cases x with
      | agg cs => simp only [V.pure, List.all_eq_true] at this; exact this y hy
      | _ => simp only [V.flat, List.mem_singleton] at hy; subst hy; exact this
    have h1 := hi.row (us := us'.toList) (cur := us') (t := e) (fun j u hu => by simpa using hu)
    have hle : GLe g (g.addImm w.heap.size 0 us'.toList) := Gh.addImm_le fun k _ _ => hi.G.immNone (Nat.le_refl _) k
    have hu : VR (g.addImm w.heap.size 0 us'.toList) (.slice (some ⟨w.heap.size, 0, none⟩) n n) (.sl xs) :=
      .cell (.sl (sz := i.size) hxlen.symm (by omega) hsize (fun j u hu => Gh.addImm_at hu) (hpc.mono hle.imm))
    have h2 := h1.put hd hkill hu
    have hlt : ∀ d, o.dst = some d → d < a.tmps.size := fun d e => by rw [hi.F.size]; exact hd d e
    refine ⟨_, _, _, ?_, hle, h2.addFull fun d e x hx => ?_⟩
    · have hm : (parts.map fun p => (p.1, a.eval p.2)).toList = realParts a parts.toList := by simp [realParts]
      have hf2 : Instr.fill (fun j => some (j * i.size, i.size)) ((Array.range (n * i.size)).map (zv.cells[· % zv.cells.size]!)) (parts.map fun p => (p.1, a.eval p.2)).toList = some us' := by rw [hm]; exact hf
      unfold execOp
      rw [hop]
      have h24 : ¬ (n * i.size > 2 ^ 24) := by omega
      by_cases hn0 : n = 0
      · subst hn0
        simp only [Nat.zero_mul] at hf2
        have e0 : (Array.map (fun x => zv.cells[x % zv.cells.size]!) (Array.range 0)) = #[] := by simp
        rw [e0] at hf2
        have hf3 : Instr.fill (fun j => some (j * i.size, i.size)) #[] (List.map (fun x => (x.1, a.eval x.2)) parts.toList) = some us' := by rw [← hf2]; simp
        have e1 : ∀ f : Nat → Value, Array.map f (Array.range 0) = #[] := fun f => Array.eq_empty_of_size_eq_zero (by simp)
        simp [Instr.buildSlice, run_underlying ht', sizeOf, typeInfo, hie, hf3, newRow, e1]
      · have hnz : ¬ (n * i.size = 0) := by
          intro e0
          rcases Nat.mul_eq_zero.1 e0 with h3 | h3 <;> omega
        have : (Instr.buildSlice t n (parts.map fun p => (p.1, a.eval p.2))).run P w = .ok (.slice (some ⟨w.heap.size, 0, none⟩) n n) (w.alloc (.cells us' e)) := by
          have hf3 : Instr.fill (fun j => some (j * i.size, i.size)) (Array.map (fun x => zv.cells[x % zv.cells.size]!) (Array.range (n * i.size))) (List.map (fun x => (x.1, a.eval x.2)) parts.toList) = some us' := by rw [← hf2]; simp
          simp [Instr.buildSlice, run_underlying ht', sizeOf, typeInfo, zeroValue, hie, hz, h24, hnz, hf3, newRow]
        simp only [Sem.run_bind, this, Result.andThen_ok, Sem.run_pure]
    · rw [e, put_get (hlt d e)] at hx
      exact ⟨_, n, by simpa [Value.cells] using hx.symm⟩
  · cases ht
end
end Go.Vm
