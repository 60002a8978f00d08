/- Operations that leave memory alone: each yields what the V-machine says. -/
import Derived.Test.YtphlgefkcghopaaVmB3
set_option linter.unusedVariables false
set_option linter.unusedSimpArgs false
namespace Go.Vm
attribute [local simp] evalOps_nil evalOps_cons evalOps_consg evalOp_mv evalOp_asg evalOp_pick evalOp_build evalOp_bslice evalOp_load evalOp_nilck evalOp_bin evalOp_un evalOp_conv evalOp_mkfn evalOp_slice evalOp_faddr evalOp_field evalOp_iaddr evalOp_index evalOp_lookup evalOp_extract evalOp_app evalOp_len evalOp_mn evalOp_mx evalOp_alloc evalOp_box evalOp_mkmap evalOp_store evalOp_mapupd evalOp_delete evalOp_sliceArr evalOp_call evalOp_callv evalOp_appc code_skip code_ops code_dops code_seq code_cond code_block code_exit code_ret finish_normal finish_ret
attribute [local simp] V.lt V.ltL V.flat V.pureCell V.pure V.isCell cellEq cellsEq eqV intV shV strV isShift binV unV byteV convV minV maxV foldV foldV1 fillV fillE findV putV delV isKey natOf natOr cut cellsAt mapAt mapOf loadV pickV nilckV sizeOk allSize sliceV faddrV fieldV iaddrV indexV found extractV allPure appV lenV ownHas ownOk storeC storeV samePtr appcV boxable mapupdV deleteV sliceArrV callV allLt clean bodyEnd resV one finishV runV initR
section
variable {P : Program} {g : Gh} {h : Heap} {w : World} {a : Act} {rs : Regs}

/-! ### parts of a struct, an array, a slice -/
theorem foldl_set (off : Nat) : ∀ (vs : List Value) (k : Nat) (cs : Array Value), off + k + vs.length ≤ cs.size →
    ((vs.zipIdx k).foldl (fun (cs : Array Value) (x : Value × Nat) => cs.setIfInBounds (off + x.2) x.1) cs).toList = cs.toList.take (off + k) ++ (vs ++ cs.toList.drop (off + k + vs.length))
  | [], k, cs, _ => by simp
  | v :: vs, k, cs, hl => by
    simp only [List.length_cons] at hl
    simp only [List.zipIdx_cons, List.foldl_cons]
    rw [foldl_set off vs (k + 1) (cs.setIfInBounds (off + k) v) (by simp; omega)]
    have := list_seg_step cs.toList (off + k) v vs (by simp; omega)
    simp only [Array.toList_setIfInBounds, List.length_cons]
    rw [← List.append_assoc, ← Nat.add_assoc, this, Nat.add_assoc, List.append_assoc]
theorem VRs.set {us us' : List Value} {vs vs' : List V} (hu : VRs g us vs) (hv : VRs g us' vs') (off : Nat) : VRs g (us.take off ++ (us' ++ us.drop (off + us'.length))) (vs.take off ++ (vs' ++ vs.drop (off + vs'.length))) := by
  rw [hv.length]
  exact (hu.take off).append (hv.append (hu.drop _))

/-- The parts, as the model has them. -/
def realParts (a : Act) (parts : List (Nat × Operand)) : List (Nat × Value) := parts.map fun p => (p.1, a.eval p.2)
/-- One part laid in. -/
theorem fill_one {place : Nat → Option (Nat × Nat)} {i off size : Nat} (hp : place i = some (off, size)) {u : Value} {v : V} (hu : VR g u v) (hc : v.flat.all V.isCell = true) (hl : v.flat.length = size) {us : Array Value} {vs : List V} (hus : VRs g us.toList vs) (hle : off + size ≤ vs.length) (rest : List (Nat × Value)) :
    ∃ us' : Array Value, Instr.fill place us ((i, u) :: rest) = Instr.fill place us' rest ∧ VRs g us'.toList (vs.take off ++ (v.flat ++ vs.drop (off + size))) := by
  have hcells := hu.cells hc
  have h1 := hcells.length
  have h2 := hus.length
  have hsz : u.cells.size = size := by rw [← Array.length_toList, h1, hl]
  refine ⟨(u.cells.zipIdx.foldl (fun cs (x : Value × Nat) => cs.setIfInBounds (off + x.2) x.1) us), ?_, ?_⟩
  · have hle' : off + u.cells.size ≤ us.size := by rw [hsz]; simp only [Array.length_toList] at h2; omega
    simp only [Instr.fill, hp]
    rw [if_neg]
    simp [hsz]
    omega
  · have e : (u.cells.zipIdx.foldl (fun cs (x : Value × Nat) => cs.setIfInBounds (off + x.2) x.1) us) = ((u.cells.toList.zipIdx 0).foldl (fun (cs : Array Value) (x : Value × Nat) => cs.setIfInBounds (off + x.2) x.1) us) := by
      rw [← Array.foldl_toList]
      simp
    rw [e, foldl_set off u.cells.toList 0 us (by simp only [Array.length_toList] at h2 ⊢; omega)]
    have := VRs.set hus hcells off
    rw [hl] at this
    simpa using this

theorem fillS_sound (hr : RR g a rs) {t : TypeId} {fs : Array Field} (hu : P.underlying t = some (.struct fs)) {places : List (Nat × Nat)} (hpl : fs.toList.mapM (fun f => (P.info? f.type).map fun i => (f.offset, i.size)) = some places) :
    ∀ (parts : List (Nat × Operand)) (ps : List (Nat × Nat × Arg)) (us : Array Value) (vs vs' : List V), partsS P t parts = some ps → VRs g us.toList vs → fillV rs vs ps = some vs' →
      ∃ us' : Array Value, Instr.fill (places.toArray[·]?) us (realParts a parts) = some us' ∧ VRs g us'.toList vs'
  | [], ps, us, vs, vs', hp, hus, hv => by
    simp only [partsS, Option.some.injEq] at hp
    subst hp
    simp only [fillV, Option.some.injEq] at hv
    subst hv
    exact ⟨us, rfl, hus⟩
  | (i, o) :: parts, ps, us, vs, vs', hp, hus, hv => by
    simp only [partsS] at hp
    obtain ⟨f, hf, hp⟩ := bnd_eq_some hp
    obtain ⟨z, hz, hp⟩ := bnd_eq_some hp
    obtain ⟨x, hx, hp⟩ := bnd_eq_some hp
    obtain ⟨l, hl, hp⟩ := bnd_eq_some hp
    cases hp
    simp only [fillV] at hv
    cases hd : decide (((x.val rs).flat.length = z ∧ f.1 + z ≤ vs.length) ∧ (x.val rs).flat.all V.isCell = true) <;> rw [hd] at hv
    · cases hv
    · simp only [cnd_true] at hv
      have hd := of_decide_eq_true hd
      have hplace : (places.toArray[·]?) i = some (f.1, z) := by
        unfold fieldT at hf
        rw [hu] at hf
        simp only at hf
        unfold sizeT at hz
        obtain ⟨info, hi, hz⟩ := bnd_eq_some hz
        cases hz
        cases hfi : fs[i]? with
        | none => simp [hfi] at hf
        | some fd =>
          simp only [hfi, Option.some.injEq] at hf
          subst hf
          have : ∀ (l : List Field) (pl : List (Nat × Nat)) (k : Nat), l.mapM (fun f => (P.info? f.type).map fun i => (f.offset, i.size)) = some pl → l[k]? = some fd → pl[k]? = some (fd.offset, info.size) := by
            intro l
            induction l with
            | nil => intro pl k _ hk; simp at hk
            | cons f0 l ih =>
              intro pl k hm hk
              simp only [List.mapM_cons, Option.bind_eq_bind, Option.pure_def] at hm
              cases h0 : (P.info? f0.type).map (fun i => (f0.offset, i.size)) with
              | none => simp [h0] at hm
              | some q =>
                cases h1 : l.mapM (fun f => (P.info? f.type).map fun i => (f.offset, i.size)) with
                | none => simp [h0, h1] at hm
                | some r =>
                  simp [h0, h1] at hm
                  subst hm
                  cases k with
                  | zero =>
                    simp only [List.getElem?_cons_zero, Option.some.injEq] at hk ⊢
                    subst hk
                    simp [hi] at h0
                    exact h0.symm
                  | succ k => simpa using ih r k h1 (by simpa using hk)
          simpa using this fs.toList places i hpl (by simpa using hfi)
      obtain ⟨us1, e1, h1⟩ := fill_one hplace (trArg_sound hr hx) hd.2 hd.1.1 hus hd.1.2 (realParts a parts)
      obtain ⟨us', e2, h2⟩ := fillS_sound hr hu hpl parts l us1 _ vs' hl h1 hv
      exact ⟨us', by show Instr.fill _ us ((i, a.eval o) :: realParts a parts) = _; rw [e1, e2], h2⟩
theorem fillA_sound (hr : RR g a rs) {size : Nat} :
    ∀ (parts : List (Nat × Operand)) (ps : List (Nat × Nat × Arg)) (us : Array Value) (vs vs' : List V), partsA size parts = some ps → VRs g us.toList vs → fillV rs vs ps = some vs' →
      ∃ us' : Array Value, Instr.fill (fun i => some (i * size, size)) us (realParts a parts) = some us' ∧ VRs g us'.toList vs'
  | [], ps, us, vs, vs', hp, hus, hv => by
    simp only [partsA, Option.some.injEq] at hp
    subst hp
    simp only [fillV, Option.some.injEq] at hv
    subst hv
    exact ⟨us, rfl, hus⟩
  | (i, o) :: parts, ps, us, vs, vs', hp, hus, hv => by
    simp only [partsA] at hp
    obtain ⟨x, hx, hp⟩ := bnd_eq_some hp
    obtain ⟨l, hl, hp⟩ := bnd_eq_some hp
    cases hp
    simp only [fillV] at hv
    cases hd : decide (((x.val rs).flat.length = size ∧ i * size + size ≤ vs.length) ∧ (x.val rs).flat.all V.isCell = true) <;> rw [hd] at hv
    · cases hv
    · simp only [cnd_true] at hv
      have hd := of_decide_eq_true hd
      obtain ⟨us1, e1, h1⟩ := fill_one (place := fun i => some (i * size, size)) (i := i) rfl (trArg_sound hr hx) hd.2 hd.1.1 hus hd.1.2 (realParts a parts)
      obtain ⟨us', e2, h2⟩ := fillA_sound hr parts l us1 _ vs' hl h1 hv
      exact ⟨us', by show Instr.fill _ us ((i, a.eval o) :: realParts a parts) = _; rw [e1, e2], h2⟩

theorem fillV_cells : ∀ {ps : List (Nat × Nat × Arg)} {vs vs' : List V}, vs.all V.isCell = true → fillV rs vs ps = some vs' → vs'.all V.isCell = true
  | [], vs, vs', hc, hv => by simp only [fillV, Option.some.injEq] at hv; subst hv; exact hc
  | (off, size, x) :: ps, vs, vs', hc, hv => by
    simp only [fillV] at hv
    cases hd : decide (((x.val rs).flat.length = size ∧ off + size ≤ vs.length) ∧ (x.val rs).flat.all V.isCell = true) <;> rw [hd] at hv
    · cases hv
    · simp only [cnd_true] at hv
      have hd := of_decide_eq_true hd
      refine fillV_cells ?_ hv
      simp only [List.all_append, Bool.and_eq_true]
      simp only [List.all_eq_true] at hc ⊢
      exact ⟨fun y hy => hc y (List.mem_of_mem_take hy), by simpa using hd.2, fun y hy => hc y (List.mem_of_mem_drop hy)⟩

theorem places_some (t : TypeId) (fs : Array Field) (places : List (Nat × Nat)) (hz : sizesT P fs.toList = some places) : fs.toList.mapM (fun f => (P.info? f.type).map fun i => (f.offset, i.size)) = some places := by
  have : ∀ (l : List Field) (pl : List (Nat × Nat)), sizesT P l = some pl → l.mapM (fun f => (P.info? f.type).map fun i => (f.offset, i.size)) = some pl := by
    intro l
    induction l with
    | nil => intro pl h; simp only [sizesT, Option.some.injEq] at h; subst h; rfl
    | cons f l ih =>
      intro pl h
      simp only [sizesT] at h
      obtain ⟨i, hi, h⟩ := bnd_eq_some h
      obtain ⟨r, hr, h⟩ := bnd_eq_some h
      cases h
      simp [List.mapM_cons, hi, ih r hr]
  exact this fs.toList places hz

theorem build_sound (hr : RR g a rs) {t : TypeId} {parts : Array (Nat × Operand)} {vop : VOp} (htr : trOp P (.build t parts) 0 (.build [] []) = some vop) {v : V} (hv : valOp h rs vop = some v) :
    ∃ u, (Instr.build t (parts.map fun (i, x) => (i, a.eval x))).run P w = .ok u w ∧ VR g u v := by
  simp only [trOp] at htr
  obtain ⟨z, hz, htr⟩ := bnd_eq_some htr
  obtain ⟨cs, hcs, htr⟩ := bnd_eq_some htr
  have hz0 : VRs g z.cells.toList cs := (trVals_sound hcs).vrs
  have hzc : cs.all V.isCell = true := (trVals_sound (m := g.imm) hcs).isCells
  unfold zeroT at hz
  obtain ⟨it, hit, hz⟩ := bnd_eq_some hz
  have hparts : (parts.map fun (i, x) => (i, a.eval x)).toList = realParts a parts.toList := by simp [realParts]
  split at htr
  · rename_i fs hu
    obtain ⟨places, hpl, htr⟩ := bnd_eq_some htr
    obtain ⟨ps, hps, htr⟩ := bnd_eq_some htr
    cases htr
    simp only [valOp] at hv
    obtain ⟨vs, hvs, hv⟩ := bnd_eq_some hv
    cases hv
    have hpl' := places_some t fs places hpl
    obtain ⟨us', e, hus'⟩ := fillS_sound hr hu hpl' parts.toList ps z.cells cs vs hps hz0 hvs
    refine ⟨.agg us', ?_, by simpa using VR.agg hus' (fillV_cells hzc hvs)⟩
    refine run_build w t _ us' ?_
    simp only [Program.built, hit, hu, hz, hpl', hparts, e]
  · rename_i n e' hu
    obtain ⟨k, hk, htr⟩ := bnd_eq_some htr
    obtain ⟨ps, hps, htr⟩ := bnd_eq_some htr
    cases htr
    simp only [valOp] at hv
    obtain ⟨vs, hvs, hv⟩ := bnd_eq_some hv
    cases hv
    unfold sizeT at hk
    obtain ⟨ie, hie, hk⟩ := bnd_eq_some hk
    cases hk
    obtain ⟨us', e, hus'⟩ := fillA_sound hr parts.toList ps z.cells cs vs hps hz0 hvs
    refine ⟨.agg us', ?_, by simpa using VR.agg hus' (fillV_cells hzc hvs)⟩
    refine run_build w t _ us' ?_
    simp only [Program.built, hit, hu, hz, hie, hparts, e]
  · cases htr

/-! ### slices and strings cut -/
theorem natOf_inv {u : Value} {v : V} {n : Nat} (hu : VR g u v) (hn : natOf v = some n) : ∃ k, u = .int k n := by
  unfold natOf at hn
  split at hn
  · rename_i k i
    cases hu.int_inv
    cases hi : decide (0 ≤ i) <;> rw [hi] at hn
    · cases hn
    · have := of_decide_eq_true hi
      cases hn
      exact ⟨k, by rw [Int.toNat_of_nonneg this]⟩
  · cases hn
theorem run_bound {u : Value} {k : IntKind} {n y : Nat} (hu : u = .int k n) (hn : n ≤ y) (c : BoundsCode) : (Instr.sliceBound u y c).run P w = .ok n w := by
  subst hu
  simp [Instr.sliceBound, asIntOf, hn]
theorem run_bounds (hr : RR g a rs) {lo hi mx : Option Operand} {lo' hi' mx' : Option Arg} (h1 : trOpt lo = some lo') (h2 : trOpt hi = some hi') (h3 : trOpt mx = some mx') {isS : Bool} {len cap l u m : Nat}
    (hl : natOr rs 0 lo' = some l) (hu : natOr rs len hi' = some u) (hm : natOr rs u mx' = some m) (hlu : l ≤ u) (hum : u ≤ m) (hcap : m ≤ cap) (hlen : len ≤ cap) (hmx : (hi'.isSome || mx'.isNone) = true) :
    ∃ M, (Instr.sliceBounds isS len cap (lo.map a.eval) (hi.map a.eval) (mx.map a.eval)).run P w = .ok (l, u, M) w ∧ u ≤ M ∧ M ≤ cap ∧ (mx = none → M = cap) := by
  have one : ∀ {o : Option Operand} {o' : Option Arg} {d n : Nat}, trOpt o = some o' → natOr rs d o' = some n → (o = none ∧ o' = none ∧ n = d) ∨ ∃ x x' k, o = some x ∧ o' = some x' ∧ a.eval x = .int k n := by
    intro o o' d n ho hn
    cases o with
    | none => simp only [trOpt, Option.some.injEq] at ho; subst ho; simp only [natOr, Option.some.injEq] at hn; exact .inl ⟨rfl, rfl, hn.symm⟩
    | some x =>
      simp only [trOpt] at ho
      obtain ⟨x', hx', ho⟩ := bnd_eq_some ho
      cases ho
      obtain ⟨k, hk⟩ := natOf_inv (trArg_sound hr hx') hn
      exact .inr ⟨x, x', k, rfl, rfl, hk⟩
  unfold Instr.sliceBounds
  rcases one h3 hm with ⟨rfl, rfl, rfl⟩ | ⟨x, x', k, rfl, rfl, hk⟩
  · refine ⟨cap, ?_, by omega, Nat.le_refl _, fun _ => rfl⟩
    rcases one h2 hu with ⟨rfl, rfl, rfl⟩ | ⟨y, y', k', rfl, rfl, hk'⟩
    · rcases one h1 hl with ⟨rfl, rfl, rfl⟩ | ⟨z, z', k'', rfl, rfl, hk''⟩
      · simp
      · simp [run_bound (w := w) (P := P) hk'' hlu]
    · have e := fun c => run_bound (w := w) (P := P) hk' (show m ≤ cap by omega) c
      rcases one h1 hl with ⟨rfl, rfl, rfl⟩ | ⟨z, z', k'', rfl, rfl, hk''⟩
      · simp [e]
      · simp [e, run_bound (w := w) (P := P) hk'' hlu]
  · refine ⟨m, ?_, hum, hcap, fun h => by cases h⟩
    have e := fun c => run_bound (w := w) (P := P) hk hcap c
    rcases one h2 hu with ⟨rfl, rfl, rfl⟩ | ⟨y, y', k', rfl, rfl, hk'⟩
    · simp at hmx
    · have e' := fun c => run_bound (w := w) (P := P) hk' hum c
      rcases one h1 hl with ⟨rfl, rfl, rfl⟩ | ⟨z, z', k'', rfl, rfl, hk''⟩
      · simp [e, e']
      · simp [e, e', run_bound (w := w) (P := P) hk'' hlu]

theorem sizeOk_eq {size sz : Nat} {xs : List V} (h : sizeOk size xs = true) (hs : ∀ x ∈ xs, x.flat.length = sz) (hne : xs ≠ []) : sz = size := by
  cases xs with
  | nil => exact absurd rfl hne
  | cons x xs =>
    have h1 : x.flat.length = size := by simpa [sizeOk] using h
    rw [← hs x (by simp), h1]
theorem CR.cut {m : Imm} {b o cap size : Nat} {xs : List V} {us : List Value} {sz : Nat} (hcap : xs.length ≤ cap) (hsz : ∀ x ∈ xs, x.flat.length = sz) (himm : ∀ j u, us[j]? = some u → m b (o + j) = some u) (hus : CRs m us (xs.flatMap V.flat))
    (hok : sizeOk size xs = true) {l u M : Nat} (hlu : l ≤ u) (hul : u ≤ xs.length) (huM : u ≤ M) :
    CR m (.slice (some (if M = l then ⟨b, o, none⟩ else Addr.add ⟨b, o, none⟩ (l * size))) (u - l) (M - l)) (.sl ((xs.take u).drop l)) := by
  by_cases hM : M = l
  · rw [if_pos hM]
    have hu : u = l := by omega
    subst hu
    have : (xs.take u).drop u = [] := List.drop_eq_nil_of_le (by simp; omega)
    rw [this]
    exact .sl (sz := 0) (us := []) (by simp) (by omega) (by simp) (by simp) .nil
  · rw [if_neg hM, add_lit]
    by_cases hne : xs = []
    · subst hne
      simp only [List.length_nil] at hul
      have : u = 0 := by omega
      subst this
      have : l = 0 := by omega
      subst this
      exact .sl (sz := 0) (us := []) (by simp) (by omega) (by simp) (by simp) .nil
    · have := sizeOk_eq hok hsz hne
      subst this
      refine .sl (sz := sz) (us := (us.take (u * sz)).drop (l * sz)) (by simp; omega) (by omega) (fun x hx => hsz x (List.mem_of_mem_take (List.mem_of_mem_drop hx))) (fun j x hj => ?_) ?_
      · rw [List.getElem?_drop, List.getElem?_take] at hj
        split at hj
        · rw [Nat.add_assoc]; exact himm _ _ hj
        · cases hj
      · rw [← flatMap_drop l (fun x hx => hsz x (List.mem_of_mem_take hx)), ← flatMap_take u hsz]
        exact (hus.take _).drop _

theorem slice_sound (hr : RR g a rs) {t e : TypeId} {n : Nat} (ht : P.underlying t = some (.slice e)) (hn : sizeT P e = some n) {u : Value} {x v : V} (hx : VR g u x) {lo hi mx : Option Operand} {lo' hi' mx' : Option Arg} (h1 : trOpt lo = some lo') (h2 : trOpt hi = some hi') (h3 : trOpt mx = some mx')
    (hv : sliceV n rs lo' hi' mx' false x = some v) : ∃ z, (Instr.sliceAt t u (lo.map a.eval) (hi.map a.eval) (mx.map a.eval)).run P w = .ok z w ∧ VR g z v := by
  unfold sliceV at hv
  split at hv
  · rename_i hb; cases hb
  · rename_i xs _
    obtain ⟨l, hl, hv⟩ := bnd_eq_some hv
    obtain ⟨q, hq, hv⟩ := bnd_eq_some hv
    obtain ⟨m, hm, hv⟩ := bnd_eq_some hv
    cases hd : (decide (l ≤ q ∧ q ≤ m ∧ m ≤ xs.length) && ((hi'.isSome || mx'.isNone) && sizeOk n xs)) <;> rw [hd] at hv
    · cases hv
    · simp only [cnd_true, Option.some.injEq] at hv
      subst hv
      simp only [Bool.and_eq_true, decide_eq_true_eq] at hd
      obtain ⟨⟨hlq, hqm, hmx⟩, hmm, hok⟩ := hd
      unfold sizeT at hn
      obtain ⟨i, hi', hn⟩ := bnd_eq_some hn
      cases hn
      have hsz : (sizeOf e).run P w = .ok i.size w := by simp [sizeOf, typeInfo, hi']
      rcases hx.sl_inv.sl_inv with ⟨rfl, rfl⟩ | ⟨ad, cap, rfl, rfl⟩ | ⟨b, o, cap, sz, us, rfl, hcap, hs, himm, hus⟩
      · simp only [List.length_nil] at hmx hq
        have e0 : q = 0 := by omega
        have e1 : l = 0 := by omega
        have e2 : m = 0 := by omega
        subst e0 e1 e2
        obtain ⟨M, hM, _, hMc, _⟩ := run_bounds (w := w) (P := P) hr h1 h2 h3 (isS := true) (len := 0) (cap := 0) hl hq hm (Nat.le_refl _) (Nat.le_refl _) (Nat.le_refl _) (Nat.le_refl _) hmm
        have : M = 0 := by omega
        subst this
        refine ⟨.slice none 0 0, ?_, .cell .nils⟩
        simp [Instr.sliceAt, Instr.slice, run_underlying ht, hM, hsz]
      · simp only [List.length_nil] at hmx hq
        have e0 : q = 0 := by omega
        have e1 : l = 0 := by omega
        have e2 : m = 0 := by omega
        subst e0 e1 e2
        obtain ⟨M, hM, _, hMc, _⟩ := run_bounds (w := w) (P := P) hr h1 h2 h3 (isS := true) (len := 0) (cap := cap) hl hq hm (Nat.le_refl _) (Nat.le_refl _) (Nat.zero_le _) (Nat.zero_le _) hmm
        refine ⟨.slice (some ad) 0 M, ?_, .cell .sl0⟩
        simp only [Instr.sliceAt, Instr.slice, Sem.run_bind, run_underlying ht, Result.andThen_ok, hM, hsz, Sem.run_pure]
        congr 2
        simp [Addr.add]
      · obtain ⟨M, hM, huM, hMc, _⟩ := run_bounds (w := w) (P := P) hr h1 h2 h3 (isS := true) (len := xs.length) (cap := cap) hl hq hm hlq hqm (by omega) hcap hmm
        refine ⟨_, ?_, .cell (CR.cut hcap hs himm hus hok hlq (by omega) huM)⟩
        simp only [Instr.sliceAt, Instr.slice, Sem.run_bind, run_underlying ht, Result.andThen_ok, hM, hsz, Sem.run_pure]
        congr 2
        split <;> rfl
  · cases hv

theorem sliceS_sound (hr : RR g a rs) {t : TypeId} (ht : P.underlying t = some .string) {u : Value} {x v : V} (hx : VR g u x) {lo hi mx : Option Operand} {lo' hi' mx' : Option Arg} (h1 : trOpt lo = some lo') (h2 : trOpt hi = some hi') (h3 : trOpt mx = some mx')
    (hv : sliceV 1 rs lo' hi' mx' true x = some v) : ∃ z, (Instr.sliceAt t u (lo.map a.eval) (hi.map a.eval) (mx.map a.eval)).run P w = .ok z w ∧ VR g z v := by
  unfold sliceV at hv
  split at hv
  · rename_i s _
    obtain ⟨l, hl, hv⟩ := bnd_eq_some hv
    obtain ⟨q, hq, hv⟩ := bnd_eq_some hv
    cases hd : (decide (l ≤ q ∧ q ≤ s.length) && mx'.isNone) <;> rw [hd] at hv
    · cases hv
    · simp only [cnd_true, Option.some.injEq] at hv
      subst hv
      simp only [Bool.and_eq_true, decide_eq_true_eq, Option.isNone_iff_eq_none] at hd
      obtain ⟨⟨hlq, hqs⟩, rfl⟩ := hd
      have hmx : mx = none := by
        cases mx with
        | none => rfl
        | some y => simp only [trOpt] at h3; obtain ⟨y', _, h3⟩ := bnd_eq_some h3; cases h3
      subst hmx
      obtain ⟨str, rfl, rfl⟩ := hx.str_inv
      have es : str.size = str.data.toList.length := by rw [Array.length_toList]; rfl
      obtain ⟨M, hM, _, _, _⟩ := run_bounds (w := w) (P := P) hr h1 h2 h3 (isS := false) (len := str.size) (cap := str.size) (m := q) hl (by rw [es]; exact hq) rfl hlq (Nat.le_refl _) (by rw [es]; exact hqs) (Nat.le_refl _) (by simp)
      refine ⟨.string (str.extract l q), ?_, ?_⟩
      · simp only [Option.map_none] at hM ⊢
        simp [Instr.sliceAt, Instr.slice, run_underlying ht, hM]
      · have : (str.extract l q).data.toList = (str.data.toList.take q).drop l := by
          simp [ByteArray.data_extract, List.drop_take]
        rw [← this]
        exact .cell (.str _)
  · rename_i hb; cases hb
  · cases hv
end
end Go.Vm
