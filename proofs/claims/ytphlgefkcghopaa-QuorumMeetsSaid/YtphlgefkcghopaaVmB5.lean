/- Every operation that leaves memory alone yields what the V-machine says. -/
import Derived.Test.YtphlgefkcghopaaVmB4
set_option linter.unusedVariables false
set_option linter.unusedSimpArgs false
namespace Go.Vm
attribute [local simp] evalOps_nil evalOps_cons evalOps_consg evalOp_mv evalOp_asg evalOp_pick evalOp_build evalOp_bslice evalOp_load evalOp_nilck evalOp_bin evalOp_un evalOp_conv evalOp_mkfn evalOp_slice evalOp_faddr evalOp_field evalOp_iaddr evalOp_index evalOp_lookup evalOp_extract evalOp_app evalOp_len evalOp_mn evalOp_mx evalOp_alloc evalOp_box evalOp_mkmap evalOp_store evalOp_mapupd evalOp_delete evalOp_sliceArr evalOp_call evalOp_callv evalOp_appc code_skip code_ops code_dops code_seq code_cond code_block code_exit code_ret finish_normal finish_ret
attribute [local simp] V.lt V.ltL V.flat V.pureCell V.pure V.isCell cellEq cellsEq eqV intV shV strV isShift binV unV byteV convV minV maxV foldV foldV1 fillV fillE findV putV delV isKey natOf natOr cut cellsAt mapAt mapOf loadV pickV nilckV sizeOk allSize sliceV faddrV fieldV iaddrV indexV found extractV allPure appV lenV ownHas ownOk storeC storeV samePtr appcV boxable mapupdV deleteV sliceArrV callV allLt clean bodyEnd resV one finishV runV initR
section
variable {P : Program} {g : Gh} {h : Heap} {w : World} {a : Act} {rs : Regs}

theorem sizeT_run {t : TypeId} {n : Nat} (hn : sizeT P t = some n) : (sizeOf t).run P w = .ok n w := by
  unfold sizeT at hn
  obtain ⟨i, hi, hn⟩ := bnd_eq_some hn
  cases hn
  simp [sizeOf, typeInfo, hi]
theorem faddr_sound {t : TypeId} {f : Nat} {fd : Nat × TypeId} {n : Nat} (hf : fieldT P t f = some fd) (hn : sizeT P fd.2 = some n) (hpos : 0 < n) {u : Value} {x v : V} (hx : VR g u x) (hv : faddrV fd.1 x = some v) :
    ∃ z, (Instr.fieldAt t u f).run P w = .ok z w ∧ VR g z v := by
  unfold fieldT at hf
  split at hf
  · rename_i fs hu
    split at hf
    · rename_i fl hfl
      cases hf
      have hne : n ≠ 0 := by omega
      unfold faddrV at hv
      split at hv <;> cases hv
      · obtain ⟨b, hb, rfl⟩ := hx.ptr_inv
        refine ⟨_, ?_, .ptr hb⟩
        simp [Instr.fieldAt, run_underlying hu, hfl, Instr.sureAddr, fieldPlace, sizeT_run hn, hne, add_lit]
      · obtain ⟨b, o, us, rfl, himm, hus⟩ := hx.ro_inv
        refine ⟨.pointer (some ⟨b, o + fl.offset, none⟩), ?_, .ro (us := us.drop fl.offset) (fun j x hj => ?_) (hus.drop _)⟩
        · simp [Instr.fieldAt, run_underlying hu, hfl, Instr.sureAddr, fieldPlace, sizeT_run hn, hne, add_lit]
        · rw [List.getElem?_drop] at hj
          rw [Nat.add_assoc]
          exact himm _ _ hj
    · cases hf
  · cases hf
theorem field_sound {t : TypeId} {f : Nat} {fd : Nat × TypeId} {n : Nat} {b : Bool} (hf : fieldT P t f = some fd) (hb : aggT P fd.2 = some b) (hn : sizeT P fd.2 = some n) (h1 : b = true ∨ n = 1) {u : Value} {x v : V} (hx : VR g u x) (hv : fieldV fd.1 n b x = some v) :
    ∃ z, (Instr.field t u f).run P w = .ok z w ∧ VR g z v := by
  unfold fieldT at hf
  split at hf
  · rename_i fs hu
    split at hf
    · rename_i fl hfl
      cases hf
      unfold fieldV at hv
      split at hv
      · rename_i cs
        obtain ⟨us, rfl, hus, hc⟩ := hx.agg_inv
        obtain ⟨hr, hl⟩ := cut_sound hv h1 hus hc
        have hle : fl.offset + n ≤ us.length := by
          unfold cut at hv
          have := hus.length
          cases hd : decide (fl.offset + n ≤ cs.length) <;> rw [hd] at hv
          · cases hv
          · have := of_decide_eq_true hd; omega
        refine ⟨_, ?_, hr⟩
        simp only [Instr.field, Sem.run_bind, run_underlying hu, Result.andThen_ok, hfl, asAgg, Sem.run_pure]
        exact run_part hb hn h1 us fl.offset hle
      · cases hv
    · cases hf
  · cases hf
theorem iaddrS_sound {t e : TypeId} {n : Nat} (ht : P.underlying t = some (.slice e)) (hn : sizeT P e = some n) {u ui : Value} {x i v : V} {j : Nat} (hx : VR g u x) (hi : VR g ui i) (hj : natOf i = some j) (hv : iaddrV n j none x = some v) :
    ∃ z, (Instr.indexAt t u ui).run P w = .ok z w ∧ VR g z v := by
  obtain ⟨k, rfl⟩ := natOf_inv hi hj
  cases x with
  | sl xs =>
    simp only [iaddrV] at hv
    obtain ⟨y, hy, hv⟩ := bnd_eq_some hv
    cases hd : (y.flat.length == n) <;> rw [hd] at hv
    · cases hv
    · cases hv
      have hd : y.flat.length = n := by simpa using hd
      have hlt : j < xs.length := (List.getElem?_eq_some_iff.1 hy).1
      rcases hx.sl_inv.sl_inv with ⟨rfl, rfl⟩ | ⟨ad, cap, rfl, rfl⟩ | ⟨b, o, cap, sz, us, rfl, hcap, hs, himm, hus⟩
      · simp at hlt
      · simp at hlt
      · have hmem : y ∈ xs := List.mem_of_getElem? hy
        have := hs y hmem
        have hsz : sz = n := by omega
        subst hsz
        refine ⟨.pointer (some ⟨b, o + j * sz, none⟩), ?_, .ro (us := (us.drop (j * sz)).take sz) (fun q x hq => ?_) ?_⟩
        · have := run_indexAt_slice (P := P) w t ⟨b, o, none⟩ xs.length cap k j (by rw [ht]; simp [Program.elem, ht])
          rw [this, if_pos ⟨by omega, by omega⟩]
          have he : P.elem t = e := by simp [Program.elem, ht]
          rw [he, sizeT_run hn]
          simp [add_lit]
        · rw [List.getElem?_take] at hq
          split at hq
          · rw [List.getElem?_drop] at hq
            rw [Nat.add_assoc]
            exact himm _ _ hq
          · cases hq
        · have h1 := (hus.drop (j * sz)).take sz
          rw [flatMap_drop j hs] at h1
          have h2 : (xs.drop j).flatMap V.flat = y.flat ++ (xs.drop (j + 1)).flatMap V.flat := by
            rw [List.drop_eq_getElem_cons hlt]
            have : xs[j] = y := (List.getElem?_eq_some_iff.1 hy).2
            rw [this, List.flatMap_cons]
          have e : (y.flat ++ (xs.drop (j + 1)).flatMap V.flat).take sz = y.flat := by rw [← hd]; exact List.take_left
          rw [h2, e] at h1
          exact h1
  | _ => simp [iaddrV] at hv
theorem iaddrA_sound {t e : TypeId} {m n : Nat} (ht : P.underlying t = some (.array m e)) (hn : sizeT P e = some n) {u ui : Value} {x i v : V} {j : Nat} (hx : VR g u x) (hi : VR g ui i) (hj : natOf i = some j) (hv : iaddrV n j (some m) x = some v) :
    ∃ z, (Instr.indexAt t u ui).run P w = .ok z w ∧ VR g z v := by
  obtain ⟨k, rfl⟩ := natOf_inv hi hj
  have run : ∀ ad : Addr, j < m → (Instr.indexAt t (.pointer (some ad)) (.int k j)).run P w = .ok (.pointer (some (ad.add (j * n)))) w := by
    intro ad hlt
    have := run_indexAt_array (P := P) w t ad k j (by rw [ht]; simp [Program.arrayLen, Program.elem, ht])
    have hm : P.arrayLen t = m := by simp [Program.arrayLen, ht]
    have he : P.elem t = e := by simp [Program.elem, ht]
    rw [this, hm, he, if_pos ⟨by omega, by omega⟩, sizeT_run hn]
    simp
  cases x with
  | ptr z =>
    cases z with
    | none => simp [iaddrV] at hv
    | some z =>
      obtain ⟨i, o⟩ := z
      simp only [iaddrV] at hv
      cases hd : decide (j < m) <;> rw [hd] at hv
      · cases hv
      · cases hv
        obtain ⟨b, hb, rfl⟩ := hx.ptr_inv
        exact ⟨_, by rw [run _ (of_decide_eq_true hd), add_lit], .ptr hb⟩
  | ro cs =>
    simp only [iaddrV] at hv
    cases hd : decide (j < m) <;> rw [hd] at hv
    · cases hv
    · cases hv
      obtain ⟨b, o, us, rfl, himm, hus⟩ := hx.ro_inv
      refine ⟨_, by rw [run _ (of_decide_eq_true hd), add_lit], .ro (us := us.drop (j * n)) (fun q x hq => ?_) (hus.drop _)⟩
      rw [List.getElem?_drop] at hq
      rw [Nat.add_assoc]
      exact himm _ _ hq
  | _ => simp [iaddrV] at hv
theorem indexA_sound {t e : TypeId} {m n : Nat} {b : Bool} (ht : P.underlying t = some (.array m e)) (hb : aggT P e = some b) (hn : sizeT P e = some n) (h1 : b = true ∨ n = 1) {u ui : Value} {x i v : V} {j : Nat} (hx : VR g u x) (hi : VR g ui i) (hj : natOf i = some j) (hv : indexV m n b j false x = some v) :
    ∃ z, (Instr.index t u ui).run P w = .ok z w ∧ VR g z v := by
  obtain ⟨k, rfl⟩ := natOf_inv hi hj
  unfold indexV at hv
  split at hv
  · rename_i hq; cases hq
  · rename_i cs _
    cases hd : decide (j < m) <;> rw [hd] at hv
    · cases hv
    · simp only [cnd_true] at hv
      have hlt := of_decide_eq_true hd
      obtain ⟨us, rfl, hus, hc⟩ := hx.agg_inv
      obtain ⟨hr, hl⟩ := cut_sound hv h1 hus hc
      have hle : j * n + n ≤ us.length := by
        unfold cut at hv
        have := hus.length
        cases hd : decide (j * n + n ≤ cs.length) <;> rw [hd] at hv
        · cases hv
        · have := of_decide_eq_true hd; omega
      refine ⟨_, ?_, hr⟩
      simp only [Instr.index, Sem.run_bind, asIntOf, Sem.run_pure, Result.andThen_ok, run_underlying ht]
      rw [if_pos ⟨by omega, by omega⟩]
      simp only [Sem.run_bind, sizeT_run hn, Result.andThen_ok, Int.toNat_natCast]
      exact run_part hb hn h1 us (j * n) hle
  · cases hv
theorem indexS_sound {t : TypeId} (ht : P.underlying t = some .string) {u ui : Value} {x i v : V} {j m n : Nat} {b : Bool} (hx : VR g u x) (hi : VR g ui i) (hj : natOf i = some j) (hv : indexV m n b j true x = some v) :
    ∃ z, (Instr.index t u ui).run P w = .ok z w ∧ VR g z v := by
  obtain ⟨k, rfl⟩ := natOf_inv hi hj
  unfold indexV at hv
  split at hv
  · rename_i s _
    obtain ⟨c, hc, hv⟩ := bnd_eq_some hv
    cases hv
    obtain ⟨str, rfl, rfl⟩ := hx.str_inv
    have hlt : j < str.data.toList.length := (List.getElem?_eq_some_iff.1 hc).1
    have hsz : j < str.size := by rw [Array.length_toList] at hlt; exact hlt
    have hget : str[j]? = some c := by
      rw [getElem?_pos str j hsz]
      have := (List.getElem?_eq_some_iff.1 hc).2
      rw [← this]
      rfl
    refine ⟨_, ?_, .i _ _⟩
    simp only [Instr.index, Sem.run_bind, asIntOf, Sem.run_pure, Result.andThen_ok, run_underlying ht]
    rw [if_pos (by omega), Int.toNat_natCast, hget]
    rfl
  · rename_i hq; cases hq
  · cases hv

theorem bytes_sound {m : Imm} : ∀ {us : List Value} {xs : List V} {l : List UInt8}, CRs m us (xs.flatMap V.flat) → bytesOf xs = some l → ∃ ns : List Int, us = ns.map (Value.int .u8) ∧ ns.length = xs.length ∧ l = ns.map fun n => UInt8.ofNat n.toNat
  | us, [], l, hus, h => by
    simp only [bytesOf, Option.some.injEq] at h
    subst h
    cases hus
    exact ⟨[], rfl, rfl, rfl⟩
  | us, x :: xs, l, hus, h => by
    unfold bytesOf at h
    split at h
    · rename_i he; cases he
    · rename_i n ys he
      cases he
      obtain ⟨l', hl', h⟩ := bnd_eq_some h
      cases h
      simp only [List.flatMap_cons, V.flat, List.cons_append, List.nil_append] at hus
      cases hus with
      | cons a b =>
        cases a
        obtain ⟨ns, rfl, h2, rfl⟩ := bytes_sound b hl'
        exact ⟨n :: ns, rfl, by simp [h2], rfl⟩
    · cases h
theorem fold_push : ∀ (ns : List Int) (s : ByteArray), (ns.foldl (fun (r : ByteArray) n => r.push (UInt8.ofNat n.toNat)) s).data.toList = s.data.toList ++ ns.map fun n => UInt8.ofNat n.toNat
  | [], s => by simp
  | n :: ns, s => by rw [List.foldl_cons, fold_push ns]; simp
theorem strOf_sound {s d e : TypeId} (hs : P.underlying s = some (.slice e)) (hd : P.underlying d = some .string) (he : byteT P e = true) (hi : HRead g h w) {u : Value} {x v : V} (hx : VR g u x) (hv : convV .strOfBytes x = some v) :
    ∃ z, (convert s d u).run P w = .ok z w ∧ VR g z v := by
  have he' : P.underlying e = some (.int .u8) := by
    unfold byteT at he
    split at he
    · assumption
    · cases he
  cases x with
  | sl xs =>
    simp only [convV] at hv
    obtain ⟨l, hl, hv⟩ := bnd_eq_some hv
    cases hv
    rcases hx.sl_inv.sl_inv with ⟨rfl, rfl⟩ | ⟨ad, cap, rfl, rfl⟩ | ⟨b, o, cap, sz, us, rfl, hcap, hss, himm, hus⟩
    · cases hl
      refine ⟨.string .empty, ?_, .cell (.str .empty)⟩
      rw [run_convert_bytes_string w s d e none 0 0 hs he' hd]
      simp [Conv.bytesToString]
    · cases hl
      refine ⟨.string .empty, ?_, .cell (.str .empty)⟩
      rw [run_convert_bytes_string w s d e (some ad) 0 cap hs he' hd]
      exact run_bytesToString w ad 0 cap [] (run_loadCells_list (P := P) w ad [] (fun j v hj => by simp at hj))
    · obtain ⟨ns, rfl, hlen, rfl⟩ := bytes_sound hus hl
      have hcells : ∀ j v, (ns.map (Value.int .u8))[j]? = some v → w.cell? ((⟨b, o, none⟩ : Addr).add j) = some v := fun j v hj => by rw [add_lit]; exact hi.imm _ _ _ (himm j v hj)
      have hload := run_loadCells_list (P := P) w ⟨b, o, none⟩ _ hcells
      rw [List.length_map, hlen] at hload
      refine ⟨_, by rw [run_convert_bytes_string w s d e _ _ _ hs he' hd]; exact run_bytesToString w ⟨b, o, none⟩ xs.length cap ns hload, ?_⟩
      have := fold_push ns ByteArray.empty
      simp only [ByteArray.empty, ByteArray.emptyWithCapacity] at this
      have e2 : (ns.map fun n => UInt8.ofNat n.toNat) = (ns.foldl (fun (r : ByteArray) n => r.push (UInt8.ofNat n.toNat)) ByteArray.empty).data.toList := by
        rw [fold_push]; rfl
      rw [e2]
      exact .cell (.str _)
  | _ => simp [convV] at hv
theorem toInt_sound {s d : TypeId} {k k' : IntKind} (hs : P.underlying s = some (.int k')) (hd : P.underlying d = some (.int k)) {u : Value} {x v : V} (hx : VR g u x) (hv : convV (.toInt k) x = some v) :
    ∃ z, (convert s d u).run P w = .ok z w ∧ VR g z v := by
  cases x with
  | int q n =>
    simp only [convV, Option.some.injEq] at hv
    subst hv
    cases hx.int_inv
    exact ⟨_, by simp [convert, run_underlying hs, run_underlying hd, Conv.intToInt], .i _ _⟩
  | _ => simp [convV] at hv
theorem sameStr_sound {s d : TypeId} (hs : P.underlying s = some .string) (hd : P.underlying d = some .string) {u : Value} {x v : V} (hx : VR g u x) (hv : convV .same x = some v) :
    ∃ z, (convert s d u).run P w = .ok z w ∧ VR g z v := by
  cases x with
  | str l =>
    simp only [convV, Option.some.injEq] at hv
    subst hv
    obtain ⟨str, rfl, rfl⟩ := hx.str_inv
    exact ⟨_, by simp [convert, run_underlying hs, run_underlying hd], hx⟩
  | _ => simp [convV] at hv

/-! ### maps -/
theorem keyK_inv {t : TypeId} {q : SK} (h : keyK P t = some q) : (q = .i ∧ ∃ k, P.underlying t = some (.int k)) ∨ (q = .s ∧ P.underlying t = some .string) := by
  unfold keyK at h
  split at h <;> cases h
  · rename_i k hk; exact .inl ⟨rfl, k, hk⟩
  · rename_i hk; exact .inr ⟨rfl, hk⟩
theorem sameNow_of {t : TypeId} {q : SK} (hq : keyK P t = some q) {d : TypeDesc} (hd : P.underlying t = some d) {u u' : Value} {x x' : V} {r : Bool} (hx : VR g u x) (hx' : CR g.imm u' x') (he : cellEq q x x' = some r) : Instr.sameNow d u u' = some r := by
  rcases hx.cellEq_iff (.cell hx') he with ⟨rfl, _⟩ | ⟨rfl, k, a, b, rfl, rfl, rfl⟩ | ⟨rfl, a, b, rfl, rfl, rfl⟩
  · rcases keyK_inv hq with ⟨h, _⟩ | ⟨h, _⟩ <;> cases h
  · rcases keyK_inv hq with ⟨_, k', hk⟩ | ⟨h, _⟩
    · rw [hk] at hd; cases hd; simp [Instr.sameNow]
    · cases h
  · rcases keyK_inv hq with ⟨h, _⟩ | ⟨_, hk⟩
    · cases h
    · rw [hk] at hd; cases hd
      simp only [Instr.sameNow, Option.some.injEq]
      rw [beq_toListBytes, ByteArray.toList_eq, ByteArray.toList_eq]
theorem checkKey_run {t : TypeId} {q : SK} (hq : keyK P t = some q) {u : Value} {x : V} (hx : VR g u x) (hk : isKey q x = true) (em : Bool) : (Instr.checkKey em 10000 t u).run P w = .ok () w := by
  have key : ∀ d, (Instr.checkKey em (d + 1) t u).run P w = .ok () w := by
    intro d
    rcases keyK_inv hq with ⟨rfl, k, hu⟩ | ⟨rfl, hu⟩
    · cases x <;> simp only [isKey, Bool.false_eq_true] at hk
      cases hx.int_inv
      simp [Instr.checkKey, run_underlying hu]
    · cases x <;> simp only [isKey, Bool.false_eq_true] at hk
      obtain ⟨s, rfl, rfl⟩ := hx.str_inv
      simp [Instr.checkKey, run_underlying hu]
  exact key 9999
theorem findNow_of {t : TypeId} {q : SK} (hq : keyK P t = some q) {d : TypeDesc} (hd : P.underlying t = some d) {u : Value} {x : V} (hx : VR g u x) :
    ∀ (es : List MapEntry) (ps : List (V × V)) (r : Option V) (k : Nat), ERels g es ps → findV q x ps = some r →
      (r = none → Instr.findNow d u es k = some none) ∧ (∀ v, r = some v → ∃ i e, es[i]? = some e ∧ Instr.findNow d u es k = some (some (k + i, e.val)) ∧ VR g e.val v)
  | [], [], r, k, _, h => by simp only [findV, Option.some.injEq] at h; subst h; exact ⟨fun _ => rfl, fun v hv => (by cases hv)⟩
  | e :: es, p :: ps, r, k, hrel, h => by
    obtain ⟨k', v'⟩ := p
    simp only [ERels] at hrel
    simp only [findV] at h
    obtain ⟨b, hb, h⟩ := bnd_eq_some h
    have hs := sameNow_of hq hd hx hrel.1.1 hb
    cases b
    · simp only [cnd_false] at h
      have ih := findNow_of hq hd hx es ps r (k + 1) hrel.2 h
      refine ⟨fun hr => by simp only [Instr.findNow, hs]; exact ih.1 hr, fun v hv => ?_⟩
      obtain ⟨i, e', h1, h2, h3⟩ := ih.2 v hv
      exact ⟨i + 1, e', by simpa using h1, by simp only [Instr.findNow, hs, h2]; congr 3; omega, h3⟩
    · simp only [cnd_true, Option.some.injEq] at h
      subst h
      refine ⟨fun hr => (by cases hr), fun v hv => ?_⟩
      cases hv
      exact ⟨0, e, rfl, by simp only [Instr.findNow, hs]; rfl, hrel.1.2⟩
theorem mapOf_run (hi : HRead g h w) {u : Value} {x : V} {es : List (V × V)} (hx : VR g u x) (hm : mapOf h x = some es) :
    (u = .map none ∧ es = []) ∨ ∃ b rs clock, u = .map (some b) ∧ w.heap[b]? = some (.map rs clock) ∧ ERels g rs.toList es := by
  cases x with
  | map z =>
    cases z with
    | none =>
      simp only [mapOf, Option.some.injEq] at hm
      exact .inl ⟨hx.nilm_inv, hm.symm⟩
    | some i =>
      simp only [mapOf, mapAt, hget] at hm
      split at hm
      · rename_i es' hh
        cases hm
        obtain ⟨b, hb, rfl⟩ := hx.map_inv
        obtain ⟨b', hb', rs, clock, h1, h2⟩ := hi.obj i _ hh rfl
        rw [hb] at hb'; cases hb'
        exact .inr ⟨b, rs, clock, rfl, h1, h2⟩
      · cases hm
  | _ => simp [mapOf] at hm
theorem ERels.length : ∀ {es : List MapEntry} {ps : List (V × V)}, ERels g es ps → es.length = ps.length
  | [], [], _ => rfl
  | _ :: _, _ :: _, h => by simp only [ERels] at h; simp [h.2.length]
theorem lookup_sound (hi : HRead g h w) {t kt e : TypeId} {q : SK} {z : Value} {zv : V} (ht : P.underlying t = some (.map kt e)) (hq : keyK P kt = some q) (hz : zeroT P e = some z) (hzv : trConst z = some zv)
    {um uk : Value} {m k v : V} {ok : Bool} (hm : VR g um m) (hk : VR g uk k) {es : List (V × V)} (hes : mapOf h m = some es) (hkey : isKey q k = true) {r : Option V} (hr : findV q k es = some r) (hv : found zv ok r = v) :
    ∃ y, (Instr.lookup t um uk ok).run P w = .ok y w ∧ VR g y v := by
  have hzero : (zeroValue e).run P w = .ok z w := by
    unfold zeroT at hz
    obtain ⟨i, hinf, hz⟩ := bnd_eq_some hz
    simp [zeroValue, typeInfo, hinf, hz]
  have hzr : VR g z zv := trConst_sound hzv
  have hd : ∃ d, P.underlying kt = some d := by
    rcases keyK_inv hq with ⟨_, k, h⟩ | ⟨_, h⟩ <;> exact ⟨_, h⟩
  obtain ⟨d, hd⟩ := hd
  have fin : ∀ (rs : Array MapEntry), ERels g rs.toList es → ∃ y : Value, ((do
      Instr.checkKey rs.isEmpty 10000 kt uk
      let (v, o) ← match ← Instr.findKey kt uk rs.toList with
        | some (_, v) => pure (v, true)
        | none => do pure (← zeroValue e, false)
      pure (if ok then .tuple #[v, .bool o] else v) : Sem Value)).run P w = .ok y w ∧ VR g y v := by
    intro rs hrel
    have hf := findNow_of hq hd hk rs.toList es r 0 hrel hr
    have hck := checkKey_run (w := w) hq hk hkey rs.isEmpty
    cases r with
    | none =>
      have h1 := hf.1 rfl
      have hfk : (Instr.findKey kt uk rs.toList).run P w = .ok none w := by simp only [Instr.findKey, Sem.run_bind, run_underlying hd, Result.andThen_ok, h1]; rfl
      simp only [Sem.run_bind, hck, Result.andThen_ok, hfk, hzero, Sem.run_pure]
      cases ok <;> subst hv
      · exact ⟨_, rfl, hzr⟩
      · exact ⟨_, rfl, .tup (us := [z, .bool false]) (.cons hzr (.cons (.b _) .nil))⟩
    | some x =>
      obtain ⟨i, en, _, h1, h2⟩ := hf.2 x rfl
      have hfk : (Instr.findKey kt uk rs.toList).run P w = .ok (some (0 + i, en.val)) w := by simp only [Instr.findKey, Sem.run_bind, run_underlying hd, Result.andThen_ok, h1]; rfl
      simp only [Sem.run_bind, hck, Result.andThen_ok, hfk, Sem.run_pure]
      cases ok <;> subst hv
      · exact ⟨_, rfl, h2⟩
      · exact ⟨_, rfl, .tup (us := [en.val, .bool true]) (.cons h2 (.cons (.b _) .nil))⟩
  rcases mapOf_run hi hm hes with ⟨rfl, rfl⟩ | ⟨b, rs, clock, rfl, hheap, hrel⟩
  · obtain ⟨y, hy, hyr⟩ := fin #[] trivial
    refine ⟨y, ?_, hyr⟩
    rw [← hy]
    simp only [Instr.lookup, Sem.run_bind, run_underlying ht, Result.andThen_ok, Sem.run_pure]
    rfl
  · obtain ⟨y, hy, hyr⟩ := fin rs hrel
    refine ⟨y, ?_, hyr⟩
    rw [← hy]
    have hobj : (getObj b).run P w = .ok (.map rs clock) w := by simp [getObj, Sem.run, hheap]
    simp only [Instr.lookup, Sem.run_bind, run_underlying ht, Result.andThen_ok, hobj, Sem.run_pure]
    rfl

/-! ### the rest -/
theorem lenV_sound (hi : HRead g h w) {u : Value} {x v : V} {k : LK} {t ty : TypeId} (hx : VR g u x) (hv : lenV h k x = some v)
    (hk : (k = .str ∧ P.underlying t = some .string) ∨ (k = .sl ∧ ∃ e, P.underlying t = some (.slice e)) ∨ (k = .map ∧ ∃ a b, P.underlying t = some (.map a b)) ∨ (∃ n, k = .arr n ∧ ((∃ e, P.underlying t = some (.array n e)) ∨ ∃ r e, P.underlying t = some (.pointer r) ∧ P.underlying r = some (.array n e)))) :
    ∃ z, (Builtin.len_ #[t] ty #[u]).run P w = .ok z w ∧ VR g z v := by
  rcases hk with ⟨rfl, ht⟩ | ⟨rfl, e, ht⟩ | ⟨rfl, k', e, ht⟩ | ⟨n, rfl, ht⟩
  · cases x with
    | str l =>
      simp only [lenV, Option.some.injEq] at hv
      subst hv
      obtain ⟨s, rfl, rfl⟩ := hx.str_inv
      refine ⟨_, by simp [Builtin.len_, run_underlying ht]; rfl, ?_⟩
      have : s.size = s.data.toList.length := by rw [Array.length_toList]; rfl
      rw [this]
      exact .i _ _
    | _ => simp [lenV] at hv
  · cases x with
    | sl xs =>
      simp only [lenV, Option.some.injEq] at hv
      subst hv
      rcases hx.sl_inv.sl_inv with ⟨rfl, rfl⟩ | ⟨ad, cap, rfl, rfl⟩ | ⟨b, o, cap, sz, us, rfl, _, _, _, _⟩
      · exact ⟨_, by simp [Builtin.len_, run_underlying ht]; rfl, .i _ _⟩
      · exact ⟨_, by simp [Builtin.len_, run_underlying ht]; rfl, .i _ _⟩
      · exact ⟨_, by simp [Builtin.len_, run_underlying ht]; rfl, .i _ _⟩
    | _ => simp [lenV] at hv
  · cases x with
    | map z =>
      simp only [lenV] at hv
      obtain ⟨es, hes, hv⟩ := bnd_eq_some hv
      cases hv
      rcases mapOf_run hi hx hes with ⟨rfl, rfl⟩ | ⟨b, rs, clock, rfl, hheap, hrel⟩
      · exact ⟨_, by simp [Builtin.len_, run_underlying ht]; rfl, .i _ _⟩
      · have hobj : (getObj b).run P w = .ok (.map rs clock) w := by simp [getObj, Sem.run, hheap]
        refine ⟨.int .i64 rs.size, by simp [Builtin.len_, run_underlying ht, hobj, goInt], ?_⟩
        have := hrel.length
        rw [Array.length_toList] at this
        rw [this]
        exact .i _ _
    | _ => simp [lenV] at hv
  · have hv : v = .int .i64 n := by cases x <;> simp only [lenV, Option.some.injEq] at hv <;> exact hv.symm
    subst hv
    rcases ht with ⟨e, ht⟩ | ⟨r, e, ht, hr⟩
    · exact ⟨_, by simp [Builtin.len_, run_underlying ht]; rfl, .i _ _⟩
    · exact ⟨_, by simp [Builtin.len_, run_underlying ht, run_underlying hr]; rfl, .i _ _⟩
theorem nilck_sound {u : Value} {x v : V} (hx : VR g u x) (hv : nilckV x = some v) : VR g u v ∧ ((∃ ad, u = .pointer (some ad)) ∨ ∃ f p q, u = .func (.func f) p q) := by
  unfold nilckV at hv
  split at hv <;> cases hv
  · rename_i z
    obtain ⟨i, o⟩ := z
    obtain ⟨b, _, rfl⟩ := hx.ptr_inv
    exact ⟨hx, .inl ⟨_, rfl⟩⟩
  · obtain ⟨b, o, us, rfl, _, _⟩ := hx.ro_inv
    exact ⟨hx, .inl ⟨_, rfl⟩⟩
  · obtain ⟨us, vs, rfl, _, _⟩ := hx.fn_inv
    exact ⟨hx, .inr ⟨_, _, _, rfl⟩⟩
end
end Go.Vm
