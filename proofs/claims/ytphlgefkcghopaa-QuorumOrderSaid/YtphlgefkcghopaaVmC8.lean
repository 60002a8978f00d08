/- Rows: an append, a slice literal. -/
import Derived.Test.YtphlgefkcghopaaVmC7
set_option linter.unusedVariables false
set_option linter.unusedSimpArgs false
namespace Go.Vm
attribute [local simp] evalOps_nil evalOps_cons evalOps_consg evalOp_mv evalOp_asg evalOp_pick evalOp_build evalOp_bslice evalOp_load evalOp_nilck evalOp_bin evalOp_un evalOp_conv evalOp_mkfn evalOp_slice evalOp_faddr evalOp_field evalOp_iaddr evalOp_index evalOp_lookup evalOp_extract evalOp_app evalOp_len evalOp_mn evalOp_mx evalOp_alloc evalOp_box evalOp_mkmap evalOp_store evalOp_mapupd evalOp_delete evalOp_sliceArr evalOp_call evalOp_callv evalOp_appc code_skip code_ops code_dops code_seq code_cond code_block code_exit code_ret finish_normal finish_ret
attribute [local simp] V.lt V.ltL V.flat V.pureCell V.pure V.isCell cellEq cellsEq eqV intV shV strV isShift binV unV byteV convV minV maxV foldV foldV1 fillV fillE findV putV delV isKey natOf natOr cut cellsAt mapAt mapOf loadV pickV nilckV sizeOk allSize sliceV faddrV fieldV iaddrV indexV found extractV allPure appV lenV ownHas ownOk storeC storeV samePtr appcV boxable mapupdV deleteV sliceArrV callV allLt clean bodyEnd resV one finishV runV initR
section
variable {P : Program} {R : Nat → Option Nat} {cx : Cx} {N : Nat} {hb0 : Heap} {S T : Ow} {rs : Regs} {h : Heap} {fl : Fl} {g : Gh} {a : Act} {w : World} {o : Oper} {gd vop : VOp}

theorem MemG.fl' (hm : MemG cx hb0 h fl g w) {fl' : Fl} (he : fl'.esc = fl.esc) : MemG cx hb0 h fl' g w :=
  ⟨hm.hr, hm.ge, hm.immW, hm.fbl, hm.lbh, hm.muOld, hm.dom, hm.muW, hm.new, hm.inj, hm.muimm, he ▸ hm.low⟩
theorem MemW.fl' (hm : MemW cx fl w) {fl' : Fl} (he : fl'.wr = false → fl.wr = false) : MemW cx fl' w := ⟨hm.os, hm.tape, hm.out, hm.hsz, hm.old, fun e => hm.wr (he e)⟩
theorem MemW.drew (hm : MemW cx fl w) : MemW cx fl w.drew := ⟨hm.os, hm.tape, hm.out, hm.hsz, hm.old, hm.wr⟩
theorem MemG.drew (hm : MemG cx hb0 h fl g w) : MemG cx hb0 h fl g w.drew := ⟨⟨hm.hr.obj, hm.hr.imm⟩, hm.ge, hm.immW, hm.fbl, hm.lbh, hm.muOld, hm.dom, hm.muW, hm.new, hm.inj, hm.muimm, hm.low⟩

/-- A slice of so many elements, and its cells. -/
def Reads (w : World) (s : Value) (n : Nat) (us : List Value) : Prop :=
  (s = .slice none 0 0 ∧ n = 0 ∧ us = []) ∨ (∃ ad cap, s = .slice (some ad) 0 cap ∧ n = 0 ∧ us = []) ∨ ∃ b o cap, s = .slice (some ⟨b, o, none⟩) n cap ∧ n ≤ cap ∧ ∀ j u, us[j]? = some u → w.cell? ⟨b, o + j, none⟩ = some u
theorem CRs.oneCells {m : Imm} : ∀ {us : List Value} {vs : List V}, CRs m us vs → ∀ u ∈ us, u.oneCell' = true
  | _, _, .nil, u, hu => by simp at hu
  | _, _, .cons a b, u, hu => by
    rcases List.mem_cons.1 hu with rfl | hu
    · cases a <;> rfl
    · exact b.oneCells u hu
theorem sl_reads (hi : HRead g h w) {s : Value} {xs : List V} (hs : VR g s (.sl xs)) {size : Nat} (hz : sizeOk size xs = true) :
    ∃ us, Reads w s xs.length us ∧ us.length = xs.length * size ∧ CRs g.imm us (xs.flatMap V.flat) ∧ (∀ x ∈ xs, x.flat.length = size) ∧ (∀ b o n cap, s = .slice (some ⟨b, o, none⟩) n cap → ∀ (j : Nat) (u : Value), us[j]? = some u → g.imm b (o + j) = some u) := by
  rcases hs.sl_inv.sl_inv with ⟨rfl, rfl⟩ | ⟨ad, cap, rfl, rfl⟩ | ⟨b, o, cap, sz, us, rfl, h1, h2, h3, h4⟩
  · exact ⟨[], .inl ⟨rfl, rfl, rfl⟩, by simp, .nil, by simp, fun b o n cap e => by cases e⟩
  · exact ⟨[], .inr (.inl ⟨_, _, rfl, rfl, rfl⟩), by simp, .nil, by simp, fun b o n cap e j u hu => by simp at hu⟩
  · have hsz : ∀ x ∈ xs, x.flat.length = size := by
      cases xs with
      | nil => simp
      | cons x xs =>
        have h5 : sz = size := sizeOk_eq hz h2 (by simp)
        intro y hy; rw [← h5]; exact h2 y hy
    refine ⟨us, .inr (.inr ⟨b, o, cap, rfl, h1, fun j u hu => hi.imm _ _ _ (h3 j u hu)⟩), ?_, h4, hsz, fun b' o' n' cap' e j u hu => ?_⟩
    · rw [h4.length, flatMap_length hsz]
    · cases e; exact h3 j u hu
theorem Reads.first {s : Value} {n size : Nat} {us : List Value} (h : Reads w s n us) (hl : us.length = n * size) (w' : World) (hw : w'.heap = w.heap) : (Builtin.firstCells size n s).run P w' = .ok us.toArray w' := by
  rcases h with ⟨rfl, rfl, rfl⟩ | ⟨ad, cap, rfl, rfl, rfl⟩ | ⟨b, o, cap, rfl, _, h⟩
  · exact run_firstCells_none w' _ _ _ _
  · exact run_firstCells_some w' size 0 ad 0 cap [] (by simp) fun j v hj => by simp at hj
  · refine run_firstCells_some w' size n ⟨b, o, none⟩ n cap us hl fun j v hj => ?_
    rw [add_lit]
    have := h j v hj
    simpa [World.cell?, hw] using this
theorem Reads.len {s : Value} {n : Nat} {us : List Value} (h : Reads w s n us) (w' : World) : (Builtin.lenOf s).run P w' = .ok n w' := by
  rcases h with ⟨rfl, rfl, rfl⟩ | ⟨ad, cap, rfl, rfl, rfl⟩ | ⟨b, o, cap, rfl, _, h⟩ <;> simp [Builtin.lenOf]

section
variable {t ty e : TypeId} {i : TypeInfo} {z : Value} (ht : P.underlying t = some (.slice e)) (hie : P.info? e = some i) (hz : i.zero = some z)
include ht hie
theorem app_run_none (base : Option Addr) (n cap : Nat) (hn : n ≤ cap) {x : Value} (hx : Reads w x 0 []) : (Builtin.append_ #[t, t] ty #[.slice base n cap, x]).run P w = .ok (.slice base n cap) w := by
  have h1 := hx.len (P := P) w
  have h2 := hx.first (P := P) (size := i.size) (by simp) w rfl
  cases base <;> simp [Builtin.append_, run_underlying ht, sizeOf, typeInfo, hie, h1, h2, hn, storeCells]
theorem app_run_room (b n cap m : Nat) {cur : Array Value} {tt : TypeId} (hg : w.heap[b]? = some (.cells cur tt (0, 0))) {x : Value} {vs : List Value} (hx : Reads w x m vs) (hl : vs.length = m * i.size) (h1 : ∀ u ∈ vs, u.oneCell' = true)
    (hroom : n + m ≤ cap) (hfit : n * i.size + vs.length ≤ cur.size) :
    (Builtin.append_ #[t, t] ty #[.slice (some ⟨b, 0, none⟩) n cap, x]).run P w = .ok (.slice (some ⟨b, 0, none⟩) (n + m) cap) (w.setRow b (cur.toList.take (n * i.size) ++ vs ++ cur.toList.drop (n * i.size + vs.length)).toArray) := by
  have hlen := hx.len (P := P) w
  have hf := hx.first (P := P) (size := i.size) hl w rfl
  have hst := run_storeCells_at P b (n * i.size) tt vs 0 cur w hg (by simpa using hfit) h1
  simp only [Nat.add_zero] at hst
  simp [Builtin.append_, run_underlying ht, sizeOf, typeInfo, hie, hlen, hroom, hf, Addr.add_lit, hst]
include hz
theorem app_run_grow {ao : Option Addr} {n cap m : Nat} {us vs : List Value} (hs : Reads w (.slice ao n cap) n us) (hlu : us.length = n * i.size) {x : Value} (hx : Reads w x m vs) (hl : vs.length = m * i.size)
    (hg : cap < n + m) (hb : (n + m) * i.bytes ≤ 140737488355328) (hpos : 0 < i.bytes) :
    (Builtin.append_ #[t, t] ty #[.slice ao n cap, x]).run P w =
      .ok (.slice (some ⟨w.heap.size, 0, none⟩) (n + m) (grownCap w (n + m) cap e)) (w.drew.alloc (.cells (us.toArray ++ vs.toArray ++ Builtin.zeroCells z.cells (grownCap w (n + m) cap e - (n + m))) e)) := by
  have hlen := hx.len (P := P) w
  have hf := hx.first (P := P) (size := i.size) hl w.drew rfl
  have hfo := hs.first (P := P) (size := i.size) hlu w.drew rfl
  have hn : ¬ (n + m ≤ cap) := by omega
  have hfit := growslice_fits hg hb
  have h63 : ((n + m : Nat) : Int) ≤ 9223372036854775807 := by
    have : (n + m) * 1 ≤ (n + m) * i.bytes := Nat.mul_le_mul_left _ hpos
    omega
  have h63' : ¬ (9223372036854775807 < ((n : Int) + (m : Int))) := by omega
  have h48' : ¬ (281474976710656 < Builtin.nextslicecap (n + m) cap * i.bytes) := by omega
  simp [Builtin.append_, run_underlying ht, sizeOf, typeInfo, zeroValue, hie, hz, hlen, hn, h63', h48', Question.forced, hf, hfo, newRow, grownCap]
  congr 2
  apply Array.ext'
  simp [List.append_assoc]
end

/-- What an append has done. -/
def AppDone (P : Program) (cx : Cx) (hb0 : Heap) (h : Heap) (fl : Fl) (g : Gh) (w : World) (t ty : TypeId) (size : Nat) (su xu : Value) (v : V) (wr : Bool) (nw : Nat → Prop) : Prop :=
    ∃ u w' g', (Builtin.append_ #[t, t] ty #[su, xu]).run P w = .ok u w' ∧ GLe g g' ∧ g'.mu = g.mu ∧ MemW cx (fl.or ⟨wr, false⟩) w' ∧ MemG cx hb0 h (fl.or ⟨wr, false⟩) g' w' ∧ VR g' u v ∧ OwnR w' g'.imm size u ∧
      (∀ b, ownBlk u = some b → cx.may b ∧ (∀ j, LiveAt h j → g.mu j ≠ some b) ∧ (b < cx.w0.heap.size → nw b) ∧ (ownBlk su = some b ∨ w.heap.size ≤ b)) ∧
      (∀ b, b < w.heap.size → ownBlk su ≠ some b → w'.heap[b]? = w.heap[b]? ∧ ∀ k, g.imm b k = none → g'.imm b k = none) ∧ w.heap.size ≤ w'.heap.size
/-- An append, whoever owns the slice. -/
theorem app_core {t ty e : TypeId} {i : TypeInfo} {z : Value} (ht : P.underlying t = some (.slice e)) (hie : P.info? e = some i) (hz : i.zero = some z) (hpos : 0 < i.size) (hbp : 0 < i.bytes) (hzs : z.cells.size = i.size)
    (hW : MemW cx fl w) (hG : MemG cx hb0 h fl g w) {su xu : Value} {sv xv v : V} (hs : VR g su sv) (hx : VR g xu xv) (hv : appV i.size i.bytes sv xv = some v) (hown : OwnR w g.imm i.size su) (wr : Bool) (nw : Nat → Prop)
    (hfree : ∀ b, ownBlk su = some b → cx.may b ∧ (∀ j, LiveAt h j → g.mu j ≠ some b) ∧ (wr = false → cx.w0.heap.size ≤ b) ∧ (b < cx.w0.heap.size → nw b)) :
    AppDone P cx hb0 h fl g w t ty i.size su xu v wr nw := by
  unfold appV at hv
  split at hv
  · rename_i xs ys
    obtain ⟨hcond, hv⟩ := cnd_eq_some hv
    cases hv
    simp only [Bool.and_eq_true, decide_eq_true_eq] at hcond
    obtain ⟨hbytes, hzx, hzy⟩ := hcond
    obtain ⟨us, hru, hlu, hcu, hsu, himu⟩ := sl_reads hG.hr hs hzx
    obtain ⟨vs, hrv, hlv, hcv, hsv, _⟩ := sl_reads hG.hr hx hzy
    have hsz : ∀ x ∈ xs ++ ys, x.flat.length = i.size := fun x hx => by
      rcases List.mem_append.1 hx with hx | hx
      · exact hsu x hx
      · exact hsv x hx
    have hflat : (xs ++ ys).flatMap V.flat = xs.flatMap V.flat ++ ys.flatMap V.flat := by simp
    obtain ⟨ao, n, cap, rfl, hfull⟩ := hown
    have hn : n = xs.length := by
      rcases hru with ⟨e, e2, _⟩ | ⟨ad, c, e, e2, _⟩ | ⟨b, o, c, e, _, _⟩
      · injection e with _ e _; omega
      · injection e with _ e _; omega
      · injection e with _ e _
    subst hn
    have hncap : xs.length ≤ cap := by
      rcases hfull with rfl | ⟨h1, _⟩ <;> omega
    have esc0 : (fl.or ⟨wr, false⟩).esc = fl.esc := by simp [Fl.or]
    have wr0 : (fl.or ⟨wr, false⟩).wr = false → fl.wr = false ∧ wr = false := by simp [Fl.or]
    by_cases hm0 : ys = []
    · -- nothing is appended
      subst hm0
      have : vs = [] := List.length_eq_zero_iff.1 (by simpa using hlv)
      subst this
      have hr := app_run_none (P := P) (w := w) (ty := ty) ht hie ao xs.length cap hncap hrv
      refine ⟨_, w, g, hr, GLe.refl g, rfl, hW.fl' fun e => (wr0 e).1, hG.fl' esc0, by simpa using hs, ⟨ao, xs.length, cap, rfl, hfull⟩, fun b hb => ?_, fun b _ _ => ⟨rfl, fun _ h => h⟩, Nat.le_refl _⟩
      obtain ⟨h1, h2, _, h4⟩ := hfree b hb
      exact ⟨h1, h2, h4, .inl hb⟩
    · have hmpos : 0 < ys.length := List.length_pos_iff.2 hm0
      have grow : cap < xs.length + ys.length → AppDone P cx hb0 h fl g w t ty i.size (.slice ao xs.length cap) xu (.sl (xs ++ ys)) wr nw := fun hg => by
        have hr := app_run_grow (P := P) (w := w) (ty := ty) ht hie hz hru hlu hrv hlv hg hbytes hbp
        have hge := grownCap_ge w (xs.length + ys.length) cap e
        generalize hcap : grownCap w (xs.length + ys.length) cap e = C at hr hge
        generalize hrow : us.toArray ++ vs.toArray ++ Builtin.zeroCells z.cells (C - (xs.length + ys.length)) = row at hr
        have hrowsz : row.size = C * i.size := by
          subst hrow
          simp only [Array.size_append, List.size_toArray, size_zeroCells, hzs, hlu, hlv, ← Nat.add_mul]
          congr 1; omega
        have hlen : (us ++ vs).length = (xs.length + ys.length) * i.size := by rw [List.length_append, hlu, hlv, Nat.add_mul]
        have hrowget : ∀ (j : Nat) (u : Value), (us ++ vs)[j]? = some u → row[j]? = some u := fun j u hu => by
          have hj := (List.getElem?_eq_some_iff.1 hu).1
          subst hrow
          rw [← Array.getElem?_toList]
          simp only [Array.toList_append]
          rw [List.getElem?_append_left (by simpa using hj)]
          simpa using hu
        have hG1 := (hG.drew).frozen (us := us ++ vs) (cur := row) (t := e) hrowget hW.hsz
        have hle : GLe g (g.addImm w.heap.size 0 (us ++ vs)) := Gh.addImm_le fun k _ _ => hG.immNone (Nat.le_refl _) k
        have hnew : (w.drew.alloc (.cells row e)).heap[w.heap.size]? = some (.cells row e (0, 0)) := heap_alloc_new w.drew _
        refine ⟨_, _, _, hr, hle, rfl, ?_, hG1.fl' esc0, ?_, ⟨_, _, _, rfl, ?_⟩, fun b hb => ?_, fun b hb hne => ⟨heap_alloc_old w.drew _ hb, fun k hk => ?_⟩, by rw [World.size_alloc]; exact Nat.le_succ w.heap.size⟩
        · exact (hW.drew.step (World.grownBy_alloc w.drew _ none) (fun b e => by cases e) id).fl' fun e => (wr0 e).1
        · refine .cell (.sl (sz := i.size) (us := us ++ vs) (by simp) hge hsz (fun j u hu => Gh.addImm_at hu) ?_)
          rw [hflat]
          exact (hcu.mono hle.imm).append (hcv.mono hle.imm)
        · rcases Nat.eq_or_lt_of_le hge with h1 | h1
          · exact .inl h1
          · refine .inr ⟨h1, hpos, w.heap.size, row, e, rfl, hnew, by rw [hrowsz]; exact Nat.le_refl _, fun k hk => ?_⟩
            have : ¬ k < 0 + (us ++ vs).length := by rw [hlen]; omega
            simp only [Gh.addImm]
            rw [if_neg (by rintro ⟨_, _, h3⟩; exact this h3)]
            exact hG.immNone (Nat.le_refl _) k
        · have hbe : b = w.heap.size := by
            simp only [ownBlk] at hb
            split at hb
            · exact (Option.some.inj hb).symm
            · cases hb
          subst hbe
          exact ⟨.inl hW.hsz, fun j hl hm => by have := (hG.muW j _ hm).1; omega, fun h1 => by have := hW.hsz; omega, .inr (Nat.le_refl _)⟩
        · rw [Gh.addImm_other (Nat.ne_of_lt hb)]; exact hk
      rcases hfull with rfl | ⟨hlt, _, b, cur, tt, rfl, hheap, hfit, hnoimm⟩
      · exact grow (by omega)
      · by_cases hroom : xs.length + ys.length ≤ cap
        · -- in place
          have hob : ownBlk (.slice (some ⟨b, 0, none⟩) xs.length cap) = some b := by simp [ownBlk, hlt]
          obtain ⟨f1, f2, f3, f4⟩ := hfree b hob
          have hmul : (xs.length + ys.length) * i.size ≤ cap * i.size := Nat.mul_le_mul_right _ hroom
          have hcurfit : xs.length * i.size + vs.length ≤ cur.size := by rw [hlv, ← Nat.add_mul]; omega
          have hr := app_run_room (P := P) (w := w) (ty := ty) ht hie b xs.length cap ys.length hheap hrv hlv hcv.oneCells hroom hcurfit
          have hnewrow := setRow_heap w b cur (cur.toList.take (xs.length * i.size) ++ vs ++ cur.toList.drop (xs.length * i.size + vs.length)).toArray tt (0, 0) hheap
          have hoth : ∀ c, c ≠ b → (w.setRow b (cur.toList.take (xs.length * i.size) ++ vs ++ cur.toList.drop (xs.length * i.size + vs.length)).toArray).heap[c]? = w.heap[c]? := fun c hc => setRow_other w b c _ hc
          have hget : ∀ (j : Nat), (cur.toList.take (xs.length * i.size) ++ vs ++ cur.toList.drop (xs.length * i.size + vs.length)).toArray[j]? = if j < xs.length * i.size then cur[j]? else if j < xs.length * i.size + vs.length then vs[j - xs.length * i.size]? else cur[j]? := fun j => by
            have := seg_get cur.toList vs (xs.length * i.size) vs.length j rfl (by simpa using hcurfit)
            simpa using this
          have hG1 := hG.tail (b := b) (lo := xs.length * i.size) (us := vs) hheap f1 f2 hnoimm (by simp) hoth hnewrow (fun k hk => by rw [hget, if_pos hk]) (fun j u hu => by
            have hj := (List.getElem?_eq_some_iff.1 hu).1
            rw [hget, if_neg (by omega), if_pos (by omega), show xs.length * i.size + j - xs.length * i.size = j by omega]; exact hu)
          have hle : GLe g (g.addImm b (xs.length * i.size) vs) := Gh.addImm_le fun k hk _ => hnoimm k hk
          refine ⟨_, _, _, hr, hle, rfl, ?_, hG1.fl' esc0, ?_, ⟨_, _, _, rfl, ?_⟩, fun c hc => ?_, fun c hc hne => ?_, by simp⟩
          · refine hW.step (row := some b) ⟨rfl, rfl, rfl, by simp, fun k _ hk => hoth k (fun e => hk (e ▸ rfl))⟩ (fun c e => ?_) (fun e => (wr0 e).1)
            cases e
            exact ⟨f1, fun e => f3 (wr0 e).2⟩
          · refine .cell (.sl (sz := i.size) (us := us ++ vs) (by simp) hroom hsz (fun j u hu => ?_) ?_)
            · rcases Nat.lt_or_ge j us.length with hj | hj
              · rw [List.getElem?_append_left hj] at hu
                exact hle.imm _ _ _ (himu b 0 _ _ rfl j u hu)
              · rw [List.getElem?_append_right hj] at hu
                have := Gh.addImm_at (g := g) (b := b) (lo := xs.length * i.size) hu
                rw [← hlu, show us.length + (j - us.length) = 0 + j by omega] at this
                rw [← hlu]
                exact this
            · rw [hflat]
              exact (hcu.mono hle.imm).append (hcv.mono hle.imm)
          · rcases Nat.eq_or_lt_of_le hroom with h1 | h1
            · exact .inl h1
            · refine .inr ⟨h1, hpos, b, _, tt, rfl, hnewrow, ?_, fun k hk => ?_⟩
              · simp only [List.size_toArray, List.length_append, List.length_take, List.length_drop, Array.length_toList]
                omega
              · simp only [Gh.addImm]
                rw [if_neg (by rintro ⟨_, _, h3⟩; rw [hlv, ← Nat.add_mul] at h3; omega)]
                exact hnoimm k (by rw [Nat.add_mul] at hk; omega)
          · have hcb : c = b := by
              simp only [ownBlk] at hc
              split at hc
              · exact (Option.some.inj hc).symm
              · cases hc
            subst hcb
            exact ⟨f1, f2, f4, .inl hob⟩
          · have hcb : c ≠ b := fun e => hne (e ▸ hob)
            exact ⟨hoth c hcb, fun k hk => by rw [Gh.addImm_other hcb]; exact hk⟩
        · exact grow (by omega)
  · cases hv
end
end Go.Vm
