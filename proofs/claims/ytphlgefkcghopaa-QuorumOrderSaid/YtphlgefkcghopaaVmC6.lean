/- A new object; an object written. -/
import Derived.Test.YtphlgefkcghopaaVmC5
set_option linter.unusedVariables false
set_option linter.unusedSimpArgs false
namespace Go.Vm
attribute [local simp] evalOps_nil evalOps_cons evalOps_consg evalOp_mv evalOp_asg evalOp_pick evalOp_build evalOp_bslice evalOp_load evalOp_nilck evalOp_bin evalOp_un evalOp_conv evalOp_mkfn evalOp_slice evalOp_faddr evalOp_field evalOp_iaddr evalOp_index evalOp_lookup evalOp_extract evalOp_app evalOp_len evalOp_mn evalOp_mx evalOp_alloc evalOp_box evalOp_mkmap evalOp_store evalOp_mapupd evalOp_delete evalOp_sliceArr evalOp_call evalOp_callv evalOp_appc code_skip code_ops code_dops code_seq code_cond code_block code_exit code_ret finish_normal finish_ret
attribute [local simp] V.lt V.ltL V.flat V.pureCell V.pure V.isCell cellEq cellsEq eqV intV shV strV isShift binV unV byteV convV minV maxV foldV foldV1 fillV fillE findV putV delV isKey natOf natOr cut cellsAt mapAt mapOf loadV pickV nilckV sizeOk allSize sliceV faddrV fieldV iaddrV indexV found extractV allPure appV lenV ownHas ownOk storeC storeV samePtr appcV boxable mapupdV deleteV sliceArrV callV allLt clean bodyEnd resV one finishV runV initR
section
variable {P : Program} {R : Nat → Option Nat} {cx : Cx} {N : Nat} {hb0 : Heap} {S T : Ow} {rs : Regs} {h : Heap} {fl : Fl} {g : Gh} {a : Act} {w : World} {o : Oper} {gd vop : VOp}

theorem OwnR.lt {imm : Imm} {sz : Nat} {u : Value} (h : OwnR w imm sz u) {b : Nat} (hb : ownBlk u = some b) : b < w.heap.size := by
  obtain ⟨_, n, cap, cur, t, _, _, h1, _⟩ := h.blk hb
  exact (Array.getElem?_eq_some_iff.1 h1).1
theorem getElem?_push_cases {h : Heap} {x : Obj} {i : Nat} {y : Obj} (hy : (h ++ [x])[i]? = some y) : (i < h.length ∧ h[i]? = some y) ∨ (i = h.length ∧ y = x) := by
  by_cases hi : i < h.length
  · rw [List.getElem?_append_left hi] at hy; exact .inl ⟨hi, hy⟩
  · have h2 := (List.getElem?_eq_some_iff.1 hy).1
    simp at h2
    have : i = h.length := by omega
    subst this
    simp at hy
    exact .inr ⟨rfl, hy.symm⟩

theorem Inv.push (hi : Inv cx N hb0 S rs h fl g a w) {O : Go.Obj} {x : Obj} (ho : ObjR (g.addMu h.length w.heap.size) (w.alloc O) w.heap.size x)
    (hown : ∀ cs own, x = .cells cs own → ∀ j sz u, (j, sz) ∈ own → (w.alloc O).cell? ⟨w.heap.size, j, none⟩ = some u → ∃ ad n, u = .slice ad n n) : Inv cx N hb0 S rs (h ++ [x]) fl (g.addMu h.length w.heap.size) a (w.alloc O) := by
  have hnone := hi.G.muNone (Nat.le_refl h.length)
  have hle : GLe g (g.addMu h.length w.heap.size) := Gh.addMu_le hnone
  have heap : ∀ b, b < w.heap.size → (w.alloc O).heap[b]? = w.heap[b]? := fun b hb => heap_alloc_old w O hb
  have muOld : ∀ i b, i ≠ h.length → (g.addMu h.length w.heap.size).mu i = some b → g.mu i = some b := fun i b hne hb => by simpa [Gh.addMu, hne] using hb
  obtain ⟨pd, hO, hf⟩ := hi.O
  refine ⟨hi.W.step (World.grownBy_alloc w O none) (fun b e => by cases e) id, hi.G.push hi.W.hsz ho, ⟨pd, ?_, ⟨hf.al, fun t p hm => ?_, hf.pd⟩⟩, hi.F.mono hle⟩
  · refine hO.map (fun p q => p = q) (fun _ _ _ e1 e2 => e1.trans e2.symm) (fun p sz u hp => ?_) (fun p q b e hn => e ▸ hn) (fun q sz u b hq _ hb => ⟨⟨heap b ((hO.own q sz u hq).lt hb), fun _ h => h⟩, fun i hl hm => ?_⟩)
    · cases p with
      | reg r off => exact .inr ⟨_, sz, rfl, hp, .inl rfl⟩
      | cell i j =>
        obtain ⟨cs, own, b, h1, h2, h3, h4, h5⟩ := hp
        rcases getElem?_push_cases h1 with ⟨hlt, h1⟩ | ⟨rfl, h6⟩
        · have hm := muOld i b (by omega) h4
          refine .inr ⟨_, sz, rfl, ⟨cs, own, b, h1, h2, h3, hm, ?_⟩, .inl rfl⟩
          rw [← cell_same (heap b (hi.G.muW i b hm).1)]
          exact h5
        · have hb : b = w.heap.size := by simpa [Gh.addMu] using h4.symm
          subst hb
          exact .inl (hown cs own h6.symm j sz u h2 h5)
    · have hlt := (hO.own q sz u hq).lt hb
      rcases liveAt_append hl with hl | rfl
      · have hne : i ≠ h.length := by
          obtain ⟨y, hy, _⟩ := hl
          have := (List.getElem?_eq_some_iff.1 hy).1
          omega
        exact ⟨hl, muOld i b hne hm⟩
      · have hb : b = w.heap.size := by simpa [Gh.addMu] using hm.symm
        omega
  · obtain ⟨b, k, h1, h2⟩ := hf.la t p hm
    exact ⟨b, k, h1, by rw [cell_same (heap b (cell_lt h2))]; exact h2⟩

theorem ownNil_mem {cs : List V} : ∀ {own : List (Nat × Nat)}, ownNil cs own = true → ∀ x ∈ own, cs[x.1]? = some (.sl [])
  | [], _, x, hx => by simp at hx
  | (j, s) :: l, h, x, hx => by
    simp only [ownNil, Bool.and_eq_true] at h
    rcases List.mem_cons.1 hx with rfl | hx
    · have h1 := h.1
      split at h1
      · assumption
      · cases h1
    · exact ownNil_mem h.2 x hx
theorem trVals_get : ∀ {us : List Value} {vs : List V}, trVals us = some vs → ∀ (j : Nat) (u : Value), us[j]? = some u → ∃ v, vs[j]? = some v ∧ trVal u = some v
  | [], vs, h, j, u, hu => by simp at hu
  | x :: us, vs, h, j, u, hu => by
    simp only [trVals] at h
    obtain ⟨v, hv, h⟩ := bnd_eq_some h
    obtain ⟨l, hl, h⟩ := bnd_eq_some h
    cases h
    cases j with
    | zero => simp at hu; subst hu; exact ⟨v, rfl, hv⟩
    | succ j => simpa using trVals_get hl j u (by simpa using hu)
theorem trVal_nil {u : Value} (h : trVal u = some (.sl [])) : u = .slice none 0 0 := by
  unfold trVal at h
  split at h <;> first | rfl | cases h

theorem alloc_ok (hi : Inv cx N hb0 S rs h fl g a w) {cs : List V} {own : List (Nat × Nat)} (htr : trOp P o.op o.type gd = some (.alloc cs own)) (hs : S.step1 R o.dst (.alloc cs own) = some T) (hd : ∀ x, o.dst = some x → x < N) :
    ∃ u w' g', (execOp a.eval o).run P w = .ok (.value u) w' ∧ GLe g g' ∧ Inv cx N hb0 T (putR o.dst (.ptr (some (h.length, 0))) rs) (h ++ [.cells cs own]) fl g' (a.put o.dst u) w' := by
  obtain ⟨e, z, hop, hz, hcs⟩ := trOp_alloc htr
  simp only [Ow.step1] at hs
  obtain ⟨hnil, hk⟩ := cnd_eq_some hs
  unfold zeroT at hz
  obtain ⟨i, hie, hz⟩ := bnd_eq_some hz
  have hrel := trVals_sound (m := (g.addMu h.length w.heap.size).imm) hcs
  have hlen := hi.G.muNone (Nat.le_refl h.length)
  have hle : GLe g (g.addMu h.length w.heap.size) := Gh.addMu_le hlen
  have h1 := hi.push (O := .cells z.cells e) (x := .cells cs own) ⟨z.cells, e, heap_alloc_new w _, hrel.vrs, hrel.isCells⟩ (fun cs' own' e' j sz u hm hc => by
    cases e'
    simp only [World.cell?, heap_alloc_new] at hc
    have hc' : z.cells.toList[j]? = some u := by simpa using hc
    obtain ⟨v, hv, hu⟩ := trVals_get hcs j u hc'
    rw [ownNil_mem hnil _ hm] at hv
    cases hv
    exact ⟨none, 0, trVal_nil hu⟩)
  refine ⟨.pointer (some ⟨w.heap.size, 0, none⟩), _, _, ?_, hle, h1.put hd hk (.ptr (by simp [Gh.addMu]))⟩
  unfold execOp
  rw [hop]
  simp [Instr.alloc, zeroValue, typeInfo, hie, hz, newVar, newRow]
theorem box_ok (hi : Inv cx N hb0 S rs h fl g a w) {n : Nat} {x : Arg} (htr : trOp P o.op o.type gd = some (.box n x)) (hs : S.step1 R o.dst (.box n x) = some T) (hd : ∀ x, o.dst = some x → x < N) (hb : boxable n (x.val rs) = true) :
    ∃ u w' g', (execOp a.eval o).run P w = .ok (.value u) w' ∧ GLe g g' ∧ Inv cx N hb0 T (putR o.dst (.ptr (some (h.length, 0))) rs) (h ++ [.cells (x.val rs).flat []]) fl g' (a.put o.dst u) w' := by
  obtain ⟨e, y, hop, hn, hx⟩ := trOp_box htr
  have hk : S.kill o.dst = some T := hs
  have hu := trArg_sound hi.F.regs hx
  simp only [boxable, Bool.and_eq_true] at hb
  have hlen := hi.G.muNone (Nat.le_refl h.length)
  have hle : GLe g (g.addMu h.length w.heap.size) := Gh.addMu_le hlen
  have h1 := hi.push (O := .cells (a.eval y).cells e) (x := .cells (x.val rs).flat []) ⟨_, e, heap_alloc_new w _, (hu.cells hb.2).mono hle, hb.2⟩ (fun cs' own' e' j sz u hm hc => by cases e'; simp at hm)
  refine ⟨.pointer (some ⟨w.heap.size, 0, none⟩), _, _, ?_, hle, h1.put hd hk (.ptr (by simp [Gh.addMu]))⟩
  unfold execOp
  rw [hop]
  simp [Instr.box, newVar, newRow]

/-! ### an object is written -/
theorem seg_get {α : Type} (l m : List α) (o n j : Nat) (hm : m.length = n) (hle : o + n ≤ l.length) : (l.take o ++ m ++ l.drop (o + n))[j]? = if j < o then l[j]? else if j < o + n then m[j - o]? else l[j]? := by
  have h1 : (l.take o).length = o := by simp; omega
  by_cases hj : j < o
  · rw [if_pos hj, List.append_assoc, List.getElem?_append_left (by omega), List.getElem?_take, if_pos hj]
  · rw [if_neg hj, List.append_assoc, List.getElem?_append_right (by omega), h1]
    by_cases hj2 : j < o + n
    · rw [if_pos hj2, List.getElem?_append_left (by omega)]
    · rw [if_neg hj2, List.getElem?_append_right (by omega), List.getElem?_drop]
      congr 1; omega
theorem ltL_append {n : Nat} : ∀ {xs ys : List V}, V.ltL n xs = true → V.ltL n ys = true → V.ltL n (xs ++ ys) = true
  | [], _, _, h => h
  | x :: xs, ys, h, h' => by
    simp only [V.ltL, Bool.and_eq_true, List.cons_append] at h ⊢
    exact ⟨h.1, ltL_append h.2 h'⟩
theorem ltL_take {n : Nat} : ∀ (k : Nat) {xs : List V}, V.ltL n xs = true → V.ltL n (xs.take k) = true
  | 0, _, _ => by simp [V.ltL]
  | k + 1, [], _ => by simp [V.ltL]
  | k + 1, x :: xs, h => by
    simp only [V.ltL, Bool.and_eq_true, List.take_succ_cons] at h ⊢
    exact ⟨h.1, ltL_take k h.2⟩
theorem ltL_drop {n : Nat} : ∀ (k : Nat) {xs : List V}, V.ltL n xs = true → V.ltL n (xs.drop k) = true
  | 0, _, h => by simpa using h
  | k + 1, [], _ => by simp [V.ltL]
  | k + 1, x :: xs, h => by
    simp only [V.ltL, Bool.and_eq_true, List.drop_succ_cons] at h ⊢
    exact ltL_drop k h.2
theorem lt_flat {n : Nat} {v : V} (h : v.lt n = true) : V.ltL n v.flat = true := by
  cases v <;> first | exact h | simp only [V.flat, V.ltL, Bool.and_true]; exact h

def offTm (l : Ows) : Option Nat → Ows
  | none => l
  | some t => offReg t l
theorem store_core (hi : Inv cx N hb0 S rs h fl g a w) {i b off n : Nat} {c : List V × List (Nat × Nat)} (hc : cellsAt h i = some c) (hb : g.mu i = some b) {us : Array Value} {tt : TypeId} (hheap : w.heap[b]? = some (.cells us tt (0, 0))) (hus : VRs g us.toList c.1) (hcell : c.1.all V.isCell = true)
    {u : Value} {v : V} (hu : VR g u v) (hlen : v.flat.length = n) (hle : off + n ≤ c.1.length) (hall : v.flat.all V.isCell = true) (tm : Option Nat)
    (hown : ∀ j sz u', (j, sz) ∈ c.2 → off ≤ j → j < off + n → u.cells[j - off]? = some u' → (∃ ad m, u' = .slice ad m m) ∨ ∃ t sz', tm = some t ∧ a.tmps.getD t Go.undef = u ∧ (t, j - off, sz') ∈ S.own ∧ (sz' = sz ∨ sz' = 0))
    (hpd : S.pd = none ∨ ∃ p t, S.pd = some (p, t) ∧ tm = some t ∧ get rs p = .ptr (some (i, off)) ∧ n = 1) :
    Inv cx N hb0 ⟨offTm S.own tm, S.al, [], none⟩ rs (hset h i (.cells (c.1.take off ++ (v.flat ++ c.1.drop (off + n))) c.2)) (fl.or ⟨decide (i < cx.n0), decide (i < hb0.length) && !v.lt 0⟩) g a
      (w.setRow b (us.toList.take off ++ u.cells.toList ++ us.toList.drop (off + n)).toArray) := by
  have hci := cellsAt_inv hc
  have hlive : LiveAt h i := ⟨_, hci, rfl⟩
  have hlt : b < w.heap.size := (Array.getElem?_eq_some_iff.1 hheap).1
  have hcs := hu.cells hall
  have hcl := hcs.length
  have hul := hus.length
  have hmay := (hi.G.muW i b hb).2 hlive
  obtain ⟨pd, hO, hf⟩ := hi.O
  have hpd' : pd = none ∨ ∃ t, pd = some (i, off, t) ∧ tm = some t ∧ n = 1 := by
    rcases hf.pd with ⟨_, h2⟩ | ⟨p, d, i', j', h2, h3, h4⟩
    · exact .inl h2
    · rcases hpd with h5 | ⟨p', t, h5, h6, h7, h8⟩
      · rw [h5] at h2; cases h2
      · rw [h5] at h2; cases h2
        rw [h7] at h4; cases h4
        exact .inr ⟨d, h3, h6, h8⟩
  have heap : ∀ k, k ≠ b → (w.setRow b (us.toList.take off ++ u.cells.toList ++ us.toList.drop (off + n)).toArray).heap[k]? = w.heap[k]? := fun k hk => setRow_other w b k _ hk
  have hnewrow := setRow_heap w b us (us.toList.take off ++ u.cells.toList ++ us.toList.drop (off + n)).toArray tt (0, 0) hheap
  refine ⟨hi.W.step (row := some b) ⟨rfl, rfl, rfl, by simp, fun k _ hk => heap k (fun e => hk (e ▸ rfl))⟩ (fun k e => ?_) (fun e => ?_), hi.G.set hlive hb (by simp) (fun k _ hk => heap k hk) ⟨_, tt, hnewrow, ?_, ?_⟩ ?_, ⟨none, ?_, ⟨hf.al, fun t p hm => by simp at hm, .inl ⟨rfl, rfl⟩⟩⟩, hi.F⟩
  · cases e
    refine ⟨hmay, fun e => hi.G.new i b ?_ hb⟩
    simp only [Fl.or, Bool.or_eq_false_iff, decide_eq_false_iff_not] at e
    omega
  · simp only [Fl.or, Bool.or_eq_false_iff] at e
    exact e.1
  · simp only [List.append_assoc]
    exact (hus.take off).append (hcs.append (hus.drop (off + n)))
  · simp only [List.all_append, Bool.and_eq_true]
    refine ⟨?_, hall, ?_⟩
    · simp only [List.all_eq_true] at hcell ⊢; exact fun x hx => hcell x (List.mem_of_mem_take hx)
    · simp only [List.all_eq_true] at hcell ⊢; exact fun x hx => hcell x (List.mem_of_mem_drop hx)
  · simp only [Fl.or]
    cases he : fl.esc
    · cases hx : decide (i < hb0.length) && !v.lt 0
      · refine .inr ⟨rfl, fun hil ox hox m hold => ?_⟩
        rw [hci] at hox
        cases hox
        simp only [hil, decide_true, Bool.true_and, Bool.not_eq_false'] at hx
        exact ltL_append (ltL_take off hold) (ltL_append (lt_flat (V.lt_mono (Nat.zero_le _) v hx)) (ltL_drop (off + n) hold))
      · exact .inl rfl
    · exact .inl rfl
  · have hrowget : ∀ j, (w.setRow b (us.toList.take off ++ u.cells.toList ++ us.toList.drop (off + n)).toArray).cell? ⟨b, j, none⟩ = if j < off then us[j]? else if j < off + n then u.cells[j - off]? else us[j]? := by
      intro j
      rw [cell_of_heap hnewrow]
      have := seg_get us.toList u.cells.toList off n j (hcl.trans hlen) (by rw [hul]; exact hle)
      simpa using this
    refine hO.map (fun p q => (p = q ∧ ∀ t, tm = some t → ∀ o, q ≠ .reg t o) ∨ ∃ t j, tm = some t ∧ p = .cell i j ∧ (off ≤ j ∧ j < off + n) ∧ q = .reg t (j - off)) (fun p p' q h1 h2 => ?_) (fun p sz x hp => ?_) (fun p q b' hR hn => ?_) (fun q sz x k hq _ hk => ⟨⟨heap k (fun e => ?_), fun _ h => h⟩, fun j hl hm => ⟨liveAt_set hl hlive, hm⟩⟩)
    · rcases h1 with ⟨rfl, h1⟩ | ⟨t, j, ht, rfl, hj, rfl⟩ <;> rcases h2 with ⟨rfl, h2⟩ | ⟨t', j', ht', rfl, hj', e⟩
      · rfl
      · exact absurd e (h1 t' ht' _)
      · exact absurd rfl (h2 t ht _)
      · have := (Pl.reg.inj e).2
        have : j = j' := by omega
        subst this; rfl
    · cases p with
      | reg r o =>
        obtain ⟨hm, hx⟩ := hp
        refine .inr ⟨_, sz, .inl ⟨rfl, fun t ht o' e => ?_⟩, ⟨?_, hx⟩, .inl rfl⟩
        · cases e; subst ht; exact (mem_offReg.1 hm).2 rfl
        · cases tm with
          | none => exact hm
          | some t => exact (mem_offReg.1 hm).1
      | cell i' j =>
        obtain ⟨cs, own, b', h1, h2, h3, h4, h5⟩ := hp
        by_cases hii : i' = i
        · subst hii
          rw [hb] at h4; cases h4
          have hilt : i' < h.length := hi.G.dom i' b hb
          simp [hset, hilt] at h1
          obtain ⟨_, rfl⟩ := h1
          rw [hrowget] at h5
          have outside : (j < off ∨ off + n ≤ j) → us[j]? = some x → ∃ q sz', ((Pl.cell i' j = q ∧ ∀ t, tm = some t → ∀ o, q ≠ .reg t o) ∨ ∃ t j', tm = some t ∧ Pl.cell i' j = .cell i' j' ∧ (off ≤ j' ∧ j' < off + n) ∧ q = .reg t (j' - off)) ∧ Held S.own pd h g a.tmps w q sz' x ∧ (sz' = sz ∨ sz' = 0) := fun hj hux => by
            refine ⟨_, sz, .inl ⟨rfl, fun t _ o e => by cases e⟩, ⟨c.1, c.2, b, hci, h2, fun d e => ?_, hb, by rw [cell_of_heap hheap]; exact hux⟩, .inl rfl⟩
            rcases hpd' with h6 | ⟨t, h6, _, h7⟩
            · rw [h6] at e; cases e
            · rw [h6] at e; cases e; omega
          by_cases hj : j < off
          · rw [if_pos hj] at h5
            exact .inr (outside (.inl hj) h5)
          · rw [if_neg hj] at h5
            by_cases hj2 : j < off + n
            · rw [if_pos hj2] at h5
              rcases hown j sz x h2 (by omega) hj2 h5 with hfull | ⟨t, sz', ht, he, hm, hs⟩
              · exact .inl hfull
              · exact .inr ⟨.reg t (j - off), sz', .inr ⟨t, j, ht, rfl, ⟨by omega, hj2⟩, rfl⟩, ⟨hm, by rw [he]; exact h5⟩, hs⟩
            · rw [if_neg hj2] at h5
              exact .inr (outside (.inr (by omega)) h5)
        · unfold hset at h1
          rw [List.getElem?_set_ne (Ne.symm hii)] at h1
          have hbb : b' ≠ b := fun e => hii (hi.G.inj i' i b ⟨_, h1, rfl⟩ hlive (e ▸ h4) hb)
          refine .inr ⟨_, sz, .inl ⟨rfl, fun t _ o e => by cases e⟩, ⟨cs, own, b', h1, h2, fun d e => ?_, h4, by rw [← cell_same (heap b' hbb)]; exact h5⟩, .inl rfl⟩
          rcases hpd' with h6 | ⟨t, h6, _, _⟩
          · rw [h6] at e; cases e
          · rw [h6] at e; cases e; exact hii rfl
    · rcases hR with ⟨rfl, h1⟩ | ⟨t, j, ht, rfl, ⟨hj1, hj2⟩, rfl⟩
      · cases p with
        | cell i' j => exact hn
        | reg r o =>
          obtain ⟨i', j', e, _⟩ := hn
          rcases hpd' with h6 | ⟨t, h6, h7, _⟩
          · rw [h6] at e; cases e
          · rw [h6] at e; cases e
            exact absurd rfl (h1 _ h7 o)
      · obtain ⟨i', j', e, hn⟩ := hn
        rcases hpd' with h6 | ⟨t', h6, h7, h8⟩
        · rw [h6] at e; cases e
        · rw [h6] at e; cases e
          have : j = off := by
            omega
          subst this
          exact hn
    · subst e
      exact (hO.blk q sz x k hq hk).2.1 i hlive hb
end
end Go.Vm
