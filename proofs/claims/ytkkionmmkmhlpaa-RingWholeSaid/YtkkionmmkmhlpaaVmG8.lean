/- The V-machine, part 8. -/
import Derived.Test.YtkkionmmkmhlpaaVmG7
import Derived.Laws.LoneSync
import Derived.Test.YtkkionmmkmhlpaaVmG5
/- A row of an object written anew in place; atomic loads and additions; 'doSlow' of sync.Once: what the machine is told of them. -/
set_option linter.unusedVariables false
set_option linter.unusedSimpArgs false
namespace Go.Vm

section
variable {P : Program} {R : Nat → Option Nat} {Dt : Prop} {cx : Cx Dt} {N : Nat} {hb0 : Heap} {S : Ow} {rs : Regs} {h : Heap} {fl : Fl} {g : Gh} {a : Act} {w : World}
theorem Inv.rowSet (hi : Inv cx N hb0 S rs h fl g a w) (hpd : S.pd = none) {i b : Nat} {cs cs' : List V} (hc : cellsAt h i = some (cs, [])) (hb : g.mu i = some b) {w' : World} (hgr : w.grownBy w' (some b)) (hd : w.drawn ≤ w'.drawn)
    {cur cur' : Array Value} {t : TypeId} (hheap : w.heap[b]? = some (.cells cur t (0, 0))) (hheap' : w'.heap[b]? = some (.cells cur' t (0, 0))) (hsz : cur.size ≤ cur'.size) {us ru : List Value} (hlr : cur'.toList = us ++ ru) (hus : VRs g us cs') (hall : cs'.all V.isCell = true)
    (hlow : ∀ m, V.ltL m cs = true → V.ltL m cs' = true) : Inv cx N hb0 (offLa S) rs (hset h i (.cells cs' [])) (fl.or ⟨cnd (decide (i < cx.n0)) [i] [], [], false⟩) g a w' := by
  have hci := cellsAt_inv hc
  have hlive : LiveAt h i := ⟨_, hci, rfl⟩
  have hmay := (hi.G.muW i b hb).2 hlive
  obtain ⟨hO, hf⟩ := hi.own0 hpd
  have hilt : i < h.length := hi.G.dom i b hb
  have heap : ∀ k, k < w.heap.size → k ≠ b → w'.heap[k]? = w.heap[k]? := fun k hk hne => hgr.block k hk (fun e => hne (by cases e; rfl))
  refine ⟨hi.W.step (row := some b) hgr (fun k e => ?_) (fun _ e => ?_) hd, hi.G.set hlive hb hgr.size (fun k hk hne => heap k hk hne) ?_ ⟨cur', t, us, ru, hheap', hlr, hus, hall⟩ (fun j hj => mem_addE.2 (.inl hj)) (fun e => by simp [Fl.or, e]) (.inr fun _ ox hox m hm => ?_), ⟨none, ?_, ⟨hf.al, fun t p hm => by simp [offLa] at hm, .inl ⟨hpd, rfl⟩⟩⟩, hi.F⟩
  · cases e
    refine ⟨hmay, ?_⟩
    by_cases hn : i < cx.n0
    · exact .inr (Cx.wrOk.or' (.inr ⟨i, by rw [decide_eq_true hn]; simp, hn, .inl (by rw [← hi.G.muOld i hn]; exact hb)⟩) fl)
    · rcases hi.G.new i b (by omega) hb with h1 | h1
      · exact .inl h1
      · exact .inr (Cx.wrOk.or (.inl h1) _)
  · exact e.or _
  · intro vs t' fr' hv
    rw [hheap] at hv
    cases hv
    exact ⟨_, _, _, hheap', hsz⟩
  · rw [hci] at hox
    cases hox
    exact hlow m hm
  · refine hO.map (fun p q => p = q) (fun _ _ _ e1 e2 => e1.trans e2.symm) (fun p sz u hp => .inr ⟨p, sz, rfl, ?_, .inl rfl⟩) (fun p q b' l e hn => e ▸ hn) (fun q sz u c hq _ hk => ⟨⟨heap c ((hO.own q sz u hq).lt hk) (fun e => (hO.blk q sz u c hq hk).2.1 i hlive (e ▸ hb)), fun _ h => h⟩, fun j hl hm => ⟨liveAt_set hl hlive, hm⟩⟩) (ImmLe.refl _) (fun r off z hm _ => ⟨r, hm, rfl, rfl, rfl⟩) (fun i' j z u q hp hz hR hq => ?_)
    · cases p with
      | reg r off => exact hp
      | cell i' j =>
        obtain ⟨c2, own, b', h1, h2, h3, h4, h5⟩ := hp
        by_cases hii : i' = i
        · subst hii
          rw [hset_at hilt] at h1
          cases h1
          simp at h2
        · rw [hset_ne hii] at h1
          have hne : b' ≠ b := fun e => hii (hi.G.inj i' i b ⟨_, h1, rfl⟩ hlive (e ▸ h4) hb)
          exact ⟨c2, own, b', h1, h2, h3, h4, by rw [← cell_same (heap b' (hi.G.muW i' b' h4).1 hne)]; exact h5⟩
    · subst hR
      refine ⟨i', j, rfl, fun xs ⟨c2, own, h1, h2⟩ => ?_⟩
      obtain ⟨c3, own3, b', k1, k2, _, _, _⟩ := hp
      by_cases hii : i' = i
      · subst hii
        rw [hset_at hilt] at k1
        cases k1
        simp at k2
      · exact ⟨c2, own, by rw [hset_ne hii]; exact h1, h2⟩
theorem plain_end {h0 : Heap} {g0 : Gh} {w0 : World} {N : Nat} {o : Ows} {rs : Regs} {h : Heap} {fl : Fl} {g : Gh} {a : Act} {w : World} (hi : Inv0 (calleeCx (Dt := Dt) h0 g0 w0) N h0 o rs h fl g a w) {u : Value} {v : V} (hu : VR g u v) {own : Option Nat} (hown : own = none) : CallPost (calleeCx (Dt := Dt) h0 g0 w0) h0 own (v, h, fl) u w := by
  obtain ⟨hO, _⟩ := hi.own0 rfl
  refine ⟨g, hi.W, hi.G, ?_, hu, fun sz e => by rw [hown] at e; cases e⟩
  exact hO.map (fun p q => p = q) (fun _ _ _ e1 e2 => e1.trans e2.symm) (fun p sz x hq => .inr ⟨_, sz, rfl, by
    cases p with
    | reg r off => obtain ⟨h1, _⟩ := hq; simp at h1
    | cell i j => exact hq, .inl rfl⟩) (fun p q b l e hn => e ▸ hn) (fun _ _ _ _ _ _ _ => ⟨⟨rfl, fun _ h => h⟩, fun _ h1 h2 => ⟨h1, h2⟩⟩) (ImmLe.refl _) (fun r off z hm _ => by simp at hm)

theorem setCell_grown (w : World) (b o : Nat) (u : Value) : w.grownBy (w.setCell ⟨b, o, none⟩ u) (some b) :=
  ⟨rfl, rfl, rfl, by simp [World.setCell], fun k _ hk => by
    have : b ≠ k := fun e => hk (by rw [e])
    simp [World.setCell, Array.getElem?_modify, this]⟩
theorem setCell_heap {w : World} {b : Nat} {cur : Array Value} {t : TypeId} {fr : Nat × Nat} (hb : w.heap[b]? = some (.cells cur t fr)) (o : Nat) (u : Value) : (w.setCell ⟨b, o, none⟩ u).heap[b]? = some (.cells (cur.setIfInBounds o u) t fr) := by
  simp [World.setCell, Array.getElem?_modify, hb]
theorem VRs.setK {g : Gh} : ∀ {us : List Value} {cs : List V}, VRs g us cs → ∀ {u : Value} {v : V}, VR g u v → ∀ k, VRs g (us.set k u) (cs.set k v)
  | _, _, .nil, _, _, _, _ => .nil
  | _, _, .cons h1 h2, _, _, h, 0 => .cons h h2
  | _, _, .cons h1 h2, _, _, h, k + 1 => .cons h1 (h2.setK h k)
theorem ltL_setK {m : Nat} : ∀ {cs : List V} {v : V} (k : Nat), V.ltL m cs = true → v.lt m = true → V.ltL m (cs.set k v) = true
  | [], _, _, h, _ => h
  | c :: cs, v, 0, h, hv => by
    simp only [V.ltL, Bool.and_eq_true] at h
    simp [V.ltL, hv, h.2]
  | c :: cs, v, k + 1, h, hv => by
    simp only [V.ltL, Bool.and_eq_true] at h
    simp [V.ltL, h.1, ltL_setK k h.2 hv]
theorem all_setK {p : V → Bool} {cs : List V} (h : cs.all p = true) {v : V} (hv : p v = true) (k : Nat) : (cs.set k v).all p = true := by
  rw [List.all_eq_true] at h ⊢
  intro x hx
  rcases List.mem_or_eq_of_mem_set hx with hx | rfl
  · exact h x hx
  · exact hv
theorem cell_at (hi : HRead g h w) {i o : Nat} {cs : List V} {own : List (Nat × Nat)} (hc : cellsAt h i = some (cs, own)) {k : IntKind} {n : Int} (hn : cs[o]? = some (.int k n)) {b : Nat} (hb : g.mu i = some b) : w.cell? ⟨b, o, none⟩ = some (.int k n) ∧ w.frozen? ⟨b, o, none⟩ = false := by
  obtain ⟨b', us, t, l, r, hb', hheap, hlr, hus, _⟩ := hi.cells hc
  rw [hb] at hb'; cases hb'
  obtain ⟨u, hu, hv⟩ := hus.get o _ hn
  cases hv.int_inv
  refine ⟨?_, by simp [World.frozen?, hheap]⟩
  rw [cell_of_heap hheap, ← Array.getElem?_toList, hlr]
  rw [List.getElem?_append_left (List.getElem?_eq_some_iff.1 hu).1]
  exact hu
theorem Inv.cellSet (hi : Inv cx N hb0 S rs h fl g a w) (hpd : S.pd = none) {i b o : Nat} {cs : List V} (hc : cellsAt h i = some (cs, [])) (hb : g.mu i = some b) {k : IntKind} (n : Int) (ho : o < cs.length) :
    Inv cx N hb0 (offLa S) rs (hset h i (.cells (cs.set o (.int k n)) [])) (fl.or ⟨cnd (decide (i < cx.n0)) [i] [], [], false⟩) g a (w.setCell ⟨b, o, none⟩ (.int k n)) := by
  obtain ⟨b', us, t, l, r, hb', hheap, hlr, hus, hall⟩ := hi.G.hr.cells hc
  rw [hb] at hb'; cases hb'
  have hl := hus.length
  refine hi.rowSet hpd hc hb (setCell_grown w b o _) (Nat.le_refl _) hheap (setCell_heap hheap o _) (by simp) (us := l.set o (.int k n)) (ru := r) ?_ (hus.setK (.cell (.int _ _)) o) (all_setK hall rfl o) (fun m hm => ltL_setK o hm rfl)
  rw [Array.toList_setIfInBounds, hlr, List.set_append_left _ _ (by simp only at hl; omega)]
end
end Go.Vm

/- Points on a ring, in order; 'slices.SortFunc' on a list of them in place: what is rested on is the library's contract. -/
set_option linter.unusedVariables false
set_option linter.unusedSimpArgs false
namespace Go.Vm
open Go.Sort Go.Proofs

structure Pt where
  at' : Int
  node : Int
  k : Int
deriving DecidableEq
instance : Inhabited Pt := ⟨⟨0, 0, 0⟩⟩
abbrev Pt.c (p : Pt) : List V := [.int .u32 p.at', .int .i64 p.node, .int .i64 p.k]
abbrev Pt.v (p : Pt) : V := .agg p.c
def Pt.enc (p : Pt) : List Value := [.int .u32 p.at', .int .i64 p.node, .int .i64 p.k]
theorem Pt.ext' {p q : Pt} (h1 : p.at' = q.at') (h2 : p.node = q.node) (h3 : p.k = q.k) : p = q := by
  cases p; cases q; simp at *; exact ⟨h1, h2, h3⟩
def lt3 (p q : Pt) : Bool := decide (p.at' < q.at') || (decide (p.at' = q.at') && (decide (p.node < q.node) || (decide (p.node = q.node) && decide (p.k < q.k))))
def cmp3 (p q : Pt) : Int := if lt3 p q = true then -1 else if lt3 q p = true then 1 else 0
theorem lt3_iff {p q : Pt} : lt3 p q = true ↔ p.at' < q.at' ∨ (p.at' = q.at' ∧ (p.node < q.node ∨ (p.node = q.node ∧ p.k < q.k))) := by simp [lt3]
theorem lt3_no {p q : Pt} : lt3 p q = false ↔ ¬ (p.at' < q.at' ∨ (p.at' = q.at' ∧ (p.node < q.node ∨ (p.node = q.node ∧ p.k < q.k)))) := by
  rw [← lt3_iff]; simp
theorem lt3_irrefl (p : Pt) : lt3 p p = false := by rw [lt3_no]; omega
theorem lt3_trans {p q r : Pt} (h1 : lt3 p q = true) (h2 : lt3 q r = true) : lt3 p r = true := by
  rw [lt3_iff] at *; omega
theorem lt3_ntrans {p q r : Pt} (h1 : lt3 p q = false) (h2 : lt3 q r = false) : lt3 p r = false := by
  rw [lt3_no] at *; omega
theorem lt3_eq {p q : Pt} (h1 : lt3 p q = false) (h2 : lt3 q p = false) : p = q := by
  rw [lt3_no] at *
  exact Pt.ext' (by omega) (by omega) (by omega)
theorem cmp3_lt (x y : Pt) : ltOf cmp3 x y = lt3 x y := by
  unfold ltOf cmp3
  by_cases h1 : lt3 x y = true
  · rw [if_pos h1, h1]; rfl
  · rw [if_neg h1]
    have h1 : lt3 x y = false := by simpa using h1
    rw [h1]
    by_cases h2 : lt3 y x = true
    · rw [if_pos h2]; rfl
    · rw [if_neg h2]; rfl
theorem cmp3_swo : SWO (ltOf cmp3) where
  irrefl x := by rw [cmp3_lt]; exact lt3_irrefl _
  trans x y z h1 h2 := by rw [cmp3_lt] at h1 h2 ⊢; exact lt3_trans h1 h2
  ntrans x y z h1 h2 := by rw [cmp3_lt] at h1 h2 ⊢; exact lt3_ntrans h1 h2
def ins3 (p : Pt) : List Pt → List Pt
  | [] => [p]
  | q :: l => if lt3 q p = true then q :: ins3 p l else p :: q :: l
def insAll : List Pt → List Pt → List Pt
  | l, [] => l
  | l, p :: ps => insAll (ins3 p l) ps
def sort3 (ps : List Pt) : List Pt := insAll [] ps
theorem ins3_perm (p : Pt) : ∀ l : List Pt, (ins3 p l).Perm (p :: l)
  | [] => .refl _
  | q :: l => by
    simp only [ins3]
    split
    · exact ((ins3_perm p l).cons q).trans (.swap _ _ _)
    · exact .refl _
abbrev Sorted3 (l : List Pt) : Prop := l.Pairwise fun a b => lt3 b a = false
theorem ins3_sorted (p : Pt) : ∀ {l : List Pt}, Sorted3 l → Sorted3 (ins3 p l)
  | [], _ => by simp [ins3, Sorted3]
  | q :: l, h => by
    simp only [ins3]
    obtain ⟨h1, h2⟩ := List.pairwise_cons.1 h
    split
    · rename_i hl
      refine List.pairwise_cons.2 ⟨fun z hz => ?_, ins3_sorted p h2⟩
      rcases List.mem_cons.1 ((ins3_perm p l).subset hz) with rfl | hz
      · cases hzx : lt3 z q with
        | false => rfl
        | true => have := lt3_trans hl hzx; rw [lt3_irrefl] at this; cases this
      · exact h1 z hz
    · rename_i hl
      have hl : lt3 q p = false := by simpa using hl
      refine List.pairwise_cons.2 ⟨fun z hz => ?_, h⟩
      rcases List.mem_cons.1 hz with rfl | hz
      · exact hl
      · exact lt3_ntrans (h1 z hz) hl
theorem insAll_perm : ∀ (ps l : List Pt), (insAll l ps).Perm (ps ++ l)
  | [], l => .refl _
  | p :: ps, l => (insAll_perm ps (ins3 p l)).trans (((ins3_perm p l).append_left ps).trans List.perm_middle)
theorem insAll_sorted : ∀ (ps : List Pt) {l : List Pt}, Sorted3 l → Sorted3 (insAll l ps)
  | [], _, h => h
  | p :: ps, _, h => insAll_sorted ps (ins3_sorted p h)
theorem sort3_perm (ps : List Pt) : (sort3 ps).Perm ps := (insAll_perm ps []).trans (by simp)
theorem sort3_sorted (ps : List Pt) : Sorted3 (sort3 ps) := insAll_sorted ps .nil
theorem sort3_unique {a b : List Pt} (hp : a.Perm b) (ha : Sorted3 a) (hb : Sorted3 b) : a = b :=
  List.Perm.eq_of_pairwise (le := fun a b => lt3 b a = false) (fun x y _ _ h1 h2 => lt3_eq h2 h1) ha hb hp
theorem sort3_len (ps : List Pt) : (sort3 ps).length = ps.length := (sort3_perm ps).length_eq

theorem Pt.enc_len (x : Pt) : x.enc.length = 3 := rfl
theorem Pt.enc_one (x : Pt) : ∀ v ∈ x.enc, v.oneCell' = true := by
  intro v hv
  simp only [Pt.enc, List.mem_cons, List.not_mem_nil, or_false] at hv
  rcases hv with rfl | rfl | rfl <;> rfl
theorem pt_flat (l : List Pt) : (l.flatMap Pt.enc).length = l.length * 3 := by
  induction l with
  | nil => rfl
  | cons x l ih => simp [Pt.enc_len, ih, Nat.add_mul]; omega
theorem pt_get : ∀ (l : List Pt) (j : Nat), j < l.length * 3 → (l.flatMap Pt.enc)[j]? = some ((Pt.enc l.toArray[j / 3]!)[j % 3]!)
  | [], j, h => by simp at h
  | x :: l, j, h => by
    rw [List.flatMap_cons]
    by_cases hj : j < 3
    · have h0 : j / 3 = 0 := by omega
      have h1 : j % 3 = j := by omega
      rw [h0, h1, List.getElem?_append_left (by simpa [Pt.enc_len] using hj)]
      have hx : (x :: l).toArray[0]! = x := by simp
      rw [hx]
      have : j = 0 ∨ j = 1 ∨ j = 2 := by omega
      rcases this with rfl | rfl | rfl <;> rfl
    · have hj' : 3 ≤ j := by omega
      have h0 : j / 3 = (j - 3) / 3 + 1 := by omega
      have h1 : j % 3 = (j - 3) % 3 := by omega
      simp only [List.length_cons] at h
      rw [List.getElem?_append_right (by simpa [Pt.enc_len] using hj'), Pt.enc_len, pt_get l (j - 3) (by omega), h0, h1]
      simp
structure SortAt3 (P : Program) (f gf : Nat) : Prop where
  enters : ∀ args w, (callFunc f args).run P w = .ok (.enter f args) w
  nil : ∀ w, Calls P f #[.slice none 0 0, .func (.func gf) #[] #[]] w fun e w' => e = .returned (.tuple #[]) ∧ w' = w
  run : ∀ (b cap : Nat) (ps : List Pt) (cur : Array Value) (t : TypeId) (w : World), ps.length ≤ 1000 → w.heap[b]? = some (.cells cur t (0, 0)) → cur.toList.take (ps.length * 3) = ps.flatMap Pt.enc → ps.length ≤ cap → cap * 3 ≤ cur.size →
    Calls P f #[.slice (some ⟨b, 0, none⟩) ps.length cap, .func (.func gf) #[] #[]] w fun e w' => e = .returned (.tuple #[]) ∧
      ∃ cur', w'.heap[b]? = some (.cells cur' t (0, 0)) ∧ cur'.size = cur.size ∧ cur'.toList.take (ps.length * 3) = (sort3 ps).flatMap Pt.enc ∧ w.grownBy w' (some b) ∧ w.drawn ≤ w'.drawn
section
variable {P : Program} {R : Nat → Option Nat} {ρ : Go.Shelf.Ren}
def CmpAll3 (P : Program) (gf : Nat) : Prop := ∀ (W : World) (x y : Pt), Calls P gf #[.agg x.enc.toArray, .agg y.enc.toArray] W fun e w' => e = .returned (.int .i64 (cmp3 x y)) ∧ ∃ q os', w' = grow (W.drewN q) os'
theorem cmp_all3 {E : Env} (hE : EnvOk P R E) {gf : Nat} {v : VFun} (hp : E.prim gf = none) (hf : E.fn gf = some v)
    (hr : ∀ x y : Pt, callL E gf [x.v, y.v] [] = some (.int .i64 (cmp3 x y), [], .no)) (hT : Tracks R) : CmpAll3 P gf := fun W x y => by
  have arg : ∀ z : Pt, VR (topG W) (.agg z.enc.toArray) z.v := fun z => .agg (.cons (.cell (.int _ _)) (.cons (.cell (.int _ _)) (.cons (.cell (.int _ _)) .nil))) rfl
  have hcall := call_sound hE gf _ [] _ (hr x y) (topG W) W #[.agg x.enc.toArray, .agg y.enc.toArray] (pre_top W) (.cons (arg x) (.cons (arg y) .nil))
  obtain ⟨fn, code, c, h1, h2, h3, _⟩ := (hE.fn gf v hp hf).ok
  rcases hcall with ⟨_, h⟩ | ⟨u, w', h, _⟩
  · refine h.mono fun e w' ⟨u, he, g, hW, hG, _, hu, _⟩ => ?_
    subst he
    cases hu with
    | cell hu =>
      cases hu
      refine ⟨rfl, w'.drawn - W.drawn, w'.heap.extract W.heap.size w'.heap.size, ?_⟩
      have hd := hW.drn hT
      have hs := hW.hsz
      refine world_ext ?_ hW.tape ?_ hW.os hW.out
      · apply Array.ext_getElem?
        intro k
        simp only [grow, World.heap_drewN, Array.getElem?_append]
        by_cases hk : k < W.heap.size
        · rw [if_pos hk]
          refine hW.old k hk ?_
          rintro (⟨i, ⟨o, ho, _⟩, _⟩ | ⟨i, j, l, sz, x, _, hx, _⟩)
          · simp at ho
          · obtain ⟨cs, own, b, h1, _⟩ := hx
            simp at h1
        · rw [if_neg hk, Array.getElem?_extract]
          have hs' : W.heap.size ≤ w'.heap.size := hs
          by_cases hk2 : k < w'.heap.size
          · rw [if_pos (by omega), show W.heap.size + (k - W.heap.size) = k by omega]
          · rw [if_neg (by omega), Array.getElem?_eq_none (by omega)]
      · show w'.drawn = W.drawn + (w'.drawn - W.drawn)
        have hd' : W.drawn ≤ w'.drawn := hd
        omega
  · rw [callFunc_enter h1 h2 h3] at h
    cases h
theorem sortAt3_of (L : SlLaysF0.n6 P ρ) (aE : ∀ w, (isAgg (ρ.t 24)).run P w = .ok true w) (zE : ∀ w, (Go.sizeOf (ρ.t 24)).run P w = .ok 3 w) {gf : Nat} (eg : ∀ args w, (callFunc gf args).run P w = .ok (.enter gf args) w) (hcmp : CmpAll3 P gf)
    (he : ∀ args w, (callFunc (ρ.f 6) args).run P w = .ok (.enter (ρ.f 6) args) w) : SortAt3 P (ρ.f 6) gf where
  enters := he
  nil := fun w => AnyF.slices_SortFunc_none L none 0 (.func (.func gf) #[] #[]) w
  run := by
    intro b cap ps cur t w hlen hb htake hcap hfit
    have hblk : b < w.heap.size := (Array.getElem?_eq_some_iff.1 hb).1
    have hdsz : ps.toArray.size = ps.length := by simp
    have hH : HoldsK Pt.enc 3 w b 0 ps.toArray := by
      intro j hj
      rw [size_flatK, hdsz] at hj
      rw [get_flatK _ _ _ _ (by rw [hdsz]; exact hj), Nat.zero_add]
      refine ⟨?_, by simp [World.frozen?, hb]⟩
      have := pt_get ps j hj
      rw [← htake, List.getElem?_take, if_pos hj] at this
      rw [cell_of_heap hb, ← Array.getElem?_toList]
      exact this
    have key := AnyQ.slices_SortFunc L 3 aE zE Pt.enc Pt.enc_len Pt.enc_one cmp3 cmp3_swo gf #[] b 0 cap ps.toArray w eg (fun m os dk _ x y => by simpa using hcmp _ x y) hH hblk (by rw [hdsz]; omega)
    rw [hdsz] at key
    refine key.mono fun e w' ⟨he, d', n, os, hperm, hsort, hw⟩ => ⟨he, ?_⟩
    obtain ⟨q1, _, q3⟩ := hperm
    rw [hdsz] at q1
    have hperm2 : d'.toList.Perm ps := by
      have e1 : (d'.extract 0 ps.length).toList = d'.toList := by rw [← q1]; simp
      have e2 : (ps.toArray.extract 0 ps.length).toList = ps := by simp
      rw [e1, e2] at q3
      exact q3
    have hys : d'.toList = sort3 ps := by
      refine sort3_unique (hperm2.trans (sort3_perm ps).symm) ?_ (sort3_sorted ps)
      rw [Sorted3, List.pairwise_iff_getElem]
      intro i j hi hj hij
      have hi2 : i < d'.size := by simpa using hi
      have hj2 : j < d'.size := by simpa using hj
      have h1 := hsort i j (Nat.zero_le _) hij (by omega)
      rw [cmp3_lt] at h1
      rw [getElem!_pos d' i hi2, getElem!_pos d' j hj2] at h1
      simpa using h1
    have hw2 : w' = grow (mapBlock (Sort.ahead w n) b (putCells id 0 (flatK Pt.enc 3 d'))) os := hw
    have hother : ∀ k, k < w.heap.size → k ≠ b → w'.heap[k]? = w.heap[k]? := fun k hk hne => by
      rw [hw2]
      simp only [grow, mapBlock, Sort.heap_ahead, Array.getElem?_append, Array.size_modify]
      rw [if_pos hk, Array.getElem?_modify, if_neg (Ne.symm hne)]
    refine ⟨putCells id 0 (flatK Pt.enc 3 d') cur, ?_, by simp [putCells], ?_, ⟨by rw [hw2]; rfl, by rw [hw2]; rfl, by rw [hw2]; rfl, by rw [hw2]; simp [grow, mapBlock], fun k hk hne => hother k hk fun e => hne (by rw [e])⟩, by rw [hw2]; show w.drawn ≤ w.drawn + n; omega⟩
    · rw [hw2]
      simp only [grow, mapBlock, Sort.heap_ahead, Array.getElem?_append, Array.size_modify]
      rw [if_pos hblk, Array.getElem?_modify, if_pos rfl, hb]
      rfl
    · have hH' : HoldsK Pt.enc 3 w' b 0 d' := by
        rw [hw]
        exact holdsK_grow _ _ _ _ _ _ _ (by show b < (putRow id _ _ _ _).heap.size; rw [Go.Sort.size_putRow]; exact hblk) (holdsK_putRowK _ _ _ _ _ _ _ (holdsK_ahead _ _ _ _ _ _ _ hH) (by rw [q1, hdsz]))
      have hb' : w'.heap[b]? = some (.cells (putCells id 0 (flatK Pt.enc 3 d') cur) t (0, 0)) := by
        rw [hw2]
        simp only [grow, mapBlock, Sort.heap_ahead, Array.getElem?_append, Array.size_modify]
        rw [if_pos hblk, Array.getElem?_modify, if_pos rfl, hb]
        rfl
      have hcs : cap * 3 ≤ (putCells id 0 (flatK Pt.enc 3 d') cur).size := by simpa [putCells] using hfit
      have hp3 : ps.length * 3 ≤ cap * 3 := Nat.mul_le_mul_right _ hcap
      apply List.ext_getElem?
      intro j
      rw [List.getElem?_take]
      by_cases hj : j < ps.length * 3
      · rw [if_pos hj]
        have hj2 : j < d'.size * 3 := by omega
        have h1 := (hH' j (by rw [size_flatK]; exact hj2)).1
        rw [get_flatK _ _ _ _ hj2, Nat.zero_add, cell_of_heap hb'] at h1
        rw [Array.getElem?_toList, h1, ← hys]
        have := pt_get d'.toList j (by simpa using hj2)
        simpa using this.symm
      · rw [if_neg hj, List.getElem?_eq_none]
        rw [pt_flat, sort3_len]; omega
end
end Go.Vm

/- Atomic loads and additions, 'doSlow' of sync.Once, 'slices.SortFunc' of points in place: what the machine is told of them. -/
set_option linter.unusedVariables false
set_option linter.unusedSimpArgs false
namespace Go.Vm
open Go.Proofs

def isNum (cs : List V) (o : Nat) (k : IntKind) (n : Int) : Bool := match cs[o]? with
  | some (.int k' m) => decide (k' = k) && decide (m = n)
  | _ => false
theorem isNum_get {cs : List V} {o : Nat} {k : IntKind} {n : Int} (h : isNum cs o k n = true) : cs[o]? = some (.int k n) := by
  unfold isNum at h
  split at h
  · rename_i k' m e
    simp only [Bool.and_eq_true, decide_eq_true_eq] at h
    rw [e, h.1, h.2]
  · cases h
def wrOne (h : Heap) (i : Nat) : Fl := ⟨cnd (decide (i < h.length)) [i] [], [], false⟩
def aloadP (k : IntKind) : Prim
  | [.ptr (some (i, o))], h => bnd (cellsAt h i) fun c => match c.1[o]? with
    | some (.int k' n) => cnd (decide (k' = k)) (some (.int k n, h, .no)) none
    | _ => none
  | _, _ => none
def aaddP : Prim
  | [.ptr (some (i, o)), .int .i32 n], h => bnd (cellsAt h i) fun c => cnd (isNum c.1 o .i32 0 && (decide (n = 1) && c.2.isEmpty))
      (some (.int .i32 1, hset h i (.cells (c.1.set o (.int .i32 1)) []), wrOne h i)) none
  | _, _ => none
noncomputable def slowP (E : Env) : Prim
  | [.ptr (some (i, o)), .fn f us vs], h => bnd (cellsAt h i) fun c => cnd (isNum c.1 o .u32 0 && (isNum c.1 (o + 1) .i32 0 && (c.2.isEmpty && ((E.prim f).isNone && (E.fn f).isSome))))
      (bnd (callL E f (us ++ vs) (hset h i (.cells (c.1.set (o + 1) (.int .i32 1)) []))) fun r => match r.1 with
        | .tup [] => bnd (cellsAt r.2.1 i) fun d => cnd (isNum d.1 o .u32 0 && (isNum d.1 (o + 1) .i32 1 && d.2.isEmpty))
            (some (.tup [], hset (hset r.2.1 i (.cells (d.1.set o (.int .u32 1)) [])) i (.cells ((d.1.set o (.int .u32 1)).set (o + 1) (.int .i32 0)) []), (((Fl.no.or (wrOne h i)).or r.2.2).or (wrOne h i)).or (wrOne h i))) none
        | _ => none) none
  | _, _ => none
structure SlowAt (P : Program) (f : Nat) : Prop where
  enters : ∀ args w, (callFunc f args).run P w = .ok (.enter f args) w
  run : ∀ (b o gf : Nat) (us vs : Array Value) (w : World) (Q : World → Prop), w.cell? ⟨b, o, none⟩ = some (.int .u32 0) → w.cell? ⟨b, o + 1, none⟩ = some (.int .i32 0) → w.frozen? ⟨b, o, none⟩ = false → w.frozen? ⟨b, o + 1, none⟩ = false →
    (callFunc gf (us ++ vs)).run P (w.setCell ⟨b, o + 1, none⟩ (.int .i32 1)) = .ok (.enter gf (us ++ vs)) (w.setCell ⟨b, o + 1, none⟩ (.int .i32 1)) →
    Calls P gf (us ++ vs) (w.setCell ⟨b, o + 1, none⟩ (.int .i32 1)) (fun e w2 => e = .returned (.tuple #[]) ∧ (w2.cell? ⟨b, o, none⟩ = some (.int .u32 0) ∧ w2.cell? ⟨b, o + 1, none⟩ = some (.int .i32 1) ∧ w2.frozen? ⟨b, o, none⟩ = false ∧ w2.frozen? ⟨b, o + 1, none⟩ = false) ∧
      Q ((w2.drew.setCell ⟨b, o, none⟩ (.int .u32 1)).setCell ⟨b, o + 1, none⟩ (.int .i32 0))) →
    Calls P f #[.pointer (some ⟨b, o, none⟩), .func (.func gf) us vs] w fun e w' => e = .returned (.tuple #[]) ∧ Q w'
def ptsOf : List V → Option (List Pt)
  | [] => some []
  | .int .u32 a :: .int .i64 b :: .int .i64 c :: l => bnd (ptsOf l) fun ps => some (⟨a, b, c⟩ :: ps)
  | _ => none
def sort3P (gf : Nat) : Prim
  | [.nsl, .fn f [] []], h => cnd (decide (f = gf)) (some (.tup [], h, .no)) none
  | [.msl i o n z, .fn f [] []], h => cnd (decide (f = gf) && (decide (o = 0) && (decide (z = 3) && decide (n ≤ 1000)))) (bnd (cellsAt h i) fun c => cnd (c.2.isEmpty && decide (c.1.length = n * 3))
      (bnd (ptsOf c.1) fun ps => some (.tup [], hset h i (.cells ((sort3 ps).flatMap Pt.c) []), wrOne h i)) none) none
  | _, _ => none
theorem ptsOf_eq : ∀ {cs : List V} {ps : List Pt}, ptsOf cs = some ps → cs = ps.flatMap Pt.c := by
  intro cs
  induction cs using ptsOf.induct with
  | case1 => intro ps h; cases h; rfl
  | case2 a b c l ih =>
    intro ps h
    simp only [ptsOf] at h
    obtain ⟨qs, h1, h2⟩ := bnd_eq_some h
    cases h2
    rw [ih h1]
    rfl
  | case3 => intro ps h; simp [ptsOf] at h
theorem ptsOf_flat : ∀ ps : List Pt, ptsOf (ps.flatMap Pt.c) = some ps
  | [] => rfl
  | p :: ps => by
    show bnd (ptsOf (ps.flatMap Pt.c)) _ = _
    rw [ptsOf_flat ps]
    rfl
theorem ptc_len (ps : List Pt) : (ps.flatMap Pt.c).length = ps.length * 3 := by
  induction ps with
  | nil => rfl
  | cons x l ih => simp [ih, Nat.add_mul]
theorem vrs_pts {g : Gh} : ∀ {ps : List Pt} {us : List Value}, VRs g us (ps.flatMap Pt.c) → us = ps.flatMap Pt.enc
  | [], _, h => by cases h; rfl
  | p :: ps, _, .cons h1 (.cons h2 (.cons h3 h)) => by
    cases h1.int_inv
    cases h2.int_inv
    cases h3.int_inv
    rw [vrs_pts h]
    rfl
theorem pts_vrs {g : Gh} : ∀ ps : List Pt, VRs g (ps.flatMap Pt.enc) (ps.flatMap Pt.c)
  | [] => .nil
  | p :: ps => .cons (.cell (.int _ _)) (.cons (.cell (.int _ _)) (.cons (.cell (.int _ _)) (pts_vrs ps)))
theorem pts_cell : ∀ ps : List Pt, (ps.flatMap Pt.c).all V.isCell = true
  | [] => rfl
  | p :: ps => by
    rw [List.flatMap_cons, List.all_append, pts_cell ps]
    rfl
theorem pts_low (m : Nat) : ∀ ps : List Pt, V.ltL m (ps.flatMap Pt.c) = true
  | [] => rfl
  | p :: ps => by
    show V.ltL m (_ :: _ :: _ :: ps.flatMap Pt.c) = true
    simp only [V.ltL, V.lt, pts_low m ps, Bool.and_self]

section
variable {P : Program} {R : Nat → Option Nat} {h : Heap} {g : Gh} {w : World}
theorem aload_ok {k : IntKind} {f : Nat} {fn : Func} (hf : P.funcs[f]? = some fn) (hname : (fn.name == "runtime.NumGoroutine") = false) (hb : fn.body.isNone = true) (hn : Extern.findNext fn = none) (he : Extern.find fn = some (Extern.Atomic.loadT (.int k))) (hR : R f = none) : PrimOk P R f (aloadP k) := by
  intro vargs h r hr g w uargs hp hargs
  unfold aloadP at hr
  split at hr
  · rename_i i o
    obtain ⟨c, hc, hr⟩ := bnd_eq_some hr
    split at hr
    · rename_i k' n hn'
      obtain ⟨hk, hr2⟩ := cnd_eq_some hr
      clear hr
      cases of_decide_eq_true hk
      cases hr2
      obtain ⟨us⟩ := uargs
      simp only at hargs
      cases hargs with
      | cons h1 hargs =>
      cases hargs
      obtain ⟨b, hbm, rfl⟩ := h1.ptr_inv
      have hcell := (cell_at (own := c.2) hp.hr hc hn' hbm).1
      exact .inr ⟨_, w, run_call_load hf hname hb hn k he hcell, plain_end (pre_start (Dt := Tracks R) hp (N := 0) (uargs := #[]) (vargs := []) .nil (by simp)) (.cell (.int _ _)) hR⟩
    · cases hr
  · cases hr
theorem aadd_ok {f : Nat} {fn : Func} (hf : P.funcs[f]? = some fn) (hname : (fn.name == "runtime.NumGoroutine") = false) (hb : fn.body.isNone = true) (hn : Extern.findNext fn = none) (he : Extern.find fn = some (Extern.Atomic.update (Op.intArith .add) .i32 true)) (hR : R f = none) : PrimOk P R f aaddP := by
  intro vargs h r hr g w uargs hp hargs
  unfold aaddP at hr
  split at hr
  · rename_i i o n
    obtain ⟨c, hc, hr⟩ := bnd_eq_some hr
    obtain ⟨hcond, hr⟩ := cnd_eq_some hr
    cases hr
    simp only [Bool.and_eq_true, decide_eq_true_eq, List.isEmpty_iff] at hcond
    obtain ⟨h0, rfl, hown⟩ := hcond
    have h0 := isNum_get h0
    obtain ⟨us⟩ := uargs
    simp only at hargs
    cases hargs with
    | cons h1 hargs =>
    cases hargs with
    | cons h2 hargs =>
    cases hargs
    obtain ⟨b, hbm, rfl⟩ := h1.ptr_inv
    cases h2.int_inv
    obtain ⟨hcell, hfr⟩ := cell_at (own := c.2) hp.hr hc h0 hbm
    have hc' : cellsAt h i = some (c.1, []) := by rw [← hown]; exact hc
    have hi := pre_start (Dt := Tracks R) hp (N := 0) (uargs := #[]) (vargs := []) .nil (by simp)
    have i1 := hi.cellSet rfl hc' hbm (k := .i32) (o := o) 1 (List.getElem?_eq_some_iff.1 h0).1
    have e : Fl.no.or (wrOne h i) = wrOne h i := by simp [Fl.or, wrOne]
    refine .inr ⟨_, _, run_call_add hf hname hb hn .i32 he (y := 1) (s := 1) hcell hfr rfl, ?_⟩
    have := plain_end (own := R f) i1 (u := .int .i32 1) (v := .int .i32 1) (.cell (.int _ _)) hR
    change CallPost _ _ _ (_, _, Fl.no.or (wrOne h i)) _ _ at this
    rw [e] at this
    exact this
  · cases hr
theorem slow_ok {E : Env} (hE : EnvOk P R E) {f : Nat} (hS : SlowAt P f) (hR : R f = none) : PrimOk P R f (slowP E) := by
  intro vargs h r hr g w uargs hp hargs
  unfold slowP at hr
  split at hr
  · rename_i i o gf us vs
    obtain ⟨c, hc, hr⟩ := bnd_eq_some hr
    obtain ⟨hcond, hr⟩ := cnd_eq_some hr
    obtain ⟨r1, hcall, hr⟩ := bnd_eq_some hr
    split at hr
    · rename_i hr1
      obtain ⟨d, hd, hr⟩ := bnd_eq_some hr
      obtain ⟨hcond2, hr⟩ := cnd_eq_some hr
      cases hr
      simp only [Bool.and_eq_true, List.isEmpty_iff] at hcond hcond2
      obtain ⟨a1, a2, a3, a4, a5⟩ := hcond
      obtain ⟨d1, d2, d3⟩ := hcond2
      have a1 := isNum_get a1
      have a2 := isNum_get a2
      have d1 := isNum_get d1
      have d2 := isNum_get d2
      obtain ⟨ws⟩ := uargs
      simp only at hargs
      cases hargs with
      | cons h1 hargs =>
      cases hargs with
      | cons h2 hargs =>
      cases hargs
      obtain ⟨b, hbm, rfl⟩ := h1.ptr_inv
      obtain ⟨ua, va, rfl, hua, hva⟩ := h2.fn_inv
      obtain ⟨x1, y1⟩ := cell_at (own := c.2) hp.hr hc a1 hbm
      obtain ⟨x2, y2⟩ := cell_at (own := c.2) hp.hr hc a2 hbm
      have hc' : cellsAt h i = some (c.1, []) := by rw [← a3]; exact hc
      have hi := pre_start (Dt := Tracks R) hp (N := 0) (uargs := #[]) (vargs := []) .nil (by simp)
      have i1 := hi.cellSet rfl hc' hbm (k := .i32) (o := o + 1) 1 (List.getElem?_eq_some_iff.1 a2).1
      have hargs' : VRs g (ua.toArray ++ va.toArray).toList (us ++ vs) := by simpa using hua.append hva
      have hcs := call_sound hE gf _ _ _ hcall g _ (ua.toArray ++ va.toArray) (i1.pre rfl) hargs'
      obtain ⟨vf, hvf⟩ := Option.isSome_iff_exists.1 a5
      obtain ⟨fn, code, _, f1, f2, f3, _⟩ := (hE.fn gf vf (by simpa using a4) hvf).ok
      rcases hcs with ⟨hent, hcalls⟩ | ⟨u, w', hv, _⟩
      · refine .inl ⟨hS.enters _ _, ?_⟩
        have := hS.run b o gf ua.toArray va.toArray w (fun w' => CallPost (calleeCx (Dt := Tracks R) h g w) h (R f) (.tup [], hset (hset r1.2.1 i (.cells (d.1.set o (.int .u32 1)) [])) i (.cells ((d.1.set o (.int .u32 1)).set (o + 1) (.int .i32 0)) []), (((Fl.no.or (wrOne h i)).or r1.2.2).or (wrOne h i)).or (wrOne h i)) (.tuple #[]) w') x1 x2 y1 y2 hent ?_
        · exact this.mono fun e w' ⟨he, hq⟩ => ⟨_, he, hq⟩
        · refine hcalls.mono fun e w2 ⟨u, he, hpost⟩ => ?_
          obtain ⟨g', hle, i2, hu, _⟩ := after_call i1 rfl hpost
          rw [hr1] at hu
          obtain ⟨ul, rfl, hul⟩ := hu.tup_inv
          cases hul
          have hbm' := hle.mu i b hbm
          obtain ⟨z1, t1⟩ := cell_at (own := d.2) i2.G.hr hd d1 hbm'
          obtain ⟨z2, t2⟩ := cell_at (own := d.2) i2.G.hr hd d2 hbm'
          refine ⟨he, ⟨z1, z2, t1, t2⟩, ?_⟩
          have hd' : cellsAt r1.2.1 i = some (d.1, []) := by rw [← d3]; exact hd
          have ho1 := (List.getElem?_eq_some_iff.1 d1).1
          have ho2 := (List.getElem?_eq_some_iff.1 d2).1
          have i3 := i2.drew.cellSet rfl hd' hbm' (k := .u32) (o := o) 1 ho1
          have hlt : i < r1.2.1.length := i2.G.dom i b hbm'
          have hd'' : cellsAt (hset r1.2.1 i (.cells (d.1.set o (.int .u32 1)) [])) i = some (d.1.set o (.int .u32 1), []) := by
            unfold cellsAt hget
            rw [hset_at hlt]
          have i4 := i3.cellSet rfl hd'' hbm' (k := .i32) (o := o + 1) 0 (by simpa using ho2)
          exact plain_end (own := R f) i4 (.tup .nil) hR
      · rw [callFunc_enter f1 f2 f3] at hv
        cases hv
    · cases hr
  · cases hr
theorem sort3_ok {f gf : Nat} (hS : SortAt3 P f gf) (hR : R f = none) : PrimOk P R f (sort3P gf) := by
  intro vargs h r hr g w uargs hp hargs
  have hi := pre_start (Dt := Tracks R) hp (N := 0) (uargs := #[]) (vargs := []) .nil (by simp)
  unfold sort3P at hr
  split at hr
  · rename_i f'
    obtain ⟨hf, hr2⟩ := cnd_eq_some hr
    clear hr
    cases of_decide_eq_true hf
    cases hr2
    obtain ⟨us⟩ := uargs
    simp only at hargs
    cases hargs with
    | cons h1 hargs =>
    cases hargs with
    | cons h2 hargs =>
    cases hargs
    cases h1.nsl_inv
    obtain ⟨ua, va, rfl, hua, hva⟩ := h2.fn_inv
    cases hua
    cases hva
    refine .inl ⟨hS.enters _ _, (hS.nil w).mono fun e w' ⟨he, hw⟩ => ⟨_, he, ?_⟩⟩
    subst hw
    exact plain_end hi (.tup .nil) hR
  · rename_i i o n z f'
    obtain ⟨hcond, hr2⟩ := cnd_eq_some hr
    clear hr
    simp only [Bool.and_eq_true, decide_eq_true_eq] at hcond
    obtain ⟨rfl, rfl, rfl, hn⟩ := hcond
    obtain ⟨c, hc, hr⟩ := bnd_eq_some hr2
    clear hr2
    obtain ⟨hcond, hr⟩ := cnd_eq_some hr
    simp only [Bool.and_eq_true, decide_eq_true_eq, List.isEmpty_iff] at hcond
    obtain ⟨hown, hlen⟩ := hcond
    obtain ⟨ps, hps, hr⟩ := bnd_eq_some hr
    cases hr
    have hps := ptsOf_eq hps
    have hpl : ps.length = n := by rw [hps, ptc_len] at hlen; omega
    subst hpl
    obtain ⟨us⟩ := uargs
    simp only at hargs
    cases hargs with
    | cons h1 hargs =>
    cases hargs with
    | cons h2 hargs =>
    cases hargs
    rename_i u1 u2
    obtain ⟨ua, va, rfl, hua, hva⟩ := h2.fn_inv
    cases hua
    cases hva
    have hc' : cellsAt h i = some (c.1, []) := by rw [← hown]; exact hc
    obtain ⟨b, vs, t, l, ru, hbm, hheap, hlr, hus, _⟩ := hp.hr.cells hc
    have hsz : ∃ cap, u1 = .slice (some ⟨b, 0, none⟩) ps.length cap ∧ ps.length ≤ cap ∧ cap * 3 ≤ g.siz b := by
      cases h1 with
      | msl hm hcap hs =>
        rw [hbm] at hm
        cases hm
        exact ⟨_, rfl, hcap, by omega⟩
      | cell hx => cases hx
    obtain ⟨cap, rfl, hcap, hsiz⟩ := hsz
    rw [hps] at hus
    have hl := vrs_pts hus
    subst hl
    have hfit : cap * 3 ≤ vs.size := by
      by_cases h0 : cap = 0
      · omega
      · obtain ⟨us', t', fr', k1, k2⟩ := hp.hr.siz b (by omega)
        rw [hheap] at k1
        cases k1
        omega
    refine .inl ⟨hS.enters _ _, ?_⟩
    have := hS.run b cap ps vs t w hn hheap (by rw [hlr]; exact List.take_left' (pt_flat ps)) hcap hfit
    refine this.mono fun e w' ⟨he, cur', k1, k2, k3, k4, k5⟩ => ⟨_, he, ?_⟩
    have i1 := hi.rowSet rfl hc' hbm k4 k5 hheap k1 (by omega) (us := (sort3 ps).flatMap Pt.enc) (ru := cur'.toList.drop (ps.length * 3)) (by rw [← k3, List.take_append_drop]) (pts_vrs _) (pts_cell _) (fun m _ => pts_low m _)
    have e : Fl.no.or (wrOne h i) = wrOne h i := by simp [Fl.or, wrOne]
    have := plain_end (own := R f) i1 (u := .tuple #[]) (v := .tup []) (.tup .nil) hR
    change CallPost _ _ _ (_, _, Fl.no.or (wrOne h i)) _ _ at this
    rw [e] at this
    exact this
  · cases hr
end
end Go.Vm

