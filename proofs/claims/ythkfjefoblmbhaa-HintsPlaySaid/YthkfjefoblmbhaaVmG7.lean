/- The V-machine, part 7. -/
import Derived.Test.YthkfjefoblmbhaaVmG5
import Derived.Shelf.Lays2
import Derived.Shelf.SlGeneric
import Derived.Shelf.RegionOpenPlain
import Derived.WalkKit
import Derived.Lib.Walk
import Derived.Lib.SliceRun
import Derived.Lib.AppendZerosOnto
import Derived.Lib.Overlaps
import Derived.Laws.Externs
/- 'slices.Insert' of one element and 'slices.Delete' of one, on a list that is written in place: what the machine is told of them. -/
set_option linter.unusedVariables false
set_option linter.unusedSimpArgs false
namespace Go.Vm

def insertP (sz bytes : Nat) : List V → Heap → Option (V × Heap × Fl)
  | [s, .int .i64 i, .sl [x]], h => bnd (cnd (msize sz s) (mcells h s) none) fun c =>
      cnd (decide ((0 ≤ i ∧ i.toNat ≤ c.2) ∧ (c.2 + 1) * bytes ≤ 140737488355328 ∧ x.flat.length = sz))
        (some (.msl h.length 0 (c.2 + 1) sz, mkill h s ++ [.cells (c.1.take (i.toNat * sz) ++ (x.flat ++ c.1.drop (i.toNat * sz))) []], ⟨[], [], true⟩)) none
  | _, _ => none
def deleteP (sz : Nat) : List V → Heap → Option (V × Heap × Fl)
  | [s, .int .i64 i, .int .i64 j], h => bnd (cnd (msize sz s) (mcells h s) none) fun c =>
      cnd (decide ((0 ≤ i ∧ i.toNat < c.2) ∧ j = i + 1))
        (some (.msl h.length 0 (c.2 - 1) sz, mkill h s ++ [.cells (c.1.take (i.toNat * sz) ++ c.1.drop ((i.toNat + 1) * sz)) []], ⟨[], [], true⟩)) none
  | _, _ => none

def RowAt (w : World) (sz : Nat) (ad : Option Addr) (n cap : Nat) (us : List Value) : Prop :=
  us.length = n * sz ∧ (∀ u ∈ us, u.oneCell' = true) ∧ ((ad = none ∧ n = 0 ∧ cap = 0) ∨ ∃ b cur t, ad = some ⟨b, 0, none⟩ ∧ w.heap[b]? = some (.cells cur t (0, 0)) ∧ cap * sz ≤ cur.size ∧ cur.toList.take (n * sz) = us)
def RowNew (w w' : World) (sz : Nat) (us : List Value) (n : Nat) (u : Value) : Prop :=
  ∃ C row t, u = .slice (some ⟨w.heap.size, 0, none⟩) n C ∧ n ≤ C ∧ w'.heap[w.heap.size]? = some (.cells row t (0, 0)) ∧ C * sz ≤ row.size ∧ row.toList.take (n * sz) = us ∧ w.grownBy w' none ∧ w.drawn ≤ w'.drawn
def RowIn (w w' : World) (sz : Nat) (us : List Value) (n : Nat) (ad : Option Addr) (cap : Nat) (u : Value) : Prop :=
  ∃ b cur t cur', ad = some ⟨b, 0, none⟩ ∧ u = .slice ad n cap ∧ n ≤ cap ∧ w.heap[b]? = some (.cells cur t (0, 0)) ∧ w'.heap[b]? = some (.cells cur' t (0, 0)) ∧ cur'.size = cur.size ∧ cur'.toList.take (n * sz) = us ∧ w.grownBy w' (some b) ∧ w.drawn ≤ w'.drawn
structure InsertAt (P : Program) (f sz bytes : Nat) : Prop where
  pos : 0 < sz
  enters : ∀ args w, (callFunc f args).run P w = .ok (.enter f args) w
  run : ∀ (ad : Option Addr) (n cap i : Nat) (us vs : List Value) (vb vo vc : Nat) (w : World), i ≤ n → n ≤ cap → RowAt w sz ad n cap us → 1 ≤ vc → vs.length = sz → (∀ u ∈ vs, u.oneCell' = true) →
    (∀ (j : Nat) (u : Value), vs[j]? = some u → w.cell? ⟨vb, vo + j, none⟩ = some u) → (∀ b, ad = some ⟨b, 0, none⟩ → vb ≠ b) → (n + 1) * bytes ≤ 140737488355328 →
    Calls P f #[.slice ad n cap, .int .i64 i, .slice (some ⟨vb, vo, none⟩) 1 vc] w fun e w' => ∃ u, e = .returned u ∧
      (RowNew w w' sz (us.take (i * sz) ++ (vs ++ us.drop (i * sz))) (n + 1) u ∨ RowIn w w' sz (us.take (i * sz) ++ (vs ++ us.drop (i * sz))) (n + 1) ad cap u)
structure DeleteAt (P : Program) (f sz : Nat) : Prop where
  pos : 0 < sz
  enters : ∀ args w, (callFunc f args).run P w = .ok (.enter f args) w
  run : ∀ (ad : Option Addr) (n cap i : Nat) (us : List Value) (w : World), i < n → n ≤ cap → RowAt w sz ad n cap us →
    Calls P f #[.slice ad n cap, .int .i64 i, .int .i64 (i + 1)] w fun e w' => ∃ u, e = .returned u ∧ RowIn w w' sz (us.take (i * sz) ++ us.drop ((i + 1) * sz)) (n - 1) ad cap u

section
variable {P : Program} {R : Nat → Option Nat} {h : Heap} {g : Gh} {w : World}
theorem Inv.growI {Dt : Prop} {cx : Cx Dt} {N : Nat} {hb0 : Heap} {S : Ow} {rs : Regs} {fl : Fl} {a : Act} (hi : Inv cx N hb0 S rs h fl g a w) (hpd : S.pd = none) (hla : S.la = []) {w' : World} (hw : w.grownBy w' none) (hd : Dt → w.drawn ≤ w'.drawn) : Inv cx N hb0 S rs h fl g a w' := by
  obtain ⟨hO, hf⟩ := hi.own0 hpd
  have hold : ∀ b, b < w.heap.size → w'.heap[b]? = w.heap[b]? := fun b hb => hw.block b hb (fun e => by cases e)
  refine ⟨⟨hw.os.trans hi.W.os, hw.tape.trans hi.W.tape, hw.output.trans hi.W.out, fun d => Nat.le_trans (hi.W.drn d) (hd d), Nat.le_trans hi.W.hsz hw.size, fun b hb hW => (hold b (Nat.lt_of_lt_of_le hb hi.W.hsz)).trans (hi.W.old b hb hW), fun b hb => (hi.W.wr b hb).imp id fun e => (hold b (Nat.lt_of_lt_of_le hb hi.W.hsz)).trans e⟩,
    hi.G.other hw (fun c e => by cases e) (keep_of_old hold), ⟨none, hO.map (fun p q => p = q) (fun _ _ _ e1 e2 => e1.trans e2.symm) (fun p sz u hp => .inr ⟨p, sz, rfl, ?_, .inl rfl⟩) (fun p q b l e hn => e ▸ hn) (fun q sz u c hq _ hc => ⟨⟨hold c ((hO.own q sz u hq).lt hc), fun _ h => h⟩, fun i hl hm => ⟨hl, hm⟩⟩) (ImmLe.refl _), ⟨hf.al, fun t p hm => by rw [hla] at hm; simp at hm, hf.pd⟩⟩, hi.F⟩
  cases p with
  | reg r off => exact hp
  | cell i j =>
    obtain ⟨cs, own, c, h1, h2, h3, h4, h5⟩ := hp
    exact ⟨cs, own, c, h1, h2, h3, h4, by rw [← cell_same (hold c (hi.G.muW i c h4).1)]; exact h5⟩
theorem rowAt_of (hi : HRead g h w) {v : V} {u : Value} (hv : VR g u v) {cs : List V} {n sz : Nat} (hm : mcells h v = some (cs, n)) (hs : msize sz v = true) :
    ∃ ad cap us, u = .slice ad n cap ∧ n ≤ cap ∧ RowAt w sz ad n cap us ∧ VRs g us cs ∧ cs.all V.isCell = true ∧ ∀ b, ad = some ⟨b, 0, none⟩ → misnil v = false ∧ g.mu (mobj v) = some b := by
  obtain ⟨us, hru, hlu, huu, hallu⟩ := mread hi hv hm (msize_A hs)
  obtain ⟨ad, cap, rfl, hncap, hblk⟩ := mown hi hv hm (msize_A hs)
  rcases hblk with ⟨rfl, rfl, rfl⟩ | ⟨b, lo, rfl, hnn, hmu, hb⟩
  · have : us = [] := List.length_eq_zero_iff.1 (by simpa using hlu)
    subst this
    exact ⟨_, _, [], rfl, Nat.le_refl _, ⟨by simp, by simp, .inl ⟨rfl, rfl, rfl⟩⟩, huu, hallu, fun b e => by cases e⟩
  · obtain ⟨cur, t, rfl, hheap, hfit, hpre⟩ := hb hs
    refine ⟨_, _, cur.toList.take (n * sz), rfl, hncap, ⟨?_, hpre.oneCells hallu, .inr ⟨b, cur, t, rfl, hheap, hfit, rfl⟩⟩, hpre, hallu, fun b' e => by cases e; exact ⟨hnn, hmu⟩⟩
    have : n * sz ≤ cap * sz := Nat.mul_le_mul_right _ hncap
    rw [List.length_take, Array.length_toList]
    omega
theorem row_done (hp : Pre h g w) {own : Option Nat} (hown : own = none) {v : V} {cs : List V} {n0 sz : Nat} (hm : mcells h v = some (cs, n0)) {ad : Option Addr} {cap : Nat} {us0 : List Value} (hrow : RowAt w sz ad n0 cap us0)
    (had : ∀ b, ad = some ⟨b, 0, none⟩ → misnil v = false ∧ g.mu (mobj v) = some b) {w' : World} {us' : List Value} {cs' : List V} {n : Nat} {u : Value} (hcs : VRs g us' cs') (hall : cs'.all V.isCell = true)
    (hd : RowNew w w' sz us' n u ∨ RowIn w w' sz us' n ad cap u) :
    CallPost (calleeCx (Dt := Tracks R) h g w) h own (.msl h.length 0 n sz, mkill h v ++ [.cells cs' []], ⟨[], [], true⟩) u w' := by
  have hi := pre_start (Dt := Tracks R) hp (N := 0) (uargs := #[]) (vargs := []) .nil (by simp)
  obtain ⟨hkl0, hklen, hfree⟩ := hi.offM rfl hm
  have hkl := hkl0.flag (fl' := ⟨[], [], true⟩) rfl (fun b _ => .inl rfl) (fun _ => rfl)
  have hmn : g.mu h.length = none := by
    cases hx : g.mu h.length with
    | none => rfl
    | some c => have := hp.dom _ _ hx; omega
  have fin : ∀ {g' : Gh} (h2 : Inv0 (calleeCx (Dt := Tracks R) h g w) 0 h [] (initR [] 0) (mkill h v ++ [.cells cs' []]) ⟨[], [], true⟩ g' { tmps := #[] ++ Array.replicate (0 - (#[] : Array Value).size) Go.undef, defers := [] } w'), VR g' u (.msl h.length 0 n sz) →
      CallPost (calleeCx (Dt := Tracks R) h g w) h own (.msl h.length 0 n sz, mkill h v ++ [.cells cs' []], ⟨[], [], true⟩) u w' := fun h2 hu => by
    have := fun_end (st := ⟨initR [] 0, mkill h v ++ [.cells cs' []], ⟨[], [], true⟩⟩) hp h2 hu (own := own) (fun sz hs => by rw [hown] at hs; cases hs)
    have e : finishV h.length ⟨initR [] 0, mkill h v ++ [.cells cs' []], ⟨[], [], true⟩⟩ (.msl h.length 0 n sz) = (.msl h.length 0 n sz, mkill h v ++ [.cells cs' []], ⟨[], [], true⟩) := by
      unfold finishV
      simp [V.lt]
    rw [e] at this
    exact this
  rcases hd with ⟨C, row, t, rfl, hnC, hblk, hfit, hpre, hgr, hdr⟩ | ⟨b, cur, t, cur', rfl, rfl, hncap, hheap, hheap', hsize, hpre, hgr, hdr⟩
  · have hle : GLe g (g.addMu h.length w.heap.size) := Gh.addMu_le hmn
    have h1 := hkl.growI rfl rfl hgr (fun _ => hdr)
    have h2 := h1.adopt rfl (b := w.heap.size) (o := .cells cs' []) (Array.getElem?_eq_some_iff.1 hblk).1 (.inl (Nat.le_refl _)) (.inr rfl) (fun i _ hx => by have := hp.muW i _ hx; omega) (fun k => by
        cases hk : g.imm w.heap.size k with
        | none => rfl
        | some x => have h9 : w.heap.size < w.heap.size := cell_lt (hp.hr.imm _ k x hk); omega) (fun q z x hq hx => by
        cases q with
        | reg r off => obtain ⟨hm, _⟩ := hq; simp at hm
        | cell i j =>
          have hq' : Held [] none h g #[] w (.cell i j) z x := by
            obtain ⟨cs2, own2, c, k1, k2, k3, k4, k5⟩ := hq
            refine ⟨cs2, own2, c, ?_, k2, k3, k4, by rw [← cell_same (hgr.block c (hp.muW i c k4) (fun e => by cases e))]; exact k5⟩
            rcases mcells_obj hm with ⟨rfl, _, _⟩ | ⟨_, e2, e3, _⟩
            · exact k1
            · rw [e2] at k1
              by_cases hij : i = mobj v
              · subst hij; rw [hset_at e3] at k1; cases k1
              · rwa [hset_ne hij] at k1
          have := (hp.own _ _ _ hq').lt hx
          omega) (by
        rw [hklen]
        exact ⟨row, t, us', row.toList.drop (n * sz), hblk, by rw [← hpre, List.take_append_drop], hcs.mono hle, hall⟩) (fun cs2 own2 e => by cases e; rfl)
    have h3 := h2.addSiz (b := w.heap.size) (n := C * sz) hblk hfit
    rw [hklen] at h3
    refine fin h3 (.msl (b := w.heap.size) (by simp [Gh.addSiz, Gh.addMu]) hnC ?_)
    have := Gh.addSiz_at (g.addMu h.length w.heap.size) w.heap.size (C * sz)
    omega
  · have hle : GLe g (g.addMu h.length b) := Gh.addMu_le hmn
    obtain ⟨hnn, hmu⟩ := had b rfl
    obtain ⟨f1, f2, f3, f4, f5, _⟩ := hfree b hnn hmu
    have hcap : cap * sz ≤ cur'.size := by
      rcases hrow.2.2 with ⟨e, _, _⟩ | ⟨b2, cur2, t2, e, k1, k2, _⟩
      · cases e
      · cases e
        rw [hheap] at k1; cases k1
        omega
    have hother : ∀ c, c ≠ b → c < w.heap.size → w'.heap[c]? = w.heap[c]? := fun c hc hlt => hgr.block c hlt (fun e => hc (by cases e; rfl))
    have h1 := hkl.rowW rfl rfl f1 (.inr (.inl rfl)) f3 f4 f5 hgr (fun c => by
      by_cases hcb : c = b
      · subst hcb
        intro vs' t' fr' hv'
        rw [hheap] at hv'
        cases hv'
        exact ⟨_, _, _, hheap', by rw [hsize]; exact Nat.le_refl _⟩
      · intro vs' t' fr' hv'
        exact ⟨_, _, _, (hother c hcb (Array.getElem?_eq_some_iff.1 hv').1).trans hv', Nat.le_refl _⟩) hdr
    have h2 := h1.adopt rfl (b := b) (o := .cells cs' []) (Nat.lt_of_lt_of_le f2 hgr.size) f1 (.inr rfl) f3 f5 (fun q z x hq hx => by
        cases q with
        | reg r off => obtain ⟨hm, _⟩ := hq; simp at hm
        | cell i j =>
          refine f4 (.cell i j) z x ?_ hx
          obtain ⟨cs2, own2, c, k1, k2, k3, k4, k5⟩ := hq
          refine ⟨cs2, own2, c, k1, k2, k3, k4, ?_⟩
          rw [← cell_same (hother c (fun e => f3 i ⟨_, k1, rfl⟩ (e ▸ k4)) (hp.muW i c k4))]
          exact k5) (by
        rw [hklen]
        exact ⟨cur', t, us', cur'.toList.drop (n * sz), hheap', by rw [← hpre, List.take_append_drop], hcs.mono hle, hall⟩) (fun cs2 own2 e => by cases e; rfl)
    have h3 := h2.addSiz (b := b) (n := cap * sz) hheap' hcap
    rw [hklen] at h3
    refine fin h3 (.msl (b := b) (by simp [Gh.addSiz, Gh.addMu]) hncap ?_)
    have := Gh.addSiz_at (g.addMu h.length b) b (cap * sz)
    omega
theorem VRs.ins {g : Gh} {us vs : List Value} {cs xs : List V} (h : VRs g us cs) (h' : VRs g vs xs) (k : Nat) : VRs g (us.take k ++ (vs ++ us.drop k)) (cs.take k ++ (xs ++ cs.drop k)) := (h.take k).append (h'.append (h.drop k))
theorem all_sub {p : V → Bool} {cs : List V} (h : cs.all p = true) (k : Nat) : (cs.take k).all p = true ∧ (cs.drop k).all p = true := by
  rw [List.all_eq_true] at h
  exact ⟨List.all_eq_true.2 fun x hx => h x (List.mem_of_mem_take hx), List.all_eq_true.2 fun x hx => h x (List.mem_of_mem_drop hx)⟩
theorem insertP_ok {f sz bytes : Nat} (hS : InsertAt P f sz bytes) (hR : R f = none) : PrimOk P R f (insertP sz bytes) := by
  intro vargs h r hr g w uargs hp hargs
  unfold insertP at hr
  split at hr
  · rename_i s i x
    obtain ⟨c, hc, hr⟩ := bnd_eq_some hr
    obtain ⟨hms, hc⟩ := cnd_eq_some hc
    obtain ⟨hcond, hr⟩ := cnd_eq_some hr
    cases hr
    obtain ⟨cs, n⟩ := c
    obtain ⟨⟨hi0, hin⟩, hbytes, hxl⟩ := of_decide_eq_true hcond
    obtain ⟨us⟩ := uargs
    simp only at hargs
    cases hargs with
    | cons h1 hargs =>
    cases hargs with
    | cons h2 hargs =>
    cases hargs with
    | cons h3 hargs =>
    cases hargs
    rename_i u1 u2 u3
    obtain ⟨vs, hrv, hlv, hcv, _, himm⟩ := sl_reads hp.hr h3 (size := sz) (by simp [sizeOk, hxl])
    obtain ⟨ad, cap, us, rfl, hncap, hrow, hvr, hall, had⟩ := rowAt_of hp.hr h1 hc hms
    have e2 := h2.int_inv
    subst e2
    have hlv' : vs.length = sz := by simpa using hlv
    have hsz := hS.pos
    rcases hrv with ⟨_, e, _⟩ | ⟨_, _, _, e, _⟩ | ⟨vb, vo, vc, rfl, hvc, hcells⟩
    · simp at e
    · simp at e
    · have hflat : [x].flatMap V.flat = x.flat := by simp
      rw [hflat] at hcv
      have hin' : i = ((i.toNat : Nat) : Int) := by omega
      have hone : ∀ u ∈ vs, u.oneCell' = true := hcv.oneCells
      refine .inl ⟨hS.enters _ _, ?_⟩
      have := hS.run ad n cap i.toNat us vs vb vo vc w hin hncap hrow hvc hlv' hone hcells (fun b e => ?_) hbytes
      · rw [← hin'] at this
        refine this.mono fun e w' ⟨u, he, hd⟩ => ⟨u, he, row_done hp hR hc hrow had (hvr.ins hcv.vrs _) ?_ hd⟩
        rw [List.all_append, List.all_append, (all_sub hall _).1, (all_sub hall _).2, hcv.isCells]
        rfl
      · intro e3
        obtain ⟨hnn, hmu⟩ := had b e
        rcases mcells_obj hc with ⟨rfl, _, _⟩ | ⟨_, _, _, hlive⟩
        · cases hnn
        · have k1 := hp.muimm _ b hlive hmu vo
          have hv0 : 0 < vs.length := by omega
          have k2 := himm vb vo 1 vc rfl 0 _ (List.getElem?_eq_getElem hv0)
          rw [e3, Nat.add_zero, k1] at k2
          cases k2
  · cases hr
theorem deleteP_ok {f sz : Nat} (hS : DeleteAt P f sz) (hR : R f = none) : PrimOk P R f (deleteP sz) := by
  intro vargs h r hr g w uargs hp hargs
  unfold deleteP at hr
  split at hr
  · rename_i s i j
    obtain ⟨c, hc, hr⟩ := bnd_eq_some hr
    obtain ⟨hms, hc⟩ := cnd_eq_some hc
    obtain ⟨hcond, hr⟩ := cnd_eq_some hr
    cases hr
    obtain ⟨cs, n⟩ := c
    obtain ⟨⟨hi0, hin⟩, rfl⟩ := of_decide_eq_true hcond
    obtain ⟨us⟩ := uargs
    simp only at hargs
    cases hargs with
    | cons h1 hargs =>
    cases hargs with
    | cons h2 hargs =>
    cases hargs with
    | cons h3 hargs =>
    cases hargs
    rename_i u1 u2 u3
    obtain ⟨ad, cap, us, rfl, hncap, hrow, hvr, hall, had⟩ := rowAt_of hp.hr h1 hc hms
    have e2 := h2.int_inv
    subst e2
    have e3 := h3.int_inv
    subst e3
    have hin' : i = ((i.toNat : Nat) : Int) := by omega
    refine .inl ⟨hS.enters _ _, ?_⟩
    have := hS.run ad n cap i.toNat us w hin hncap hrow
    rw [← hin'] at this
    refine this.mono fun e w' ⟨u, he, hd⟩ => ⟨u, he, row_done hp hR hc hrow had ((hvr.take _).append (hvr.drop _)) ?_ (.inr hd)⟩
    rw [List.all_append, (all_sub hall _).1, (all_sub hall _).2]
    rfl
  · cases hr
end
end Go.Vm

/- The library's own text of 'slices.Insert' and 'slices.Delete' walked, for elements of any number of cells. The walks are after the kit's, for elements of one cell. -/
set_option linter.unusedVariables false
set_option linter.unusedSimpArgs false
namespace Go.Vm
open Go.Shelf Go.RowKit Go.Lib Go.Proofs

structure LaysI (P : Program) (ρ : Ren) (sz bytes : Nat) (z : Value) : Prop where
  mixed : P.follows .mixedOrders = true
  f22 : Bears P (ρ.f 22) (Body2.n22 ρ)
  f24 : Bears P (ρ.f 24) (Body2.n24 ρ)
  f29 : ∀ args w, (callFunc (ρ.f 29) args).run P w = ((Extern.SlicesOverlaps.overlaps #[(ρ.t 24), (ρ.t 24)] #[(ρ.t 4)] args).run P w).andThen fun v w' => .ok (.value v) w'
  t0 : P.underlying (ρ.t 0) = some (TypeDesc.tuple #[])
  a0 : ∀ w, (isAgg (ρ.t 0)).run P w = .ok false w
  z0 : ∀ w, (Go.sizeOf (ρ.t 0)).run P w = .ok 1 w
  v0 : ∀ w, (zeroValue (ρ.t 0)).run P w = .ok (Value.tuple #[]) w
  t3 : P.underlying (ρ.t 3) = some (TypeDesc.int IntKind.i64)
  a3 : ∀ w, (isAgg (ρ.t 3)).run P w = .ok false w
  z3 : ∀ w, (Go.sizeOf (ρ.t 3)).run P w = .ok 1 w
  v3 : ∀ w, (zeroValue (ρ.t 3)).run P w = .ok (Value.int IntKind.i64 0) w
  t4 : P.underlying (ρ.t 4) = some (TypeDesc.bool)
  a4 : ∀ w, (isAgg (ρ.t 4)).run P w = .ok false w
  z4 : ∀ w, (Go.sizeOf (ρ.t 4)).run P w = .ok 1 w
  v4 : ∀ w, (zeroValue (ρ.t 4)).run P w = .ok (Value.bool false) w
  z9 : ∀ w, (Go.sizeOf (ρ.t 9)).run P w = .ok sz w
  v9 : ∀ w, (zeroValue (ρ.t 9)).run P w = .ok z w
  t24 : P.underlying (ρ.t 24) = some (TypeDesc.slice (ρ.t 9))
  a24 : ∀ w, (isAgg (ρ.t 24)).run P w = .ok false w
  z24 : ∀ w, (Go.sizeOf (ρ.t 24)).run P w = .ok 1 w
  v24 : ∀ w, (zeroValue (ρ.t 24)).run P w = .ok (Value.slice none 0 0) w
  i9 : (P.info? (ρ.t 9)).map (fun i => (i.zero, i.size, i.bytes)) = some (some z, sz, bytes)
  zc : z.cells.size = sz
  z1 : ∀ u ∈ z.cells.toList, u.oneCell' = true
  pos : 0 < sz
  posb : 0 < bytes

section
variable {P : Program} {ρ : Ren} {w : World}
theorem wp_copy_r (w : World) {o : Oper} {a : Act} {K : Act → World → Prop} {Q : Exit → Act → World → Prop} (d s : Operand) (t t' : TypeId)
    (ho : o.op = .call { callee := .builtin .copy, args := #[d, s], argTypes := #[t, t'] }) (v u : Value) (hd : a.eval d = v) (hs : a.eval s = u) {v' : Value} {w' : World}
    (hr : (Builtin.copy_ #[t, t'] o.type #[v, u]).run P w = .ok v' w') (h : K (a.put o.dst v') w') : o.wp P a w K Q := by
  unfold Oper.wp execOp
  simp only [ho, resolve, invoke, builtin, Sem.run_bind, Sem.run_pure, Result.andThen_ok, List.map_toArray, List.map_cons, List.map_nil, hd, hs, hr]
  exact h
theorem wpl_copy_r (w : World) {ops : Array Oper} {rest : List Oper} {o : Oper} {a : Act} {Q : Exit → Act → World → Prop} (hgd : o.guard = none) (d s : Operand) (t t' : TypeId)
    (ho : o.op = .call { callee := .builtin .copy, args := #[d, s], argTypes := #[t, t'] }) (v u : Value) (hd : a.eval d = v) (hs : a.eval s = u) {v' : Value} {w' : World}
    (hr : (Builtin.copy_ #[t, t'] o.type #[v, u]).run P w = .ok v' w') (h : wpList P ops Q rest (a.put o.dst v') w') : wpList P ops Q (o :: rest) a w :=
  wpList_plain hgd fun _ hK => wp_copy_r w d s t t' ho v u hd hs hr (hK _ _ h)
theorem step_copy_r {ops : Array Oper} {o : Oper} {a : Act} {w : World} {K : Act → World → Prop} {Q : Exit → Act → World → Prop} {E : Prop}
    (hg : o.guard = none) (d x : Operand) (dT sT : TypeId) (hop : o.op = Op.call { callee := Callee.builtin Builtin.copy, args := #[d, x], argTypes := #[dT, sT] })
    (v u : Value) (hd : a.eval d = v) (hx : a.eval x = u) {v' : Value} {w' : World} (hr : (Builtin.copy_ #[dT, sT] o.type #[v, u]).run P w = .ok v' w') (hK : K (a.put o.dst v') w') :
    if Region.wanted o (yielded ops a.tmps) = true then Oper.wp P o a w K Q else E := by
  have hw : Region.wanted o (yielded ops a.tmps) = true := by simp [Region.wanted, hg]
  rw [if_pos hw]
  unfold Oper.wp
  simp [execOp, hop, resolve, invoke, builtin, hd, hx, hr, Result.andThen]
  exact hK
def laid (cur : Array Value) (k : Nat) (vs : List Value) : Array Value := (cur.toList.take k ++ vs ++ cur.toList.drop (k + vs.length)).toArray
theorem laid_size {cur : Array Value} {k : Nat} {vs : List Value} (h : k + vs.length ≤ cur.size) : (laid cur k vs).size = cur.size := by
  simp [laid]
  omega
theorem run_copy_laid (w : World) (dT sT ty elem : TypeId) {sz : Nat} (hu : P.underlying dT = some (.slice elem)) (hs : ∀ w, (Go.sizeOf elem).run P w = .ok sz w) (b k dLen dCap : Nat) (a : Addr) (sLen sCap m : Nat) (cur : Array Value) (t : TypeId) (vs : List Value)
    (hb : w.heap[b]? = some (.cells cur t (0, 0))) (hm : Nat.min sLen dLen = m) (hl : vs.length = m * sz) (h1 : ∀ u ∈ vs, u.oneCell' = true) (hfit : k + vs.length ≤ cur.size) (hsrc : ∀ (j : Nat) (u : Value), vs[j]? = some u → w.cell? (a.add j) = some u) :
    (Builtin.copy_ #[dT, sT] ty #[.slice (some ⟨b, k, none⟩) dLen dCap, .slice (some a) sLen sCap]).run P w = .ok (goInt m) (w.setRow b (laid cur k vs)) := by
  have h2 := run_firstCells_some (P := P) w sz m a sLen sCap vs hl hsrc
  have h3 := run_storeCells_at P b k t vs 0 cur w hb (by simpa using hfit) h1
  simp only [Nat.add_zero] at h3
  simp [Builtin.copy_, run_underlying hu, hs, Builtin.lenOf, hm, h2, h3, laid]
theorem run_overlaps_plain (w : World) (tS tR e : TypeId) (ht : P.underlying tS = some (.slice e)) (size : Nat) (hz : ∀ w, (Go.sizeOf e).run P w = .ok size w)
    (a b : Addr) (la ca lb cb : Nat) (hne : a.block ≠ b.block) (tA tB : TypeId) (kA kB : Nat)
    (hsa : w.shape? a.block = some (tA, kA)) (hsb : w.shape? b.block = some (tB, kB)) (hkA : kA ≠ 0)
    (hfb : w.frozen? b = false) (hfe : w.frozen? { block := b.block, off := kB } = false) :
    (Extern.SlicesOverlaps.overlaps #[tS, tS] #[tR] #[.slice (some a) la ca, .slice (some b) lb cb]).run P w = .ok (.bool false) w := by
  have hnb : (a.block != b.block) = true := by simpa using hne
  have hnb' : (a.block == b.block) = false := by simpa using hne
  change Sem.run P (α := Value) (do
    let some t := (#[tS, tS] : Array TypeId)[0]? | stuck "slices.overlaps: no parameter types"
    let .slice elem ← underlying t | stuck "slices.overlaps: slice type expected"
    let size ← sizeOf elem
    match (some a : Option Addr), (some b : Option Addr) with
    | some a, some b =>
      if la = 0 ∨ lb = 0 ∨ size = 0 then pure (Value.bool false)
      else if a.block != b.block && (← frozen a) && (← frozen b) then unsupported .addressObserved
      else do
        if a.block != b.block then do
          noView a; noView b
          if ← mayBeOne a b then return Value.bool ((← choose (.extern "sameAddr.stringBytes" 2)) == 1)
        pure (Value.bool (a.block == b.block && a.off < b.off + lb * size && b.off < a.off + la * size))
    | _, _ => pure (Value.bool false)) w = _
  by_cases h0 : la = 0 ∨ lb = 0 ∨ size = 0
  · simp [run_underlying ht, hz, h0]
  · cases kA with
    | zero => exact absurd rfl hkA
    | succ kA =>
      cases hfa : w.frozen? a <;> cases hfa2 : w.frozen? { block := a.block, off := kA + 1 } <;>
      simp [run_underlying ht, hz, h0, hnb, hnb', frozen, noView, viewAt, mayBeOne, stringish, shape, Sem.run, hsa, hsb, hfb, hfe, hfa, hfa2]

set_option maxHeartbeats 4000000 in
set_option maxRecDepth 100000 in
theorem ins_shift {sz bytes : Nat} {z : Value} (L : LaysI P ρ sz bytes z) (b n c i vb voff m vc : Nat) (cur : Array Value) (tt : TypeId) (vs : List Value) (w : World) (hi : i < n) (hm : 0 < m) (hroom : n + m ≤ c) (hbig : n + m ≤ 140737488355328) (hvb : vb ≠ b)
    (hb : w.heap[b]? = some (.cells cur tt (0, 0))) (hcap : c * sz ≤ cur.size) (hvl : vs.length = m * sz) (h1v : ∀ v ∈ vs, v.oneCell' = true) (h1c : ∀ v ∈ (cur.toList.take (n * sz)).drop (i * sz), v.oneCell' = true)
    (hvs : ∀ (j : Nat) (v : Value), vs[j]? = some v → w.cell? ⟨vb, voff + j, none⟩ = some v) :
    Calls P (ρ.f 22) #[.slice (some ⟨b, 0, none⟩) n c, .int .i64 i, .slice (some ⟨vb, voff, none⟩) m vc] w fun e w' =>
      e = .returned (.slice (some ⟨b, 0, none⟩) (n + m) c) ∧ w' = (w.drew.setRow b (laid cur (i * sz + m * sz) ((cur.toList.take (n * sz)).drop (i * sz)))).setRow b (laid (laid cur (i * sz + m * sz) ((cur.toList.take (n * sz)).drop (i * sz))) (i * sz) vs) := by
  have t0 := L.t0; have a0 := L.a0; have z0 := L.z0; have v0 := L.v0; have t3 := L.t3; have a3 := L.a3; have z3 := L.z3; have v3 := L.v3; have t4 := L.t4; have a4 := L.a4; have z4 := L.z4; have v4 := L.v4; have z9 := L.z9; have v9 := L.v9; have t24 := L.t24; have a24 := L.a24; have z24 := L.z24; have v24 := L.v24
  have u0 := run_underlying L.t0; have u3 := run_underlying L.t3; have u4 := run_underlying L.t4; have u24 := run_underlying L.t24
  have hpos := L.pos
  have hz1 : ¬ ((m : Int) = 0) := by omega
  have hz2 : ¬ ((i : Int) = (n : Int)) := by omega
  have hnc : (n + m) * sz ≤ c * sz := Nat.mul_le_mul_right _ hroom
  have hin' : (i + m) * sz ≤ (n + m) * sz := Nat.mul_le_mul_right _ (by omega)
  have hexp : (n + m) * sz = n * sz + m * sz := Nat.add_mul _ _ _
  have hexp2 : (i + m) * sz = i * sz + m * sz := Nat.add_mul _ _ _
  have hile : i * sz ≤ n * sz := Nat.mul_le_mul_right _ (by omega)
  have hmp : 0 < m * sz := Nat.mul_pos hm hpos
  have hvw : vb < w.heap.size := block_lt_of_cell (hvs 0 _ (List.getElem?_eq_getElem (by omega)))
  obtain ⟨tA, kA, hsa, hkA⟩ : ∃ tA kA, w.shape? vb = some (tA, kA) ∧ kA ≠ 0 := by
    have h0 := hvs 0 _ (List.getElem?_eq_getElem (by omega))
    simp only [World.cell?] at h0
    split at h0
    · rename_i cs ty fr hh
      refine ⟨ty, cs.size, by simp [World.shape?, hh], fun e => ?_⟩
      simp at h0
      have := (Array.getElem?_eq_some_iff.1 h0).1
      omega
    · cases h0
  have hsb : w.shape? b = some (tt, cur.size) := by simp [World.shape?, hb]
  have hfb : ∀ k, w.frozen? ⟨b, k, none⟩ = false := fun k => by simp [World.frozen?, hb]
  have hov : ∀ lb cb, (callFunc (ρ.f 29) #[.slice (some ⟨vb, voff, none⟩) m vc, .slice (some ⟨b, i * sz + m * sz, none⟩) lb cb]).run P w = .ok (.value (.bool false)) w := fun lb cb => by
    rw [L.f29, run_overlaps_plain w (ρ.t 24) (ρ.t 4) (ρ.t 9) L.t24 sz L.z9 ⟨vb, voff, none⟩ ⟨b, i * sz + m * sz, none⟩ m vc lb cb hvb tA tt kA cur.size hsa hsb hkA (hfb _) (hfb _)]
    rfl
  have hsl : ((cur.toList.take (n * sz)).drop (i * sz)).length = (n - i) * sz := by
    rw [List.length_drop, List.length_take, Array.length_toList, Nat.sub_mul]
    omega
  obtain ⟨seg, hseg⟩ : ∃ seg, seg = (cur.toList.take (n * sz)).drop (i * sz) := ⟨_, rfl⟩
  have hget : ∀ (j : Nat) (u : Value), seg[j]? = some u → w.cell? ⟨b, i * sz + j, none⟩ = some u := fun j u hj => by
    rw [hseg, List.getElem?_drop, List.getElem?_take] at hj
    split at hj
    · simp only [World.cell?, hb]
      simpa using hj
    · cases hj
  rw [← hseg] at hsl h1c ⊢
  have hnm : (n - i) * sz + (i + m) * sz = (n + m) * sz := by rw [← Nat.add_mul]; congr 1; omega
  have mixed := L.mixed
  have hw1 : IntKind.i64.wrap ((i : Int) + (m : Int)) = (i : Int) + (m : Int) := by rw [IntKind.wrap_i64]; omega
  have hw2 : IntKind.i64.wrap ((n : Int) + (m : Int)) = (n : Int) + (m : Int) := by rw [IntKind.wrap_i64]; omega
  have hb1 : (0 : Int) ≤ (i : Int) + (m : Int) := by omega
  have hin : i ≤ n := by omega
  have htn : ((i : Int) + (m : Int)).toNat = i + m := by omega
  have hb2 : ¬ (c = i + m) := by omega
  have hb3 : (i : Int) ≤ (n : Int) + (m : Int) := by omega
  have hb4 : ¬ (c = i) := by omega
  obtain ⟨row1, hrow1⟩ : ∃ row1, row1 = laid cur (i * sz + m * sz) seg := ⟨_, rfl⟩
  have hrs : row1.size = cur.size := by rw [hrow1, laid_size (by omega)]
  have hcp1 : ∀ ty dc sc, (Builtin.copy_ #[(ρ.t 24), (ρ.t 24)] ty #[.slice (some ⟨b, i * sz + m * sz, none⟩) (n + m - (i + m)) dc, .slice (some ⟨b, i * sz, none⟩) (n + m - i) sc]).run P w.drew = .ok (goInt ((n - i : Nat) : Int)) (w.drew.setRow b row1) := fun ty dc sc => by
    rw [hrow1]
    exact run_copy_laid w.drew _ _ ty (ρ.t 9) L.t24 L.z9 b (i * sz + m * sz) (n + m - (i + m)) dc ⟨b, i * sz, none⟩ (n + m - i) sc (n - i) cur tt seg hb (by simp only [Nat.min_def]; split <;> omega) hsl h1c (by omega) (fun j u hj => by rw [Addr.add_lit]; exact hget j u hj)
  obtain ⟨W1, hW1⟩ : ∃ W1, W1 = w.drew.setRow b row1 := ⟨_, rfl⟩
  have hb5 : W1.heap[b]? = some (.cells row1 tt (0, 0)) := by rw [hW1]; exact setRow_heap w.drew b cur row1 tt (0, 0) hb
  have hcp2 : ∀ (W : World), W.heap = W1.heap → ∀ ty dc, (Builtin.copy_ #[(ρ.t 24), (ρ.t 24)] ty #[.slice (some ⟨b, i * sz, none⟩) (n + m - i) dc, .slice (some ⟨vb, voff, none⟩) m vc]).run P W = .ok (goInt m) (W.setRow b (laid row1 (i * sz) vs)) := fun W hWh ty dc =>
    run_copy_laid W _ _ ty (ρ.t 9) L.t24 L.z9 b (i * sz) (n + m - i) dc ⟨vb, voff, none⟩ m vc m row1 tt vs (by rw [hWh]; exact hb5) (by simp only [Nat.min_def]; split <;> omega) hvl h1v (by omega) (fun j u hj => by
      rw [Addr.add_lit]
      have := hvs j u hj
      have e : W.heap[vb]? = w.heap[vb]? := by rw [hWh, hW1]; exact setRow_other w.drew b vb _ hvb
      simpa [World.cell?, e] using this)
  rw [← hrow1, ← hW1]
  rw [← hW1] at hcp1
  clear hrow1 hseg
  obtain ⟨_, _, FG⟩ := L.f22
  go_enter FG, Body2.n22_ntmps ρ
  go_wp2_with (simp only [hov])
  go_region_law_o (refine step_copy_r rfl _ _ (ρ.t 24) (ρ.t 24) rfl _ _ (by simp [Act.eval, Act.put]) (by simp [Act.eval, Act.put]) (hcp1 _ _ _) ?_)
  go_wp2_with (at_builtin; refine wpl_copy_r _ rfl _ _ (ρ.t 24) (ρ.t 24) rfl _ _ rfl rfl (hcp2 _ rfl _ _) ?_)
  go_ret
  exact ⟨rfl, by rw [hW1]⟩

set_option maxHeartbeats 4000000 in
set_option maxRecDepth 100000 in
theorem ins_end {sz bytes : Nat} {z : Value} (L : LaysI P ρ sz bytes z) (base : Option Addr) (n c vb voff m vc : Nat) (w w1 : World) (v1 : Value) (hm : 0 < m)
    (hr : ∀ ty, (Builtin.append_ #[(ρ.t 24), (ρ.t 24)] ty #[.slice base n c, .slice (some ⟨vb, voff, none⟩) m vc]).run P w = .ok v1 w1) :
    Calls P (ρ.f 22) #[.slice base n c, .int .i64 n, .slice (some ⟨vb, voff, none⟩) m vc] w fun e w' => e = .returned v1 ∧ w' = w1 := by
  have t0 := L.t0; have a0 := L.a0; have z0 := L.z0; have v0 := L.v0; have t3 := L.t3; have a3 := L.a3; have z3 := L.z3; have v3 := L.v3; have t4 := L.t4; have a4 := L.a4; have z4 := L.z4; have v4 := L.v4; have z9 := L.z9; have v9 := L.v9; have t24 := L.t24; have a24 := L.a24; have z24 := L.z24; have v24 := L.v24
  have u0 := run_underlying L.t0; have u3 := run_underlying L.t3; have u4 := run_underlying L.t4; have u24 := run_underlying L.t24
  have mixed := L.mixed
  have hz1 : ¬ ((m : Int) = 0) := by omega
  obtain ⟨_, _, FG⟩ := L.f22
  go_enter FG, Body2.n22_ntmps ρ
  go_wp2_with (at_builtin; refine Lib.wpList_append_run _ rfl _ _ _ _ rfl _ _ rfl rfl _ _ (hr _) ?_)
  all_goals (go_ret; exact ⟨rfl, rfl⟩)

set_option maxHeartbeats 4000000 in
set_option maxRecDepth 100000 in
theorem ins_grow {sz bytes : Nat} {z : Value} (L : LaysI P ρ sz bytes z) (b n c i vb voff m vc : Nat) (cur : Array Value) (tt : TypeId) (vs : List Value) (w : World) (hi : i < n) (hm : 0 < m) (hnc : n ≤ c) (hroom : c < n + m) (hbig : (n + m) * bytes ≤ 140737488355328)
    (hb : w.heap[b]? = some (.cells cur tt (0, 0))) (hcap : c * sz ≤ cur.size) (hvl : vs.length = m * sz) (h1v : ∀ v ∈ vs, v.oneCell' = true) (h1c : ∀ v ∈ (cur.toList.take (n * sz)).drop (i * sz), v.oneCell' = true)
    (hvs : ∀ (j : Nat) (v : Value), vs[j]? = some v → w.cell? ⟨vb, voff + j, none⟩ = some v) :
    Calls P (ρ.f 22) #[.slice (some ⟨b, 0, none⟩) n c, .int .i64 i, .slice (some ⟨vb, voff, none⟩) m vc] w fun e w' => ∃ G ROW, G = grownCap w (n + m) c (ρ.t 9) ∧ ROW = (cur.toList.take (i * sz)).toArray ++ Builtin.zeroCells z.cells (n + m - i) ++ Builtin.zeroCells z.cells (G - (n + m)) ∧
      e = .returned (.slice (some ⟨w.heap.size, 0, none⟩) (n + m) G) ∧
      w' = (((w.alloc (.cells ROW (ρ.t 9))).drew.setRow w.heap.size (laid ROW (i * sz) vs)).drew).setRow w.heap.size (laid (laid ROW (i * sz) vs) (i * sz + m * sz) ((cur.toList.take (n * sz)).drop (i * sz))) := by
  have t0 := L.t0; have a0 := L.a0; have z0 := L.z0; have v0 := L.v0; have t3 := L.t3; have a3 := L.a3; have z3 := L.z3; have v3 := L.v3; have t4 := L.t4; have a4 := L.a4; have z4 := L.z4; have v4 := L.v4; have z9 := L.z9; have v9 := L.v9; have t24 := L.t24; have a24 := L.a24; have z24 := L.z24; have v24 := L.v24
  have u0 := run_underlying L.t0; have u3 := run_underlying L.t3; have u4 := run_underlying L.t4; have u24 := run_underlying L.t24
  have mixed := L.mixed
  have hpos := L.pos
  have hposb := L.posb
  obtain ⟨i0, hi0, hz0, hzs, hzb⟩ := info_parts L.i9
  have hz1 : ¬ ((m : Int) = 0) := by omega
  have hz2 : ¬ ((i : Int) = (n : Int)) := by omega
  have hz3 : (c : Int) < (n : Int) + (m : Int) := by omega
  have hbw : b < w.heap.size := (Array.getElem?_eq_some_iff.1 hb).1
  have hncs : n * sz ≤ c * sz := Nat.mul_le_mul_right _ hnc
  have hile : i * sz ≤ n * sz := Nat.mul_le_mul_right _ (by omega)
  have hmp : 0 < m * sz := Nat.mul_pos hm hpos
  have hvw : vb < w.heap.size := block_lt_of_cell (hvs 0 _ (List.getElem?_eq_getElem (by omega)))
  have hkk : (n : Int) + (m : Int) - (i : Int) = ((n + m - i : Nat) : Int) := by omega
  have hik : i + (n + m - i) = n + m := by omega
  have hbig1 : (n + m) * 1 ≤ (n + m) * bytes := Nat.mul_le_mul_left _ hposb
  have hbig2 : (n + m - i) * bytes ≤ (n + m) * bytes := Nat.mul_le_mul_right _ (by omega)
  have hold : (Builtin.firstCells i0.size i (.slice (some ⟨b, 0, none⟩) i c)).run P w.drew = .ok (cur.toList.take (i * sz)).toArray w.drew := by
    rw [hzs]
    exact run_firstCells_some w.drew sz i ⟨b, 0, none⟩ i c (cur.toList.take (i * sz)) (by rw [List.length_take, Array.length_toList]; omega) (fun j v hj => by
      rw [Addr.add_lit, Nat.zero_add]
      rw [List.getElem?_take] at hj
      split at hj
      · show w.cell? _ = _
        simp only [World.cell?, hb]
        simpa using hj
      · cases hj)
  have hrz : ∀ ty, (Builtin.append_ #[(ρ.t 24), (ρ.t 3)] ty #[.slice (some ⟨b, 0, none⟩) i c, .int .i64 ((n : Int) + (m : Int) - (i : Int))]).run P w =
      .ok (.slice (some ⟨w.heap.size, 0, none⟩) (n + m) (grownCap w (n + m) c (ρ.t 9))) (w.drew.alloc (.cells ((cur.toList.take (i * sz)).toArray ++ Builtin.zeroCells z.cells (n + m - i) ++ Builtin.zeroCells z.cells (grownCap w (n + m) c (ρ.t 9) - (n + m))) (ρ.t 9))) := fun ty => by
    have h := Lib.run_append_grow_zeros w (ρ.t 24) (ρ.t 3) ty (ρ.t 9) i0 _ .i64 .i64 L.t24 L.t3 hi0 hz0 (some ⟨b, 0, none⟩) i c (cur.toList.take (i * sz)) hold (n + m - i) (by omega) (by omega) (by omega) (by omega) (by rw [hzb]; omega) (by rw [hzb, hik]; exact growslice_fits hroom hbig)
    rw [hik] at h
    rw [hkk]
    exact h
  obtain ⟨G, hG⟩ : ∃ G, G = grownCap w (n + m) c (ρ.t 9) := ⟨_, rfl⟩
  obtain ⟨ROW, hROW⟩ : ∃ ROW : Array Value, ROW = (cur.toList.take (i * sz)).toArray ++ Builtin.zeroCells z.cells (n + m - i) ++ Builtin.zeroCells z.cells (G - (n + m)) := ⟨_, rfl⟩
  rw [← hG] at hrz
  rw [← hROW] at hrz
  have hGn : n + m ≤ G := by rw [hG]; exact grownCap_ge w _ _ _
  have hRs : ROW.size = G * sz := by
    rw [hROW]
    simp only [Array.size_append, List.size_toArray, size_zeroCells, L.zc, List.length_take, Array.length_toList]
    rw [Nat.min_eq_left (by omega), ← Nat.add_mul, ← Nat.add_mul]
    congr 1
    omega
  have hGs : (n + m) * sz ≤ G * sz := Nat.mul_le_mul_right _ hGn
  have hexp : (n + m) * sz = n * sz + m * sz := Nat.add_mul _ _ _
  obtain ⟨W1, hW1⟩ : ∃ W1, W1 = w.drew.alloc (.cells ROW (ρ.t 9)) := ⟨_, rfl⟩
  rw [← hW1] at hrz
  have hnew : W1.heap[w.heap.size]? = some (.cells ROW (ρ.t 9) (0, 0)) := by rw [hW1]; exact heap_alloc_new w.drew _
  have hOb : ∀ k, k < w.heap.size → W1.heap[k]? = w.heap[k]? := fun k hk => by rw [hW1]; exact heap_alloc_old w.drew _ hk
  obtain ⟨seg, hseg⟩ : ∃ seg, seg = (cur.toList.take (n * sz)).drop (i * sz) := ⟨_, rfl⟩
  have hsl : seg.length = (n - i) * sz := by
    rw [hseg, List.length_drop, List.length_take, Array.length_toList, Nat.sub_mul]
    omega
  have hget : ∀ (j : Nat) (u : Value), seg[j]? = some u → w.cell? ⟨b, i * sz + j, none⟩ = some u := fun j u hj => by
    rw [hseg, List.getElem?_drop, List.getElem?_take] at hj
    split at hj
    · simp only [World.cell?, hb]
      simpa using hj
    · cases hj
  rw [← hseg] at h1c ⊢
  have hnm : (n - i) * sz + i * sz = n * sz := by rw [← Nat.add_mul]; congr 1; omega
  obtain ⟨row1, hrow1⟩ : ∃ row1, row1 = laid ROW (i * sz) vs := ⟨_, rfl⟩
  have hrs : row1.size = ROW.size := by rw [hrow1, laid_size (by omega)]
  have hcpA : ∀ (W : World), W.heap = W1.heap → ∀ ty dc, (Builtin.copy_ #[(ρ.t 24), (ρ.t 24)] ty #[.slice (some ⟨w.heap.size, i * sz, none⟩) (n + m - i) dc, .slice (some ⟨vb, voff, none⟩) m vc]).run P W = .ok (goInt m) (W.setRow w.heap.size row1) := fun W hWh ty dc => by
    rw [hrow1]
    exact run_copy_laid W _ _ ty (ρ.t 9) L.t24 L.z9 w.heap.size (i * sz) (n + m - i) dc ⟨vb, voff, none⟩ m vc m ROW (ρ.t 9) vs (by rw [hWh]; exact hnew) (by simp only [Nat.min_def]; split <;> omega) hvl h1v (by omega) (fun j u hj => by
      rw [Addr.add_lit]
      have := hvs j u hj
      have e : W.heap[vb]? = w.heap[vb]? := by rw [hWh]; exact hOb vb hvw
      simpa [World.cell?, e] using this)
  obtain ⟨W2, hW2⟩ : ∃ W2, W2 = W1.setRow w.heap.size row1 := ⟨_, rfl⟩
  have hnew2 : W2.heap[w.heap.size]? = some (.cells row1 (ρ.t 9) (0, 0)) := by rw [hW2]; exact setRow_heap W1 w.heap.size ROW row1 (ρ.t 9) (0, 0) hnew
  have hcpB : ∀ (W : World), W.heap = W2.heap → ∀ ty dc sc, (Builtin.copy_ #[(ρ.t 24), (ρ.t 24)] ty #[.slice (some ⟨w.heap.size, i * sz + m * sz, none⟩) (n + m - (i + m)) dc, .slice (some ⟨b, i * sz, none⟩) (n - i) sc]).run P W = .ok (goInt ((n - i : Nat) : Int)) (W.setRow w.heap.size (laid row1 (i * sz + m * sz) seg)) := fun W hWh ty dc sc =>
    run_copy_laid W _ _ ty (ρ.t 9) L.t24 L.z9 w.heap.size (i * sz + m * sz) (n + m - (i + m)) dc ⟨b, i * sz, none⟩ (n - i) sc (n - i) row1 (ρ.t 9) seg (by rw [hWh]; exact hnew2) (by simp only [Nat.min_def]; split <;> omega) hsl h1c (by omega) (fun j u hj => by
      rw [Addr.add_lit]
      have := hget j u hj
      have e : W.heap[b]? = w.heap[b]? := by rw [hWh, hW2, setRow_other W1 w.heap.size b _ (by omega)]; exact hOb b hbw
      simpa [World.cell?, e] using this)
  have hw1 : IntKind.i64.wrap ((i : Int) + (m : Int)) = (i : Int) + (m : Int) := by rw [IntKind.wrap_i64]; omega
  have hw2 : IntKind.i64.wrap ((n : Int) + (m : Int)) = (n : Int) + (m : Int) := by rw [IntKind.wrap_i64]; omega
  have hb1 : (0 : Int) ≤ (i : Int) + (m : Int) := by omega
  have hin : i ≤ n := by omega
  have htn : ((i : Int) + (m : Int)).toNat = i + m := by omega
  have hGi : ¬ (G = i) := by omega
  have hGim : ¬ (G = i + m) := by omega
  have hci : ¬ (c = i) := by omega
  have hb3 : (i : Int) ≤ (n : Int) := by omega
  refine Calls.mono (R := fun e w' => e = .returned (.slice (some ⟨w.heap.size, 0, none⟩) (n + m) G) ∧ w' = (((w.alloc (.cells ROW (ρ.t 9))).drew.setRow w.heap.size row1).drew).setRow w.heap.size (laid row1 (i * sz + m * sz) seg)) ?_ (fun e w' ⟨h1, h2⟩ => ⟨G, ROW, hG, hROW, h1, by rw [h2, hrow1]⟩)
  subst hW2
  subst hW1
  have hE1 : ((w.alloc (.cells ROW (ρ.t 9))).drew).heap = (w.drew.alloc (.cells ROW (ρ.t 9))).heap := rfl
  have hF1 : (((w.alloc (.cells ROW (ρ.t 9))).drew.setRow w.heap.size row1).drew).heap = ((w.drew.alloc (.cells ROW (ρ.t 9))).setRow w.heap.size row1).heap := rfl
  clear hkk hik hold hROW hG hrow1 hseg
  obtain ⟨_, _, FG⟩ := L.f22
  go_enter FG, Body2.n22_ntmps ρ
  go_wp2_with (first
    | (at_builtin; refine Lib.wpList_append_run _ rfl _ _ _ _ rfl _ _ rfl rfl _ _ (hrz _) ?_)
    | (at_builtin; refine wpl_copy_r _ rfl _ _ (ρ.t 24) (ρ.t 24) rfl _ _ rfl rfl (hcpA _ hE1 _ _) ?_)
    | (at_builtin; refine wpl_copy_r _ rfl _ _ (ρ.t 24) (ρ.t 24) rfl _ _ rfl rfl (hcpB _ rfl _ _ _) ?_))
  go_region_law_o (refine step_copy_r rfl _ _ (ρ.t 24) (ρ.t 24) rfl (.slice (some ⟨w.heap.size, i * sz + m * sz, none⟩) (n + m - (i + m)) (G - (i + m))) (.slice (some ⟨b, i * sz, none⟩) (n - i) (c - i)) (by simp [Act.eval, Act.put, Nat.add_mul]) (by simp [Act.eval, Act.put]) (hcpB _ hF1 (ρ.t 3) (G - (i + m)) (c - i)) ?_)
  go_wp2
  go_ret
  exact ⟨rfl, rfl⟩
theorem step_append_r {ops : Array Oper} {o : Oper} {a : Act} {w : World} {K : Act → World → Prop} {Q : Exit → Act → World → Prop} {E : Prop}
    (hg : o.guard = none) (d x : Operand) (dT sT : TypeId) (hop : o.op = Op.call { callee := Callee.builtin Builtin.append, args := #[d, x], argTypes := #[dT, sT] })
    (v u : Value) (hd : a.eval d = v) (hx : a.eval x = u) {v' : Value} {w' : World} (hr : (Builtin.append_ #[dT, sT] o.type #[v, u]).run P w = .ok v' w') (hK : K (a.put o.dst v') w') :
    if Region.wanted o (yielded ops a.tmps) = true then Oper.wp P o a w K Q else E := by
  have hw : Region.wanted o (yielded ops a.tmps) = true := by simp [Region.wanted, hg]
  rw [if_pos hw]
  unfold Oper.wp
  simp [execOp, hop, resolve, invoke, builtin, hd, hx, hr, Result.andThen]
  exact hK
theorem run_clear_laid (w : World) (t ty e : TypeId) {z : Value} (ht : P.underlying t = some (.slice e)) (hv : (zeroValue e).run P w = .ok z w) (h1 : ∀ u ∈ z.cells.toList, u.oneCell' = true) (b off n c : Nat) (hn : 0 < n) {us : Array Value} {tt : TypeId}
    (hheap : w.heap[b]? = some (.cells us tt (0, 0))) (hfit : off + n * z.cells.size ≤ us.size) :
    (Builtin.clear_ #[t] ty #[.slice (some ⟨b, off, none⟩) n c]).run P w = .ok (.tuple #[]) (w.setRow b (laid us off (List.replicate n z.cells.toList).flatten)) := by
  have hlen : (List.replicate n z.cells.toList).flatten.length = n * z.cells.size := by simp
  have hrow := run_storeCells_at P b off tt (List.replicate n z.cells.toList).flatten 0 us w hheap (by rw [hlen]; omega) (fun u hu => by
    obtain ⟨l, hl, hu⟩ := List.mem_flatten.1 hu
    rw [List.eq_of_mem_replicate hl] at hu
    exact h1 u hu)
  simp only [Nat.add_zero] at hrow
  obtain ⟨m, rfl⟩ : ∃ m, n = m + 1 := ⟨n - 1, by omega⟩
  simp [Builtin.clear_, run_underlying ht, hv, zeroCells_list, hrow, Result.andThen, laid]

set_option maxHeartbeats 4000000 in
set_option maxRecDepth 1000000 in
theorem del_walk {sz bytes : Nat} {z : Value} (L : LaysI P ρ sz bytes z) (b n cap i j : Nat) (cur : Array Value) (tt : TypeId) (w : World) (hij : i < j) (hj : j ≤ n) (hnc : n ≤ cap)
    (hb : w.heap[b]? = some (.cells cur tt (0, 0))) (hcap : cap * sz ≤ cur.size) (h1c : ∀ v ∈ (cur.toList.take (n * sz)).drop (j * sz), v.oneCell' = true) :
    Calls P (ρ.f 24) #[.slice (some ⟨b, 0, none⟩) n cap, .int .i64 i, .int .i64 j] w fun e w' => e = .returned (.slice (some ⟨b, 0, none⟩) (i + (n - j)) cap) ∧
      w' = (w.drew.setRow b (laid cur (i * sz) ((cur.toList.take (n * sz)).drop (j * sz)))).setRow b (laid (laid cur (i * sz) ((cur.toList.take (n * sz)).drop (j * sz))) ((i + (n - j)) * sz) (List.replicate (n - (i + (n - j))) z.cells.toList).flatten) := by
  have t0 := L.t0; have a0 := L.a0; have z0 := L.z0; have v0 := L.v0; have t3 := L.t3; have a3 := L.a3; have z3 := L.z3; have v3 := L.v3; have t4 := L.t4; have a4 := L.a4; have z4 := L.z4; have v4 := L.v4; have z9 := L.z9; have v9 := L.v9; have t24 := L.t24; have a24 := L.a24; have z24 := L.z24; have v24 := L.v24
  have mixed := L.mixed
  obtain ⟨i0, hi0, hz0, hzs, hzb⟩ := info_parts L.i9
  have hpos := L.pos
  have hncs : n * sz ≤ cap * sz := Nat.mul_le_mul_right _ hnc
  have hjs : j * sz ≤ n * sz := Nat.mul_le_mul_right _ hj
  have his : i * sz ≤ j * sz := Nat.mul_le_mul_right _ (by omega)
  have hnj : (n - j) * sz + j * sz = n * sz := by rw [← Nat.add_mul]; congr 1; omega
  have hbw : b < w.heap.size := (Array.getElem?_eq_some_iff.1 hb).1
  obtain ⟨seg, hseg⟩ : ∃ seg, seg = (cur.toList.take (n * sz)).drop (j * sz) := ⟨_, rfl⟩
  have hsl : seg.length = (n - j) * sz := by
    rw [hseg, List.length_drop, List.length_take, Array.length_toList, Nat.sub_mul]
    omega
  have hget : ∀ (k : Nat) (u : Value), seg[k]? = some u → w.cell? ⟨b, j * sz + k, none⟩ = some u := fun k u hk => by
    rw [hseg, List.getElem?_drop, List.getElem?_take] at hk
    split at hk
    · simp only [World.cell?, hb]
      simpa using hk
    · cases hk
  rw [← hseg] at h1c ⊢
  obtain ⟨A, hA, hrd⟩ : ∃ A : Addr, (if cap = j then some (⟨b, 0, none⟩ : Addr) else some ⟨b, j * sz, none⟩) = some A ∧ Reads w.drew (.slice (some A) (n - j) (cap - j)) (n - j) seg := by
    by_cases h : cap = j
    · refine ⟨⟨b, 0, none⟩, by simp [h], .inr (.inr ⟨b, 0, cap - j, rfl, by omega, fun k u hk => ?_⟩)⟩
      have h0 : n - j = 0 := by omega
      have : seg = [] := List.length_eq_zero_iff.1 (by rw [hsl, h0, Nat.zero_mul])
      rw [this] at hk
      simp at hk
    · exact ⟨⟨b, j * sz, none⟩, by simp [h], .inr (.inr ⟨b, j * sz, cap - j, rfl, by omega, fun k u hk => hget k u hk⟩)⟩
  obtain ⟨row1, hrow1⟩ : ∃ row1, row1 = laid cur (i * sz) seg := ⟨_, rfl⟩
  have hrs : row1.size = cur.size := by rw [hrow1, laid_size (by omega)]
  have happ : ∀ ty, (Builtin.append_ #[(ρ.t 24), (ρ.t 24)] ty #[.slice (some ⟨b, 0, none⟩) i cap, .slice (some A) (n - j) (cap - j)]).run P w.drew = .ok (.slice (some ⟨b, 0, none⟩) (i + (n - j)) cap) (w.drew.setRow b row1) := fun ty => by
    have := app_run_room (P := P) (w := w.drew) (ty := ty) L.t24 hi0 b i cap (n - j) hb hrd (by rw [hzs, hsl]) h1c (by omega) (by rw [hzs]; omega)
    rw [hzs] at this
    rw [hrow1]
    exact this
  obtain ⟨W1, hW1⟩ : ∃ W1, W1 = w.drew.setRow b row1 := ⟨_, rfl⟩
  have hb1 : W1.heap[b]? = some (.cells row1 tt (0, 0)) := by rw [hW1]; exact setRow_heap w.drew b cur row1 tt (0, 0) hb
  have hk : (n - (i + (n - j))) * sz + (i + (n - j)) * sz = n * sz := by rw [← Nat.add_mul]; congr 1; omega
  have hcl : ∀ ty, (Builtin.clear_ #[ρ.t 24] ty #[.slice (some ⟨b, (i + (n - j)) * sz, none⟩) (n - (i + (n - j))) (cap - (i + (n - j)))]).run P W1 = .ok (.tuple #[]) (W1.setRow b (laid row1 ((i + (n - j)) * sz) (List.replicate (n - (i + (n - j))) z.cells.toList).flatten)) := fun ty =>
    run_clear_laid W1 _ ty _ L.t24 (L.v9 _) L.z1 b _ _ _ (by omega) hb1 (by rw [L.zc]; omega)
  rw [← hW1] at happ
  have hic : i ≤ cap := by omega
  have hjc : j ≤ cap := by omega
  have hz1 : ¬ ((i : Int) = (j : Int)) := by omega
  have hz2 : ¬ (cap = i + (n - j)) := by omega
  have hz3 : ¬ (cap = i) := by omega
  rw [← hrow1]
  refine Calls.mono (R := fun e w' => e = .returned (.slice (some ⟨b, 0, none⟩) (i + (n - j)) cap) ∧ w' = W1.setRow b (laid row1 ((i + (n - j)) * sz) (List.replicate (n - (i + (n - j))) z.cells.toList).flatten)) ?_ (fun e w' ⟨h1, h2⟩ => ⟨h1, by rw [h2, hW1]⟩)
  clear hW1 hget hrow1 hseg
  obtain ⟨_, _, FG⟩ := L.f24
  go_enter FG, Body2.n24_ntmps ρ
  go_wp2_with fail
  go_region_law_o (refine step_append_r rfl _ _ (ρ.t 24) (ρ.t 24) rfl (.slice (some ⟨b, 0, none⟩) i cap) (.slice (some A) (n - j) (cap - j)) (by simp [Act.eval, Act.put]) (by simp [Act.eval, Act.put]) (happ _) ?_)
  go_wp2
  all_goals (go_ret; exact ⟨rfl, rfl⟩)
end
end Go.Vm

/- 'slices.Insert' and 'slices.Delete' at a program: what the machine is told of them holds. -/
set_option linter.unusedVariables false
set_option linter.unusedSimpArgs false
namespace Go.Vm
open Go.Shelf Go.RowKit Go.Lib Go.Proofs

theorem take_of_pre {α : Type} {l a b : List α} {n : Nat} (h : l = a ++ b) (hn : n = a.length) : l.take n = a := by rw [h, hn]; simp
theorem laid_list (cur : Array Value) (k : Nat) (vs : List Value) : (laid cur k vs).toList = cur.toList.take k ++ vs ++ cur.toList.drop (k + vs.length) := by simp [laid]
section
variable {P : Program} {ρ : Ren} {sz bytes : Nat} {z : Value}
theorem grown_alloc (w : World) (o : Go.Obj) : w.grownBy (w.drew.alloc o) none ∧ w.drawn ≤ (w.drew.alloc o).drawn :=
  ⟨⟨rfl, rfl, rfl, by simp, fun k hk _ => heap_alloc_old w.drew _ hk⟩, Nat.le_succ _⟩
theorem insertAt_of (L : LaysI P ρ sz bytes z) (he : ∀ args w, (callFunc (ρ.f 22) args).run P w = .ok (.enter (ρ.f 22) args) w) : InsertAt P (ρ.f 22) sz bytes where
  pos := L.pos
  enters := he
  run := by
    intro ad n cap i us vs vb vo vc w hin hnc hrow hvc hvl h1v hvs hvb hbytes
    obtain ⟨hul, hu1, hcase⟩ := hrow
    obtain ⟨i0, hi0, hz0, hzs, hzb⟩ := info_parts L.i9
    have hpos := L.pos
    have hposb := L.posb
    have hexp : (n + 1) * sz = n * sz + sz := by rw [Nat.add_mul, Nat.one_mul]
    have hbig1 : (n + 1) * 1 ≤ (n + 1) * bytes := Nat.mul_le_mul_left _ hposb
    have hrx : Reads w (.slice (some ⟨vb, vo, none⟩) 1 vc) 1 vs := .inr (.inr ⟨vb, vo, vc, rfl, hvc, hvs⟩)
    have hvl1 : vs.length = 1 * i0.size := by rw [hzs, Nat.one_mul]; exact hvl
    by_cases hi : i = n
    · subst hi
      have hres : us.take (i * sz) ++ (vs ++ us.drop (i * sz)) = us ++ vs := by rw [List.take_of_length_le (by omega), List.drop_of_length_le (by omega), List.append_nil]
      rw [hres]
      by_cases hg : cap < i + 1
      · have hrs : Reads w (.slice ad i cap) i us := by
          rcases hcase with ⟨rfl, rfl, rfl⟩ | ⟨b, cur, t, rfl, hb, hfit, hus⟩
          · exact .inl ⟨rfl, rfl, List.length_eq_zero_iff.1 (by omega)⟩
          · refine .inr (.inr ⟨b, 0, cap, rfl, hnc, fun j u hj => ?_⟩)
            rw [← hus, List.getElem?_take] at hj
            split at hj
            · simp only [World.cell?, hb]
              simpa using hj
            · cases hj
        have hr := fun ty => app_run_grow (P := P) (w := w) (ty := ty) L.t24 hi0 hz0 hrs (by rw [hzs]; exact hul) hrx hvl1 hg (by rw [hzb]; exact hbytes) (by rw [hzb]; exact hposb)
        refine (ins_end L ad i cap vb vo 1 vc w _ _ (by omega) hr).mono fun e w' ⟨h1, h2⟩ => ⟨_, h1, .inl ?_⟩
        subst h2
        have hge := grownCap_ge w (i + 1) cap (ρ.t 9)
        generalize grownCap w (i + 1) cap (ρ.t 9) = C at hge ⊢
        refine ⟨C, _, _, rfl, hge, heap_alloc_new w.drew _, ?_, ?_, (grown_alloc w _).1, (grown_alloc w _).2⟩
        · simp only [Array.size_append, List.size_toArray, size_zeroCells, L.zc, hul, hvl]
          have : (C - (i + 1)) * sz + (i + 1) * sz = C * sz := by rw [← Nat.add_mul]; congr 1; omega
          omega
        · refine take_of_pre (b := (Builtin.zeroCells z.cells (C - (i + 1))).toList) (by simp) (by rw [List.length_append]; omega)
      · rcases hcase with ⟨rfl, rfl, rfl⟩ | ⟨b, cur, t, rfl, hb, hfit, hus⟩
        · omega
        · have hcs : (i + 1) * sz ≤ cap * sz := Nat.mul_le_mul_right _ (by omega)
          have hr := fun ty => app_run_room (P := P) (w := w) (ty := ty) L.t24 hi0 b i cap 1 hb hrx hvl1 h1v (by omega) (by rw [hzs]; omega)
          rw [hzs] at hr
          refine (ins_end L _ i cap vb vo 1 vc w _ _ (by omega) hr).mono fun e w' ⟨h1, h2⟩ => ⟨_, h1, .inr ?_⟩
          subst h2
          refine ⟨b, cur, t, _, rfl, rfl, by omega, hb, setRow_heap w b cur _ t (0, 0) hb, ?_, ?_, ⟨rfl, rfl, rfl, by simp, fun k _ hk => setRow_other w b k _ (fun e => hk (e ▸ rfl))⟩, Nat.le_refl _⟩
          · simp only [List.size_toArray, List.length_append, List.length_take, List.length_drop, Array.length_toList]
            omega
          · rw [hus]
            exact take_of_pre (b := cur.toList.drop (i * sz + vs.length)) (by simp) (by rw [List.length_append]; omega)
    · have hlt : i < n := by omega
      rcases hcase with ⟨rfl, rfl, rfl⟩ | ⟨b, cur, t, rfl, hb, hfit, hus⟩
      · omega
      · have hncs : n * sz ≤ cap * sz := Nat.mul_le_mul_right _ hnc
        have hile : i * sz ≤ n * sz := Nat.mul_le_mul_right _ (by omega)
        have h1c : ∀ v ∈ (cur.toList.take (n * sz)).drop (i * sz), v.oneCell' = true := fun v hv => hu1 v (by rw [← hus]; exact List.mem_of_mem_drop hv)
        have hvl' : vs.length = 1 * sz := by omega
        have htk : us.take (i * sz) = cur.toList.take (i * sz) := by rw [← hus, List.take_take, Nat.min_eq_left hile]
        have hdl : (us.drop (i * sz)).length = n * sz - i * sz := by rw [List.length_drop]; omega
        have htl : (cur.toList.take (i * sz)).length = i * sz := by rw [List.length_take, Array.length_toList]; omega
        by_cases hroom : n + 1 ≤ cap
        · have hcs : (n + 1) * sz ≤ cap * sz := Nat.mul_le_mul_right _ hroom
          refine (ins_shift L b n cap i vb vo 1 vc cur t vs w hlt (by omega) hroom (by omega) (hvb b rfl) hb hfit hvl' h1v h1c hvs).mono fun e w' ⟨h1, h2⟩ => ⟨_, h1, .inr ?_⟩
          subst h2
          rw [hus, Nat.one_mul]
          have hs1 : (laid cur (i * sz + sz) (us.drop (i * sz))).size = cur.size := laid_size (by omega)
          have hb1 := setRow_heap w.drew b cur (laid cur (i * sz + sz) (us.drop (i * sz))) t (0, 0) hb
          refine ⟨b, cur, t, _, rfl, rfl, hroom, hb, setRow_heap _ b _ _ t (0, 0) hb1, ?_, ?_, ⟨rfl, rfl, rfl, by simp, fun k _ hk => ?_⟩, Nat.le_succ _⟩
          · rw [laid_size (by omega)]; exact hs1
          · refine take_of_pre (b := cur.toList.drop (i * sz + sz + (us.drop (i * sz)).length)) ?_ (by rw [List.length_append, List.length_append, htk]; omega)
            rw [laid_list, laid_list, hvl, htk]
            have e1 : ((cur.toList.take (i * sz + sz) ++ us.drop (i * sz)) ++ cur.toList.drop (i * sz + sz + (us.drop (i * sz)).length)).take (i * sz) = cur.toList.take (i * sz) := by
              rw [List.append_assoc, List.take_append_of_le_length (by rw [List.length_take, Array.length_toList]; omega), List.take_take, Nat.min_eq_left (by omega)]
            have e2 : ((cur.toList.take (i * sz + sz) ++ us.drop (i * sz)) ++ cur.toList.drop (i * sz + sz + (us.drop (i * sz)).length)).drop (i * sz + sz) = us.drop (i * sz) ++ cur.toList.drop (i * sz + sz + (us.drop (i * sz)).length) := by
              rw [List.append_assoc]
              exact List.drop_left' (by rw [List.length_take, Array.length_toList]; omega)
            rw [e1, e2]
            simp
          · have hkb : k ≠ b := fun e => hk (e ▸ rfl)
            rw [setRow_other _ b k _ hkb, setRow_other _ b k _ hkb]
            rfl
        · refine (ins_grow L b n cap i vb vo 1 vc cur t vs w hlt (by omega) hnc (by omega) hbytes hb hfit hvl' h1v h1c hvs).mono fun e w' ⟨G, ROW, hG, hROW, h1, h2⟩ => ⟨_, h1, .inl ?_⟩
          subst h2
          rw [hus, Nat.one_mul]
          have hGn : n + 1 ≤ G := by rw [hG]; exact grownCap_ge w _ _ _
          have hRs : ROW.size = G * sz := by
            rw [hROW]
            simp only [Array.size_append, List.size_toArray, size_zeroCells, L.zc, htl]
            rw [← Nat.add_mul, ← Nat.add_mul]
            congr 1
            omega
          have hGs : (n + 1) * sz ≤ G * sz := Nat.mul_le_mul_right _ hGn
          have hRt : ROW.toList.take (i * sz) = cur.toList.take (i * sz) := take_of_pre (b := (Builtin.zeroCells z.cells (n + 1 - i) ++ Builtin.zeroCells z.cells (G - (n + 1))).toList) (by rw [hROW]; simp) htl.symm
          have hnew : (w.alloc (.cells ROW (ρ.t 9))).drew.heap[w.heap.size]? = some (.cells ROW (ρ.t 9) (0, 0)) := heap_alloc_new w _
          have hb1 := setRow_heap _ w.heap.size ROW (laid ROW (i * sz) vs) (ρ.t 9) (0, 0) hnew
          have hs1 : (laid ROW (i * sz) vs).size = ROW.size := laid_size (by omega)
          refine ⟨G, _, _, rfl, hGn, setRow_heap _ w.heap.size _ _ (ρ.t 9) (0, 0) hb1, ?_, ?_, ⟨rfl, rfl, rfl, by simp, fun k hk _ => ?_⟩, Nat.le_trans (Nat.le_succ _) (Nat.le_succ _)⟩
          · rw [laid_size (by omega), hs1, hRs]; exact Nat.le_refl _
          · refine take_of_pre (b := (laid ROW (i * sz) vs).toList.drop (i * sz + sz + (us.drop (i * sz)).length)) ?_ (by simp only [List.length_append, htk]; omega)
            rw [laid_list (laid ROW (i * sz) vs), htk]
            have e1 : (laid ROW (i * sz) vs).toList.take (i * sz + sz) = cur.toList.take (i * sz) ++ vs := take_of_pre (b := ROW.toList.drop (i * sz + vs.length)) (by rw [laid_list, hRt]) (by rw [List.length_append]; omega)
            rw [e1]
            simp
          · have hkb : k ≠ w.heap.size := by omega
            rw [setRow_other _ _ k _ hkb]
            show ((w.alloc _).drew.setRow _ _).heap[k]? = _
            rw [setRow_other _ _ k _ hkb]
            exact heap_alloc_old w _ hk
theorem deleteAt_of (L : LaysI P ρ sz bytes z) (he : ∀ args w, (callFunc (ρ.f 24) args).run P w = .ok (.enter (ρ.f 24) args) w) : DeleteAt P (ρ.f 24) sz where
  pos := L.pos
  enters := he
  run := by
    intro ad n cap i us w hin hnc hrow
    obtain ⟨hul, hu1, hcase⟩ := hrow
    rcases hcase with ⟨rfl, rfl, rfl⟩ | ⟨b, cur, t, rfl, hb, hfit, hus⟩
    · omega
    · have hncs : n * sz ≤ cap * sz := Nat.mul_le_mul_right _ hnc
      have hile : (i + 1) * sz ≤ n * sz := Nat.mul_le_mul_right _ (by omega)
      have hexp : (i + 1) * sz = i * sz + sz := by rw [Nat.add_mul, Nat.one_mul]
      have h1c : ∀ v ∈ (cur.toList.take (n * sz)).drop ((i + 1) * sz), v.oneCell' = true := fun v hv => hu1 v (by rw [← hus]; exact List.mem_of_mem_drop hv)
      refine (del_walk L b n cap i (i + 1) cur t w (by omega) (by omega) hnc hb hfit h1c).mono fun e w' ⟨h1, h2⟩ => ?_
      have hn1 : i + (n - (i + 1)) = n - 1 := by omega
      rw [hn1] at h1 h2
      refine ⟨_, h1, ?_⟩
      subst h2
      rw [hus]
      have htk : us.take (i * sz) = cur.toList.take (i * sz) := by rw [← hus, List.take_take, Nat.min_eq_left (by omega)]
      have hdl : (us.drop ((i + 1) * sz)).length = n * sz - (i + 1) * sz := by rw [List.length_drop]; omega
      have hn1s : (n - 1) * sz = n * sz - sz := by rw [Nat.sub_mul, Nat.one_mul]
      have hzl : (List.replicate (n - (n - 1)) z.cells.toList).flatten.length = sz := by
        have : n - (n - 1) = 1 := by omega
        rw [this]
        simp [L.zc]
      have hs1 : (laid cur (i * sz) (us.drop ((i + 1) * sz))).size = cur.size := laid_size (by omega)
      have hb1 := setRow_heap w.drew b cur (laid cur (i * sz) (us.drop ((i + 1) * sz))) t (0, 0) hb
      refine ⟨b, cur, t, _, rfl, rfl, by omega, hb, setRow_heap _ b _ _ t (0, 0) hb1, ?_, ?_, ⟨rfl, rfl, rfl, by simp, fun k _ hk => ?_⟩, Nat.le_succ _⟩
      · rw [laid_size (by omega)]; exact hs1
      · have e1 : (laid cur (i * sz) (us.drop ((i + 1) * sz))).toList.take ((n - 1) * sz) = us.take (i * sz) ++ us.drop ((i + 1) * sz) :=
          take_of_pre (b := cur.toList.drop (i * sz + (us.drop ((i + 1) * sz)).length)) (by rw [laid_list, htk]) (by rw [List.length_append, htk, List.length_take, Array.length_toList]; omega)
        refine take_of_pre (b := (List.replicate (n - (n - 1)) z.cells.toList).flatten ++ (laid cur (i * sz) (us.drop ((i + 1) * sz))).toList.drop ((n - 1) * sz + (List.replicate (n - (n - 1)) z.cells.toList).flatten.length)) ?_ (by rw [List.length_append, htk, List.length_take, Array.length_toList]; omega)
        rw [laid_list (laid cur (i * sz) (us.drop ((i + 1) * sz))), e1]
        simp
      · have hkb : k ≠ b := fun e => hk (e ▸ rfl)
        rw [setRow_other _ b k _ hkb, setRow_other _ b k _ hkb]
        rfl
end
end Go.Vm

