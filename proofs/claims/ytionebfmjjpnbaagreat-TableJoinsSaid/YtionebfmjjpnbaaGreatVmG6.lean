/- The V-machine, part 6. -/
import Derived.Test.YtionebfmjjpnbaaGreatVmG5
import Derived.Shelf.SlIter.Nil
import Derived.Shelf.SortM.Plain
import Derived.Shelf.SortM.SortNone
import Derived.Shelf.SlMaps.Clone
/- Calls that the kit's contracts tell of: 'slices.Sorted' of a map's keys, 'maps.Clone'. -/
set_option linter.unusedVariables false
set_option linter.unusedSimpArgs false
namespace Go.Vm
open Go.RowKit
section
variable {P : Program} {R : Nat → Option Nat} {h : Heap} {g : Gh} {w : World}

/-! ### what a call that only adds memory leaves -/
/-- The world has grown, and nothing old has turned. -/
theorem Inv.grow {Dt : Prop} {cx : Cx Dt} {N : Nat} {hb0 : Heap} {S : Ow} {rs : Regs} {fl : Fl} {a : Act} (hi : Inv cx N hb0 S rs h fl g a w) (hpd : S.pd = none) (hla : S.la = []) {w' : World} (hw : w.grownBy w' none) (hd : Dt → w.drawn ≤ w'.drawn) : Inv cx N hb0 S rs h fl g a w' := by
  obtain ⟨hO, hf⟩ := hi.own0 hpd
  have hold : ∀ b, b < w.heap.size → w'.heap[b]? = w.heap[b]? := fun b hb => hw.block b hb (fun e => by cases e)
  refine ⟨⟨hw.os.trans hi.W.os, hw.tape.trans hi.W.tape, hw.output.trans hi.W.out, fun d => Nat.le_trans (hi.W.drn d) (hd d), Nat.le_trans hi.W.hsz hw.size, fun b hb hW => (hold b (Nat.lt_of_lt_of_le hb hi.W.hsz)).trans (hi.W.old b hb hW), fun b hb => (hi.W.wr b hb).imp id fun e => (hold b (Nat.lt_of_lt_of_le hb hi.W.hsz)).trans e⟩,
    hi.G.other hw (fun c e => by cases e) (keep_of_old hold), ⟨none, hO.map (fun p q => p = q) (fun _ _ _ e1 e2 => e1.trans e2.symm) (fun p sz u hp => .inr ⟨p, sz, rfl, ?_, .inl rfl⟩) (fun p q b l e hn => e ▸ hn) (fun q sz u c hq _ hc => ⟨⟨hold c ((hO.own q sz u hq).lt hc), fun _ h => h⟩, fun i hl hm => ⟨hl, hm⟩⟩) (ImmLe.refl _), ⟨hf.al, fun t p hm => by rw [hla] at hm; simp at hm, hf.pd⟩⟩, hi.F⟩
  cases p with
  | reg r off => exact hp
  | cell i j =>
    obtain ⟨cs, own, c, h1, h2, h3, h4, h5⟩ := hp
    exact ⟨cs, own, c, h1, h2, h3, h4, by rw [← cell_same (hold c (hi.G.muW i c h4).1)]; exact h5⟩
theorem finish_same {v : V} (hv : v.lt h.length = true) : finishV h.length ⟨initR [] 0, h, .no⟩ v = (v, h, .no) := by
  unfold finishV
  simp [escOk, hv, escLt]
/-- A new row of a call's own, handed back: it is never written again. -/
theorem row_post {own : Option Nat} (hp : Pre h g w) {w' : World} (hb : Below w.heap.size w w') (hT : ¬ Tracks R) (hR : own = none) {u : Value} {xs : List V} {us : List Value} {e : TypeId} {sz : Nat} (hrow : w'.ownsRow w.heap.size e sz u xs.length us) (hus : ∀ m : Imm, CRs m us (xs.flatMap V.flat)) (hsz : ∀ x ∈ xs, x.flat.length = sz) :
    CallPost (calleeCx (Dt := Tracks R) h g w) h own (.sl xs, h, .no) u w' := by
  have hi := pre_start (Dt := Tracks R) hp (N := 0) (uargs := #[]) (vargs := []) .nil (by simp)
  have h1 := hi.grow rfl rfl (w' := w') ⟨hb.os, hb.tape, hb.output, hb.size, fun k hk _ => hb.block k hk⟩ (fun d => absurd d hT)
  obtain ⟨hlen, hcase⟩ := hrow
  have fin : ∀ g' (h2 : Inv0 (calleeCx (Dt := Tracks R) h g w) 0 h [] (initR [] 0) h .no g' { tmps := #[] ++ Array.replicate (0 - (#[] : Array Value).size) Go.undef, defers := [] } w'), VR g' u (.sl xs) → CallPost (calleeCx (Dt := Tracks R) h g w) h own (.sl xs, h, .no) u w' := fun g' h2 hu => by
    have := fun_end (st := ⟨initR [] 0, h, .no⟩) hp h2 hu (own := own) (fun sz hs => by rw [hR] at hs; cases hs)
    rw [finish_same (by simp [V.lt])] at this
    exact this
  rcases hcase with ⟨rfl, h0⟩ | ⟨b, cap, cur, rfl, hbase, hblk, hcap, _, hcs, htk⟩
  · have : xs = [] := List.eq_nil_of_length_eq_zero h0
    subst this
    exact fin _ h1 (.cell .nils)
  · have hbl : b < w'.heap.size := (Array.getElem?_eq_some_iff.1 hblk).1
    have hget : ∀ (j : Nat) (x : Value), us[j]? = some x → w'.cell? ⟨b, 0 + j, none⟩ = some x := fun j x hx => by
      rw [← htk, List.getElem?_take] at hx
      split at hx
      · rw [Nat.zero_add]
        simp only [World.cell?, hblk]
        simpa using hx
      · cases hx
    have h2 := h1.addImm (b := b) (lo := 0) (us := us) rfl (.inl hbase) (fun i _ hm => by have := hp.muW i b hm; omega) (fun q sz x hq hx => by
      cases q with
      | reg r off => obtain ⟨hm, _⟩ := hq; simp at hm
      | cell i j =>
        have hq' : Held [] none h g #[] w (.cell i j) sz x := by
          obtain ⟨cs, own, c, k1, k2, k3, k4, k5⟩ := hq
          exact ⟨cs, own, c, k1, k2, k3, k4, by rw [← cell_same (hb.block c (hp.muW i c k4))]; exact k5⟩
        have := (hp.own _ _ _ hq').lt hx
        omega) (fun k _ _ => by
      cases hk : g.imm b k with
      | none => rfl
      | some x => have h9 : b < w.heap.size := cell_lt (hp.hr.imm b k x hk); omega) hget
    refine fin _ h2 (.cell (.sl rfl hcap hsz (fun j x hj => ?_) (hus _)))
    have hlt := (List.getElem?_eq_some_iff.1 hj).1
    simp only [Gh.addImm, Nat.zero_add, Nat.zero_le, Nat.sub_zero, true_and, if_true]
    rw [if_pos hlt]
    exact hj

/-! ### the keys of a map, in order -/
def strKeysV : List (V × V) → Option (List (List UInt8))
  | [] => some []
  | (.str k, _) :: es => bnd (strKeysV es) fun l => some (k :: l)
  | _ :: _ => none
def leK (x y : List UInt8) : Bool := decide (x ≤ y)
def sortedC (h : Heap) : List V → Option (V × Heap × Fl)
  | [.map m] => bnd (mapOf h (.map m)) fun es => bnd (strKeysV es) fun ks => cnd (decide (ks.length ≤ 1000000) && ks.all fun k => decide (k.length ≤ 1000000)) (some (.sl ((ks.mergeSort leK).map V.str), h, .no)) none
  | _ => none
def sortedP (kf : Nat) : List V → Heap → Option (V × Heap × Fl)
  | [.fn f [] [.ptr (some (i, 0))]], h => cnd (decide (f = kf)) (bnd (cellsAt h i) fun c => sortedC h c.1) none
  | _, _ => none
/-- The kit's contract, as it is laid at a program. -/
structure SortedAt (P : Program) (f kf : Nat) (kt : TypeId) : Prop where
  enters : ∀ args w, (callFunc f args).run P w = .ok (.enter f args) w
  key : P.underlying kt = some .string
  keys : ∀ (b nn Bm : Nat) (D0 : DataW Unit) (Rd : Value → Option (DataW Unit × List MemPlace)) (w : World), Bm < w.heap.size → w.cell? ⟨Bm, 0, none⟩ = some (.map (some b)) → w.ownsMap P kt Rd b nn D0 → Maps.size D0 ≤ maxLen → Maps.size D0 * 16 ≤ 140737488355328 →
    Calls P f #[.func (.func kf) #[] #[.pointer (some ⟨Bm, 0, none⟩)]] w fun e w' => ∃ (v : Value) (ss : List (List UInt8)), e = .returned v ∧ ss.Perm (strKeys D0) ∧ w'.ownsRow w.heap.size kt 1 v ss.length ((ss.mergeSort leK).map Proofs.encStr) ∧ (v = .slice none 0 0 ↔ ss = []) ∧ Below w.heap.size w w'
  nil : ∀ (Bm : Nat) (w : World), Bm < w.heap.size → w.cell? ⟨Bm, 0, none⟩ = some (.map none) →
    Calls P f #[.func (.func kf) #[] #[.pointer (some ⟨Bm, 0, none⟩)]] w fun e w' => ∃ (v : Value) (ss : List (List UInt8)), e = .returned v ∧ ss = [] ∧ w'.ownsRow w.heap.size kt 1 v ss.length ((ss.mergeSort leK).map Proofs.encStr) ∧ (v = .slice none 0 0 ↔ ss = []) ∧ Below w.heap.size w w'
def anyR (v : Value) : Option (DataW Unit × List MemPlace) := some (.nil, [])
theorem keys_read {kt : TypeId} (hk : P.underlying kt = some .string) : ∀ {es : List MapEntry} {ps : List (V × V)} {ks : List (List UInt8)}, ERels g es ps → strKeysV ps = some ks → (∀ k ∈ ks, k.length ≤ 1000000) →
    es.map (fun x => strOf (WideElems.rg P kt anyR x).1) = ks ∧ ∀ x ∈ es, ∃ y, WideElems.rd P kt anyR x = some y
  | [], [], ks, _, h, _ => by
    cases h
    exact ⟨rfl, fun x hx => by cases hx⟩
  | e :: es, (k, v) :: ps, ks, hr, h, hb => by
    obtain ⟨⟨hek, _⟩, hrest⟩ := hr
    unfold strKeysV at h
    split at h
    · rename_i e1; cases e1
    · rename_i kk vv rest e1
      cases e1
      obtain ⟨l, hl, h⟩ := bnd_eq_some h
      cases h
      obtain ⟨s, hs1, hs2⟩ := (VR.cell hek : VR g _ _).str_inv
      obtain ⟨i1, i2⟩ := keys_read hk hrest hl (fun k hk => hb k (by simp [hk]))
      have hlen : s.size ≤ maxLen := by
        have := hb kk (by simp)
        have e2 : s.size = kk.length := by rw [← hs2]; rfl
        have : (1000000 : Nat) ≤ maxLen := by decide
        omega
      have hrd : WideElems.rd P kt anyR e = some (.string s.data.toList, .nil) := by
        unfold WideElems.rd
        rw [hs1]
        simp [keyOf, hk, mapKey, hlen, anyR]
      refine ⟨?_, fun x hx => ?_⟩
      · rw [List.map_cons, i1, WideElems.rg_of hrd]
        simp only [strOf, hs2]
      · rcases List.mem_cons.1 hx with rfl | hx
        · exact ⟨_, hrd⟩
        · exact i2 x hx
    · cases h
  | [], _ :: _, _, hr, _, _ => hr.elim
  | _ :: _, [], _, hr, _, _ => hr.elim
theorem enc_crs {m : Imm} : ∀ l : List (List UInt8), CRs m (l.map Proofs.encStr) ((l.map V.str).flatMap V.flat)
  | [] => .nil
  | k :: l => by
    refine .cons ?_ (enc_crs l)
    have : CR m (.string ⟨k.toArray⟩) (.str (⟨k.toArray⟩ : ByteArray).data.toList) := .str _
    simpa [Proofs.encStr] using this
theorem sorted_ok {f kf : Nat} {kt : TypeId} (hS : SortedAt P f kf kt) (hR : R f = none) (hT : ¬ Tracks R) : PrimOk P R f (sortedP kf) := by
  intro vargs h r hr g w uargs hp hargs
  unfold sortedP at hr
  split at hr
  · rename_i f' i
    obtain ⟨hf0, hr2⟩ := cnd_eq_some hr
    have hf := of_decide_eq_true hf0
    clear hr hf0
    subst hf
    obtain ⟨c, hc, hr⟩ := bnd_eq_some hr2
    clear hr2
    obtain ⟨us⟩ := uargs
    simp only at hargs
    cases hargs with
    | cons h1 hargs =>
      cases hargs
      rename_i u1
      obtain ⟨b, hb, rfl⟩ : ∃ b, g.mu i = some b ∧ u1 = .func (.func f') #[] #[.pointer (some ⟨b, 0, none⟩)] := by
        cases h1 with
        | cell q => cases q
        | fn q1 q2 =>
          cases q1
          cases q2 with
          | cons q3 q4 =>
            cases q4
            obtain ⟨b, hb, rfl⟩ := q3.ptr_inv
            exact ⟨b, hb, rfl⟩
      obtain ⟨b', ur, tt, lu, ru, hb', hheap, hlr, hus, hcell⟩ := hp.hr.cells hc
      rw [hb] at hb'; cases hb'
      unfold sortedC at hr
      split at hr
      · rename_i m hcm
        obtain ⟨es, hes, hr⟩ := bnd_eq_some hr
        obtain ⟨ks, hks, hr⟩ := bnd_eq_some hr
        obtain ⟨hcond, hr⟩ := cnd_eq_some hr
        cases hr
        simp only [Bool.and_eq_true, decide_eq_true_eq, List.all_eq_true] at hcond
        obtain ⟨hkl, hkb⟩ := hcond
        rw [hcm] at hus
        cases hus with
        | cons hm hnil =>
        cases hnil
        rename_i mu
        have hcl : w.cell? ⟨b, 0, none⟩ = some mu := by
          rw [cell_of_heap hheap]
          exact pre_get hlr rfl
        have hbl : b < w.heap.size := hp.muW i b hb
        have post : ∀ (ss : List (List UInt8)) (v : Value) (w' : World), ss.mergeSort leK = ks.mergeSort leK → ss.length = ks.length → w'.ownsRow w.heap.size kt 1 v ss.length ((ss.mergeSort leK).map Proofs.encStr) → Below w.heap.size w w' → CallPost (calleeCx (Dt := Tracks R) h g w) h (R f) (.sl ((ks.mergeSort leK).map V.str), h, .no) v w' := fun ss v w' he hl hrow hbel => by
          rw [he] at hrow
          refine row_post hp hbel hT hR (xs := (ks.mergeSort leK).map V.str) (e := kt) (sz := 1) ?_ (fun m => enc_crs _) (fun x hx => by obtain ⟨k, _, rfl⟩ := List.mem_map.1 hx; rfl)
          rw [List.length_map, List.length_mergeSort, ← hl]
          exact hrow
        refine .inl ⟨hS.enters _ _, ?_⟩
        cases m with
        | none =>
          cases hes
          cases hks
          rw [hm.nilm_inv] at hcl
          refine (hS.nil b w hbl hcl).mono fun e w' ⟨v, ss, he, hss, hrow, _, hbel⟩ => ⟨v, he, ?_⟩
          subst hss
          exact post [] v w' rfl rfl hrow hbel
        | some k =>
          obtain ⟨bm, hbm, rfl⟩ := hm.map_inv
          have hobj : h[k]? = some (.map es) := mapAt_inv hes
          obtain ⟨bm', hbm', rs, clock, hheapm, hrel, hst⟩ := hp.hr.obj k _ hobj rfl
          rw [hbm] at hbm'; cases hbm'
          obtain ⟨k1, k2⟩ := keys_read hS.key hrel hks hkb
          have hsz : rs.size = ks.length := by rw [← k1]; simp
          have hmax : (1000000 : Nat) ≤ maxLen := by decide
          have hown : w.ownsMap P kt anyR bm rs.size (.map ((rs.toList.map (WideElems.rg P kt anyR)).foldr DataW.insert [])) :=
            ⟨rs, clock, hheapm, ⟨by omega, hst, k2⟩, Nat.le_refl _, rfl⟩
          have hdl := hown.size_le
          have hperm : (strKeys (.map ((rs.toList.map (WideElems.rg P kt anyR)).foldr DataW.insert []))).Perm ks := by
            show (((rs.toList.map (WideElems.rg P kt anyR)).foldr DataW.insert []).map fun p => strOf p.1).Perm ks
            refine ((WideShapes.sorted_perm _).map _).trans ?_
            rw [List.map_map]
            exact List.Perm.of_eq k1
          refine (hS.keys bm rs.size b _ anyR w hbl hcl hown (by omega) (by omega)).mono fun e w' ⟨v, ss, he, hss, hrow, _, hbel⟩ => ⟨v, he, ?_⟩
          have hp2 := hss.trans hperm
          exact post ss v w' (mergeSort_of_perm hp2) hp2.length_eq hrow hbel
      · cases hr
  · cases hr

/-! ### a copy of a map -/
def cloneP : List V → Heap → Option (V × Heap × Fl)
  | [.map (some i)], h => bnd (mapAt h i) fun es => some (.map (some h.length), h ++ [.map es], .no)
  | _, _ => none
structure CloneAt (P : Program) (f : Nat) : Prop where
  enters : ∀ args w, (callFunc f args).run P w = .ok (.enter f args) w
  copy : ∀ (b : Nat) (es : Array MapEntry) (clock : Nat) (w : World), w.heap[b]? = some (.map es clock) → Calls P f #[.map (some b)] w fun e w' => e = .returned (.map (some w.heap.size)) ∧ w' = w.alloc (.map es clock)
end
end Go.Vm

