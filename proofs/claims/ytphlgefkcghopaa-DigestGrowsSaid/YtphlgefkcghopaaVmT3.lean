/- Two tables that tell each other what the other lacks are the same. No function of the program in sight. -/
import Derived.Test.YtphlgefkcghopaaVmT2
import Derived.Test.YtphlgefkcghopaaVmLO
set_option linter.unusedVariables false
set_option linter.unusedSimpArgs false
namespace Go.Proofs.Ytphlgefkcghopaa.V
open Go.Vm

/-! ### tables, by their members -/
abbrev KSrt (l : List Ent) : Prop := (l.map Ent.key).Pairwise fun a b => bytesLess a b = true
theorem KSrt.ext : ∀ {a b : List Ent}, KSrt a → KSrt b → (∀ v, v ∈ a ↔ v ∈ b) → a = b
  | [], [], _, _, _ => rfl
  | [], v :: b, _, _, h => absurd ((h v).2 (by simp)) (by simp)
  | u :: a, [], _, _, h => absurd ((h u).1 (by simp)) (by simp)
  | u :: a, v :: b, ha, hb, h => by
    rw [KSrt, List.map_cons, List.pairwise_cons] at ha hb
    have ha1 : ∀ w ∈ a, bytesLess u.key w.key = true := fun w hw => ha.1 _ (List.mem_map_of_mem hw)
    have hb1 : ∀ w ∈ b, bytesLess v.key w.key = true := fun w hw => hb.1 _ (List.mem_map_of_mem hw)
    have huv : u = v := by
      rcases List.mem_cons.1 ((h u).1 (by simp)) with h1 | h1
      · exact h1
      · rcases List.mem_cons.1 ((h v).2 (by simp)) with h2 | h2
        · exact h2.symm
        · have h3 := bytesLess_trans (hb1 u h1) (ha1 v h2)
          rw [bytesLess_irrefl] at h3; cases h3
    subst huv
    congr 1
    refine KSrt.ext (a := a) (b := b) ha.2 hb.2 fun w => ⟨fun hw => ?_, fun hw => ?_⟩
    · rcases List.mem_cons.1 ((h w).1 (by simp [hw])) with h1 | h1
      · have := ha1 w hw
        rw [h1, bytesLess_irrefl] at this; cases this
      · exact h1
    · rcases List.mem_cons.1 ((h w).2 (by simp [hw])) with h1 | h1
      · have := hb1 w hw
        rw [h1, bytesLess_irrefl] at this; cases this
      · exact h1
theorem tabGet_iff {l : List Ent} (hk : KSrt l) {k : List UInt8} {s : Sib} : tabGet l k = some s ↔ (⟨k, s⟩ : Ent) ∈ l := by
  constructor
  · intro h
    unfold tabGet at h
    cases hf : tabAt l k with
    | none => rw [hf] at h; cases h
    | some i =>
      rw [hf] at h
      obtain ⟨x, hx, hxk⟩ := tabAt_some hf
      simp only [hx, Option.map_some, Option.some.injEq] at h
      have : (⟨k, s⟩ : Ent) = x := by cases x; simp_all
      rw [this]
      exact List.mem_of_getElem? hx
  · exact fun h => tabGet_mem hk h
theorem tabGet_ext {a b : List Ent} (ha : KSrt a) (hb : KSrt b) (h : ∀ k, tabGet a k = tabGet b k) : a = b :=
  KSrt.ext ha hb fun v => by
    obtain ⟨k, s⟩ := v
    rw [← tabGet_iff ha, ← tabGet_iff hb, h k]
theorem tabGet_none {l : List Ent} {k : List UInt8} (h : ∀ x ∈ l, x.key ≠ k) : tabGet l k = none := by
  unfold tabGet
  cases hf : tabAt l k with
  | none => rfl
  | some i =>
    obtain ⟨x, hx, hxk⟩ := tabAt_some hf
    exact absurd hxk (h x (List.mem_of_getElem? hx))
theorem tabGet_cons (e : Ent) (l : List Ent) (k : List UInt8) : tabGet (e :: l) k = if e.key = k then some e.sib else tabGet l k := by
  unfold tabGet tabAt
  rw [List.findIdx?_cons]
  by_cases h : e.key = k
  · simp [h]
  · rw [if_neg h, decide_eq_false h]
    cases l.findIdx? (fun e => decide (e.key = k)) <;> simp
theorem mem_insertE {u v : Ent} : ∀ {l : List Ent}, u ∈ insertE l v ↔ u = v ∨ u ∈ l
  | [] => by simp [insertE]
  | w :: l => by
    unfold insertE
    split
    · simp only [List.mem_cons, mem_insertE (l := l)]
      constructor
      · rintro (h | h | h)
        · exact .inr (.inl h)
        · exact .inl h
        · exact .inr (.inr h)
      · rintro (h | h | h)
        · exact .inr (.inl h)
        · exact .inl h
        · exact .inr (.inr h)
    · simp only [List.mem_cons]
theorem tabJoin_get {l : List Ent} {n : Nat} {e : Ent} (h : TOk l n) (hn : n < 256) (hw : ∀ v ∈ e.sib.vals, v.dot.Wf) (he : e.may = true) (k : List UInt8) :
    tabGet (tabJoin l e).1 k = if e.key = k then some (((tabGet l k).getD zeroSib).join e.sib) else tabGet l k := by
  have hk' := (tabJoin_ok h hw).keys
  have h256 : ¬ 256 ≤ l.length := by have := h.len; omega
  cases hf : tabAt l e.key with
  | none =>
    have hno := tabAt_none hf
    have hl : (tabJoin l e).1 = insertE l ⟨e.key, zeroSib.join e.sib⟩ := by unfold tabJoin; rw [he, hf]; simp [h256]
    rw [hl] at hk' ⊢
    by_cases hke : e.key = k
    · subst hke
      rw [if_pos rfl, tabGet_none hno, tabGet_iff hk']
      exact mem_insertE.2 (.inl rfl)
    · rw [if_neg hke]
      apply Option.ext
      intro s
      rw [tabGet_iff hk', tabGet_iff h.keys, mem_insertE]
      constructor
      · rintro (h1 | h1)
        · exact absurd (Ent.mk.inj h1).1.symm hke
        · exact h1
      · exact .inr
  | some i =>
    obtain ⟨x, hx, hxk⟩ := tabAt_some hf
    have hi := (List.getElem?_eq_some_iff.1 hx).1
    have hl : (tabJoin l e).1 = l.set i ⟨x.key, x.sib.join e.sib⟩ := by unfold tabJoin; rw [he, hf]; simp [hx]
    rw [hl] at hk' ⊢
    by_cases hke : e.key = k
    · subst hke
      rw [if_pos rfl]
      have h1 : tabGet l e.key = some x.sib := by rw [tabGet_iff h.keys]; rw [← hxk]; exact List.mem_of_getElem? hx
      rw [h1, tabGet_iff hk', ← hxk]
      exact List.mem_set hi _
    · rw [if_neg hke]
      apply Option.ext
      intro s
      rw [tabGet_iff hk', tabGet_iff h.keys]
      constructor
      · intro h1
        rcases List.mem_or_eq_of_mem_set h1 with h1 | h1
        · exact h1
        · exact absurd ((Ent.mk.inj h1).1.trans hxk).symm hke
      · intro h1
        obtain ⟨j, hj, hje⟩ := List.getElem_of_mem h1
        have hij : i ≠ j := fun e => by
          subst e
          have : x = ⟨k, s⟩ := by
            have := (List.getElem?_eq_some_iff.1 hx).2
            exact this.symm.trans hje
          rw [this] at hxk
          exact hke hxk.symm
        rw [← hje]
        have : (l.set i ⟨x.key, x.sib.join e.sib⟩)[j]? = some l[j] := by rw [List.getElem?_set_ne hij]; exact List.getElem?_eq_getElem hj
        exact List.mem_of_getElem? this

/-! ### entries joined one by one -/
noncomputable def tabFold (t l : List Ent) : List Ent := l.foldl (fun t e => (tabJoin t e).1) t
theorem tabFold_take {t l : List Ent} {j : Nat} {e : Ent} (h : l[j]? = some e) : tabFold t (l.take (j + 1)) = (tabJoin (tabFold t (l.take j)) e).1 := by
  unfold tabFold; rw [foldl_take h]
def DotsWf (l : List Ent) : Prop := ∀ e ∈ l, ∀ v ∈ e.sib.vals, v.dot.Wf
theorem TOk.wf {l : List Ent} {n : Nat} (h : TOk l n) : DotsWf l := fun e he v hv => ((h.good e he).val v hv).1
theorem tabFold_ok : ∀ {l t : List Ent} {n : Nat}, TOk t n → DotsWf l → TOk (tabFold t l) (n + l.length)
  | [], t, n, h, _ => h
  | e :: l, t, n, h, hw => by
    have := tabFold_ok (l := l) (tabJoin_ok h (hw e (by simp))) (fun x hx => hw x (by simp [hx]))
    rw [show n + (e :: l).length = n + 1 + l.length by simp; omega]
    exact this
theorem tabFold_get : ∀ {l t : List Ent} {n : Nat}, TOk t n → n + l.length ≤ 256 → DotsWf l → (∀ e ∈ l, e.may = true) → KSrt l → ∀ k,
    tabGet (tabFold t l) k = match tabGet l k with | some s => some (((tabGet t k).getD zeroSib).join s) | none => tabGet t k
  | [], t, n, h, _, _, _, _, k => rfl
  | e :: l, t, n, h, hn, hw, hm, hk, k => by
    simp only [List.length_cons] at hn
    have hwe := hw e (by simp)
    have h1 := tabFold_get (l := l) (tabJoin_ok h hwe) (by omega) (fun x hx => hw x (by simp [hx])) (fun x hx => hm x (by simp [hx])) (by rw [KSrt, List.map_cons, List.pairwise_cons] at hk; exact hk.2) k
    have h2 := tabJoin_get h (by omega) hwe (hm e (by simp)) k
    have h3 : tabFold t (e :: l) = tabFold (tabJoin t e).1 l := rfl
    rw [h3, h1, h2, tabGet_cons]
    by_cases hke : e.key = k
    · have hno : tabGet l k = none := tabGet_none fun x hx hxk => by
        rw [KSrt, List.map_cons, List.pairwise_cons] at hk
        have := hk.1 _ (List.mem_map_of_mem hx)
        rw [hxk, hke, bytesLess_irrefl] at this; cases this
      rw [hno, if_pos hke, if_pos hke]
    · rw [if_neg hke, if_neg hke]
def TMay (l : List Ent) : Prop := ∀ e ∈ l, e.may = true
theorem Ent_may_iff (e : Ent) : e.may = true ↔ keyOk e.key = true ∧ e.sib.may = true := by
  unfold Ent.may; simp only [Bool.and_eq_true]
theorem tabJoin_may {l : List Ent} {e : Ent} (h : TMay l) : TMay (tabJoin l e).1 := by
  unfold tabJoin
  cases hm : e.may with
  | false => exact h
  | true =>
    have he := (Ent_may_iff e).1 hm
    cases hf : tabAt l e.key with
    | some i =>
      obtain ⟨x, hx, _⟩ := tabAt_some hf
      have hxm := (Ent_may_iff x).1 (h x (List.mem_of_getElem? hx))
      simp only [hx]
      intro y hy
      rcases List.mem_or_eq_of_mem_set hy with hy | rfl
      · exact h y hy
      · exact (Ent_may_iff _).2 ⟨hxm.1, join_may hxm.2 he.2⟩
    | none =>
      by_cases h256 : 256 ≤ l.length
      · simp only [decide_eq_true h256]; exact h
      · simp only [decide_eq_false h256]
        intro y hy
        rcases insertE_mem hy with rfl | hy
        · exact (Ent_may_iff _).2 ⟨he.1, join_may zeroSib_may he.2⟩
        · exact h y hy
theorem tabFold_may : ∀ {l t : List Ent}, TMay t → TMay (tabFold t l)
  | [], t, h => h
  | e :: l, t, h => tabFold_may (l := l) (tabJoin_may h)

/-! ### how many values there are -/
def valSum (l : List Ent) : Nat := (l.map fun e => e.sib.vals.length).sum
theorem valSum_cons (e : Ent) (l : List Ent) : valSum (e :: l) = e.sib.vals.length + valSum l := by simp [valSum]
theorem valSum_mem : ∀ {l : List Ent} {e : Ent}, e ∈ l → e.sib.vals.length ≤ valSum l
  | u :: l, e, h => by
    rw [valSum_cons]
    rcases List.mem_cons.1 h with rfl | h
    · omega
    · have := valSum_mem h; omega
theorem valSum_set : ∀ {l : List Ent} {i : Nat} {x y : Ent} {c : Nat}, l[i]? = some x → y.sib.vals.length ≤ x.sib.vals.length + c → valSum (l.set i y) ≤ valSum l + c
  | u :: l, 0, x, y, c, h, hc => by
    have : u = x := by simpa using h
    subst this
    rw [List.set_cons_zero, valSum_cons, valSum_cons]; omega
  | u :: l, i + 1, x, y, c, h, hc => by
    rw [List.set_cons_succ, valSum_cons, valSum_cons]
    have := valSum_set (l := l) (i := i) (by simpa using h) hc
    omega
theorem valSum_insert : ∀ (l : List Ent) (e : Ent), valSum (insertE l e) = valSum l + e.sib.vals.length
  | [], e => by simp [insertE, valSum]
  | u :: l, e => by
    unfold insertE
    split
    · rw [valSum_cons, valSum_cons, valSum_insert l e]; omega
    · rw [valSum_cons, valSum_cons]; omega
theorem join_vlen (a b : Sib) : (a.join b).vals.length ≤ a.vals.length + b.vals.length := by
  unfold Sib.join
  cases a.may && b.may with
  | false => exact Nat.zero_le _
  | true =>
    show (joinVals a b).length ≤ _
    rw [joinVals_all, List.length_take]
    have := joinAll_len a b
    omega
theorem tabJoin_sum (l : List Ent) (e : Ent) : valSum (tabJoin l e).1 ≤ valSum l + e.sib.vals.length := by
  unfold tabJoin
  cases e.may with
  | false => exact Nat.le_add_right _ _
  | true =>
    cases hf : tabAt l e.key with
    | some i =>
      obtain ⟨x, hx, _⟩ := tabAt_some hf
      simp only [hx]
      exact valSum_set hx (join_vlen x.sib e.sib)
    | none =>
      by_cases h256 : 256 ≤ l.length
      · simp only [decide_eq_true h256]; exact Nat.le_add_right _ _
      · simp only [decide_eq_false h256]
        show valSum (insertE l _) ≤ _
        rw [valSum_insert]
        have := join_vlen zeroSib e.sib
        have : zeroSib.vals.length = 0 := rfl
        show valSum l + (zeroSib.join e.sib).vals.length ≤ _
        omega
theorem tabFold_sum : ∀ (l t : List Ent), valSum (tabFold t l) ≤ valSum t + valSum l
  | [], t => Nat.le_add_right _ _
  | e :: l, t => by
    have h1 := tabFold_sum l (tabJoin t e).1
    have h2 := tabJoin_sum t e
    have h3 : tabFold t (e :: l) = tabFold (tabJoin t e).1 l := rfl
    rw [h3, valSum_cons]
    omega

/-! ### what is lacked, by tables -/
theorem lacked_tab (e : Ent) (y : List Ent) : lacked e (y.map dOf) = match tabGet y e.key with | some q => lacks e (dOf ⟨e.key, q⟩) | none => true := by
  unfold lacked tabGet
  have h : (y.map dOf).findIdx? (fun d => d.key == e.key) = tabAt y e.key := by
    unfold tabAt
    rw [List.findIdx?_map]
    congr 1
    funext x
    show (x.key == e.key) = decide (x.key = e.key)
    by_cases h : x.key = e.key <;> simp [h]
  rw [h]
  cases hf : tabAt y e.key with
  | none => rfl
  | some i =>
    obtain ⟨x, hx, hxk⟩ := tabAt_some hf
    show lacks e ((y.map dOf)[i]?.getD _) = match (y[i]?).map Ent.sib with | some q => lacks e (dOf ⟨e.key, q⟩) | none => true
    have : (y.map dOf)[i]? = some (dOf x) := by rw [List.getElem?_map, hx]; rfl
    rw [this, hx]
    show lacks e (dOf x) = lacks e (dOf ⟨e.key, x.sib⟩)
    rw [← hxk]
theorem filter_get {l : List Ent} (hk : KSrt l) (p : Ent → Bool) (k : List UInt8) : tabGet (l.filter p) k = match tabGet l k with | some s => cnd (p ⟨k, s⟩) (some s) none | none => none := by
  have hk' : KSrt (l.filter p) := hk.sublist (List.filter_sublist.map Ent.key)
  cases hg : tabGet l k with
  | none =>
    cases hg' : tabGet (l.filter p) k with
    | none => rfl
    | some s =>
      rw [tabGet_iff hk', List.mem_filter] at hg'
      rw [(tabGet_iff hk).2 hg'.1] at hg
      cases hg
  | some s =>
    cases hp : p ⟨k, s⟩ with
    | true =>
      show tabGet (l.filter p) k = cnd (p ⟨k, s⟩) (some s) none
      rw [hp]
      show _ = some s
      rw [tabGet_iff hk', List.mem_filter]
      exact ⟨(tabGet_iff hk).1 hg, hp⟩
    | false =>
      show tabGet (l.filter p) k = cnd (p ⟨k, s⟩) (some s) none
      rw [hp]
      show _ = none
      cases hg' : tabGet (l.filter p) k with
      | none => rfl
      | some s' =>
        rw [tabGet_iff hk', List.mem_filter] at hg'
        have := (tabGet_iff hk).2 hg'.1
        rw [hg] at this
        cases this
        rw [hp] at hg'
        cases hg'.2
/-- What one sends of a table that the other lacks. -/
def told (x y : List Ent) : List Ent := x.filter fun e => lacked e (y.map dOf)
theorem tell {X Y : List Ent} {n m : Nat} (hX : TOk X n) (hY : TOk Y m) (hXm : TMay X) (hYm : TMay Y) (hn : n + m ≤ 200) (k : List UInt8) :
    tabGet (tabFold Y (told X Y)) k = match tabGet X k, tabGet Y k with
      | none, q => q
      | some p, none => some p
      | some p, some q => some (cnd (lacks ⟨k, p⟩ (dOf ⟨k, q⟩)) (q.join p) q) := by
  have hsub : (told X Y).Sublist X := List.filter_sublist
  have hlen : (told X Y).length ≤ n := Nat.le_trans hsub.length_le hX.len
  rw [tabFold_get hY (by omega) (fun e he => hX.wf e (hsub.subset he)) (fun e he => hXm e (hsub.subset he)) (hX.keys.sublist (hsub.map Ent.key)) k]
  unfold told
  rw [filter_get hX.keys]
  cases hp : tabGet X k with
  | none => rfl
  | some p =>
    simp only [lacked_tab]
    cases hq : tabGet Y k with
    | none =>
      have hpm := ((Ent_may_iff _).1 (hXm _ ((tabGet_iff hX.keys).1 hp))).2
      show some (zeroSib.join p) = some p
      rw [zero_join hpm]
    | some q =>
      cases hl : lacks ⟨k, p⟩ (dOf ⟨k, q⟩) <;> simp [hl]
theorem converge {X Y : List Ent} {n m : Nat} (hX : TOk X n) (hY : TOk Y m) (hXm : TMay X) (hYm : TMay Y) (hn : n + (n + m) ≤ 200) (hs : valSum X + valSum Y ≤ 16)
    (hg : ∀ e ∈ X, ∀ s, tabGet Y e.key = some s → Agree e.sib s) : tabFold X (told (tabFold Y (told X Y)) X) = tabFold Y (told X Y) := by
  have hsub : (told X Y).Sublist X := List.filter_sublist
  have hlen : (told X Y).length ≤ n := Nat.le_trans hsub.length_le hX.len
  have hY' : TOk (tabFold Y (told X Y)) (m + (told X Y).length) := tabFold_ok hY (fun e he => hX.wf e (hsub.subset he))
  have hY'm : TMay (tabFold Y (told X Y)) := tabFold_may hYm
  have hget := tell hX hY hXm hYm (by omega)
  generalize hZ : tabFold Y (told X Y) = Z at *
  have hsub2 : (told Z X).Sublist Z := List.filter_sublist
  have hX' : TOk (tabFold X (told Z X)) (n + (told Z X).length) := tabFold_ok hX (fun e he => hY'.wf e (hsub2.subset he))
  refine tabGet_ext hX'.keys hY'.keys fun k => ?_
  rw [tell hY' hX hY'm hXm (by omega) k]
  have hZk := hget k
  cases hp : tabGet X k with
  | none =>
    cases hz : tabGet Z k <;> rfl
  | some p =>
    have hpX := (tabGet_iff hX.keys).1 hp
    have hpm : p.may = true := ((Ent_may_iff _).1 (hXm _ hpX)).2
    rw [hp] at hZk
    cases hq : tabGet Y k with
    | none =>
      rw [hq] at hZk
      have hZk : tabGet Z k = some p := hZk
      rw [hZk]
      show some (cnd (lacks ⟨k, p⟩ (dOf ⟨k, p⟩)) (p.join p) p) = some p
      rw [lacks_self]; rfl
    | some q =>
      rw [hq] at hZk
      have hZk : tabGet Z k = some (cnd (lacks ⟨k, p⟩ (dOf ⟨k, q⟩)) (q.join p) q) := hZk
      have hqY := (tabGet_iff hY.keys).1 hq
      have hqm : q.may = true := ((Ent_may_iff _).1 (hYm _ hqY)).2
      have h1 : p.vals.length ≤ valSum X := valSum_mem hpX
      have h2 : q.vals.length ≤ valSum Y := valSum_mem hqY
      rw [hZk]
      have hgg : Agree p q := hg _ hpX q hq
      have := both_ways k hpm hqm hgg (by omega) _ rfl
      exact congrArg some this

/-! ### sizes -/
theorem EGood.wf {e : Ent} (h : EGood e) : e.Wf := ⟨by have := h.key; unfold maxLen; omega, h.seen, by have := h.len; unfold maxLen; omega, fun v hv => ⟨(h.val v hv).1, by have := (h.val v hv).2; unfold maxLen; omega⟩⟩
theorem vec_most : ∀ (l : List Int) (w : Wr), (w.vec l).most = w.most
  | [], w => rfl
  | n :: l, w => (vec_most l _).trans (Wr.put_most _ _)
theorem vals_most : ∀ (l : List Val) (w : Wr), (w.vals l).most = w.most
  | [], w => rfl
  | v :: l, w => (vals_most l (w.val v)).trans (by unfold Wr.val; rw [Wr.put_most, Wr.put_most, Wr.put_most, Wr.put_most])
theorem size_light {e : Ent} (hw : e.Wf) (hl : Light1 e) : size e ≤ 80900 := by
  obtain ⟨h1, h2, h3⟩ := hl
  have hvec := e.sib.seen.h
  have h0 : (⟨[], 1073741824, false⟩ : Wr).Fit (110 + (10 * e.sib.seen.l.length + (10 + (4031 * e.sib.vals.length + 1073660924)))) := ⟨rfl, by simp; omega⟩
  obtain ⟨a1, b1⟩ := h0.put (x := encNum e.key.length ++ e.key) (by have := encNum_10 (n := e.key.length) (by omega); simp; omega)
  obtain ⟨a2, q2, b2⟩ := Wr.Fit.vec (l := e.sib.seen.l) hw.2.1 a1
  obtain ⟨a3, b3⟩ := a2.put (x := encNum e.sib.vals.length) (encNum_10 (by omega))
  obtain ⟨a4, q4, b4⟩ := Wr.Fit.vals (l := e.sib.vals) (fun v hv => ⟨(hw.2.2.2 v hv).1, h3 v hv⟩) a3
  have hfit : (Wr.ent ⟨[], 1073741824, false⟩ e).Fit 1073660924 := a4
  have hmost : (Wr.ent ⟨[], 1073741824, false⟩ e).most = 1073741824 := by
    unfold Wr.ent Wr.sib
    rw [vals_most, Wr.put_most, vec_most, Wr.put_most]
  have h5 := hfit.2
  rw [hmost] at h5
  unfold size
  simp only
  split <;> omega
theorem sum_light : ∀ {l : List Ent}, (∀ e ∈ l, e.Wf ∧ Light1 e) → sum l ≤ 80900 * l.length
  | [], _ => by simp [sum]
  | e :: l, h => by
    have h1 := size_light (h e (by simp)).1 (h e (by simp)).2
    have h2 := sum_light (l := l) (fun x hx => h x (by simp [hx]))
    have h3 : sum (e :: l) = size e + sum l := rfl
    rw [h3, List.length_cons]
    omega
theorem TOk.light {l : List Ent} {n : Nat} (h : TOk l n) : ∀ e ∈ l, e.Wf ∧ Light1 e := fun e he =>
  ⟨(h.good e he).wf, by have := (h.good e he).len; omega, by have := (h.good e he).key; omega, fun v hv => by have := ((h.good e he).val v hv).2; omega⟩
/-- All that is lacked has room. -/
theorem send_told {x y : List Ent} {n : Nat} (h : TOk x n) (hn : n ≤ 200) : send x (y.map dOf) 1073741824 = told x y := by
  unfold send told
  have hsub : (x.filter fun e => lacked e (y.map dOf)).Sublist x := List.filter_sublist
  have h1 := sum_light (l := x.filter fun e => lacked e (y.map dOf)) (fun e he => h.light e (hsub.subset he))
  have h2 := hsub.length_le
  have h3 := h.len
  rw [sendL_all (by omega)]
  rfl
end Go.Proofs.Ytphlgefkcghopaa.V
