/- Tables, as plain lists: what is joined, in which order; all of it. -/
import Derived.Test.YtionebfmjjpnbaaVmTR
import Derived.Test.YtionebfmjjpnbaaVmTV
set_option linter.unusedVariables false
set_option linter.unusedSimpArgs false
namespace Go.Proofs.Ytionebfmjjpnbaa.V
open Go.Vm

/-! ### what is known of a key -/
theorem findT_put_ne {l : List Ent} {k q : List UInt8} {s : Sib} (h : k ≠ q) : findT (putT l k s) q = findT l q := by
  induction l with
  | nil => simp [putT, findT, h]
  | cons e l ih =>
    unfold putT
    split
    · rename_i hk
      subst hk
      unfold findT
      rw [List.find?_cons_of_neg (by simpa using h), List.find?_cons_of_neg (by simpa using h)]
    · unfold findT at ih ⊢
      by_cases hq : e.key = q
      · rw [List.find?_cons_of_pos (by simpa using hq), List.find?_cons_of_pos (by simpa using hq)]
      · rw [List.find?_cons_of_neg (by simpa using hq), List.find?_cons_of_neg (by simpa using hq)]
        exact ih
theorem findT_join (l : List Ent) (e : Ent) (k : List UInt8) : findT (joinT l e) k = if e.may = true ∧ e.key = k then some (nowT l e) else findT l k := by
  unfold joinT
  cases he : e.may with
  | false => simp
  | true =>
    simp only [cnd_true, true_and]
    split
    · rename_i hk; subst hk; exact findT_put _ _ _
    · rename_i hk; exact findT_put_ne hk
theorem findT_mem {l : List Ent} {k : List UInt8} {s : Sib} (h : findT l k = some s) : ∃ e ∈ l, e.key = k ∧ e.sib = s := by
  unfold findT at h
  cases hf : l.find? (fun e => decide (e.key = k)) with
  | none => rw [hf] at h; cases h
  | some e =>
    rw [hf] at h
    cases h
    exact ⟨e, List.mem_of_find?_eq_some hf, by simpa using List.find?_some hf, rfl⟩
theorem findT_isSome {l : List Ent} {k : List UInt8} : (findT l k).isSome = true ↔ k ∈ l.map Ent.key := by
  unfold findT
  rw [Option.isSome_map, List.find?_isSome]
  simp
/-- Each key once. -/
def NDup (l : List Ent) : Prop := (l.map Ent.key).Nodup
theorem putT_keys (l : List Ent) (k : List UInt8) (s : Sib) : (putT l k s).map Ent.key = if k ∈ l.map Ent.key then l.map Ent.key else l.map Ent.key ++ [k] := by
  induction l with
  | nil => simp [putT]
  | cons e l ih =>
    unfold putT
    split
    · rename_i h
      subst h
      simp
    · rename_i h
      rw [List.map_cons, ih]
      by_cases hm : k ∈ l.map Ent.key
      · rw [if_pos hm, if_pos (by simp [hm]), List.map_cons]
      · rw [if_neg hm, if_neg (by simp only [List.map_cons, List.mem_cons, not_or]; exact ⟨fun e => h e.symm, hm⟩), List.map_cons, List.cons_append]
theorem putT_ndup {l : List Ent} (h : NDup l) (k : List UInt8) (s : Sib) : NDup (putT l k s) := by
  unfold NDup
  rw [putT_keys]
  split
  · exact h
  · rename_i hk
    exact List.nodup_append.2 ⟨h, by simp, fun a ha b hb e => by simp at hb; subst hb; subst e; exact hk ha⟩
theorem joinT_ndup {l : List Ent} (h : NDup l) (e : Ent) : NDup (joinT l e) := by
  unfold joinT
  cases e.may
  · exact h
  · exact putT_ndup h _ _
theorem fold_ndup {l r : List Ent} (h : NDup r) : NDup (l.foldl joinT r) := by
  induction l generalizing r with
  | nil => exact h
  | cons e l ih => exact ih (joinT_ndup h e)
theorem findT_of_mem {l : List Ent} (hn : NDup l) {e : Ent} (he : e ∈ l) : findT l e.key = some e.sib := by
  induction l with
  | nil => cases he
  | cons x l ih =>
    unfold NDup at hn
    rw [List.map_cons, List.nodup_cons] at hn
    unfold findT
    rcases List.mem_cons.1 he with rfl | he
    · rw [List.find?_cons_of_pos (by simp)]; rfl
    · have hne : x.key ≠ e.key := fun e2 => hn.1 (e2 ▸ List.mem_map_of_mem he)
      rw [List.find?_cons_of_neg (by simpa using hne)]
      exact ih hn.2 he
/-- All entries in it may be. -/
def TMayE (l : List Ent) : Prop := ∀ e ∈ l, e.may = true
theorem TMayE.sib {l : List Ent} (h : TMayE l) : AllMay l := fun e he => ent_sib_may (h e he)
theorem putT_mem {l : List Ent} {k : List UInt8} {s : Sib} {e : Ent} (h : e ∈ putT l k s) : e = ⟨k, s⟩ ∨ e ∈ l := by
  induction l with
  | nil => simp only [putT, List.mem_singleton] at h; exact .inl h
  | cons x l ih =>
    unfold putT at h
    split at h
    · rcases List.mem_cons.1 h with rfl | h
      · exact .inl rfl
      · exact .inr (List.mem_cons_of_mem _ h)
    · rcases List.mem_cons.1 h with rfl | h
      · exact .inr (by simp)
      · exact (ih h).imp id (List.mem_cons_of_mem _)
theorem ent_may_of {k : List UInt8} {s t : Sib} (h : (⟨k, s⟩ : Ent).may = true) (ht : t.may = true) : (⟨k, t⟩ : Ent).may = true := by
  unfold Ent.may at h ⊢
  simp only [Bool.and_eq_true] at h ⊢
  exact ⟨h.1, ht⟩
theorem joinT_mayE {l : List Ent} (h : TMayE l) (e : Ent) : TMayE (joinT l e) := fun x hx => by
  unfold joinT at hx
  cases he : e.may with
  | false => rw [he] at hx; exact h x hx
  | true =>
    rw [he, cnd_true] at hx
    rcases putT_mem hx with rfl | hx
    · exact ent_may_of (s := e.sib) he (nowT_may h.sib he)
    · exact h x hx
theorem fold_mayE {l r : List Ent} (h : TMayE r) : TMayE (l.foldl joinT r) := by
  induction l generalizing r with
  | nil => exact h
  | cons e l ih => exact ih (joinT_mayE h e)
theorem TMayE.small {l : List Ent} (h : TMayE l) : KeysSmall l := fun e he => by
  have := h e he
  unfold Ent.may at this
  simp only [Bool.and_eq_true] at this
  have h2 := this.1
  unfold keyOk at h2
  simp only [Bool.and_eq_true, decide_eq_true_eq] at h2
  omega

/-! ### all of it -/
theorem keysT_ext {a b : List Ent} (ha : NDup a) (hb : NDup b) (h : ∀ k, (findT a k).isSome = (findT b k).isSome) : keysT a = keysT b := by
  refine mergeSort_of_perm ((List.perm_ext_iff_of_nodup ha hb).2 fun k => ?_)
  rw [← findT_isSome, ← findT_isSome, h k]
theorem allT_ext {a b : List Ent} (ha : NDup a) (hb : NDup b) (h : ∀ k, findT a k = findT b k) : allT a = allT b := by
  unfold allT
  rw [keysT_ext ha hb (fun k => by rw [h k])]
  exact List.map_congr_left fun k _ => by rw [h k]
theorem mem_keysT {l : List Ent} {k : List UInt8} : k ∈ keysT l ↔ k ∈ l.map Ent.key := List.mem_mergeSort
theorem mem_allT {l : List Ent} {e : Ent} : e ∈ allT l ↔ findT l e.key = some e.sib := by
  unfold allT
  rw [List.mem_map]
  constructor
  · rintro ⟨k, hk, rfl⟩
    have := findT_isSome.2 (mem_keysT.1 hk)
    obtain ⟨s, hs⟩ := Option.isSome_iff_exists.1 this
    simp [hs]
  · intro h
    exact ⟨e.key, mem_keysT.2 (findT_isSome.1 (by rw [h]; rfl)), by rw [h]; rfl⟩
theorem allT_len (l : List Ent) : (allT l).length = l.length := by simp [allT, keysT_len]
theorem allT_may {l : List Ent} (h : TMayE l) : TMayE (allT l) := fun e he => by
  obtain ⟨x, hx, h1, h2⟩ := findT_mem (mem_allT.1 he)
  have := h x hx
  cases x; cases e
  simp only at h1 h2
  subst h1 h2
  exact this
/-- The keys rise. -/
theorem keysT_lt {l : List Ent} (hn : NDup l) : (keysT l).Pairwise fun a b => a < b := by
  have h1 : (keysT l).Pairwise fun a b => leK a b = true := List.pairwise_mergeSort (fun a b c h1 h2 => by simp only [leK, decide_eq_true_eq] at *; exact List.le_trans h1 h2) (fun a b => by simp only [leK, Bool.or_eq_true, decide_eq_true_eq]; exact List.le_total a b) _
  have h2 : (keysT l).Nodup := (List.mergeSort_perm _ _).nodup_iff.2 hn
  refine (h1.and h2).imp ?_
  rintro a b ⟨h3, h4⟩
  simp only [leK, decide_eq_true_eq] at h3
  exact Std.lt_of_le_of_ne h3 h4
theorem putT_id {l : List Ent} {k : List UInt8} {s : Sib} (h : findT l k = some s) : putT l k s = l := by
  induction l with
  | nil => cases h
  | cons e l ih =>
    unfold findT at h
    unfold putT
    by_cases hk : e.key = k
    · rw [if_pos hk]
      rw [List.find?_cons_of_pos (by simpa using hk)] at h
      cases h
      cases e
      simp only at hk
      subst hk
      rfl
    · rw [if_neg hk]
      rw [List.find?_cons_of_neg (by simpa using hk)] at h
      rw [ih h]

/-! ### the order of joining -/
def sumV (l : List Sib) : Nat := (l.map fun s => s.vals.length).sum
theorem sumV_cons (s : Sib) (l : List Sib) : sumV (s :: l) = s.vals.length + sumV l := by simp [sumV]
theorem sumV_perm {a b : List Sib} (h : a.Perm b) : sumV a = sumV b := (h.map _).sum_nat
theorem join_vlenT (a b : Sib) : (a.join b).vals.length ≤ a.vals.length + b.vals.length := by
  unfold Sib.join
  cases a.may && b.may with
  | false => exact Nat.zero_le _
  | true =>
    show (joinVals a b).length ≤ _
    rw [joinVals_all, List.length_take]
    have := joinAll_len a b
    omega
noncomputable def foldJ (z : Sib) (l : List Sib) : Sib := l.foldl Sib.join z
theorem foldJ_may {z : Sib} (hz : z.may = true) : ∀ {l : List Sib}, (∀ s ∈ l, s.may = true) → (foldJ z l).may = true
  | [], _ => hz
  | s :: l, h => foldJ_may (z := z.join s) (join_may hz (h s (by simp))) fun x hx => h x (by simp [hx])
theorem join_swap {z a b : Sib} (hz : z.may = true) (ha : a.may = true) (hb : b.may = true) (hl : z.vals.length + (a.vals.length + b.vals.length) ≤ 16) : (z.join a).join b = (z.join b).join a := by
  have l1 := joinAll_len z a
  have l2 := joinAll_len z b
  have l3 := joinAll_len a b
  have l4 := joinAll_len b a
  have l5 := joinAll_len (z.join a) b
  have l6 := joinAll_len (z.join b) a
  have l7 := join_vlenT z a
  have l8 := join_vlenT z b
  rw [join_assoc hz ha hb (by omega) (by omega) (by omega), join_assoc hz hb ha (by omega) (by omega) (by omega), join_commG]
  rw [join_commG (a := z), join_commG (a := a) (b := b)]
theorem foldJ_perm {a b : List Sib} (h : a.Perm b) : ∀ {z : Sib}, z.may = true → (∀ s ∈ a, s.may = true) → z.vals.length + sumV a ≤ 16 → foldJ z a = foldJ z b := by
  induction h with
  | nil => intro z _ _ _; rfl
  | cons s h ih =>
    intro z hz hm hl
    rw [sumV_cons] at hl
    have := join_vlenT z s
    exact ih (z := z.join s) (join_may hz (hm s (by simp))) (fun x hx => hm x (by simp [hx])) (by omega)
  | swap s t l =>
    intro z hz hm hl
    rw [sumV_cons, sumV_cons] at hl
    show foldJ ((z.join t).join s) l = foldJ ((z.join s).join t) l
    rw [join_swap hz (hm t (by simp)) (hm s (by simp)) (by omega)]
  | trans h1 h2 ih1 ih2 =>
    intro z hz hm hl
    rw [ih1 hz hm hl]
    exact ih2 hz (fun x hx => hm x (h1.mem_iff.2 hx)) (by rw [← sumV_perm h1]; exact hl)
theorem join_twice {z a : Sib} (hz : z.may = true) (ha : a.may = true) (hl : z.vals.length + a.vals.length ≤ 16) : (z.join a).join a = z.join a := by
  have l1 := joinAll_len a z
  rw [join_commG (a := z.join a), join_commG (a := z)]
  exact join_abs ha hz (by omega)
theorem foldJ_twice : ∀ (l : List Sib) {z : Sib}, z.may = true → (∀ s ∈ l, s.may = true) → z.vals.length + sumV l ≤ 16 → foldJ z (l.flatMap fun s => [s, s]) = foldJ z l
  | [], _, _, _, _ => rfl
  | s :: l, z, hz, hm, hl => by
    rw [sumV_cons] at hl
    have := join_vlenT z s
    rw [List.flatMap_cons]
    show foldJ ((z.join s).join s) (l.flatMap fun s => [s, s]) = foldJ (z.join s) l
    rw [join_twice hz (hm s (by simp)) (by omega)]
    exact foldJ_twice l (join_may hz (hm s (by simp))) (fun x hx => hm x (by simp [hx])) (by omega)
/-- What is joined of a key. -/
noncomputable def sibsOf (l : List Ent) (k : List UInt8) : List Sib := (l.filter fun e => e.may && decide (e.key = k)).map Ent.sib
theorem sibsOf_may {l : List Ent} {k : List UInt8} : ∀ s ∈ sibsOf l k, s.may = true := fun s hs => by
  obtain ⟨e, he, rfl⟩ := List.mem_map.1 hs
  have := (List.mem_filter.1 he).2
  simp only [Bool.and_eq_true] at this
  exact ent_sib_may this.1
theorem sibsOf_sum (l : List Ent) (k : List UInt8) : sumV (sibsOf l k) ≤ (l.map fun e => e.sib.vals.length).sum := by
  induction l with
  | nil => exact Nat.le_refl _
  | cons e l ih =>
    unfold sibsOf at ih ⊢
    rw [List.filter_cons]
    split
    · rw [List.map_cons, sumV_cons, List.map_cons, List.sum_cons]; omega
    · rw [List.map_cons, List.sum_cons]; omega
theorem findT_fold (k : List UInt8) : ∀ (l t : List Ent), findT (l.foldl joinT t) k = if sibsOf l k = [] then findT t k else some (foldJ ((findT t k).getD zeroSib) (sibsOf l k))
  | [], t => by simp [sibsOf]
  | e :: l, t => by
    rw [List.foldl_cons, findT_fold k l (joinT t e), findT_join]
    by_cases h : e.may = true ∧ e.key = k
    · have hs : sibsOf (e :: l) k = e.sib :: sibsOf l k := by
        unfold sibsOf
        rw [List.filter_cons_of_pos (by simp [h.1, h.2]), List.map_cons]
      rw [hs, if_pos h, if_neg (List.cons_ne_nil _ _)]
      have hn : nowT t e = ((findT t k).getD zeroSib).join e.sib := by unfold nowT; rw [h.2]
      split
      · rename_i h0
        rw [h0, hn]
        rfl
      · rw [hn]
        rfl
    · have hs : sibsOf (e :: l) k = sibsOf l k := by
        unfold sibsOf
        rw [List.filter_cons_of_neg (by simpa using h)]
      rw [hs, if_neg h]
theorem sibsOf_perm {a b : List Ent} (h : a.Perm b) (k : List UInt8) : (sibsOf a k).Perm (sibsOf b k) := (h.filter _).map _
theorem sibsOf_twice (l : List Ent) (k : List UInt8) : sibsOf (l.flatMap fun e => [e, e]) k = (sibsOf l k).flatMap fun s => [s, s] := by
  unfold sibsOf
  induction l with
  | nil => rfl
  | cons e l ih =>
    rw [List.flatMap_cons, List.filter_append, List.map_append, ih, List.filter_cons]
    split
    · rename_i h
      simp [List.filter_cons, h]
    · rename_i h
      simp [List.filter_cons, h]
/-- In which order, and how often, makes no difference. -/
theorem order_same (l : List Ent) (hl : (l.map fun e => e.sib.vals.length).sum ≤ 16) (k : List UInt8) : findT ((l.reverse.flatMap fun e => [e, e]).foldl joinT []) k = findT (l.foldl joinT []) k := by
  rw [findT_fold, findT_fold, sibsOf_twice]
  have hp := sibsOf_perm (List.reverse_perm l) k
  have hs := sibsOf_sum l k
  have hz : (findT [] k) = none := rfl
  rw [hz]
  have e1 : foldJ zeroSib ((sibsOf l.reverse k).flatMap fun s => [s, s]) = foldJ zeroSib (sibsOf l k) := by
    rw [foldJ_twice _ zeroSib_may sibsOf_may (by rw [sumV_perm hp]; show 0 + _ ≤ 16; omega)]
    exact foldJ_perm hp zeroSib_may sibsOf_may (by rw [sumV_perm hp]; show 0 + _ ≤ 16; omega)
  by_cases h : sibsOf l k = []
  · have h2 : sibsOf l.reverse k = [] := by
      have := hp.length_eq
      rw [h] at this
      exact List.eq_nil_of_length_eq_zero this
    rw [h, h2]
    rfl
  · have h2 : ((sibsOf l.reverse k).flatMap fun s => [s, s]) ≠ [] := by
      intro e
      have h3 : sibsOf l.reverse k ≠ [] := fun e2 => h (List.eq_nil_of_length_eq_zero (by rw [← hp.length_eq, e2]; rfl))
      obtain ⟨x, xs, hx⟩ := List.exists_cons_of_ne_nil h3
      rw [hx] at e
      cases e
    rw [if_neg h, if_neg h2]
    show some (foldJ zeroSib _) = some (foldJ zeroSib _)
    rw [e1]
end Go.Proofs.Ytionebfmjjpnbaa.V
