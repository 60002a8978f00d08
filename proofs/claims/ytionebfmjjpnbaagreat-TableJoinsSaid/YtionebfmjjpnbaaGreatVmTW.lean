/- Tables, as plain lists: what is joined, in which order; all of it. -/
import Derived.Test.YtionebfmjjpnbaaGreatVmTR
import Derived.Test.YtionebfmjjpnbaaGreatVmTV
set_option linter.unusedVariables false
set_option linter.unusedSimpArgs false
namespace Go.Proofs.YtionebfmjjpnbaaGreat.V
open Go.Vm

/-! ### what is known of a key -/
theorem findT_put_ne {l : List Ent} {k q : List UInt8} {s : Sib} (h : k ≠ q) : findT (putT l k s) q = findT l q := by
  induction l with
  | nil => simp [putT, findT, h]
  | cons e l ih =>
    unfold putT
    split
    · rename_i hk
      subst hk
      unfold findT
      rw [List.find?_cons_of_neg (by simpa using h), List.find?_cons_of_neg (by simpa using h)]
    · unfold findT at ih ⊢
      by_cases hq : e.key = q
      · rw [List.find?_cons_of_pos (by simpa using hq), List.find?_cons_of_pos (by simpa using hq)]
      · rw [List.find?_cons_of_neg (by simpa using hq), List.find?_cons_of_neg (by simpa using hq)]
        exact ih
theorem findT_mem {l : List Ent} {k : List UInt8} {s : Sib} (h : findT l k = some s) : ∃ e ∈ l, e.key = k ∧ e.sib = s := by
  unfold findT at h
  cases hf : l.find? (fun e => decide (e.key = k)) with
  | none => rw [hf] at h; cases h
  | some e =>
    rw [hf] at h
    cases h
    exact ⟨e, List.mem_of_find?_eq_some hf, by simpa using List.find?_some hf, rfl⟩
theorem findT_isSome {l : List Ent} {k : List UInt8} : (findT l k).isSome = true ↔ k ∈ l.map Ent.key := by
  unfold findT
  rw [Option.isSome_map, List.find?_isSome]
  simp
/-- Each key once. -/
def NDup (l : List Ent) : Prop := (l.map Ent.key).Nodup
theorem putT_keys (l : List Ent) (k : List UInt8) (s : Sib) : (putT l k s).map Ent.key = if k ∈ l.map Ent.key then l.map Ent.key else l.map Ent.key ++ [k] := by
  induction l with
  | nil => simp [putT]
  | cons e l ih =>
    unfold putT
    split
    · rename_i h
      subst h
      simp
    · rename_i h
      rw [List.map_cons, ih]
      by_cases hm : k ∈ l.map Ent.key
      · rw [if_pos hm, if_pos (by simp [hm]), List.map_cons]
      · rw [if_neg hm, if_neg (by simp only [List.map_cons, List.mem_cons, not_or]; exact ⟨fun e => h e.symm, hm⟩), List.map_cons, List.cons_append]
theorem putT_ndup {l : List Ent} (h : NDup l) (k : List UInt8) (s : Sib) : NDup (putT l k s) := by
  unfold NDup
  rw [putT_keys]
  split
  · exact h
  · rename_i hk
    exact List.nodup_append.2 ⟨h, by simp, fun a ha b hb e => by simp at hb; subst hb; subst e; exact hk ha⟩
theorem joinT_ndup {l : List Ent} (h : NDup l) (e : Ent) : NDup (joinT l e) := by
  unfold joinT
  cases e.may
  · exact h
  · exact putT_ndup h _ _
theorem fold_ndup {l r : List Ent} (h : NDup r) : NDup (l.foldl joinT r) := by
  induction l generalizing r with
  | nil => exact h
  | cons e l ih => exact ih (joinT_ndup h e)
/-- All entries in it may be. -/
def TMayE (l : List Ent) : Prop := ∀ e ∈ l, e.may = true
theorem TMayE.sib {l : List Ent} (h : TMayE l) : AllMay l := fun e he => ent_sib_may (h e he)
theorem putT_mem {l : List Ent} {k : List UInt8} {s : Sib} {e : Ent} (h : e ∈ putT l k s) : e = ⟨k, s⟩ ∨ e ∈ l := by
  induction l with
  | nil => simp only [putT, List.mem_singleton] at h; exact .inl h
  | cons x l ih =>
    unfold putT at h
    split at h
    · rcases List.mem_cons.1 h with rfl | h
      · exact .inl rfl
      · exact .inr (List.mem_cons_of_mem _ h)
    · rcases List.mem_cons.1 h with rfl | h
      · exact .inr (by simp)
      · exact (ih h).imp id (List.mem_cons_of_mem _)
theorem ent_may_of {k : List UInt8} {s t : Sib} (h : (⟨k, s⟩ : Ent).may = true) (ht : t.may = true) : (⟨k, t⟩ : Ent).may = true := by
  unfold Ent.may at h ⊢
  simp only [Bool.and_eq_true] at h ⊢
  exact ⟨h.1, ht⟩
theorem joinT_mayE {l : List Ent} (h : TMayE l) (e : Ent) : TMayE (joinT l e) := fun x hx => by
  unfold joinT at hx
  cases he : e.may with
  | false => rw [he] at hx; exact h x hx
  | true =>
    rw [he, cnd_true] at hx
    rcases putT_mem hx with rfl | hx
    · exact ent_may_of (s := e.sib) he (nowT_may h.sib he)
    · exact h x hx
theorem fold_mayE {l r : List Ent} (h : TMayE r) : TMayE (l.foldl joinT r) := by
  induction l generalizing r with
  | nil => exact h
  | cons e l ih => exact ih (joinT_mayE h e)
theorem TMayE.small {l : List Ent} (h : TMayE l) : KeysSmall l := fun e he => by
  have := h e he
  unfold Ent.may at this
  simp only [Bool.and_eq_true] at this
  have h2 := this.1
  unfold keyOk at h2
  simp only [Bool.and_eq_true, decide_eq_true_eq] at h2
  omega

/-! ### all of it -/
theorem mem_keysT {l : List Ent} {k : List UInt8} : k ∈ keysT l ↔ k ∈ l.map Ent.key := List.mem_mergeSort
theorem mem_allT {l : List Ent} {e : Ent} : e ∈ allT l ↔ findT l e.key = some e.sib := by
  unfold allT
  rw [List.mem_map]
  constructor
  · rintro ⟨k, hk, rfl⟩
    have := findT_isSome.2 (mem_keysT.1 hk)
    obtain ⟨s, hs⟩ := Option.isSome_iff_exists.1 this
    simp [hs]
  · intro h
    exact ⟨e.key, mem_keysT.2 (findT_isSome.1 (by rw [h]; rfl)), by rw [h]; rfl⟩
theorem allT_len (l : List Ent) : (allT l).length = l.length := by simp [allT, keysT_len]
theorem allT_may {l : List Ent} (h : TMayE l) : TMayE (allT l) := fun e he => by
  obtain ⟨x, hx, h1, h2⟩ := findT_mem (mem_allT.1 he)
  have := h x hx
  cases x; cases e
  simp only at h1 h2
  subst h1 h2
  exact this
/-- The keys rise. -/
theorem keysT_lt {l : List Ent} (hn : NDup l) : (keysT l).Pairwise fun a b => a < b := by
  have h1 : (keysT l).Pairwise fun a b => leK a b = true := List.pairwise_mergeSort (fun a b c h1 h2 => by simp only [leK, decide_eq_true_eq] at *; exact List.le_trans h1 h2) (fun a b => by simp only [leK, Bool.or_eq_true, decide_eq_true_eq]; exact List.le_total a b) _
  have h2 : (keysT l).Nodup := (List.mergeSort_perm _ _).nodup_iff.2 hn
  refine (h1.and h2).imp ?_
  rintro a b ⟨h3, h4⟩
  simp only [leK, decide_eq_true_eq] at h3
  exact Std.lt_of_le_of_ne h3 h4
theorem putT_id {l : List Ent} {k : List UInt8} {s : Sib} (h : findT l k = some s) : putT l k s = l := by
  induction l with
  | nil => cases h
  | cons e l ih =>
    unfold findT at h
    unfold putT
    by_cases hk : e.key = k
    · rw [if_pos hk]
      rw [List.find?_cons_of_pos (by simpa using hk)] at h
      cases h
      cases e
      simp only at hk
      subst hk
      rfl
    · rw [if_neg hk]
      rw [List.find?_cons_of_neg (by simpa using hk)] at h
      rw [ih h]

/-! ### the order of joining -/
def sumV (l : List Sib) : Nat := (l.map fun s => s.vals.length).sum
noncomputable def foldJ (z : Sib) (l : List Sib) : Sib := l.foldl Sib.join z
/-- What is joined of a key. -/
noncomputable def sibsOf (l : List Ent) (k : List UInt8) : List Sib := (l.filter fun e => e.may && decide (e.key = k)).map Ent.sib
end Go.Proofs.YtionebfmjjpnbaaGreat.V
