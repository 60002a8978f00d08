/- Joining, dot by dot. No function of the program in sight. -/
import Derived.Test.YthkfjefoblmbhaaVmSB
import Derived.Test.YthkfjefoblmbhaaVmTB
set_option linter.unusedVariables false
set_option linter.unusedSimpArgs false
namespace Go.Proofs.Ythkfjefoblmbhaa.V
open Go.Vm

theorem first_dot {x y : Val} (h : x.dot = y.dot) : (x.first y).dot = x.dot := by
  rcases first_or x y with e | e <;> rw [e]
  exact h.symm
theorem first_self (x : Val) : x.first x = x := by
  rcases first_or x x with e | e <;> exact e
def befo (x y : Val) : Bool := (!x.dead && y.dead) || (decide (x.dead = y.dead) && bytesLess x.data y.data)
def gv (l : List Val) (d : Dot) : Option Val := l.find? fun v => decide (v.dot = d)
theorem gv_some {l : List Val} {d : Dot} {v : Val} (h : gv l d = some v) : v ∈ l ∧ v.dot = d := ⟨List.mem_of_find?_eq_some h, by simpa using List.find?_some h⟩
theorem gv_none {l : List Val} {d : Dot} : gv l d = none ↔ ∀ v ∈ l, v.dot ≠ d := by
  unfold gv
  rw [List.find?_eq_none]
  simp
theorem gv_mem {l : List Val} (hs : Srt l) {d : Dot} {v : Val} : gv l d = some v ↔ v ∈ l ∧ v.dot = d := by
  refine ⟨gv_some, fun ⟨h1, h2⟩ => ?_⟩
  cases hg : gv l d with
  | none => exact absurd h2 (gv_none.1 hg v h1)
  | some u =>
    obtain ⟨h3, h4⟩ := gv_some hg
    rw [Srt.dot_inj hs h3 h1 (h4.trans h2.symm)]
theorem gv_ext {a b : List Val} (ha : Srt a) (hb : Srt b) (h : ∀ d, gv a d = gv b d) : a = b := by
  refine Srt.ext ha hb fun v => ?_
  have h1 := gv_mem ha (d := v.dot) (v := v)
  have h2 := gv_mem hb (d := v.dot) (v := v)
  rw [h v.dot] at h1
  constructor
  · intro hv; exact (h2.1 (h1.2 ⟨hv, rfl⟩)).1
  · intro hv; exact (h1.1 (h2.2 ⟨hv, rfl⟩)).1
theorem gv_find (l : List Val) (d : Dot) : gv l d = cnd (findD l d).isSome (some (findV l d)) none := by
  unfold findV
  cases hf : findD l d with
  | none => simp only [Option.isSome_none, cnd_false]; exact gv_none.2 (findD_none_iff.1 hf)
  | some k =>
    obtain ⟨v, h1, h2⟩ := findD_some hf
    simp only [Option.isSome_some, cnd_true, h1, Option.getD_some]
    unfold findD at hf
    rw [List.findIdx?_eq_some_iff_getElem] at hf
    obtain ⟨h3, h4, h5⟩ := hf
    have hv : l[k] = v := by rw [List.getElem?_eq_getElem h3] at h1; exact Option.some.inj h1
    unfold gv
    rw [List.find?_eq_some_iff_getElem]
    refine ⟨by simpa using h2, k, h3, hv, fun j hj => ?_⟩
    have := h5 j hj
    simpa using this
def jv : Option Val → Option Val → Bool → Bool → Option Val
  | some x, some y, _, _ => some (x.first y)
  | some x, none, _, cb => cnd cb none (some x)
  | none, some y, ca, _ => cnd ca none (some y)
  | none, none, _, _ => none
def fA (b : Sib) (v : Val) : Option Val := match gv b.vals v.dot with
  | some y => some (v.first y)
  | none => cnd (b.seen.covers v.dot) none (some v)
theorem jA_fold (b : Sib) : ∀ (l out : List Val), l.foldl (jA b) out = out ++ l.filterMap (fA b)
  | [], out => by simp
  | v :: l, out => by
    rw [List.foldl_cons, jA_fold b l, List.filterMap_cons]
    unfold jA fA
    rw [gv_find]
    cases (findD b.vals v.dot).isSome
    · simp only [cnd_false]
      cases b.seen.covers v.dot <;> simp
    · simp
theorem jB_fold (a : Sib) : ∀ (l out : List Val), l.foldl (jB a) out = out ++ l.filter fun v => !a.seen.covers v.dot
  | [], out => by simp
  | v :: l, out => by
    rw [List.foldl_cons, jB_fold a l, List.filter_cons]
    unfold jB
    cases a.seen.covers v.dot <;> simp
theorem mem_joinAllG {a b : Sib} (ha : a.may = true) {v : Val} : v ∈ joinAll a b ↔ (∃ x ∈ a.vals, fA b x = some v) ∨ (v ∈ b.vals ∧ a.seen.covers v.dot = false) := by
  rw [← (jAll_perm b ha).mem_iff]
  unfold jAll
  rw [jB_fold, jA_fold]
  simp [List.mem_filterMap]
theorem fA_dot {b : Sib} {x v : Val} (h : fA b x = some v) : v.dot = x.dot := by
  unfold fA at h
  cases hg : gv b.vals x.dot with
  | some y =>
    rw [hg] at h
    cases h
    exact first_dot (gv_some hg).2.symm
  | none =>
    rw [hg] at h
    simp only at h
    cases hc : b.seen.covers x.dot <;> rw [hc] at h <;> cases h
    rfl
theorem gv_joinAll {a b : Sib} (ha : a.may = true) (hb : b.may = true) (d : Dot) : gv (joinAll a b) d = jv (gv a.vals d) (gv b.vals d) (a.seen.covers d) (b.seen.covers d) := by
  have sa := (may_iff a).1 ha
  have sb := (may_iff b).1 hb
  have hs := joinAll_srt sa.srt sb.srt
  apply Option.ext
  intro v
  rw [gv_mem hs, mem_joinAllG ha]
  constructor
  · rintro ⟨⟨x, hx, hf⟩ | ⟨hv, hc⟩, rfl⟩
    · have hxd := fA_dot hf
      rw [hxd]
      have hga : gv a.vals x.dot = some x := (gv_mem sa.srt).2 ⟨hx, rfl⟩
      rw [hga]
      unfold fA at hf
      cases hgb : gv b.vals x.dot with
      | some y => rw [hgb] at hf; exact hf
      | none => rw [hgb] at hf; exact hf
    · have hga : gv a.vals v.dot = none := gv_none.2 fun u hu e => by
        have := valOk_covers (sa.val u hu)
        rw [e, hc] at this; cases this
      have hgb : gv b.vals v.dot = some v := (gv_mem sb.srt).2 ⟨hv, rfl⟩
      rw [hga, hgb, hc]
      rfl
  · intro h
    cases hga : gv a.vals d with
    | some x =>
      obtain ⟨hx, hxd⟩ := gv_some hga
      have hf : fA b x = some v := by
        unfold fA
        rw [hxd]
        rw [hga] at h
        cases hgb : gv b.vals d with
        | some y => rw [hgb] at h; exact h
        | none => rw [hgb] at h; exact h
      exact ⟨.inl ⟨x, hx, hf⟩, (fA_dot hf).trans hxd⟩
    | none =>
      rw [hga] at h
      cases hgb : gv b.vals d with
      | some y =>
        rw [hgb] at h
        obtain ⟨hy, hyd⟩ := gv_some hgb
        simp only [jv] at h
        cases hc : a.seen.covers d <;> rw [hc] at h <;> cases h
        exact ⟨.inr ⟨hy, by rw [hyd]; exact hc⟩, hyd⟩
      | none => rw [hgb] at h; cases h
theorem joinAll_sort {a b : Sib} (ha : a.may = true) (hb : b.may = true) : Srt (joinAll a b) := joinAll_srt ((may_iff a).1 ha).srt ((may_iff b).1 hb).srt
theorem join_all {a b : Sib} (ha : a.may = true) (hb : b.may = true) (hl : (joinAll a b).length ≤ 16) : a.join b = ⟨a.seen.join b.seen, joinAll a b⟩ := by
  unfold Sib.join
  rw [ha, hb, joinVals_all, List.take_of_length_le hl]
  rfl
theorem Vec_join_self (a : Vec) : a.join a = a := by
  refine Vec.ext_l ?_
  show List.zipWith max a.l a.l = a.l
  generalize a.l = l
  induction l with
  | nil => rfl
  | cons x l ih => simp [ih]
theorem joinAll_self {a : Sib} (ha : a.may = true) : joinAll a a = a.vals := by
  refine gv_ext (joinAll_sort ha ha) ((may_iff a).1 ha).srt fun d => ?_
  rw [gv_joinAll ha ha]
  cases hg : gv a.vals d with
  | none => rfl
  | some x => simp only [jv, first_self]
theorem join_self {a : Sib} (ha : a.may = true) : a.join a = a := by
  have hl := may_len ha
  rw [join_all ha ha (by rw [joinAll_self ha]; exact hl), joinAll_self ha, Vec_join_self]
end Go.Proofs.Ythkfjefoblmbhaa.V
