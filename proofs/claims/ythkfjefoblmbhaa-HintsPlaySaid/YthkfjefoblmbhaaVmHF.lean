/- Hints as plain lists: putting, dropping, finding; what 'Put' and the rest compute of them. -/
import Derived.Test.YthkfjefoblmbhaaVmHE
set_option linter.unusedVariables false
set_option linter.unusedSimpArgs false
namespace Go.Proofs.Ythkfjefoblmbhaa.V
open Go.Vm

def ltK (a : Int) (x : List UInt8) (b : Int) (y : List UInt8) : Bool := decide (a < b) || (decide (a = b) && bytesLess x y)
theorem hlt_ltK (x : Hnt) (n : Int) (k : List UInt8) : hlt x n k = ltK x.node x.key n k := rfl
theorem ltK_irrefl (a : Int) (x : List UInt8) : ltK a x a x = false := by simp [ltK, bytesLess_irrefl]
theorem ltK_trans {a b c : Int} {x y z : List UInt8} (h1 : ltK a x b y = true) (h2 : ltK b y c z = true) : ltK a x c z = true := by
  simp only [ltK, Bool.or_eq_true, Bool.and_eq_true, decide_eq_true_eq] at h1 h2 ⊢
  rcases h1 with h1 | ⟨rfl, h1⟩
  · rcases h2 with h2 | ⟨rfl, h2⟩
    · exact .inl (by omega)
    · exact .inl h1
  · rcases h2 with h2 | ⟨rfl, h2⟩
    · exact .inl h2
    · exact .inr ⟨rfl, bytesLess_trans h1 h2⟩
theorem ltK_tri (a b : Int) (x y : List UInt8) : ltK a x b y = true ∨ (a = b ∧ x = y) ∨ ltK b y a x = true := by
  simp only [ltK, Bool.or_eq_true, Bool.and_eq_true, decide_eq_true_eq]
  by_cases h1 : a < b
  · exact .inl (.inl h1)
  · by_cases h2 : b < a
    · exact .inr (.inr (.inl h2))
    · have : a = b := by omega
      subst this
      rcases bytesLess_tri x y with h | h | h
      · exact .inl (.inr ⟨rfl, h⟩)
      · exact .inr (.inl ⟨rfl, h⟩)
      · exact .inr (.inr (.inr ⟨rfl, h⟩))
theorem heq_iff {x : Hnt} {n : Int} {k : List UInt8} : heq x n k = true ↔ x.node = n ∧ x.key = k := by simp [heq]
theorem heq_false {x : Hnt} {n : Int} {k : List UInt8} (h : hlt x n k = true) : heq x n k = false := by
  cases h2 : heq x n k
  · rfl
  · obtain ⟨rfl, rfl⟩ := heq_iff.1 h2
    rw [hlt_ltK, ltK_irrefl] at h; cases h

abbrev HSrt (l : List Hnt) : Prop := l.Pairwise fun x y => ltK x.node x.key y.node y.key = true
def posH (l : List Hnt) (n : Int) (k : List UInt8) : Nat := (l.takeWhile fun x => hlt x n k).length
theorem cut_pos {n : Int} {k : List UInt8} : ∀ {l : List Hnt}, HSrt l → CutAt l n k (posH l n k)
  | [], _ => ⟨Nat.le_refl _, fun j x hx => by simp at hx⟩
  | a :: l, hs => by
    rw [HSrt, List.pairwise_cons] at hs
    obtain ⟨ha, hs⟩ := hs
    have ih := cut_pos (n := n) (k := k) hs
    unfold posH
    cases h : hlt a n k with
    | true =>
      rw [List.takeWhile_cons_of_pos (by simpa using h), List.length_cons]
      refine ⟨by have := ih.le; unfold posH at this; simp; exact this, fun j x hx => ?_⟩
      cases j with
      | zero => simp at hx; subst hx; simp [h]
      | succ j =>
        simp at hx
        rw [ih.lt j x hx]
        unfold posH
        simp
    | false =>
      rw [List.takeWhile_cons_of_neg (by simp [h])]
      refine ⟨by simp, fun j x hx => ?_⟩
      simp only [List.length_nil, Nat.not_lt_zero, decide_false]
      cases j with
      | zero => simp at hx; subst hx; exact h
      | succ j =>
        simp at hx
        cases hx2 : hlt x n k
        · rfl
        · have := ltK_trans (ha x (List.mem_of_getElem? hx)) hx2
          rw [hlt_ltK, this] at h; cases h

def getH (l : List Hnt) (n : Int) (k : List UInt8) : Option Sib := (l.find? fun x => heq x n k).map Hnt.sib
noncomputable def putH (l : List Hnt) (x : Hnt) : List Hnt :=
  match l with
  | [] => [cpH x]
  | a :: t => cnd (hlt a x.node x.key) (a :: putH t x) (cnd (heq a x.node x.key) (a.with (a.sib.join x.sib) :: t) (cpH x :: a :: t))
def dropS (l : List Hnt) (n : Int) (k : List UInt8) : List Hnt := l.filter fun x => !heq x n k
theorem found_pos {n : Int} {k : List UInt8} : ∀ {l : List Hnt}, HSrt l →
    (foundAt l n k (posH l n k) = false ∧ getH l n k = none) ∨ ∃ e, l[posH l n k]? = some e ∧ heq e n k = true ∧ foundAt l n k (posH l n k) = true ∧ getH l n k = some e.sib
  | [], _ => .inl ⟨rfl, rfl⟩
  | a :: l, hs => by
    rw [HSrt, List.pairwise_cons] at hs
    obtain ⟨ha, hs⟩ := hs
    have ih := found_pos (n := n) (k := k) hs
    unfold foundAt posH getH at *
    cases h : hlt a n k with
    | true =>
      have h2 := heq_false h
      rw [List.takeWhile_cons_of_pos (by simpa using h), List.length_cons, List.find?_cons_of_neg (by simp [h2])]
      simpa using ih
    | false =>
      rw [List.takeWhile_cons_of_neg (by simp [h])]
      cases h2 : heq a n k with
      | true =>
        refine .inr ⟨a, rfl, h2, by simpa using h2, ?_⟩
        rw [List.find?_cons_of_pos (by simpa using h2)]
        rfl
      | false =>
        refine .inl ⟨by simpa using h2, ?_⟩
        rw [List.find?_cons_of_neg (by simp [h2])]
        have : l.find? (fun x => heq x n k) = none := by
          rw [List.find?_eq_none]
          intro x hx hq
          obtain ⟨rfl, rfl⟩ := heq_iff.1 (by simpa using hq)
          have h3 := ha x hx
          rw [← hlt_ltK, h] at h3; cases h3
        rw [this]; rfl
theorem putH_found {x : Hnt} : ∀ {l : List Hnt} {e : Hnt}, l[posH l x.node x.key]? = some e → heq e x.node x.key = true → l.set (posH l x.node x.key) (e.with (e.sib.join x.sib)) = putH l x
  | [], e, h, _ => by simp [posH] at h
  | a :: l, e, h, hq => by
    unfold putH
    unfold posH at h ⊢
    cases hl : hlt a x.node x.key with
    | true =>
      rw [List.takeWhile_cons_of_pos (by simpa using hl), List.length_cons] at h ⊢
      rw [cnd_true, List.set_cons_succ]
      congr 1
      exact putH_found (by unfold posH; simpa using h) hq
    | false =>
      rw [List.takeWhile_cons_of_neg (by simp [hl])] at h ⊢
      simp at h
      subst h
      rw [cnd_false, hq, cnd_true]
      rfl
theorem putH_new {x : Hnt} : ∀ {l : List Hnt}, foundAt l x.node x.key (posH l x.node x.key) = false → l.take (posH l x.node x.key) ++ x.with (x.sib.join x.sib) :: l.drop (posH l x.node x.key) = putH l x
  | [], _ => rfl
  | a :: l, h => by
    unfold putH
    unfold foundAt posH at h
    unfold posH
    cases hl : hlt a x.node x.key with
    | true =>
      rw [List.takeWhile_cons_of_pos (by simpa using hl), List.length_cons] at h ⊢
      rw [cnd_true, List.take_succ_cons, List.drop_succ_cons, List.cons_append]
      congr 1
      exact putH_new (by unfold foundAt posH; simpa using h)
    | false =>
      rw [List.takeWhile_cons_of_neg (by simp [hl])] at h ⊢
      simp at h
      rw [cnd_false, h, cnd_false]
      rfl
theorem drop_found {n : Int} {k : List UInt8} : ∀ {l : List Hnt} {e : Hnt}, HSrt l → l[posH l n k]? = some e → heq e n k = true → l.take (posH l n k) ++ l.drop (posH l n k + 1) = dropS l n k
  | [], e, _, h, _ => by simp [posH] at h
  | a :: l, e, hs, h, hq => by
    rw [HSrt, List.pairwise_cons] at hs
    obtain ⟨ha, hs⟩ := hs
    unfold posH at h ⊢
    unfold dropS
    cases hl : hlt a n k with
    | true =>
      rw [List.takeWhile_cons_of_pos (by simpa using hl), List.length_cons] at h ⊢
      rw [List.filter_cons_of_pos (by simp [heq_false hl]), List.take_succ_cons, List.drop_succ_cons, List.cons_append]
      congr 1
      exact drop_found hs (by unfold posH; simpa using h) hq
    | false =>
      rw [List.takeWhile_cons_of_neg (by simp [hl])] at h ⊢
      simp at h
      subst h
      rw [List.filter_cons_of_neg (by simp [hq])]
      simp only [List.length_nil, List.take_zero, List.nil_append, Nat.zero_add, List.drop_succ_cons, List.drop_zero]
      symm
      rw [List.filter_eq_self]
      intro x hx
      obtain ⟨rfl, rfl⟩ := heq_iff.1 hq
      have h3 := ha x hx
      cases h4 : heq x a.node a.key
      · rfl
      · obtain ⟨e1, e2⟩ := heq_iff.1 h4
        rw [e1, e2, ltK_irrefl] at h3; cases h3

structure HInv (l : List Hnt) : Prop where
  srt : HSrt l
  may : ∀ x ∈ l, mayH x = true
  len : l.length ≤ 64
theorem HInv.nil : HInv [] := ⟨.nil, by simp, by simp⟩
theorem mayH_sib {x : Hnt} (h : mayH x = true) : x.sib.may = true := by
  unfold mayH Ent.may at h
  simp only [Bool.and_eq_true] at h
  exact h.2.2.2
theorem mayH_iff {x : Hnt} : mayH x = true ↔ 0 ≤ x.node ∧ x.node < 8 ∧ keyOk x.key = true ∧ x.sib.may = true := by
  unfold mayH Ent.may
  simp only [Bool.and_eq_true, decide_eq_true_eq]
  exact Iff.rfl
theorem cpH_self {x : Hnt} (h : mayH x = true) : cpH x = x := by
  unfold cpH
  rw [join_self (mayH_sib h)]
  rfl
theorem mayH_with {x : Hnt} (h : mayH x = true) {s : Sib} (hs : s.may = true) : mayH (x.with s) = true := by
  rw [mayH_iff] at h ⊢
  exact ⟨h.1, h.2.1, h.2.2.1, hs⟩
theorem putH_mem {l : List Hnt} {x y : Hnt} (h : y ∈ putH l x) : y = cpH x ∨ y ∈ l ∨ ∃ a ∈ l, heq a x.node x.key = true ∧ y = a.with (a.sib.join x.sib) := by
  induction l with
  | nil => simp [putH] at h; exact .inl h
  | cons a t ih =>
    unfold putH at h
    cases h1 : hlt a x.node x.key with
    | true =>
      rw [h1, cnd_true, List.mem_cons] at h
      rcases h with rfl | h
      · exact .inr (.inl (by simp))
      · rcases ih h with h | h | ⟨b, hb, h2⟩
        · exact .inl h
        · exact .inr (.inl (by simp [h]))
        · exact .inr (.inr ⟨b, by simp [hb], h2⟩)
    | false =>
      rw [h1, cnd_false] at h
      cases h2 : heq a x.node x.key with
      | true =>
        rw [h2, cnd_true, List.mem_cons] at h
        rcases h with rfl | h
        · exact .inr (.inr ⟨a, by simp, h2, rfl⟩)
        · exact .inr (.inl (by simp [h]))
      | false =>
        rw [h2, cnd_false, List.mem_cons] at h
        rcases h with rfl | h
        · exact .inl rfl
        · exact .inr (.inl h)
theorem putH_key {l : List Hnt} {x y : Hnt} (h : y ∈ putH l x) : (y.node = x.node ∧ y.key = x.key) ∨ ∃ a ∈ l, a.node = y.node ∧ a.key = y.key := by
  rcases putH_mem h with rfl | h | ⟨a, ha, h1, rfl⟩
  · exact .inl ⟨rfl, rfl⟩
  · exact .inr ⟨y, h, rfl, rfl⟩
  · exact .inr ⟨a, ha, rfl, rfl⟩
theorem putH_srt {x : Hnt} : ∀ {l : List Hnt}, HSrt l → HSrt (putH l x)
  | [], _ => by simp [putH, HSrt]
  | a :: t, hs => by
    have hs0 := hs
    rw [HSrt, List.pairwise_cons] at hs
    obtain ⟨ha, hs⟩ := hs
    unfold putH
    cases h1 : hlt a x.node x.key with
    | true =>
      rw [cnd_true, HSrt, List.pairwise_cons]
      refine ⟨fun y hy => ?_, putH_srt hs⟩
      rcases putH_key hy with ⟨e1, e2⟩ | ⟨b, hb, e1, e2⟩
      · rw [e1, e2]; exact h1
      · rw [← e1, ← e2]; exact ha b hb
    | false =>
      rw [cnd_false]
      cases h2 : heq a x.node x.key with
      | true =>
        rw [cnd_true, HSrt, List.pairwise_cons]
        exact ⟨fun y hy => ha y hy, hs⟩
      | false =>
        rw [cnd_false, HSrt, List.pairwise_cons]
        have hxa : ltK x.node x.key a.node a.key = true := by
          rcases ltK_tri x.node a.node x.key a.key with h | ⟨e1, e2⟩ | h
          · exact h
          · have := heq_iff.2 ⟨e1.symm, e2.symm⟩
            rw [h2] at this; cases this
          · rw [← hlt_ltK, h1] at h; cases h
        refine ⟨fun y hy => ?_, hs0⟩
        rcases List.mem_cons.1 hy with rfl | hy
        · exact hxa
        · exact ltK_trans hxa (ha y hy)
theorem putH_may {l : List Hnt} (h : ∀ y ∈ l, mayH y = true) {x : Hnt} (hx : mayH x = true) : ∀ y ∈ putH l x, mayH y = true := fun y hy => by
  rcases putH_mem hy with rfl | hy | ⟨a, ha, _, rfl⟩
  · rw [cpH_self hx]; exact hx
  · exact h y hy
  · exact mayH_with (h a ha) (join_may (mayH_sib (h a ha)) (mayH_sib hx))
theorem putH_len {l : List Hnt} (hs : HSrt l) (x : Hnt) : (putH l x).length = l.length + cnd (getH l x.node x.key).isSome 0 1 := by
  rcases found_pos (n := x.node) (k := x.key) hs with ⟨h1, h2⟩ | ⟨e, h1, h2, h3, h4⟩
  · rw [h2, ← putH_new h1]
    have := (cut_pos (n := x.node) (k := x.key) hs).le
    simp
    omega
  · rw [h4, ← putH_found h1 h2]
    simp
theorem HInv.put {l : List Hnt} (h : HInv l) {x : Hnt} (hx : mayH x = true) (hr : (getH l x.node x.key).isSome = true ∨ l.length < 64) : HInv (putH l x) := by
  refine ⟨putH_srt h.srt, putH_may h.may hx, ?_⟩
  rw [putH_len h.srt]
  have := h.len
  rcases hr with hr | hr
  · rw [hr]; exact this
  · cases (getH l x.node x.key).isSome <;> simp <;> omega
theorem HInv.drop {l : List Hnt} (h : HInv l) (n : Int) (k : List UInt8) : HInv (dropS l n k) :=
  ⟨h.srt.filter _, fun x hx => h.may x (List.mem_filter.1 hx).1, Nat.le_trans (List.length_filter_le _ _) h.len⟩

noncomputable def putB (l : List Hnt) (x : Hnt) : Bool := mayH x && (match getH l x.node x.key with | some s => !decide (s = s.join x.sib) | none => decide (l.length < 64))
noncomputable def putE (l : List Hnt) (x : Hnt) : Int := cnd (mayH x) (cnd ((getH l x.node x.key).isSome || decide (l.length < 64)) 0 11) 1
noncomputable def putL (l : List Hnt) (x : Hnt) : List Hnt := cnd (mayH x && ((getH l x.node x.key).isSome || decide (l.length < 64))) (putH l x) l
noncomputable def putW (l : List Hnt) (x : Hnt) : Bool := mayH x && (!(getH l x.node x.key).isSome && decide (l.length < 64))
theorem HInv.putL {l : List Hnt} (h : HInv l) (x : Hnt) : HInv (putL l x) := by
  unfold V.putL
  cases hx : mayH x with
  | false => exact h
  | true =>
    rw [Bool.true_and]
    cases hg : (getH l x.node x.key).isSome || decide (l.length < 64) with
    | false => exact h
    | true =>
      refine h.put hx ?_
      simpa using hg
section
variable {h : Heap} {i : Nat} {l : List Hnt} (hi : hget h i = some (hsO l)) (inv : HInv l)
include hi inv
theorem hintsPut_eq (x : Hnt) : callL E F.hints_Set_Put [.ptr (some (i, 0)), x.v] h = some (.tup [.bool (putB l x), .int .i64 (putE l x)], hset h i (hsO (putL l x)), ⟨cnd (putW l x && decide (i < h.length)) [i] [], [], mayH x⟩) := by
  have hlt := hget_lt hi
  unfold putB putE putL putW
  cases hx : mayH x with
  | false =>
    rw [hintsPut_bad x hx (some (i, 0)) h (fun _ _ => trivial)]
    simp only [Bool.false_and, cnd_false, hsf3 hi]
  | true =>
    have hc := cut_pos (n := x.node) (k := x.key) inv.srt
    rcases found_pos (n := x.node) (k := x.key) inv.srt with ⟨h1, h2⟩ | ⟨e, h1, h2, h3, h4⟩
    · rw [h2]
      by_cases h64 : l.length < 64
      · rw [hintsPut_new hi inv.len x hx hc h1 h64, putH_new h1]
        simp [h64]
      · rw [hintsPut_full hi inv.len x hx hc h1 (by have := inv.len; omega)]
        simp [h64, hsf3 hi]
    · rw [h4, hintsPut_there hi inv.len x hx hc h1 h2 (by
        have := may_len (mayH_sib (inv.may e (List.mem_of_getElem? h1)))
        omega), putH_found h1 h2]
      simp
theorem hintsDrop_eq (n : Int) (k : List UInt8) (s : Sib) :
    ∃ w, callL E F.hints_Set_Drop [.ptr (some (i, 0)), .int .i64 n, .str k, s.v] h = some (.bool (match getH l n k with | some q => q.leq s | none => false), hset h i (hsO (cnd (match getH l n k with | some q => q.leq s | none => false) (dropS l n k) l)), ⟨cnd (w && decide (i < h.length)) [i] [], [], true⟩) := by
  have hc := cut_pos (n := n) (k := k) inv.srt
  rcases found_pos (n := n) (k := k) inv.srt with ⟨h1, h2⟩ | ⟨e, h1, h2, h3, h4⟩
  · refine ⟨false, ?_⟩
    rw [h2, hintsDrop_none hi inv.len n k s hc h1]
    simp [hsf3 hi]
  · rw [h4]
    cases hq : e.sib.leq s with
    | true =>
      refine ⟨true, ?_⟩
      rw [hintsDrop_ok hi inv.len n k s hc h1 h2 hq, drop_found inv.srt h1 h2]
      simp [hq]
    | false =>
      refine ⟨false, ?_⟩
      rw [hintsDrop_keep hi inv.len n k s hc h1 h2 hq]
      simp [hq, hsf3 hi]
theorem hintsAll_inv : callL E F.hints_Set_All [.ptr (some (i, 0))] h = some (.sl (l.map Hnt.v), h, ⟨[], [], true⟩) := by
  rw [hintsAll_eq hi inv.len]
  have : (l.map fun x => (cpH x).v) = l.map Hnt.v := List.map_congr_left fun x hx => by rw [cpH_self (inv.may x hx)]
  rw [this]
theorem hintsLen_eq : callL E F.hints_Set_Len [.ptr (some (i, 0))] h = some (.int .i64 l.length, h, ⟨[], [], true⟩) := by
  refine callL_of rfl fn_hints_Set_Len ?_
  have g := hintsAll_inv hi inv
  simp [-getElem?_pos, c_hints_Set_Len, g]
end
end Go.Proofs.Ythkfjefoblmbhaa.V
