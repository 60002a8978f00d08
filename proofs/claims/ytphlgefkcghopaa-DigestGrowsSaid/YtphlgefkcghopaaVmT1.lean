/- Tables: what stays true of them, and what their digests lack. No function of the program in sight. -/
import Derived.Test.YtphlgefkcghopaaVmR5E
import Derived.Test.YtphlgefkcghopaaVmL13
set_option linter.unusedVariables false
set_option linter.unusedSimpArgs false
namespace Go.Proofs.Ytphlgefkcghopaa.V
open Go.Vm

/-! ### the order of keys -/
theorem bytesLess_cons (a b : UInt8) (x y : List UInt8) : bytesLess (a :: x) (b :: y) = true ↔ a.toNat < b.toNat ∨ (a = b ∧ bytesLess x y = true) := by
  simp [bytesLess, UInt8.lt_iff_toNat_lt]
theorem bytesLess_nil (x : List UInt8) : bytesLess x [] = false := by cases x <;> rfl
theorem bytesLess_irrefl : ∀ (x : List UInt8), bytesLess x x = false
  | [] => rfl
  | a :: x => by
    cases h : bytesLess (a :: x) (a :: x)
    · rfl
    · rcases (bytesLess_cons _ _ _ _).1 h with h1 | ⟨_, h1⟩
      · omega
      · rw [bytesLess_irrefl x] at h1; cases h1
theorem bytesLess_trans : ∀ {x y z : List UInt8}, bytesLess x y = true → bytesLess y z = true → bytesLess x z = true
  | x, y, [], _, h => by rw [bytesLess_nil] at h; cases h
  | x, [], c :: z, h, _ => by rw [bytesLess_nil] at h; cases h
  | [], b :: y, c :: z, _, _ => rfl
  | a :: x, b :: y, c :: z, h1, h2 => by
    rw [bytesLess_cons] at h1 h2 ⊢
    rcases h1 with h1 | ⟨rfl, h1⟩ <;> rcases h2 with h2 | ⟨rfl, h2⟩
    · exact .inl (by omega)
    · exact .inl h1
    · exact .inl h2
    · exact .inr ⟨rfl, bytesLess_trans h1 h2⟩
theorem bytesLess_tri : ∀ (x y : List UInt8), bytesLess x y = true ∨ x = y ∨ bytesLess y x = true
  | [], [] => .inr (.inl rfl)
  | [], b :: y => .inl rfl
  | a :: x, [] => .inr (.inr rfl)
  | a :: x, b :: y => by
    rw [bytesLess_cons, bytesLess_cons]
    rcases Nat.lt_trichotomy a.toNat b.toNat with h | h | h
    · exact .inl (.inl h)
    · have h : a = b := UInt8.toNat_inj.1 h
      subst h
      rcases bytesLess_tri x y with h | h | h
      · exact .inl (.inr ⟨rfl, h⟩)
      · exact .inr (.inl (by rw [h]))
      · exact .inr (.inr (.inr ⟨rfl, h⟩))
    · exact .inr (.inr (.inl h))

/-! ### what is joined stays small -/
def VGood (v : Val) : Prop := v.dot.Wf ∧ v.data.length ≤ 200
structure EGood (e : Ent) : Prop where
  key : e.key.length ≤ 32
  seen : e.sib.seen.Wf
  len : e.sib.vals.length ≤ 16
  val : ∀ v ∈ e.sib.vals, VGood v
theorem insertV_mem {u v : Val} : ∀ {l : List Val}, u ∈ insertV l v → u = v ∨ u ∈ l
  | [], h => .inl (by simpa [insertV] using h)
  | w :: l, h => by
    unfold insertV at h
    split at h
    · rcases List.mem_cons.1 h with h | h
      · exact .inr (by simp [h])
      · rcases insertV_mem h with h | h
        · exact .inl h
        · exact .inr (by simp [h])
    · exact List.mem_cons.1 h
theorem first_or (a b : Val) : a.first b = a ∨ a.first b = b := by
  unfold Val.first
  split <;> split <;> simp
theorem joinA_all {P : Val → Prop} {b : Sib} (hb : ∀ v ∈ b.vals, P v) : ∀ (l out : List Val), (∀ v ∈ l, P v) → (∀ v ∈ out, P v) → ∀ v ∈ l.foldl (joinA b) out, P v
  | [], out, _, h => h
  | x :: l, out, hl, h => by
    rw [List.foldl_cons]
    refine joinA_all hb l _ (fun v hv => hl v (by simp [hv])) ?_
    have hx := hl x (by simp)
    have ins : ∀ w, P w → ∀ v ∈ insertV out w, P v := fun w hw v hv => by
      rcases insertV_mem hv with rfl | hv
      · exact hw
      · exact h v hv
    unfold joinA
    split
    · rename_i k hk
      obtain ⟨u, hu, _⟩ := findD_some hk
      rw [hu]
      refine ins _ ?_
      show P (x.first u)
      rcases first_or x u with e | e <;> rw [e]
      · exact hx
      · exact hb u (List.mem_of_getElem? hu)
    · cases b.seen.covers x.dot
      · exact ins _ hx
      · exact h
theorem joinB_all {P : Val → Prop} {a : Sib} : ∀ (l out : List Val), (∀ v ∈ l, P v) → (∀ v ∈ out, P v) → ∀ v ∈ l.foldl (joinB a) out, P v
  | [], out, _, h => h
  | x :: l, out, hl, h => by
    rw [List.foldl_cons]
    refine joinB_all l _ (fun v hv => hl v (by simp [hv])) ?_
    have hx := hl x (by simp)
    unfold joinB
    cases ((findD a.vals x.dot).isNone && !a.seen.covers x.dot)
    · exact h
    · intro v hv
      rcases insertV_mem hv with rfl | hv
      · exact hx
      · exact h v hv
theorem may_seen {s : Sib} (h : s.may = true) : ∀ n ∈ s.seen.l, I64 n := by
  unfold Sib.may at h
  simp only [Bool.and_eq_true] at h
  intro n hn
  have := List.all_eq_true.1 h.1 n hn
  unfold cntOk at this
  simp only [Bool.and_eq_true, decide_eq_true_eq] at this
  exact ⟨by omega, by omega⟩
theorem zipMax_all {P : Int → Prop} : ∀ {a b : List Int}, (∀ n ∈ a, P n) → (∀ n ∈ b, P n) → ∀ n ∈ List.zipWith max a b, P n
  | [], _, _, _ => by simp
  | _ :: _, [], _, _ => by simp
  | x :: a, y :: b, ha, hb => by
    intro n hn
    rcases List.mem_cons.1 hn with rfl | hn
    · rcases Int.le_total x y with h | h
      · rw [Int.max_eq_right h]; exact hb y (by simp)
      · rw [Int.max_eq_left h]; exact ha x (by simp)
    · exact zipMax_all (fun n hn => ha n (by simp [hn])) (fun n hn => hb n (by simp [hn])) n hn
theorem join_good (a b : Sib) (ha : ∀ v ∈ a.vals, v.dot.Wf) (hb : ∀ v ∈ b.vals, v.dot.Wf) : (a.join b).seen.Wf ∧ (a.join b).vals.length ≤ 16 ∧ ∀ v ∈ (a.join b).vals, VGood v := by
  unfold Sib.join
  cases h : a.may && b.may with
  | false => exact ⟨fun n hn => by have h0 : n = 0 := (by simpa [zeroSib, zeroVec] using hn); subst h0; exact ⟨by omega, by omega⟩, Nat.zero_le _, fun v hv => by cases hv⟩
  | true =>
    simp only [Bool.and_eq_true] at h
    have ga : ∀ v ∈ a.vals, VGood v := fun v hv => ⟨ha v hv, may_data h.1 hv⟩
    have gb : ∀ v ∈ b.vals, VGood v := fun v hv => ⟨hb v hv, may_data h.2 hv⟩
    refine ⟨zipMax_all (may_seen h.1) (may_seen h.2), by show (joinVals a b).length ≤ 16; unfold joinVals; simp; omega, fun v hv => ?_⟩
    exact joinB_all b.vals _ gb (joinA_all gb a.vals [] ga (by simp)) v (List.mem_of_mem_take hv)

/-! ### tables -/
structure TOk (l : List Ent) (n : Nat) : Prop where
  len : l.length ≤ n
  good : ∀ x ∈ l, EGood x
  keys : (l.map Ent.key).Pairwise (fun a b => bytesLess a b = true)
theorem insertE_mem {u e : Ent} : ∀ {l : List Ent}, u ∈ insertE l e → u = e ∨ u ∈ l
  | [], h => .inl (by simpa [insertE] using h)
  | w :: l, h => by
    unfold insertE at h
    split at h
    · rcases List.mem_cons.1 h with h | h
      · exact .inr (by simp [h])
      · rcases insertE_mem h with h | h
        · exact .inl h
        · exact .inr (by simp [h])
    · exact List.mem_cons.1 h
theorem insertE_len (l : List Ent) (e : Ent) : (insertE l e).length = l.length + 1 := by
  induction l with
  | nil => rfl
  | cons u l ih => simp only [insertE]; split <;> simp [ih]
theorem insertE_keys : ∀ {l : List Ent} {e : Ent}, (l.map Ent.key).Pairwise (fun a b => bytesLess a b = true) → (∀ x ∈ l, x.key ≠ e.key) → ((insertE l e).map Ent.key).Pairwise (fun a b => bytesLess a b = true)
  | [], e, _, _ => by simp [insertE]
  | u :: l, e, h, hne => by
    rw [List.map_cons, List.pairwise_cons] at h
    unfold insertE
    split
    · rename_i hlt
      rw [List.map_cons, List.pairwise_cons]
      refine ⟨fun k hk => ?_, insertE_keys h.2 (fun x hx => hne x (by simp [hx]))⟩
      obtain ⟨x, hx, rfl⟩ := List.mem_map.1 hk
      rcases insertE_mem hx with rfl | hx
      · exact hlt
      · exact h.1 _ (List.mem_map_of_mem hx)
    · rename_i hlt
      have h1 : bytesLess e.key u.key = true := by
        rcases bytesLess_tri u.key e.key with h | h | h
        · exact absurd h hlt
        · exact absurd h (hne u (by simp))
        · exact h
      rw [List.map_cons, List.map_cons, List.pairwise_cons, List.pairwise_cons]
      refine ⟨fun k hk => ?_, h⟩
      rcases List.mem_cons.1 hk with rfl | hk
      · exact h1
      · exact bytesLess_trans h1 (h.1 k hk)
theorem tabAt_none {l : List Ent} {k : List UInt8} (h : tabAt l k = none) : ∀ x ∈ l, x.key ≠ k := fun x hx e => by
  unfold tabAt at h
  rw [List.findIdx?_eq_none_iff] at h
  have := h x hx
  rw [decide_eq_true e] at this
  cases this
theorem set_keys {l : List Ent} {i : Nat} {x : Ent} {s : Sib} (h : l[i]? = some x) : (l.set i ⟨x.key, s⟩).map Ent.key = l.map Ent.key := by
  apply List.ext_getElem?
  intro j
  simp only [List.getElem?_map, List.getElem?_set]
  split
  · rename_i hij
    subst hij
    obtain ⟨h1, h2⟩ := List.getElem?_eq_some_iff.1 h
    simp [h1, h2]
  · rfl
theorem tabJoin_ok {l : List Ent} {n : Nat} {e : Ent} (h : TOk l n) (hw : ∀ v ∈ e.sib.vals, v.dot.Wf) : TOk (tabJoin l e).1 (n + 1) := by
  have keep : TOk l (n + 1) := ⟨by have := h.len; omega, h.good, h.keys⟩
  have zero : ∀ v ∈ zeroSib.vals, v.dot.Wf := fun v hv => by cases hv
  unfold tabJoin
  cases hm : e.may with
  | false => exact keep
  | true =>
    have hkey : e.key.length ≤ 32 := by
      unfold Ent.may keyOk at hm
      simp only [Bool.and_eq_true, decide_eq_true_eq] at hm
      exact hm.1.2
    cases hf : tabAt l e.key with
    | some i =>
      obtain ⟨x, hx, _⟩ := tabAt_some hf
      have hxm := h.good x (List.mem_of_getElem? hx)
      obtain ⟨g1, g2, g3⟩ := join_good x.sib e.sib (fun v hv => (hxm.val v hv).1) hw
      simp only [hx]
      refine ⟨by show (l.set i _).length ≤ _; simp; exact keep.len, fun y hy => ?_, by show ((l.set i _).map Ent.key).Pairwise _; rw [set_keys hx]; exact h.keys⟩
      rcases List.mem_or_eq_of_mem_set hy with hy | rfl
      · exact h.good y hy
      · exact ⟨hxm.key, g1, g2, g3⟩
    | none =>
      by_cases h256 : 256 ≤ l.length
      · simp only [decide_eq_true h256]; exact keep
      · simp only [decide_eq_false h256]
        obtain ⟨g1, g2, g3⟩ := join_good zeroSib e.sib zero hw
        refine ⟨by show (insertE l _).length ≤ _; rw [insertE_len]; have := h.len; omega, fun y hy => ?_, insertE_keys h.keys (tabAt_none hf)⟩
        rcases insertE_mem hy with rfl | hy
        · exact ⟨hkey, g1, g2, g3⟩
        · exact h.good y hy
noncomputable def tabAll (l : List Ent) : List Ent := l.foldl (fun t e => (tabJoin t e).1) []
theorem tabAll_ok (l : List Ent) (hw : ∀ e ∈ l, ∀ v ∈ e.sib.vals, v.dot.Wf) : TOk (tabAll l) l.length := by
  have : ∀ (l t : List Ent) (n : Nat), (∀ e ∈ l, ∀ v ∈ e.sib.vals, v.dot.Wf) → TOk t n → TOk (l.foldl (fun t e => (tabJoin t e).1) t) (n + l.length) := by
    intro l
    induction l with
    | nil => intro t n _ h; exact h
    | cons e l ih =>
      intro t n hw h
      have := ih _ (n + 1) (fun x hx => hw x (by simp [hx])) (tabJoin_ok h (hw e (by simp)))
      rw [show n + (e :: l).length = n + 1 + l.length by simp; omega]
      exact this
  have := this l [] 0 hw ⟨Nat.le_refl _, by simp, by simp⟩
  rw [Nat.zero_add] at this
  exact this
theorem EGood.small {e : Ent} (h : EGood e) : e.Small := ⟨by have := h.key; omega, h.seen, by have := h.len; omega, fun v hv => ⟨(h.val v hv).1, by have := (h.val v hv).2; omega⟩⟩
theorem TOk.ents {l : List Ent} {n : Nat} (h : TOk l n) (hn : n ≤ 1099511627776) : EntsOk l := ⟨by have := h.len; omega, fun e he => (h.good e he).small⟩
theorem TOk.digs {l : List Ent} {n : Nat} (h : TOk l n) (hn : n ≤ 1099511627776) : DigsOk (l.map dOf) := ⟨by have := h.len; simp; omega, fun d hd => by
  obtain ⟨e, he, rfl⟩ := List.mem_map.1 hd
  have := (h.good e he).len
  simp [dOf, dotsOf]; omega⟩
theorem key_inj : ∀ {l : List Ent} {x y : Ent}, (l.map Ent.key).Pairwise (fun a b => bytesLess a b = true) → x ∈ l → y ∈ l → x.key = y.key → x = y
  | u :: l, x, y, h, hx, hy, e => by
    rw [List.map_cons, List.pairwise_cons] at h
    rcases List.mem_cons.1 hx with hx | hx <;> rcases List.mem_cons.1 hy with hy | hy
    · rw [hx, hy]
    · have := h.1 _ (List.mem_map_of_mem hy)
      rw [← hx, e, bytesLess_irrefl] at this; cases this
    · have := h.1 _ (List.mem_map_of_mem hx)
      rw [← hy, e, bytesLess_irrefl] at this; cases this
    · exact key_inj h.2 hx hy e
theorem leq_refl (v : Vec) : v.leq v = true := by
  have : ∀ l : List Int, List.zipWith max l l = l := fun l => by induction l <;> simp_all
  unfold Vec.leq
  exact decide_eq_true (Vec.ext_l (this v.l))
theorem lacks_self (e : Ent) : lacks e (dOf e) = false := by
  unfold lacks
  have h1 : (dOf e).dots.any (fun x => e.sib.seen.covers x && !decide (x ∈ dotsOf e.sib.vals)) = false := by
    rw [List.any_eq_false]
    intro x hx
    rw [decide_eq_true (show x ∈ dotsOf e.sib.vals from hx)]
    simp
  rw [h1, show (dOf e).seen = e.sib.seen from rfl, leq_refl, decide_eq_true (show e.key = (dOf e).key from rfl)]
  rfl
theorem lacked_self {l : List Ent} (hk : (l.map Ent.key).Pairwise (fun a b => bytesLess a b = true)) {e : Ent} (he : e ∈ l) : lacked e (l.map dOf) = false := by
  unfold lacked
  cases hf : (l.map dOf).findIdx? (fun d => d.key == e.key) with
  | none =>
    rw [List.findIdx?_eq_none_iff] at hf
    have := hf (dOf e) (List.mem_map_of_mem he)
    simp [dOf] at this
  | some i =>
    rw [List.findIdx?_eq_some_iff_getElem] at hf
    obtain ⟨h1, h2, _⟩ := hf
    have hi : i < l.length := by simpa using h1
    have h3 : l[i].key = e.key := by simpa [dOf] using h2
    have h4 := key_inj hk (List.getElem_mem hi) he h3
    have h5 : (l.map dOf)[i]? = some (dOf e) := by rw [List.getElem?_map, List.getElem?_eq_getElem hi, h4]; rfl
    show lacks e ((l.map dOf)[i]?.getD _) = false
    rw [h5]
    exact lacks_self e
theorem sendL_none {lk : Ent → Bool} : ∀ {l out : List Ent} {left : Int}, (∀ e ∈ l, lk e = false) → sendL lk l out left = out
  | [], out, left, _ => rfl
  | e :: l, out, left, h => by
    simp only [sendL, h e (by simp), if_true]
    exact sendL_none (fun x hx => h x (by simp [hx]))
theorem sendL_all {lk : Ent → Bool} : ∀ {l out : List Ent} {left : Int}, sum (l.filter lk) ≤ left → sendL lk l out left = out ++ l.filter lk
  | [], out, left, _ => by simp [sendL]
  | e :: l, out, left, h => by
    cases hlk : lk e with
    | false =>
      rw [List.filter_cons, hlk] at h ⊢
      simp only [sendL, hlk, if_true]
      exact sendL_all h
    | true =>
      rw [List.filter_cons, hlk, if_pos rfl] at h ⊢
      have h1 : sum (e :: l.filter lk) = size e + sum (l.filter lk) := rfl
      have h2 := sum_nonneg (l.filter lk)
      have h3 : ¬ left < (size e : Int) := by omega
      simp only [sendL, hlk]
      rw [if_neg (by simp), if_neg (fun h => h3 h.2), sendL_all (by omega)]
      simp
theorem send_all {l : List Ent} {ds : List Dig} (hl : l.length ≤ 1024) : send l ds 1099511627776 = l.filter fun e => lacked e ds := by
  unfold send
  have h1 := sum_le (l.filter fun e => lacked e ds)
  have h2 := List.length_filter_le (fun e => lacked e ds) l
  rw [sendL_all (by omega)]
  rfl
theorem send_self {l : List Ent} (hk : (l.map Ent.key).Pairwise (fun a b => bytesLess a b = true)) (m : Int) : send l (l.map dOf) m = [] :=
  sendL_none (fun e he => lacked_self hk he)
theorem send_nil {l : List Ent} (hl : l.length ≤ 1024) : send l [] 1099511627776 = l := by
  rw [send_all hl, List.filter_eq_self]
  intro e _; rfl
end Go.Proofs.Ytphlgefkcghopaa.V
