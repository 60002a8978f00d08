/- CoordApart: an answer to a read among others. -/
import Derived.Test.YtklmddbnjookiaaVmCOJ
import Derived.Test.YtklmddbnjookiaaVmCLA
set_option linter.unusedVariables false
set_option linter.unusedSimpArgs false
set_option linter.unusedSectionVars false
namespace Go.Proofs.Ytklmddbnjookiaa.V
open Go.Vm

theorem findI_delI_ne {l : List (Int × Nat)} {n m : Int} (h : n ≠ m) : findI (delI l m) n = findI l n := by
  induction l with
  | nil => rfl
  | cons x l ih =>
    simp only [delI, findI]
    by_cases hm : m = x.1
    · rw [if_pos hm, if_neg (fun e => h (e.trans hm.symm))]
    · rw [if_neg hm]
      simp only [findI, ih]
theorem delI_sub {l : List (Int × Nat)} {n : Int} : ((delI l n).map Prod.fst).Sublist (l.map Prod.fst) := by
  induction l with
  | nil => exact List.Sublist.refl _
  | cons x l ih =>
    simp only [delI]
    by_cases hm : n = x.1
    · rw [if_pos hm]; exact List.sublist_cons_self _ _
    · rw [if_neg hm]
      exact ih.cons_cons _
theorem findI_delI_self {l : List (Int × Nat)} {n : Int} (h : (l.map Prod.fst).Nodup) : findI (delI l n) n = none := by
  induction l with
  | nil => rfl
  | cons x l ih =>
    rw [List.map_cons, List.nodup_cons] at h
    simp only [delI]
    by_cases hm : n = x.1
    · rw [if_pos hm]
      clear ih
      have h1 := h.1
      rw [← hm] at h1
      clear h hm
      induction l with
      | nil => rfl
      | cons y l ih =>
        simp only [List.map_cons, List.mem_cons, not_or] at h1
        simp only [findI]
        rw [if_neg h1.1]
        exact ih h1.2
    · rw [if_neg hm]
      simp only [findI]
      rw [if_neg hm]
      exact ih h.2
/-- A read's operation behind j answers, so many wanted. -/
def StJ (H : Heap) (n : Int) (p q need : Nat) (key : List UInt8) (l : List Sib) (j : Nat) (ops : List (Int × Nat)) : Prop :=
  (j + 1 < need → findI ops n = some p ∧ OAt H p q (opJ key zeroSib l j) need (hasJ j)) ∧ (need ≤ j + 1 → findI ops n = none)
noncomputable def gotR (key : List UInt8) (l : List Sib) (need j : Nat) : List V × Bool :=
  if j + 2 = need then ((gotN (hasJ (j + 1)) (opJ key zeroSib l (j + 1)).ans (opJ key zeroSib l (j + 1)).s 8).map natV, true) else ([], false)
noncomputable def newA (n : Int) (key : List UInt8) (l : List Sib) (need j : Nat) : List Ans := if j + 2 = need then [⟨n, 0, (opJ key zeroSib l (j + 1)).s⟩] else []
theorem OAt.frame {H H' : Heap} {p q : Nat} {o : OpS} {need : Int} {has : List Bool} (u : OAt H p q o need has) (h1 : hget H' p = hget H p) (h2 : hget H' q = hget H q) : OAt H' p q o need has := ⟨h1.trans u.op, h2.trans u.ct, u.al, u.hl, u.sm⟩
theorem CAt.frame {H H' : Heap} {i mi : Nat} {wait last : Int} {ans : List Ans} {ops : List (Int × Nat)} (t : CAt H i mi wait last ans ops) (h1 : hget H' i = hget H i) (h2 : hget H' mi = hget H mi) : CAt H' i mi wait last ans ops := ⟨h1.trans t.co, h2.trans t.mp⟩
theorem got_gen {H : Heap} {i mi : Nat} {last : Int} {ans : List Ans} {ops : List (Int × Nat)} (t : CAt H i mi 9 last ans ops) {n : Int} {p q need : Nat} {key : List UInt8} {l : List Sib} {j : Nat} (st : StJ H n p q need key l j ops) (hj : j < l.length) (hj7 : j < 7)
    (hls : ∀ s ∈ l, s.may = true) (hk : (⟨key, zeroSib⟩ : Ent).may = true) (hnd : (ops.map Prod.fst).Nodup) (hans : ans.length ≤ 100) {x : Sib} (hx : l[j]? = some x) (m : Nat) (hm1 : m ≤ i) (hm2 : m ≤ mi) (hm3 : m ≤ p) (hm4 : m ≤ q) :
    ∃ H' fl ops', callL E F.coord_Coord_Got [.ptr (some (i, 0)), .int .i64 n, .int .i64 ((j + 1 : Nat) : Int), (⟨key, x⟩ : Ent).v] H = some (.tup [.sl (gotR key l need j).1, .bool (gotR key l need j).2], H', fl) ∧ Fl.cut m fl = .no ∧
      CAt H' i mi 9 last (ans ++ newA n key l need j) ops' ∧ StJ H' n p q need key l (j + 1) ops' ∧ (ops'.map Prod.fst).Nodup ∧ (∀ k, k ≠ n → findI ops' k = findI ops k) ∧
      (∀ k, k ≠ i → k ≠ mi → k ≠ p → k ≠ q → k < H.length → hget H' k = hget H k) ∧ H'.length = H.length ∧ H'.take m = H.take m := by
  have hem : (⟨key, x⟩ : Ent).may = true := by
    unfold Ent.may at hk ⊢
    simp only [Bool.and_eq_true] at hk ⊢
    exact ⟨hk.1, hls x (List.mem_of_getElem? hx)⟩
  by_cases hway : j + 1 < need
  · obtain ⟨hf, u⟩ := st.1 hway
    have hbj : (hasJ j).getD (j + 1) false = false := by rw [hasJ_at j (by omega) (j + 1) (by omega)]; exact decide_eq_false (by omega)
    have hgx : l.getD j zeroSib = x := by rw [List.getD_eq_getElem?_getD, hx]; rfl
    have hg1 : (opJ key zeroSib l j).got (j + 1) x = opJ key zeroSib l (j + 1) := by show _ = (opJ key zeroSib l j).got (j + 1) (l.getD j zeroSib); rw [hgx]
    have hm1' := opJ_may key zeroSib_may hls (j + 1) (by omega)
    have hcj := hasJ_cnt (j + 1) (by omega)
    obtain ⟨a1, a2⟩ := t.ne_q u
    obtain ⟨a3, a4⟩ := t.ne_p u
    have a5 := u.ne
    have a6 := t.ne
    have hp := hget_lt u.op
    have hq := hget_lt u.ct
    have hi := hget_lt t.co
    have hmi := hget_lt t.mp
    by_cases hd : j + 2 = need
    · have g := coordGot_done t u (n := n) (k := j + 1) (by omega) hbj ⟨key, x⟩ hf (opJ_wr key zeroSib l j) (opJ_key key zeroSib l j).symm hem (by rw [show (hasJ j).set (j + 1) true = hasJ (j + 1) from rfl, hcj]; omega) (by omega) (fun s hs => by
        simp only [hg1] at hs
        have := may_len (hm1'.2 s hs); omega)
      simp only [hg1, show (hasJ j).set (j + 1) true = hasJ (j + 1) from rfl] at g
      have hR : gotR key l need j = ((gotN (hasJ (j + 1)) (opJ key zeroSib l (j + 1)).ans (opJ key zeroSib l (j + 1)).s 8).map natV, true) := if_pos hd
      have hA : newA n key l need j = [⟨n, 0, (opJ key zeroSib l (j + 1)).s⟩] := if_pos hd
      rw [hR, hA]
      refine ⟨_, _, delI ops n, g, ?_, ⟨?_, ?_⟩, ⟨fun h => by omega, fun _ => findI_delI_self hnd⟩, hnd.sublist delI_sub, fun k hk => findI_delI_ne hk, fun k h1 h2 h3 h4 h5 => ?_, by simp only [hset_len], ?_⟩
      · have b1 : ¬ p < m := by omega
        have b2 : ¬ q < m := by omega
        have b3 : ¬ i < m := by omega
        have b4 : ¬ mi < m := by omega
        simp [wrLt, b1, b2, b3, b4]
      · rw [hsets_ne (by simp only [hset_len]; exact hi) a6.symm, hsets (by simp only [hset_len]; exact hi)]
      · rw [hsets (by simp only [hset_len]; exact hmi)]
      · rw [hsets_ne (by simp only [hset_len]; exact h5) (Ne.symm h2), hsets_ne (by simp only [hset_len]; exact h5) (Ne.symm h1), hsets_ne (by simp only [hset_len]; exact h5) (Ne.symm h4), hsets_ne h5 (Ne.symm h3)]
      · rw [take_hset_le hm2, take_hset_le hm1, take_hset_le hm4, take_hset_le hm3]
    · have g := coordGot_wait t u (n := n) (k := j + 1) (by omega) hbj ⟨key, x⟩ hf (opJ_wr key zeroSib l j) (opJ_key key zeroSib l j).symm hem (by rw [show (hasJ j).set (j + 1) true = hasJ (j + 1) from rfl, hcj]; omega)
      simp only [hg1, show (hasJ j).set (j + 1) true = hasJ (j + 1) from rfl] at g
      have hR : gotR key l need j = ([], false) := if_neg hd
      have hA : newA n key l need j = [] := if_neg hd
      rw [hR, hA, List.append_nil]
      refine ⟨_, _, ops, g, ?_, ⟨?_, ?_⟩, ⟨fun h => ⟨hf, ⟨?_, ?_, opJ_len _ _ _ _, hasJ_len _, hm1'.1⟩⟩, fun h => by omega⟩, hnd, fun k hk => rfl, fun k h1 h2 h3 h4 h5 => ?_, by simp only [hset_len], ?_⟩
      · have b1 : ¬ p < m := by omega
        have b2 : ¬ q < m := by omega
        simp [wrLt, b1, b2]
      · rw [hsets_ne (by simp only [hset_len]; exact hi) a1.symm, hsets_ne hi a3.symm]; exact t.co
      · rw [hsets_ne (by simp only [hset_len]; exact hmi) a2.symm, hsets_ne hmi a4.symm]; exact t.mp
      · rw [hsets_ne (by simp only [hset_len]; exact hp) a5.symm, hsets hp]
      · rw [hsets (by simp only [hset_len]; exact hq)]
      · rw [hsets_ne (by simp only [hset_len]; exact h5) (Ne.symm h4), hsets_ne h5 (Ne.symm h3)]
      · rw [take_hset_le hm4, take_hset_le hm3]
  · have hf := st.2 (by omega)
    have g := coordGot_none t ((j + 1 : Nat) : Int) ⟨key, x⟩ hf
    have hR : gotR key l need j = ([], false) := if_neg (by omega)
    have hA : newA n key l need j = [] := if_neg (by omega)
    rw [hR, hA, List.append_nil]
    exact ⟨H, .no, ops, g, rfl, t, ⟨fun h => by omega, fun _ => hf⟩, hnd, fun k hk => rfl, fun k _ _ _ _ _ => rfl, rfl, rfl⟩
/-- Nothing comes: the same state. -/
theorem StJ.frame {H H' : Heap} {n : Int} {p q need : Nat} {key : List UInt8} {l : List Sib} {j : Nat} {ops ops' : List (Int × Nat)} (st : StJ H n p q need key l j ops) (ho : findI ops' n = findI ops n) (h1 : hget H' p = hget H p) (h2 : hget H' q = hget H q) : StJ H' n p q need key l j ops' :=
  ⟨fun h => ⟨ho.trans (st.1 h).1, (st.1 h).2.frame h1 h2⟩, fun h => ho.trans (st.2 h)⟩
end Go.Proofs.Ytklmddbnjookiaa.V
