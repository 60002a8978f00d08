/- A read: what is known of it behind each answer. 'tattlerref14.In', 'tattlerref5.SameInts'. -/
import Derived.Test.YtklmddbnjookiaaVmCOW
import Derived.Test.YtklmddbnjookiaaVmMI
import Derived.Test.YtklmddbnjookiaaVmR5C
import Derived.Test.YtklmddbnjookiaaVmKQ
set_option linter.unusedVariables false
set_option linter.unusedSimpArgs false
set_option linter.unusedSectionVars false
namespace Go.Proofs.Ytklmddbnjookiaa.V
open Go.Vm

theorem r14In_eq (l : List Nat) (k : Nat) (hl : l.length ≤ 1000) (h : Heap) : callL E F.tattlerref14_In [.sl (l.map natV), .int .i64 k] h = some (.bool (decide (k ∈ l)), h, .no) := by
  refine callL_of rfl fn_tattlerref14_In ?_
  have key := loop_scan (C := callL E) (fb := h.length) (live := [1, 7, 8, 9]) (c := c_tattlerref14_In_l0)
    (fun j => ⟨[(1, .int .i64 k), (7, .sl (l.map natV)), (8, .int .i64 l.length), (9, .int .i64 j)], h, .no⟩) l.length (getB l fun x => !decide (x = k))
    (.exit 0, ⟨[(1, .int .i64 k), (7, .sl (l.map natV)), (8, .int .i64 l.length), (9, .int .i64 l.length), (10, .bool false)], h, .no⟩)
    (fun j => (.ret, ⟨[(4, .bool true)], h, .no⟩)) ?_ ?_ (fun _ => rfl) ?_ rfl
  · rw [show ((0 : Nat) : Int) = 0 from rfl] at key
    have hml : (l.map natV).length = l.length := by simp
    rw [← hml] at key
    rcases key with ⟨h1, h2⟩ | ⟨j, h1, h2, h3, h4⟩
    · have hk : ¬ k ∈ l := fun hk => by
        have := all_getB (f := fun x => !decide (x = k)) (l := l) (by rw [← hml]; exact h1)
        rw [List.all_eq_true] at this
        have := this k hk
        simp at this
      rw [decide_eq_false hk]
      generalize l.map natV = L at *
      simp [-getElem?_pos, c_tattlerref14_In, h2]
      done
    · have hk : k ∈ l := by
        obtain ⟨x, hx, _, hm⟩ := get_of_lt (l := l) (i := j) (by omega)
        rw [getB_at hx] at h2
        have : x = k := by simpa using h2
        rw [← this]; exact hm
      rw [decide_eq_true hk]
      generalize l.map natV = L at *
      simp [-getElem?_pos, c_tattlerref14_In, h4]
      done
  · intro j hj hp
    obtain ⟨x, hx, _, _⟩ := get_of_lt hj
    have hlt : (j : Int) < (l.length : Int) := by omega
    have h1 := i64_add1 (n := j) (by omega)
    rw [getB_at hx] at hp
    have hp' : ((x : Int) == (k : Int)) = false := by
      have : ¬ x = k := by simpa using hp
      simp; omega
    rw [s_round]
    simp [-getElem?_pos, c_tattlerref14_In_l0, hlt, hj, hx, h1, natV, hp']
    done
  · intro j hj hp
    obtain ⟨x, hx, _, _⟩ := get_of_lt hj
    have hlt : (j : Int) < (l.length : Int) := by omega
    rw [getB_at hx] at hp
    have hp' : x = k := by simpa using hp
    rw [s_round]
    simp [-getElem?_pos, c_tattlerref14_In_l0, hlt, hj, hx, natV, hp']
    done
  · rw [s_round]
    simp [c_tattlerref14_In_l0]
/-- The operation behind so many answers. -/
noncomputable def opJ (key : List UInt8) (own : Sib) (l : List Sib) : Nat → OpS
  | 0 => ⟨key, false, own, ans8.set 0 own, 0⟩
  | j + 1 => (opJ key own l j).got (j + 1) (l.getD j zeroSib)
def hasJ : Nat → List Bool
  | 0 => no8.set 0 true
  | j + 1 => (hasJ j).set (j + 1) true
theorem hasJ_len (j : Nat) : (hasJ j).length = 8 := by
  induction j with
  | zero => rfl
  | succ j ih => simp [hasJ, ih]
theorem hasJ_at : ∀ j, j < 8 → ∀ k, k < 8 → (hasJ j).getD k false = decide (k ≤ j) := by decide
theorem hasJ_cnt : ∀ j, j < 8 → cntN (hasJ j) = j + 1 := by decide
section
variable (key : List UInt8) (own : Sib) (l : List Sib)
theorem opJ_key (j : Nat) : (opJ key own l j).key = key := by
  induction j with
  | zero => rfl
  | succ j ih => exact ih
theorem opJ_wr (j : Nat) : (opJ key own l j).wr = false := by
  induction j with
  | zero => rfl
  | succ j ih => exact ih
theorem opJ_len (j : Nat) : (opJ key own l j).ans.length = 8 := by
  induction j with
  | zero => rfl
  | succ j ih => show ((opJ key own l j).ans.set _ _).length = 8; simp [ih]
theorem opJ_may {own : Sib} {l : List Sib} (ho : own.may = true) (hl : ∀ s ∈ l, s.may = true) (j : Nat) (hj : j ≤ l.length) : (opJ key own l j).s.may = true ∧ ∀ s ∈ (opJ key own l j).ans, s.may = true := by
  induction j with
  | zero =>
    refine ⟨ho, fun s hs => ?_⟩
    rcases List.mem_or_eq_of_mem_set hs with h | h
    · simp only [ans8, List.mem_cons, List.not_mem_nil, or_false, or_self] at h
      rw [h]; exact zeroSib_may
    · rw [h]; exact ho
  | succ j ih =>
    obtain ⟨h1, h2⟩ := ih (by omega)
    obtain ⟨x, hx, _, hm⟩ := get_of_lt (l := l) (i := j) (by omega)
    have hg : l.getD j zeroSib = x := by rw [List.getD_eq_getElem?_getD, hx]; rfl
    have hxm := hl x hm
    refine ⟨?_, fun s hs => ?_⟩
    · show ((opJ key own l j).s.join (l.getD j zeroSib)).may = true
      rw [hg]; exact join_may h1 hxm
    · rcases List.mem_or_eq_of_mem_set (show s ∈ (opJ key own l j).ans.set (j + 1) (l.getD j zeroSib) from hs) with h | h
      · exact h2 s h
      · rw [h, hg]; exact hxm
theorem opJ_at (j : Nat) (hj : j < 8) (k : Nat) (hk : k ≤ j) : (opJ key own l j).ans.getD k zeroSib = if k = 0 then own else l.getD (k - 1) zeroSib := by
  induction j with
  | zero =>
    have : k = 0 := by omega
    subst this
    rfl
  | succ j ih =>
    show ((opJ key own l j).ans.set (j + 1) (l.getD j zeroSib)).getD k zeroSib = _
    have hlen := opJ_len key own l j
    rw [List.getD_eq_getElem?_getD, List.getElem?_set]
    by_cases h : j + 1 = k
    · subst h
      rw [if_pos rfl, if_pos (by omega), if_neg (by omega)]
      rfl
    · rw [if_neg h, ← List.getD_eq_getElem?_getD]
      exact ih (by omega) (by omega)
/-- Who is told of: those that came, and know something else. -/
theorem got_mem (j : Nat) (hj : j < 8) (k : Nat) (hk : k < 8) : decide (k ∈ gotN (hasJ j) (opJ key own l j).ans (opJ key own l j).s 8) =
    (decide (k ≤ j) && !decide ((if k = 0 then own else l.getD (k - 1) zeroSib) = (opJ key own l j).s)) := by
  have h : k ∈ gotN (hasJ j) (opJ key own l j).ans (opJ key own l j).s 8 ↔ gotB (hasJ j) (opJ key own l j).ans (opJ key own l j).s k = true := by
    unfold gotN
    rw [List.mem_filter, List.mem_range]
    exact ⟨fun h => h.2, fun h => ⟨hk, h⟩⟩
  have h2 : gotB (hasJ j) (opJ key own l j).ans (opJ key own l j).s k = (decide (k ≤ j) && !decide ((if k = 0 then own else l.getD (k - 1) zeroSib) = (opJ key own l j).s)) := by
    unfold gotB
    rw [hasJ_at j hj k hk]
    by_cases hkj : k ≤ j
    · rw [opJ_at key own l j hj k hkj]
    · simp [hkj]
  rw [← h2]
  cases hg : gotB (hasJ j) (opJ key own l j).ans (opJ key own l j).s k
  · rw [hg] at h
    exact decide_eq_false fun e => by cases h.1 e
  · exact decide_eq_true (h.2 hg)
end
end Go.Proofs.Ytklmddbnjookiaa.V
