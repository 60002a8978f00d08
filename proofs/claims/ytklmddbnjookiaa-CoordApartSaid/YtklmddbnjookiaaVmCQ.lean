/- What the functions of 'quorum' compute. -/
import Derived.Test.YtklmddbnjookiaaVmG5
import Derived.Test.YtklmddbnjookiaaVmKS
set_option linter.unusedVariables false
set_option linter.unusedSimpArgs false
namespace Go.Proofs.Ytklmddbnjookiaa.V
open Go.Vm

def cntC (need : Int) (has : List Bool) : List V := .int .i64 need :: has.map V.bool
def cntN (has : List Bool) : Nat := (has.filter id).length
def no8 : List Bool := [false, false, false, false, false, false, false, false]
theorem qNew_eq (need : Int) (h : Heap) : callL E F.quorum_New [.int .i64 need] h = some (.ptr (some (h.length, 0)), h ++ [.cells (cntC need no8) []], .no) := by
  refine callL_of rfl fn_quorum_New ?_
  simp [-getElem?_pos, c_quorum_New, cntC, no8]
  done
theorem cntN_take {has : List Bool} {j : Nat} {b : Bool} (h : has[j]? = some b) : cntN (has.take (j + 1)) = cntN (has.take j) + cnd b 1 0 := by
  unfold cntN
  rw [List.take_add_one, h, List.filter_append, List.length_append]
  cases b <;> rfl
theorem cntN_le (has : List Bool) : cntN has ≤ has.length := List.length_filter_le _ _
theorem ltL_bools (n : Nat) : ∀ l : List Bool, V.ltL n (l.map V.bool) = true
  | [] => rfl
  | b :: l => by simp [V.ltL, V.lt, ltL_bools n l]
theorem qLen_eq (need : Int) (has : List Bool) (hl : has.length = 8) (q : Nat) (h : Heap) (hh : hget h q = some (.cells (cntC need has) [])) : callL E F.quorum_Count_Len [.ptr (some (q, 0))] h = some (.int .i64 (cntN has), h, .no) := by
  refine callL_of rfl fn_quorum_Count_Len ?_
  have key := loop_to (C := callL E) (fb := h.length) (live := [3, 11, 12]) (c := c_quorum_Count_Len_l0)
    (fun j => ⟨[(3, .int .i64 (cntN (has.take j))), (11, .agg (has.map V.bool)), (12, .int .i64 j)], h, .no⟩) 8
    (r := (.exit 0, ⟨[(3, .int .i64 (cntN has)), (11, .agg (has.map V.bool)), (12, .int .i64 8), (13, .bool false)], h, .no⟩)) (fun j hj => ?_) ?_ rfl
  · rw [show ((0 : Nat) : Int) = 0 from rfl, List.take_zero, show ((cntN [] : Nat) : Int) = 0 from rfl] at key
    unfold cntC at hh
    have ht : List.take 8 (has.map V.bool) = has.map V.bool := List.take_of_length_le (by simp; omega)
    have hml : (has.map V.bool).length = 8 := by simp [hl]
    generalize has.map V.bool = B at *
    simp [-getElem?_pos, c_quorum_Count_Len, hh, key, ht, hml]
    done
  · obtain ⟨b, hx, _, _⟩ := get_of_lt (l := has) (i := j) (by omega)
    have hlt : (j : Int) < 8 := by omega
    have hj8 : j < 8 := hj
    have h1 := i64_add1 (n := j) (by omega)
    have hml : (has.map V.bool).length = 8 := by simp [hl]
    have hxm : (has.map V.bool)[j]? = some (.bool b) := by rw [List.getElem?_map, hx]; rfl
    have hc := cntN_take hx
    have hB := ltL_bools h.length has
    have hcl : cntN (has.take j) ≤ 8 := by have := cntN_le (has.take j); simp at this; omega
    generalize cntN (has.take (j + 1)) = C1 at *
    generalize cntN (has.take j) = C0 at *
    generalize has.map V.bool = B at *
    have h2 := i64_add1 (n := C0) (by omega)
    rw [s_round]
    cases b with
    | true =>
      rw [cnd_true] at hc
      subst hc
      simp [-getElem?_pos, c_quorum_Count_Len_l0, hlt, hj8, hxm, hml, h1, h2, hB]
      done
    | false =>
      rw [cnd_false] at hc
      subst hc
      simp [-getElem?_pos, c_quorum_Count_Len_l0, hlt, hj8, hxm, hml, h1, hB]
      done
  · rw [s_round, List.take_of_length_le (by omega)]
    simp [c_quorum_Count_Len_l0]
/-- Whether a node has answered. -/
def hasQ (has : List Bool) (node : Int) : Bool := decide (0 ≤ node) && (decide (node < 8) && has.getD node.toNat false)
theorem qHas_eq (need : Int) (has : List Bool) (hl : has.length = 8) (node : Int) (q : Nat) (h : Heap) (hh : hget h q = some (.cells (cntC need has) [])) : callL E F.quorum_Count_Has [.ptr (some (q, 0)), .int .i64 node] h = some (.bool (hasQ has node), h, .no) := by
  refine callL_of rfl fn_quorum_Count_Has ?_
  unfold hasQ cntC at *
  by_cases h0 : 0 ≤ node
  · by_cases h8 : node < 8
    · obtain ⟨n, rfl⟩ : ∃ n : Nat, node = n := ⟨node.toNat, by omega⟩
      obtain ⟨b, hx, _, _⟩ := get_of_lt (l := has) (i := n) (by omega)
      have hxm : (has.map V.bool)[n]? = some (.bool b) := by rw [List.getElem?_map, hx]; rfl
      have hml : (has.map V.bool).length = 8 := by simp [hl]
      have hn : n < 8 := by omega
      have hgd : has.getD n false = b := by rw [List.getD_eq_getElem?_getD, hx]; rfl
      generalize has.map V.bool = B at *
      rw [show ((n : Int).toNat) = n from rfl, hgd]
      have h0' : (0 : Int) ≤ (n : Int) := by omega
      have e1 : (1 + n : Nat) = n + 1 := by omega
      simp [-getElem?_pos, c_quorum_Count_Has, hh, hxm, hml, hn, h8, h0', e1]
      done
    · simp [-getElem?_pos, c_quorum_Count_Has, h0, h8]
      done
  · simp [-getElem?_pos, c_quorum_Count_Has, h0]
    done
theorem qAdd_yes (need : Int) (has : List Bool) (hl : has.length = 8) (n : Nat) (hn : n < 8) (hb : has.getD n false = false) (q : Nat) (h : Heap) (hh : hget h q = some (.cells (cntC need has) [])) :
    callL E F.quorum_Count_Add [.ptr (some (q, 0)), .int .i64 n] h = some (.bool (decide ((cntN (has.set n true) : Int) = need)), hset h q (.cells (cntC need (has.set n true)) []), .w [q]) := by
  refine callL_of rfl fn_quorum_Count_Add ?_
  have hq := hget_lt hh
  obtain ⟨b, hx, _, _⟩ := get_of_lt (l := has) (i := n) (by omega)
  rw [List.getD_eq_getElem?_getD, hx] at hb
  have hbt : b = false := hb
  subst hbt
  have hxm : (has.map V.bool)[n]? = some (.bool false) := by rw [List.getElem?_map, hx]; rfl
  have hml : (has.map V.bool).length = 8 := by simp [hl]
  have hh2 : hget (hset h q (.cells (cntC need (has.set n true)) [])) q = some (.cells (cntC need (has.set n true)) []) := by simp [hset, hget, hq]
  have g1 := qLen_eq need (has.set n true) (by simp [hl]) q _ hh2
  have hN : cntC need (has.set n true) = V.int .i64 need :: (has.map V.bool).set n (.bool true) := by
    unfold cntC
    rw [List.map_set]
  have hn9 : n + 1 < 9 := by omega
  have e2 : ∀ x y : Int, decide (x = y) = (x == y) := fun x y => by by_cases h : x = y <;> simp [h]
  rw [e2]
  rw [hN] at hh2 g1 ⊢
  unfold cntC at hh
  generalize has.map V.bool = B at *
  have e1 : (1 + n : Nat) = n + 1 := by omega
  have h0 : ¬ ((n : Int) < 0) := by omega
  have h8 : ¬ (8 ≤ (n : Int)) := by omega
  simp [-getElem?_pos, c_quorum_Count_Add, hh, hxm, hml, hn, h8, h0, e1, g1, hn9, hh2, hq]
  done
end Go.Proofs.Ytklmddbnjookiaa.V
