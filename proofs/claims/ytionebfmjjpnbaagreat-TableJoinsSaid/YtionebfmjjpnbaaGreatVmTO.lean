/- TableOrder. -/
import Derived.Test.YtionebfmjjpnbaaGreatVmTW
import Derived.Test.YtionebfmjjpnbaaGreatVmKSE
set_option linter.unusedVariables false
set_option linter.unusedSimpArgs false
namespace Go.Proofs.YtionebfmjjpnbaaGreat.V
open Go.Vm

theorem hset_same {h : Heap} {k : Nat} {o : Vm.Obj} (hk : hget h k = some o) : hset h k o = h := by
  unfold hset hget at *
  apply List.ext_getElem?
  intro j
  rw [List.getElem?_set]
  split
  · rename_i e
    subst e
    rw [hk, if_pos (List.getElem?_eq_some_iff.1 hk).1]
  · rfl
def sumE (l : List Ent) : Nat := (l.map fun e => e.sib.vals.length).sum
/-- Two tables. -/
def tab2 (h : Heap) (A B : List Ent) : Heap := h ++ [.map (mapE A), .cells [.map (some h.length)] [], .map (mapE B), .cells [.map (some (h.length + 2))] []]
noncomputable def twice (l : List Ent) (T : List Ent) : List Ent := (l.flatMap fun e => [e, e]).foldl joinT T
theorem flat_len : ∀ l : List Ent, (l.flatMap fun e => [e, e]).length = 2 * l.length
  | [] => rfl
  | e :: l => by
    rw [List.flatMap_cons, List.length_append, flat_len l, List.length_cons]
    simp only [List.length_cons, List.length_nil]
    omega
end Go.Proofs.YtionebfmjjpnbaaGreat.V
