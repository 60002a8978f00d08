/- TableReaps. -/
import Derived.Test.YtionebfmjjpnbaaGreatVmTL
import Derived.Test.YtionebfmjjpnbaaGreatVmTN
import Derived.Test.YtionebfmjjpnbaaGreatVmSF
set_option linter.unusedVariables false
set_option linter.unusedSimpArgs false
namespace Go.Proofs.YtionebfmjjpnbaaGreat.V
open Go.Vm

/-- An entry joined to a table with room. -/
noncomputable def joinT (l : List Ent) (e : Ent) : List Ent := cnd e.may (putT l e.key (nowT l e)) l
theorem putT_len (l : List Ent) (k : List UInt8) (s : Sib) : (putT l k s).length ≤ l.length + 1 ∧ l.length ≤ (putT l k s).length := by
  induction l with
  | nil => simp [putT]
  | cons e l ih =>
    unfold putT
    split
    · simp
    · simp; omega
theorem joinT_len (l : List Ent) (e : Ent) : (joinT l e).length ≤ l.length + 1 := by
  unfold joinT
  cases e.may
  · simp
  · exact (putT_len _ _ _).1
theorem fold_len (l r : List Ent) : (l.foldl joinT r).length ≤ r.length + l.length := by
  induction l generalizing r with
  | nil => simp
  | cons e l ih =>
    have h1 := ih (joinT r e)
    have h2 := joinT_len r e
    simp only [List.foldl_cons, List.length_cons]
    omega
def tabH (h : Heap) (l : List Ent) : Heap := h ++ [.map (mapE l), .cells [.map (some h.length)] []]
theorem putT_same {l : List Ent} {k : List UInt8} {s s' : Sib} (h : findT l k = some s') : (putT l k s).length = l.length := by
  induction l with
  | nil => cases h
  | cons e l ih =>
    unfold putT
    split
    · simp
    · rename_i hk
      unfold findT at h ih
      rw [List.find?_cons_of_neg (by simpa using hk)] at h
      simp [ih h]
end Go.Proofs.YtionebfmjjpnbaaGreat.V
