/- TableCopies. -/
import Derived.Test.YtionebfmjjpnbaaGreatVmTO
set_option linter.unusedVariables false
set_option linter.unusedSimpArgs false
namespace Go.Proofs.YtionebfmjjpnbaaGreat.V
open Go.Vm

noncomputable def reapT (T : List Ent) (k : List UInt8) : List Ent :=
  match findT T k with
  | some s => putT T k (reapS s)
  | none => T
theorem reapT_len (T : List Ent) (k : List UInt8) : (reapT T k).length = T.length := by
  unfold reapT
  cases hf : findT T k with
  | none => rfl
  | some s => exact putT_same hf
noncomputable def reapsT (T : List Ent) (l : List Ent) : List Ent := l.foldl (fun T e => reapT T e.key) T
theorem fill_take {l T : List Ent} {j : Nat} {e : Ent} (h : l[j]? = some e) : (l.take (j + 1)).foldl joinT T = joinT ((l.take j).foldl joinT T) e := foldl_takeG h
end Go.Proofs.YtionebfmjjpnbaaGreat.V
