/- CoordLate: the two operations, and who has come. -/
import Derived.Test.YtklmddbnjookiaaVmCOW
import Derived.Test.YtklmddbnjookiaaVmMI
set_option linter.unusedVariables false
set_option linter.unusedSimpArgs false
set_option linter.unusedSectionVars false
namespace Go.Proofs.Ytklmddbnjookiaa.V
open Go.Vm

theorem hsets {h : Heap} {i : Nat} (hi : i < h.length) (o : Vm.Obj) : hget (hset h i o) i = some o := by
  rw [← List.append_nil (hset h i o)]; exact hgetS hi o []
theorem hsets_ne {h : Heap} {i k : Nat} (hk : k < h.length) (hne : i ≠ k) (o : Vm.Obj) : hget (hset h i o) k = hget h k := by
  rw [← List.append_nil (hset h i o)]; exact hgetS_ne hk hne o []
/-- Who has come. -/
def seenM (S : List Nat) : List (V × V) := S.map fun (n : Nat) => (.int .i64 (n : Int), .int .i64 1)
def opW : OpS := ⟨[107], true, zeroSib, ans8, 0⟩
def opR : OpS := ⟨[107], false, zeroSib, ans8, 0⟩
/-- Both are under way, or neither. -/
structure LAt (b need : Nat) (h H : Heap) (hs : List Bool) (S : List Nat) : Prop where
  way : (cntN hs < need ∧ CAt H (b + 1) b 9 2 [] [(1, b + 5), (2, b + 9)] ∧ OAt H (b + 5) (b + 4) opW need hs ∧ OAt H (b + 9) (b + 8) opR need hs) ∨ (need ≤ cntN hs ∧ ∃ ans : List Ans, ans.length = 2 ∧ CAt H (b + 1) b 9 2 ans [])
  seen : hget H (b + 10) = some (.map (seenM S))
  hl : hs.length = 8
  mem : ∀ k, k < 8 → (hs.getD k false = true ↔ k ∈ S)
  cnt : cntN hs = S.length
  pre : H.take b = h
  len : H.length = b + 11
end Go.Proofs.Ytklmddbnjookiaa.V
