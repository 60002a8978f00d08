/- HintsApart. -/
import Derived.Test.YthkfjefoblmbhaaVmHL
set_option linter.unusedVariables false
set_option linter.unusedSimpArgs false
namespace Go.Proofs.Ythkfjefoblmbhaa.V
open Go.Vm

def nodeH (l : List Hnt) (n : Int) : List Hnt := l.filter fun x => decide (x.node = n)
/-! ### the two sets -/
theorem put_at0 {l : List Hnt} (inv : HInv l) (x : Hnt) (h L : Heap) : ∃ b, callL E F.hints_Set_Put [.ptr (some (h.length, 0)), x.v] (h ++ hsO l :: L) =
    some (.tup [.bool (putB l x), .int .i64 (putE l x)], h ++ hsO (putL l x) :: L, ⟨cnd b [h.length] [], [], mayH x⟩) := by
  have hi : hget (h ++ hsO l :: L) h.length = some (hsO l) := by rw [hget_local0]; rfl
  have h1 := hintsPut_eq hi inv x
  rw [hset_local0] at h1
  exact ⟨_, h1⟩
noncomputable def nodeA (cs : List Cll) (n : Int) : List Hnt := putAll [] (cs.filter fun c => decide (c.h.node = n))
end Go.Proofs.Ythkfjefoblmbhaa.V
