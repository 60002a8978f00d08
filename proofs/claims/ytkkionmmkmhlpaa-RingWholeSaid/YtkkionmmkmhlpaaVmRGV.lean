/- The first owner is the one whose point comes next. -/
import Derived.Test.YtkkionmmkmhlpaaVmRGN
import Derived.Test.YtkkionmmkmhlpaaVRO
set_option linter.unusedVariables false
set_option linter.unusedSimpArgs false
namespace Go.Proofs.Ytkkionmmkmhlpaa.W2
open Go.Vm Go.Proofs.Ytkkionmmkmhlpaa.V

def dd1 (out : List Int) (p : Pt) : List Int := cnd (out.contains p.node) out (out ++ [p.node])
def dd (out : List Int) (T : List Pt) : List Int := T.foldl dd1 out
theorem pass_dd (fr : Int) (turn : Bool) : ∀ (ps : List Pt) (out : List Int), pass fr turn out ps = dd out (ps.filter fun p => decide (fr ≤ p.at') == turn)
  | [], _ => rfl
  | p :: ps, out => by
    show pass fr turn (take1 fr turn out p) ps = _
    rw [pass_dd fr turn ps, List.filter_cons]
    unfold take1
    cases h1 : (decide (fr ≤ p.at') == turn)
    · rfl
    · simp only [Bool.true_and, if_true]
      show dd (cnd (!out.contains p.node) _ _) _ = dd (dd1 out p) _
      unfold dd1
      cases out.contains p.node <;> rfl
abbrev tour (ps : List Pt) (fr : Int) : List Pt := (ps.filter fun p => decide (fr ≤ p.at') == true) ++ ps.filter fun p => decide (fr ≤ p.at') == false
theorem orderL_dd (ps : List Pt) (fr : Int) : orderL ps fr = dd [] (tour ps fr) := by
  unfold orderL
  rw [pass_dd, pass_dd]
  unfold dd
  rw [List.foldl_append]
noncomputable def gap (pl : Int) (x k : Int) : Int := IntKind.wrap .u32 (point x k - pl)
def mn2 (a b : Int) : Int := if b < a then b else a
noncomputable def far (pl x : Int) : Int := mn2 (mn2 (mn2 (mn2 4294967295 (gap pl x 0)) (gap pl x 1)) (gap pl x 2)) (gap pl x 3)
noncomputable def keyP (pl : Int) (p : Pt) : Int := IntKind.wrap .u32 (p.at' - pl)
end Go.Proofs.Ytkkionmmkmhlpaa.W2
