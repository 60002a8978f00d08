/- What the functions of 'tattlerref5' compute: sibs joined. -/
import Derived.Test.YtionebfmjjpnbaaVmR5
set_option linter.unusedVariables false
set_option linter.unusedSimpArgs false
namespace Go.Proofs.Ytionebfmjjpnbaa.V
open Go.Vm

def findD (l : List Val) (d : Dot) : Option Nat := l.findIdx? fun v => decide (v.dot = d)
def _root_.Go.Vm.Val.first (a b : Val) : Val := if a.dead ≠ b.dead then (if a.dead = true then b else a) else if bytesLess b.data a.data = true then b else a
def insertV : List Val → Val → List Val
  | [], v => [v]
  | u :: l, v => if u.dot.less v.dot = true then u :: insertV l v else v :: u :: l
theorem insertV_len (l : List Val) (v : Val) : (insertV l v).length = l.length + 1 := by
  induction l with
  | nil => rfl
  | cons u l ih => simp only [insertV]; split <;> simp [ih]
theorem insertV_at : ∀ {l : List Val} {v : Val} {j : Nat}, j ≤ l.length → (∀ i, i < j → getB l (fun u => u.dot.less v.dot) i = true) → (j = l.length ∨ getB l (fun u => u.dot.less v.dot) j = false) → insertV l v = l.take j ++ v :: l.drop j
  | [], v, j, hj, _, _ => by
    have : j = 0 := by simpa using hj
    subst this; rfl
  | u :: l, v, 0, _, _, h => by
    rcases h with h | h
    · cases h
    · have : u.dot.less v.dot = false := by simpa [getB] using h
      simp [insertV, this]
  | u :: l, v, j + 1, hj, h0, h => by
    have : u.dot.less v.dot = true := by simpa [getB] using h0 0 (by omega)
    simp only [insertV, this, if_true, List.take_succ_cons, List.drop_succ_cons, List.cons_append]
    congr 1
    refine insertV_at (by simpa using hj) (fun i hi => ?_) (h.imp (fun e => by simpa using e) id)
    exact h0 (i + 1) (by omega)
end Go.Proofs.Ytionebfmjjpnbaa.V
