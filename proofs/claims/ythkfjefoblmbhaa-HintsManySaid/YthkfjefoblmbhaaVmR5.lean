/- What the functions of 'tattlerref5' compute: sibs. -/
import Derived.Test.YthkfjefoblmbhaaVmR1
import Derived.Test.YthkfjefoblmbhaaVmKX
set_option linter.unusedVariables false
set_option linter.unusedSimpArgs false
namespace Go.Proofs.Ythkfjefoblmbhaa.V
open Go.Vm

/-! ### may they be -/
def valOk (s : Vec) (v : Val) : Bool := s.covers v.dot && (decide (v.data.length ≤ 200) && (!v.dead || decide (v.data.length = 0)))
def upTo (l : List Val) (j : Nat) (v : Val) : Bool := match j with
  | 0 => true
  | j + 1 => getB l (fun u => u.dot.less v.dot) j
def sibAt (s : Sib) (j : Nat) : Bool := getB s.vals (fun v => valOk s.seen v && upTo s.vals j v) j
open Classical in
noncomputable def _root_.Go.Vm.Sib.may (s : Sib) : Bool := s.seen.may && (decide (s.vals.length ≤ 16) && decide (∀ j, j < s.vals.length → sibAt s j = true))
theorem mayLoop_end {s : Sib} {n : Nat} (hn : n = s.vals.length) (h0 : s.seen.may = true) (h1 : s.vals.length ≤ 16) (h : ∀ j, j < n → sibAt s j = true) : s.may = true := by
  subst hn
  unfold Sib.may
  rw [h0, decide_eq_true h1, decide_eq_true h]; rfl
theorem mayLoop_no {s : Sib} {j : Nat} (hj : j < s.vals.length) (h : sibAt s j = false) : s.may = false := by
  unfold Sib.may
  rw [decide_eq_false (p := ∀ j, j < s.vals.length → sibAt s j = true) (fun hh => by rw [hh j hj] at h; cases h)]
  simp
def keyOk (k : List UInt8) : Bool := decide (1 ≤ k.length) && decide (k.length ≤ 32)
noncomputable def _root_.Go.Vm.Ent.may (e : Ent) : Bool := keyOk e.key && e.sib.may
end Go.Proofs.Ythkfjefoblmbhaa.V
