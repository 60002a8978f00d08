/- What the functions of 'sibs' compute: writing. -/
import Derived.Test.YthkfjefoblmbhaaVmKV
set_option linter.unusedVariables false
set_option linter.unusedSimpArgs false
namespace Go.Proofs.Ythkfjefoblmbhaa.V
open Go.Vm

theorem hset_app {h l : Heap} {i : Nat} {o : Vm.Obj} (hi : i < h.length) : hset (h ++ l) i o = hset h i o ++ l := Vm.hset_app hi
theorem hget_app {h l : Heap} {i : Nat} (hi : i < h.length) : hget (h ++ l) i = hget h i := by simp [hget, hi, List.getElem?_append_left]
def u64 (n : Int) : Nat := (n % 18446744073709551616).toNat
def Wr.val (w : Wr) (v : Val) : Wr := (((w.put (encNum (u64 v.dot.node))).put (encNum (zig v.dot.n))).put [if v.dead then 1 else 0]).put (encNum v.data.length ++ v.data)
def Wr.vals (w : Wr) (l : List Val) : Wr := l.foldl Wr.val w
def Wr.sib (w : Wr) (s : Sib) : Wr := ((w.vec s.seen.l).put (encNum s.vals.length)).vals s.vals
def Wr.ent (w : Wr) (e : Ent) : Wr := (w.put (encNum e.key.length ++ e.key)).sib e.sib
theorem Wr.Ok.val {w : Wr} (h : w.Ok) (v : Val) : (w.val v).Ok := (((h.put _).put _).put _).put _
theorem Wr.Ok.vals {w : Wr} (h : w.Ok) (l : List Val) : (w.vals l).Ok := by
  induction l generalizing w with
  | nil => exact h
  | cons v l ih => exact ih (h.val v)
theorem Wr.Ok.sib {w : Wr} (h : w.Ok) (s : Sib) : (w.sib s).Ok := ((h.vec _).put _).vals _
theorem Wr.Ok.ent {w : Wr} (h : w.Ok) (e : Ent) : (w.ent e).Ok := (h.put _).sib _
def _root_.Go.Vm.Val.Small (v : Val) : Prop := v.dot.Wf ∧ v.data.length ≤ 1099511627776
def _root_.Go.Vm.Sib.Small (s : Sib) : Prop := s.seen.Wf ∧ s.vals.length ≤ 1099511627776 ∧ ∀ v ∈ s.vals, v.Small
def _root_.Go.Vm.Ent.Small (e : Ent) : Prop := e.key.length ≤ 1099511627776 ∧ e.sib.Small

end Go.Proofs.Ythkfjefoblmbhaa.V
