/- Calls on hints as plain data; what 'light' computes; putting many. -/
import Derived.Test.YthkfjefoblmbhaaVmHG
set_option linter.unusedVariables false
set_option linter.unusedSimpArgs false
namespace Go.Proofs.Ythkfjefoblmbhaa.V
open Go.Vm

structure Cll where
  doo : Int
  h : Hnt
  seen : Sib
def Cll.c (x : Cll) : List V := .int .i64 x.doo :: (x.h.c ++ x.seen.c)
abbrev Cll.v (x : Cll) : V := .agg x.c
namespace Cll
variable (x : Cll)
@[simp] theorem k_len : x.c.length = 21 := by simp [Cll.c]
@[simp] theorem k_cell : x.c.all V.isCell = true := by rw [Cll.c, List.all_cons, List.all_append, Hnt.k_cell, Sib.c_cell]; rfl
@[simp] theorem k_pure : x.c.all V.pureCell = true := by rw [Cll.c, List.all_cons, List.all_append, Hnt.k_pure, Sib.c_pure]; rfl
@[simp] theorem k_lt (n : Nat) : V.ltL n x.c = true := by simp [Cll.c, Sib.ltL_append]
@[simp] theorem k_take : x.c.take 21 = x.c := List.take_of_length_le (by simp)
@[simp] theorem k_drop : x.c.drop 21 = [] := List.drop_of_length_le (by simp)
@[simp] theorem k0 : x.c[0]? = some (.int .i64 x.doo) := rfl
@[simp] theorem k1 : x.c[1]? = some (.int .i64 x.h.node) := rfl
@[simp] theorem k2 : x.c[2]? = some (.str x.h.ent.key) := rfl
@[simp] theorem k_h : (x.c.drop 1).take 11 = x.h.c := by
  show (x.h.c ++ x.seen.c).take 11 = _
  exact List.take_left' (by simp)
@[simp] theorem k_h' : x.c.tail.take 11 = x.h.c := k_h x
@[simp] theorem k_seen : x.c.drop 12 = x.seen.c := by
  show (x.h.c ++ x.seen.c).drop 11 = _
  exact List.drop_left' (by simp)
@[simp] theorem k_hv : x.c[11]? = some (.sl (x.h.ent.sib.vals.map Val.v)) := by
  show (x.h.c ++ x.seen.c)[10]? = _
  rw [List.getElem?_append_left (by simp)]
  exact Ent.c9 _
@[simp] theorem k_sv : x.c[20]? = some (.sl (x.seen.vals.map Val.v)) := by
  show (x.h.c ++ x.seen.c)[19]? = _
  rw [List.getElem?_append_right (by simp), Hnt.k_len]
  exact Sib.c8 _
@[simp] theorem v_flat : x.v.flat = x.c := rfl
@[simp] theorem v_lt (n : Nat) : x.v.lt n = true := by simp [Cll.v]
@[simp] theorem v_pure : x.v.pure = true := by simp [Cll.v]
end Cll

def lightC (j : Nat) (x : Cll) : Bool := decide (j < 120) && (decide (x.h.ent.sib.vals.length ≤ 20) && decide (x.seen.vals.length ≤ 20))
/-! ### putting many -/
noncomputable def putAll (l : List Hnt) (cs : List Cll) : List Hnt := cs.foldl (fun l c => putL l c.h) l
theorem HInv.putAll {l : List Hnt} (h : HInv l) : ∀ cs : List Cll, HInv (putAll l cs)
  | [] => h
  | c :: cs => HInv.putAll (h.putL c.h) cs
noncomputable def putM (cs : List Cll) : Bool := cs.any fun c => mayH c.h
end Go.Proofs.Ythkfjefoblmbhaa.V
