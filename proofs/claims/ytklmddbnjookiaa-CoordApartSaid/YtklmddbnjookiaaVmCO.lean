/- What the functions of 'coord' compute: what is there, asking. -/
import Derived.Test.YtklmddbnjookiaaVmCQ
import Derived.Test.YtklmddbnjookiaaVmSD
import Derived.Test.YtklmddbnjookiaaVmSM
import Derived.Test.YtklmddbnjookiaaVmLS
import Derived.Test.YtklmddbnjookiaaVmTM
import Derived.Test.YtklmddbnjookiaaVmG5
set_option linter.unusedVariables false
set_option linter.unusedSimpArgs false
namespace Go.Proofs.Ytklmddbnjookiaa.V
open Go.Vm

/-- An operation under way. -/
structure OpS where
  key : List UInt8
  wr : Bool
  s : Sib
  ans : List Sib
  age : Int
def OpS.c (o : OpS) (q : Nat) : List V := .str o.key :: .bool o.wr :: (o.s.c ++ (.ptr (some (q, 0)) :: (o.ans.flatMap Sib.c ++ [.int .i64 o.age])))
structure Ans where
  op : Int
  err : Int
  sib : Sib
abbrev Ans.c (a : Ans) : List V := .int .i64 a.op :: .int .i64 a.err :: a.sib.c
abbrev Ans.v (a : Ans) : V := .agg a.c
def coordO (wait last : Int) (mi : Nat) (ans : List Ans) : Vm.Obj := .cells [.int .i64 wait, .int .i64 last, .map (some mi), .sl (ans.map Ans.v)] [(3, 11)]
def mapI (l : List (Int × Nat)) : List (V × V) := l.map fun x => (.int .i64 x.1, .ptr (some (x.2, 0)))
def findI : List (Int × Nat) → Int → Option Nat
  | [], _ => none
  | x :: l, n => if n = x.1 then some x.2 else findI l n
def delI : List (Int × Nat) → Int → List (Int × Nat)
  | [], _ => []
  | x :: l, n => if n = x.1 then l else x :: delI l n
theorem findV_mapI (n : Int) : ∀ l : List (Int × Nat), Vm.findV .i (.int .i64 n) (mapI l) = some ((findI l n).map fun p => V.ptr (some (p, 0)))
  | [] => rfl
  | x :: l => by
    show bnd (cellEq .i (.int .i64 n) (.int .i64 x.1)) _ = _
    have ih := findV_mapI n l
    unfold mapI at ih
    simp only [cellEq, decide_true, cnd_true, bnd_some, findI]
    by_cases h : n = x.1
    · rw [if_pos h, show (n == x.1) = true by simpa using h]; rfl
    · rw [if_neg h, show (n == x.1) = false by simpa using h, cnd_false, ih]
theorem putV_mapI {n : Int} (v : V) : ∀ {l : List (Int × Nat)}, findI l n = none → putV .i (.int .i64 n) v (mapI l) = some (mapI l ++ [(.int .i64 n, v)])
  | [], _ => rfl
  | x :: l, h => by
    show bnd (cellEq .i (.int .i64 n) (.int .i64 x.1)) _ = _
    simp only [findI] at h
    by_cases hx : n = x.1
    · rw [if_pos hx] at h; cases h
    · rw [if_neg hx] at h
      have ih := putV_mapI v h
      unfold mapI at ih
      simp only [cellEq, decide_true, cnd_true, bnd_some]
      rw [show (n == x.1) = false by simpa using hx, cnd_false, ih]
      rfl
theorem delV_mapI (n : Int) : ∀ l : List (Int × Nat), delV .i (.int .i64 n) (mapI l) = some (mapI (delI l n))
  | [] => rfl
  | x :: l => by
    show bnd (cellEq .i (.int .i64 n) (.int .i64 x.1)) _ = _
    have ih := delV_mapI n l
    unfold mapI at ih
    simp only [cellEq, decide_true, cnd_true, bnd_some, delI]
    by_cases h : n = x.1
    · rw [if_pos h, show (n == x.1) = true by simpa using h]; rfl
    · rw [if_neg h, show (n == x.1) = false by simpa using h, cnd_false, ih]; rfl
/-- A coordinator: where it is, where its map. -/
structure CAt (h : Heap) (i mi : Nat) (wait last : Int) (ans : List Ans) (ops : List (Int × Nat)) : Prop where
  co : hget h i = some (coordO wait last mi ans)
  mp : hget h mi = some (.map (mapI ops))
theorem CAt.mapOf {h : Heap} {i mi : Nat} {wait last : Int} {ans : List Ans} {ops : List (Int × Nat)} (t : CAt h i mi wait last ans ops) : Vm.mapOf h (.map (some mi)) = some (mapI ops) := by
  show mapAt h mi = _
  unfold mapAt
  rw [t.mp]
theorem CAt.app {h : Heap} {i mi : Nat} {wait last : Int} {ans : List Ans} {ops : List (Int × Nat)} (t : CAt h i mi wait last ans ops) (x : Heap) : CAt (h ++ x) i mi wait last ans ops :=
  ⟨by rw [hget_app (hget_lt t.co)]; exact t.co, by rw [hget_app (hget_lt t.mp)]; exact t.mp⟩
theorem CAt.ne {h : Heap} {i mi : Nat} {wait last : Int} {ans : List Ans} {ops : List (Int × Nat)} (t : CAt h i mi wait last ans ops) : i ≠ mi := fun e => by
  have h1 := t.co
  have h2 := t.mp
  rw [e, h2] at h1
  unfold coordO at h1
  cases h1
theorem coordNew_eq (w : Int) (h : Heap) : callL E F.coord_New [.int .i64 w] h = some (.ptr (some (h.length + 1, 0)), h ++ [.map [], coordO (max 1 w) 0 h.length []], .no) := by
  refine callL_of rfl fn_coord_New ?_
  have hm : (if 1 < w then w else 1) = max 1 w := by split <;> omega
  simp [-getElem?_pos, c_coord_New, coordO, hm]
  done
theorem coordLen_eq {h : Heap} {i mi : Nat} {wait last : Int} {ans : List Ans} {ops : List (Int × Nat)} (t : CAt h i mi wait last ans ops) : callL E F.coord_Coord_Len [.ptr (some (i, 0))] h = some (.int .i64 ops.length, h, .no) := by
  refine callL_of rfl fn_coord_Coord_Len ?_
  have h1 := t.co
  have h2 := t.mapOf
  unfold coordO at h1
  have hl : (mapI ops).length = ops.length := by simp [mapI]
  simp [-getElem?_pos, c_coord_Coord_Len, h1, h2, hl]
  done
theorem copied22_eq {s : Sib} (hs : s.may = true) (h : Heap) : callL E F.coord_copied [s.v] h = some (s.v, h, .no) := by
  refine callL_of rfl fn_coord_copied ?_
  have g := fun x => sibsJoin_eq s s (h ++ x)
  rw [join_self hs] at g
  simp only [Sib.v] at g
  simp [-getElem?_pos, c_coord_copied, g]
  done
theorem coordFind_none {h : Heap} {i mi : Nat} {wait last : Int} {ans : List Ans} {ops : List (Int × Nat)} (t : CAt h i mi wait last ans ops) (n : Int) (w : Bool) (hf : findI ops n = none) :
    callL E F.coord_Coord_find [.ptr (some (i, 0)), .int .i64 n, .bool w] h = some (.ptr none, h, .no) := by
  refine callL_of rfl fn_coord_Coord_find ?_
  have h1 := t.co
  have h2 := t.mapOf
  have h3 := findV_mapI n ops
  rw [hf] at h3
  simp only [Option.map_none] at h3
  unfold coordO at h1
  simp [-getElem?_pos, c_coord_Coord_find, h1, h2, h3, isKey, found]
  done
theorem coordFind_some {h : Heap} {i mi : Nat} {wait last : Int} {ans : List Ans} {ops : List (Int × Nat)} (t : CAt h i mi wait last ans ops) (n : Int) (w : Bool) {p q : Nat} {o : OpS} (hf : findI ops n = some p) (ho : hget h p = some (.cells (o.c q) [])) :
    callL E F.coord_Coord_find [.ptr (some (i, 0)), .int .i64 n, .bool w] h = some (.ptr (if o.wr = w then some (p, 0) else none), h, .no) := by
  refine callL_of rfl fn_coord_Coord_find ?_
  have h1 := t.co
  have h2 := t.mapOf
  have h3 := findV_mapI n ops
  rw [hf] at h3
  simp only [Option.map_some] at h3
  have h4 : (o.c q)[1]? = some (.bool o.wr) := rfl
  have hp := hget_lt ho
  unfold coordO at h1
  by_cases hw : o.wr = w
  · have e1 : (o.wr == w) = true := by simpa using hw
    rw [if_pos hw]
    simp [-getElem?_pos, c_coord_Coord_find, h1, h2, h3, ho, h4, isKey, found, e1, hw, hp]
    done
  · have e1 : (o.wr == w) = false := by simpa using hw
    rw [if_neg hw]
    simp [-getElem?_pos, c_coord_Coord_find, h1, h2, h3, ho, h4, isKey, found, e1, hw, hp]
    done
end Go.Proofs.Ytklmddbnjookiaa.V
