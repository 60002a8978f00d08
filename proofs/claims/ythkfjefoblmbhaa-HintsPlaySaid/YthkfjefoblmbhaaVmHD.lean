/- Hints as plain data, and how they lie in the V-machine. -/
import Derived.Test.YthkfjefoblmbhaaVmKV
import Derived.Test.YthkfjefoblmbhaaVmG5
set_option linter.unusedVariables false
set_option linter.unusedSimpArgs false
namespace Go.Proofs.Ythkfjefoblmbhaa.V
open Go.Vm

structure Hnt where
  node : Int
  ent : Ent
  deriving DecidableEq
def Hnt.c (h : Hnt) : List V := .int .i64 h.node :: h.ent.c
abbrev Hnt.v (h : Hnt) : V := .agg h.c
def Hnt.Wf (h : Hnt) : Prop := I64 h.node ∧ h.ent.Wf
def Hnt.sib (h : Hnt) : Sib := h.ent.sib
def Hnt.key (h : Hnt) : List UInt8 := h.ent.key
def Hnt.with (h : Hnt) (s : Sib) : Hnt := ⟨h.node, ⟨h.ent.key, s⟩⟩
namespace Hnt
variable (h : Hnt)
@[simp] theorem k_len : h.c.length = 11 := by simp [Hnt.c]
@[simp] theorem k_cell : h.c.all V.isCell = true := by rw [Hnt.c, List.all_cons, Ent.c_cell]; rfl
@[simp] theorem k_pure : h.c.all V.pureCell = true := by rw [Hnt.c, List.all_cons, Ent.c_pure]; rfl
@[simp] theorem k_lt (n : Nat) : V.ltL n h.c = true := by simp [Hnt.c]
@[simp] theorem k_take : h.c.take 11 = h.c := List.take_of_length_le (by simp)
@[simp] theorem k_drop : h.c.drop 11 = [] := List.drop_of_length_le (by simp)
@[simp] theorem c0 : h.c[0]? = some (.int .i64 h.node) := rfl
@[simp] theorem c1 : h.c[1]? = some (.str h.ent.key) := rfl
@[simp] theorem k10 : h.c[10]? = some (.sl (h.ent.sib.vals.map Val.v)) := Ent.c9 _
@[simp] theorem k_drop1 : h.c.drop 1 = h.ent.c := rfl
@[simp] theorem k_tail : h.c.tail = h.ent.c := rfl
@[simp] theorem k_drop2 : h.c.drop 2 = h.ent.sib.c := rfl
@[simp] theorem k_take2 : h.c.take 2 = [.int .i64 h.node, .str h.ent.key] := rfl
theorem k_with (s : Sib) : h.c.take 2 ++ (s.c ++ h.c.drop 11) = (h.with s).c := by rw [k_drop, List.append_nil]; rfl
theorem k_with' (s : Sib) : V.int .i64 h.node :: V.str h.ent.key :: s.c = (h.with s).c := rfl
@[simp] theorem v_flat : h.v.flat = h.c := rfl
@[simp] theorem v_lt (n : Nat) : h.v.lt n = true := by simp [Hnt.v]
@[simp] theorem v_pure : h.v.pure = true := by simp [Hnt.v]
@[simp] theorem with_node (s : Sib) : (h.with s).node = h.node := rfl
@[simp] theorem with_key (s : Sib) : (h.with s).key = h.key := rfl
@[simp] theorem with_sib (s : Sib) : (h.with s).sib = s := rfl
@[simp] theorem with_esib (s : Sib) : (h.with s).ent.sib = s := rfl
@[simp] theorem with_ekey (s : Sib) : (h.with s).ent.key = h.ent.key := rfl
end Hnt
@[simp] theorem sizeOk_hnts (l : List Hnt) : sizeOk 11 (l.map Hnt.v) = true := by cases l <;> simp
theorem hnt_flat (l : List Hnt) : (l.map Hnt.v).flatMap V.flat = l.flatMap Hnt.c := by rw [List.flatMap_map]; rfl
theorem hnt_len (l : List Hnt) : (l.flatMap Hnt.c).length = l.length * 11 := flat_len (z := 11) (fun x => by simp) l
theorem hnt_pure (l : List Hnt) : (l.flatMap Hnt.c).all V.pureCell = true := flat_pure (c := Hnt.c) (fun x => by simp) l
theorem hnt_chunks (l : List Hnt) : chunks true 11 l.length (l.flatMap Hnt.c) = l.map Hnt.v := flat_chunks (c := Hnt.c) (z := 11) (fun x => by simp) (by omega) l
def hsO (l : List Hnt) : Vm.Obj := .cells [.own (l.map Hnt.v)] [(0, 1000011)]
def lV (k n : Nat) : V := cnd (decide (n = 0)) (.eml k 11) (.msl k 0 n 11)
def lO (l : List Hnt) : Vm.Obj := cnd (decide (l.length = 0)) .emp (.cells (l.flatMap Hnt.c) [])
theorem lV_pos (k : Nat) {n : Nat} (h : 0 < n) : lV k n = .msl k 0 n 11 := by unfold lV; rw [decide_eq_false (by omega)]; rfl
theorem lO_pos {l : List Hnt} (h : 0 < l.length) : lO l = .cells (l.flatMap Hnt.c) [] := by unfold lO; rw [decide_eq_false (by omega)]; rfl
theorem thw_hs {H : Heap} {i fb : Nat} {l : List Hnt} (h : hget H i = some (hsO l)) : thwcV fb 11 H (.ptr (some (i, 0))) = some (.undef, hset H i (.cells [lV H.length l.length] []) ++ [lO l], ⟨[], [i], true⟩) := by
  have e1 : cellsAt H i = some ([.own (l.map Hnt.v)], [(0, 1000011)]) := by unfold cellsAt; rw [h]; rfl
  show bnd (cellsAt H i) _ = _
  rw [e1]
  simp only [bnd_some, ownHas, decide_true, Bool.true_and, Bool.true_or, cnd_true, ownV, List.getElem?_cons_zero, List.length_map, hnt_flat]
  rfl
theorem set_hs {H : Heap} {i k : Nat} {l : List Hnt} (h : hget H i = some (.cells [lV k l.length] [])) (hk : hget H k = some (lO l)) : setcV 11 true H (.ptr (some (i, 0))) = some (.undef, hset (hset H k .dead) i (hsO l), .no) := by
  have hik : k ≠ i := fun e => by
    subst e
    rw [h] at hk
    cases l with
    | nil => cases hk
    | cons x l =>
      rw [lO_pos (by simp)] at hk
      injection hk with hk
      injection hk with hk
      have := congrArg List.length hk
      rw [hnt_len] at this
      simp at this
      omega
  have e1 : cellsAt H i = some ([lV k l.length], []) := by unfold cellsAt; rw [h]
  show bnd (cellsAt H i) _ = _
  rw [e1]
  cases l with
  | nil => 
    have hk' : hget H k = some .emp := hk
    simp [lV, pureL, mcells, hk', msizeA, msize, ownNot, mnot, mkill, hik, chunks, hsO]
  | cons x l =>
    have hp : 0 < (x :: l).length := by simp
    rw [lO_pos hp] at hk
    rw [lV_pos k hp]
    have h1 := hnt_len (x :: l)
    have h2 := hnt_pure (x :: l)
    have h3 := hnt_chunks (x :: l)
    generalize (x :: l).flatMap Hnt.c = FL at *
    generalize hn : (x :: l).length = n at *
    have ht : FL.take (n * 11) = FL := List.take_of_length_le (by omega)
    have hle : n * 11 ≤ FL.length := by omega
    simp [pureL, mcells, hk, msizeA, msize, ownNot, mnot, mkill, hik, hsO, hle, ht, h2, h3]
end Go.Proofs.Ythkfjefoblmbhaa.V
