/- What 'tattlerref5.Hints' computes. -/
import Derived.Test.YthkfjefoblmbhaaVmHL
import Derived.Test.YthkfjefoblmbhaaVmSF
import Derived.Test.YthkfjefoblmbhaaVmTN
set_option linter.unusedVariables false
set_option linter.unusedSimpArgs false
namespace Go.Proofs.Ythkfjefoblmbhaa.V
open Go.Vm

def rsO (l : List Hnt) : Vm.Obj := .cells [.sl (l.map Hnt.v)] []
theorem rs_lt (l : List Hnt) (n : Nat) : Vm.Obj.lt n (rsO l) = true := by simp [rsO, Vm.Obj.lt]
def idxH (l : List Hnt) (n : Int) (k : List UInt8) : Int := cnd (l.any fun x => heq x n k) (l.findIdx fun x => heq x n k) (-1)
section
variable {h : Heap} {i : Nat} {l : List Hnt} (hi : hget h i = some (rsO l)) (hl : l.length ≤ 64)
include hi hl
theorem at_eq (n : Int) (k : List UInt8) : callL E F.tattlerref5_Hints_at [.ptr (some (i, 0)), .int .i64 n, .str k] h = some (.int .i64 (idxH l n k), h, .no) := by
  have hi' : hget h i = some (.cells [.sl (l.map Hnt.v)] []) := hi
  have key := loop_scan (C := callL E) (fb := h.length) (live := [1, 2, 12, 13, 14]) (c := c_tattlerref5_Hints_at_l0)
    (fun j => ⟨[(1, .int .i64 n), (2, .str k), (12, .sl (l.map Hnt.v)), (13, .int .i64 l.length), (14, .int .i64 j)], h, .no⟩) l.length (fun j => match l[j]? with | some x => !heq x n k | none => true)
    (.exit 0, ⟨[(1, .int .i64 n), (2, .str k), (12, .sl (l.map Hnt.v)), (13, .int .i64 l.length), (14, .int .i64 l.length), (15, .bool false)], h, .no⟩)
    (fun j => (.ret, ⟨[(6, .int .i64 j)], h ++ [.cells (match l[j]? with | some x => x.c | none => []) []], .no⟩))
    (fun j hj hp => ?_) (fun j hj hp => ?_) (fun _ => rfl) ?_ rfl
  · rcases key with ⟨hall, key⟩ | ⟨j, hj, hp, hmin, key⟩
    · have hx : idxH l n k = -1 := by
        unfold idxH
        have : (l.any fun x => heq x n k) = false := by
          rw [List.any_eq_false]
          intro x hx
          obtain ⟨j, hj, rfl⟩ := List.mem_iff_getElem.1 hx
          have := hall j hj
          rw [List.getElem?_eq_getElem hj] at this
          simpa using this
        rw [this]; rfl
      rw [hx]
      refine callL_of rfl fn_tattlerref5_Hints_at ?_
      rw [show ((0 : Nat) : Int) = 0 from rfl] at key
      simp [-getElem?_pos, c_tattlerref5_Hints_at, key, hi']
    · obtain ⟨x, hx, _, hm⟩ := get_of_lt (l := l) (i := j) hj
      rw [hx] at hp
      have hx2 : idxH l n k = (j : Int) := by
        unfold idxH
        have h1 : (l.any fun x => heq x n k) = true := List.any_eq_true.2 ⟨x, hm, by simpa using hp⟩
        rw [h1, cnd_true]
        have : (l.findIdx fun x => heq x n k) = j := by
          rw [List.findIdx_eq hj]
          refine ⟨by rw [(List.getElem?_eq_some_iff.1 hx).2]; simpa using hp, fun q hq => ?_⟩
          have := hmin q hq
          rw [List.getElem?_eq_getElem (by omega)] at this
          simpa using this
        rw [this]
      rw [hx2]
      refine callL_of rfl fn_tattlerref5_Hints_at ?_
      rw [show ((0 : Nat) : Int) = 0 from rfl] at key
      simp [-getElem?_pos, c_tattlerref5_Hints_at, key, hi', hx]
  · obtain ⟨x, hx, _, _⟩ := get_of_lt (l := l) (i := j) hj
    rw [hx] at hp
    have hp : heq x n k = false := by simpa using hp
    have hlt : (j : Int) < (l.length : Int) := by omega
    have ha := i64_add1 (n := j) (by omega)
    rw [s_round]
    by_cases e1 : x.node = n
    · have e2 : (x.ent.key == k) = false := by
        simp only [beq_eq_false_iff_ne]
        intro e
        have := heq_iff.2 ⟨e1, (show x.key = k from e)⟩
        rw [hp] at this; cases this
      simp [-getElem?_pos, c_tattlerref5_Hints_at_l0, hlt, hj, hx, ha, e1, e2]
    · have e1b : (x.node == n) = false := by simpa using e1
      simp [-getElem?_pos, c_tattlerref5_Hints_at_l0, hlt, hj, hx, ha, e1b]
  · obtain ⟨x, hx, _, _⟩ := get_of_lt (l := l) (i := j) hj
    rw [hx] at hp ⊢
    have hp : heq x n k = true := by simpa using hp
    obtain ⟨e1, e2⟩ := heq_iff.1 hp
    have e2 : x.ent.key = k := e2
    have hlt : (j : Int) < (l.length : Int) := by omega
    rw [s_round]
    simp [-getElem?_pos, c_tattlerref5_Hints_at_l0, hlt, hj, hx, e1, e2]
  · rw [s_round]
    simp [c_tattlerref5_Hints_at_l0]
theorem r5Drop_none (n : Int) (k : List UInt8) (s : Sib) (hx : idxH l n k = -1) : callL E F.tattlerref5_Hints_Drop [.ptr (some (i, 0)), .int .i64 n, .str k, s.v] h = some (.bool false, h, .no) := by
  refine callL_of rfl fn_tattlerref5_Hints_Drop ?_
  have hlt := hget_lt hi
  have g := at_eq (h := h ++ [.cells s.c []]) (i := i) (l := l) (by rw [hget_app hlt]; exact hi) hl n k
  rw [hx] at g
  simp [-getElem?_pos, c_tattlerref5_Hints_Drop, g]
theorem r5Drop_keep (n : Int) (k : List UInt8) (s : Sib) (hs : s.vals.length ≤ 1099511627776) {p : Nat} (hx : idxH l n k = p) {e : Hnt} (he : l[p]? = some e) (hq : e.sib.leq s = false) : callL E F.tattlerref5_Hints_Drop [.ptr (some (i, 0)), .int .i64 n, .str k, s.v] h = some (.bool false, h, .no) := by
  refine callL_of rfl fn_tattlerref5_Hints_Drop ?_
  have hlt := hget_lt hi
  have hpl : p < l.length := (List.getElem?_eq_some_iff.1 he).1
  have hg : ∀ L, hget (h ++ L) i = some (.cells [.sl (l.map Hnt.v)] []) := fun L => by rw [hget_app hlt]; exact hi
  have g := at_eq (h := h ++ [.cells s.c []]) (i := i) (l := l) (hg _) hl n k
  rw [hx] at g
  have gq := fun H => r5Leq_eq e.ent.sib s hs H
  have hq' : e.ent.sib.leq s = false := hq
  rw [hq'] at gq
  have h0 : ¬ (p : Int) < 0 := by omega
  simp [-getElem?_pos, c_tattlerref5_Hints_Drop, g, gq, h0, hg, hpl, he]
theorem r5Drop_ok (n : Int) (k : List UInt8) (s : Sib) (hs : s.vals.length ≤ 1099511627776) {p : Nat} (hx : idxH l n k = p) {e : Hnt} (he : l[p]? = some e) (hq : e.sib.leq s = true) :
    callL E F.tattlerref5_Hints_Drop [.ptr (some (i, 0)), .int .i64 n, .str k, s.v] h = some (.bool true, hset h i (rsO (l.take p ++ l.drop (p + 1))), ⟨cnd (decide (i < h.length)) [i] [], [], false⟩) := by
  refine callL_of rfl fn_tattlerref5_Hints_Drop ?_
  have hlt := hget_lt hi
  have hpl : p < l.length := (List.getElem?_eq_some_iff.1 he).1
  have hi' : hget h i = some (.cells [.sl (l.map Hnt.v)] []) := hi
  have hg : ∀ L, hget (h ++ L) i = some (.cells [.sl (l.map Hnt.v)] []) := fun L => by rw [hget_app hlt]; exact hi
  have g := at_eq (h := h ++ [.cells s.c []]) (i := i) (l := l) (hg _) hl n k
  rw [hx] at g
  have gq := fun H => r5Leq_eq e.ent.sib s hs H
  have hq' : e.ent.sib.leq s = true := hq
  rw [hq'] at gq
  have h0 : ¬ (p : Int) < 0 := by omega
  have h1 := i64_add1 (n := p) (by omega)
  have f0 := fun o L => hsf0 hlt o L
  have hmt : (l.map Hnt.v).take p = (l.take p).map Hnt.v := by rw [List.map_take]
  have hmd : (l.map Hnt.v).drop (p + 1) = (l.drop (p + 1)).map Hnt.v := by rw [List.map_drop]
  have z1 := sizeOk_hnts l
  have z2 := sizeOk_hnts (l.take p)
  have z3 := sizeOk_hnts (l.drop (p + 1))
  have hb1 : (l.take p).length * 112 ≤ 140737488355328 := by have := List.length_take_le p l; omega
  have hb2 : ((l.take p).length + (l.drop (p + 1)).length) * 112 ≤ 140737488355328 := by
    rw [List.length_take, List.length_drop]; omega
  have hro : rsO (l.take p ++ l.drop (p + 1)) = .cells [.sl ((l.take p).map Hnt.v ++ (l.drop (p + 1)).map Hnt.v)] [] := by unfold rsO; rw [List.map_append]
  have l2 : ((l.take p).map Hnt.v).length = (l.take p).length := by simp
  have l3 : ((l.drop (p + 1)).map Hnt.v).length = (l.drop (p + 1)).length := by simp
  have hlm : (l.map Hnt.v).length = l.length := by simp
  have hget0 : (l.map Hnt.v)[p]? = some e.v := by simp [he]
  have hp1 : p ≤ l.length := by omega
  have hp2 : p + 1 ≤ l.length := by omega
  have htN : (l.map Hnt.v).take l.length = l.map Hnt.v := List.take_of_length_le (by simp)
  have hb3 : (((l.take p).map Hnt.v).length + (l.length - (p + 1))) * 112 ≤ 140737488355328 := by
    rw [List.length_map, List.length_take]; omega
  rw [hro]
  rw [← l2] at hb1
  rw [← l2, ← l3] at hb2
  generalize (l.take p).map Hnt.v = A at *
  generalize (l.drop (p + 1)).map Hnt.v = B at *
  generalize l.map Hnt.v = L at *
  generalize l.length = N at *
  simp [-getElem?_pos, -Int.natCast_add, c_tattlerref5_Hints_Drop, g, gq, h0, h1, hg, hpl, hget0, hlm, hmt, hmd, z1, z2, z3, hb1, hb2, hb3, htN, f0, hlt, hp1, hp2]
end
end Go.Proofs.Ythkfjefoblmbhaa.V
