/- What 'vector.Read' computes. -/
import Derived.Test.YtphlgefkcghopaaVmKB
import Derived.Test.YtphlgefkcghopaaVmR5C
set_option linter.unusedVariables false
set_option linter.unusedSimpArgs false
namespace Go.Proofs.Ytphlgefkcghopaa.V
open Go.Vm

def encV (l : List Int) : List UInt8 := l.flatMap fun n => encNum (zig n)
def midV (v : Vec) (j : Nat) : List V := (v.l.take j ++ (List.replicate 8 (0 : Int)).drop j).map (V.int .i64)
theorem midV_len (v : Vec) (j : Nat) (hj : j ≤ 8) : (midV v j).length = 8 := by simp [midV]; omega
theorem midV_set (v : Vec) (j : Nat) (hj : j < 8) {x : Int} (hx : v.l[j]? = some x) : (midV v j).set j (.int .i64 x) = midV v (j + 1) := by
  unfold midV
  rw [List.map_append, List.set_append_right _ _ (by simp; omega)]
  have h1 : (List.replicate 8 (0 : Int)).drop j = 0 :: (List.replicate 8 (0 : Int)).drop (j + 1) := by
    rw [List.drop_replicate, List.drop_replicate, show 8 - j = (8 - (j + 1)) + 1 by omega, List.replicate_succ]
  have h2 : j - (List.map (V.int IntKind.i64) (v.l.take j)).length = 0 := by simp; omega
  rw [h1, h2, List.take_add_one, hx]
  simp
theorem midV_all (v : Vec) : midV v 8 = v.c := by
  unfold midV
  rw [List.take_of_length_le (by simp), List.drop_of_length_le (by simp), List.append_nil]; rfl
theorem midV_0 (v : Vec) : midV v 0 = zeroVec.c := rfl
def vR (v : Vec) (i : Nat) (rest : List UInt8) (h : Heap) (j : Nat) : St :=
  ⟨[(0, .ptr (some (i, 0))), (2, .ptr (some (h.length, 0))), (4, .ptr (some (h.length + 1, 0))), (6, .int .i64 j)], hset h i (Rd.o ⟨encV (v.l.drop j) ++ rest, 0⟩) ++ [.cells zeroVec.c [], .cells (midV v j) []], .w (if j = 0 then [] else [i])⟩
theorem vecRead_loop {v : Vec} (hv : v.Wf) (rest : List UInt8) {h : Heap} {i : Nat} (hh : hget h i = some (Rd.o ⟨encV v.l ++ rest, 0⟩)) :
    loopRun (callL E) loopL h.length [0, 2, 4, 6] c_vector_Read_l0 (vR v i rest h 0) =
      some (.exit 0, ⟨[(0, .ptr (some (i, 0))), (2, .ptr (some (h.length, 0))), (4, .ptr (some (h.length + 1, 0))), (6, .int .i64 8), (7, .bool false)], hset h i (Rd.o ⟨rest, 0⟩) ++ [.cells zeroVec.c [], .cells v.c []], .w [i]⟩) := by
  have hil := hget_lt hh
  refine loop_to (C := callL E) (fb := h.length) (live := [0, 2, 4, 6]) (c := c_vector_Read_l0) (vR v i rest h) 8 (fun j hj => ?_) ?_ rfl
  · obtain ⟨x, hx, hd, hm⟩ := get_of_lt (l := v.l) (i := j) (by simp; omega)
    have hlt : (j : Int) < 8 := by omega
    have h1 := i64_add1 (n := j) (by omega)
    have hd' : encV (v.l.drop j) ++ rest = encNum (zig x) ++ (encV (v.l.drop (j + 1)) ++ rest) := by rw [hd]; simp [encV]
    unfold vR
    rw [hd', ← midV_set v j hj hx]
    have hk := hget_hset (q := Rd.o ⟨encNum (zig x) ++ (encV (v.l.drop (j + 1)) ++ rest), 0⟩) hh
    have hkl : (hset h i (Rd.o ⟨encNum (zig x) ++ (encV (v.l.drop (j + 1)) ++ rest), 0⟩)).length = h.length := hset_len _ _ _
    have hkk : hset h i (Rd.o ⟨encV (v.l.drop (j + 1)) ++ rest, 0⟩) = hset (hset h i (Rd.o ⟨encNum (zig x) ++ (encV (v.l.drop (j + 1)) ++ rest), 0⟩)) i (Rd.o ⟨encV (v.l.drop (j + 1)) ++ rest, 0⟩) := by rw [hset_hset]
    rw [hkk]
    have hml := midV_len v j (by omega)
    have hws : (if j = 0 then ([] : List Nat) else [i]) = [] ∨ (if j = 0 then ([] : List Nat) else [i]) = [i] := by split <;> simp
    rw [if_neg (show ¬ j + 1 = 0 by omega)]
    generalize (if j = 0 then ([] : List Nat) else [i]) = ws at hws ⊢
    generalize hset h i (Rd.o ⟨encNum (zig x) ++ (encV (v.l.drop (j + 1)) ++ rest), 0⟩) = K at *
    generalize midV v j = mm at *
    have g1 := rdInt_eq (hv x hm) (encV (v.l.drop (j + 1)) ++ rest) (h := K ++ [.cells zeroVec.c [], .cells mm []]) (i := i) (by rw [hget_app (by omega)]; exact hk)
    rw [hset_app (by omega)] at g1
    have hiK : i < K.length := by omega
    generalize (encV (v.l.drop (j + 1)) ++ rest) = RR at *
    have hiK2 : i < K.length + 2 := by omega
    have htk : ∀ a b, List.take (K.length + 2) (hset K i (Rd.o ⟨RR, 0⟩) ++ [a, b]) = hset K i (Rd.o ⟨RR, 0⟩) ++ [a, b] := fun a b => List.take_of_length_le (by simp)
    rw [← hkl, s_round]
    rcases hws with rfl | rfl <;> simp [-getElem?_pos, c_vector_Read_l0, g1, h1, hlt, hj, hset_len, hiK, hiK2, htk, hml]
  · unfold vR
    rw [s_round, midV_all, List.drop_of_length_le (by simp)]
    simp [c_vector_Read_l0, encV]
theorem vecRead_eq {v : Vec} (hv : v.Wf) (rest : List UInt8) {h : Heap} {i : Nat} (hh : hget h i = some (Rd.o ⟨encV v.l ++ rest, 0⟩)) :
    callL E F.vector_Read [.ptr (some (i, 0))] h = some (.tup [(if v.may = true then v else zeroVec).v, .bool v.may], hset h i (Rd.o ⟨rest, 0⟩), .w [i]) := by
  refine callL_of rfl fn_vector_Read ?_
  have hil := hget_lt hh
  have key := vecRead_loop hv rest hh
  have h0 : vR v i rest h 0 = ⟨[(0, .ptr (some (i, 0))), (2, .ptr (some (h.length, 0))), (4, .ptr (some (h.length + 1, 0))), (6, .int .i64 0)], h ++ [.cells zeroVec.c [], .cells zeroVec.c []], .no⟩ := by
    unfold vR
    rw [List.drop_zero, hset_same hh, midV_0]
    rfl
  rw [h0] at key
  have hk := hget_hset (q := Rd.o ⟨rest, 0⟩) hh
  have hkl : (hset h i (Rd.o ⟨rest, 0⟩)).length = h.length := hset_len _ _ _
  generalize hset h i (Rd.o ⟨rest, 0⟩) = K at *
  have hk' : hget (K ++ [.cells zeroVec.c [], .cells v.c []]) i = some (Rd.o ⟨rest, 0⟩) := by rw [hget_app (by omega)]; exact hk
  have g1 := good_eq _ hk'
  have hg : (decide (Rd.fin ⟨rest, 0⟩ = 0) || decide (0 < (⟨rest, 0⟩ : Rd).b.length)) = true := by
    unfold Rd.fin
    cases rest <;> simp
  rw [hg] at g1
  have g2 := vecMay_eq v (K ++ [.cells zeroVec.c [], .cells v.c []])
  have hzc : zeroVec.c = [.int .i64 0, .int .i64 0, .int .i64 0, .int .i64 0, .int .i64 0, .int .i64 0, .int .i64 0, .int .i64 0] := rfl
  have hiK : i < K.length := by omega
  rw [hzc] at key g1 g2
  simp only [Vec.v] at g2
  rw [← hkl] at key
  have hrun : ∀ r, runV (callL E) loopL c_vector_Read [.ptr (some (i, 0))] h = r → runV (callL E) loopL c_vector_Read [.ptr (some (i, 0))] h = r := fun _ h => h
  cases hm : v.may <;> rw [hm] at g2 <;> simp [-getElem?_pos, c_vector_Read, ← hkl, key, g1, g2, hiK, Vec.v, hzc]
end Go.Proofs.Ytphlgefkcghopaa.V
