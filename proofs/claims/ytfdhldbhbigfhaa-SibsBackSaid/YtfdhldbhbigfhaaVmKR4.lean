/- What the functions of 'wire' compute: the reader's counts and texts. -/
import Derived.Test.YtfdhldbhbigfhaaVmKR3
set_option linter.unusedVariables false
set_option linter.unusedSimpArgs false
namespace Go.Proofs.Ytfdhldbhbigfhaa.V
open Go.Vm

theorem rdCount_eq {n most : Nat} (hn : n < 18446744073709551616) (hm : most ≤ 1000000) (rest : List UInt8) {h : Heap} {i : Nat} (hh : hget h i = some (Rd.o ⟨encNum n ++ rest, 0⟩)) :
    callL E F.wire_Reader_Count [.ptr (some (i, 0)), .int .i64 most] h = some (.int .i64 (if most < n then 0 else n : Nat), hset h i (Rd.o (if most < n then ⟨[], 4⟩ else ⟨rest, 0⟩)), .w [i]) := by
  refine callL_of rfl fn_wire_Reader_Count ?_
  have hil := hget_lt hh
  have g1 := rdNum_eq hn rest hh
  have hh1 := hget_hset (q := Rd.o ⟨rest, 0⟩) hh
  have g2 := rdOk_eq _ hh1
  simp only [decide_true] at g2
  have w1 : IntKind.wrap .u64 (most : Int) = (most : Int) := by rw [wrap_u64']; omega
  have hmx : ¬ (most : Int) < 0 := by omega
  have hmx2 : (if 0 < most then (most : Int) else 0) = most := by split <;> omega
  by_cases hc : most < n
  · have hc' : (most : Int) < (n : Int) := by omega
    have g3 := rdFail_eq _ 4 hh1
    rw [hset_hset] at g3
    have hh2 := hget_hset (q := Rd.o ⟨[], 4⟩) hh
    have g4 := rdOk_eq _ hh2
    simp only [show ((4 : Int) = 0) = False from by simp, decide_false] at g4
    simp [-getElem?_pos, c_wire_Reader_Count, g1, g2, g3, g4, hil, hset_len, hmx2, w1, hc', hc]
  · have hc' : ¬ (most : Int) < (n : Int) := by omega
    have w2 : IntKind.wrap .i64 (n : Int) = (n : Int) := by rw [wrap_i64] <;> omega
    simp [-getElem?_pos, c_wire_Reader_Count, g1, g2, hil, hset_len, hmx2, w1, w2, hc', hc]
theorem rdCount_err (r : Rd) (he : r.err ≠ 0) (most : Int) {h : Heap} {i : Nat} (hh : hget h i = some r.o) :
    callL E F.wire_Reader_Count [.ptr (some (i, 0)), .int .i64 most] h = some (.int .i64 0, h, .no) := by
  refine callL_of rfl fn_wire_Reader_Count ?_
  have g1 := rdNum_err r he hh
  have g2 := rdOk_eq _ hh
  rw [decide_eq_false he] at g2
  simp [-getElem?_pos, c_wire_Reader_Count, g1, g2]
theorem rdText_eq {x : List UInt8} {most : Nat} (hx : x.length ≤ 1099511627776) (hm : most ≤ 1000000) (rest : List UInt8) {h : Heap} {i : Nat} (hh : hget h i = some (Rd.o ⟨encNum x.length ++ (x ++ rest), 0⟩)) :
    callL E F.wire_Reader_Text [.ptr (some (i, 0)), .int .i64 most] h = some (bytesV (if most < x.length then [] else x), hset h i (Rd.o (if most < x.length then ⟨[], 4⟩ else ⟨rest, 0⟩)), .w [i]) := by
  refine callL_of rfl fn_wire_Reader_Text ?_
  have hil := hget_lt hh
  have g1 := rdCount_eq (n := x.length) (by omega) hm (x ++ rest) hh
  by_cases hc : most < x.length
  · simp only [if_pos hc] at g1 ⊢
    have hh1 := hget_hset (q := Rd.o ⟨[], 4⟩) hh
    have g2 := rdOk_eq _ hh1
    simp only [show ((4 : Int) = 0) = False from by simp, decide_false] at g2
    simp [-getElem?_pos, c_wire_Reader_Text, g1, g2, hil, hset_len, bytesV]
  · simp only [if_neg hc] at g1 ⊢
    have hh1 := hget_hset (q := Rd.o ⟨x ++ rest, 0⟩) hh
    have g2 := rdOk_eq _ hh1
    simp only [decide_true] at g2
    have g3 := clone_eq x (by omega) (hset h i (Rd.o ⟨x ++ rest, 0⟩))
    have e1 : ¬ ((x.length : Int) + (rest.length : Int) < (x.length : Int)) := by omega
    have hsz : sizeOk 1 ((x ++ rest).map byteV) = true := sizeOk_bytes _
    have e2 : List.take x.length ((x ++ rest).map byteV) = x.map byteV := by rw [List.map_append]; exact List.take_left' (by simp)
    have e3 : List.drop x.length ((x ++ rest).map byteV) = rest.map byteV := by rw [List.map_append]; exact List.drop_left' (by simp)
    have e4 : ((x ++ rest).map byteV).length = x.length + rest.length := by simp
    have e5 : List.take (x.length + rest.length) ((x ++ rest).map byteV) = (x ++ rest).map byteV := List.take_of_length_le (by simp)
    unfold Rd.o Rd.c bytesV at *
    generalize (x ++ rest).map byteV = q at *
    simp [-getElem?_pos, c_wire_Reader_Text, g1, g2, g3, hh1, hil, hset_len, e1, e2, e3, e4, e5, hsz]
end Go.Proofs.Ytfdhldbhbigfhaa.V
