/- What the functions of 'wire' compute: the reader's other things. -/
import Derived.Test.YtfdhldbhbigfhaaVmKR
set_option linter.unusedVariables false
set_option linter.unusedSimpArgs false
namespace Go.Proofs.Ytfdhldbhbigfhaa.V
open Go.Vm

theorem wrap_i64' (n : Int) : IntKind.wrap .i64 n = if n % 18446744073709551616 ≥ 9223372036854775808 then n % 18446744073709551616 - 18446744073709551616 else n % 18446744073709551616 := by
  show (if (true && decide (n % (18446744073709551616 : Int) ≥ (9223372036854775808 : Int))) = true then n % 18446744073709551616 - 18446744073709551616 else n % 18446744073709551616) = _
  simp
theorem bin_and1 (ek : EK) {n : Nat} (hn : n < 18446744073709551616) : binV .and ek (.int .u64 (n : Int)) (.int .u64 1) = some (.int .u64 ((n % 2 : Nat) : Int)) := by
  show some (V.int .u64 (IntKind.wrap .u64 (((BitVec.ofInt 64 (n : Int) &&& BitVec.ofInt 64 1).toNat : Nat) : Int))) = _
  have h1 : (BitVec.ofInt 64 (n : Int)).toNat = n := by rw [BitVec.toNat_ofInt]; omega
  have h2 : (BitVec.ofInt 64 1).toNat = 1 := by decide
  rw [BitVec.toNat_and, h1, h2, Nat.and_one_is_mod, wrap_u64']
  congr 2
  omega
theorem bin_shr1 (ek : EK) (n : Nat) : binV .shr ek (.int .u64 (n : Int)) (.int .u64 1) = some (.int .u64 ((n / 2 : Nat) : Int)) := by
  have h : Int.fdiv (n : Int) (2 ^ 1) = ((n / 2 : Nat) : Int) := by rw [Int.fdiv_eq_ediv_of_nonneg _ (by decide)]; omega
  show some (V.int .u64 (Int.fdiv (n : Int) (2 ^ 1))) = _
  rw [h]
theorem bin_xor0 (ek : EK) {p : Int} (h0 : 0 ≤ p) (h1 : p ≤ 9223372036854775807) : binV .xor ek (.int .i64 p) (.int .i64 0) = some (.int .i64 p) := by
  show some (V.int .i64 (IntKind.wrap .i64 (((BitVec.ofInt 64 p ^^^ BitVec.ofInt 64 0).toNat : Nat) : Int))) = _
  have e4 : BitVec.ofInt 64 0 = 0#64 := by decide
  rw [e4, BitVec.xor_zero, BitVec.toNat_ofInt, wrap_i64']
  congr 2
  split <;> omega
theorem bin_xorm1 (ek : EK) {p : Int} (h0 : 0 ≤ p) (h1 : p ≤ 9223372036854775807) : binV .xor ek (.int .i64 p) (.int .i64 (-1)) = some (.int .i64 (-p - 1)) := by
  show some (V.int .i64 (IntKind.wrap .i64 (((BitVec.ofInt 64 p ^^^ BitVec.ofInt 64 (-1)).toNat : Nat) : Int))) = _
  have e4 : BitVec.ofInt 64 (-1) = BitVec.allOnes 64 := by decide
  rw [e4, BitVec.xor_allOnes, BitVec.toNat_not, BitVec.toNat_ofInt, wrap_i64']
  congr 2
  split <;> omega
theorem rdInt_eq {n : Int} (hn : I64 n) (rest : List UInt8) {h : Heap} {i : Nat} (hh : hget h i = some (Rd.o ⟨encNum (zig n) ++ rest, 0⟩)) :
    callL E F.wire_Reader_Int [.ptr (some (i, 0))] h = some (.int .i64 n, hset h i (Rd.o ⟨rest, 0⟩), .w [i]) := by
  refine callL_of rfl fn_wire_Reader_Int ?_
  have hil := hget_lt hh
  have g1 := rdNum_eq (zig_lt hn) rest hh
  have h1 := bin_shr1 .no (zig n)
  have h2 := bin_and1 .no (zig_lt hn)
  obtain ⟨l1, l2⟩ := hn
  have w1 : IntKind.wrap .i64 ((zig n / 2 : Nat) : Int) = ((zig n / 2 : Nat) : Int) := by unfold zig; rw [wrap_i64] <;> split <;> omega
  by_cases hneg : n < 0
  · have e1 : zig n % 2 = 1 := by unfold zig; rw [if_pos hneg]; omega
    have e2 : -((zig n / 2 : Nat) : Int) - 1 = n := by unfold zig; rw [if_pos hneg]; omega
    have h3 := bin_xorm1 .no (p := ((zig n / 2 : Nat) : Int)) (by omega) (by omega)
    rw [e2] at h3
    rw [e1] at h2
    have e3 : ((zig n : Nat) : Int) % 2 = 1 := by omega
    have w2 : IntKind.wrap .i64 1 = 1 := by rw [wrap_i64] <;> omega
    have w3 : IntKind.wrap .i64 (-1) = -1 := by rw [wrap_i64] <;> omega
    generalize ((zig n / 2 : Nat) : Int) = p at *
    simp [-getElem?_pos, -bin_shr, -bin_and, -bin_xor, c_wire_Reader_Int, g1, h1, h2, h3, w1, w2, w3, hil, e3]
  · have e1 : zig n % 2 = 0 := by unfold zig; rw [if_neg hneg]; omega
    have e2 : ((zig n / 2 : Nat) : Int) = n := by unfold zig; rw [if_neg hneg]; omega
    have h3 := bin_xor0 .no (p := ((zig n / 2 : Nat) : Int)) (by omega) (by omega)
    rw [e1] at h2
    rw [e2] at h1 h3 w1
    have e3 : ((zig n : Nat) : Int) % 2 = 0 := by omega
    have w2 : IntKind.wrap .i64 0 = 0 := by rw [wrap_i64] <;> omega
    simp [-getElem?_pos, -bin_shr, -bin_and, -bin_xor, c_wire_Reader_Int, g1, h1, h2, h3, w1, w2, hil, e3]
theorem rdInt_err (r : Rd) (he : r.err ≠ 0) {h : Heap} {i : Nat} (hh : hget h i = some r.o) :
    callL E F.wire_Reader_Int [.ptr (some (i, 0))] h = some (.int .i64 0, h, .no) := by
  refine callL_of rfl fn_wire_Reader_Int ?_
  have g1 := rdNum_err r he hh
  have h1 : binV .shr .no (.int .u64 0) (.int .u64 1) = some (.int .u64 0) := bin_shr1 .no 0
  have h2 : binV .and .no (.int .u64 0) (.int .u64 1) = some (.int .u64 0) := bin_and1 .no (n := 0) (by omega)
  have h3 : binV .xor .no (.int .i64 0) (.int .i64 0) = some (.int .i64 0) := bin_xor0 .no (by omega) (by omega)
  have w2 : IntKind.wrap .i64 0 = 0 := by rw [wrap_i64] <;> omega
  simp [-getElem?_pos, -bin_shr, -bin_and, -bin_xor, c_wire_Reader_Int, g1, h1, h2, h3, w2]
end Go.Proofs.Ytfdhldbhbigfhaa.V
