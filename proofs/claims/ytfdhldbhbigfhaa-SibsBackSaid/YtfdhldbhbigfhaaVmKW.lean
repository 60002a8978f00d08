/- What the functions of 'wire' compute: the writer. -/
import Derived.Test.YtfdhldbhbigfhaaVT
import Derived.Test.YtfdhldbhbigfhaaVmG4
set_option linter.unusedVariables false
set_option linter.unusedSimpArgs false
namespace Go.Proofs.Ytfdhldbhbigfhaa.V
open Go.Vm

/-! ### numbers as bytes -/
/-- A number's bytes. -/
def encNum (n : Nat) : List UInt8 := if h : n < 128 then [UInt8.ofNat n] else (UInt8.ofNat n ||| 128) :: encNum (n / 128)
termination_by n
decreasing_by omega
theorem encNum_lt {n : Nat} (h : n < 128) : encNum n = [UInt8.ofNat n] := by rw [encNum, dif_pos h]
theorem encNum_ge {n : Nat} (h : ¬ n < 128) : encNum n = (UInt8.ofNat n ||| 128) :: encNum (n / 128) := by rw [encNum, dif_neg h]
theorem encNum_len : ∀ (k n : Nat), n < 128 ^ (k + 1) → (encNum n).length ≤ k + 1
  | 0, n, h => by rw [encNum_lt (by simpa using h)]; simp
  | k + 1, n, h => by
    by_cases hn : n < 128
    · rw [encNum_lt hn]; simp
    · rw [encNum_ge hn, List.length_cons]
      have := encNum_len k (n / 128) (by rw [Nat.div_lt_iff_lt_mul (by omega)]; rw [Nat.pow_succ] at h; exact h)
      omega
theorem encNum_ne (n : Nat) : encNum n ≠ [] := by
  by_cases hn : n < 128
  · rw [encNum_lt hn]; simp
  · rw [encNum_ge hn]; simp
theorem encNum_10 {n : Nat} (h : n < 18446744073709551616) : (encNum n).length ≤ 10 := by
  have h1 : (128 : Nat) ^ 10 = 1180591620717411303424 := by decide
  exact encNum_len 9 n (by omega)
theorem conv_byte (k : IntKind) (n : Nat) : convV (.toInt .u8) (.int k (n : Int)) = some (byteV (UInt8.ofNat n)) := by
  show some (V.int .u8 (IntKind.wrap .u8 (n : Int))) = some (.int .u8 _)
  congr 2
theorem bin_or128 (ek : EK) (b : UInt8) : binV .or ek (byteV b) (.int .u8 128) = some (byteV (b ||| 128)) := by
  show some (V.int .u8 (IntKind.wrap .u8 (((BitVec.ofInt 8 ((b.toNat : Nat) : Int) ||| BitVec.ofInt 8 128).toNat : Nat) : Int))) = some (.int .u8 (((b ||| 128).toNat : Nat) : Int))
  have h3 : ∀ m : Fin 256, V.int .u8 (IntKind.wrap .u8 (((BitVec.ofInt 8 ((m.val : Nat) : Int) ||| BitVec.ofInt 8 128).toNat : Nat) : Int)) = .int .u8 (((UInt8.ofNat m.val ||| 128).toNat : Nat) : Int) := fun m => congrArg (V.int .u8) (by
    have : ∀ m : Fin 256, IntKind.wrap .u8 (((BitVec.ofInt 8 ((m.val : Nat) : Int) ||| BitVec.ofInt 8 128).toNat : Nat) : Int) = (((UInt8.ofNat m.val ||| 128).toNat : Nat) : Int) := by decide +kernel
    exact this m)
  have := h3 ⟨b.toNat, b.toNat_lt⟩
  simp only [UInt8.ofNat_toNat] at this
  rw [this]
theorem bin_shr7 (ek : EK) (n : Nat) : binV .shr ek (.int .u64 (n : Int)) (.int .u64 7) = some (.int .u64 ((n / 128 : Nat) : Int)) := by
  have h : Int.fdiv (n : Int) (2 ^ 7) = ((n / 128 : Nat) : Int) := by rw [Int.fdiv_eq_ediv_of_nonneg _ (by decide)]; omega
  show some (V.int .u64 (Int.fdiv (n : Int) (2 ^ 7))) = _
  rw [h]
attribute [simp high] conv_byte bin_or128 bin_shr7

theorem num_loop (h : Heap) (fb : Nat) : ∀ (k n : Nat) (acc : List UInt8), n < 128 ^ (k + 1) → acc.length + k ≤ 100 →
    ∃ (m : Nat) (acc' : List UInt8), m < 128 ∧ acc' ++ [UInt8.ofNat m] = acc ++ encNum n ∧ loopRun (callL E) loopL fb [0, 3] c_wire_num_l0 ⟨[(0, .int .u64 n), (3, .sl (acc.map byteV))], h, .no⟩ =
      some (.exit 0, ⟨[(0, .int .u64 m), (3, .sl (acc'.map byteV)), (5, .bool false)], h, .no⟩) := by
  intro k
  induction k with
  | zero =>
    intro n acc hn _
    have hn : n < 128 := by simpa using hn
    refine ⟨n, acc, hn, by rw [encNum_lt hn], loop_exit ?_⟩
    have h1 : ¬ (128 : Int) ≤ (n : Int) := by omega
    rw [s_round]
    simp [c_wire_num_l0, h1]
  | succ k ih =>
    intro n acc hn hl
    by_cases h0 : n < 128
    · refine ⟨n, acc, h0, by rw [encNum_lt h0], loop_exit ?_⟩
      have h1 : ¬ (128 : Int) ≤ (n : Int) := by omega
      rw [s_round]
      simp [c_wire_num_l0, h1]
    · have h1 : (128 : Int) ≤ (n : Int) := by omega
      obtain ⟨m, acc', hm, he, hr⟩ := ih (n / 128) (acc ++ [UInt8.ofNat n ||| 128]) (by rw [Nat.div_lt_iff_lt_mul (by omega)]; rw [Nat.pow_succ] at hn; exact hn) (by simp; omega)
      refine ⟨m, acc', hm, by rw [he, encNum_ge h0]; simp, loop_next ?_ hr⟩
      have h2 : ¬ (140737488355328 : Nat) < acc.length + 1 := by omega
      rw [s_round]
      have h3 : acc.length + 1 ≤ 140737488355328 := by omega
      simp [c_wire_num_l0, h1, List.map_append, h3]
theorem num_eq {n : Nat} (hn : n < 18446744073709551616) (h : Heap) : callL E F.wire_num [.int .u64 (n : Int)] h = some (bytesV (encNum n), h, .no) := by
  refine callL_of rfl fn_wire_num ?_
  have h1 : (128 : Nat) ^ 10 = 1180591620717411303424 := by decide
  obtain ⟨m, acc, hm, he, hr⟩ := num_loop h h.length 9 n [] (by omega) (by simp)
  simp only [List.nil_append] at he
  have h2 := congrArg List.length he
  have h3 := encNum_10 hn
  simp only [List.length_append, List.length_singleton] at h2
  have h4 : acc.length + 1 ≤ 140737488355328 := by omega
  have h5 : bytesV (encNum n) = .sl (acc.map byteV ++ [byteV (UInt8.ofNat m)]) := by rw [← he]; simp [bytesV]
  rw [List.map_nil] at hr
  rw [h5]
  simp [c_wire_num, hr, h4]

/-! ### the writer -/
structure Wr where
  b : List UInt8
  most : Int
  long : Bool
def Wr.c (w : Wr) : List V := [bytesV w.b, .int .i64 w.most, .bool w.long]
def Wr.o (w : Wr) : Vm.Obj := .cells w.c [(0, 1)]
def Wr.put (w : Wr) (x : List UInt8) : Wr := if w.long = true ∨ w.most - w.b.length < x.length then { w with long := true } else { w with b := w.b ++ x }
structure Wr.Ok (w : Wr) : Prop where
  lo : 0 ≤ w.most
  hi : w.most ≤ 70368744177664
  len : (w.b.length : Int) ≤ w.most
theorem Wr.Ok.put {w : Wr} (h : w.Ok) (x : List UInt8) : (w.put x).Ok := by
  unfold Wr.put
  split
  · exact ⟨h.lo, h.hi, h.len⟩
  · rename_i hc
    have : ¬ (w.most - (w.b.length : Int) < (x.length : Int)) := fun h => hc (.inr h)
    exact ⟨h.lo, h.hi, by simp; omega⟩
theorem Wr.put_most (w : Wr) (x : List UInt8) : (w.put x).most = w.most := by unfold Wr.put; split <;> rfl
theorem put_eq {w : Wr} (hw : w.Ok) (x : List UInt8) (hx : x.length ≤ 70368744177664) {h : Heap} {i : Nat} (hh : hget h i = some w.o) :
    callL E F.wire_Writer_put [.ptr (some (i, 0)), bytesV x] h = some (.tup [], hset h i (w.put x).o, .w [i]) := by
  refine callL_of rfl fn_wire_Writer_put ?_
  have hi := hget_lt hh
  obtain ⟨b, most, long⟩ := w
  obtain ⟨h1, h2, h3⟩ := hw
  simp only at h1 h2 h3
  have hwrap : IntKind.wrap .i64 (most - b.length) = most - b.length := by rw [wrap_i64] <;> omega
  unfold Wr.o Wr.c bytesV at hh
  cases long with
  | true =>
    have hp : Wr.put ⟨b, most, true⟩ x = ⟨b, most, true⟩ := by simp [Wr.put]
    simp [c_wire_Writer_put, hh, hp, Wr.o, Wr.c, bytesV, hi]
  | false =>
    by_cases hc : most - (b.length : Int) < (x.length : Int)
    · have hp : Wr.put ⟨b, most, false⟩ x = ⟨b, most, true⟩ := by simp [Wr.put, hc]
      simp [c_wire_Writer_put, hh, hp, Wr.o, Wr.c, bytesV, hi, hwrap, hc]
    · have hp : Wr.put ⟨b, most, false⟩ x = ⟨b ++ x, most, false⟩ := by simp [Wr.put, hc]
      have h4 : b.length + x.length ≤ 140737488355328 := by omega
      simp [c_wire_Writer_put, hh, hp, Wr.o, Wr.c, bytesV, hi, hwrap, hc, h4]
theorem Num_eq {w : Wr} (hw : w.Ok) {n : Nat} (hn : n < 18446744073709551616) {h : Heap} {i : Nat} (hh : hget h i = some w.o) :
    callL E F.wire_Writer_Num [.ptr (some (i, 0)), .int .u64 (n : Int)] h = some (.tup [], hset h i (w.put (encNum n)).o, .w [i]) := by
  refine callL_of rfl fn_wire_Writer_Num ?_
  have h1 := encNum_10 hn
  simp [hget_lt hh, c_wire_Writer_Num, num_eq hn, put_eq hw (encNum n) (by omega) hh]

/-- A number that may be below 0, as one that isn't. -/
def zig (n : Int) : Nat := if n < 0 then (-2 * n - 1).toNat else (2 * n).toNat
theorem zig_lt {n : Int} (h : I64 n) : zig n < 18446744073709551616 := by
  obtain ⟨h1, h2⟩ := h
  unfold zig
  split <;> omega
theorem wrap_u64' (n : Int) : IntKind.wrap .u64 n = n % 18446744073709551616 := by
  show (if (false && decide (n % (18446744073709551616 : Int) ≥ (9223372036854775808 : Int))) = true then n % 18446744073709551616 - 18446744073709551616 else n % 18446744073709551616) = _
  simp
theorem zig_bits {n : Int} (h : I64 n) : bitsV .u64 (BitVec.ofInt IntKind.u64.bits (IntKind.wrap .u64 (IntKind.wrap .u64 n * 2 ^ (min (Int.toNat 1) IntKind.u64.bits))) ^^^ BitVec.ofInt IntKind.u64.bits (IntKind.wrap .u64 (n.fdiv (2 ^ (min (Int.toNat 63) IntKind.i64.bits))))) = .int .u64 (zig n : Int) := by
  obtain ⟨h1, h2⟩ := h
  have e1 : (n.fdiv (2 ^ (min (Int.toNat 63) IntKind.i64.bits))) = n / 9223372036854775808 := by
    show n.fdiv (2 ^ 63) = _
    rw [Int.fdiv_eq_ediv_of_nonneg _ (by decide)]
    rfl
  have e2 : (2 : Int) ^ (min (Int.toNat 1) IntKind.u64.bits) = 2 := rfl
  rw [e1, e2]
  show V.int .u64 (IntKind.wrap .u64 ((BitVec.ofInt 64 _ ^^^ BitVec.ofInt 64 _).toNat : Nat)) = _
  congr 1
  simp only [wrap_u64']
  by_cases hn : n < 0
  · have e3 : n / 9223372036854775808 = -1 := by omega
    have e4 : BitVec.ofInt 64 (-1 % 18446744073709551616) = BitVec.allOnes 64 := by decide
    rw [e3, e4, BitVec.xor_allOnes, BitVec.toNat_not, BitVec.toNat_ofInt]
    unfold zig
    rw [if_pos hn]
    omega
  · have e3 : n / 9223372036854775808 = 0 := by omega
    have e4 : BitVec.ofInt 64 (0 % 18446744073709551616) = 0#64 := by decide
    rw [e3, e4, BitVec.xor_zero, BitVec.toNat_ofInt]
    unfold zig
    rw [if_neg hn]
    omega
theorem Int_eq {w : Wr} (hw : w.Ok) {n : Int} (hn : I64 n) {h : Heap} {i : Nat} (hh : hget h i = some w.o) :
    callL E F.wire_Writer_Int [.ptr (some (i, 0)), .int .i64 n] h = some (.tup [], hset h i (w.put (encNum (zig n))).o, .w [i]) := by
  refine callL_of rfl fn_wire_Writer_Int ?_
  have h1 := encNum_10 (zig_lt hn)
  have h2 := zig_bits hn
  generalize hb : bitsV .u64 (BitVec.ofInt IntKind.u64.bits (IntKind.wrap .u64 (IntKind.wrap .u64 n * 2 ^ (min (Int.toNat 1) IntKind.u64.bits))) ^^^ BitVec.ofInt IntKind.u64.bits (IntKind.wrap .u64 (n.fdiv (2 ^ (min (Int.toNat 63) IntKind.i64.bits))))) = z at h2
  have hx : binV .xor .no (.int .u64 (IntKind.wrap .u64 (IntKind.wrap .u64 n * 2 ^ (min (Int.toNat 1) IntKind.u64.bits)))) (.int .u64 (IntKind.wrap .u64 (n.fdiv (2 ^ (min (Int.toNat 63) IntKind.i64.bits))))) = some (.int .u64 (zig n : Int)) := by rw [bin_xor, hb, h2]
  simp [-Int.reduceToNat, -Int.toNat_one, -bin_xor, hget_lt hh, c_wire_Writer_Int, hx, num_eq (zig_lt hn), put_eq hw (encNum (zig n)) (by omega) hh]
theorem Flag_eq {w : Wr} (hw : w.Ok) (b : Bool) {h : Heap} {i : Nat} (hh : hget h i = some w.o) :
    callL E F.wire_Writer_Flag [.ptr (some (i, 0)), .bool b] h = some (.tup [], hset h i (w.put [if b then 1 else 0]).o, .w [i]) := by
  refine callL_of rfl fn_wire_Writer_Flag ?_
  have h1 := put_eq hw [if b then 1 else 0] (by simp) hh
  cases b <;> simp [bytesV, byteV] at h1 <;> simp [hget_lt hh, c_wire_Writer_Flag, h1]
theorem Text_eq {w : Wr} (hw : w.Ok) (x : List UInt8) (hx : x.length ≤ 1099511627776) {h : Heap} {i : Nat} (hh : hget h i = some w.o) :
    callL E F.wire_Writer_Text [.ptr (some (i, 0)), bytesV x] h = some (.tup [], hset h i (w.put (encNum x.length ++ x)).o, .w [i]) := by
  refine callL_of rfl fn_wire_Writer_Text ?_
  have h0 : x.length < 18446744073709551616 := by omega
  have h1 := encNum_10 h0
  have h2 := put_eq hw (encNum x.length ++ x) (by simp; omega) hh
  have h3 : (encNum x.length).length + x.length ≤ 140737488355328 := by omega
  have h4 : IntKind.wrap .u64 (x.length : Int) = x.length := by rw [wrap_u64] <;> omega
  have h5 := num_eq h0
  unfold bytesV at h2 h5
  rw [List.map_append] at h2
  simp [hget_lt hh, bytesV, c_wire_Writer_Text, h4, h5, h3, h2]
theorem clone_eq (x : List UInt8) (hx : x.length ≤ 140737488355328) (h : Heap) : callL E F.slices_Clone_byte_byte [.sl (x.map byteV)] h = some (.sl (x.map byteV), h, .no) := by
  refine callL_of rfl fn_slices_Clone_byte_byte ?_
  cases x with
  | nil => simp [c_slices_Clone_byte_byte]
  | cons b x =>
    simp only [List.length_cons] at hx
    simp [c_slices_Clone_byte_byte, hx]
theorem Done_eq {w : Wr} (hw : w.Ok) {h : Heap} {i : Nat} (hh : hget h i = some w.o) :
    callL E F.wire_Writer_Done [.ptr (some (i, 0))] h = some (.tup [bytesV (if w.long then [] else w.b), .int .i64 (if w.long then 4 else 0)], h, .no) := by
  refine callL_of rfl fn_wire_Writer_Done ?_
  obtain ⟨b, most, long⟩ := w
  obtain ⟨h1, h2, h3⟩ := hw
  simp only at h1 h2 h3
  unfold Wr.o Wr.c bytesV at hh
  have h4 := clone_eq b (by omega)
  cases long <;> simp [c_wire_Writer_Done, hh, h4, bytesV]
theorem NewWriter_eq (most : Int) (h : Heap) :
    callL E F.wire_NewWriter [.int .i64 most] h = some (.ptr (some (h.length, 0)), h ++ [Wr.o ⟨[], max 0 most, false⟩], .no) := by
  refine callL_of rfl fn_wire_NewWriter ?_
  have : (if 0 < most then most else 0) = max 0 most := by split <;> omega
  simp [c_wire_NewWriter, Wr.o, Wr.c, bytesV, this]
end Go.Proofs.Ytfdhldbhbigfhaa.V
