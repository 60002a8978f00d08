/- What the functions of 'wire' compute: the reader. -/
import Derived.Test.YtfdhldbhbigfhaaVmKV
import Derived.Test.YtfdhldbhbigfhaaVmG4
set_option linter.unusedVariables false
set_option linter.unusedSimpArgs false
namespace Go.Proofs.Ytfdhldbhbigfhaa.V
open Go.Vm

structure Rd where
  b : List UInt8
  err : Int
def Rd.c (r : Rd) : List V := [bytesV r.b, .int .i64 r.err]
def Rd.o (r : Rd) : Vm.Obj := .cells r.c []
theorem NewReader_eq (b : List UInt8) (hb : b.length ≤ 140737488355328) (h : Heap) :
    callL E F.wire_NewReader [bytesV b] h = some (.ptr (some (h.length, 0)), h ++ [Rd.o ⟨b, 0⟩], .no) := by
  refine callL_of rfl fn_wire_NewReader ?_
  have h1 := clone_eq b hb h
  simp [c_wire_NewReader, bytesV, h1, Rd.o, Rd.c]
theorem rdOk_eq (r : Rd) {h : Heap} {i : Nat} (hh : hget h i = some r.o) : callL E F.wire_Reader_ok [.ptr (some (i, 0))] h = some (.bool (decide (r.err = 0)), h, .no) := by
  refine callL_of rfl fn_wire_Reader_ok ?_
  unfold Rd.o Rd.c bytesV at hh
  have : (r.err == 0) = decide (r.err = 0) := by by_cases h : r.err = 0 <;> simp [h]
  simp [-getElem?_pos, c_wire_Reader_ok, hh, this]
theorem rdFail_eq (r : Rd) (e : Int) {h : Heap} {i : Nat} (hh : hget h i = some r.o) : callL E F.wire_Reader_fail [.ptr (some (i, 0)), .int .i64 e] h = some (.tup [], hset h i (Rd.o ⟨[], e⟩), .w [i]) := by
  refine callL_of rfl fn_wire_Reader_fail ?_
  have hi := hget_lt hh
  unfold Rd.o Rd.c bytesV at *
  simp [-getElem?_pos, c_wire_Reader_fail, hh, hi]
theorem rdLeft_eq (r : Rd) {h : Heap} {i : Nat} (hh : hget h i = some r.o) : callL E F.wire_Reader_Left [.ptr (some (i, 0))] h = some (.int .i64 r.b.length, h, .no) := by
  refine callL_of rfl fn_wire_Reader_Left ?_
  unfold Rd.o Rd.c bytesV at hh
  simp [-getElem?_pos, c_wire_Reader_Left, hh]
def Rd.fin (r : Rd) : Int := if r.err = 0 ∧ 0 < r.b.length then 3 else r.err
theorem rdEnd_eq (r : Rd) {h : Heap} {i : Nat} (hh : hget h i = some r.o) : callL E F.wire_Reader_End [.ptr (some (i, 0))] h = some (.int .i64 r.fin, h, .no) := by
  refine callL_of rfl fn_wire_Reader_End ?_
  unfold Rd.o Rd.c bytesV at hh
  unfold Rd.fin
  by_cases h1 : r.err = 0
  · by_cases h2 : 0 < r.b.length
    · have h3 : (0 : Int) < (r.b.length : Int) := by omega
      simp [-getElem?_pos, c_wire_Reader_End, hh, h1, h2, h3]
    · have h3 : ¬ (0 : Int) < (r.b.length : Int) := by omega
      simp [-getElem?_pos, c_wire_Reader_End, hh, h1, h2, h3]
  · have h4 : (r.err == 0) = false := by simpa using h1
    simp [-getElem?_pos, c_wire_Reader_End, hh, h1, h4]
theorem rdByte_eq (x : UInt8) (t : List UInt8) {h : Heap} {i : Nat} (hh : hget h i = some (Rd.o ⟨x :: t, 0⟩)) : callL E F.wire_Reader_byte [.ptr (some (i, 0))] h = some (.tup [byteV x, .bool true], hset h i (Rd.o ⟨t, 0⟩), .w [i]) := by
  refine callL_of rfl fn_wire_Reader_byte ?_
  have hi := hget_lt hh
  have g1 := rdOk_eq _ hh
  have h0 : ((t.length : Int) + 1 == 0) = false := by simp; omega
  unfold Rd.o Rd.c bytesV at *
  simp only [decide_true] at g1
  have g2 : sizeOk 1 (byteV x :: t.map byteV) = true := sizeOk_bytes (x :: t)
  have g3 : List.take t.length (t.map byteV) = t.map byteV := List.take_of_length_le (by simp)
  simp [-getElem?_pos, c_wire_Reader_byte, hh, hi, g1, h0, g2, g3]
theorem rdByte_err (r : Rd) (he : r.err ≠ 0) {h : Heap} {i : Nat} (hh : hget h i = some r.o) : callL E F.wire_Reader_byte [.ptr (some (i, 0))] h = some (.tup [.int .u8 0, .bool false], h, .no) := by
  refine callL_of rfl fn_wire_Reader_byte ?_
  have g1 := rdOk_eq _ hh
  rw [decide_eq_false he] at g1
  simp [-getElem?_pos, c_wire_Reader_byte, g1]
/-! ### numbers read -/
theorem bin_andNot128 (ek : EK) (b : UInt8) : binV .andNot ek (byteV b) (.int .u8 128) = some (byteV (b &&& 127)) := by
  show some (V.int .u8 (IntKind.wrap .u8 (((BitVec.ofInt 8 ((b.toNat : Nat) : Int) &&& ~~~(BitVec.ofInt 8 128)).toNat : Nat) : Int))) = some (.int .u8 (((b &&& 127).toNat : Nat) : Int))
  have h3 : ∀ m : Fin 256, V.int .u8 (IntKind.wrap .u8 (((BitVec.ofInt 8 ((m.val : Nat) : Int) &&& ~~~(BitVec.ofInt 8 128)).toNat : Nat) : Int)) = .int .u8 (((UInt8.ofNat m.val &&& 127).toNat : Nat) : Int) := fun m => congrArg (V.int .u8) (by
    have : ∀ m : Fin 256, IntKind.wrap .u8 (((BitVec.ofInt 8 ((m.val : Nat) : Int) &&& ~~~(BitVec.ofInt 8 128)).toNat : Nat) : Int) = (((UInt8.ofNat m.val &&& 127).toNat : Nat) : Int) := by decide +kernel
    exact this m)
  have := h3 ⟨b.toNat, b.toNat_lt⟩
  simp only [UInt8.ofNat_toNat] at this
  rw [this]
theorem bin_or_add (ek : EK) {a y i : Nat} (ha : a < 2 ^ i) (hb : y * 2 ^ i + a < 18446744073709551616) : binV .or ek (.int .u64 (a : Int)) (.int .u64 ((y * 2 ^ i : Nat) : Int)) = some (.int .u64 ((a + y * 2 ^ i : Nat) : Int)) := by
  show some (V.int .u64 (IntKind.wrap .u64 (((BitVec.ofInt 64 (a : Int) ||| BitVec.ofInt 64 ((y * 2 ^ i : Nat) : Int)).toNat : Nat) : Int))) = _
  have h1 : (BitVec.ofInt 64 (a : Int)).toNat = a := by rw [BitVec.toNat_ofInt]; generalize y * 2 ^ i = z at hb; omega
  have h2 : (BitVec.ofInt 64 ((y * 2 ^ i : Nat) : Int)).toNat = y * 2 ^ i := by rw [BitVec.toNat_ofInt]; generalize y * 2 ^ i = z at hb ⊢; omega
  rw [BitVec.toNat_or, h1, h2, Nat.or_comm, ← Nat.shiftLeft_eq, ← Nat.shiftLeft_add_eq_or_of_lt ha, Nat.shiftLeft_eq, wrap_u64', Nat.add_comm]
  generalize y * 2 ^ i = z at hb ⊢
  congr 2
  omega
theorem bin_andNot_nat (ek : EK) {n : Nat} (hn : n < 256) : binV .andNot ek (.int .u8 (n : Int)) (.int .u8 128) = some (.int .u8 ((n % 128 : Nat) : Int)) := by
  have h := bin_andNot128 ek (UInt8.ofNat n)
  have e1 : byteV (UInt8.ofNat n) = .int .u8 (n : Int) := by
    show V.int .u8 _ = _
    congr 2
    simp; omega
  have e2 : byteV (UInt8.ofNat n &&& 127) = .int .u8 ((n % 128 : Nat) : Int) := by
    show V.int .u8 _ = _
    congr 2
    have : ∀ m : Fin 256, (UInt8.ofNat m.val &&& 127).toNat = m.val % 128 := by decide +kernel
    exact this ⟨n, hn⟩
  rw [e1, e2] at h
  exact h
theorem shl_nat (ek : EK) {y i : Nat} (hi : i ≤ 63) (h : y * 2 ^ i < 18446744073709551616) : binV .shl ek (.int .u64 (y : Int)) (.int .i64 (i : Int)) = some (.int .u64 ((y * 2 ^ i : Nat) : Int)) := by
  show cnd (decide ((i : Int) < 0)) none (some (V.int .u64 (IntKind.wrap .u64 ((y : Int) * 2 ^ (min (i : Int).toNat 64))))) = _
  have h1 : ¬ (i : Int) < 0 := by omega
  have h2 : min (i : Int).toNat 64 = i := by simp; omega
  rw [decide_eq_false h1, h2, wrap_u64']
  show some _ = some _
  congr 2
  have h3 : ((y : Int) * 2 ^ i) = ((y * 2 ^ i : Nat) : Int) := by push_cast; rfl
  rw [h3]
  generalize y * 2 ^ i = z at h ⊢
  omega
theorem encByte_ge {n : Nat} (h : ¬ n < 128) : byteV (UInt8.ofNat n ||| 128) = .int .u8 ((n % 128 + 128 : Nat) : Int) := by
  show V.int .u8 _ = _
  congr 2
  have : ∀ m : Fin 256, (UInt8.ofNat m.val ||| 128).toNat = m.val % 128 + 128 := by decide +kernel
  have h1 := this ⟨n % 256, Nat.mod_lt _ (by omega)⟩
  have h2 : UInt8.ofNat (n % 256) = UInt8.ofNat n := by apply UInt8.toNat_inj.1; simp
  simp only [h2] at h1
  rw [h1]
  omega
theorem encByte_lt {n : Nat} (h : n < 128) : byteV (UInt8.ofNat n) = .int .u8 (n : Int) := by
  show V.int .u8 _ = _
  congr 2
  simp; omega
/-- A round that reads the last byte. -/
theorem rdNum_last (rest : List UInt8) (i fb : Nat) (hfb : i < fb) (j a m : Nat) (hj : j ≤ 9) (hm128 : m < 128) (h : Heap) (ws : List Nat) (hlt : m * 2 ^ (7 * j) + a < 18446744073709551616) (ha : a < 2 ^ (7 * j)) (hm : j = 0 ∨ 0 < m) (hh : hget h i = some (Rd.o ⟨encNum m ++ rest, 0⟩)) (hws : ws = [] ∨ ws = [i]) :
    roundV (callL E) loopL fb [0, 3, 7] c_wire_Reader_Num_l0 ⟨[(0, .ptr (some (i, 0))), (3, .int .u64 a), (7, .int .i64 j)], h, .w ws⟩ =
      some (.exit 0, ⟨[(0, .ptr (some (i, 0))), (3, .int .u64 (a + m * 2 ^ (7 * j) : Nat)), (7, .int .i64 j), (42, .bool true)], hset h i (Rd.o ⟨rest, 0⟩), .w [i]⟩) := by
  have hil := hget_lt hh
  rw [encNum_lt hm128] at hh
  have g1 := rdByte_eq (UInt8.ofNat m) rest hh
  rw [encByte_lt hm128] at g1
  have h2 := bin_andNot_nat .no (n := m) (by omega)
  rw [Nat.mod_eq_of_lt hm128] at h2
  have hle : m * 2 ^ (7 * j) < 18446744073709551616 := by generalize m * 2 ^ (7 * j) = z at hlt ⊢; omega
  have h3 := shl_nat .no (y := m) (i := 7 * j) (by omega) hle
  have h4 := bin_or_add .no (a := a) (y := m) (i := 7 * j) ha hlt
  have w1 : IntKind.wrap .u64 (m : Int) = (m : Int) := by rw [wrap_u64'] ; omega
  have w7 : IntKind.wrap .i64 (7 * (j : Int)) = ((7 * j : Nat) : Int) := by rw [wrap_i64] <;> omega
  have e5 : (m : Int) < 128 := by omega
  have hm2 : j = 9 → ¬ (1 : Int) < (m : Int) := fun h => by
    subst h
    have : m * 9223372036854775808 + a < 18446744073709551616 := hlt
    omega
  generalize a + m * 2 ^ (7 * j) = z at h4 ⊢
  generalize m * 2 ^ (7 * j) = y at h3 h4 hlt
  generalize ((7 * j : Nat) : Int) = jj at h3 w7
  have hj10 : (j : Int) < 10 := by omega
  have hj10' : j < 10 := by omega
  rw [s_round]
  by_cases h0 : j = 0
  · have h9' : ((j : Int) == 9) = false := by simp; omega
    have h0' : ¬ (0 : Int) < (j : Int) := by omega
    have h0'' : ¬ 0 < j := by omega
    rcases hws with rfl | rfl <;> simp [-getElem?_pos, -bin_shl, -bin_or, -bin_andNot, c_wire_Reader_Num_l0, g1, h2, h3, h4, hil, hfb, w1, w7, h9', hj10, hj10', h0', h0'', hm128, e5]
  · have h0' : (0 : Int) < (j : Int) := by omega
    have h0'' : 0 < j := by omega
    have hm0 : ((m : Int) == 0) = false := by simp; omega
    by_cases h9 : j = 9
    · have hm2 := hm2 h9
      have h9' : ((j : Int) == 9) = true := by simp; omega
      have hm2' : ¬ 1 < m := by omega
      rcases hws with rfl | rfl <;> simp [-getElem?_pos, -bin_shl, -bin_or, -bin_andNot, c_wire_Reader_Num_l0, g1, h2, h3, h4, hil, hfb, w1, w7, h9', hj10, hj10', h0', h0'', hm0, hm2, hm2', hm128, e5]
    · have h9' : ((j : Int) == 9) = false := by simp; omega
      rcases hws with rfl | rfl <;> simp [-getElem?_pos, -bin_shl, -bin_or, -bin_andNot, c_wire_Reader_Num_l0, g1, h2, h3, h4, hil, hfb, w1, w7, h9', hj10, hj10', h0', h0'', hm0, hm128, e5]
/-- A round that reads a byte with more to come. -/
theorem rdNum_more (rest : List UInt8) (i fb : Nat) (hfb : i < fb) (j a m : Nat) (hm128 : ¬ m < 128) (h : Heap) (ws : List Nat) (hlt : m * 2 ^ (7 * j) + a < 18446744073709551616) (ha : a < 2 ^ (7 * j)) (hj8 : j ≤ 8) (hh : hget h i = some (Rd.o ⟨encNum m ++ rest, 0⟩)) (hws : ws = [] ∨ ws = [i]) (hlt' : m % 128 * 2 ^ (7 * j) + a < 18446744073709551616) :
    roundV (callL E) loopL fb [0, 3, 7] c_wire_Reader_Num_l0 ⟨[(0, .ptr (some (i, 0))), (3, .int .u64 a), (7, .int .i64 j)], h, .w ws⟩ =
      some (.normal, ⟨[(0, .ptr (some (i, 0))), (3, .int .u64 (a + m % 128 * 2 ^ (7 * j) : Nat)), (7, .int .i64 (j + 1 : Nat))], hset h i (Rd.o ⟨encNum (m / 128) ++ rest, 0⟩), .w [i]⟩) := by
  have hil := hget_lt hh
  rw [encNum_ge hm128, List.cons_append] at hh
  have g1 := rdByte_eq _ _ hh
  rw [encByte_ge hm128] at g1
  have h2 := bin_andNot_nat .no (n := m % 128 + 128) (by omega)
  rw [show (m % 128 + 128) % 128 = m % 128 by omega] at h2
  have hle : m % 128 * 2 ^ (7 * j) < 18446744073709551616 := by generalize m % 128 * 2 ^ (7 * j) = z at hlt' ⊢; omega
  have h3 := shl_nat .no (y := m % 128) (i := 7 * j) (by omega) hle
  have h4 := bin_or_add .no (a := a) (y := m % 128) (i := 7 * j) ha hlt'
  have w1 : IntKind.wrap .u64 ((m % 128 : Nat) : Int) = ((m % 128 : Nat) : Int) := by rw [wrap_u64'] ; omega
  have w7 : IntKind.wrap .i64 (7 * (j : Int)) = ((7 * j : Nat) : Int) := by rw [wrap_i64] <;> omega
  have h1 := i64_add1 (n := j) (by omega)
  have hj10 : (j : Int) < 10 := by omega
  have hj10' : j < 10 := by omega
  have h9' : ((j : Int) == 9) = false := by simp; omega
  have hx0 : (((m % 128 + 128 : Nat) : Int) == 0) = false := by simp; omega
  have hx1 : ¬ ((m % 128 + 128 : Nat) : Int) < 128 := by omega
  generalize a + m % 128 * 2 ^ (7 * j) = z at h4 ⊢
  generalize m % 128 * 2 ^ (7 * j) = y at h3 h4
  generalize ((7 * j : Nat) : Int) = jj at h3 w7
  generalize ((m % 128 + 128 : Nat) : Int) = X at *
  generalize ((m % 128 : Nat) : Int) = Y at *
  rw [s_round]
  by_cases h0 : 0 < j
  · have h0' : (0 : Int) < (j : Int) := by omega
    rcases hws with rfl | rfl <;> simp [-getElem?_pos, -bin_shl, -bin_or, -bin_andNot, c_wire_Reader_Num_l0, g1, h2, h3, h4, hil, hfb, w1, w7, h1, h9', hj10, hj10', h0, h0', hx0, hx1]
  · have h0' : ¬ (0 : Int) < (j : Int) := by omega
    rcases hws with rfl | rfl <;> simp [-getElem?_pos, -bin_shl, -bin_or, -bin_andNot, c_wire_Reader_Num_l0, g1, h2, h3, h4, hil, hfb, w1, w7, h1, h9', hj10, hj10', h0, h0', hx0, hx1]
theorem mod_step (m a P : Nat) (ha : a < P) : (m / 128) * (P * 128) + (a + m % 128 * P) = m * P + a ∧ a + m % 128 * P < P * 128 := by
  have h1 : m / 128 * 128 + m % 128 = m := by omega
  have h2 : m * P = m / 128 * (P * 128) + m % 128 * P := by
    calc m * P = (m / 128 * 128 + m % 128) * P := by rw [h1]
      _ = m / 128 * (P * 128) + m % 128 * P := by rw [Nat.add_mul, Nat.mul_assoc, Nat.mul_comm 128 P]
  have h3 : m % 128 * P ≤ 127 * P := Nat.mul_le_mul_right P (by omega)
  generalize m % 128 * P = u at *
  generalize m / 128 * (P * 128) = v at *
  omega
theorem rdNum_loop (rest : List UInt8) (i fb : Nat) (hfb : i < fb) : ∀ (k j a m : Nat) (h : Heap) (ws : List Nat), j + k = 9 → m * 2 ^ (7 * j) + a < 18446744073709551616 → a < 2 ^ (7 * j) → (j = 0 ∨ 0 < m) → hget h i = some (Rd.o ⟨encNum m ++ rest, 0⟩) → (ws = [] ∨ ws = [i]) →
    ∃ jl : Nat, loopRun (callL E) loopL fb [0, 3, 7] c_wire_Reader_Num_l0 ⟨[(0, .ptr (some (i, 0))), (3, .int .u64 a), (7, .int .i64 j)], h, .w ws⟩ =
      some (.exit 0, ⟨[(0, .ptr (some (i, 0))), (3, .int .u64 (m * 2 ^ (7 * j) + a : Nat)), (7, .int .i64 jl), (42, .bool true)], hset h i (Rd.o ⟨rest, 0⟩), .w [i]⟩) := by
  intro k
  induction k with
  | zero =>
    intro j a m h ws hj hlt ha hm hh hws
    have : j = 9 := by omega
    subst this
    have hm128 : m < 128 := by
      have : m * 9223372036854775808 + a < 18446744073709551616 := hlt
      omega
    refine ⟨9, loop_exit ?_⟩
    rw [Nat.add_comm (m * _)]
    exact rdNum_last rest i fb hfb 9 a m (by omega) hm128 h ws hlt ha hm hh hws
  | succ k ih =>
    intro j a m h ws hj hlt ha hm hh hws
    by_cases hm128 : m < 128
    · refine ⟨j, loop_exit ?_⟩
      rw [Nat.add_comm (m * _)]
      exact rdNum_last rest i fb hfb j a m (by omega) hm128 h ws hlt ha hm hh hws
    · obtain ⟨s1, s2⟩ := mod_step m a (2 ^ (7 * j)) ha
      have hp : 2 ^ (7 * (j + 1)) = 2 ^ (7 * j) * 128 := by rw [Nat.mul_add, Nat.pow_add]
      have hlt' : m % 128 * 2 ^ (7 * j) + a < 18446744073709551616 := by
        have : m % 128 * 2 ^ (7 * j) ≤ m * 2 ^ (7 * j) := Nat.mul_le_mul_right _ (Nat.mod_le _ _)
        omega
      have h1 := rdNum_more rest i fb hfb j a m hm128 h ws hlt ha (by omega) hh hws hlt'
      obtain ⟨jl, h2⟩ := ih (j + 1) (a + m % 128 * 2 ^ (7 * j)) (m / 128) (hset h i (Rd.o ⟨encNum (m / 128) ++ rest, 0⟩)) [i] (by omega) (by rw [hp, s1]; exact hlt) (by rw [hp]; exact s2) (.inr (by omega)) (hget_hset hh) (.inr rfl)
      refine ⟨jl, loop_next h1 (h2.trans ?_)⟩
      rw [hp, s1, hset_hset]
theorem rdNum_eq {n : Nat} (hn : n < 18446744073709551616) (rest : List UInt8) {h : Heap} {i : Nat} (hh : hget h i = some (Rd.o ⟨encNum n ++ rest, 0⟩)) :
    callL E F.wire_Reader_Num [.ptr (some (i, 0))] h = some (.int .u64 (n : Int), hset h i (Rd.o ⟨rest, 0⟩), .w [i]) := by
  refine callL_of rfl fn_wire_Reader_Num ?_
  have hil := hget_lt hh
  obtain ⟨jl, h1⟩ := rdNum_loop rest i h.length hil 9 0 0 n h [] (by omega) (by simpa using hn) (by simp) (.inl rfl) hh (.inl rfl)
  have e : n * 2 ^ (7 * 0) + 0 = n := by simp
  rw [e, show ((0 : Nat) : Int) = 0 from rfl] at h1
  have h2 : Fl.w [] = Fl.no := rfl
  rw [h2] at h1
  simp [-getElem?_pos, c_wire_Reader_Num, h1, hil, hset_len]
/-- Nothing is read after an error. -/
theorem rdNum_err (r : Rd) (he : r.err ≠ 0) {h : Heap} {i : Nat} (hh : hget h i = some r.o) :
    callL E F.wire_Reader_Num [.ptr (some (i, 0))] h = some (.int .u64 0, h, .no) := by
  refine callL_of rfl fn_wire_Reader_Num ?_
  have g1 := rdByte_err r he hh
  have h1 : loopRun (callL E) loopL h.length [0, 3, 7] c_wire_Reader_Num_l0 ⟨[(0, .ptr (some (i, 0))), (3, .int .u64 0), (7, .int .i64 0)], h, .no⟩ = some (.ret, ⟨[(2, .int .u64 0)], h, .no⟩) := by
    refine loop_ret ?_
    rw [s_round]
    simp [-getElem?_pos, c_wire_Reader_Num_l0, g1]
  simp [-getElem?_pos, c_wire_Reader_Num, h1]
end Go.Proofs.Ytfdhldbhbigfhaa.V
