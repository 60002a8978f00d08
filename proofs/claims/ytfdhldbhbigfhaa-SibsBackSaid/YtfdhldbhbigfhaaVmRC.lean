/- What the functions of 'wire' compute of any bytes: the reader. -/
import Derived.Test.YtfdhldbhbigfhaaVmRM
set_option linter.unusedVariables false
set_option linter.unusedSimpArgs false
namespace Go.Proofs.Ytfdhldbhbigfhaa.V
open Go.Vm

def wsR (r : Rd) (i : Nat) : List Nat := cnd (decide (r.err = 0)) [i] []
theorem wsR_no {r : Rd} (h : r.err ≠ 0) (i : Nat) : wsR r i = [] := by unfold wsR; rw [decide_eq_false h]; rfl
theorem wsR_yes {r : Rd} (h : r.err = 0) (i : Nat) : wsR r i = [i] := by unfold wsR; rw [decide_eq_true h]; rfl
theorem wsR_add (r : Rd) (i : Nat) : addE [i] (wsR r i) = [i] := by
  unfold wsR
  cases decide (r.err = 0) <;> simp
theorem wsR_lt (r : Rd) {i n : Nat} (h : i < n) : wrLt n (wsR r i) = wsR r i := by
  unfold wsR
  cases decide (r.err = 0) <;> simp [wrLt, h]
theorem byteN (x : UInt8) : byteV x = .int .u8 (x.toNat : Int) := rfl
theorem rdByte_nil {h : Heap} {i : Nat} (hh : hget h i = some (Rd.o ⟨[], 0⟩)) : callL E F.wire_Reader_byte [.ptr (some (i, 0))] h = some (.tup [.int .u8 0, .bool false], hset h i (Rd.o ⟨[], 2⟩), .w [i]) := by
  refine callL_of rfl fn_wire_Reader_byte ?_
  have hi := hget_lt hh
  have g1 := rdOk_eq _ hh
  have g2 := rdFail_eq _ 2 hh
  simp only [decide_true] at g1
  unfold Rd.o Rd.c bytesV at *
  simp [-getElem?_pos, c_wire_Reader_byte, hh, hi, g1, g2]
  done
section
variable {i fb : Nat} (hfb : i < fb) {j a : Nat} {h : Heap} {ws : List Nat} (hws : ws = [] ∨ ws = [i])
include hfb hws
theorem rdN_nil (hj : j ≤ 9) (hh : hget h i = some (Rd.o ⟨[], 0⟩)) :
    roundV (callL E) loopL fb [0, 3, 7] c_wire_Reader_Num_l0 ⟨[(0, .ptr (some (i, 0))), (3, .int .u64 a), (7, .int .i64 j)], h, .w ws⟩ =
      some (.ret, ⟨[(2, .int .u64 0)], hset h i (Rd.o ⟨[], 2⟩), .w [i]⟩) := by
  have hil := hget_lt hh
  have g1 := rdByte_nil hh
  have hj10 : (j : Int) < 10 := by omega
  have hj10' : j < 10 := by omega
  rw [s_round]
  rcases hws with rfl | rfl <;> simp [-getElem?_pos, c_wire_Reader_Num_l0, g1, hil, hfb, hj10, hj10']
theorem rdN_bad {x : UInt8} {t : List UInt8} (hj : j ≤ 9) (hb : (j = 9 ∧ 1 < x.toNat) ∨ (0 < j ∧ x.toNat = 0)) (hh : hget h i = some (Rd.o ⟨x :: t, 0⟩)) :
    roundV (callL E) loopL fb [0, 3, 7] c_wire_Reader_Num_l0 ⟨[(0, .ptr (some (i, 0))), (3, .int .u64 a), (7, .int .i64 j)], h, .w ws⟩ =
      some (.ret, ⟨[(2, .int .u64 0)], hset h i (Rd.o ⟨[], 3⟩), .w [i]⟩) := by
  have hil := hget_lt hh
  have g1 := rdByte_eq x t hh
  rw [byteN] at g1
  have g2 := rdFail_eq ⟨t, 0⟩ 3 (hget_hset (q := Rd.o ⟨t, 0⟩) hh)
  rw [hset_hset] at g2
  have hj10 : (j : Int) < 10 := by omega
  have hj10' : j < 10 := by omega
  generalize x.toNat = n at *
  rw [s_round]
  by_cases h9 : j = 9
  · have h9' : ((j : Int) == 9) = true := by simp; omega
    by_cases h1 : 1 < n
    · have h1' : (1 : Int) < (n : Int) := by omega
      rcases hws with rfl | rfl <;> simp [-getElem?_pos, c_wire_Reader_Num_l0, g1, g2, hil, hfb, hj10, hj10', h9', h1, h1', hset_len]
    · have h1' : ¬ (1 : Int) < (n : Int) := by omega
      have h0 : (0 : Int) < (j : Int) := by omega
      have h0' : 0 < j := by omega
      have hn : n = 0 := by omega
      have hn0 : ((n : Int) == 0) = true := by simp; omega
      rcases hws with rfl | rfl <;> simp [-getElem?_pos, c_wire_Reader_Num_l0, g1, g2, hil, hfb, hj10, hj10', h9', h1, h1', h0, h0', hn0, hset_len]
  · have h9' : ((j : Int) == 9) = false := by simp; omega
    have h0 : (0 : Int) < (j : Int) := by omega
    have h0' : 0 < j := by omega
    have hn0 : ((n : Int) == 0) = true := by simp; omega
    rcases hws with rfl | rfl <;> simp [-getElem?_pos, c_wire_Reader_Num_l0, g1, g2, hil, hfb, hj10, hj10', h9', h0, h0', hn0, hset_len]
theorem rdN_last {x : UInt8} {t : List UInt8} (hj : j ≤ 9) (ha : a < 2 ^ (7 * j)) (hb : ¬ ((j = 9 ∧ 1 < x.toNat) ∨ (0 < j ∧ x.toNat = 0))) (hx : x.toNat < 128) (hh : hget h i = some (Rd.o ⟨x :: t, 0⟩)) (hlt : x.toNat * 2 ^ (7 * j) + a < 18446744073709551616) :
    roundV (callL E) loopL fb [0, 3, 7] c_wire_Reader_Num_l0 ⟨[(0, .ptr (some (i, 0))), (3, .int .u64 a), (7, .int .i64 j)], h, .w ws⟩ =
      some (.exit 0, ⟨[(0, .ptr (some (i, 0))), (3, .int .u64 (a + x.toNat % 128 * 2 ^ (7 * j) : Nat)), (7, .int .i64 j), (42, .bool true)], hset h i (Rd.o ⟨t, 0⟩), .w [i]⟩) := by
  have hil := hget_lt hh
  have hm : x.toNat % 128 = x.toNat := Nat.mod_eq_of_lt hx
  have he : encNum x.toNat ++ t = x :: t := by rw [encNum_lt hx]; simp
  have := rdNum_last t i fb hfb j a x.toNat hj hx h ws hlt ha (by by_cases h0 : j = 0; exact .inl h0; right; omega) (by rw [he]; exact hh) hws
  rw [this, hm]
theorem rdN_more {x : UInt8} {t : List UInt8} (hj : j ≤ 8) (ha : a < 2 ^ (7 * j)) (hx : ¬ x.toNat < 128) (hh : hget h i = some (Rd.o ⟨x :: t, 0⟩)) :
    roundV (callL E) loopL fb [0, 3, 7] c_wire_Reader_Num_l0 ⟨[(0, .ptr (some (i, 0))), (3, .int .u64 a), (7, .int .i64 j)], h, .w ws⟩ =
      some (.normal, ⟨[(0, .ptr (some (i, 0))), (3, .int .u64 (a + x.toNat % 128 * 2 ^ (7 * j) : Nat)), (7, .int .i64 (j + 1 : Nat))], hset h i (Rd.o ⟨t, 0⟩), .w [i]⟩) := by
  have hil := hget_lt hh
  have g1 := rdByte_eq x t hh
  rw [byteN] at g1
  have hn256 := x.toNat_lt
  have hpow : 2 ^ (7 * j) ≤ 2 ^ 56 := Nat.pow_le_pow_right (by omega) (by omega)
  have hx128 : x.toNat % 128 * 2 ^ (7 * j) ≤ 127 * 2 ^ (7 * j) := Nat.mul_le_mul_right _ (by omega)
  have h2 := bin_andNot_nat .no (n := x.toNat) (by omega)
  have hle : x.toNat % 128 * 2 ^ (7 * j) < 18446744073709551616 := by generalize x.toNat % 128 * 2 ^ (7 * j) = z at *; omega
  have h3 := shl_nat .no (y := x.toNat % 128) (i := 7 * j) (by omega) hle
  have h4 := bin_or_add .no (a := a) (y := x.toNat % 128) (i := 7 * j) ha (by generalize x.toNat % 128 * 2 ^ (7 * j) = z at *; omega)
  have w1 : IntKind.wrap .u64 ((x.toNat % 128 : Nat) : Int) = ((x.toNat % 128 : Nat) : Int) := by rw [wrap_u64'] ; omega
  have w7 : IntKind.wrap .i64 (7 * (j : Int)) = ((7 * j : Nat) : Int) := by rw [wrap_i64] <;> omega
  have h1 := i64_add1 (n := j) (by omega)
  have hj10 : (j : Int) < 10 := by omega
  have hj10' : j < 10 := by omega
  have h9' : ((j : Int) == 9) = false := by simp; omega
  have hx0 : ((x.toNat : Int) == 0) = false := by simp; omega
  have hx1 : ¬ (x.toNat : Int) < 128 := by omega
  generalize a + x.toNat % 128 * 2 ^ (7 * j) = z at h4 ⊢
  generalize x.toNat % 128 * 2 ^ (7 * j) = y at h3 h4
  generalize ((7 * j : Nat) : Int) = jj at h3 w7
  generalize ((x.toNat % 128 : Nat) : Int) = Y at *
  generalize ((x.toNat : Nat) : Int) = X at *
  rw [s_round]
  by_cases h0 : 0 < j
  · have h0' : (0 : Int) < (j : Int) := by omega
    rcases hws with rfl | rfl <;> simp [-getElem?_pos, -bin_shl, -bin_or, -bin_andNot, c_wire_Reader_Num_l0, g1, h2, h3, h4, hil, hfb, w1, w7, h1, h9', hj10, hj10', h0, h0', hx0, hx1]
  · have h0' : ¬ (0 : Int) < (j : Int) := by omega
    rcases hws with rfl | rfl <;> simp [-getElem?_pos, -bin_shl, -bin_or, -bin_andNot, c_wire_Reader_Num_l0, g1, h2, h3, h4, hil, hfb, w1, w7, h1, h9', hj10, hj10', h0, h0', hx0, hx1]
end
theorem numM_cons (k j acc : Nat) (x : UInt8) (t : List UInt8) : numM (k + 1) j acc ⟨x :: t, 0⟩ = (if (j = 9 ∧ 1 < x.toNat) ∨ (0 < j ∧ x.toNat = 0) then (0, ⟨[], 3⟩)
        else if x.toNat < 128 then (acc + x.toNat % 128 * 2 ^ (7 * j), ⟨t, 0⟩) else numM k (j + 1) (acc + x.toNat % 128 * 2 ^ (7 * j)) ⟨t, 0⟩) := by
  conv => lhs; unfold numM
  rfl
theorem rdN_loop (i fb : Nat) (hfb : i < fb) : ∀ (k j a : Nat) (b : List UInt8) (h : Heap) (ws : List Nat), j + k = 9 → a < 2 ^ (7 * j) → hget h i = some (Rd.o ⟨b, 0⟩) → (ws = [] ∨ ws = [i]) →
    (∃ jl : Nat, loopRun (callL E) loopL fb [0, 3, 7] c_wire_Reader_Num_l0 ⟨[(0, .ptr (some (i, 0))), (3, .int .u64 a), (7, .int .i64 j)], h, .w ws⟩ =
      some (.exit 0, ⟨[(0, .ptr (some (i, 0))), (3, .int .u64 ((numM (k + 1) j a ⟨b, 0⟩).1 : Nat)), (7, .int .i64 jl), (42, .bool true)], hset h i (numM (k + 1) j a ⟨b, 0⟩).2.o, .w [i]⟩)) ∨
    ((numM (k + 1) j a ⟨b, 0⟩).1 = 0 ∧ loopRun (callL E) loopL fb [0, 3, 7] c_wire_Reader_Num_l0 ⟨[(0, .ptr (some (i, 0))), (3, .int .u64 a), (7, .int .i64 j)], h, .w ws⟩ =
      some (.ret, ⟨[(2, .int .u64 0)], hset h i (numM (k + 1) j a ⟨b, 0⟩).2.o, .w [i]⟩)) := by
  intro k
  induction k with
  | zero =>
    intro j a b h ws hj ha hh hws
    have : j = 9 := by omega
    subst this
    cases b with
    | nil =>
      right
      refine ⟨by simp [numM], loop_ret ?_⟩
      rw [rdN_nil hfb hws (by omega) hh]
      simp [numM]
    | cons x t =>
      rw [numM_cons]
      by_cases hb : (9 = 9 ∧ 1 < x.toNat) ∨ (0 < 9 ∧ x.toNat = 0)
      · rw [if_pos hb]
        right
        exact ⟨rfl, loop_ret (rdN_bad hfb hws (by omega) hb hh)⟩
      · rw [if_neg hb]
        have hx1 : x.toNat ≤ 1 := Nat.le_of_not_lt fun e => hb (.inl ⟨rfl, e⟩)
        have hx : x.toNat < 128 := by omega
        rw [if_pos hx]
        left
        refine ⟨9, loop_exit (rdN_last hfb hws (by omega) ha hb hx hh ?_)⟩
        show x.toNat * 9223372036854775808 + a < _
        have : a < 9223372036854775808 := ha
        omega
  | succ k ih =>
    intro j a b h ws hj ha hh hws
    cases b with
    | nil =>
      right
      refine ⟨by simp [numM], loop_ret ?_⟩
      rw [rdN_nil hfb hws (by omega) hh]
      simp [numM]
    | cons x t =>
      rw [numM_cons]
      by_cases hb : (j = 9 ∧ 1 < x.toNat) ∨ (0 < j ∧ x.toNat = 0)
      · rw [if_pos hb]
        right
        exact ⟨rfl, loop_ret (rdN_bad hfb hws (by omega) hb hh)⟩
      · rw [if_neg hb]
        have hpow : 2 ^ (7 * j) ≤ 2 ^ 56 := Nat.pow_le_pow_right (by omega) (by omega)
        by_cases hx : x.toNat < 128
        · rw [if_pos hx]
          left
          refine ⟨j, loop_exit (rdN_last hfb hws (by omega) ha hb hx hh ?_)⟩
          have hx128 : x.toNat * 2 ^ (7 * j) ≤ 127 * 2 ^ (7 * j) := Nat.mul_le_mul_right _ (by omega)
          generalize x.toNat * 2 ^ (7 * j) = z at *
          omega
        · rw [if_neg hx]
          have hp : 2 ^ (7 * (j + 1)) = 2 ^ (7 * j) * 128 := by rw [Nat.mul_add, Nat.pow_add]
          have hx128 : x.toNat % 128 * 2 ^ (7 * j) ≤ 127 * 2 ^ (7 * j) := Nat.mul_le_mul_right _ (by omega)
          have h1 := rdN_more hfb hws (by omega) ha hx hh
          have h2 := ih (j + 1) (a + x.toNat % 128 * 2 ^ (7 * j)) t (hset h i (Rd.o ⟨t, 0⟩)) [i] (by omega) (by rw [hp]; generalize x.toNat % 128 * 2 ^ (7 * j) = z at *; omega) (hget_hset hh) (.inr rfl)
          rw [hset_hset] at h2
          rcases h2 with ⟨jl, h2⟩ | ⟨h2, h3⟩
          · exact .inl ⟨jl, loop_next h1 h2⟩
          · exact .inr ⟨h2, loop_next h1 h3⟩
theorem rdNum_all (r : Rd) {h : Heap} {i : Nat} (hh : hget h i = some r.o) :
    callL E F.wire_Reader_Num [.ptr (some (i, 0))] h = some (.int .u64 (readNum r).1, hset h i (readNum r).2.o, .w (wsR r i)) := by
  by_cases he : r.err = 0
  · rw [wsR_yes he]
    obtain ⟨b, e⟩ := r
    simp only at he
    subst he
    refine callL_of rfl fn_wire_Reader_Num ?_
    have hil := hget_lt hh
    have h2 : Fl.w [] = Fl.no := rfl
    rcases rdN_loop i h.length hil 9 0 0 b h [] (by omega) (by simp) hh (.inl rfl) with ⟨jl, h1⟩ | ⟨h0, h1⟩
    · rw [show ((0 : Nat) : Int) = 0 from rfl, h2] at h1
      unfold readNum
      generalize numM (9 + 1) 0 0 ⟨b, 0⟩ = q at *
      simp [-getElem?_pos, c_wire_Reader_Num, h1, hil, hset_len]
    · rw [show ((0 : Nat) : Int) = 0 from rfl, h2] at h1
      unfold readNum
      rw [h0]
      generalize numM (9 + 1) 0 0 ⟨b, 0⟩ = q at *
      simp [-getElem?_pos, c_wire_Reader_Num, h1, hil, hset_len]
  · rw [wsR_no he]
    have e : readNum r = (0, r) := numM_err he
    rw [e, hset_same hh]
    exact rdNum_err r he hh
end Go.Proofs.Ytfdhldbhbigfhaa.V
