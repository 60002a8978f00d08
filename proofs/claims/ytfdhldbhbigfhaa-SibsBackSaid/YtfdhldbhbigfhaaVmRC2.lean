/- What the functions of 'wire' compute of any bytes: the reader's other things. -/
import Derived.Test.YtfdhldbhbigfhaaVmRC
set_option linter.unusedVariables false
set_option linter.unusedSimpArgs false
namespace Go.Proofs.Ytfdhldbhbigfhaa.V
open Go.Vm

theorem numM_zero : ∀ (k j acc : Nat) (r : Rd), j + k = 9 → (numM (k + 1) j acc r).2.err ≠ 0 → (numM (k + 1) j acc r).1 = 0 := by
  intro k
  induction k with
  | zero =>
    intro j acc r hj he
    have : j = 9 := by omega
    subst this
    by_cases h0 : r.err = 0
    · obtain ⟨b, e⟩ := r
      simp only at h0
      subst h0
      cases b with
      | nil => simp [numM]
      | cons x t =>
        rw [numM_cons] at he ⊢
        by_cases hb : (9 = 9 ∧ 1 < x.toNat) ∨ (0 < 9 ∧ x.toNat = 0)
        · rw [if_pos hb]
        · rw [if_neg hb] at he
          have hx1 : x.toNat ≤ 1 := Nat.le_of_not_lt fun e => hb (.inl ⟨rfl, e⟩)
          rw [if_pos (by omega)] at he
          exact absurd rfl he
    · rw [numM_err h0]
  | succ k ih =>
    intro j acc r hj he
    by_cases h0 : r.err = 0
    · obtain ⟨b, e⟩ := r
      simp only at h0
      subst h0
      cases b with
      | nil => simp [numM]
      | cons x t =>
        rw [numM_cons] at he ⊢
        by_cases hb : (j = 9 ∧ 1 < x.toNat) ∨ (0 < j ∧ x.toNat = 0)
        · rw [if_pos hb]
        · rw [if_neg hb] at he ⊢
          by_cases hx : x.toNat < 128
          · rw [if_pos hx] at he; exact absurd rfl he
          · rw [if_neg hx] at he ⊢
            exact ih _ _ _ (by omega) he
    · rw [numM_err h0]
theorem readNum_lt (r : Rd) : (readNum r).1 < 18446744073709551616 := by
  by_cases h : (readNum r).2.err = 0
  · exact (readNum_sound h).2.2
  · have : (readNum r).1 = 0 := numM_zero 9 0 0 r (by omega) h
    omega
theorem numM_le : ∀ (k j acc : Nat) (r : Rd), (numM k j acc r).2.b.length ≤ r.b.length
  | 0, _, _, _ => Nat.le_refl _
  | k + 1, j, acc, r => by
    unfold numM
    split
    · split
      · simp
      · rename_i x t hb
        rw [hb]
        split
        · simp
        · split
          · simp
          · have := numM_le k (j + 1) (acc + x.toNat % 128 * 2 ^ (7 * j)) ⟨t, 0⟩
            simp only [List.length_cons] at this ⊢
            omega
    · exact Nat.le_refl _
theorem readNum_le (r : Rd) : (readNum r).2.b.length ≤ r.b.length := numM_le _ _ _ r
theorem readInt_le (r : Rd) : (readInt r).2.b.length ≤ r.b.length := numM_le _ _ _ r
theorem readFlag_le (r : Rd) : (readFlag r).2.b.length ≤ r.b.length := by
  unfold readFlag
  split
  · split
    · simp
    · rename_i x t hb
      rw [hb]
      split <;> simp
  · exact Nat.le_refl _
theorem readCount_le (most : Nat) (r : Rd) : (readCount most r).2.b.length ≤ r.b.length := by
  unfold readCount
  split
  · split
    · simp
    · exact readNum_le r
  · exact readNum_le r
theorem readText_le (most : Nat) (r : Rd) : (readText most r).2.b.length ≤ r.b.length := by
  have h := readCount_le most r
  unfold readText
  split
  · split
    · simp
    · simp only [List.length_drop]; omega
  · exact h
theorem readInts_le : ∀ (k : Nat) (r : Rd), (readInts k r).2.b.length ≤ r.b.length
  | 0, _ => Nat.le_refl _
  | k + 1, r => Nat.le_trans (readInts_le k _) (readInt_le r)
theorem readVal_le (r : Rd) : (readVal r).2.b.length ≤ r.b.length := Nat.le_trans (readText_le _ _) (Nat.le_trans (readFlag_le _) (Nat.le_trans (readInt_le _) (readNum_le _)))
theorem rdInt_all (r : Rd) {h : Heap} {i : Nat} (hh : hget h i = some r.o) :
    callL E F.wire_Reader_Int [.ptr (some (i, 0))] h = some (.int .i64 (readInt r).1, hset h i (readInt r).2.o, .w (wsR r i)) := by
  refine callL_of rfl fn_wire_Reader_Int ?_
  have hil := hget_lt hh
  have g1 := rdNum_all r hh
  have hlt := readNum_lt r
  have hwl := wsR_lt r hil
  unfold readInt
  generalize (readNum r).2 = r' at *
  generalize (readNum r).1 = n at *
  have h1 := bin_shr1 .no n
  have h2 := bin_and1 .no hlt
  have w1 : IntKind.wrap .i64 ((n / 2 : Nat) : Int) = ((n / 2 : Nat) : Int) := by rw [wrap_i64] <;> omega
  generalize wsR r i = ws at *
  unfold unzig
  by_cases hodd : n % 2 = 1
  · rw [if_pos hodd]
    have h3 := bin_xorm1 .no (p := ((n / 2 : Nat) : Int)) (by omega) (by omega)
    rw [hodd] at h2
    have e3 : ((n : Nat) : Int) % 2 = 1 := by omega
    have w2 : IntKind.wrap .i64 1 = 1 := by rw [wrap_i64] <;> omega
    have w3 : IntKind.wrap .i64 (-1) = -1 := by rw [wrap_i64] <;> omega
    generalize ((n / 2 : Nat) : Int) = p at *
    simp [-getElem?_pos, -bin_shr, -bin_and, -bin_xor, c_wire_Reader_Int, g1, h1, h2, h3, w1, w2, w3, hil, e3, hwl, hset_len]
  · rw [if_neg hodd]
    have e1 : n % 2 = 0 := by omega
    have h3 := bin_xor0 .no (p := ((n / 2 : Nat) : Int)) (by omega) (by omega)
    rw [e1] at h2
    have e3 : ((n : Nat) : Int) % 2 = 0 := by omega
    have w2 : IntKind.wrap .i64 0 = 0 := by rw [wrap_i64] <;> omega
    generalize ((n / 2 : Nat) : Int) = p at *
    simp [-getElem?_pos, -bin_shr, -bin_and, -bin_xor, c_wire_Reader_Int, g1, h1, h2, h3, w1, w2, hil, e3, hwl, hset_len]
theorem rdFlag_all (r : Rd) {h : Heap} {i : Nat} (hh : hget h i = some r.o) :
    callL E F.wire_Reader_Flag [.ptr (some (i, 0))] h = some (.bool (readFlag r).1, hset h i (readFlag r).2.o, .w (wsR r i)) := by
  refine callL_of rfl fn_wire_Reader_Flag ?_
  have hil := hget_lt hh
  unfold readFlag
  by_cases he : r.err = 0
  · rw [wsR_yes he, if_pos he]
    obtain ⟨b, e⟩ := r
    simp only at he
    subst he
    cases b with
    | nil =>
      have g1 := rdByte_nil hh
      simp [-getElem?_pos, c_wire_Reader_Flag, g1, hil, hset_len]
      done
    | cons x t =>
      have g1 := rdByte_eq x t hh
      rw [byteN] at g1
      have g2 := rdFail_eq ⟨t, 0⟩ 3 (hget_hset (q := Rd.o ⟨t, 0⟩) hh)
      rw [hset_hset] at g2
      simp only
      generalize x.toNat = n at *
      by_cases h1 : 1 < n
      · have h1' : (1 : Int) < (n : Int) := by omega
        rw [if_pos h1]
        simp [-getElem?_pos, c_wire_Reader_Flag, g1, g2, hil, hset_len, h1, h1']
        done
      · have h1' : ¬ (1 : Int) < (n : Int) := by omega
        rw [if_neg h1]
        by_cases h2 : n = 1
        · have h2' : ((n : Int) == 1) = true := by simp; omega
          simp [-getElem?_pos, c_wire_Reader_Flag, g1, g2, hil, hset_len, h1, h1', h2, h2']
          done
        · have h2' : ((n : Int) == 1) = false := by simp; omega
          simp [-getElem?_pos, c_wire_Reader_Flag, g1, g2, hil, hset_len, h1, h1', h2, h2']
          done
  · rw [wsR_no he, if_neg he, hset_same hh]
    have g1 := rdByte_err r he hh
    have w0 : ((0 : Int) == 1) = false := rfl
    simp [-getElem?_pos, c_wire_Reader_Flag, g1, w0]
    done
theorem rdCount_all {most : Nat} (hm : most ≤ 1000000) (r : Rd) {h : Heap} {i : Nat} (hh : hget h i = some r.o) :
    callL E F.wire_Reader_Count [.ptr (some (i, 0)), .int .i64 most] h = some (.int .i64 (readCount most r).1, hset h i (readCount most r).2.o, .w (wsR r i)) := by
  by_cases he : r.err = 0
  · refine callL_of rfl fn_wire_Reader_Count ?_
    have hil := hget_lt hh
    have g1 := rdNum_all r hh
    rw [wsR_yes he] at g1 ⊢
    have hlt := readNum_lt r
    unfold readCount
    generalize hq : readNum r = q at *
    obtain ⟨n, r1⟩ := q
    simp only at g1 hlt ⊢
    have hh1 := hget_hset (q := Rd.o r1) hh
    have g2 := rdOk_eq _ hh1
    have w1 : IntKind.wrap .u64 (most : Int) = (most : Int) := by rw [wrap_u64']; omega
    have hmx2 : (if 0 < most then (most : Int) else 0) = most := by split <;> omega
    by_cases h0 : r1.err = 0
    · rw [decide_eq_true h0] at g2
      rw [if_pos h0]
      by_cases hc : most < n
      · rw [if_pos hc]
        have hc' : (most : Int) < (n : Int) := by omega
        have g3 := rdFail_eq _ 4 hh1
        rw [hset_hset] at g3
        have hh2 := hget_hset (q := Rd.o ⟨[], 4⟩) hh
        have g4 := rdOk_eq _ hh2
        simp only [show ((4 : Int) = 0) = False from by simp, decide_false] at g4
        simp [-getElem?_pos, c_wire_Reader_Count, g1, g2, g3, g4, hil, hset_len, hmx2, w1, hc', hc]
        done
      · rw [if_neg hc]
        have hc' : ¬ (most : Int) < (n : Int) := by omega
        have w2 : IntKind.wrap .i64 (n : Int) = (n : Int) := by rw [wrap_i64] <;> omega
        simp [-getElem?_pos, c_wire_Reader_Count, g1, g2, hil, hset_len, hmx2, w1, w2, hc', hc]
        done
    · rw [decide_eq_false h0] at g2
      rw [if_neg h0]
      simp [-getElem?_pos, c_wire_Reader_Count, g1, g2, hil, hset_len, hmx2, w1]
      done
  · have e : readNum r = (0, r) := numM_err he
    have e2 : readCount most r = (0, r) := by unfold readCount; rw [e]; simp only; rw [if_neg he]
    rw [wsR_no he, e2, hset_same hh]
    exact rdCount_err r he most hh
theorem rdText_all {most : Nat} (hm : most ≤ 1000000) (r : Rd) (hb : r.b.length ≤ 140737488355328) {h : Heap} {i : Nat} (hh : hget h i = some r.o) :
    callL E F.wire_Reader_Text [.ptr (some (i, 0)), .int .i64 most] h = some (bytesV (readText most r).1, hset h i (readText most r).2.o, .w (wsR r i)) := by
  by_cases he : r.err = 0
  · refine callL_of rfl fn_wire_Reader_Text ?_
    have hil := hget_lt hh
    have g1 := rdCount_all hm r hh
    rw [wsR_yes he] at g1 ⊢
    have hle := readCount_le most r
    unfold readText
    generalize hq : readCount most r = q at *
    obtain ⟨n, r1⟩ := q
    simp only at g1 hle ⊢
    have hh1 := hget_hset (q := Rd.o r1) hh
    have g2 := rdOk_eq _ hh1
    by_cases h0 : r1.err = 0
    · rw [decide_eq_true h0] at g2
      rw [if_pos h0]
      obtain ⟨b, e⟩ := r1
      simp only at h0 hle
      subst h0
      by_cases hc : b.length < n
      · rw [if_pos hc]
        have hc' : (b.length : Int) < (n : Int) := by omega
        have g3 := rdFail_eq _ 2 hh1
        rw [hset_hset] at g3
        have hh2 := hget_hset (q := Rd.o ⟨[], 2⟩) hh
        have g4 := rdOk_eq _ hh2
        simp only [show ((2 : Int) = 0) = False from by simp, decide_false] at g4
        unfold Rd.o Rd.c bytesV at *
        simp only [List.map_nil] at g3 g4 hh2 ⊢
        simp [-getElem?_pos, c_wire_Reader_Text, g1, g2, g3, g4, hh1, hil, hset_len, hc']
        done
      · rw [if_neg hc]
        have hc' : ¬ ((b.length : Int) < (n : Int)) := by omega
        have hcn : n ≤ b.length := by omega
        have g3 := clone_eq (b.take n) (by simp; omega) (hset h i (Rd.o ⟨b, 0⟩))
        have hsz : sizeOk 1 (b.map byteV) = true := sizeOk_bytes _
        have e2 : List.take n (b.map byteV) = (b.take n).map byteV := by rw [List.map_take]
        have e3 : List.drop n (b.map byteV) = (b.drop n).map byteV := by rw [List.map_drop]
        have e4 : (b.map byteV).length = b.length := by simp
        have e5 : List.take b.length (b.map byteV) = b.map byteV := List.take_of_length_le (by simp)
        unfold Rd.o Rd.c bytesV at *
        generalize (b.take n).map byteV = T at *
        generalize (b.drop n).map byteV = D at *
        generalize b.map byteV = q at *
        simp [-getElem?_pos, c_wire_Reader_Text, g1, g2, g3, hh1, hil, hset_len, hc', hcn, e2, e3, e4, e5, hsz]
        done
    · rw [decide_eq_false h0] at g2
      rw [if_neg h0]
      simp [-getElem?_pos, c_wire_Reader_Text, g1, g2, hil, hset_len, bytesV]
      done
  · have e : readNum r = (0, r) := numM_err he
    have e2 : readCount most r = (0, r) := by unfold readCount; rw [e]; simp only; rw [if_neg he]
    have e3 : readText most r = ([], r) := by unfold readText; rw [e2]; simp only; rw [if_neg he]
    rw [wsR_no he, e3, hset_same hh]
    refine callL_of rfl fn_wire_Reader_Text ?_
    have g1 := rdCount_err r he most hh
    have g2 := rdOk_eq _ hh
    rw [decide_eq_false he] at g2
    simp [-getElem?_pos, c_wire_Reader_Text, g1, g2, bytesV]
    done
end Go.Proofs.Ytfdhldbhbigfhaa.V
