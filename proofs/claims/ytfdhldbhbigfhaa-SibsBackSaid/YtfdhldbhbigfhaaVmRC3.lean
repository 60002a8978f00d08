/- What 'vector.Read' computes of any bytes. -/
import Derived.Test.YtfdhldbhbigfhaaVmRC2
import Derived.Test.YtfdhldbhbigfhaaVmKB1
set_option linter.unusedVariables false
set_option linter.unusedSimpArgs false
namespace Go.Proofs.Ytfdhldbhbigfhaa.V
open Go.Vm

theorem readInts_succ : ∀ (k : Nat) (r : Rd), readInts (k + 1) r = ((readInts k r).1 ++ [(readInt (readInts k r).2).1], (readInt (readInts k r).2).2)
  | 0, r => rfl
  | k + 1, r => by
    rw [readInts, readInts_succ k (readInt r).2]
    rfl
theorem readInts_at : ∀ (k j : Nat) (r : Rd), j < k → (readInts k r).1[j]? = some (readInt (readInts j r).2).1
  | 0, j, r, h => by omega
  | k + 1, 0, r, h => rfl
  | k + 1, j + 1, r, h => by
    rw [readInts, readInts]
    exact readInts_at k j (readInt r).2 (by omega)
theorem readNum_stick {r : Rd} (h : r.err ≠ 0) : readNum r = (0, r) := numM_err h
theorem readInt_stick {r : Rd} (h : r.err ≠ 0) : readInt r = (0, r) := by unfold readInt; rw [readNum_stick h]; simp [unzig]
theorem readFlag_stick {r : Rd} (h : r.err ≠ 0) : readFlag r = (false, r) := by unfold readFlag; rw [if_neg h]
theorem readCount_stick {most : Nat} {r : Rd} (h : r.err ≠ 0) : readCount most r = (0, r) := by unfold readCount; rw [readNum_stick h]; simp only; rw [if_neg h]
theorem readText_stick {most : Nat} {r : Rd} (h : r.err ≠ 0) : readText most r = ([], r) := by unfold readText; rw [readCount_stick h]; simp only; rw [if_neg h]
theorem readInts_stick : ∀ (k : Nat) {r : Rd}, r.err ≠ 0 → (readInts k r).2 = r
  | 0, _, _ => rfl
  | k + 1, r, h => by rw [readInts, readInt_stick h]; exact readInts_stick k h
def mR (r : Rd) (j : Nat) : List V := ((readInts 8 r).1.take j ++ (List.replicate 8 (0 : Int)).drop j).map (V.int .i64)
theorem mR_len (r : Rd) (j : Nat) (hj : j ≤ 8) : (mR r j).length = 8 := by
  have := readInts_len 8 r
  simp [mR, this]; omega
theorem mR_set (r : Rd) (j : Nat) (hj : j < 8) : (mR r j).set j (.int .i64 (readInt (readInts j r).2).1) = mR r (j + 1) := by
  have hl := readInts_len 8 r
  have hx := readInts_at 8 j r hj
  unfold mR
  rw [List.map_append, List.set_append_right _ _ (by simp; omega)]
  have h1 : (List.replicate 8 (0 : Int)).drop j = 0 :: (List.replicate 8 (0 : Int)).drop (j + 1) := by
    rw [List.drop_replicate, List.drop_replicate, show 8 - j = (8 - (j + 1)) + 1 by omega, List.replicate_succ]
  have h2 : j - (List.map (V.int IntKind.i64) ((readInts 8 r).1.take j)).length = 0 := by simp; omega
  rw [h1, h2, List.take_add_one, hx]
  simp
theorem mR_all (r : Rd) : mR r 8 = (readV8 r).c := by
  unfold mR
  rw [List.take_of_length_le (by rw [readInts_len]; omega), List.drop_of_length_le (by simp), List.append_nil]; rfl
theorem mR_0 (r : Rd) : mR r 0 = zeroVec.c := rfl
def wJ (r : Rd) (i j : Nat) : List Nat := if j = 0 then [] else wsR r i
theorem wJ_add (r : Rd) (i j : Nat) : addE (wJ r i j) (wsR (readInts j r).2 i) = wsR r i := by
  unfold wJ
  by_cases he : r.err = 0
  · by_cases hj : j = 0
    · subst hj; rw [if_pos rfl, nil_addE]; rfl
    · rw [if_neg hj, wsR_yes he, wsR_add]
  · rw [readInts_stick j he, wsR_no he]
    split <;> simp
def vS (r : Rd) (i : Nat) (h : Heap) (j : Nat) : St :=
  ⟨[(0, .ptr (some (i, 0))), (2, .ptr (some (h.length, 0))), (4, .ptr (some (h.length + 1, 0))), (6, .int .i64 j)], hset h i (readInts j r).2.o ++ [.cells zeroVec.c [], .cells (mR r j) []], .w (wJ r i j)⟩
theorem vRead_loop (r : Rd) {h : Heap} {i : Nat} (hh : hget h i = some r.o) :
    loopRun (callL E) loopL h.length [0, 2, 4, 6] c_vector_Read_l0 (vS r i h 0) =
      some (.exit 0, ⟨[(0, .ptr (some (i, 0))), (2, .ptr (some (h.length, 0))), (4, .ptr (some (h.length + 1, 0))), (6, .int .i64 8), (7, .bool false)], hset h i (readInts 8 r).2.o ++ [.cells zeroVec.c [], .cells (readV8 r).c []], .w (wsR r i)⟩) := by
  have hil := hget_lt hh
  refine loop_to (C := callL E) (fb := h.length) (live := [0, 2, 4, 6]) (c := c_vector_Read_l0) (vS r i h) 8 (fun j hj => ?_) ?_ rfl
  · have hlt : (j : Int) < 8 := by omega
    have h1 := i64_add1 (n := j) (by omega)
    unfold vS
    have hms := mR_set r j hj
    have hml := mR_len r j (by omega)
    have hwa := wJ_add r i j
    have hwl := wsR_lt (readInts j r).2 (i := i) (n := h.length) hil
    have hwj : wJ r i (j + 1) = wsR r i := by unfold wJ; rw [if_neg (by omega)]
    have hr : (readInts (j + 1) r).2 = (readInt (readInts j r).2).2 := by rw [readInts_succ]
    rw [hwj, ← hms, hr]
    have hk := hget_hset (q := (readInts j r).2.o) hh
    have hkl : (hset h i (readInts j r).2.o).length = h.length := hset_len _ _ _
    have hkk : hset h i (readInt (readInts j r).2).2.o = hset (hset h i (readInts j r).2.o) i (readInt (readInts j r).2).2.o := by rw [hset_hset]
    rw [hkk]
    generalize hset h i (readInts j r).2.o = K at *
    have g1 := rdInt_all (readInts j r).2 (h := K ++ [.cells zeroVec.c [], .cells (mR r j) []]) (i := i) (by rw [hget_app (by omega)]; exact hk)
    rw [hset_app (by omega)] at g1
    generalize mR r j = mm at *
    generalize wsR (readInts j r).2 i = w1 at *
    generalize wsR r i = w2 at *
    generalize wJ r i j = w0 at *
    generalize readInt (readInts j r).2 = q at *
    obtain ⟨n, r'⟩ := q
    simp only at g1 ⊢
    have hiK : i < K.length := by omega
    have hiK2 : i < K.length + 2 := by omega
    have htk : ∀ a b, List.take (K.length + 2) (hset K i r'.o ++ [a, b]) = hset K i r'.o ++ [a, b] := fun a b => List.take_of_length_le (by simp)
    rw [← hkl] at hwl ⊢
    rw [s_round]
    simp [-getElem?_pos, c_vector_Read_l0, g1, h1, hlt, hj, hset_len, hiK, hiK2, htk, hml, hwl, hwa]
    done
  · unfold vS
    rw [s_round, mR_all]
    have hwj : wJ r i 8 = wsR r i := rfl
    rw [hwj]
    simp [c_vector_Read_l0]
theorem vecGood_eq (r : Rd) (hk : r.Ok) {h : Heap} {i : Nat} (hh : hget h i = some r.o) : callL E F.vector_good [.ptr (some (i, 0))] h = some (.bool (decide (r.err = 0)), h, .no) := by
  refine callL_of rfl fn_vector_good ?_
  have g1 := rdEnd_eq r hh
  have g2 := rdLeft_eq r hh
  unfold Rd.fin at g1
  by_cases e1 : r.err = 0
  · by_cases e2 : 0 < r.b.length
    · rw [if_pos ⟨e1, e2⟩] at g1
      have e3 : ((3 : Int) == 0) = false := rfl
      have e4 : (0 : Int) < (r.b.length : Int) := by omega
      simp [-getElem?_pos, c_vector_good, g1, g2, e1, e2, e3, e4]
    · rw [if_neg (fun hc => e2 hc.2), e1] at g1
      simp [-getElem?_pos, c_vector_good, g1, g2, e1]
  · rw [if_neg (fun hc => e1 hc.1)] at g1
    have e0 : (r.err == 0) = false := by simpa using e1
    have e2 := hk e1
    rw [e2] at g2
    simp [-getElem?_pos, c_vector_good, g1, g2, e1, e0]
theorem vecRead_all (r : Rd) (hok : r.Ok) {h : Heap} {i : Nat} (hh : hget h i = some r.o) :
    callL E F.vector_Read [.ptr (some (i, 0))] h = some (.tup [(readVec r).1.v, .bool (readVec r).2.1], hset h i (readVec r).2.2.o, .w (wsR r i)) := by
  refine callL_of rfl fn_vector_Read ?_
  have hil := hget_lt hh
  have key := vRead_loop r hh
  have h0 : vS r i h 0 = ⟨[(0, .ptr (some (i, 0))), (2, .ptr (some (h.length, 0))), (4, .ptr (some (h.length + 1, 0))), (6, .int .i64 0)], h ++ [.cells zeroVec.c [], .cells zeroVec.c []], .no⟩ := by
    unfold vS
    rw [mR_0]
    have : (readInts 0 r).2 = r := rfl
    rw [this, hset_same hh]
    rfl
  rw [h0] at key
  have hq : (readVec r).2.2 = (readInts 8 r).2 := by unfold readVec; cases (decide ((readInts 8 r).2.err = 0) && (readV8 r).may) <;> rfl
  rw [hq]
  have hk8 := readInts_ok 8 hok
  have hwl := wsR_lt r hil
  have hk := hget_hset (q := (readInts 8 r).2.o) hh
  have hkl : (hset h i (readInts 8 r).2.o).length = h.length := hset_len _ _ _
  generalize hset h i (readInts 8 r).2.o = K at *
  have hk' : hget (K ++ [.cells zeroVec.c [], .cells (readV8 r).c []]) i = some (readInts 8 r).2.o := by rw [hget_app (by omega)]; exact hk
  have g1 := vecGood_eq _ hk8 hk'
  have g2 := vecMay_eq (readV8 r) (K ++ [.cells zeroVec.c [], .cells (readV8 r).c []])
  have hzc : zeroVec.c = [.int .i64 0, .int .i64 0, .int .i64 0, .int .i64 0, .int .i64 0, .int .i64 0, .int .i64 0, .int .i64 0] := rfl
  have hiK : i < K.length := by omega
  rw [hzc] at key g1 g2
  simp only [Vec.v] at g2
  rw [← hkl] at key hwl
  unfold readVec
  generalize wsR r i = ws at *
  cases he : decide ((readInts 8 r).2.err = 0) with
  | false =>
    rw [he] at g1
    simp [-getElem?_pos, c_vector_Read, ← hkl, key, g1, hiK, Vec.v, hzc, hwl]
  | true =>
    rw [he] at g1
    cases hm : (readV8 r).may <;> rw [hm] at g2 <;> simp [-getElem?_pos, c_vector_Read, ← hkl, key, g1, g2, hiK, Vec.v, hzc, hwl]
end Go.Proofs.Ytfdhldbhbigfhaa.V
